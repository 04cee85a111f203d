/- Whether operations are few; what may be told of nodes of few operations: told without addresses. No claim of its own. -/
import Derived.Test.YtipgfdepopfghaaGreatAFold2
import Derived.Test.YtipgfdepopfghaaGreatForestPl
namespace Gw.Op
def fewL (l : List Op) : Bool := l.all fun o => decide (o.name.length ≤ 1000) && decide (o.data.length ≤ 1000)
end Gw.Op
namespace Go.Proofs.YtipgfdepopfghaaGreat
open Go.Am

theorem few05_pc (nil : Bool) (l : List Gw.Op.Op) (most : Int) (hl : l.length ≤ 9223372036854775807) : PC Tryz.prog 20 [.lst nil 7 (encOs l) .none, .int .i64 most] (.bool (Gw.Op.fewL l && decide ((l.length : Int) ≤ most))) := by
  have hal := encOs_len l
  unfold Gw.Op.fewL
  refine PC.of tabOk mixed (fn := Tryz.f20) (by kernel_rfl) rfl (by kernel_rfl) rfl rfl ?_
  conv => whnf
  refine AW.loop (fun k : Nat => [(.tmp 0, .v (.lst nil 7 (encOs l) .none)), (.tmp 1, .v (.int .i64 most)), (.tmp 5, .v (.int .i64 k))]) 0
    (fun k => k ≤ l.length ∧ (l.take k).all (fun o => decide (o.name.length ≤ 1000) && decide (o.data.length ≤ 1000)) = true) (fun k => l.length - k) (by decide) 0 ⟨Nat.zero_le _, rfl⟩ ⟨rfl, rfl, rfl, rfl, rfl, rfl, trivial⟩ ?_
  rintro k ⟨hk, hall⟩
  refine ev_sound tabOk mixed _ _ _ _ ?_
  conv => whnf
  refine ⟨fun h => ?_, fun h => ?_⟩
  · have h := of_decide_eq_true h
    rw [hal] at h
    have hlt : k < l.length := by omega
    have hel := encOs_get hlt
    unfold cellsO at hel
    have hno : (decide (l[k].name.length ≤ 1000) && decide (l[k].data.length ≤ 1000)) = false → l.all (fun o => decide (o.name.length ≤ 1000) && decide (o.data.length ≤ 1000)) = false := fun h => by
      rw [List.all_eq_false]; exact ⟨_, List.getElem_mem hlt, by rw [h]; simp⟩
    have htk : l.take (k + 1) = l.take k ++ [l[k]] := List.take_succ_eq_append_getElem hlt
    conv => whnf
    refine ⟨_, ⟨by omega, hel⟩, ?_⟩
    conv => whnf
    refine ⟨fun h2 => ?_, fun h2 => ?_⟩
    · have h2 := of_decide_eq_true h2
      conv => whnf
      rw [hno (by rw [decide_eq_false (by omega)]; rfl)]; rfl
    have h2 := of_decide_eq_false h2
    conv => whnf
    refine ⟨_, ⟨by omega, hel⟩, ?_⟩
    conv => whnf
    refine ⟨fun h3 => ?_, fun h3 => ?_⟩
    · have h3 := of_decide_eq_true h3
      conv => whnf
      rw [hno (by rw [Bool.and_comm, decide_eq_false (by omega)]; rfl)]; rfl
    have h3 := of_decide_eq_false h3
    conv => whnf
    refine ⟨k + 1, ⟨by omega, ?_⟩, by show _ - (k + 1) < _ - k; omega, rfl, rfl, rfl, rfl, ?_, rfl, trivial⟩
    · rw [htk, List.all_append, hall]
      simp; omega
    · show C.v (V.int .i64 (IntKind.i64.wrap ((k : Int) + 1))) = _
      rw [w64 (by omega) (by omega)]; rfl
  · have h := of_decide_eq_false h
    rw [hal] at h
    obtain rfl : k = l.length := by omega
    rw [List.take_length] at hall
    rw [hall, Bool.true_and]
    conv => whnf
    rw [hal]
/-- Nodes that may be of few operations. -/
structure Grove (l : List Gw.Tree.Node) : Prop where
  check : Gw.Tree.check l = true
  ok : ∀ n ∈ l, Gw.Tree.NodeOk n
  ids : ∀ n ∈ l, I64 n.id
  len : l.length ≤ 60
  first : Gw.Tree.find l 0 = none
theorem few_fine05 {l : List Gw.Op.Op} (h : Gw.Op.fewL l = true) (hi : ∀ o ∈ l, I64 o.node ∧ I64 o.parent) : (∀ o ∈ l, Fine o) ∧ ∀ o ∈ l, o.name.length ≤ 1000 := by
  unfold Gw.Op.fewL at h
  have h := List.all_eq_true.1 h
  refine ⟨fun o ho => ?_, fun o ho => ?_⟩
  · have := h o ho
    simp only [Bool.and_eq_true, decide_eq_true_eq] at this
    exact ⟨(hi o ho).1, (hi o ho).2, by omega, by omega⟩
  · have := h o ho
    simp only [Bool.and_eq_true, decide_eq_true_eq] at this
    exact this.1
theorem ok_pos {id : Int} (h : Gw.Stamp.ok id = true) : 128 ≤ id := by
  unfold Gw.Stamp.ok at h
  simp only [Bool.and_eq_true, decide_eq_true_eq] at h
  exact h.1
theorem grove_of {l s : List Gw.Op.Op} (hf : ∀ o ∈ l, Fine o) (hn : ∀ o ∈ l, o.name.length ≤ 1000) (hl : l.length ≤ 60) (hs : ∀ o ∈ s, o ∈ l ∧ Gw.Op.check o = true) (hsl : s.length ≤ l.length) : Grove (foldN s) := by
  obtain ⟨f1, f2⟩ := foldN_fine s fun o ho => (hf o (hs o ho).1).node
  obtain ⟨g1, g2⟩ := Gw.Tree.fold_good s [] (fun o ho => hn o (hs o ho).1) rfl (fun n h => by cases h)
  refine ⟨g1, g2, f1, by omega, ?_⟩
  cases hfd : Gw.Tree.find (foldN s) 0 with
  | none => rfl
  | some n =>
    obtain ⟨h1, h2, _⟩ := Gw.Tree.find_some hfd
    have := ok_pos (((Gw.Tree.check_iff _).1 g1).1 n h1)
    omega
theorem Grove.above0 {l : List Gw.Tree.Node} (h : Grove l) : Gw.Tree.above l 0 = [] := by
  unfold Gw.Tree.above
  rw [h.check, if_pos rfl]
  cases l with
  | nil => rfl
  | cons n l => rw [List.length_cons, Gw.Tree.climb, h.first]
theorem Grove.items0 {l : List Gw.Tree.Node} (h : Grove l) : Gw.View.items l 0 = Gw.View.belowF l [0] l.length 0 [] := by
  unfold Gw.View.items Gw.View.outsOf
  rw [h.check, if_pos rfl, h.above0]
end Go.Proofs.YtipgfdepopfghaaGreat
