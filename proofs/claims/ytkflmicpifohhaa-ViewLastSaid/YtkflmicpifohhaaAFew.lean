/- Few nodes, and names; items that are the same: told without addresses. No claim of its own. -/
import Derived.Test.YtkflmicpifohhaaABelow
namespace Go.Proofs.Ytkflmicpifohhaa
open Go.Am

def shortN (n : Gw.Tree.Node) : Bool := decide (n.name.length ≤ 1000) && decide (n.data.length ≤ 1000)
def fewN (l : List Gw.Tree.Node) (most : Nat) : Bool := l.all shortN && decide (l.length ≤ most)
theorem fewN_spec {l : List Gw.Tree.Node} {most : Nat} (h : fewN l most = true) : l.length ≤ most ∧ ∀ n ∈ l, n.name.length ≤ 1000 ∧ n.data.length ≤ 1000 := by
  unfold fewN at h
  simp only [Bool.and_eq_true, decide_eq_true_eq] at h
  refine ⟨h.2, fun n hn => ?_⟩
  have := List.all_eq_true.1 h.1 n hn
  unfold shortN at this
  simpa using this
theorem fewN_pc (nil : Bool) (l : List Gw.Tree.Node) (most : Nat) (hl : l.length ≤ 9223372036854775807) : PC Try.prog 22 [.lst nil 8 (encN l) .none, .int .i64 most] (.bool (fewN l most)) := by
  have hel := encN_len l
  refine PC.of tabOk mixed (fn := Try.f22) (by kernel_rfl) rfl (by kernel_rfl) rfl rfl ?_
  conv => whnf
  refine AW.loop (fun k : Nat => [(.tmp 0, .v (.lst nil 8 (encN l) .none)), (.tmp 1, .v (.int .i64 most)), (.tmp 5, .v (.int .i64 k))]) 0
    (fun k => k ≤ l.length ∧ (l.take k).all shortN = true) (fun k => l.length - k) (by decide) 0 ⟨Nat.zero_le _, rfl⟩ ⟨rfl, rfl, rfl, rfl, rfl, rfl, trivial⟩ ?_
  rintro k ⟨hk, hall⟩
  refine ev_sound tabOk mixed _ _ _ _ ?_
  conv => whnf
  rw [hel]
  refine ⟨fun h => ?_, fun h => ?_⟩
  · have h := of_decide_eq_true h
    have hlt : k < l.length := by omega
    have hg := encN_get hlt
    have hbad : shortN l[k] = false → fewN l most = false := fun hs => by
      unfold fewN
      have : l.all shortN = false := by
        rw [Bool.eq_false_iff]; intro h2
        rw [List.all_eq_true.1 h2 _ (List.getElem_mem hlt)] at hs; cases hs
      rw [this, Bool.false_and]
    have hstep : shortN l[k] = true → (l.take (k + 1)).all shortN = true := fun hs => by
      rw [List.take_succ_eq_append_getElem hlt, List.all_append, hall]
      simp [hs]
    generalize l[k] = nd at *
    conv => whnf
    refine ⟨_, ⟨by omega, hg⟩, ?_⟩
    conv => whnf
    refine ⟨fun h => ?_, fun h => ?_⟩
    · have h := of_decide_eq_true h
      rw [hbad (by unfold shortN; rw [decide_eq_false (by omega), Bool.false_and])]
      conv => whnf
    · have h := of_decide_eq_false h
      conv => whnf
      refine ⟨_, ⟨by omega, hg⟩, ?_⟩
      conv => whnf
      refine ⟨fun h2 => ?_, fun h2 => ?_⟩
      · have h2 := of_decide_eq_true h2
        rw [hbad (by unfold shortN; rw [decide_eq_false (p := nd.data.length ≤ 1000) (by omega), Bool.and_false])]
        conv => whnf
      · have h2 := of_decide_eq_false h2
        conv => whnf
        refine ⟨k + 1, ⟨by omega, hstep (by unfold shortN; rw [decide_eq_true (by omega), decide_eq_true (by omega)]; rfl)⟩, by show l.length - (k + 1) < l.length - k; omega, rfl, rfl, rfl, rfl, ?_, rfl, trivial⟩
        show C.v (V.int .i64 (IntKind.i64.wrap ((k : Int) + 1))) = _
        rw [w64 (by omega) (by omega)]; rfl
  · have h := of_decide_eq_false h
    obtain rfl : k = l.length := by omega
    rw [List.take_length] at hall
    unfold fewN
    rw [hall, Bool.true_and]
    conv => whnf
    rw [hel]
    congr 1
    rw [Bool.eq_iff_iff, decide_eq_true_eq, decide_eq_true_eq]
    omega
theorem encIt_get {l : List Gw.View.Item} {k : Nat} (h : k < l.length) : (encIt l)[k]? = some (cellsI l[k]) := by unfold encIt; rw [List.getElem?_map, List.getElem?_eq_getElem h]; rfl
theorem sameI_pc (n1 n2 : Bool) (l : List Gw.View.Item) (hl : l.length ≤ 1048576) : PC Try.prog 13 [.lst n1 3 (encIt l) .none, .lst n2 3 (encIt l) .none] (.bool true) := by
  have hel := encIt_len l
  refine PC.of tabOk mixed (fn := Try.f13) (by kernel_rfl) rfl (by kernel_rfl) rfl rfl ?_
  conv => whnf
  rw [hel]
  refine ⟨fun h => absurd h (by simp), fun _ => ?_⟩
  conv => whnf
  refine AW.loop (fun k : Nat => [(.tmp 0, .v (.lst n1 3 (encIt l) .none)), (.tmp 1, .v (.lst n2 3 (encIt l) .none)), (.tmp 5, .v (.int .i64 k))]) 0
    (fun k => k ≤ l.length) (fun k => l.length - k) (by decide) 0 (Nat.zero_le _) ⟨rfl, rfl, rfl, rfl, rfl, rfl, trivial⟩ ?_
  rintro k hk
  refine ev_sound tabOk mixed _ _ _ _ ?_
  conv => whnf
  rw [hel]
  refine ⟨fun h => ?_, fun h => ?_⟩
  · have h := of_decide_eq_true h
    have hlt : k < l.length := by omega
    have hg := encIt_get hlt
    conv => whnf
    refine ⟨_, ⟨by omega, hg⟩, ?_⟩
    conv => whnf
    refine ⟨_, ⟨by omega, hg⟩, ?_⟩
    generalize l[k] = it at *
    conv => whnf
    refine ⟨by kernel_rfl, ?_⟩
    conv => whnf
    refine ⟨by kernel_rfl, ?_⟩
    conv => whnf
    refine ⟨fun h => absurd h (by simp), fun _ => ?_⟩
    conv => whnf
    refine ⟨k + 1, hlt, by show l.length - (k + 1) < l.length - k; omega, rfl, rfl, rfl, rfl, ?_, rfl, trivial⟩
    show C.v (V.int .i64 (IntKind.i64.wrap ((k : Int) + 1))) = _
    rw [w64 (by omega) (by omega)]; rfl
  · conv => whnf
/-- Names of a thousand bytes, at most a hundred. -/
def fewT (l : List (List UInt8)) : Bool := l.all fun s => decide (s.length ≤ 1000)
theorem few_pc (n1 n2 : Bool) (l : List Gw.Tree.Node) (names : List (List UInt8)) (hl : l.length ≤ 9223372036854775807) (hn : names.length ≤ 9223372036854775807) :
    PC Try.prog 15 [.lst n1 8 (encN l) .none, .lst n2 1 (encS1 names) .none] (.bool (fewT names && (fewN l 100 && decide (names.length ≤ 100)))) := by
  have hel := encS1_len names
  have hfn := fewN_pc n1 l 100 hl
  refine PC.of tabOk mixed (fn := Try.f15) (by kernel_rfl) rfl (by kernel_rfl) rfl rfl ?_
  conv => whnf
  refine AW.loop (fun k : Nat => [(.tmp 0, .v (.lst n1 8 (encN l) .none)), (.tmp 1, .v (.lst n2 1 (encS1 names) .none)), (.tmp 5, .v (.int .i64 k))]) 0
    (fun k => k ≤ names.length ∧ fewT (names.take k) = true) (fun k => names.length - k) (by decide) 0 ⟨Nat.zero_le _, rfl⟩ ⟨rfl, rfl, rfl, rfl, rfl, rfl, trivial⟩ ?_
  rintro k ⟨hk, hall⟩
  refine ev_sound tabOk mixed _ _ _ _ ?_
  conv => whnf
  rw [hel]
  refine ⟨fun h => ?_, fun h => ?_⟩
  · have h := of_decide_eq_true h
    have hlt : k < names.length := by omega
    have hg := encS1_get hlt
    have hbad : ¬ names[k].length ≤ 1000 → fewT names = false := fun hs => by
      unfold fewT
      rw [Bool.eq_false_iff]; intro h2
      exact hs (of_decide_eq_true (List.all_eq_true.1 h2 _ (List.getElem_mem hlt)))
    have hstep : names[k].length ≤ 1000 → fewT (names.take (k + 1)) = true := fun hs => by
      unfold fewT at *
      rw [List.take_succ_eq_append_getElem hlt, List.all_append, hall]
      simp [hs]
    generalize names[k] = s at *
    conv => whnf
    refine ⟨_, ⟨by omega, hg⟩, ?_⟩
    conv => whnf
    refine ⟨fun h => ?_, fun h => ?_⟩
    · have h := of_decide_eq_true h
      rw [hbad (by omega), Bool.false_and]
      conv => whnf
    · have h := of_decide_eq_false h
      conv => whnf
      refine ⟨k + 1, ⟨by omega, hstep (by omega)⟩, by show names.length - (k + 1) < names.length - k; omega, rfl, rfl, rfl, rfl, ?_, rfl, trivial⟩
      show C.v (V.int .i64 (IntKind.i64.wrap ((k : Int) + 1))) = _
      rw [w64 (by omega) (by omega)]; rfl
  · have h := of_decide_eq_false h
    obtain rfl : k = names.length := by omega
    rw [List.take_length] at hall
    rw [hall, Bool.true_and]
    conv => whnf
    refine AC.of_pc hfn rfl ?_
    cases fewN l 100 with
    | false =>
      conv => whnf
      repeat (first | refine ⟨fun _ => ?_, fun h => absurd h (by decide)⟩ | refine ⟨fun h => absurd h (by decide), fun _ => ?_⟩ | refine ⟨fun _ => ?_, fun h => absurd (show true = false from h) (by decide)⟩ | refine ⟨fun h => absurd (show false = true from h) (by decide), fun _ => ?_⟩
              (conv => whnf))
      rfl
    | true =>
      conv => whnf
      repeat (first | refine ⟨fun _ => ?_, fun h => absurd h (by decide)⟩ | refine ⟨fun h => absurd h (by decide), fun _ => ?_⟩ | refine ⟨fun _ => ?_, fun h => absurd (show true = false from h) (by decide)⟩ | refine ⟨fun h => absurd (show false = true from h) (by decide), fun _ => ?_⟩
              (conv => whnf))
      rw [hel]
      congr 1
      rw [Bool.eq_iff_iff, Bool.true_and, decide_eq_true_eq, decide_eq_true_eq]
      omega
end Go.Proofs.Ytkflmicpifohhaa
