/- What op.Read, and Same and Few of the document's answer, compute: told without addresses. No claim of its own. -/
import Derived.Test.YtjfnelgmagmgoaaAOp2
import Derived.Test.YtjfnelgmagmgoaaOpReadFn
namespace Go.Proofs.Ytjfnelgmagmgoaa
open Go.Am

def cellsO (o : Gw.Op.Op) : List V := [.int .i64 o.at_.c, .int .i64 o.at_.r, .int .i64 o.kind, .int .i64 o.node, .int .i64 o.parent, .str o.name, .str o.data]
def encOs (l : List Gw.Op.Op) : List (List V) := l.map cellsO
theorem encOs_get {l : List Gw.Op.Op} {k : Nat} (hk : k < l.length) : (encOs l)[k]? = some (cellsO l[k]) := by unfold encOs; rw [List.getElem?_map, List.getElem?_eq_getElem hk]; rfl
theorem encOs_len (l : List Gw.Op.Op) : (encOs l).length = l.length := by simp [encOs]
def readV (x : Option (List Gw.Op.Op)) : V := match x with
  | none => .tup [.lst true 7 [] .none, .int .i64 50]
  | some l => .tup [.lst (decide (l = [])) 7 (encOs l) .none, .int .i64 0]

theorem read_pc (b : List UInt8) (hb : b.length ≤ 1048576) : PC Try.prog 17 [.str b] (readV (Gw.Op.read b)) := by
  refine PC.ofS tabOk mixed (fn := Try.f17) (by kernel_rfl) rfl (by kernel_rfl) rfl rfl ?_
  conv => whnf
  refine AW.row 4 25 7 rfl rfl (.inr rfl) ?_
  refine AW.loop (X := List UInt8 × List Gw.Op.Op) (fun x => [(.tmp 0, .v (.str x.1)), (.tmp 4, .v (.lst (decide (x.2 = [])) 7 (encOs x.2) (.row 3))), (.row 3, .row 25 7 x.2.length)]) 4
    (fun x => x.1.length + x.2.length ≤ 1048576 ∧ ∃ f, x.1.length < f ∧ Gw.Op.read b = Gw.Op.readF f x.1 x.2) (fun x => x.1.length) (by decide) (b, []) ⟨by simpa using hb, b.length + 1, Nat.lt_succ_self _, rfl⟩ ⟨rfl, rfl, rfl, rfl, rfl, rfl, trivial⟩ ?_
  rintro ⟨rest, acc⟩ ⟨h1, f, hf, hr⟩
  simp only at h1 hf hr
  have htk := opTake_pc rest (by omega)
  have hal := encOs_len acc
  refine ev_sound tabOk mixed _ _ _ _ ?_
  conv => whnf
  refine ⟨fun h => ?_, fun h => ?_⟩
  · have h : rest ≠ [] := by
      have h : (!decide (rest = [])) = true := h
      simpa using h
    obtain ⟨f, rfl⟩ : ∃ g, f = g + 1 := ⟨f - 1, by omega⟩
    rw [Gw.Op.readF, if_neg h] at hr
    conv => whnf
    cases ht : Gw.Op.take rest with
    | none =>
      rw [ht] at htk hr
      simp only at hr
      rw [hr]
      refine AC.of_pc htk rfl ?_
      conv => whnf
      refine ⟨fun _ => ?_, fun h => absurd h (by decide)⟩
      conv => whnf
      exact SubV.tup (.cons (.nil _ _ _) (.cons (.of_eq rfl) .nil))
    | some oq =>
      obtain ⟨o, q⟩ := oq
      have hlen := Gw.Op.take_len ht
      rw [ht] at htk hr
      simp only at hr
      refine AC.of_pc htk rfl ?_
      conv => whnf
      refine ⟨fun h => absurd h (by decide), fun _ => ?_⟩
      conv => whnf
      refine ⟨⟨hal.symm, fits_small (by show (encOs acc).length + 1 ≤ _; omega) (by decide)⟩, ?_⟩
      conv => whnf
      refine ⟨(q, acc ++ [o]), ⟨by show q.length + (acc ++ [o]).length ≤ _; rw [List.length_append, List.length_singleton]; omega, f, by show q.length < f; omega, hr⟩, hlen, rfl, rfl, ?_, rfl, ?_, rfl, trivial⟩
      · show C.v (V.lst (decide (acc = []) && false) 7 (encOs acc ++ [cellsO o]) _) = C.v (V.lst (decide (acc ++ [o] = [])) 7 (encOs (acc ++ [o])) _)
        rw [Bool.and_false, decide_eq_false (by simp), encOs, encOs, List.map_append]
        rfl
      · show C.row _ 7 ((encOs acc).length + 1) = C.row _ 7 (acc ++ [o]).length
        rw [hal, List.length_append]
        rfl
  · have h : rest = [] := by
      have h : (!decide (rest = [])) = false := h
      simpa using h
    have e : Gw.Op.readF f rest acc = some acc := by
      cases f with
      | zero => rfl
      | succ f => rw [Gw.Op.readF, if_pos h]
    rw [e] at hr
    rw [hr]
    conv => whnf
    exact SubV.refl _

theorem opSame_pc (na nb : Bool) (l : List Gw.Op.Op) (hl : l.length ≤ 1048576) : PC Try.prog 23 [.lst na 7 (encOs l) .none, .lst nb 7 (encOs l) .none] (.bool true) := by
  have hal := encOs_len l
  refine PC.of tabOk mixed (fn := Try.f23) (by kernel_rfl) rfl (by kernel_rfl) rfl rfl ?_
  conv => whnf
  refine ⟨fun h => absurd h (by simp), fun _ => ?_⟩
  conv => whnf
  refine AW.loop (fun k : Nat => [(.tmp 0, .v (.lst na 7 (encOs l) .none)), (.tmp 1, .v (.lst nb 7 (encOs l) .none)), (.tmp 5, .v (.int .i64 k))]) 0 (fun k => k ≤ l.length) (fun k => l.length - k) (by decide) 0 (Nat.zero_le _) ⟨rfl, rfl, rfl, rfl, rfl, rfl, trivial⟩ ?_
  rintro k hk
  refine ev_sound tabOk mixed _ _ _ _ ?_
  conv => whnf
  refine ⟨fun h => ?_, fun h => ?_⟩
  · have h := of_decide_eq_true h
    rw [hal] at h
    have hlt : k < l.length := by omega
    have hel := encOs_get hlt
    unfold cellsO at hel
    conv => whnf
    refine ⟨_, ⟨by omega, hel⟩, ?_⟩
    conv => whnf
    refine ⟨_, ⟨by omega, hel⟩, ?_⟩
    conv => whnf
    refine ⟨by kernel_rfl, ?_⟩
    conv => whnf
    refine ⟨by kernel_rfl, ?_⟩
    conv => whnf
    refine ⟨fun h => absurd h (by simp), fun _ => ?_⟩
    conv => whnf
    refine ⟨k + 1, by show k + 1 ≤ _; omega, by show _ - (k + 1) < _ - k; omega, rfl, rfl, rfl, rfl, ?_, rfl, trivial⟩
    show C.v (V.int .i64 (IntKind.i64.wrap ((k : Int) + 1))) = _
    rw [w64 (by omega) (by omega)]; rfl
  · conv => whnf

theorem few_pc (nil : Bool) (l : List Gw.Op.Op) (most : Int) (hl : l.length ≤ 9223372036854775807) : PC Try.prog 10 [.lst nil 7 (encOs l) .none, .int .i64 most] (.bool (Gw.Op.fewL l && decide ((l.length : Int) ≤ most))) := by
  have hal := encOs_len l
  unfold Gw.Op.fewL
  refine PC.of tabOk mixed (fn := Try.f10) (by kernel_rfl) rfl (by kernel_rfl) rfl rfl ?_
  conv => whnf
  refine AW.loop (fun k : Nat => [(.tmp 0, .v (.lst nil 7 (encOs l) .none)), (.tmp 1, .v (.int .i64 most)), (.tmp 5, .v (.int .i64 k))]) 0
    (fun k => k ≤ l.length ∧ (l.take k).all (fun o => decide (o.name.length ≤ 1000) && decide (o.data.length ≤ 1000)) = true) (fun k => l.length - k) (by decide) 0 ⟨Nat.zero_le _, rfl⟩ ⟨rfl, rfl, rfl, rfl, rfl, rfl, trivial⟩ ?_
  rintro k ⟨hk, hall⟩
  refine ev_sound tabOk mixed _ _ _ _ ?_
  conv => whnf
  refine ⟨fun h => ?_, fun h => ?_⟩
  · have h := of_decide_eq_true h
    rw [hal] at h
    have hlt : k < l.length := by omega
    have hel := encOs_get hlt
    unfold cellsO at hel
    have hno : (decide (l[k].name.length ≤ 1000) && decide (l[k].data.length ≤ 1000)) = false → l.all (fun o => decide (o.name.length ≤ 1000) && decide (o.data.length ≤ 1000)) = false := fun h => by
      rw [List.all_eq_false]; exact ⟨_, List.getElem_mem hlt, by rw [h]; simp⟩
    have htk : l.take (k + 1) = l.take k ++ [l[k]] := List.take_succ_eq_append_getElem hlt
    conv => whnf
    refine ⟨_, ⟨by omega, hel⟩, ?_⟩
    conv => whnf
    refine ⟨fun h2 => ?_, fun h2 => ?_⟩
    · have h2 := of_decide_eq_true h2
      conv => whnf
      rw [hno (by rw [decide_eq_false (by omega)]; rfl)]; rfl
    have h2 := of_decide_eq_false h2
    conv => whnf
    refine ⟨_, ⟨by omega, hel⟩, ?_⟩
    conv => whnf
    refine ⟨fun h3 => ?_, fun h3 => ?_⟩
    · have h3 := of_decide_eq_true h3
      conv => whnf
      rw [hno (by rw [Bool.and_comm, decide_eq_false (by omega)]; rfl)]; rfl
    have h3 := of_decide_eq_false h3
    conv => whnf
    refine ⟨k + 1, ⟨by omega, ?_⟩, by show _ - (k + 1) < _ - k; omega, rfl, rfl, rfl, rfl, ?_, rfl, trivial⟩
    · rw [htk, List.all_append, hall]
      simp; omega
    · show C.v (V.int .i64 (IntKind.i64.wrap ((k : Int) + 1))) = _
      rw [w64 (by omega) (by omega)]; rfl
  · have h := of_decide_eq_false h
    rw [hal] at h
    obtain rfl : k = l.length := by omega
    rw [List.take_length] at hall
    rw [hall, Bool.true_and]
    conv => whnf
    rw [hal]
end Go.Proofs.Ytjfnelgmagmgoaa
