/- What the document's answer for op's Write, Read and Less computes; and OpTells: told without addresses. No claim of its own. -/
import Derived.Test.YtjfnelgmagmgoaaAROp2
import Derived.Test.YtjfnelgmagmgoaaAOp9
namespace Go.Proofs.Ytjfnelgmagmgoaa
open Go.Am

theorem ropLess_pc (a b : Gw.Op.Op) : PC Try.prog 22 [encO a, encO b] (.bool (Gw.Stamp.less a.at_ b.at_)) := by
  have h := rless_pc a.at_ b.at_
  refine PC.of tabOk mixed (fn := Try.f22) (by kernel_rfl) rfl (by kernel_rfl) rfl rfl ?_
  conv => whnf
  refine AC.of_pc h rfl ?_
  conv => whnf

theorem rwrite_pc (nil : Bool) (l : List Gw.Op.Op) (hf : ∀ o ∈ l, Fine o) (hl : l.length ≤ 1048576) :
    PC Try.prog 16 [.lst nil 7 (encOs l) .none] (.tup [.str (if l.all Gw.Op.check = true then outB l else []), .int .i64 (if l.all Gw.Op.check = true then 0 else 50)]) := by
  have hal := encOs_len l
  have hb := out_bound l hl
  refine PC.of tabOk mixed (fn := Try.f16) (by kernel_rfl) rfl (by kernel_rfl) rfl rfl ?_
  conv => whnf
  refine AW.loop (fun k : Nat => [(.tmp 0, .v (.lst nil 7 (encOs l) .none)), (.tmp 4, .v (.str (outB (l.take k)))), (.tmp 5, .v (.int .i64 k))])
    0 (fun k => k ≤ l.length ∧ (l.take k).all Gw.Op.check = true) (fun k => l.length - k) (by decide) 0 ⟨Nat.zero_le _, rfl⟩ ⟨rfl, rfl, rfl, rfl, rfl, rfl, trivial⟩ ?_
  rintro k ⟨hk, hall⟩
  have hbk := hb k hk hall
  refine ev_sound tabOk mixed _ _ _ _ ?_
  conv => whnf
  refine ⟨fun h => ?_, fun h => ?_⟩
  · have h := of_decide_eq_true h
    have hlt : k < l.length := by omega
    have hel := encOs_get hlt
    have hfo := hf l[k] (List.getElem_mem hlt)
    have hput := rput_pc (outB (l.take k)) l[k] hfo hbk
    have hno : Gw.Op.check l[k] = false → ¬ (l.all Gw.Op.check = true) := fun h2 h3 => by
      rw [List.all_eq_true.1 h3 _ (List.getElem_mem hlt)] at h2; cases h2
    have hsu := outB_succ hlt
    have htk : l.take (k + 1) = l.take k ++ [l[k]] := List.take_succ_eq_append_getElem hlt
    unfold cellsO at hel
    unfold encO at hput
    conv => whnf
    refine ⟨_, ⟨by omega, hel⟩, ?_⟩
    conv => whnf
    cases hck : Gw.Op.check l[k] with
    | false =>
      have e1 : Gw.Op.put (outB (l.take k)) l[k] = [] := by unfold Gw.Op.put; rw [hck]; rfl
      have e2 : Gw.Op.putErr l[k] = 50 := by unfold Gw.Op.putErr; rw [hck]; rfl
      rw [e1, e2] at hput
      refine AC.of_pc hput rfl ?_
      conv => whnf
      refine ⟨fun _ => ?_, fun h => absurd h (by decide)⟩
      conv => whnf
      rw [if_neg (hno hck), if_neg (hno hck)]
      try rfl
    | true =>
      have e1 : Gw.Op.put (outB (l.take k)) l[k] = outB (l.take (k + 1)) := by unfold Gw.Op.put; rw [hck, hsu]; rfl
      have e2 : Gw.Op.putErr l[k] = 0 := by unfold Gw.Op.putErr; rw [hck]; rfl
      rw [e1, e2] at hput
      refine AC.of_pc hput rfl ?_
      conv => whnf
      refine ⟨fun h => absurd h (by decide), fun _ => ?_⟩
      conv => whnf
      refine ⟨k + 1, ⟨by omega, by rw [htk, List.all_append, hall]; simp [hck]⟩, by show _ - (k + 1) < _ - k; omega, rfl, rfl, rfl, rfl, ?_, rfl, trivial⟩
      show C.v (V.int .i64 (IntKind.i64.wrap ((k : Int) + 1))) = _
      rw [w64 (by omega) (by omega)]; rfl
  · have h := of_decide_eq_false h
    obtain rfl : k = l.length := by omega
    rw [List.take_length] at hall hbk
    rw [List.take_length, if_pos hall, if_pos hall]
    conv => whnf
    try rfl

theorem rread_pc (b : List UInt8) (hb : b.length ≤ 1048576) : PC Try.prog 18 [.str b] (readV (Gw.Op.read b)) := by
  refine PC.ofS tabOk mixed (fn := Try.f18) (by kernel_rfl) rfl (by kernel_rfl) rfl rfl ?_
  conv => whnf
  refine AW.row 4 25 7 rfl rfl (.inr rfl) ?_
  refine AW.loop (X := List UInt8 × List Gw.Op.Op) (fun x => [(.tmp 0, .v (.str x.1)), (.tmp 4, .v (.lst (decide (x.2 = [])) 7 (encOs x.2) (.row 3))), (.row 3, .row 25 7 x.2.length)]) 4
    (fun x => x.1.length + x.2.length ≤ 1048576 ∧ ∃ f, x.1.length < f ∧ Gw.Op.read b = Gw.Op.readF f x.1 x.2) (fun x => x.1.length) (by decide) (b, []) ⟨by simpa using hb, b.length + 1, Nat.lt_succ_self _, rfl⟩ ⟨rfl, rfl, rfl, rfl, rfl, rfl, trivial⟩ ?_
  rintro ⟨rest, acc⟩ ⟨h1, f, hf, hr⟩
  simp only at h1 hf hr
  have htk := ropTake_pc rest (by omega)
  have hal := encOs_len acc
  refine ev_sound tabOk mixed _ _ _ _ ?_
  conv => whnf
  refine ⟨fun h => ?_, fun h => ?_⟩
  · have h : rest ≠ [] := by
      have h := of_decide_eq_true h
      intro e; rw [e] at h; simp at h
    obtain ⟨f, rfl⟩ : ∃ g, f = g + 1 := ⟨f - 1, by omega⟩
    rw [Gw.Op.readF, if_neg h] at hr
    conv => whnf
    cases ht : Gw.Op.take rest with
    | none =>
      rw [ht] at htk hr
      simp only at hr
      rw [hr]
      refine AC.of_pc htk rfl ?_
      conv => whnf
      refine ⟨fun _ => ?_, fun h => absurd h (by decide)⟩
      conv => whnf
      exact SubV.tup (.cons (.nil _ _ _) (.cons (.of_eq rfl) .nil))
    | some oq =>
      obtain ⟨o, q⟩ := oq
      have hlen := Gw.Op.take_len ht
      rw [ht] at htk hr
      simp only at hr
      refine AC.of_pc htk rfl ?_
      conv => whnf
      refine ⟨fun h => absurd h (by decide), fun _ => ?_⟩
      conv => whnf
      refine ⟨⟨hal.symm, fits_small (by show (encOs acc).length + 1 ≤ _; omega) (by decide)⟩, ?_⟩
      conv => whnf
      refine ⟨(q, acc ++ [o]), ⟨by show q.length + (acc ++ [o]).length ≤ _; rw [List.length_append, List.length_singleton]; omega, f, by show q.length < f; omega, hr⟩, hlen, rfl, rfl, ?_, rfl, ?_, rfl, trivial⟩
      · show C.v (V.lst (decide (acc = []) && false) 7 (encOs acc ++ [cellsO o]) _) = C.v (V.lst (decide (acc ++ [o] = [])) 7 (encOs (acc ++ [o])) _)
        rw [Bool.and_false, decide_eq_false (by simp), encOs, encOs, List.map_append]
        rfl
      · show C.row _ 7 ((encOs acc).length + 1) = C.row _ 7 (acc ++ [o]).length
        rw [hal, List.length_append]
        rfl
  · have h : rest = [] := by
      have h := of_decide_eq_false h
      cases rest with
      | nil => rfl
      | cons c t => simp at h
    have e : Gw.Op.readF f rest acc = some acc := by
      cases f with
      | zero => rfl
      | succ f => rw [Gw.Op.readF, if_pos h]
    rw [e] at hr
    rw [hr]
    conv => whnf
    exact SubV.refl _
end Go.Proofs.Ytjfnelgmagmgoaa
