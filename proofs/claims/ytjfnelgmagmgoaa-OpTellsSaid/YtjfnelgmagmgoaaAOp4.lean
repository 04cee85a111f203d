/- What op.Write computes: told without addresses. No claim of its own. -/
import Derived.Test.YtjfnelgmagmgoaaAOp3
import Derived.Test.YtjfnelgmagmgoaaABld
namespace Go.Proofs.Ytjfnelgmagmgoaa
open Go.Am

def outB (l : List Gw.Op.Op) : List UInt8 := l.flatMap Gw.Op.bytes
theorem outB_succ {l : List Gw.Op.Op} {k : Nat} (hk : k < l.length) : outB (l.take (k + 1)) = outB (l.take k) ++ Gw.Op.bytes l[k] := by
  unfold outB
  rw [List.take_succ_eq_append_getElem hk, List.flatMap_append]
  simp

theorem opWrite_pc (nil : Bool) (l : List Gw.Op.Op) (hf : ∀ o ∈ l, Fine o) (hl : l.length ≤ 1048576) (hb : ∀ k, k ≤ l.length → (l.take k).all Gw.Op.check = true → (outB (l.take k)).length ≤ 1000000000000) :
    PC Try.prog 15 [.lst nil 7 (encOs l) .none] (.tup [.str (if l.all Gw.Op.check = true then outB l else []), .int .i64 (if l.all Gw.Op.check = true then 0 else 50)]) := by
  have hal := encOs_len l
  refine PC.of tabOk mixed (fn := Try.f15) (by kernel_rfl) rfl (by kernel_rfl) rfl rfl ?_
  conv => whnf
  refine AW.rowB 2 5 rfl ?_
  refine AW.loop (fun k : Nat => [(.tmp 4, .v (.ptr 2 0)), (.tmp 9, .v (.lst nil 7 (encOs l) .none)), (.tmp 10, .v (.int .i64 l.length)), (.tmp 11, .v (.int .i64 k)), (.blk 2, .box 72 [if k = 0 then .nilp else .ptr 2 0, .lst (decide (outB (l.take k) = [])) 1 (bytesL (outB (l.take k))) (.brow 6)]), (.row 6, .row 5 1 (outB (l.take k)).length)])
    7 (fun k => k ≤ l.length ∧ (l.take k).all Gw.Op.check = true) (fun k => l.length - k) (by decide) 0 ⟨Nat.zero_le _, rfl⟩ ⟨rfl, rfl, rfl, rfl, ?_, rfl, rfl, rfl, rfl, rfl, rfl, rfl, trivial⟩ ?_
  · show C.v (V.int .i64 (encOs l).length) = _
    rw [hal]
  rintro k ⟨hk, hall⟩
  have hbk := hb k hk hall
  refine ev_sound tabOk mixed _ _ _ _ ?_
  conv => whnf
  refine ⟨fun h => ?_, fun h => ?_⟩
  · have h := of_decide_eq_true h
    have hlt : k < l.length := by omega
    have hel := encOs_get hlt
    have hfo := hf l[k] (List.getElem_mem hlt)
    have hput := opPut_pc [] l[k] hfo (by decide)
    have hno : Gw.Op.check l[k] = false → ¬ (l.all Gw.Op.check = true) := fun h2 h3 => by
      rw [List.all_eq_true.1 h3 _ (List.getElem_mem hlt)] at h2; cases h2
    have hsu := outB_succ hlt
    have htk : l.take (k + 1) = l.take k ++ [l[k]] := List.take_succ_eq_append_getElem hlt
    have hbs := hb (k + 1) (by omega)
    unfold cellsO at hel
    unfold encO at hput
    conv => whnf
    refine ⟨_, ⟨by omega, hel⟩, ?_⟩
    conv => whnf
    cases hck : Gw.Op.check l[k] with
    | false =>
      have e1 : Gw.Op.put [] l[k] = [] := by unfold Gw.Op.put; rw [hck]; rfl
      have e2 : Gw.Op.putErr l[k] = 50 := by unfold Gw.Op.putErr; rw [hck]; rfl
      rw [e1, e2] at hput
      refine AC.of_pc hput rfl ?_
      conv => whnf
      refine ⟨fun _ => ?_, fun h => absurd h (by decide)⟩
      conv => whnf
      rw [if_neg (hno hck), if_neg (hno hck)]
    | true =>
      have e1 : Gw.Op.put [] l[k] = Gw.Op.bytes l[k] := by unfold Gw.Op.put; rw [hck]; rfl
      have e2 : Gw.Op.putErr l[k] = 0 := by unfold Gw.Op.putErr; rw [hck]; rfl
      rw [e1, e2] at hput
      refine AC.of_pc hput rfl ?_
      conv => whnf
      refine ⟨fun h => absurd h (by decide), fun _ => ?_⟩
      conv => whnf
      refine AC.of tabOk mixed (fn := Try.f35) (by kernel_rfl) rfl (by kernel_rfl) rfl rfl ?_
      conv => whnf
      refine AC.selfPtr (enters_of (fn := Try.f46) (by kernel_rfl) rfl (by kernel_rfl)) rfl (by split; exact .inl rfl; exact .inr rfl) bld_copy ?_
      conv => whnf
      have hbl := hbs (by rw [htk, List.all_append, hall]; simp [hck])
      rw [hsu, List.length_append] at hbl
      refine ⟨⟨(bytesL_len _).symm, ⟨by rw [bytesL_len, List.length_map]; omega, by rw [bytesL_len, List.length_map]; omega⟩⟩, ?_⟩
      conv => whnf
      refine ⟨k + 1, ⟨by omega, by rw [htk, List.all_append, hall]; simp [hck]⟩, by show _ - (k + 1) < _ - k; omega, rfl, rfl, rfl, rfl, rfl, rfl, ?_, rfl, ?_, rfl, ?_, rfl, trivial⟩
      · show C.v (V.int .i64 (IntKind.i64.wrap ((k : Int) + 1))) = _
        rw [w64 (by omega) (by omega)]; rfl
      · show C.box _ [V.ptr 2 0, V.lst (decide (outB (l.take k) = []) && ((Gw.Op.bytes l[k]).map fun c => [V.int .u8 c.toNat]).isEmpty) 1 (bytesL (outB (l.take k)) ++ (Gw.Op.bytes l[k]).map fun c => [V.int .u8 c.toNat]) (.brow 6)] = C.box _ [if k + 1 = 0 then V.nilp else V.ptr 2 0, V.lst (decide (outB (l.take (k + 1)) = [])) 1 (bytesL (outB (l.take (k + 1)))) (.brow 6)]
        rw [hsu, if_neg (Nat.succ_ne_zero k), bytesL, bytesL, List.map_append]
        have e3 : decide (outB (l.take k) ++ Gw.Op.bytes l[k] = []) = (decide (outB (l.take k) = []) && ((Gw.Op.bytes l[k]).map fun c => [V.int .u8 c.toNat]).isEmpty) := by
          rw [Bool.eq_iff_iff]; simp
        rw [e3]
      · show C.row _ 1 ((bytesL (outB (l.take k))).length + ((Gw.Op.bytes l[k]).map fun c => [V.int .u8 c.toNat]).length) = C.row _ 1 (outB (l.take (k + 1))).length
        rw [hsu, bytesL_len, List.length_map, List.length_append]
  · have h := of_decide_eq_false h
    obtain rfl : k = l.length := by omega
    rw [List.take_length] at hall hbk
    rw [List.take_length, if_pos hall, if_pos hall]
    conv => whnf
    refine AC.unrow (e := 5) (enters_of (fn := Try.f36) (by kernel_rfl) rfl (by kernel_rfl)) (s := outB l) rfl rfl (fun e => decide_eq_true e) (fun _ => bld_nil) (fun h0 => bld_text (outB l) h0 hbk) ?_
    conv => whnf
end Go.Proofs.Ytjfnelgmagmgoaa
