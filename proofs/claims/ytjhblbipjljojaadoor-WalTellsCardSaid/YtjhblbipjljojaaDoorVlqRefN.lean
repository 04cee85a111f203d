/- The walks of the reference of the package vlq (gunwaleref04). -/
import Derived.Test.YtjhblbipjljojaaDoorVlqTake
import Derived.Test.YtjhblbipjljojaaDoorVlqLaw
import Derived.Test.YtjhblbipjljojaaDoorLawKit
import Derived.Deep.RegionWith
namespace Go.Proofs.YtjhblbipjljojaaDoor
open Go.RowKit

theorem conv_one {P : Program} (src e dst : TypeId) (hs : P.underlying src = some (.slice e)) (he : P.underlying e = some (.int .u8)) (hd : P.underlying dst = some .string) (X : Int) :
    ∀ (W : World) (b : Nat), W.cell? ⟨b, 0, none⟩ = some (.int .u8 X) → (convert src dst (.slice (some ⟨b, 0, none⟩) 1 1)).run P W = .ok (.string (strOfNums [X])) W := by
  intro W b hc
  refine run_convert_bytes_arg W src e hs he b 0 1 1 [X] rfl ?_ dst hd
  intro i hi
  match i, hi with
  | 0, _ => simpa using hc

set_option maxRecDepth 1000000 in
set_option maxHeartbeats 1000000 in
theorem high_any (f : Nat) : ∀ (n : Nat), n < 9223372036854775808 → n < 128 ^ f → f ≤ 10 → ∀ (w : World),
    Calls Tryd.prog 96 #[.int .i64 (n : Int)] w fun e w' => e = .returned (.string ⟨(Gw.Vlq.high f n).toArray⟩) ∧ Below w.heap.size w w' := by
  induction f with
  | zero =>
    intro n _ hf _ w
    obtain rfl : n = 0 := by simpa using hf
    have hz : (((0 : Nat) : Int) == 0) = true := rfl
    go_enter Tryd.func96, Tryd.ntmps96
    go_wp2_with fail
    go_ret
    exact ⟨rfl, Below.refl _ _⟩
  | succ f ih =>
    intro n hn hf hf10 w
    by_cases h0 : n = 0
    · have hz : ((n : Int) == 0) = true := by rw [h0]; rfl
      have hfin : (⟨(Gw.Vlq.high (f + 1) n).toArray⟩ : ByteArray) = ⟨#[]⟩ := by rw [Gw.Vlq.high, if_pos h0]
      have HF := Lib.hid hfin
      have IH := Lib.hid ih
      clear h0 hfin ih
      go_enter Tryd.func96, Tryd.ntmps96
      go_wp2_with fail
      go_ret
      exact ⟨by rw [HF.out]; rfl, Below.refl _ _⟩
    · have hz : ((n : Int) == 0) = false := by rw [beq_eq_false_iff_ne]; omega
      have hq : n / 128 < 128 ^ f := by rw [Nat.pow_succ] at hf; omega
      have H1 := Lib.hid (ih (n / 128) (by omega) hq (by omega))
      have hc := conv_one (P := Tryd.prog) 82 5 9 Tryd.underlying82 Tryd.underlying5 Tryd.underlying9 (((n % 128 : Nat) : Int) + 128)
      have hX : strOfNums [((n % 128 : Nat) : Int) + 128] = ⟨#[UInt8.ofNat (n % 128 + 128)]⟩ := by
        unfold strOfNums
        rw [List.map_cons, List.map_nil, show (((n % 128 : Nat) : Int) + 128).toNat = n % 128 + 128 from by omega]
      rw [hX] at hc
      have hfin : (⟨(Gw.Vlq.high (f + 1) n).toArray⟩ : ByteArray) = ⟨(Gw.Vlq.high f (n / 128)).toArray⟩ ++ ⟨#[UInt8.ofNat (n % 128 + 128)]⟩ := by
        apply WideShapes.bytes_inj
        rw [ByteArray.data_append, Array.toList_append]
        show Gw.Vlq.high (f + 1) n = Gw.Vlq.high f (n / 128) ++ [UInt8.ofNat (n % 128 + 128)]
        rw [Gw.Vlq.high, if_neg h0]
      have hlen : (⟨(Gw.Vlq.high f (n / 128)).toArray⟩ : ByteArray).size ≤ 10 := by
        show (Gw.Vlq.high f (n / 128)).toArray.size ≤ 10
        rw [List.size_toArray]
        have : ∀ (g m : Nat), (Gw.Vlq.high g m).length ≤ g := by
          intro g
          induction g with
          | zero => intro m; simp [Gw.Vlq.high]
          | succ g ih => intro m; unfold Gw.Vlq.high; have := ih (m / 128); split <;> simp <;> omega
        have := this f (n / 128)
        omega
      have hcs : (⟨#[UInt8.ofNat (n % 128 + 128)]⟩ : ByteArray).size = 1 := rfl
      generalize (⟨(Gw.Vlq.high f (n / 128)).toArray⟩ : ByteArray) = B at *
      generalize (⟨#[UInt8.ofNat (n % 128 + 128)]⟩ : ByteArray) = C at *
      have hC1 : C.size ≤ 1 := Nat.le_of_eq hcs
      have HF := Lib.hid hfin
      have hw1 : IntKind.i64.wrap ((n : Int) / 128) = ((n / 128 : Nat) : Int) := IntWalk.i64_in _ (by omega)
      have hmm : ((n : Int)).tmod 128 = ((n % 128 : Nat) : Int) := by rw [Int.tmod_eq_emod_of_nonneg (by omega)]; rfl
      have hw2 : IntKind.i64.wrap (((n % 128 : Nat) : Int) + 128) = ((n % 128 : Nat) : Int) + 128 := IntWalk.i64_in _ (by omega)
      have hw3 : IntKind.u8.wrap (((n % 128 : Nat) : Int) + 128) = ((n % 128 : Nat) : Int) + 128 := by rw [IntKind.wrap_u8']; omega
      clear h0 hfin ih hX hq hcs hf
      generalize n / 128 = q at *
      generalize n % 128 = r at *
      go_enter Tryd.func96, Tryd.ntmps96
      go_wp2_with fail
      go_region_with (go_at_call 96; refine (H1.out _).mono ?_; rintro e w1 ⟨rfl, hb1⟩; have hc1 := hb1.cell (p := ⟨w.heap.size, 0, none⟩))
      all_goals
        go_wp2_with fail
        go_ret
        refine ⟨by rw [HF.out]; rfl, ?_⟩
        first | exact ((Below.refl _ _).drew.step hb1).new _ | exact ((Below.refl _ _).new _).drew.step hb1

theorem high_len (g m : Nat) : (Gw.Vlq.high g m).length ≤ g := by
  induction g generalizing m with
  | zero => simp [Gw.Vlq.high]
  | succ g ih => unfold Gw.Vlq.high; have := ih (m / 128); split <;> simp <;> omega
/-- A number's bytes as a string. -/
def oneS (n : Nat) : ByteArray := ⟨(Gw.Vlq.one n).toArray⟩
theorem oneS_size (n : Nat) (hn : n < 9223372036854775808) : (oneS n).size = Gw.Vlq.size n := by
  show (Gw.Vlq.one n).toArray.size = _
  rw [List.size_toArray, Gw.Vlq.one_length n (by omega)]

set_option maxRecDepth 1000000 in
set_option maxHeartbeats 1000000 in
theorem one_any (n : Nat) (hn : n < 9223372036854775808) (w : World) :
    Calls Tryd.prog 80 #[.int .i64 (n : Int)] w fun e w' => e = .returned (.string (oneS n)) ∧ Below w.heap.size w w' := by
  have H1 := Lib.hid (high_any 10 (n / 128) (by omega) (by omega) (by omega))
  have hc := conv_one (P := Tryd.prog) 82 5 9 Tryd.underlying82 Tryd.underlying5 Tryd.underlying9 (((n % 128 : Nat) : Int))
  have hX : strOfNums [((n % 128 : Nat) : Int)] = ⟨#[UInt8.ofNat (n % 128)]⟩ := by
    unfold strOfNums
    rw [List.map_cons, List.map_nil, Int.toNat_natCast]
  rw [hX] at hc
  have hfin : oneS n = ⟨(Gw.Vlq.high 10 (n / 128)).toArray⟩ ++ ⟨#[UInt8.ofNat (n % 128)]⟩ := by
    apply WideShapes.bytes_inj
    rw [ByteArray.data_append, Array.toList_append]
    rfl
  have hlen : (⟨(Gw.Vlq.high 10 (n / 128)).toArray⟩ : ByteArray).size ≤ 10 := by
    show (Gw.Vlq.high 10 (n / 128)).toArray.size ≤ 10
    rw [List.size_toArray]
    exact high_len _ _
  have hcs : (⟨#[UInt8.ofNat (n % 128)]⟩ : ByteArray).size = 1 := rfl
  generalize (⟨(Gw.Vlq.high 10 (n / 128)).toArray⟩ : ByteArray) = B at *
  generalize (⟨#[UInt8.ofNat (n % 128)]⟩ : ByteArray) = C at *
  have hC1 : C.size ≤ 1 := Nat.le_of_eq hcs
  have HF := Lib.hid hfin
  have hw1 : IntKind.i64.wrap ((n : Int) / 128) = ((n / 128 : Nat) : Int) := IntWalk.i64_in _ (by omega)
  have hmm : ((n : Int)).tmod 128 = ((n % 128 : Nat) : Int) := by rw [Int.tmod_eq_emod_of_nonneg (by omega)]; rfl
  have hw3 : IntKind.u8.wrap (((n % 128 : Nat) : Int)) = ((n % 128 : Nat) : Int) := by rw [IntKind.wrap_u8']; omega
  clear hfin hX hcs
  generalize n / 128 = q at *
  generalize n % 128 = r at *
  go_enter Tryd.func80, Tryd.ntmps80
  go_wp2_with fail
  go_region_with (go_at_call 96; refine (H1.out _).mono ?_; rintro e w1 ⟨rfl, hb1⟩; have hc1 := hb1.cell (p := ⟨w.heap.size, 0, none⟩))
  all_goals
    go_wp2_with fail
    go_ret
    refine ⟨by rw [HF.out]; rfl, ?_⟩
    first | exact ((Below.refl _ _).drew.step hb1).new _ | exact ((Below.refl _ _).new _).drew.step hb1

set_option maxHeartbeats 400000 in
theorem rtext_any (b t : ByteArray) (hs : b.size + t.size < 900000000) (w : World) :
    Calls Tryd.prog 79 #[.string b, .string t] w fun e w' => e = .returned (.string (textOfL b t)) ∧ Below w.heap.size w w' := by
  have H1 := Lib.hid (one_any t.size (by omega) w)
  have hs1 := oneS_size t.size (by omega)
  have hs9 := Gw.Vlq.size_le9 t.size (by omega)
  have hfin : textOfL b t = b ++ oneS t.size ++ t := by
    apply WideShapes.bytes_inj
    simp [textOfL, Gw.Vlq.text, oneS, ByteArray.data_append]
  generalize oneS t.size = B at *
  have HF := Lib.hid hfin
  have hB : B.size ≤ 9 := by omega
  have hcat : (b ++ B).size ≤ b.size + 9 := by rw [ByteArray.size_append]; omega
  clear hs1 hfin
  go_enter Tryd.func79, Tryd.ntmps79
  go_wp2_with fail
  refine H1.out.mono ?_
  rintro e w1 ⟨rfl, hb1⟩
  go_wp2_with fail
  go_ret
  exact ⟨by rw [HF.out]; rfl, hb1⟩

end Go.Proofs.YtjhblbipjljojaaDoor
