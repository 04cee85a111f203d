/- What stands at the head of the statements of the package sums: it is true. -/
import Derived.Test.YtcijaehnlemidaaDoorSumsRef
namespace Go.Proofs.YtcijaehnlemidaaDoor
open Go.RowKit

theorem sumBytes_size (s : ByteArray) : (sumBytes s).size = 4 := by simp [sumBytes, Gw.Sums.bytes, ByteArray.size]
theorem seal_size (s : ByteArray) : (s ++ sumBytes s).size = s.size + 4 := by rw [ByteArray.size_append, sumBytes_size]
theorem textOf_seal (s : ByteArray) : textOf (s ++ sumBytes s) = s := by
  apply WideShapes.bytes_inj
  unfold textOf
  rw [Lib.extract_data, seal_size, ByteArray.data_append, Array.toList_append, List.drop_zero]
  rw [List.take_append_of_le_length (by simp)]
  exact List.take_of_length_le (by simp)
theorem tailOf_seal (s : ByteArray) : tailOf (s ++ sumBytes s) = sumBytes s := by
  apply WideShapes.bytes_inj
  unfold tailOf
  rw [Lib.extract_data, seal_size, ByteArray.data_append, Array.toList_append]
  rw [List.drop_append_of_le_length (by simp)]
  rw [List.drop_eq_nil_of_le (by simp), List.nil_append]
  rw [show s.size + 4 - (s.size + 4 - 4) = 4 from by omega]
  exact List.take_of_length_le (Nat.le_of_eq (sumBytes_size s))
theorem openTrue_seal (s : ByteArray) : openTrue (s ++ sumBytes s) = true := by
  unfold openTrue
  rw [ba_eq, textOf_seal, tailOf_seal]
theorem openRes_seal (s : ByteArray) : openRes (decide (4 ≤ (s ++ sumBytes s).size) && openTrue (s ++ sumBytes s)) (s ++ sumBytes s) = .tuple #[.string s, .bool true] := by
  rw [openTrue_seal, decide_eq_true (by rw [seal_size]; omega)]
  simp [openRes, textOf_seal]
theorem openRes_no : openRes (decide (4 ≤ (⟨#[97, 98, 99, 100, 101]⟩ : ByteArray).size) && openTrue ⟨#[97, 98, 99, 100, 101]⟩) ⟨#[97, 98, 99, 100, 101]⟩ = .tuple #[.string ⟨#[]⟩, .bool false] := by
  have h : openTrue ⟨#[97, 98, 99, 100, 101]⟩ = false := by
    unfold openTrue
    rw [Lib.toList_data, Lib.toList_data]
    kernel_rfl
  rw [h, Bool.and_false]
  rfl
theorem sum_check : Gw.Sums.sum ((⟨#[49, 50, 51, 52]⟩ : ByteArray).data.toList ++ (⟨#[]⟩ : ByteArray).data.toList ++ (⟨#[53, 54, 55, 56, 57]⟩ : ByteArray).data.toList) = 58124007 := by kernel_rfl
theorem bytes_check : (⟨(Gw.Sums.bytes 16909060).toArray⟩ : ByteArray) = ⟨#[1, 2, 3, 4]⟩ := by kernel_rfl

set_option maxRecDepth 1000000 in
set_option maxHeartbeats 400000 in
theorem awake_any (w : World) (S : Steps w) :
    Calls Tryd.prog 8 #[] w fun e w' => e = .returned (.bool true) ∧ Below w.heap.size w w' := by
  have H1 := Lib.hid (seal_any ⟨#[97, 98]⟩ (by simp [ByteArray.size]) w S)
  have H2 := Lib.hid (fun w => open_any (⟨#[97, 98]⟩ ++ sumBytes ⟨#[97, 98]⟩) (by rw [seal_size]; simp [ByteArray.size]) w)
  rw [openRes_seal] at H2
  have H3 := Lib.hid (fun w => open_any ⟨#[97, 98, 99, 100, 101]⟩ (by simp [ByteArray.size]) w)
  rw [openRes_no] at H3
  have H4 := Lib.hid (sum3 ⟨#[49, 50, 51, 52]⟩ ⟨#[]⟩ ⟨#[53, 54, 55, 56, 57]⟩ (by simp [ByteArray.size, maxLen]) (by simp [ByteArray.size]) (by simp [ByteArray.size, maxLen]))
  rw [sum_check] at H4
  have H5 := Lib.hid (fun w => bytes_any 16909060 (by omega) w)
  rw [bytes_check] at H5
  generalize (⟨#[97, 98]⟩ ++ sumBytes ⟨#[97, 98]⟩ : ByteArray) = B at *
  go_enter Tryd.func8, Tryd.ntmps8
  go_wp2_with fail
  refine H1.out.mono ?_
  rintro e w1 ⟨rfl, hb1⟩
  go_wp2_with fail
  have S1 := S.below hb1 (Nat.le_refl _)
  refine (H2.out _ S1).mono ?_
  rintro e w2 ⟨rfl, hb2⟩
  have S2 := S1.below hb2 (Nat.le_refl _)
  go_wp2_with fail
  refine (H3.out _ S2).mono ?_
  rintro e w3 ⟨rfl, hb3⟩
  have S3 := S2.below hb3 (Nat.le_refl _)
  go_wp2_with fail
  refine (H4.out _ _ _ (S3.alloc _) (by simp) (by simp) (by simp)).mono ?_
  rintro e w4 ⟨rfl, rfl⟩
  go_wp2_with fail
  refine (sum_nil _).mono ?_
  rintro e w4 ⟨rfl, rfl⟩
  go_wp2_with fail
  refine (H5.out _).mono ?_
  rintro e w5 ⟨rfl, hb5⟩
  go_wp2_with fail
  go_ret
  have z1 := hb1.size
  have z2 := hb2.size
  have z3 := hb3.size
  exact ⟨rfl, ((((hb1.trans (hb2.mono z1)).trans (hb3.mono (by omega))).alloc (by omega) _).trans (hb5.mono (by simp; omega)))⟩
end Go.Proofs.YtcijaehnlemidaaDoor
