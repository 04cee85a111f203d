/- What stands at the head of the statements of the package disk: it is true. -/
import Derived.Test.YtfehckdcjgmcpaaDiskW
import Derived.Test.YtfehckdcjgmcpaaDiskNew
import Derived.Test.YtfehckdcjgmcpaaDiskCrash
import Derived.Test.YtfehckdcjgmcpaaDiskFew
namespace Go.Proofs.Ytfehckdcjgmcpaa
open Go.RowKit

abbrev awS : ByteArray := ⟨#[97, 98, 99, 100, 101, 102, 103, 104, 105, 106, 107, 108, 109, 110, 111, 112, 113]⟩
abbrev awF : ByteArray := ⟨#[0, 0, 0, 0, 0, 0, 0, 0, 0, 0, 0, 0, 0, 0, 0, 0, 0, 0, 0, 0, 0, 0, 0, 0, 0, 0, 0, 0, 0, 0, 0, 0, 0, 0, 0, 0, 0, 0, 0, 0, 0, 0, 0, 0, 0, 0, 0, 0]⟩
abbrev awL : List (Int × ByteArray) := [(1, ⟨#[97, 98, 99, 100, 101, 102, 103, 104, 105, 106, 107, 108, 109, 110, 111, 112]⟩), (2, ⟨#[113, 0, 0, 0, 0, 0, 0, 0, 0, 0, 0, 0, 0, 0, 0, 0]⟩)]
abbrev awX : ByteArray := ⟨#[97, 98, 99, 100, 101, 102, 103, 104, 105, 106, 107, 108, 109, 110, 111, 112, 113, 0, 0, 0, 0, 0, 0, 0, 0, 0, 0, 0, 0, 0, 0, 0]⟩
abbrev awC : ByteArray := ⟨#[0, 0, 0, 0, 0, 0, 0, 0, 0, 0, 0, 0, 0, 0, 0, 0, 97, 98, 99, 100, 101, 102, 103, 104, 0, 0, 0, 0, 0, 0, 0, 0, 113, 0, 0, 0, 0, 0, 0, 0, 0, 0, 0, 0, 0, 0, 0, 0]⟩
abbrev awK : ByteArray := ⟨#[0, 0, 0, 0, 0, 0, 0, 0, 0, 0, 0, 0, 0, 0, 0, 0, 97, 98, 99, 100, 101, 102, 103, 104, 105, 106, 107, 108, 109, 110, 111, 112, 113, 0, 0, 0, 0, 0, 0, 0, 0, 0, 0, 0, 0, 0, 0, 0]⟩
theorem aw0 : Gw.Disk.new 3 = ⟨3, awF, []⟩ := by kernel_rfl
theorem aw1 : Gw.Disk.write ⟨3, awF, []⟩ 1 awS = ⟨3, awF, awL⟩ ∧ Gw.Disk.writeErr ⟨3, awF, []⟩ 1 awS = 0 := by constructor <;> kernel_rfl
theorem aw2 : Gw.Disk.write ⟨3, awF, []⟩ 2 awS = ⟨3, awF, []⟩ ∧ Gw.Disk.writeErr ⟨3, awF, []⟩ 2 awS = 120 := by constructor <;> kernel_rfl
theorem aw3 : Gw.Disk.write ⟨3, awF, []⟩ (-1) ⟨#[]⟩ = ⟨3, awF, []⟩ ∧ Gw.Disk.writeErr ⟨3, awF, []⟩ (-1) ⟨#[]⟩ = 121 := by constructor <;> kernel_rfl
theorem aw4 : (⟨(Gw.Disk.read ⟨3, awF, awL⟩ 1 2).toArray⟩ : ByteArray) = awX ∧ Gw.Disk.readErr ⟨3, awF, awL⟩ 1 2 = 0 := by constructor <;> kernel_rfl
theorem aw5 : (⟨(Gw.Disk.read ⟨3, awF, awL⟩ 2 2).toArray⟩ : ByteArray) = ⟨#[]⟩ ∧ Gw.Disk.readErr ⟨3, awF, awL⟩ 2 2 = 121 := by constructor <;> kernel_rfl
theorem aw6 : Gw.Disk.crash ⟨3, awF, awL⟩ ⟨#[2, 1]⟩ = ⟨3, awC, []⟩ := by kernel_rfl
theorem aw7 : Gw.Disk.flush ⟨3, awF, awL⟩ = ⟨3, awK, []⟩ := by kernel_rfl
theorem aw8 : Gw.Disk.check ⟨3, awF, awL⟩ = true ∧ Gw.Disk.check ⟨1, ⟨#[]⟩, []⟩ = false := by constructor <;> kernel_rfl

set_option maxRecDepth 1000000 in
set_option maxHeartbeats 1000000 in
theorem awake_any (w : World) :
    Calls Try.prog 10 #[] w fun e w' => e = .returned (.bool true) ∧ Below w.heap.size w w' := by
  have H0 := Lib.hid (new_any 3 (by omega))
  rw [aw0] at H0
  have H1 := Lib.hid (write_any ⟨3, awF, []⟩ (by simp only; omega) (by simp) (.slice none 0 0) 1 awS (by decide))
  rw [aw1.1, aw1.2] at H1
  have H2 := Lib.hid (write_any ⟨3, awF, []⟩ (by simp only; omega) (by simp) (.slice none 0 0) 2 awS (by decide))
  rw [aw2.1, aw2.2] at H2
  have H3 := Lib.hid (write_any ⟨3, awF, []⟩ (by simp only; omega) (by simp) (.slice none 0 0) (-1) ⟨#[]⟩ (by decide))
  rw [aw3.1, aw3.2] at H3
  have H4 := Lib.hid (fun sl => read_any ⟨3, awF, awL⟩ (by simp only; omega) (by simp [awL, maxLen]) sl 1 2 (by omega) (by omega))
  rw [aw4.1, aw4.2] at H4
  have H5 := Lib.hid (fun sl => read_any ⟨3, awF, awL⟩ (by simp only; omega) (by simp [awL, maxLen]) sl 2 2 (by omega) (by omega))
  rw [aw5.1, aw5.2] at H5
  have H6 := Lib.hid (fun sl => crash_any ⟨3, awF, awL⟩ (by simp only; omega) (by simp [awL]) sl ⟨#[2, 1]⟩ (by decide))
  rw [aw6] at H6
  have H7 := Lib.hid (fun sl => flush_any ⟨3, awF, awL⟩ (by simp only; omega) (by simp [awL]) sl)
  rw [aw7] at H7
  have H8 := Lib.hid (fun sl => check_any ⟨3, awF, awL⟩ (by simp only; omega) (by simp [awL, maxLen]) sl)
  rw [aw8.1] at H8
  have H9 := Lib.hid (fun sl => check_any ⟨1, ⟨#[]⟩, []⟩ (by simp only; omega) (by simp [maxLen]) sl)
  rw [aw8.2] at H9
  go_enter Try.func10, Try.ntmps10
  have HB0 := Lib.hid (Below.refl w.heap.size w)
  have HC1 := Lib.hid (H0.out w)
  go_wp2_with fail
  refine (HC1.out).mono ?_
  rintro e w1 ⟨rfl, hb1⟩
  have HX1 := Lib.hid ((Below.refl w.heap.size w).step hb1)
  have HB1 := Lib.hid (HB0.out.step HX1.out)
  have z1 : w.heap.size ≤ w1.heap.size := by have := hb1.size; exact this
  clear hb1 
  unfold diskV
  have HC2 := Lib.hid (H1.out (w1.alloc (.cells #[.int .i64 3, .string awF, .slice none 0 0] 24)) (.inl ⟨rfl, none, 0, rfl⟩))
  go_wp2_with fail
  refine (HC2.out).mono ?_
  rintro e w2 ⟨sl2, rfl, ho2, hb2⟩
  obtain ⟨ao, cap, rfl⟩ := ho2.form
  have HX2 := Lib.hid (((Below.refl w1.heap.size w1).new (.cells #[.int .i64 3, .string awF, .slice none 0 0] 24)).step hb2)
  have HB2 := Lib.hid (HB1.out.step HX2.out)
  have HP2 := Lib.hid ho2.patches
  have z2 : w1.heap.size < w2.heap.size := by have := hb2.size; rw [World.size_alloc] at this; exact this
  have bd_2_0 := hb2.cell (p := ⟨w1.heap.size, 0, none⟩) (by simp)
  have bd_2_1 := hb2.cell (p := ⟨w1.heap.size, 1, none⟩) (by simp)
  have bd_2_2 := hb2.cell (p := ⟨w1.heap.size, 2, none⟩) (by simp)
  simp at bd_2_0 bd_2_1 bd_2_2
  have bd_2z : w1.heap.size < w2.heap.size := z2
  clear hb2 ho2
  unfold diskV
  have HC3 := Lib.hid (H2.out (w2.alloc (.cells #[.int .i64 3, .string awF, .slice ao 2 cap] 24)) (.inl ⟨rfl, none, 0, rfl⟩))
  go_wp2_with fail
  refine (HC3.out).mono ?_
  rintro e w3 ⟨sl3, rfl, ho3, hb3⟩
  obtain ⟨ao3, cap3, rfl⟩ := ho3.form
  have HX3 := Lib.hid (((Below.refl w2.heap.size w2).new (.cells #[.int .i64 3, .string awF, .slice ao 2 cap] 24)).step hb3)
  have HB3 := Lib.hid (HB2.out.step HX3.out)
  have HP3 := Lib.hid ho3.patches
  have z3 : w2.heap.size < w3.heap.size := by have := hb3.size; rw [World.size_alloc] at this; exact this
  have bd_3_0 := (HX3.out.cell (p := ⟨w1.heap.size, 0, none⟩) bd_2z).trans bd_2_0
  have bd_3_1 := (HX3.out.cell (p := ⟨w1.heap.size, 1, none⟩) bd_2z).trans bd_2_1
  have bd_3_2 := (HX3.out.cell (p := ⟨w1.heap.size, 2, none⟩) bd_2z).trans bd_2_2
  have bd_3z : w1.heap.size < w3.heap.size := Nat.lt_of_lt_of_le bd_2z (Nat.le_of_lt z3)
  clear bd_2_0 bd_2_1 bd_2_2 bd_2z
  have bw_3_0 := hb3.cell (p := ⟨w2.heap.size, 0, none⟩) (by simp)
  have bw_3_1 := hb3.cell (p := ⟨w2.heap.size, 1, none⟩) (by simp)
  have bw_3_2 := hb3.cell (p := ⟨w2.heap.size, 2, none⟩) (by simp)
  simp at bw_3_0 bw_3_1 bw_3_2
  have bw_3z : w2.heap.size < w3.heap.size := z3
  have HP2_3 := Lib.hid (HP2.out.below HX3.out (Nat.le_refl _))
  clear HP2
  clear hb3 ho3
  unfold diskV
  have HC4 := Lib.hid (H3.out (w3.alloc (.cells #[.int .i64 3, .string awF, .slice ao3 0 cap3] 24)) (.inl ⟨rfl, none, 0, rfl⟩))
  go_wp2_with fail
  refine (HC4.out).mono ?_
  rintro e w4 ⟨sl4, rfl, ho4, hb4⟩
  obtain ⟨ao4, cap4, rfl⟩ := ho4.form
  have HX4 := Lib.hid (((Below.refl w3.heap.size w3).new (.cells #[.int .i64 3, .string awF, .slice ao3 0 cap3] 24)).step hb4)
  have HB4 := Lib.hid (HB3.out.step HX4.out)
  have HP4 := Lib.hid ho4.patches
  have z4 : w3.heap.size < w4.heap.size := by have := hb4.size; rw [World.size_alloc] at this; exact this
  have bd_4_0 := (HX4.out.cell (p := ⟨w1.heap.size, 0, none⟩) bd_3z).trans bd_3_0
  have bd_4_1 := (HX4.out.cell (p := ⟨w1.heap.size, 1, none⟩) bd_3z).trans bd_3_1
  have bd_4_2 := (HX4.out.cell (p := ⟨w1.heap.size, 2, none⟩) bd_3z).trans bd_3_2
  have bd_4z : w1.heap.size < w4.heap.size := Nat.lt_of_lt_of_le bd_3z (Nat.le_of_lt z4)
  clear bd_3_0 bd_3_1 bd_3_2 bd_3z
  have bw_4_0 := (HX4.out.cell (p := ⟨w2.heap.size, 0, none⟩) bw_3z).trans bw_3_0
  have bw_4_1 := (HX4.out.cell (p := ⟨w2.heap.size, 1, none⟩) bw_3z).trans bw_3_1
  have bw_4_2 := (HX4.out.cell (p := ⟨w2.heap.size, 2, none⟩) bw_3z).trans bw_3_2
  have bw_4z : w2.heap.size < w4.heap.size := Nat.lt_of_lt_of_le bw_3z (Nat.le_of_lt z4)
  clear bw_3_0 bw_3_1 bw_3_2 bw_3z
  have HP2_4 := Lib.hid (HP2_3.out.below HX4.out (Nat.le_refl _))
  clear HP2_3
  clear hb4 ho4
  unfold diskV
  have HC5 := Lib.hid (H4.out (.slice ao 2 cap) (w4.alloc (.cells #[.int .i64 3, .string awF, .slice ao4 0 cap4] 24)) (HP2_4.out.below ((Below.refl _ _).new (.cells #[.int .i64 3, .string awF, .slice ao4 0 cap4] 24)) (Nat.le_refl _)))
  go_wp2_with fail
  refine (HC5.out).mono ?_
  rintro e w5 ⟨rfl, hb5⟩
  have HX5 := Lib.hid (((Below.refl w4.heap.size w4).new (.cells #[.int .i64 3, .string awF, .slice ao4 0 cap4] 24)).step hb5)
  have HB5 := Lib.hid (HB4.out.step HX5.out)
  have z5 : w4.heap.size < w5.heap.size := by have := hb5.size; rw [World.size_alloc] at this; exact this
  have bd_5_0 := (HX5.out.cell (p := ⟨w1.heap.size, 0, none⟩) bd_4z).trans bd_4_0
  have bd_5_1 := (HX5.out.cell (p := ⟨w1.heap.size, 1, none⟩) bd_4z).trans bd_4_1
  have bd_5_2 := (HX5.out.cell (p := ⟨w1.heap.size, 2, none⟩) bd_4z).trans bd_4_2
  have bd_5z : w1.heap.size < w5.heap.size := Nat.lt_of_lt_of_le bd_4z (Nat.le_of_lt z5)
  clear bd_4_0 bd_4_1 bd_4_2 bd_4z
  have bw_5_0 := (HX5.out.cell (p := ⟨w2.heap.size, 0, none⟩) bw_4z).trans bw_4_0
  have bw_5_1 := (HX5.out.cell (p := ⟨w2.heap.size, 1, none⟩) bw_4z).trans bw_4_1
  have bw_5_2 := (HX5.out.cell (p := ⟨w2.heap.size, 2, none⟩) bw_4z).trans bw_4_2
  have bw_5z : w2.heap.size < w5.heap.size := Nat.lt_of_lt_of_le bw_4z (Nat.le_of_lt z5)
  clear bw_4_0 bw_4_1 bw_4_2 bw_4z
  have HP2_5 := Lib.hid (HP2_4.out.below HX5.out (Nat.le_refl _))
  clear HP2_4
  clear hb5 
  have HC6 := Lib.hid (H5.out (.slice ao 2 cap) w5 HP2_5.out)
  go_wp2_with fail
  refine (HC6.out).mono ?_
  rintro e w6 ⟨rfl, hb6⟩
  have HX6 := Lib.hid ((Below.refl w5.heap.size w5).step hb6)
  have HB6 := Lib.hid (HB5.out.step HX6.out)
  have z6 : w5.heap.size ≤ w6.heap.size := by have := hb6.size; exact this
  have bd_6_0 := (HX6.out.cell (p := ⟨w1.heap.size, 0, none⟩) bd_5z).trans bd_5_0
  have bd_6_1 := (HX6.out.cell (p := ⟨w1.heap.size, 1, none⟩) bd_5z).trans bd_5_1
  have bd_6_2 := (HX6.out.cell (p := ⟨w1.heap.size, 2, none⟩) bd_5z).trans bd_5_2
  have bd_6z : w1.heap.size < w6.heap.size := Nat.lt_of_lt_of_le bd_5z z6
  clear bd_5_0 bd_5_1 bd_5_2 bd_5z
  have bw_6_0 := (HX6.out.cell (p := ⟨w2.heap.size, 0, none⟩) bw_5z).trans bw_5_0
  have bw_6_1 := (HX6.out.cell (p := ⟨w2.heap.size, 1, none⟩) bw_5z).trans bw_5_1
  have bw_6_2 := (HX6.out.cell (p := ⟨w2.heap.size, 2, none⟩) bw_5z).trans bw_5_2
  have bw_6z : w2.heap.size < w6.heap.size := Nat.lt_of_lt_of_le bw_5z z6
  clear bw_5_0 bw_5_1 bw_5_2 bw_5z
  have HP2_6 := Lib.hid (HP2_5.out.below HX6.out (Nat.le_refl _))
  clear HP2_5
  clear hb6 
  have HC7 := Lib.hid (H6.out (.slice ao 2 cap) w6 HP2_6.out)
  go_wp2_with fail
  refine (HC7.out).mono ?_
  rintro e w7 ⟨sl7, rfl, ho7, hb7⟩
  obtain ⟨ao7, cap7, rfl⟩ := ho7.form
  have HX7 := Lib.hid ((Below.refl w6.heap.size w6).step hb7)
  have HB7 := Lib.hid (HB6.out.step HX7.out)
  have HP7 := Lib.hid ho7.patches
  have z7 : w6.heap.size ≤ w7.heap.size := by have := hb7.size; exact this
  have bd_7_0 := (HX7.out.cell (p := ⟨w1.heap.size, 0, none⟩) bd_6z).trans bd_6_0
  have bd_7_1 := (HX7.out.cell (p := ⟨w1.heap.size, 1, none⟩) bd_6z).trans bd_6_1
  have bd_7_2 := (HX7.out.cell (p := ⟨w1.heap.size, 2, none⟩) bd_6z).trans bd_6_2
  have bd_7z : w1.heap.size < w7.heap.size := Nat.lt_of_lt_of_le bd_6z z7
  clear bd_6_0 bd_6_1 bd_6_2 bd_6z
  have bw_7_0 := (HX7.out.cell (p := ⟨w2.heap.size, 0, none⟩) bw_6z).trans bw_6_0
  have bw_7_1 := (HX7.out.cell (p := ⟨w2.heap.size, 1, none⟩) bw_6z).trans bw_6_1
  have bw_7_2 := (HX7.out.cell (p := ⟨w2.heap.size, 2, none⟩) bw_6z).trans bw_6_2
  have bw_7z : w2.heap.size < w7.heap.size := Nat.lt_of_lt_of_le bw_6z z7
  clear bw_6_0 bw_6_1 bw_6_2 bw_6z
  have HP2_7 := Lib.hid (HP2_6.out.below HX7.out (Nat.le_refl _))
  clear HP2_6
  clear hb7 ho7
  unfold diskV
  have HC8 := Lib.hid (H7.out (.slice ao 2 cap) (w7.alloc (.cells #[.int .i64 3, .string awC, .slice ao7 0 cap7] 24)) (HP2_7.out.below ((Below.refl _ _).new (.cells #[.int .i64 3, .string awC, .slice ao7 0 cap7] 24)) (Nat.le_refl _)))
  go_wp2_with fail
  refine (HC8.out).mono ?_
  rintro e w8 ⟨sl8, rfl, ho8, hb8⟩
  obtain ⟨ao8, cap8, rfl⟩ := ho8.form
  have HX8 := Lib.hid (((Below.refl w7.heap.size w7).new (.cells #[.int .i64 3, .string awC, .slice ao7 0 cap7] 24)).step hb8)
  have HB8 := Lib.hid (HB7.out.step HX8.out)
  have HP8 := Lib.hid ho8.patches
  have z8 : w7.heap.size < w8.heap.size := by have := hb8.size; rw [World.size_alloc] at this; exact this
  have bd_8_0 := (HX8.out.cell (p := ⟨w1.heap.size, 0, none⟩) bd_7z).trans bd_7_0
  have bd_8_1 := (HX8.out.cell (p := ⟨w1.heap.size, 1, none⟩) bd_7z).trans bd_7_1
  have bd_8_2 := (HX8.out.cell (p := ⟨w1.heap.size, 2, none⟩) bd_7z).trans bd_7_2
  have bd_8z : w1.heap.size < w8.heap.size := Nat.lt_of_lt_of_le bd_7z (Nat.le_of_lt z8)
  clear bd_7_0 bd_7_1 bd_7_2 bd_7z
  have bw_8_0 := (HX8.out.cell (p := ⟨w2.heap.size, 0, none⟩) bw_7z).trans bw_7_0
  have bw_8_1 := (HX8.out.cell (p := ⟨w2.heap.size, 1, none⟩) bw_7z).trans bw_7_1
  have bw_8_2 := (HX8.out.cell (p := ⟨w2.heap.size, 2, none⟩) bw_7z).trans bw_7_2
  have bw_8z : w2.heap.size < w8.heap.size := Nat.lt_of_lt_of_le bw_7z (Nat.le_of_lt z8)
  clear bw_7_0 bw_7_1 bw_7_2 bw_7z
  have bc_8_0 := hb8.cell (p := ⟨w7.heap.size, 0, none⟩) (by simp)
  have bc_8_1 := hb8.cell (p := ⟨w7.heap.size, 1, none⟩) (by simp)
  have bc_8_2 := hb8.cell (p := ⟨w7.heap.size, 2, none⟩) (by simp)
  simp at bc_8_0 bc_8_1 bc_8_2
  have bc_8z : w7.heap.size < w8.heap.size := z8
  have HP2_8 := Lib.hid (HP2_7.out.below HX8.out (Nat.le_refl _))
  clear HP2_7
  clear hb8 ho8
  unfold diskV
  have hC : awC.size = 48 := rfl
  have hX : awX.size = 32 := rfl
  have hK : awK.size = 48 := rfl
  have gX : (awX.extract 0 18).toList = [97, 98, 99, 100, 101, 102, 103, 104, 105, 106, 107, 108, 109, 110, 111, 112, 113, 0] := by rw [Lib.toList_data]; kernel_rfl
  have gC : (awC.extract 16 26).toList = [97, 98, 99, 100, 101, 102, 103, 104, 0, 0] := by rw [Lib.toList_data]; kernel_rfl
  have gC2 : (awC.extract 32 34).toList = [113, 0] := by rw [Lib.toList_data]; kernel_rfl
  have gK : (awK.extract 16 48).toList = awX.toList := by rw [Lib.toList_data, Lib.toList_data]; kernel_rfl
  clear H0 H1 H2 H3 H4 H5 H6 H7 HC1 HC2 HC3 HC4 HC5 HC6 HC7 HC8
  generalize awC = C at *
  generalize awX = X at *
  generalize awK = K at *
  generalize awF = F at *
  have HC9 := Lib.hid (H8.out (.slice ao 2 cap) (w8.alloc (.cells #[.int .i64 3, .string K, .slice ao8 0 cap8] 24)) (HP2_8.out.below ((Below.refl _ _).new (.cells #[.int .i64 3, .string K, .slice ao8 0 cap8] 24)) (Nat.le_refl _)))
  go_wp2_with fail
  refine (HC9.out).mono ?_
  rintro e w9 ⟨rfl, hb9⟩
  have HX9 := Lib.hid (((Below.refl w8.heap.size w8).new (.cells #[.int .i64 3, .string K, .slice ao8 0 cap8] 24)).step hb9)
  have HB9 := Lib.hid (HB8.out.step HX9.out)
  have z9 : w8.heap.size < w9.heap.size := by have := hb9.size; rw [World.size_alloc] at this; exact this
  have bd_9_0 := (HX9.out.cell (p := ⟨w1.heap.size, 0, none⟩) bd_8z).trans bd_8_0
  have bd_9_1 := (HX9.out.cell (p := ⟨w1.heap.size, 1, none⟩) bd_8z).trans bd_8_1
  have bd_9_2 := (HX9.out.cell (p := ⟨w1.heap.size, 2, none⟩) bd_8z).trans bd_8_2
  have bd_9z : w1.heap.size < w9.heap.size := Nat.lt_of_lt_of_le bd_8z (Nat.le_of_lt z9)
  clear bd_8_0 bd_8_1 bd_8_2 bd_8z
  have bw_9_0 := (HX9.out.cell (p := ⟨w2.heap.size, 0, none⟩) bw_8z).trans bw_8_0
  have bw_9_1 := (HX9.out.cell (p := ⟨w2.heap.size, 1, none⟩) bw_8z).trans bw_8_1
  have bw_9_2 := (HX9.out.cell (p := ⟨w2.heap.size, 2, none⟩) bw_8z).trans bw_8_2
  have bw_9z : w2.heap.size < w9.heap.size := Nat.lt_of_lt_of_le bw_8z (Nat.le_of_lt z9)
  clear bw_8_0 bw_8_1 bw_8_2 bw_8z
  have bc_9_0 := (HX9.out.cell (p := ⟨w7.heap.size, 0, none⟩) bc_8z).trans bc_8_0
  have bc_9_1 := (HX9.out.cell (p := ⟨w7.heap.size, 1, none⟩) bc_8z).trans bc_8_1
  have bc_9_2 := (HX9.out.cell (p := ⟨w7.heap.size, 2, none⟩) bc_8z).trans bc_8_2
  have bc_9z : w7.heap.size < w9.heap.size := Nat.lt_of_lt_of_le bc_8z (Nat.le_of_lt z9)
  clear bc_8_0 bc_8_1 bc_8_2 bc_8z
  have HP2_9 := Lib.hid (HP2_8.out.below HX9.out (Nat.le_refl _))
  clear HP2_8
  clear hb9 
  have HC10 := Lib.hid (H9.out (.slice none 0 0) w9 (.inl ⟨rfl, none, 0, rfl⟩))
  go_wp2_with fail
  refine (HC10.out).mono ?_
  rintro e w10 ⟨rfl, hb10⟩
  have HX10 := Lib.hid ((Below.refl w9.heap.size w9).step hb10)
  have HB10 := Lib.hid (HB9.out.step HX10.out)
  have z10 : w9.heap.size ≤ w10.heap.size := by have := hb10.size; exact this
  have bd_10_0 := (HX10.out.cell (p := ⟨w1.heap.size, 0, none⟩) bd_9z).trans bd_9_0
  have bd_10_1 := (HX10.out.cell (p := ⟨w1.heap.size, 1, none⟩) bd_9z).trans bd_9_1
  have bd_10_2 := (HX10.out.cell (p := ⟨w1.heap.size, 2, none⟩) bd_9z).trans bd_9_2
  have bd_10z : w1.heap.size < w10.heap.size := Nat.lt_of_lt_of_le bd_9z z10
  clear bd_9_0 bd_9_1 bd_9_2 bd_9z
  have bw_10_0 := (HX10.out.cell (p := ⟨w2.heap.size, 0, none⟩) bw_9z).trans bw_9_0
  have bw_10_1 := (HX10.out.cell (p := ⟨w2.heap.size, 1, none⟩) bw_9z).trans bw_9_1
  have bw_10_2 := (HX10.out.cell (p := ⟨w2.heap.size, 2, none⟩) bw_9z).trans bw_9_2
  have bw_10z : w2.heap.size < w10.heap.size := Nat.lt_of_lt_of_le bw_9z z10
  clear bw_9_0 bw_9_1 bw_9_2 bw_9z
  have bc_10_0 := (HX10.out.cell (p := ⟨w7.heap.size, 0, none⟩) bc_9z).trans bc_9_0
  have bc_10_1 := (HX10.out.cell (p := ⟨w7.heap.size, 1, none⟩) bc_9z).trans bc_9_1
  have bc_10_2 := (HX10.out.cell (p := ⟨w7.heap.size, 2, none⟩) bc_9z).trans bc_9_2
  have bc_10z : w7.heap.size < w10.heap.size := Nat.lt_of_lt_of_le bc_9z z10
  clear bc_9_0 bc_9_1 bc_9_2 bc_9z
  have HP2_10 := Lib.hid (HP2_9.out.below HX10.out (Nat.le_refl _))
  clear HP2_9
  clear hb10 
  go_wp2_with fail
  go_ret
  exact ⟨rfl, HB10.out⟩
end Go.Proofs.Ytfehckdcjgmcpaa
