/- The walk of gunwalelaw12.DiskReads. -/
import Derived.Test.YtfehckdcjgmcpaaDiskAwake
import Derived.Test.YtfehckdcjgmcpaaDiskPlain2
namespace Go.Proofs.Ytfehckdcjgmcpaa
open Go.RowKit

set_option maxRecDepth 1000000 in
set_option maxHeartbeats 1000000 in
theorem diskReads_few (d : Gw.Disk.Disk) (_hsz : -9223372036854775808 ≤ d.size ∧ d.size ≤ 9223372036854775807) (hl : d.loose.length ≤ maxLen) (sl : Value) (at_ : Int) (_ha : -9223372036854775808 ≤ at_ ∧ at_ ≤ 9223372036854775807) (s : ByteArray) (other : Int) (_ho : -9223372036854775808 ≤ other ∧ other ≤ 9223372036854775807) (w : World) (hp : PatchesAt w sl d.loose) (hf : few d = false) :
    Calls Try.prog 4 #[diskV d sl, .int .i64 at_, .string s, .int .i64 other] w fun e w' => e = .returned (.bool true) ∧ Below w.heap.size w w' := by
  have HA := Lib.hid awake_any
  have HF := Lib.hid (rfew_any d hl sl)
  rw [hf] at HF
  clear hf
  obtain ⟨size, firm, ps⟩ := d
  unfold diskV at *
  simp only at hp hl HF ⊢
  have HB0 := Lib.hid (Below.refl w.heap.size w)
  have HP0 := Lib.hid hp
  clear hp
  go_enter Try.func4, Try.ntmps4
  have SC1 := Lib.hid (HA.out (w.alloc (.cells #[.int .i64 size, .string firm, sl] 24)))
  go_wp2_with fail
  refine (SC1.out).mono ?_
  rintro e w1 ⟨rfl, hb1⟩
  have HX1 := Lib.hid (((Below.refl w.heap.size w).new (.cells #[.int .i64 size, .string firm, sl] 24)).step hb1)
  have HB1 := Lib.hid (HB0.out.step HX1.out)
  have z1 : w.heap.size < w1.heap.size := by have := hb1.size; rw [World.size_alloc] at this; exact this
  have bd_1_0 := hb1.cell (p := ⟨w.heap.size, 0, none⟩) (by simp)
  have bd_1_1 := hb1.cell (p := ⟨w.heap.size, 1, none⟩) (by simp)
  have bd_1_2 := hb1.cell (p := ⟨w.heap.size, 2, none⟩) (by simp)
  simp at bd_1_0 bd_1_1 bd_1_2
  have bd_1z : w.heap.size < w1.heap.size := z1
  have HP0_1 := Lib.hid (HP0.out.below HX1.out (Nat.le_refl _))
  clear HP0
  clear hb1 
  have SC2 := Lib.hid (HF.out w1 HP0_1.out)
  go_wp2_with fail
  refine (SC2.out).mono ?_
  rintro e w2 ⟨rfl, hb2⟩
  have HX2 := Lib.hid ((Below.refl w1.heap.size w1).step hb2)
  have HB2 := Lib.hid (HB1.out.step HX2.out)
  have z2 : w1.heap.size ≤ w2.heap.size := by have := hb2.size; exact this
  have bd_2_0 := (HX2.out.cell (p := ⟨w.heap.size, 0, none⟩) bd_1z).trans bd_1_0
  have bd_2_1 := (HX2.out.cell (p := ⟨w.heap.size, 1, none⟩) bd_1z).trans bd_1_1
  have bd_2_2 := (HX2.out.cell (p := ⟨w.heap.size, 2, none⟩) bd_1z).trans bd_1_2
  have bd_2z : w.heap.size < w2.heap.size := Nat.lt_of_lt_of_le bd_1z z2
  clear bd_1_0 bd_1_1 bd_1_2 bd_1z
  have HP0_2 := Lib.hid (HP0_1.out.below HX2.out (Nat.le_refl _))
  clear HP0_1
  clear hb2 
  go_wp2_with fail
  go_ret
  exact ⟨rfl, HB2.out⟩
set_option maxRecDepth 1000000 in
set_option maxHeartbeats 1000000 in
theorem diskReads_len0 (d : Gw.Disk.Disk) (_hsz : -9223372036854775808 ≤ d.size ∧ d.size ≤ 9223372036854775807) (hl : d.loose.length ≤ maxLen) (sl : Value) (at_ : Int) (_ha : -9223372036854775808 ≤ at_ ∧ at_ ≤ 9223372036854775807) (s : ByteArray) (other : Int) (_ho : -9223372036854775808 ≤ other ∧ other ≤ 9223372036854775807) (w : World) (hp : PatchesAt w sl d.loose) (hf : few d = true) (hx : ¬ s.size ≤ 1000) :
    Calls Try.prog 4 #[diskV d sl, .int .i64 at_, .string s, .int .i64 other] w fun e w' => e = .returned (.bool true) ∧ Below w.heap.size w w' := by
  have HA := Lib.hid awake_any
  have HF := Lib.hid (rfew_any d hl sl)
  rw [hf] at HF
  have es : decide ((1000 : Int) < (s.size : Int)) = true := decide_eq_true (by omega)
  clear hf hx
  obtain ⟨size, firm, ps⟩ := d
  unfold diskV at *
  simp only at hp hl HF ⊢
  have HB0 := Lib.hid (Below.refl w.heap.size w)
  have HP0 := Lib.hid hp
  clear hp
  go_enter Try.func4, Try.ntmps4
  have SC1 := Lib.hid (HA.out (w.alloc (.cells #[.int .i64 size, .string firm, sl] 24)))
  go_wp2_with fail
  refine (SC1.out).mono ?_
  rintro e w1 ⟨rfl, hb1⟩
  have HX1 := Lib.hid (((Below.refl w.heap.size w).new (.cells #[.int .i64 size, .string firm, sl] 24)).step hb1)
  have HB1 := Lib.hid (HB0.out.step HX1.out)
  have z1 : w.heap.size < w1.heap.size := by have := hb1.size; rw [World.size_alloc] at this; exact this
  have bd_1_0 := hb1.cell (p := ⟨w.heap.size, 0, none⟩) (by simp)
  have bd_1_1 := hb1.cell (p := ⟨w.heap.size, 1, none⟩) (by simp)
  have bd_1_2 := hb1.cell (p := ⟨w.heap.size, 2, none⟩) (by simp)
  simp at bd_1_0 bd_1_1 bd_1_2
  have bd_1z : w.heap.size < w1.heap.size := z1
  have HP0_1 := Lib.hid (HP0.out.below HX1.out (Nat.le_refl _))
  clear HP0
  clear hb1 
  have SC2 := Lib.hid (HF.out w1 HP0_1.out)
  go_wp2_with fail
  refine (SC2.out).mono ?_
  rintro e w2 ⟨rfl, hb2⟩
  have HX2 := Lib.hid ((Below.refl w1.heap.size w1).step hb2)
  have HB2 := Lib.hid (HB1.out.step HX2.out)
  have z2 : w1.heap.size ≤ w2.heap.size := by have := hb2.size; exact this
  have bd_2_0 := (HX2.out.cell (p := ⟨w.heap.size, 0, none⟩) bd_1z).trans bd_1_0
  have bd_2_1 := (HX2.out.cell (p := ⟨w.heap.size, 1, none⟩) bd_1z).trans bd_1_1
  have bd_2_2 := (HX2.out.cell (p := ⟨w.heap.size, 2, none⟩) bd_1z).trans bd_1_2
  have bd_2z : w.heap.size < w2.heap.size := Nat.lt_of_lt_of_le bd_1z z2
  clear bd_1_0 bd_1_1 bd_1_2 bd_1z
  have HP0_2 := Lib.hid (HP0_1.out.below HX2.out (Nat.le_refl _))
  clear HP0_1
  clear hb2 
  go_wp2_with fail
  go_ret
  exact ⟨rfl, HB2.out⟩
set_option maxRecDepth 1000000 in
set_option maxHeartbeats 1000000 in
theorem diskReads_chk (d : Gw.Disk.Disk) (hsz : -9223372036854775808 ≤ d.size ∧ d.size ≤ 9223372036854775807) (hl : d.loose.length ≤ maxLen) (sl : Value) (at_ : Int) (_ha : -9223372036854775808 ≤ at_ ∧ at_ ≤ 9223372036854775807) (s : ByteArray) (other : Int) (_ho : -9223372036854775808 ≤ other ∧ other ≤ 9223372036854775807) (w : World) (hp : PatchesAt w sl d.loose) (hf : few d = true) (hs : s.size ≤ 1000) (hc : Gw.Disk.check d = false) :
    Calls Try.prog 4 #[diskV d sl, .int .i64 at_, .string s, .int .i64 other] w fun e w' => e = .returned (.bool true) ∧ Below w.heap.size w w' := by
  have HA := Lib.hid awake_any
  have HF := Lib.hid (rfew_any d hl sl)
  rw [hf] at HF
  have HC := Lib.hid (check_any d hsz hl sl)
  rw [hc] at HC
  have es : decide ((1000 : Int) < (s.size : Int)) = false := decide_eq_false (by omega)
  clear hf hs hc
  obtain ⟨size, firm, ps⟩ := d
  unfold diskV at *
  simp only at hp hl HF HC ⊢
  have HB0 := Lib.hid (Below.refl w.heap.size w)
  have HP0 := Lib.hid hp
  clear hp
  go_enter Try.func4, Try.ntmps4
  have SC1 := Lib.hid (HA.out (w.alloc (.cells #[.int .i64 size, .string firm, sl] 24)))
  go_wp2_with fail
  refine (SC1.out).mono ?_
  rintro e w1 ⟨rfl, hb1⟩
  have HX1 := Lib.hid (((Below.refl w.heap.size w).new (.cells #[.int .i64 size, .string firm, sl] 24)).step hb1)
  have HB1 := Lib.hid (HB0.out.step HX1.out)
  have z1 : w.heap.size < w1.heap.size := by have := hb1.size; rw [World.size_alloc] at this; exact this
  have bd_1_0 := hb1.cell (p := ⟨w.heap.size, 0, none⟩) (by simp)
  have bd_1_1 := hb1.cell (p := ⟨w.heap.size, 1, none⟩) (by simp)
  have bd_1_2 := hb1.cell (p := ⟨w.heap.size, 2, none⟩) (by simp)
  simp at bd_1_0 bd_1_1 bd_1_2
  have bd_1z : w.heap.size < w1.heap.size := z1
  have HP0_1 := Lib.hid (HP0.out.below HX1.out (Nat.le_refl _))
  clear HP0
  clear hb1 
  have SC2 := Lib.hid (HF.out w1 HP0_1.out)
  go_wp2_with fail
  refine (SC2.out).mono ?_
  rintro e w2 ⟨rfl, hb2⟩
  have HX2 := Lib.hid ((Below.refl w1.heap.size w1).step hb2)
  have HB2 := Lib.hid (HB1.out.step HX2.out)
  have z2 : w1.heap.size ≤ w2.heap.size := by have := hb2.size; exact this
  have bd_2_0 := (HX2.out.cell (p := ⟨w.heap.size, 0, none⟩) bd_1z).trans bd_1_0
  have bd_2_1 := (HX2.out.cell (p := ⟨w.heap.size, 1, none⟩) bd_1z).trans bd_1_1
  have bd_2_2 := (HX2.out.cell (p := ⟨w.heap.size, 2, none⟩) bd_1z).trans bd_1_2
  have bd_2z : w.heap.size < w2.heap.size := Nat.lt_of_lt_of_le bd_1z z2
  clear bd_1_0 bd_1_1 bd_1_2 bd_1z
  have HP0_2 := Lib.hid (HP0_1.out.below HX2.out (Nat.le_refl _))
  clear HP0_1
  clear hb2 
  have SC3 := Lib.hid (HC.out w2 HP0_2.out)
  go_wp2_with fail
  refine (SC3.out).mono ?_
  rintro e w3 ⟨rfl, hb3⟩
  have HX3 := Lib.hid ((Below.refl w2.heap.size w2).step hb3)
  have HB3 := Lib.hid (HB2.out.step HX3.out)
  have z3 : w2.heap.size ≤ w3.heap.size := by have := hb3.size; exact this
  have bd_3_0 := (HX3.out.cell (p := ⟨w.heap.size, 0, none⟩) bd_2z).trans bd_2_0
  have bd_3_1 := (HX3.out.cell (p := ⟨w.heap.size, 1, none⟩) bd_2z).trans bd_2_1
  have bd_3_2 := (HX3.out.cell (p := ⟨w.heap.size, 2, none⟩) bd_2z).trans bd_2_2
  have bd_3z : w.heap.size < w3.heap.size := Nat.lt_of_lt_of_le bd_2z z3
  clear bd_2_0 bd_2_1 bd_2_2 bd_2z
  have HP0_3 := Lib.hid (HP0_2.out.below HX3.out (Nat.le_refl _))
  clear HP0_2
  clear hb3 
  go_wp2_with fail
  go_ret
  exact ⟨rfl, HB3.out⟩

set_option maxRecDepth 1000000 in
set_option maxHeartbeats 1000000 in
theorem diskReads_none (d : Gw.Disk.Disk) (hsz : -9223372036854775808 ≤ d.size ∧ d.size ≤ 9223372036854775807) (hl : d.loose.length ≤ maxLen) (sl : Value) (at_ : Int) (_ha : -9223372036854775808 ≤ at_ ∧ at_ ≤ 9223372036854775807) (s : ByteArray) (other : Int) (_ho : -9223372036854775808 ≤ other ∧ other ≤ 9223372036854775807) (w : World) (hp : PatchesAt w sl d.loose) (hf : few d = true) (hs : s.size ≤ 1000) (hc : Gw.Disk.check d = true) (he : Gw.Disk.writeErr d at_ s ≠ 0) :
    Calls Try.prog 4 #[diskV d sl, .int .i64 at_, .string s, .int .i64 other] w fun e w' => e = .returned (.bool true) ∧ Below w.heap.size w w' := by
  have hfs : d.loose.length ≤ 100 := by
    unfold few at hf
    simp only [Bool.and_eq_true, decide_eq_true_eq] at hf
    exact hf.2.2.2
  have HA := Lib.hid awake_any
  have HF := Lib.hid (rfew_any d hl sl)
  rw [hf] at HF
  have HC := Lib.hid (check_any d hsz hl sl)
  rw [hc] at HC
  have es : decide ((1000 : Int) < (s.size : Int)) = false := decide_eq_false (by omega)
  have HW := Lib.hid (write_any d hsz (by omega) sl at_ s (by omega))
  have hwr : Gw.Disk.write d at_ s = d := by simp [Gw.Disk.write, he]
  rw [hwr] at HW
  have e1 : ((Gw.Disk.writeErr d at_ s : Int) != 0) = true := by rw [bne_iff_ne]; omega
  have HS := Lib.hid (fun sl' => rsame_any d hl sl' sl)
  generalize Gw.Disk.writeErr d at_ s = E at *
  clear hf hc hwr he hfs
  obtain ⟨size, firm, ps⟩ := d
  unfold SaidDiskErr at HW
  unfold diskV at *
  simp only at hp hl hsz HF HC HW HS ⊢
  obtain ⟨ao0, cap0, rfl⟩ := hp.form
  have HB0 := Lib.hid (Below.refl w.heap.size w)
  have HP0 := Lib.hid hp
  clear hp
  go_enter Try.func4, Try.ntmps4
  have SC1 := Lib.hid (HA.out (w.alloc (.cells #[.int .i64 size, .string firm, .slice ao0 ps.length cap0] 24)))
  go_wp2_with fail
  refine (SC1.out).mono ?_
  rintro e w1 ⟨rfl, hb1⟩
  have HX1 := Lib.hid (((Below.refl w.heap.size w).new (.cells #[.int .i64 size, .string firm, .slice ao0 ps.length cap0] 24)).step hb1)
  have HB1 := Lib.hid (HB0.out.step HX1.out)
  have z1 : w.heap.size < w1.heap.size := by have := hb1.size; rw [World.size_alloc] at this; exact this
  have bd_1_0 := hb1.cell (p := ⟨w.heap.size, 0, none⟩) (by simp)
  have bd_1_1 := hb1.cell (p := ⟨w.heap.size, 1, none⟩) (by simp)
  have bd_1_2 := hb1.cell (p := ⟨w.heap.size, 2, none⟩) (by simp)
  simp at bd_1_0 bd_1_1 bd_1_2
  have bd_1z : w.heap.size < w1.heap.size := z1
  have HP0_1 := Lib.hid (HP0.out.below HX1.out (Nat.le_refl _))
  clear HP0
  clear hb1 
  have SC2 := Lib.hid (HF.out w1 HP0_1.out)
  go_wp2_with fail
  refine (SC2.out).mono ?_
  rintro e w2 ⟨rfl, hb2⟩
  have HX2 := Lib.hid ((Below.refl w1.heap.size w1).step hb2)
  have HB2 := Lib.hid (HB1.out.step HX2.out)
  have z2 : w1.heap.size ≤ w2.heap.size := by have := hb2.size; exact this
  have bd_2_0 := (HX2.out.cell (p := ⟨w.heap.size, 0, none⟩) bd_1z).trans bd_1_0
  have bd_2_1 := (HX2.out.cell (p := ⟨w.heap.size, 1, none⟩) bd_1z).trans bd_1_1
  have bd_2_2 := (HX2.out.cell (p := ⟨w.heap.size, 2, none⟩) bd_1z).trans bd_1_2
  have bd_2z : w.heap.size < w2.heap.size := Nat.lt_of_lt_of_le bd_1z z2
  clear bd_1_0 bd_1_1 bd_1_2 bd_1z
  have HP0_2 := Lib.hid (HP0_1.out.below HX2.out (Nat.le_refl _))
  clear HP0_1
  clear hb2 
  have SC3 := Lib.hid (HC.out w2 HP0_2.out)
  go_wp2_with fail
  refine (SC3.out).mono ?_
  rintro e w3 ⟨rfl, hb3⟩
  have HX3 := Lib.hid ((Below.refl w2.heap.size w2).step hb3)
  have HB3 := Lib.hid (HB2.out.step HX3.out)
  have z3 : w2.heap.size ≤ w3.heap.size := by have := hb3.size; exact this
  have bd_3_0 := (HX3.out.cell (p := ⟨w.heap.size, 0, none⟩) bd_2z).trans bd_2_0
  have bd_3_1 := (HX3.out.cell (p := ⟨w.heap.size, 1, none⟩) bd_2z).trans bd_2_1
  have bd_3_2 := (HX3.out.cell (p := ⟨w.heap.size, 2, none⟩) bd_2z).trans bd_2_2
  have bd_3z : w.heap.size < w3.heap.size := Nat.lt_of_lt_of_le bd_2z z3
  clear bd_2_0 bd_2_1 bd_2_2 bd_2z
  have HP0_3 := Lib.hid (HP0_2.out.below HX3.out (Nat.le_refl _))
  clear HP0_2
  clear hb3 
  have SC4 := Lib.hid (HW.out w3 HP0_3.out)
  go_wp2_with fail
  refine (SC4.out).mono ?_
  rintro e w4 ⟨sl4, rfl, ho4, hb4⟩
  obtain ⟨ao, cap, rfl⟩ := ho4.form
  have HX4 := Lib.hid ((Below.refl w3.heap.size w3).step hb4)
  have HB4 := Lib.hid (HB3.out.step HX4.out)
  have HP4 := Lib.hid ho4.patches
  have z4 : w3.heap.size ≤ w4.heap.size := by have := hb4.size; exact this
  have bd_4_0 := (HX4.out.cell (p := ⟨w.heap.size, 0, none⟩) bd_3z).trans bd_3_0
  have bd_4_1 := (HX4.out.cell (p := ⟨w.heap.size, 1, none⟩) bd_3z).trans bd_3_1
  have bd_4_2 := (HX4.out.cell (p := ⟨w.heap.size, 2, none⟩) bd_3z).trans bd_3_2
  have bd_4z : w.heap.size < w4.heap.size := Nat.lt_of_lt_of_le bd_3z z4
  clear bd_3_0 bd_3_1 bd_3_2 bd_3z
  have HP0_4 := Lib.hid (HP0_3.out.below HX4.out (Nat.le_refl _))
  clear HP0_3
  clear hb4 ho4
  have SC5 := Lib.hid (HS.out (.slice ao ps.length cap) (w4.alloc (.cells #[.int .i64 size, .string firm, .slice ao ps.length cap] 24)) (HP4.out.below ((Below.refl _ _).new (.cells #[.int .i64 size, .string firm, .slice ao ps.length cap] 24)) (Nat.le_refl _)) (HP0_4.out.below ((Below.refl _ _).new (.cells #[.int .i64 size, .string firm, .slice ao ps.length cap] 24)) (Nat.le_refl _)))
  go_wp2_with fail
  refine (SC5.out).mono ?_
  rintro e w5 ⟨rfl, hb5⟩
  have HX5 := Lib.hid (((Below.refl w4.heap.size w4).new (.cells #[.int .i64 size, .string firm, .slice ao ps.length cap] 24)).step hb5)
  have HB5 := Lib.hid (HB4.out.step HX5.out)
  have z5 : w4.heap.size < w5.heap.size := by have := hb5.size; rw [World.size_alloc] at this; exact this
  have bd_5_0 := (HX5.out.cell (p := ⟨w.heap.size, 0, none⟩) bd_4z).trans bd_4_0
  have bd_5_1 := (HX5.out.cell (p := ⟨w.heap.size, 1, none⟩) bd_4z).trans bd_4_1
  have bd_5_2 := (HX5.out.cell (p := ⟨w.heap.size, 2, none⟩) bd_4z).trans bd_4_2
  have bd_5z : w.heap.size < w5.heap.size := Nat.lt_of_lt_of_le bd_4z (Nat.le_of_lt z5)
  clear bd_4_0 bd_4_1 bd_4_2 bd_4z
  have HP0_5 := Lib.hid (HP0_4.out.below HX5.out (Nat.le_refl _))
  clear HP0_4
  have HP4_5 := Lib.hid (HP4.out.below HX5.out (Nat.le_refl _))
  clear HP4
  clear hb5 
  go_wp2_with fail
  go_ret
  exact ⟨rfl, HB5.out⟩

set_option maxRecDepth 1000000 in
set_option maxHeartbeats 1000000 in
theorem diskReads_done (d : Gw.Disk.Disk) (hsz : -9223372036854775808 ≤ d.size ∧ d.size ≤ 9223372036854775807) (hl : d.loose.length ≤ maxLen) (sl : Value) (at_ : Int) (ha : -9223372036854775808 ≤ at_ ∧ at_ ≤ 9223372036854775807) (s : ByteArray) (other : Int) (ho : -9223372036854775808 ≤ other ∧ other ≤ 9223372036854775807) (w : World) (hp : PatchesAt w sl d.loose) (hf : few d = true) (hs : s.size ≤ 1000) (hc : Gw.Disk.check d = true) (he : Gw.Disk.writeErr d at_ s = 0) :
    Calls Try.prog 4 #[diskV d sl, .int .i64 at_, .string s, .int .i64 other] w fun e w' => e = .returned (.bool true) ∧ Below w.heap.size w w' := by
  have hfs : d.loose.length ≤ 100 := by
    unfold few at hf
    simp only [Bool.and_eq_true, decide_eq_true_eq] at hf
    exact hf.2.2.2
  have HA := Lib.hid awake_any
  have HF := Lib.hid (rfew_any d hl sl)
  rw [hf] at HF
  have HC := Lib.hid (check_any d hsz hl sl)
  rw [hc] at HC
  have es : decide ((1000 : Int) < (s.size : Int)) = false := decide_eq_false (by omega)
  obtain ⟨a, rfl, hfit⟩ := Gw.Disk.writeErr_zero he
  have HW := Lib.hid (write_any d hsz (by omega) sl (a : Int) s (by omega))
  have hwr : Gw.Disk.write d (a : Int) s = ⟨d.size, d.firm, d.loose ++ Gw.Disk.wrote (a : Int) s (Gw.Disk.manyOf s)⟩ := by simp [Gw.Disk.write, he]
  rw [hwr, he] at HW
  have hck := Gw.Disk.check_wrote hc a s hfit
  have hrw := Gw.Disk.read_wrote hc a s hfit
  have hro := fun hno => Gw.Disk.read_other hc a s hfit other hno
  have hre := (Gw.Disk.readErr_same (d' := ⟨d.size, d.firm, d.loose ++ Gw.Disk.wrote (a : Int) s (Gw.Disk.manyOf s)⟩) hc hck rfl other 1).2
  have hsp := Gw.Disk.check_spec hc
  have hnm : Gw.Disk.manyOf s ≤ 63 := by unfold Gw.Disk.manyOf; omega
  have hpl := Gw.Disk.pad_length s
  have hpz := Gw.Disk.pad_zero s
  have hpt := Gw.Disk.pad_take s
  have hmd : (s.size + 15) / 16 = Gw.Disk.manyOf s := rfl
  have hms : s.size ≤ Gw.Disk.manyOf s * 16 := by unfold Gw.Disk.manyOf; omega
  have hLl : (d.loose ++ Gw.Disk.wrote (a : Int) s (Gw.Disk.manyOf s)).length ≤ 1000 := by rw [List.length_append, Gw.Disk.wrote_length]; omega
  have HR1 := Lib.hid (fun sl' => read_any ⟨d.size, d.firm, d.loose ++ Gw.Disk.wrote (a : Int) s (Gw.Disk.manyOf s)⟩ hsz (by simp only; unfold maxLen; omega) sl' (a : Int) (Gw.Disk.manyOf s : Int) (by omega) (by omega))
  rw [hrw.1, hrw.2] at HR1
  have HR2 := Lib.hid (fun sl' => read_any ⟨d.size, d.firm, d.loose ++ Gw.Disk.wrote (a : Int) s (Gw.Disk.manyOf s)⟩ hsz (by simp only; unfold maxLen; omega) sl' other 1 ho (by omega))
  rw [hre] at HR2
  have HR3 := Lib.hid (read_any d hsz hl sl other 1 ho (by omega))
  have HC2 := Lib.hid (fun sl' => check_any ⟨d.size, d.firm, d.loose ++ Gw.Disk.wrote (a : Int) s (Gw.Disk.manyOf s)⟩ hsz (by simp only; unfold maxLen; omega) sl')
  rw [hck] at HC2
  have hs1 := hsp.2.1
  clear hf hc hwr hck hrw hre hsp
  obtain ⟨size, firm, ps⟩ := d
  unfold SaidDiskErr at HW
  unfold diskV at *
  simp only at hp hl hsz hfit hfs hs1 hLl hro HF HC HC2 HW HR1 HR2 HR3 ⊢
  generalize ps ++ Gw.Disk.wrote (a : Int) s (Gw.Disk.manyOf s) = L at *
  generalize Gw.Disk.readErr ⟨size, firm, ps⟩ other 1 = E at *
  have hyz : ((⟨(Gw.Disk.read ⟨size, firm, L⟩ other 1).toArray⟩ : ByteArray).toList == (⟨(Gw.Disk.read ⟨size, firm, ps⟩ other 1).toArray⟩ : ByteArray).toList) = true ∨ ((a : Int) ≤ other ∧ other < (a : Int) + (Gw.Disk.manyOf s : Int)) := by
    by_cases hin : (a : Int) ≤ other ∧ other < (a : Int) + (Gw.Disk.manyOf s : Int)
    · exact .inr hin
    · rw [hro hin]
      exact .inl (by simp)
  generalize (⟨(Gw.Disk.read ⟨size, firm, L⟩ other 1).toArray⟩ : ByteArray) = Y at *
  generalize (⟨(Gw.Disk.read ⟨size, firm, ps⟩ other 1).toArray⟩ : ByteArray) = Z at *
  have hXs : (⟨(Gw.Disk.pad s).toArray⟩ : ByteArray).size = Gw.Disk.manyOf s * 16 := by
    show (Gw.Disk.pad s).toArray.size = _
    rw [List.size_toArray, hpl]
  have hXz : ∀ (k : Nat) (h : k < (⟨(Gw.Disk.pad s).toArray⟩ : ByteArray).size), s.size ≤ k → (⟨(Gw.Disk.pad s).toArray⟩ : ByteArray)[k]'h = 0 := fun k h h1 => by
    show (Gw.Disk.pad s).toArray[k]'h = 0
    rw [List.getElem_toArray]
    exact hpz k h1 _
  have hXt : ((⟨(Gw.Disk.pad s).toArray⟩ : ByteArray).extract 0 s.size).toList = s.toList := by
    rw [Lib.toList_data, Lib.toList_data, Lib.extract_data, List.drop_zero, Nat.sub_zero]
    exact hpt
  generalize (⟨(Gw.Disk.pad s).toArray⟩ : ByteArray) = X at *
  have HXS := Lib.hid hXs
  have HXZ := Lib.hid hXz
  have HYZ := Lib.hid hyz
  have hmI : ((s.size : Int) + 15) / 16 = (Gw.Disk.manyOf s : Int) := by omega
  have hX16 : ((X.size : Int) != 16 * (Gw.Disk.manyOf s : Int)) = false := by rw [bne_eq_false_iff_eq]; omega
  clear hpl hpz hpt hXz hXs hro hyz hmd
  generalize Gw.Disk.manyOf s = m at *
  obtain ⟨ao0, cap0, rfl⟩ := hp.form
  have HB0 := Lib.hid (Below.refl w.heap.size w)
  have HP0 := Lib.hid hp
  clear hp
  go_enter Try.func4, Try.ntmps4
  have SC1 := Lib.hid (HA.out (w.alloc (.cells #[.int .i64 size, .string firm, .slice ao0 ps.length cap0] 24)))
  go_wp2_with fail
  refine (SC1.out).mono ?_
  rintro e w1 ⟨rfl, hb1⟩
  have HX1 := Lib.hid (((Below.refl w.heap.size w).new (.cells #[.int .i64 size, .string firm, .slice ao0 ps.length cap0] 24)).step hb1)
  have HB1 := Lib.hid (HB0.out.step HX1.out)
  have z1 : w.heap.size < w1.heap.size := by have := hb1.size; rw [World.size_alloc] at this; exact this
  have bd_1_0 := hb1.cell (p := ⟨w.heap.size, 0, none⟩) (by simp)
  have bd_1_1 := hb1.cell (p := ⟨w.heap.size, 1, none⟩) (by simp)
  have bd_1_2 := hb1.cell (p := ⟨w.heap.size, 2, none⟩) (by simp)
  simp at bd_1_0 bd_1_1 bd_1_2
  have bd_1z : w.heap.size < w1.heap.size := z1
  have HP0_1 := Lib.hid (HP0.out.below HX1.out (Nat.le_refl _))
  clear HP0
  clear hb1 
  have SC2 := Lib.hid (HF.out w1 HP0_1.out)
  go_wp2_with fail
  refine (SC2.out).mono ?_
  rintro e w2 ⟨rfl, hb2⟩
  have HX2 := Lib.hid ((Below.refl w1.heap.size w1).step hb2)
  have HB2 := Lib.hid (HB1.out.step HX2.out)
  have z2 : w1.heap.size ≤ w2.heap.size := by have := hb2.size; exact this
  have bd_2_0 := (HX2.out.cell (p := ⟨w.heap.size, 0, none⟩) bd_1z).trans bd_1_0
  have bd_2_1 := (HX2.out.cell (p := ⟨w.heap.size, 1, none⟩) bd_1z).trans bd_1_1
  have bd_2_2 := (HX2.out.cell (p := ⟨w.heap.size, 2, none⟩) bd_1z).trans bd_1_2
  have bd_2z : w.heap.size < w2.heap.size := Nat.lt_of_lt_of_le bd_1z z2
  clear bd_1_0 bd_1_1 bd_1_2 bd_1z
  have HP0_2 := Lib.hid (HP0_1.out.below HX2.out (Nat.le_refl _))
  clear HP0_1
  clear hb2 
  have SC3 := Lib.hid (HC.out w2 HP0_2.out)
  go_wp2_with fail
  refine (SC3.out).mono ?_
  rintro e w3 ⟨rfl, hb3⟩
  have HX3 := Lib.hid ((Below.refl w2.heap.size w2).step hb3)
  have HB3 := Lib.hid (HB2.out.step HX3.out)
  have z3 : w2.heap.size ≤ w3.heap.size := by have := hb3.size; exact this
  have bd_3_0 := (HX3.out.cell (p := ⟨w.heap.size, 0, none⟩) bd_2z).trans bd_2_0
  have bd_3_1 := (HX3.out.cell (p := ⟨w.heap.size, 1, none⟩) bd_2z).trans bd_2_1
  have bd_3_2 := (HX3.out.cell (p := ⟨w.heap.size, 2, none⟩) bd_2z).trans bd_2_2
  have bd_3z : w.heap.size < w3.heap.size := Nat.lt_of_lt_of_le bd_2z z3
  clear bd_2_0 bd_2_1 bd_2_2 bd_2z
  have HP0_3 := Lib.hid (HP0_2.out.below HX3.out (Nat.le_refl _))
  clear HP0_2
  clear hb3 
  have SC4 := Lib.hid (HW.out w3 HP0_3.out)
  go_wp2_with fail
  refine (SC4.out).mono ?_
  rintro e w4 ⟨sl4, rfl, ho4, hb4⟩
  obtain ⟨ao, cap, rfl⟩ := ho4.form
  have HX4 := Lib.hid ((Below.refl w3.heap.size w3).step hb4)
  have HB4 := Lib.hid (HB3.out.step HX4.out)
  have HP4 := Lib.hid ho4.patches
  have z4 : w3.heap.size ≤ w4.heap.size := by have := hb4.size; exact this
  have bd_4_0 := (HX4.out.cell (p := ⟨w.heap.size, 0, none⟩) bd_3z).trans bd_3_0
  have bd_4_1 := (HX4.out.cell (p := ⟨w.heap.size, 1, none⟩) bd_3z).trans bd_3_1
  have bd_4_2 := (HX4.out.cell (p := ⟨w.heap.size, 2, none⟩) bd_3z).trans bd_3_2
  have bd_4z : w.heap.size < w4.heap.size := Nat.lt_of_lt_of_le bd_3z z4
  clear bd_3_0 bd_3_1 bd_3_2 bd_3z
  have HP0_4 := Lib.hid (HP0_3.out.below HX4.out (Nat.le_refl _))
  clear HP0_3
  clear hb4 ho4
  have SC5 := Lib.hid (HR1.out (.slice ao L.length cap) (w4.alloc (.cells #[.int .i64 size, .string firm, .slice ao L.length cap] 24)) (HP4.out.below ((Below.refl _ _).new (.cells #[.int .i64 size, .string firm, .slice ao L.length cap] 24)) (Nat.le_refl _)))
  go_wp2_with fail
  refine (SC5.out).mono ?_
  rintro e w5 ⟨rfl, hb5⟩
  have HX5 := Lib.hid (((Below.refl w4.heap.size w4).new (.cells #[.int .i64 size, .string firm, .slice ao L.length cap] 24)).step hb5)
  have HB5 := Lib.hid (HB4.out.step HX5.out)
  have z5 : w4.heap.size < w5.heap.size := by have := hb5.size; rw [World.size_alloc] at this; exact this
  have bd_5_0 := (HX5.out.cell (p := ⟨w.heap.size, 0, none⟩) bd_4z).trans bd_4_0
  have bd_5_1 := (HX5.out.cell (p := ⟨w.heap.size, 1, none⟩) bd_4z).trans bd_4_1
  have bd_5_2 := (HX5.out.cell (p := ⟨w.heap.size, 2, none⟩) bd_4z).trans bd_4_2
  have bd_5z : w.heap.size < w5.heap.size := Nat.lt_of_lt_of_le bd_4z (Nat.le_of_lt z5)
  clear bd_4_0 bd_4_1 bd_4_2 bd_4z
  have bw_5_0 := hb5.cell (p := ⟨w4.heap.size, 0, none⟩) (by simp)
  have bw_5_1 := hb5.cell (p := ⟨w4.heap.size, 1, none⟩) (by simp)
  have bw_5_2 := hb5.cell (p := ⟨w4.heap.size, 2, none⟩) (by simp)
  simp at bw_5_0 bw_5_1 bw_5_2
  have bw_5z : w4.heap.size < w5.heap.size := z5
  have HP0_5 := Lib.hid (HP0_4.out.below HX5.out (Nat.le_refl _))
  clear HP0_4
  have HP4_5 := Lib.hid (HP4.out.below HX5.out (Nat.le_refl _))
  clear HP4
  clear hb5 
  have hsX : s.size ≤ X.size := by rw [HXS.out]; exact hms
  go_wp2_with fail
  go_loopw [15] (fun i wr => ∃ k : Nat, s.size ≤ k ∧ k ≤ X.size ∧ i = .int .i64 k ∧ wr = w5) (fun i _ => X.size - (intOf i).toNat)
  case atStart => exact ⟨s.size, Nat.le_refl _, hsX, by simp⟩
  case round =>
    obtain ⟨k, hk0, hk, rfl, hwr⟩ := hrel
    replace hwr := hwr.symm
    subst hwr
    by_cases hlt : k < X.size
    · have hxk := HXZ.out k hlt hk0
      have e1 : decide ((k : Int) < (X.size : Int)) = true := decide_eq_true (by omega)
      have hXm : X.size ≤ 16000 := by rw [HXS.out]; omega
      go_wp2_with fail
      go_roundw
      case rel => exact ⟨k + 1, by omega, by omega, by go_num, trivial⟩
      case measure => simp [intOf]; omega
    · obtain rfl : k = X.size := by omega
      have e1 : decide ((X.size : Int) < (X.size : Int)) = false := decide_eq_false (by omega)
      have SC6 := Lib.hid (HR2.out (.slice ao L.length cap) w5 HP4_5.out)
      go_wp2_with fail
      refine (SC6.out).mono ?_
      rintro e w6 ⟨rfl, hb6⟩
      have HX6 := Lib.hid ((Below.refl w5.heap.size w5).step hb6)
      have HB6 := Lib.hid (HB5.out.step HX6.out)
      have z6 : w5.heap.size ≤ w6.heap.size := by have := hb6.size; exact this
      have bd_6_0 := (HX6.out.cell (p := ⟨w.heap.size, 0, none⟩) bd_5z).trans bd_5_0
      have bd_6_1 := (HX6.out.cell (p := ⟨w.heap.size, 1, none⟩) bd_5z).trans bd_5_1
      have bd_6_2 := (HX6.out.cell (p := ⟨w.heap.size, 2, none⟩) bd_5z).trans bd_5_2
      have bd_6z : w.heap.size < w6.heap.size := Nat.lt_of_lt_of_le bd_5z z6
      clear bd_5_0 bd_5_1 bd_5_2 bd_5z
      have bw_6_0 := (HX6.out.cell (p := ⟨w4.heap.size, 0, none⟩) bw_5z).trans bw_5_0
      have bw_6_1 := (HX6.out.cell (p := ⟨w4.heap.size, 1, none⟩) bw_5z).trans bw_5_1
      have bw_6_2 := (HX6.out.cell (p := ⟨w4.heap.size, 2, none⟩) bw_5z).trans bw_5_2
      have bw_6z : w4.heap.size < w6.heap.size := Nat.lt_of_lt_of_le bw_5z z6
      clear bw_5_0 bw_5_1 bw_5_2 bw_5z
      have HP0_6 := Lib.hid (HP0_5.out.below HX6.out (Nat.le_refl _))
      clear HP0_5
      have HP4_6 := Lib.hid (HP4_5.out.below HX6.out (Nat.le_refl _))
      clear HP4_5
      clear hb6 
      have SC7 := Lib.hid (HR3.out w6 HP0_6.out)
      go_wp2_with fail
      refine (SC7.out).mono ?_
      rintro e w7 ⟨rfl, hb7⟩
      have HX7 := Lib.hid ((Below.refl w6.heap.size w6).step hb7)
      have HB7 := Lib.hid (HB6.out.step HX7.out)
      have z7 : w6.heap.size ≤ w7.heap.size := by have := hb7.size; exact this
      have bd_7_0 := (HX7.out.cell (p := ⟨w.heap.size, 0, none⟩) bd_6z).trans bd_6_0
      have bd_7_1 := (HX7.out.cell (p := ⟨w.heap.size, 1, none⟩) bd_6z).trans bd_6_1
      have bd_7_2 := (HX7.out.cell (p := ⟨w.heap.size, 2, none⟩) bd_6z).trans bd_6_2
      have bd_7z : w.heap.size < w7.heap.size := Nat.lt_of_lt_of_le bd_6z z7
      clear bd_6_0 bd_6_1 bd_6_2 bd_6z
      have bw_7_0 := (HX7.out.cell (p := ⟨w4.heap.size, 0, none⟩) bw_6z).trans bw_6_0
      have bw_7_1 := (HX7.out.cell (p := ⟨w4.heap.size, 1, none⟩) bw_6z).trans bw_6_1
      have bw_7_2 := (HX7.out.cell (p := ⟨w4.heap.size, 2, none⟩) bw_6z).trans bw_6_2
      have bw_7z : w4.heap.size < w7.heap.size := Nat.lt_of_lt_of_le bw_6z z7
      clear bw_6_0 bw_6_1 bw_6_2 bw_6z
      have HP0_7 := Lib.hid (HP0_6.out.below HX7.out (Nat.le_refl _))
      clear HP0_6
      have HP4_7 := Lib.hid (HP4_6.out.below HX7.out (Nat.le_refl _))
      clear HP4_6
      clear hb7 
      have hHC2 := Lib.hid (HC2.out (.slice ao L.length cap) w7 HP4_7.out)
      by_cases h1 : (a : Int) ≤ other
      · by_cases h2 : other < (a : Int) + (m : Int)
        · have g1 : decide ((a : Int) ≤ other) = true := decide_eq_true h1
          have g2 : decide (other < (a : Int) + (m : Int)) = true := decide_eq_true h2
          have SC8 := Lib.hid (hHC2.out)
          go_wp2_with fail
          refine (SC8.out).mono ?_
          rintro e w8 ⟨rfl, hb8⟩
          have HX8 := Lib.hid ((Below.refl w7.heap.size w7).step hb8)
          have HB8 := Lib.hid (HB7.out.step HX8.out)
          have z8 : w7.heap.size ≤ w8.heap.size := by have := hb8.size; exact this
          have bd_8_0 := (HX8.out.cell (p := ⟨w.heap.size, 0, none⟩) bd_7z).trans bd_7_0
          have bd_8_1 := (HX8.out.cell (p := ⟨w.heap.size, 1, none⟩) bd_7z).trans bd_7_1
          have bd_8_2 := (HX8.out.cell (p := ⟨w.heap.size, 2, none⟩) bd_7z).trans bd_7_2
          have bd_8z : w.heap.size < w8.heap.size := Nat.lt_of_lt_of_le bd_7z z8
          clear bd_7_0 bd_7_1 bd_7_2 bd_7z
          have bw_8_0 := (HX8.out.cell (p := ⟨w4.heap.size, 0, none⟩) bw_7z).trans bw_7_0
          have bw_8_1 := (HX8.out.cell (p := ⟨w4.heap.size, 1, none⟩) bw_7z).trans bw_7_1
          have bw_8_2 := (HX8.out.cell (p := ⟨w4.heap.size, 2, none⟩) bw_7z).trans bw_7_2
          have bw_8z : w4.heap.size < w8.heap.size := Nat.lt_of_lt_of_le bw_7z z8
          clear bw_7_0 bw_7_1 bw_7_2 bw_7z
          have HP0_8 := Lib.hid (HP0_7.out.below HX8.out (Nat.le_refl _))
          clear HP0_7
          have HP4_8 := Lib.hid (HP4_7.out.below HX8.out (Nat.le_refl _))
          clear HP4_7
          clear hb8 
          go_wp2_with fail
          go_ret
          exact ⟨rfl, HB8.out⟩
        · have g1 : decide ((a : Int) ≤ other) = true := decide_eq_true h1
          have g2 : decide (other < (a : Int) + (m : Int)) = false := decide_eq_false h2
          have g3 : (Y.toList == Z.toList) = true := HYZ.out.resolve_right (fun h => h2 h.2)
          have SC8 := Lib.hid (hHC2.out)
          go_wp2_with fail
          refine (SC8.out).mono ?_
          rintro e w8 ⟨rfl, hb8⟩
          have HX8 := Lib.hid ((Below.refl w7.heap.size w7).step hb8)
          have HB8 := Lib.hid (HB7.out.step HX8.out)
          have z8 : w7.heap.size ≤ w8.heap.size := by have := hb8.size; exact this
          have bd_8_0 := (HX8.out.cell (p := ⟨w.heap.size, 0, none⟩) bd_7z).trans bd_7_0
          have bd_8_1 := (HX8.out.cell (p := ⟨w.heap.size, 1, none⟩) bd_7z).trans bd_7_1
          have bd_8_2 := (HX8.out.cell (p := ⟨w.heap.size, 2, none⟩) bd_7z).trans bd_7_2
          have bd_8z : w.heap.size < w8.heap.size := Nat.lt_of_lt_of_le bd_7z z8
          clear bd_7_0 bd_7_1 bd_7_2 bd_7z
          have bw_8_0 := (HX8.out.cell (p := ⟨w4.heap.size, 0, none⟩) bw_7z).trans bw_7_0
          have bw_8_1 := (HX8.out.cell (p := ⟨w4.heap.size, 1, none⟩) bw_7z).trans bw_7_1
          have bw_8_2 := (HX8.out.cell (p := ⟨w4.heap.size, 2, none⟩) bw_7z).trans bw_7_2
          have bw_8z : w4.heap.size < w8.heap.size := Nat.lt_of_lt_of_le bw_7z z8
          clear bw_7_0 bw_7_1 bw_7_2 bw_7z
          have HP0_8 := Lib.hid (HP0_7.out.below HX8.out (Nat.le_refl _))
          clear HP0_7
          have HP4_8 := Lib.hid (HP4_7.out.below HX8.out (Nat.le_refl _))
          clear HP4_7
          clear hb8 
          go_wp2_with fail
          go_ret
          exact ⟨rfl, HB8.out⟩
      · have g1 : decide ((a : Int) ≤ other) = false := decide_eq_false h1
        have g3 : (Y.toList == Z.toList) = true := HYZ.out.resolve_right (fun h => h1 h.1)
        have SC8 := Lib.hid (hHC2.out)
        go_wp2_with fail
        refine (SC8.out).mono ?_
        rintro e w8 ⟨rfl, hb8⟩
        have HX8 := Lib.hid ((Below.refl w7.heap.size w7).step hb8)
        have HB8 := Lib.hid (HB7.out.step HX8.out)
        have z8 : w7.heap.size ≤ w8.heap.size := by have := hb8.size; exact this
        have bd_8_0 := (HX8.out.cell (p := ⟨w.heap.size, 0, none⟩) bd_7z).trans bd_7_0
        have bd_8_1 := (HX8.out.cell (p := ⟨w.heap.size, 1, none⟩) bd_7z).trans bd_7_1
        have bd_8_2 := (HX8.out.cell (p := ⟨w.heap.size, 2, none⟩) bd_7z).trans bd_7_2
        have bd_8z : w.heap.size < w8.heap.size := Nat.lt_of_lt_of_le bd_7z z8
        clear bd_7_0 bd_7_1 bd_7_2 bd_7z
        have bw_8_0 := (HX8.out.cell (p := ⟨w4.heap.size, 0, none⟩) bw_7z).trans bw_7_0
        have bw_8_1 := (HX8.out.cell (p := ⟨w4.heap.size, 1, none⟩) bw_7z).trans bw_7_1
        have bw_8_2 := (HX8.out.cell (p := ⟨w4.heap.size, 2, none⟩) bw_7z).trans bw_7_2
        have bw_8z : w4.heap.size < w8.heap.size := Nat.lt_of_lt_of_le bw_7z z8
        clear bw_7_0 bw_7_1 bw_7_2 bw_7z
        have HP0_8 := Lib.hid (HP0_7.out.below HX8.out (Nat.le_refl _))
        clear HP0_7
        have HP4_8 := Lib.hid (HP4_7.out.below HX8.out (Nat.le_refl _))
        clear HP4_7
        clear hb8 
        go_wp2_with fail
        go_ret
        exact ⟨rfl, HB8.out⟩

theorem diskReads_ok (d : Gw.Disk.Disk) (hsz : -9223372036854775808 ≤ d.size ∧ d.size ≤ 9223372036854775807) (hl : d.loose.length ≤ maxLen) (sl : Value) (at_ : Int) (ha : -9223372036854775808 ≤ at_ ∧ at_ ≤ 9223372036854775807) (s : ByteArray) (other : Int) (ho : -9223372036854775808 ≤ other ∧ other ≤ 9223372036854775807) (w : World) (hp : PatchesAt w sl d.loose) (hf : few d = true) (hs : s.size ≤ 1000) (hc : Gw.Disk.check d = true) :
    Calls Try.prog 4 #[diskV d sl, .int .i64 at_, .string s, .int .i64 other] w fun e w' => e = .returned (.bool true) ∧ Below w.heap.size w w' := by
  by_cases he : Gw.Disk.writeErr d at_ s = 0
  · exact diskReads_done d hsz hl sl at_ ha s other ho w hp hf hs hc he
  · exact diskReads_none d hsz hl sl at_ ha s other ho w hp hf hs hc he
theorem diskReads_walk (d : Gw.Disk.Disk) (hsz : -9223372036854775808 ≤ d.size ∧ d.size ≤ 9223372036854775807) (hl : d.loose.length ≤ maxLen) (sl : Value) (at_ : Int) (ha : -9223372036854775808 ≤ at_ ∧ at_ ≤ 9223372036854775807) (s : ByteArray) (other : Int) (ho : -9223372036854775808 ≤ other ∧ other ≤ 9223372036854775807) (w : World) (hp : PatchesAt w sl d.loose) :
    Calls Try.prog 4 #[diskV d sl, .int .i64 at_, .string s, .int .i64 other] w fun e w' => e = .returned (.bool true) ∧ Below w.heap.size w w' := by
  by_cases hf : few d = true
  · by_cases hs : s.size ≤ 1000
    · by_cases hc : Gw.Disk.check d = true
      · exact diskReads_ok d hsz hl sl at_ ha s other ho w hp hf hs hc
      · exact diskReads_chk d hsz hl sl at_ ha s other ho w hp hf hs (Bool.eq_false_iff.mpr hc)
    · exact diskReads_len0 d hsz hl sl at_ ha s other ho w hp hf hs
  · exact diskReads_few d hsz hl sl at_ ha s other ho w hp (Bool.eq_false_iff.mpr hf)
end Go.Proofs.Ytfehckdcjgmcpaa
