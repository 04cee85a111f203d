/- The walk of gunwalelaw12.DiskCrash. -/
import Derived.Test.YtfehckdcjgmcpaaDiskAwake
import Derived.Test.YtfehckdcjgmcpaaDiskPlain5
namespace Go.Proofs.Ytfehckdcjgmcpaa
open Go.RowKit

set_option maxRecDepth 1000000 in
set_option maxHeartbeats 1000000 in
theorem diskCrash_few (d : Gw.Disk.Disk) (_hsz : -9223372036854775808 ≤ d.size ∧ d.size ≤ 9223372036854775807) (hl : d.loose.length ≤ maxLen) (sl : Value) (picks : ByteArray) (w : World) (hp : PatchesAt w sl d.loose) (hf : few d = false) :
    Calls Try.prog 6 #[diskV d sl, .string picks] w fun e w' => e = .returned (.bool true) ∧ Below w.heap.size w w' := by
  have HA := Lib.hid awake_any
  have HF := Lib.hid (rfew_any d hl sl)
  rw [hf] at HF
  clear hf
  obtain ⟨size, firm, ps⟩ := d
  unfold diskV at *
  simp only at hp hl HF ⊢
  have HB0 := Lib.hid (Below.refl w.heap.size w)
  have HP0 := Lib.hid hp
  clear hp
  go_enter Try.func6, Try.ntmps6
  have SC1 := Lib.hid (HA.out (w.alloc (.cells #[.int .i64 size, .string firm, sl] 24)))
  go_wp2_with fail
  refine (SC1.out).mono ?_
  rintro e w1 ⟨rfl, hb1⟩
  have HX1 := Lib.hid (((Below.refl w.heap.size w).new (.cells #[.int .i64 size, .string firm, sl] 24)).step hb1)
  have HB1 := Lib.hid (HB0.out.step HX1.out)
  have z1 : w.heap.size < w1.heap.size := by have := hb1.size; rw [World.size_alloc] at this; exact this
  have bd_1_0 := hb1.cell (p := ⟨w.heap.size, 0, none⟩) (by simp)
  have bd_1_1 := hb1.cell (p := ⟨w.heap.size, 1, none⟩) (by simp)
  have bd_1_2 := hb1.cell (p := ⟨w.heap.size, 2, none⟩) (by simp)
  simp at bd_1_0 bd_1_1 bd_1_2
  have bd_1z : w.heap.size < w1.heap.size := z1
  have HP0_1 := Lib.hid (HP0.out.below HX1.out (Nat.le_refl _))
  clear HP0
  clear hb1 
  have SC2 := Lib.hid (HF.out w1 HP0_1.out)
  go_wp2_with fail
  refine (SC2.out).mono ?_
  rintro e w2 ⟨rfl, hb2⟩
  have HX2 := Lib.hid ((Below.refl w1.heap.size w1).step hb2)
  have HB2 := Lib.hid (HB1.out.step HX2.out)
  have z2 : w1.heap.size ≤ w2.heap.size := by have := hb2.size; exact this
  have bd_2_0 := (HX2.out.cell (p := ⟨w.heap.size, 0, none⟩) bd_1z).trans bd_1_0
  have bd_2_1 := (HX2.out.cell (p := ⟨w.heap.size, 1, none⟩) bd_1z).trans bd_1_1
  have bd_2_2 := (HX2.out.cell (p := ⟨w.heap.size, 2, none⟩) bd_1z).trans bd_1_2
  have bd_2z : w.heap.size < w2.heap.size := Nat.lt_of_lt_of_le bd_1z z2
  clear bd_1_0 bd_1_1 bd_1_2 bd_1z
  have HP0_2 := Lib.hid (HP0_1.out.below HX2.out (Nat.le_refl _))
  clear HP0_1
  clear hb2 
  go_wp2_with fail
  go_ret
  exact ⟨rfl, HB2.out⟩
set_option maxRecDepth 1000000 in
set_option maxHeartbeats 1000000 in
theorem diskCrash_len0 (d : Gw.Disk.Disk) (_hsz : -9223372036854775808 ≤ d.size ∧ d.size ≤ 9223372036854775807) (hl : d.loose.length ≤ maxLen) (sl : Value) (picks : ByteArray) (w : World) (hp : PatchesAt w sl d.loose) (hf : few d = true) (hx : ¬ picks.size ≤ 1000) :
    Calls Try.prog 6 #[diskV d sl, .string picks] w fun e w' => e = .returned (.bool true) ∧ Below w.heap.size w w' := by
  have HA := Lib.hid awake_any
  have HF := Lib.hid (rfew_any d hl sl)
  rw [hf] at HF
  have epicks : decide ((1000 : Int) < (picks.size : Int)) = true := decide_eq_true (by omega)
  clear hf hx
  obtain ⟨size, firm, ps⟩ := d
  unfold diskV at *
  simp only at hp hl HF ⊢
  have HB0 := Lib.hid (Below.refl w.heap.size w)
  have HP0 := Lib.hid hp
  clear hp
  go_enter Try.func6, Try.ntmps6
  have SC1 := Lib.hid (HA.out (w.alloc (.cells #[.int .i64 size, .string firm, sl] 24)))
  go_wp2_with fail
  refine (SC1.out).mono ?_
  rintro e w1 ⟨rfl, hb1⟩
  have HX1 := Lib.hid (((Below.refl w.heap.size w).new (.cells #[.int .i64 size, .string firm, sl] 24)).step hb1)
  have HB1 := Lib.hid (HB0.out.step HX1.out)
  have z1 : w.heap.size < w1.heap.size := by have := hb1.size; rw [World.size_alloc] at this; exact this
  have bd_1_0 := hb1.cell (p := ⟨w.heap.size, 0, none⟩) (by simp)
  have bd_1_1 := hb1.cell (p := ⟨w.heap.size, 1, none⟩) (by simp)
  have bd_1_2 := hb1.cell (p := ⟨w.heap.size, 2, none⟩) (by simp)
  simp at bd_1_0 bd_1_1 bd_1_2
  have bd_1z : w.heap.size < w1.heap.size := z1
  have HP0_1 := Lib.hid (HP0.out.below HX1.out (Nat.le_refl _))
  clear HP0
  clear hb1 
  have SC2 := Lib.hid (HF.out w1 HP0_1.out)
  go_wp2_with fail
  refine (SC2.out).mono ?_
  rintro e w2 ⟨rfl, hb2⟩
  have HX2 := Lib.hid ((Below.refl w1.heap.size w1).step hb2)
  have HB2 := Lib.hid (HB1.out.step HX2.out)
  have z2 : w1.heap.size ≤ w2.heap.size := by have := hb2.size; exact this
  have bd_2_0 := (HX2.out.cell (p := ⟨w.heap.size, 0, none⟩) bd_1z).trans bd_1_0
  have bd_2_1 := (HX2.out.cell (p := ⟨w.heap.size, 1, none⟩) bd_1z).trans bd_1_1
  have bd_2_2 := (HX2.out.cell (p := ⟨w.heap.size, 2, none⟩) bd_1z).trans bd_1_2
  have bd_2z : w.heap.size < w2.heap.size := Nat.lt_of_lt_of_le bd_1z z2
  clear bd_1_0 bd_1_1 bd_1_2 bd_1z
  have HP0_2 := Lib.hid (HP0_1.out.below HX2.out (Nat.le_refl _))
  clear HP0_1
  clear hb2 
  go_wp2_with fail
  go_ret
  exact ⟨rfl, HB2.out⟩
set_option maxRecDepth 1000000 in
set_option maxHeartbeats 1000000 in
theorem diskCrash_chk (d : Gw.Disk.Disk) (hsz : -9223372036854775808 ≤ d.size ∧ d.size ≤ 9223372036854775807) (hl : d.loose.length ≤ maxLen) (sl : Value) (picks : ByteArray) (w : World) (hp : PatchesAt w sl d.loose) (hf : few d = true) (hpicks : picks.size ≤ 1000) (hc : Gw.Disk.check d = false) :
    Calls Try.prog 6 #[diskV d sl, .string picks] w fun e w' => e = .returned (.bool true) ∧ Below w.heap.size w w' := by
  have HA := Lib.hid awake_any
  have HF := Lib.hid (rfew_any d hl sl)
  rw [hf] at HF
  have HC := Lib.hid (check_any d hsz hl sl)
  rw [hc] at HC
  have epicks : decide ((1000 : Int) < (picks.size : Int)) = false := decide_eq_false (by omega)
  clear hf hpicks hc
  obtain ⟨size, firm, ps⟩ := d
  unfold diskV at *
  simp only at hp hl HF HC ⊢
  have HB0 := Lib.hid (Below.refl w.heap.size w)
  have HP0 := Lib.hid hp
  clear hp
  go_enter Try.func6, Try.ntmps6
  have SC1 := Lib.hid (HA.out (w.alloc (.cells #[.int .i64 size, .string firm, sl] 24)))
  go_wp2_with fail
  refine (SC1.out).mono ?_
  rintro e w1 ⟨rfl, hb1⟩
  have HX1 := Lib.hid (((Below.refl w.heap.size w).new (.cells #[.int .i64 size, .string firm, sl] 24)).step hb1)
  have HB1 := Lib.hid (HB0.out.step HX1.out)
  have z1 : w.heap.size < w1.heap.size := by have := hb1.size; rw [World.size_alloc] at this; exact this
  have bd_1_0 := hb1.cell (p := ⟨w.heap.size, 0, none⟩) (by simp)
  have bd_1_1 := hb1.cell (p := ⟨w.heap.size, 1, none⟩) (by simp)
  have bd_1_2 := hb1.cell (p := ⟨w.heap.size, 2, none⟩) (by simp)
  simp at bd_1_0 bd_1_1 bd_1_2
  have bd_1z : w.heap.size < w1.heap.size := z1
  have HP0_1 := Lib.hid (HP0.out.below HX1.out (Nat.le_refl _))
  clear HP0
  clear hb1 
  have SC2 := Lib.hid (HF.out w1 HP0_1.out)
  go_wp2_with fail
  refine (SC2.out).mono ?_
  rintro e w2 ⟨rfl, hb2⟩
  have HX2 := Lib.hid ((Below.refl w1.heap.size w1).step hb2)
  have HB2 := Lib.hid (HB1.out.step HX2.out)
  have z2 : w1.heap.size ≤ w2.heap.size := by have := hb2.size; exact this
  have bd_2_0 := (HX2.out.cell (p := ⟨w.heap.size, 0, none⟩) bd_1z).trans bd_1_0
  have bd_2_1 := (HX2.out.cell (p := ⟨w.heap.size, 1, none⟩) bd_1z).trans bd_1_1
  have bd_2_2 := (HX2.out.cell (p := ⟨w.heap.size, 2, none⟩) bd_1z).trans bd_1_2
  have bd_2z : w.heap.size < w2.heap.size := Nat.lt_of_lt_of_le bd_1z z2
  clear bd_1_0 bd_1_1 bd_1_2 bd_1z
  have HP0_2 := Lib.hid (HP0_1.out.below HX2.out (Nat.le_refl _))
  clear HP0_1
  clear hb2 
  have SC3 := Lib.hid (HC.out w2 HP0_2.out)
  go_wp2_with fail
  refine (SC3.out).mono ?_
  rintro e w3 ⟨rfl, hb3⟩
  have HX3 := Lib.hid ((Below.refl w2.heap.size w2).step hb3)
  have HB3 := Lib.hid (HB2.out.step HX3.out)
  have z3 : w2.heap.size ≤ w3.heap.size := by have := hb3.size; exact this
  have bd_3_0 := (HX3.out.cell (p := ⟨w.heap.size, 0, none⟩) bd_2z).trans bd_2_0
  have bd_3_1 := (HX3.out.cell (p := ⟨w.heap.size, 1, none⟩) bd_2z).trans bd_2_1
  have bd_3_2 := (HX3.out.cell (p := ⟨w.heap.size, 2, none⟩) bd_2z).trans bd_2_2
  have bd_3z : w.heap.size < w3.heap.size := Nat.lt_of_lt_of_le bd_2z z3
  clear bd_2_0 bd_2_1 bd_2_2 bd_2z
  have HP0_3 := Lib.hid (HP0_2.out.below HX3.out (Nat.le_refl _))
  clear HP0_2
  clear hb3 
  go_wp2_with fail
  go_ret
  exact ⟨rfl, HB3.out⟩

theorem ext8 (X : ByteArray) (m n : Nat) (h : n = m + 8) : (X.extract m n).toList = (X.data.toList.drop m).take 8 := by
  subst h
  rw [Lib.toList_data, Lib.extract_data, Nat.add_sub_cancel_left]

set_option maxRecDepth 1000000 in
set_option maxHeartbeats 2000000 in
theorem diskCrash_ok (d : Gw.Disk.Disk) (hsz : -9223372036854775808 ≤ d.size ∧ d.size ≤ 9223372036854775807) (hl : d.loose.length ≤ maxLen) (sl : Value) (picks : ByteArray) (w : World) (hp : PatchesAt w sl d.loose) (hf : few d = true) (hpicks : picks.size ≤ 1000) (hc : Gw.Disk.check d = true) :
    Calls Try.prog 6 #[diskV d sl, .string picks] w fun e w' => e = .returned (.bool true) ∧ Below w.heap.size w w' := by
  have hfs : d.loose.length ≤ 100 ∧ d.size ≤ 100 ∧ d.firm.size ≤ 2000 := by
    unfold few at hf
    simp only [Bool.and_eq_true, decide_eq_true_eq] at hf
    exact ⟨hf.2.2.2, hf.2.1, hf.2.2.1⟩
  have HA := Lib.hid awake_any
  have HF := Lib.hid (rfew_any d hl sl)
  rw [hf] at HF
  have HC := Lib.hid (check_any d hsz hl sl)
  rw [hc] at HC
  have es : decide ((1000 : Int) < (picks.size : Int)) = false := decide_eq_false (by omega)
  have KC := Lib.hid (crash_any d hsz (by omega) sl picks (by omega))
  have hcr : Gw.Disk.crash d picks = ⟨d.size, ⟨(Gw.Disk.crashed picks d.loose d.loose.length d.firm.data.toList).toArray⟩, []⟩ := by rw [Gw.Disk.crash, if_pos hc]
  rw [hcr] at KC
  obtain ⟨C, hC⟩ : ∃ C : ByteArray, C = ⟨(Gw.Disk.crashed picks d.loose d.loose.length d.firm.data.toList).toArray⟩ := ⟨_, rfl⟩
  rw [← hC] at KC
  have hsp := Gw.Disk.check_spec hc
  have hCl : C.size = d.firm.size := by
    rw [hC]
    show (Gw.Disk.crashed picks d.loose d.loose.length d.firm.data.toList).toArray.size = d.firm.data.toList.length
    rw [List.size_toArray]
    exact Gw.Disk.crashed_length _ _ _ _ (fun i hi => by
      have hget : d.loose.getD i (0, ByteArray.empty) = d.loose[i] := by rw [List.getD_eq_getElem?_getD, List.getElem?_eq_getElem hi]; rfl
      have h2 := hsp.2.2.2 _ (List.getElem_mem hi)
      have h3 : d.firm.data.toList.length = d.firm.size := rfl
      rw [hget]
      omega)
  have hck : Gw.Disk.check ⟨d.size, C, []⟩ = true := by
    unfold Gw.Disk.check
    simp only [List.all_nil, Bool.and_true, Bool.and_eq_true, decide_eq_true_eq]
    rw [hCl]
    exact ⟨hsp.1, hsp.2.1, hsp.2.2.1⟩
  have HC2 := Lib.hid (fun sl' => check_any ⟨d.size, C, []⟩ hsz (by simp) sl')
  rw [hck] at HC2
  have HAV := Lib.hid (Gw.Disk.crash_halves hc picks)
  clear hcr hck hf hc
  obtain ⟨size, firm, ps⟩ := d
  unfold SaidDisk at KC
  unfold diskV at *
  simp only at hp hl hsz hfs HF HC HC2 KC HAV hsp hC hCl ⊢
  obtain ⟨N, rfl⟩ := Int.eq_ofNat_of_zero_le hsp.1
  have HFN := Lib.hid (show firm.size = N * 16 by omega)
  have HCN := Lib.hid (show C.size = N * 16 by omega)
  have HCC := Lib.hid hC
  have HSP := Lib.hid hsp.2.2.2
  have hN : N ≤ 100 := by omega
  have hpl : ps.length ≤ 100 := hfs.1
  clear hC hCl hsp hfs
  obtain ⟨ao0, cap0, rfl⟩ := hp.form
  have HB0 := Lib.hid (Below.refl w.heap.size w)
  have HP0 := Lib.hid hp
  clear hp
  go_enter Try.func6, Try.ntmps6
  have SC1 := Lib.hid (HA.out (w.alloc (.cells #[.int .i64 (N : Int), .string firm, .slice ao0 ps.length cap0] 24)))
  go_wp2_with fail
  refine (SC1.out).mono ?_
  rintro e w1 ⟨rfl, hb1⟩
  have HX1 := Lib.hid (((Below.refl w.heap.size w).new (.cells #[.int .i64 (N : Int), .string firm, .slice ao0 ps.length cap0] 24)).step hb1)
  have HB1 := Lib.hid (HB0.out.step HX1.out)
  have z1 : w.heap.size < w1.heap.size := by have := hb1.size; rw [World.size_alloc] at this; exact this
  have bd_1_0 := hb1.cell (p := ⟨w.heap.size, 0, none⟩) (by simp)
  have bd_1_1 := hb1.cell (p := ⟨w.heap.size, 1, none⟩) (by simp)
  have bd_1_2 := hb1.cell (p := ⟨w.heap.size, 2, none⟩) (by simp)
  simp at bd_1_0 bd_1_1 bd_1_2
  have bd_1z : w.heap.size < w1.heap.size := z1
  have HP0_1 := Lib.hid (HP0.out.below HX1.out (Nat.le_refl _))
  clear HP0
  clear hb1 
  have SC2 := Lib.hid (HF.out w1 HP0_1.out)
  go_wp2_with fail
  refine (SC2.out).mono ?_
  rintro e w2 ⟨rfl, hb2⟩
  have HX2 := Lib.hid ((Below.refl w1.heap.size w1).step hb2)
  have HB2 := Lib.hid (HB1.out.step HX2.out)
  have z2 : w1.heap.size ≤ w2.heap.size := by have := hb2.size; exact this
  have bd_2_0 := (HX2.out.cell (p := ⟨w.heap.size, 0, none⟩) bd_1z).trans bd_1_0
  have bd_2_1 := (HX2.out.cell (p := ⟨w.heap.size, 1, none⟩) bd_1z).trans bd_1_1
  have bd_2_2 := (HX2.out.cell (p := ⟨w.heap.size, 2, none⟩) bd_1z).trans bd_1_2
  have bd_2z : w.heap.size < w2.heap.size := Nat.lt_of_lt_of_le bd_1z z2
  clear bd_1_0 bd_1_1 bd_1_2 bd_1z
  have HP0_2 := Lib.hid (HP0_1.out.below HX2.out (Nat.le_refl _))
  clear HP0_1
  clear hb2 
  have SC3 := Lib.hid (HC.out w2 HP0_2.out)
  go_wp2_with fail
  refine (SC3.out).mono ?_
  rintro e w3 ⟨rfl, hb3⟩
  have HX3 := Lib.hid ((Below.refl w2.heap.size w2).step hb3)
  have HB3 := Lib.hid (HB2.out.step HX3.out)
  have z3 : w2.heap.size ≤ w3.heap.size := by have := hb3.size; exact this
  have bd_3_0 := (HX3.out.cell (p := ⟨w.heap.size, 0, none⟩) bd_2z).trans bd_2_0
  have bd_3_1 := (HX3.out.cell (p := ⟨w.heap.size, 1, none⟩) bd_2z).trans bd_2_1
  have bd_3_2 := (HX3.out.cell (p := ⟨w.heap.size, 2, none⟩) bd_2z).trans bd_2_2
  have bd_3z : w.heap.size < w3.heap.size := Nat.lt_of_lt_of_le bd_2z z3
  clear bd_2_0 bd_2_1 bd_2_2 bd_2z
  have HP0_3 := Lib.hid (HP0_2.out.below HX3.out (Nat.le_refl _))
  clear HP0_2
  clear hb3 
  have SC4 := Lib.hid (KC.out w3 HP0_3.out)
  go_wp2_with fail
  refine (SC4.out).mono ?_
  rintro e w4 ⟨sl4, rfl, ho4, hb4⟩
  obtain ⟨aoC, capC, rfl⟩ := ho4.form
  have HX4 := Lib.hid ((Below.refl w3.heap.size w3).step hb4)
  have HB4 := Lib.hid (HB3.out.step HX4.out)
  have HP4 := Lib.hid ho4.patches
  have z4 : w3.heap.size ≤ w4.heap.size := by have := hb4.size; exact this
  have bd_4_0 := (HX4.out.cell (p := ⟨w.heap.size, 0, none⟩) bd_3z).trans bd_3_0
  have bd_4_1 := (HX4.out.cell (p := ⟨w.heap.size, 1, none⟩) bd_3z).trans bd_3_1
  have bd_4_2 := (HX4.out.cell (p := ⟨w.heap.size, 2, none⟩) bd_3z).trans bd_3_2
  have bd_4z : w.heap.size < w4.heap.size := Nat.lt_of_lt_of_le bd_3z z4
  clear bd_3_0 bd_3_1 bd_3_2 bd_3z
  have HP0_4 := Lib.hid (HP0_3.out.below HX4.out (Nat.le_refl _))
  clear HP0_3
  clear hb4 ho4
  have SC5 := Lib.hid (HC2.out (.slice aoC 0 capC) (w4.alloc (.cells #[.int .i64 (N : Int), .string C, .slice aoC 0 capC] 24)) (.inl ⟨rfl, aoC, capC, rfl⟩))
  go_wp2_with fail
  refine (SC5.out).mono ?_
  rintro e w5 ⟨rfl, hb5⟩
  have HX5 := Lib.hid (((Below.refl w4.heap.size w4).new (.cells #[.int .i64 (N : Int), .string C, .slice aoC 0 capC] 24)).step hb5)
  have HB5 := Lib.hid (HB4.out.step HX5.out)
  have z5 : w4.heap.size < w5.heap.size := by have := hb5.size; rw [World.size_alloc] at this; exact this
  have bd_5_0 := (HX5.out.cell (p := ⟨w.heap.size, 0, none⟩) bd_4z).trans bd_4_0
  have bd_5_1 := (HX5.out.cell (p := ⟨w.heap.size, 1, none⟩) bd_4z).trans bd_4_1
  have bd_5_2 := (HX5.out.cell (p := ⟨w.heap.size, 2, none⟩) bd_4z).trans bd_4_2
  have bd_5z : w.heap.size < w5.heap.size := Nat.lt_of_lt_of_le bd_4z (Nat.le_of_lt z5)
  clear bd_4_0 bd_4_1 bd_4_2 bd_4z
  have bc_5_0 := hb5.cell (p := ⟨w4.heap.size, 0, none⟩) (by simp)
  have bc_5_1 := hb5.cell (p := ⟨w4.heap.size, 1, none⟩) (by simp)
  have bc_5_2 := hb5.cell (p := ⟨w4.heap.size, 2, none⟩) (by simp)
  simp at bc_5_0 bc_5_1 bc_5_2
  have bc_5z : w4.heap.size < w5.heap.size := z5
  have HP0_5 := Lib.hid (HP0_4.out.below HX5.out (Nat.le_refl _))
  clear HP0_4
  have HP4_5 := Lib.hid (HP4.out.below HX5.out (Nat.le_refl _))
  clear HP4
  clear hb5 
  have ez : ((N : Int) != (N : Int)) = false := by simp
  have PD := HP0_5
  have HBW := HB5
  go_wp2_with fail
  go_loopw [7] (fun at_ wr => ∃ a : Nat, a ≤ N ∧ at_ = .int .i64 a ∧ Below w5.heap.size w5 wr) (fun at_ _ => N - (intOf at_).toNat)
  case atStart => exact ⟨0, Nat.zero_le _, rfl, Below.refl _ _⟩
  case round =>
    obtain ⟨a, ha, rfl, hbr⟩ := hrel
    have r0 := (hbr.cell (p := ⟨w.heap.size, 0, none⟩) bd_5z).trans bd_5_0
    have r1 := (hbr.cell (p := ⟨w.heap.size, 1, none⟩) bd_5z).trans bd_5_1
    have r2 := (hbr.cell (p := ⟨w.heap.size, 2, none⟩) bd_5z).trans bd_5_2
    have x0 := (hbr.cell (p := ⟨w4.heap.size, 0, none⟩) bc_5z).trans bc_5_0
    have x1 := (hbr.cell (p := ⟨w4.heap.size, 1, none⟩) bc_5z).trans bc_5_1
    have x2 := (hbr.cell (p := ⟨w4.heap.size, 2, none⟩) bc_5z).trans bc_5_2
    have HBR := Lib.hid hbr
    by_cases hlt : a < N
    · have e1 : decide ((a : Int) < (N : Int)) = true := decide_eq_true (by omega)
      have hw1 : IntKind.i64.wrap (16 * (a : Int)) = 16 * (a : Int) := IntWalk.i64_in _ (by omega)
      have hw2 : IntKind.i64.wrap (16 * (a : Int) + 8) = 16 * (a : Int) + 8 := IntWalk.i64_in _ (by omega)
      have hw3 : IntKind.i64.wrap (16 * (a : Int) + 16) = 16 * (a : Int) + 16 := IntWalk.i64_in _ (by omega)
      have b1 : 16 * (a : Int) + 16 ≤ (C.size : Int) := by rw [HCN.out]; omega
      have b2 : 16 * (a : Int) + 16 ≤ (firm.size : Int) := by rw [HFN.out]; omega
      have b3 : (0 : Int) ≤ 16 * (a : Int) := by omega
      have b4 : (0 : Int) ≤ 16 * (a : Int) + 8 := by omega
      have b5 : 16 * (a : Int) + 8 ≤ (C.size : Int) := by omega
      have b6 : 16 * (a : Int) + 8 ≤ (firm.size : Int) := by omega
      have t1 : (16 * (a : Int)).toNat = 16 * a := by omega
      have t2 : (16 * (a : Int) + 8).toNat = 16 * a + 8 := by omega
      have t3 : (16 * (a : Int) + 16).toNat = 16 * a + 16 := by omega
      clear hbr
      obtain ⟨f0, hf0⟩ : ∃ q, ((C.extract (16 * a) (16 * a + 8)).toList == (firm.extract (16 * a) (16 * a + 8)).toList) = q := ⟨_, rfl⟩
      obtain ⟨l0, hl0⟩ : ∃ q, ((C.extract (16 * a + 8) (16 * a + 16)).toList == (firm.extract (16 * a + 8) (16 * a + 16)).toList) = q := ⟨_, rfl⟩
      go_wp2_with fail
      go_region
      go_wp2_with fail
      go_region
      go_wp2_with fail
      have HF0 := Lib.hid hf0
      have HL0 := Lib.hid hl0
      have HB2 := Lib.hid HBR.out.drew.drew
      clear hf0 hl0 r0 r1 r2 x0 x1 x2
      go_loopw [8, 9, 10] (fun fv lv i wr => ∃ (k : Nat) (f l : Bool), k ≤ ps.length ∧ i = .int .i64 k ∧ fv = .bool f ∧ lv = .bool l ∧ Below w5.heap.size w5 wr ∧ (f0 = true → f = true) ∧ (l0 = true → l = true) ∧ (∀ j, j < k → ∀ p, ps[j]? = some p → p.1 = (a : Int) → (C.extract (16 * a) (16 * a + 8)).toList = (p.2.extract 0 8).toList → f = true) ∧ (∀ j, j < k → ∀ p, ps[j]? = some p → p.1 = (a : Int) → (C.extract (16 * a + 8) (16 * a + 16)).toList = (p.2.extract 8 16).toList → l = true)) (fun _ _ i _ => ps.length - (intOf i).toNat)
      case atStart => exact ⟨0, f0, l0, Nat.zero_le _, rfl, rfl, rfl, HB2.out, fun h => h, fun h => h, fun j hj => absurd hj (Nat.not_lt_zero _), fun j hj => absurd hj (Nat.not_lt_zero _)⟩
      case round =>
        obtain ⟨k, f, l, hk, rfl, rfl, rfl, hbr2, i1, i2, i3, i4⟩ := hrel
        have HB3 := Lib.hid hbr2
        have I1 := Lib.hid i1
        have I2 := Lib.hid i2
        have I3 := Lib.hid i3
        have I4 := Lib.hid i4
        have r0 := (hbr2.cell (p := ⟨w.heap.size, 0, none⟩) bd_5z).trans bd_5_0
        have r1 := (hbr2.cell (p := ⟨w.heap.size, 1, none⟩) bd_5z).trans bd_5_1
        have r2 := (hbr2.cell (p := ⟨w.heap.size, 2, none⟩) bd_5z).trans bd_5_2
        have x0 := (hbr2.cell (p := ⟨w4.heap.size, 0, none⟩) bc_5z).trans bc_5_0
        have x1 := (hbr2.cell (p := ⟨w4.heap.size, 1, none⟩) bc_5z).trans bc_5_1
        have x2 := (hbr2.cell (p := ⟨w4.heap.size, 2, none⟩) bc_5z).trans bc_5_2
        clear i1 i2 i3 i4
        by_cases hlk : k < ps.length
        · have e2 : decide ((k : Int) < (ps.length : Int)) = true := decide_eq_true (by omega)
          obtain ⟨b, off, hao, hbw, hca, hcb⟩ := PD.out.cell hlk
          have n1 := (hbr2.cell (p := ⟨b, off + k * 2, none⟩) hbw).trans hca
          have n2 := (hbr2.cell (p := ⟨b, off + k * 2 + 1, none⟩) hbw).trans hcb
          have hgk : ps[k]? = some (ps.getD k (0, ByteArray.empty)) := by rw [List.getD_eq_getElem?_getD, List.getElem?_eq_getElem hlk]; rfl
          have hsz16 : (ps.getD k (0, ByteArray.empty)).2.size = 16 := (HSP.out _ (List.mem_of_getElem? hgk)).2.2
          have HGK := Lib.hid hgk
          clear hbr2 hca hcb hgk
          generalize ps.getD k (0, ByteArray.empty) = p at *
          obtain ⟨pa, pd⟩ := p
          simp only at n1 n2 hsz16
          subst hao
          obtain ⟨q1, hq1⟩ : ∃ q, ((C.extract (16 * a) (16 * a + 8)).toList == (pd.extract 0 8).toList) = q := ⟨_, rfl⟩
          obtain ⟨q2, hq2⟩ : ∃ q, ((C.extract (16 * a + 8) (16 * a + 16)).toList == (pd.extract 8 16).toList) = q := ⟨_, rfl⟩
          have Q1 := Lib.hid hq1
          have Q2 := Lib.hid hq2
          by_cases hpa : pa = (a : Int)
          · have e3 : (pa == (a : Int)) = true := by rw [hpa]; simp
            have HPA := Lib.hid hpa
            clear hpa
            cases f <;> cases l
            all_goals
              go_wp2_with fail
              go_region
              go_wp2_with fail
              go_region
              go_wp2_with fail
              go_roundw
              case rel =>
                refine ⟨k + 1, _, _, by omega, by go_num, rfl, rfl, HB3.out.drew.drew, ?_, ?_, ?_, ?_⟩
                · first | exact fun _ => rfl | exact fun h => absurd (I1.out h) (by simp)
                · first | exact fun _ => rfl | exact fun h => absurd (I2.out h) (by simp)
                · first
                    | exact fun _ _ _ _ _ _ => rfl
                    | (intro j hj p hp h1 h2; rcases Nat.lt_succ_iff_lt_or_eq.1 hj with h3 | rfl; exact absurd (I3.out j h3 p hp h1 h2) (by simp); rw [HGK.out] at hp; cases hp; rw [← Q1.out, h2]; simp)
                · first
                    | exact fun _ _ _ _ _ _ => rfl
                    | (intro j hj p hp h1 h2; rcases Nat.lt_succ_iff_lt_or_eq.1 hj with h3 | rfl; exact absurd (I4.out j h3 p hp h1 h2) (by simp); rw [HGK.out] at hp; cases hp; rw [← Q2.out, h2]; simp)
              case measure => simp [intOf]; omega
          · have e3 : (pa == (a : Int)) = false := by rw [beq_eq_false_iff_ne]; exact hpa
            have HPA := Lib.hid hpa
            clear hpa
            go_wp2_with fail
            go_roundw
            case rel =>
              refine ⟨k + 1, f, l, by omega, by go_num, rfl, rfl, HB3.out, I1.out, I2.out, fun j hj p hp h1 h2 => ?_, fun j hj p hp h1 h2 => ?_⟩
              · rcases Nat.lt_succ_iff_lt_or_eq.1 hj with h3 | rfl
                · exact I3.out j h3 p hp h1 h2
                · rw [HGK.out] at hp
                  cases hp
                  exact absurd h1 HPA.out
              · rcases Nat.lt_succ_iff_lt_or_eq.1 hj with h3 | rfl
                · exact I4.out j h3 p hp h1 h2
                · rw [HGK.out] at hp
                  cases hp
                  exact absurd h1 HPA.out
            case measure => simp [intOf]; omega
        · obtain rfl : k = ps.length := by omega
          have e2 : decide ((ps.length : Int) < (ps.length : Int)) = false := decide_eq_false (by omega)
          have hv := HAV.out ps.length (Nat.le_refl _) a (by omega)
          have hCd : C.data.toList = Gw.Disk.crashed picks ps ps.length firm.data.toList := by rw [HCC.out]
          rw [← hCd] at hv
          have hft : f = true := by
            rcases hv.1 with e | ⟨i, hi, p, hp, hpa, e⟩
            · refine I1.out ?_
              rw [← HF0.out, beq_iff_eq, ext8 C (16 * a) (16 * a + 8) (by omega), ext8 firm (16 * a) (16 * a + 8) (by omega)]
              exact e
            · refine I3.out i hi p hp hpa ?_
              rw [ext8 C (16 * a) (16 * a + 8) (by omega), ext8 p.2 0 8 (by omega)]
              exact e
          have hlt2 : l = true := by
            rcases hv.2 with e | ⟨i, hi, p, hp, hpa, e⟩
            · refine I2.out ?_
              rw [← HL0.out, beq_iff_eq, ext8 C (16 * a + 8) (16 * a + 16) (by omega), ext8 firm (16 * a + 8) (16 * a + 16) (by omega)]
              exact e
            · refine I4.out i hi p hp hpa ?_
              rw [ext8 C (16 * a + 8) (16 * a + 16) (by omega), ext8 p.2 8 16 (by omega)]
              exact e
          subst hft hlt2
          clear hv hCd hbr2
          go_wp2_with fail
          go_roundw
          case rel => exact ⟨a + 1, by omega, by go_num, HB3.out⟩
          case measure => simp [intOf]; omega
    · obtain rfl : a = N := by omega
      have e1 : decide ((a : Int) < (a : Int)) = false := decide_eq_false (by omega)
      go_wp2_with fail
      go_ret
      exact ⟨rfl, HBW.out.trans (HBR.out.mono HBW.out.size)⟩

theorem diskCrash_walk (d : Gw.Disk.Disk) (hsz : -9223372036854775808 ≤ d.size ∧ d.size ≤ 9223372036854775807) (hl : d.loose.length ≤ maxLen) (sl : Value) (picks : ByteArray) (w : World) (hp : PatchesAt w sl d.loose) :
    Calls Try.prog 6 #[diskV d sl, .string picks] w fun e w' => e = .returned (.bool true) ∧ Below w.heap.size w w' := by
  by_cases hf : few d = true
  · by_cases hpicks : picks.size ≤ 1000
    · by_cases hc : Gw.Disk.check d = true
      · exact diskCrash_ok d hsz hl sl picks w hp hf hpicks hc
      · exact diskCrash_chk d hsz hl sl picks w hp hf hpicks (Bool.eq_false_iff.mpr hc)
    · exact diskCrash_len0 d hsz hl sl picks w hp hf hpicks
  · exact diskCrash_few d hsz hl sl picks w hp (Bool.eq_false_iff.mpr hf)
end Go.Proofs.Ytfehckdcjgmcpaa
