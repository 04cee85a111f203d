/- The walk of gunwalelaw12.DiskPicks. -/
import Derived.Test.YtfehckdcjgmcpaaDiskAwake
import Derived.Test.YtfehckdcjgmcpaaDiskPlain5
import Derived.Deep.RegionHeld
namespace Go.Proofs.Ytfehckdcjgmcpaa
open Go.RowKit

theorem stepB {w0 w1 w2 : World} {X : Prop} (hb : Below w1.heap.size w1 w2) (h : Below w0.heap.size w0 w1 ∧ X) : Below w0.heap.size w0 w2 := h.1.step hb

set_option maxRecDepth 1000000 in
set_option maxHeartbeats 1000000 in
theorem diskPicks_few (d : Gw.Disk.Disk) (_hsz : -9223372036854775808 ≤ d.size ∧ d.size ≤ 9223372036854775807) (hl : d.loose.length ≤ maxLen) (sl : Value) (picks : ByteArray) (more : ByteArray) (w : World) (hp : PatchesAt w sl d.loose) (hf : few d = false) :
    Calls Try.prog 7 #[diskV d sl, .string picks, .string more] w fun e w' => e = .returned (.bool true) ∧ Below w.heap.size w w' := by
  have HA := Lib.hid awake_any
  have HF := Lib.hid (rfew_any d hl sl)
  rw [hf] at HF
  clear hf
  obtain ⟨size, firm, ps⟩ := d
  unfold diskV at *
  simp only at hp hl HF ⊢
  have HB0 := Lib.hid (Below.refl w.heap.size w)
  have HP0 := Lib.hid hp
  clear hp
  go_enter Try.func7, Try.ntmps7
  have SC1 := Lib.hid (HA.out (w.alloc (.cells #[.int .i64 size, .string firm, sl] 24)))
  go_wp2_with fail
  refine (SC1.out).mono ?_
  rintro e w1 ⟨rfl, hb1⟩
  have HX1 := Lib.hid (((Below.refl w.heap.size w).new (.cells #[.int .i64 size, .string firm, sl] 24)).step hb1)
  have HB1 := Lib.hid (HB0.out.step HX1.out)
  have z1 : w.heap.size < w1.heap.size := by have := hb1.size; rw [World.size_alloc] at this; exact this
  have bd_1_0 := hb1.cell (p := ⟨w.heap.size, 0, none⟩) (by simp)
  have bd_1_1 := hb1.cell (p := ⟨w.heap.size, 1, none⟩) (by simp)
  have bd_1_2 := hb1.cell (p := ⟨w.heap.size, 2, none⟩) (by simp)
  simp at bd_1_0 bd_1_1 bd_1_2
  have bd_1z : w.heap.size < w1.heap.size := z1
  have HP0_1 := Lib.hid (HP0.out.below HX1.out (Nat.le_refl _))
  clear HP0
  clear hb1 
  have SC2 := Lib.hid (HF.out w1 HP0_1.out)
  go_wp2_with fail
  refine (SC2.out).mono ?_
  rintro e w2 ⟨rfl, hb2⟩
  have HX2 := Lib.hid ((Below.refl w1.heap.size w1).step hb2)
  have HB2 := Lib.hid (HB1.out.step HX2.out)
  have z2 : w1.heap.size ≤ w2.heap.size := by have := hb2.size; exact this
  have bd_2_0 := (HX2.out.cell (p := ⟨w.heap.size, 0, none⟩) bd_1z).trans bd_1_0
  have bd_2_1 := (HX2.out.cell (p := ⟨w.heap.size, 1, none⟩) bd_1z).trans bd_1_1
  have bd_2_2 := (HX2.out.cell (p := ⟨w.heap.size, 2, none⟩) bd_1z).trans bd_1_2
  have bd_2z : w.heap.size < w2.heap.size := Nat.lt_of_lt_of_le bd_1z z2
  clear bd_1_0 bd_1_1 bd_1_2 bd_1z
  have HP0_2 := Lib.hid (HP0_1.out.below HX2.out (Nat.le_refl _))
  clear HP0_1
  clear hb2 
  go_wp2_with fail
  go_ret
  exact ⟨rfl, HB2.out⟩
set_option maxRecDepth 1000000 in
set_option maxHeartbeats 1000000 in
theorem diskPicks_len0 (d : Gw.Disk.Disk) (_hsz : -9223372036854775808 ≤ d.size ∧ d.size ≤ 9223372036854775807) (hl : d.loose.length ≤ maxLen) (sl : Value) (picks : ByteArray) (more : ByteArray) (w : World) (hp : PatchesAt w sl d.loose) (hf : few d = true) (hx : ¬ picks.size ≤ 1000) :
    Calls Try.prog 7 #[diskV d sl, .string picks, .string more] w fun e w' => e = .returned (.bool true) ∧ Below w.heap.size w w' := by
  have HA := Lib.hid awake_any
  have HF := Lib.hid (rfew_any d hl sl)
  rw [hf] at HF
  have epicks : decide ((1000 : Int) < (picks.size : Int)) = true := decide_eq_true (by omega)
  clear hf hx
  obtain ⟨size, firm, ps⟩ := d
  unfold diskV at *
  simp only at hp hl HF ⊢
  have HB0 := Lib.hid (Below.refl w.heap.size w)
  have HP0 := Lib.hid hp
  clear hp
  go_enter Try.func7, Try.ntmps7
  have SC1 := Lib.hid (HA.out (w.alloc (.cells #[.int .i64 size, .string firm, sl] 24)))
  go_wp2_with fail
  refine (SC1.out).mono ?_
  rintro e w1 ⟨rfl, hb1⟩
  have HX1 := Lib.hid (((Below.refl w.heap.size w).new (.cells #[.int .i64 size, .string firm, sl] 24)).step hb1)
  have HB1 := Lib.hid (HB0.out.step HX1.out)
  have z1 : w.heap.size < w1.heap.size := by have := hb1.size; rw [World.size_alloc] at this; exact this
  have bd_1_0 := hb1.cell (p := ⟨w.heap.size, 0, none⟩) (by simp)
  have bd_1_1 := hb1.cell (p := ⟨w.heap.size, 1, none⟩) (by simp)
  have bd_1_2 := hb1.cell (p := ⟨w.heap.size, 2, none⟩) (by simp)
  simp at bd_1_0 bd_1_1 bd_1_2
  have bd_1z : w.heap.size < w1.heap.size := z1
  have HP0_1 := Lib.hid (HP0.out.below HX1.out (Nat.le_refl _))
  clear HP0
  clear hb1 
  have SC2 := Lib.hid (HF.out w1 HP0_1.out)
  go_wp2_with fail
  refine (SC2.out).mono ?_
  rintro e w2 ⟨rfl, hb2⟩
  have HX2 := Lib.hid ((Below.refl w1.heap.size w1).step hb2)
  have HB2 := Lib.hid (HB1.out.step HX2.out)
  have z2 : w1.heap.size ≤ w2.heap.size := by have := hb2.size; exact this
  have bd_2_0 := (HX2.out.cell (p := ⟨w.heap.size, 0, none⟩) bd_1z).trans bd_1_0
  have bd_2_1 := (HX2.out.cell (p := ⟨w.heap.size, 1, none⟩) bd_1z).trans bd_1_1
  have bd_2_2 := (HX2.out.cell (p := ⟨w.heap.size, 2, none⟩) bd_1z).trans bd_1_2
  have bd_2z : w.heap.size < w2.heap.size := Nat.lt_of_lt_of_le bd_1z z2
  clear bd_1_0 bd_1_1 bd_1_2 bd_1z
  have HP0_2 := Lib.hid (HP0_1.out.below HX2.out (Nat.le_refl _))
  clear HP0_1
  clear hb2 
  go_wp2_with fail
  go_ret
  exact ⟨rfl, HB2.out⟩
set_option maxRecDepth 1000000 in
set_option maxHeartbeats 1000000 in
theorem diskPicks_len1 (d : Gw.Disk.Disk) (_hsz : -9223372036854775808 ≤ d.size ∧ d.size ≤ 9223372036854775807) (hl : d.loose.length ≤ maxLen) (sl : Value) (picks : ByteArray) (more : ByteArray) (w : World) (hp : PatchesAt w sl d.loose) (hf : few d = true) (hpicks : picks.size ≤ 1000) (hx : ¬ more.size ≤ 1000) :
    Calls Try.prog 7 #[diskV d sl, .string picks, .string more] w fun e w' => e = .returned (.bool true) ∧ Below w.heap.size w w' := by
  have HA := Lib.hid awake_any
  have HF := Lib.hid (rfew_any d hl sl)
  rw [hf] at HF
  have epicks : decide ((1000 : Int) < (picks.size : Int)) = false := decide_eq_false (by omega)
  have emore : decide ((1000 : Int) < (more.size : Int)) = true := decide_eq_true (by omega)
  clear hf hpicks hx
  obtain ⟨size, firm, ps⟩ := d
  unfold diskV at *
  simp only at hp hl HF ⊢
  have HB0 := Lib.hid (Below.refl w.heap.size w)
  have HP0 := Lib.hid hp
  clear hp
  go_enter Try.func7, Try.ntmps7
  have SC1 := Lib.hid (HA.out (w.alloc (.cells #[.int .i64 size, .string firm, sl] 24)))
  go_wp2_with fail
  refine (SC1.out).mono ?_
  rintro e w1 ⟨rfl, hb1⟩
  have HX1 := Lib.hid (((Below.refl w.heap.size w).new (.cells #[.int .i64 size, .string firm, sl] 24)).step hb1)
  have HB1 := Lib.hid (HB0.out.step HX1.out)
  have z1 : w.heap.size < w1.heap.size := by have := hb1.size; rw [World.size_alloc] at this; exact this
  have bd_1_0 := hb1.cell (p := ⟨w.heap.size, 0, none⟩) (by simp)
  have bd_1_1 := hb1.cell (p := ⟨w.heap.size, 1, none⟩) (by simp)
  have bd_1_2 := hb1.cell (p := ⟨w.heap.size, 2, none⟩) (by simp)
  simp at bd_1_0 bd_1_1 bd_1_2
  have bd_1z : w.heap.size < w1.heap.size := z1
  have HP0_1 := Lib.hid (HP0.out.below HX1.out (Nat.le_refl _))
  clear HP0
  clear hb1 
  have SC2 := Lib.hid (HF.out w1 HP0_1.out)
  go_wp2_with fail
  refine (SC2.out).mono ?_
  rintro e w2 ⟨rfl, hb2⟩
  have HX2 := Lib.hid ((Below.refl w1.heap.size w1).step hb2)
  have HB2 := Lib.hid (HB1.out.step HX2.out)
  have z2 : w1.heap.size ≤ w2.heap.size := by have := hb2.size; exact this
  have bd_2_0 := (HX2.out.cell (p := ⟨w.heap.size, 0, none⟩) bd_1z).trans bd_1_0
  have bd_2_1 := (HX2.out.cell (p := ⟨w.heap.size, 1, none⟩) bd_1z).trans bd_1_1
  have bd_2_2 := (HX2.out.cell (p := ⟨w.heap.size, 2, none⟩) bd_1z).trans bd_1_2
  have bd_2z : w.heap.size < w2.heap.size := Nat.lt_of_lt_of_le bd_1z z2
  clear bd_1_0 bd_1_1 bd_1_2 bd_1z
  have HP0_2 := Lib.hid (HP0_1.out.below HX2.out (Nat.le_refl _))
  clear HP0_1
  clear hb2 
  go_wp2_with fail
  go_ret
  exact ⟨rfl, HB2.out⟩
set_option maxRecDepth 1000000 in
set_option maxHeartbeats 1000000 in
theorem diskPicks_chk (d : Gw.Disk.Disk) (hsz : -9223372036854775808 ≤ d.size ∧ d.size ≤ 9223372036854775807) (hl : d.loose.length ≤ maxLen) (sl : Value) (picks : ByteArray) (more : ByteArray) (w : World) (hp : PatchesAt w sl d.loose) (hf : few d = true) (hpicks : picks.size ≤ 1000) (hmore : more.size ≤ 1000) (hc : Gw.Disk.check d = false) :
    Calls Try.prog 7 #[diskV d sl, .string picks, .string more] w fun e w' => e = .returned (.bool true) ∧ Below w.heap.size w w' := by
  have HA := Lib.hid awake_any
  have HF := Lib.hid (rfew_any d hl sl)
  rw [hf] at HF
  have HC := Lib.hid (check_any d hsz hl sl)
  rw [hc] at HC
  have epicks : decide ((1000 : Int) < (picks.size : Int)) = false := decide_eq_false (by omega)
  have emore : decide ((1000 : Int) < (more.size : Int)) = false := decide_eq_false (by omega)
  clear hf hpicks hmore hc
  obtain ⟨size, firm, ps⟩ := d
  unfold diskV at *
  simp only at hp hl HF HC ⊢
  have HB0 := Lib.hid (Below.refl w.heap.size w)
  have HP0 := Lib.hid hp
  clear hp
  go_enter Try.func7, Try.ntmps7
  have SC1 := Lib.hid (HA.out (w.alloc (.cells #[.int .i64 size, .string firm, sl] 24)))
  go_wp2_with fail
  refine (SC1.out).mono ?_
  rintro e w1 ⟨rfl, hb1⟩
  have HX1 := Lib.hid (((Below.refl w.heap.size w).new (.cells #[.int .i64 size, .string firm, sl] 24)).step hb1)
  have HB1 := Lib.hid (HB0.out.step HX1.out)
  have z1 : w.heap.size < w1.heap.size := by have := hb1.size; rw [World.size_alloc] at this; exact this
  have bd_1_0 := hb1.cell (p := ⟨w.heap.size, 0, none⟩) (by simp)
  have bd_1_1 := hb1.cell (p := ⟨w.heap.size, 1, none⟩) (by simp)
  have bd_1_2 := hb1.cell (p := ⟨w.heap.size, 2, none⟩) (by simp)
  simp at bd_1_0 bd_1_1 bd_1_2
  have bd_1z : w.heap.size < w1.heap.size := z1
  have HP0_1 := Lib.hid (HP0.out.below HX1.out (Nat.le_refl _))
  clear HP0
  clear hb1 
  have SC2 := Lib.hid (HF.out w1 HP0_1.out)
  go_wp2_with fail
  refine (SC2.out).mono ?_
  rintro e w2 ⟨rfl, hb2⟩
  have HX2 := Lib.hid ((Below.refl w1.heap.size w1).step hb2)
  have HB2 := Lib.hid (HB1.out.step HX2.out)
  have z2 : w1.heap.size ≤ w2.heap.size := by have := hb2.size; exact this
  have bd_2_0 := (HX2.out.cell (p := ⟨w.heap.size, 0, none⟩) bd_1z).trans bd_1_0
  have bd_2_1 := (HX2.out.cell (p := ⟨w.heap.size, 1, none⟩) bd_1z).trans bd_1_1
  have bd_2_2 := (HX2.out.cell (p := ⟨w.heap.size, 2, none⟩) bd_1z).trans bd_1_2
  have bd_2z : w.heap.size < w2.heap.size := Nat.lt_of_lt_of_le bd_1z z2
  clear bd_1_0 bd_1_1 bd_1_2 bd_1z
  have HP0_2 := Lib.hid (HP0_1.out.below HX2.out (Nat.le_refl _))
  clear HP0_1
  clear hb2 
  have SC3 := Lib.hid (HC.out w2 HP0_2.out)
  go_wp2_with fail
  refine (SC3.out).mono ?_
  rintro e w3 ⟨rfl, hb3⟩
  have HX3 := Lib.hid ((Below.refl w2.heap.size w2).step hb3)
  have HB3 := Lib.hid (HB2.out.step HX3.out)
  have z3 : w2.heap.size ≤ w3.heap.size := by have := hb3.size; exact this
  have bd_3_0 := (HX3.out.cell (p := ⟨w.heap.size, 0, none⟩) bd_2z).trans bd_2_0
  have bd_3_1 := (HX3.out.cell (p := ⟨w.heap.size, 1, none⟩) bd_2z).trans bd_2_1
  have bd_3_2 := (HX3.out.cell (p := ⟨w.heap.size, 2, none⟩) bd_2z).trans bd_2_2
  have bd_3z : w.heap.size < w3.heap.size := Nat.lt_of_lt_of_le bd_2z z3
  clear bd_2_0 bd_2_1 bd_2_2 bd_2z
  have HP0_3 := Lib.hid (HP0_2.out.below HX3.out (Nat.le_refl _))
  clear HP0_2
  clear hb3 
  go_wp2_with fail
  go_ret
  exact ⟨rfl, HB3.out⟩

theorem snoc_one {X : ByteArray} {n : Nat} {c : UInt8} (h : X.data.toList = List.replicate n c) : (X ++ ⟨#[c]⟩).data.toList = List.replicate (n + 1) c := by
  rw [ByteArray.data_append, Array.toList_append, h, List.replicate_succ']
theorem snoc_size {X : ByteArray} {n : Nat} {c : UInt8} (h : X.data.toList = List.replicate n c) : X.size = n := by
  have : X.data.toList.length = X.size := rfl
  rw [← this, h, List.length_replicate]

set_option maxRecDepth 1000000 in
set_option maxHeartbeats 2000000 in
theorem diskPicks_ok (d : Gw.Disk.Disk) (hsz : -9223372036854775808 ≤ d.size ∧ d.size ≤ 9223372036854775807) (hl : d.loose.length ≤ maxLen) (sl : Value) (picks : ByteArray) (more : ByteArray) (w : World) (hp : PatchesAt w sl d.loose) (hf : few d = true) (hpicks : picks.size ≤ 1000) (hmore : more.size ≤ 1000) (hc : Gw.Disk.check d = true) :
    Calls Try.prog 7 #[diskV d sl, .string picks, .string more] w fun e w' => e = .returned (.bool true) ∧ Below w.heap.size w w' := by
  have hfs : d.loose.length ≤ 100 := by
    unfold few at hf
    simp only [Bool.and_eq_true, decide_eq_true_eq] at hf
    exact hf.2.2.2
  have HA := Lib.hid awake_any
  have HF := Lib.hid (rfew_any d hl sl)
  rw [hf] at HF
  have HC := Lib.hid (check_any d hsz hl sl)
  rw [hc] at HC
  have es : decide ((1000 : Int) < (picks.size : Int)) = false := decide_eq_false (by omega)
  have et : decide ((1000 : Int) < (more.size : Int)) = false := decide_eq_false (by omega)
  have TN := Lib.hid (Gw.Disk.crash_none hc ⟨#[]⟩ rfl)
  have TA := Lib.hid (fun q hq => Gw.Disk.crash_all hc q hq)
  have TL := Lib.hid (fun q hq => Gw.Disk.crash_longer (d := d) picks q more hq)
  have KN := Lib.hid (crash_any d hsz (by omega) sl ⟨#[]⟩ (by decide))
  rw [TN.out] at KN
  have KC := Lib.hid (fun q (hq : q.size ≤ 1000000000) => crash_any d hsz (by omega) sl q hq)
  have KF := Lib.hid (flush_any d hsz (by omega) sl)
  have HPS := Lib.hid hpicks
  have HMS := Lib.hid hmore
  have HFS := Lib.hid hfs
  have hfl : (Gw.Disk.flush d).loose.length ≤ maxLen := by
    rw [Gw.Disk.flush_firm hc]
    exact Nat.zero_le _
  have hcl : (Gw.Disk.crash d picks).loose.length ≤ maxLen := by
    rw [Gw.Disk.crash, if_pos hc]
    exact Nat.zero_le _
  have HFL := Lib.hid hfl
  have HCL := Lib.hid hcl
  clear hf hc TN hfl hcl
  obtain ⟨size, firm, ps⟩ := d
  unfold SaidDisk at KN KC KF
  unfold diskV at *
  simp only at hp hl hsz hfs HF HC KN KC KF TA TL HFS HFL HCL ⊢
  obtain ⟨ao0, cap0, rfl⟩ := hp.form
  have HB0 := Lib.hid (Below.refl w.heap.size w)
  have HP0 := Lib.hid hp
  clear hp
  go_enter Try.func7, Try.ntmps7
  have SC1 := Lib.hid (HA.out (w.alloc (.cells #[.int .i64 size, .string firm, .slice ao0 ps.length cap0] 24)))
  go_wp2_with fail
  refine (SC1.out).mono ?_
  rintro e w1 ⟨rfl, hb1⟩
  have HX1 := Lib.hid (((Below.refl w.heap.size w).new (.cells #[.int .i64 size, .string firm, .slice ao0 ps.length cap0] 24)).step hb1)
  have HB1 := Lib.hid (HB0.out.step HX1.out)
  have z1 : w.heap.size < w1.heap.size := by have := hb1.size; rw [World.size_alloc] at this; exact this
  have bd_1_0 := hb1.cell (p := ⟨w.heap.size, 0, none⟩) (by simp)
  have bd_1_1 := hb1.cell (p := ⟨w.heap.size, 1, none⟩) (by simp)
  have bd_1_2 := hb1.cell (p := ⟨w.heap.size, 2, none⟩) (by simp)
  simp at bd_1_0 bd_1_1 bd_1_2
  have bd_1z : w.heap.size < w1.heap.size := z1
  have HP0_1 := Lib.hid (HP0.out.below HX1.out (Nat.le_refl _))
  clear HP0
  clear hb1 
  have SC2 := Lib.hid (HF.out w1 HP0_1.out)
  go_wp2_with fail
  refine (SC2.out).mono ?_
  rintro e w2 ⟨rfl, hb2⟩
  have HX2 := Lib.hid ((Below.refl w1.heap.size w1).step hb2)
  have HB2 := Lib.hid (HB1.out.step HX2.out)
  have z2 : w1.heap.size ≤ w2.heap.size := by have := hb2.size; exact this
  have bd_2_0 := (HX2.out.cell (p := ⟨w.heap.size, 0, none⟩) bd_1z).trans bd_1_0
  have bd_2_1 := (HX2.out.cell (p := ⟨w.heap.size, 1, none⟩) bd_1z).trans bd_1_1
  have bd_2_2 := (HX2.out.cell (p := ⟨w.heap.size, 2, none⟩) bd_1z).trans bd_1_2
  have bd_2z : w.heap.size < w2.heap.size := Nat.lt_of_lt_of_le bd_1z z2
  clear bd_1_0 bd_1_1 bd_1_2 bd_1z
  have HP0_2 := Lib.hid (HP0_1.out.below HX2.out (Nat.le_refl _))
  clear HP0_1
  clear hb2 
  have SC3 := Lib.hid (HC.out w2 HP0_2.out)
  go_wp2_with fail
  refine (SC3.out).mono ?_
  rintro e w3 ⟨rfl, hb3⟩
  have HX3 := Lib.hid ((Below.refl w2.heap.size w2).step hb3)
  have HB3 := Lib.hid (HB2.out.step HX3.out)
  have z3 : w2.heap.size ≤ w3.heap.size := by have := hb3.size; exact this
  have bd_3_0 := (HX3.out.cell (p := ⟨w.heap.size, 0, none⟩) bd_2z).trans bd_2_0
  have bd_3_1 := (HX3.out.cell (p := ⟨w.heap.size, 1, none⟩) bd_2z).trans bd_2_1
  have bd_3_2 := (HX3.out.cell (p := ⟨w.heap.size, 2, none⟩) bd_2z).trans bd_2_2
  have bd_3z : w.heap.size < w3.heap.size := Nat.lt_of_lt_of_le bd_2z z3
  clear bd_2_0 bd_2_1 bd_2_2 bd_2z
  have HP0_3 := Lib.hid (HP0_2.out.below HX3.out (Nat.le_refl _))
  clear HP0_2
  clear hb3 
  go_wp2_with fail
  go_loopw [8, 9] (fun al i wr => ∃ (k : Nat) (X : ByteArray), k ≤ ps.length ∧ i = .int .i64 k ∧ al = .string X ∧ X.data.toList = List.replicate k 1 ∧ wr = w3) (fun _ i _ => ps.length - (intOf i).toNat)
  case atStart => exact ⟨0, ⟨#[]⟩, Nat.zero_le _, rfl, rfl, rfl, by simp⟩
  case round =>
    obtain ⟨k, X, hk, rfl, rfl, hX, hwr⟩ := hrel
    replace hwr := hwr.symm
    subst hwr
    have hXs := snoc_size hX
    have HXX := Lib.hid hX
    clear hX
    by_cases hlt : k < ps.length
    · have e1 : decide ((k : Int) < (ps.length : Int)) = true := decide_eq_true (by omega)
      have hXm : X.size ≤ 100 := by omega
      clear hXs
      go_wp2_with fail
      go_roundw
      case rel => exact ⟨k + 1, X ++ ⟨#[1]⟩, by omega, by go_num, rfl, snoc_one HXX.out, trivial⟩
      case measure => simp [intOf]; omega
    · obtain rfl : k = ps.length := by omega
      have e1 : decide ((ps.length : Int) < (ps.length : Int)) = false := decide_eq_false (by omega)
      have HXS := Lib.hid hXs
      clear hXs
      have SC4 := Lib.hid (KN.out w3 HP0_3.out)
      go_wp2_with fail
      refine (SC4.out).mono ?_
      rintro e w4 ⟨sl4, rfl, ho4, hb4⟩
      obtain ⟨aoN, capN, rfl⟩ := ho4.form
      have HX4 := Lib.hid ((Below.refl w3.heap.size w3).step hb4)
      have HB4 := Lib.hid (HB3.out.step HX4.out)
      have HP4 := Lib.hid ho4.patches
      have z4 : w3.heap.size ≤ w4.heap.size := by have := hb4.size; exact this
      have bd_4_0 := (HX4.out.cell (p := ⟨w.heap.size, 0, none⟩) bd_3z).trans bd_3_0
      have bd_4_1 := (HX4.out.cell (p := ⟨w.heap.size, 1, none⟩) bd_3z).trans bd_3_1
      have bd_4_2 := (HX4.out.cell (p := ⟨w.heap.size, 2, none⟩) bd_3z).trans bd_3_2
      have bd_4z : w.heap.size < w4.heap.size := Nat.lt_of_lt_of_le bd_3z z4
      clear bd_3_0 bd_3_1 bd_3_2 bd_3z
      have HP0_4 := Lib.hid (HP0_3.out.below HX4.out (Nat.le_refl _))
      clear HP0_3
      clear hb4 ho4
      have zz := World.size_alloc w4 (.cells #[.int .i64 size, .string firm, .slice aoN 0 capN] 24)
      have hbx := (Below.refl w4.heap.size w4).new (.cells #[.int .i64 size, .string firm, .slice aoN 0 capN] 24)
      have cb0 := (hbx.cell (p := ⟨w.heap.size, 0, none⟩) bd_4z).trans bd_4_0
      have cb1 := (hbx.cell (p := ⟨w.heap.size, 1, none⟩) bd_4z).trans bd_4_1
      have cb2 := (hbx.cell (p := ⟨w.heap.size, 2, none⟩) bd_4z).trans bd_4_2
      have zb : w.heap.size < (w4.alloc (.cells #[.int .i64 size, .string firm, .slice aoN 0 capN] 24)).heap.size := by rw [zz]; exact Nat.lt_succ_of_lt bd_4z
      have ck0 : (w4.alloc (.cells #[.int .i64 size, .string firm, .slice aoN 0 capN] 24)).cell? ⟨w4.heap.size, 0, none⟩ = some (.int .i64 size) := new_cell rfl rfl
      have ck1 : (w4.alloc (.cells #[.int .i64 size, .string firm, .slice aoN 0 capN] 24)).cell? ⟨w4.heap.size, 1, none⟩ = some (.string firm) := new_cell rfl rfl
      have ck2 : (w4.alloc (.cells #[.int .i64 size, .string firm, .slice aoN 0 capN] 24)).cell? ⟨w4.heap.size, 2, none⟩ = some (.slice aoN 0 capN) := new_cell rfl rfl
      have zk : w4.heap.size < (w4.alloc (.cells #[.int .i64 size, .string firm, .slice aoN 0 capN] 24)).heap.size := by rw [zz]; exact Nat.lt_succ_self _
      have PD := HP0_4.out.below hbx (Nat.le_refl _)
      have HBZ := Lib.hid (HB4.out.new (.cells #[.int .i64 size, .string firm, .slice aoN 0 capN] 24))
      obtain ⟨WN, hWN⟩ : ∃ WN, WN = w4.alloc (.cells #[.int .i64 size, .string firm, .slice aoN 0 capN] 24) := ⟨_, rfl⟩
      rw [← hWN] at cb0 cb1 cb2 ck0 ck1 ck2 zb zk PD HBZ hbx zz
      have MK : ∀ w' : World, Below WN.heap.size WN w' → Below WN.heap.size WN w' ∧ w'.cell? ⟨w.heap.size, 0, none⟩ = some (.int .i64 size) ∧ w'.cell? ⟨w.heap.size, 1, none⟩ = some (.string firm) ∧ w'.cell? ⟨w.heap.size, 2, none⟩ = some (.slice ao0 ps.length cap0) ∧ w'.cell? ⟨w4.heap.size, 0, none⟩ = some (.int .i64 size) ∧ w'.cell? ⟨w4.heap.size, 1, none⟩ = some (.string firm) ∧ w'.cell? ⟨w4.heap.size, 2, none⟩ = some (.slice aoN 0 capN) := fun w' hB => ⟨hB, (hB.cell (p := ⟨w.heap.size, 0, none⟩) zb).trans cb0, (hB.cell (p := ⟨w.heap.size, 1, none⟩) zb).trans cb1, (hB.cell (p := ⟨w.heap.size, 2, none⟩) zb).trans cb2, (hB.cell (p := ⟨w4.heap.size, 0, none⟩) zk).trans ck0, (hB.cell (p := ⟨w4.heap.size, 1, none⟩) zk).trans ck1, (hB.cell (p := ⟨w4.heap.size, 2, none⟩) zk).trans ck2⟩
      go_wp2_with fail
      rw [← hWN]
      clear hWN
      go_loopw [11] (fun al wr => ∃ (k : Nat) (X : ByteArray), k ≤ ps.length - picks.size ∧ al = .string X ∧ X.data.toList = picks.data.toList ++ List.replicate k 0 ∧ wr = WN) (fun al _ => ps.length - (match al with | .string Y => Y.size | _ => 0))
      case atStart => exact ⟨0, picks, Nat.zero_le _, rfl, by simp, by simp⟩
      case round =>
        obtain ⟨k, Y, hk, rfl, hY, hwr⟩ := hrel
        replace hwr := hwr.symm
        subst hwr
        have hYs : Y.size = picks.size + k := by
          have h1 : Y.data.toList.length = Y.size := rfl
          have h2 : picks.data.toList.length = picks.size := rfl
          rw [← h1, hY, List.length_append, List.length_replicate, h2]
        have HYY := Lib.hid hY
        have HYS := Lib.hid hYs
        have hYm : Y.size ≤ 1100 := by have := HPS.out; omega
        clear hY hYs
        by_cases hlt : Y.size < ps.length
        · have e1 : decide ((Y.size : Int) < (ps.length : Int)) = true := decide_eq_true (by omega)
          go_wp2_with fail
          go_roundw
          case rel => exact ⟨k + 1, Y ++ ⟨#[0]⟩, by have := HYS.out; omega, rfl, by rw [ByteArray.data_append, Array.toList_append, HYY.out, List.replicate_succ', List.append_assoc], trivial⟩
          case measure =>
            have h3 : (Y ++ (⟨#[0]⟩ : ByteArray)).size = Y.size + 1 := by rw [ByteArray.size_append]; rfl
            simp only [h3]
            omega
        · have e1 : decide ((Y.size : Int) < (ps.length : Int)) = false := decide_eq_false (by omega)
          have hk2 : k = ps.length - picks.size := by have := HYS.out; omega
          have hq := TL.out Y (by rw [HYY.out, hk2])
          have hqa := TA.out X HXX.out
          have C1 := Lib.hid (KC.out X (by have := HXS.out; omega))
          rw [hqa] at C1
          have hYL : (Y ++ more).size ≤ 1000000000 := by rw [ByteArray.size_append]; have := HMS.out; omega
          have hmm : more.size ≤ 1000 := HMS.out
          have hYL2 : Y.size + more.size ≤ 9223372036854775807 := by omega
          have hYL3 : (Y.size : Int) + (more.size : Int) ≤ 9223372036854775807 := by omega
          have hYL4 : ¬ ((9223372036854775807 : Int) < (Y.size : Int) + (more.size : Int)) := by omega
          have hYL5 : ¬ (((Y.size + more.size : Nat) : Int) > IntKind.i64.max) := by show ¬ ((9223372036854775807 : Int) < ((Y.size + more.size : Nat) : Int)); omega
          have C2 := Lib.hid (KC.out (Y ++ more) hYL)
          rw [hq] at C2
          have C3 := Lib.hid (KC.out picks (by have := HPS.out; omega))
          have hS0 := MK _ (Below.refl WN.heap.size WN).drew
          clear hq hqa TL TA KC KN
          generalize Gw.Disk.flush ⟨size, firm, ps⟩ = G at *
          generalize Gw.Disk.crash ⟨size, firm, ps⟩ picks = G2 at *
          obtain ⟨zG, fG, pG⟩ := G
          obtain ⟨zH, fH, pH⟩ := G2
          simp only at C1 C2 C3 KF HFL HCL
          go_wp2_with fail
          go_region_held (fun w' => Below WN.heap.size WN w' ∧ w'.cell? ⟨w.heap.size, 0, none⟩ = some (.int .i64 size) ∧ w'.cell? ⟨w.heap.size, 1, none⟩ = some (.string firm) ∧ w'.cell? ⟨w.heap.size, 2, none⟩ = some (.slice ao0 ps.length cap0) ∧ w'.cell? ⟨w4.heap.size, 0, none⟩ = some (.int .i64 size) ∧ w'.cell? ⟨w4.heap.size, 1, none⟩ = some (.string firm) ∧ w'.cell? ⟨w4.heap.size, 2, none⟩ = some (.slice aoN 0 capN)) (assumption) (first | (go_at_call_of 21 (Value.string X); refine (C1.out _ (PD.below (And.left (by assumption)) (Nat.le_refl _))).mono ?_; rintro e wq11 ⟨sl11, rfl, ho11, hb11⟩; have hP11 := ho11.patches; obtain ⟨ao11, cap11, rfl⟩ := ho11.form; have hK5 := MK _ (stepB hb11 (by assumption)); clear ho11 hb11) | (go_at_call 19; refine (KF.out _ (PD.below (And.left (by assumption)) (Nat.le_refl _))).mono ?_; rintro e wq12 ⟨sl12, rfl, ho12, hb12⟩; have hP12 := ho12.patches; obtain ⟨ao12, cap12, rfl⟩ := ho12.form; have hK5 := MK _ (stepB hb12 (by assumption)); clear ho12) | (go_at_call_of 18 (Value.agg #[.int .i64 zG, .string fG, .slice ao11 pG.length cap11]); refine (rsame_any ⟨zG, fG, pG⟩ HFL.out _ _ _ (hP11.below hb12 (Nat.le_refl _)) hP12).mono ?_; rintro e wq62 ⟨rfl, hbs⟩; have hK5 := MK _ (stepB hbs (by assumption)); clear hbs) | (go_at_call_of 21 (Value.string (Y ++ more)); refine (C2.out _ (PD.below (And.left (by assumption)) (Nat.le_refl _))).mono ?_; rintro e wq13 ⟨sl13, rfl, ho13, hb13⟩; have hP13 := ho13.patches; obtain ⟨ao13, cap13, rfl⟩ := ho13.form; have hK5 := MK _ (stepB hb13 (by assumption)); clear ho13 hb13) | (go_at_call_of 21 (Value.string picks); refine (C3.out _ (PD.below (And.left (by assumption)) (Nat.le_refl _))).mono ?_; rintro e wq14 ⟨sl14, rfl, ho14, hb14⟩; have hP14 := ho14.patches; obtain ⟨ao14, cap14, rfl⟩ := ho14.form; have hK5 := MK _ (stepB hb14 (by assumption)); clear ho14) | (go_at_call_of 18 (Value.agg #[.int .i64 zH, .string fH, .slice ao13 pH.length cap13]); refine (rsame_any ⟨zH, fH, pH⟩ HCL.out _ _ _ (hP13.below hb14 (Nat.le_refl _)) hP14).mono ?_; rintro e wq64 ⟨rfl, hbs⟩; have hK5 := MK _ (stepB hbs (by assumption)); clear hbs))
          all_goals
            go_wp2_with fail
            go_ret
            exact ⟨rfl, HBZ.out.step hK5.1⟩

theorem diskPicks_walk (d : Gw.Disk.Disk) (hsz : -9223372036854775808 ≤ d.size ∧ d.size ≤ 9223372036854775807) (hl : d.loose.length ≤ maxLen) (sl : Value) (picks : ByteArray) (more : ByteArray) (w : World) (hp : PatchesAt w sl d.loose) :
    Calls Try.prog 7 #[diskV d sl, .string picks, .string more] w fun e w' => e = .returned (.bool true) ∧ Below w.heap.size w w' := by
  by_cases hf : few d = true
  · by_cases hpicks : picks.size ≤ 1000
    · by_cases hmore : more.size ≤ 1000
      · by_cases hc : Gw.Disk.check d = true
        · exact diskPicks_ok d hsz hl sl picks more w hp hf hpicks hmore hc
        · exact diskPicks_chk d hsz hl sl picks more w hp hf hpicks hmore (Bool.eq_false_iff.mpr hc)
      · exact diskPicks_len1 d hsz hl sl picks more w hp hf hpicks hmore
    · exact diskPicks_len0 d hsz hl sl picks more w hp hf hpicks
  · exact diskPicks_few d hsz hl sl picks more w hp (Bool.eq_false_iff.mpr hf)
end Go.Proofs.Ytfehckdcjgmcpaa
