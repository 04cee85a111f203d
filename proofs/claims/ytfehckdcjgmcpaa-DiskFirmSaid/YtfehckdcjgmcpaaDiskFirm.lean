/- The walk of gunwalelaw12.DiskFirm. -/
import Derived.Test.YtfehckdcjgmcpaaDiskAwake
import Derived.Test.YtfehckdcjgmcpaaDiskPlain3
import Derived.Deep.RegionHeld3
namespace Go.Proofs.Ytfehckdcjgmcpaa
open Go.RowKit

theorem keep5 {w w1 w2 : World} {b : Nat} {x y z : Value} (hb : Below w1.heap.size w1 w2) (h : w1.cell? ⟨b, 0, none⟩ = some x ∧ w1.cell? ⟨b, 1, none⟩ = some y ∧ w1.cell? ⟨b, 2, none⟩ = some z ∧ b < w1.heap.size ∧ Below w.heap.size w w1) :
    w2.cell? ⟨b, 0, none⟩ = some x ∧ w2.cell? ⟨b, 1, none⟩ = some y ∧ w2.cell? ⟨b, 2, none⟩ = some z ∧ b < w2.heap.size ∧ Below w.heap.size w w2 :=
  ⟨(hb.cell (p := ⟨b, 0, none⟩) h.2.2.2.1).trans h.1, (hb.cell (p := ⟨b, 1, none⟩) h.2.2.2.1).trans h.2.1, (hb.cell (p := ⟨b, 2, none⟩) h.2.2.2.1).trans h.2.2.1, Nat.lt_of_lt_of_le h.2.2.2.1 hb.size, h.2.2.2.2.step hb⟩

set_option maxRecDepth 1000000 in
set_option maxHeartbeats 1000000 in
theorem diskFirm_few (d : Gw.Disk.Disk) (_hsz : -9223372036854775808 ≤ d.size ∧ d.size ≤ 9223372036854775807) (hl : d.loose.length ≤ maxLen) (sl : Value) (picks : ByteArray) (at_ : Int) (_ha : -9223372036854775808 ≤ at_ ∧ at_ ≤ 9223372036854775807) (n : Int) (_hn : -9223372036854775808 ≤ n ∧ n ≤ 9223372036854775807) (w : World) (hp : PatchesAt w sl d.loose) (hf : few d = false) :
    Calls Try.prog 5 #[diskV d sl, .string picks, .int .i64 at_, .int .i64 n] w fun e w' => e = .returned (.bool true) ∧ Below w.heap.size w w' := by
  have HA := Lib.hid awake_any
  have HF := Lib.hid (rfew_any d hl sl)
  rw [hf] at HF
  clear hf
  obtain ⟨size, firm, ps⟩ := d
  unfold diskV at *
  simp only at hp hl HF ⊢
  have HB0 := Lib.hid (Below.refl w.heap.size w)
  have HP0 := Lib.hid hp
  clear hp
  go_enter Try.func5, Try.ntmps5
  have SC1 := Lib.hid (HA.out (w.alloc (.cells #[.int .i64 size, .string firm, sl] 24)))
  go_wp2_with fail
  refine (SC1.out).mono ?_
  rintro e w1 ⟨rfl, hb1⟩
  have HX1 := Lib.hid (((Below.refl w.heap.size w).new (.cells #[.int .i64 size, .string firm, sl] 24)).step hb1)
  have HB1 := Lib.hid (HB0.out.step HX1.out)
  have z1 : w.heap.size < w1.heap.size := by have := hb1.size; rw [World.size_alloc] at this; exact this
  have bd_1_0 := hb1.cell (p := ⟨w.heap.size, 0, none⟩) (by simp)
  have bd_1_1 := hb1.cell (p := ⟨w.heap.size, 1, none⟩) (by simp)
  have bd_1_2 := hb1.cell (p := ⟨w.heap.size, 2, none⟩) (by simp)
  simp at bd_1_0 bd_1_1 bd_1_2
  have bd_1z : w.heap.size < w1.heap.size := z1
  have HP0_1 := Lib.hid (HP0.out.below HX1.out (Nat.le_refl _))
  clear HP0
  clear hb1 
  have SC2 := Lib.hid (HF.out w1 HP0_1.out)
  go_wp2_with fail
  refine (SC2.out).mono ?_
  rintro e w2 ⟨rfl, hb2⟩
  have HX2 := Lib.hid ((Below.refl w1.heap.size w1).step hb2)
  have HB2 := Lib.hid (HB1.out.step HX2.out)
  have z2 : w1.heap.size ≤ w2.heap.size := by have := hb2.size; exact this
  have bd_2_0 := (HX2.out.cell (p := ⟨w.heap.size, 0, none⟩) bd_1z).trans bd_1_0
  have bd_2_1 := (HX2.out.cell (p := ⟨w.heap.size, 1, none⟩) bd_1z).trans bd_1_1
  have bd_2_2 := (HX2.out.cell (p := ⟨w.heap.size, 2, none⟩) bd_1z).trans bd_1_2
  have bd_2z : w.heap.size < w2.heap.size := Nat.lt_of_lt_of_le bd_1z z2
  clear bd_1_0 bd_1_1 bd_1_2 bd_1z
  have HP0_2 := Lib.hid (HP0_1.out.below HX2.out (Nat.le_refl _))
  clear HP0_1
  clear hb2 
  go_wp2_with fail
  go_ret
  exact ⟨rfl, HB2.out⟩
set_option maxRecDepth 1000000 in
set_option maxHeartbeats 1000000 in
theorem diskFirm_len0 (d : Gw.Disk.Disk) (_hsz : -9223372036854775808 ≤ d.size ∧ d.size ≤ 9223372036854775807) (hl : d.loose.length ≤ maxLen) (sl : Value) (picks : ByteArray) (at_ : Int) (_ha : -9223372036854775808 ≤ at_ ∧ at_ ≤ 9223372036854775807) (n : Int) (_hn : -9223372036854775808 ≤ n ∧ n ≤ 9223372036854775807) (w : World) (hp : PatchesAt w sl d.loose) (hf : few d = true) (hx : ¬ picks.size ≤ 1000) :
    Calls Try.prog 5 #[diskV d sl, .string picks, .int .i64 at_, .int .i64 n] w fun e w' => e = .returned (.bool true) ∧ Below w.heap.size w w' := by
  have HA := Lib.hid awake_any
  have HF := Lib.hid (rfew_any d hl sl)
  rw [hf] at HF
  have epicks : decide ((1000 : Int) < (picks.size : Int)) = true := decide_eq_true (by omega)
  clear hf hx
  obtain ⟨size, firm, ps⟩ := d
  unfold diskV at *
  simp only at hp hl HF ⊢
  have HB0 := Lib.hid (Below.refl w.heap.size w)
  have HP0 := Lib.hid hp
  clear hp
  go_enter Try.func5, Try.ntmps5
  have SC1 := Lib.hid (HA.out (w.alloc (.cells #[.int .i64 size, .string firm, sl] 24)))
  go_wp2_with fail
  refine (SC1.out).mono ?_
  rintro e w1 ⟨rfl, hb1⟩
  have HX1 := Lib.hid (((Below.refl w.heap.size w).new (.cells #[.int .i64 size, .string firm, sl] 24)).step hb1)
  have HB1 := Lib.hid (HB0.out.step HX1.out)
  have z1 : w.heap.size < w1.heap.size := by have := hb1.size; rw [World.size_alloc] at this; exact this
  have bd_1_0 := hb1.cell (p := ⟨w.heap.size, 0, none⟩) (by simp)
  have bd_1_1 := hb1.cell (p := ⟨w.heap.size, 1, none⟩) (by simp)
  have bd_1_2 := hb1.cell (p := ⟨w.heap.size, 2, none⟩) (by simp)
  simp at bd_1_0 bd_1_1 bd_1_2
  have bd_1z : w.heap.size < w1.heap.size := z1
  have HP0_1 := Lib.hid (HP0.out.below HX1.out (Nat.le_refl _))
  clear HP0
  clear hb1 
  have SC2 := Lib.hid (HF.out w1 HP0_1.out)
  go_wp2_with fail
  refine (SC2.out).mono ?_
  rintro e w2 ⟨rfl, hb2⟩
  have HX2 := Lib.hid ((Below.refl w1.heap.size w1).step hb2)
  have HB2 := Lib.hid (HB1.out.step HX2.out)
  have z2 : w1.heap.size ≤ w2.heap.size := by have := hb2.size; exact this
  have bd_2_0 := (HX2.out.cell (p := ⟨w.heap.size, 0, none⟩) bd_1z).trans bd_1_0
  have bd_2_1 := (HX2.out.cell (p := ⟨w.heap.size, 1, none⟩) bd_1z).trans bd_1_1
  have bd_2_2 := (HX2.out.cell (p := ⟨w.heap.size, 2, none⟩) bd_1z).trans bd_1_2
  have bd_2z : w.heap.size < w2.heap.size := Nat.lt_of_lt_of_le bd_1z z2
  clear bd_1_0 bd_1_1 bd_1_2 bd_1z
  have HP0_2 := Lib.hid (HP0_1.out.below HX2.out (Nat.le_refl _))
  clear HP0_1
  clear hb2 
  go_wp2_with fail
  go_ret
  exact ⟨rfl, HB2.out⟩
set_option maxRecDepth 1000000 in
set_option maxHeartbeats 1000000 in
theorem diskFirm_chk (d : Gw.Disk.Disk) (hsz : -9223372036854775808 ≤ d.size ∧ d.size ≤ 9223372036854775807) (hl : d.loose.length ≤ maxLen) (sl : Value) (picks : ByteArray) (at_ : Int) (_ha : -9223372036854775808 ≤ at_ ∧ at_ ≤ 9223372036854775807) (n : Int) (_hn : -9223372036854775808 ≤ n ∧ n ≤ 9223372036854775807) (w : World) (hp : PatchesAt w sl d.loose) (hf : few d = true) (hpicks : picks.size ≤ 1000) (hc : Gw.Disk.check d = false) :
    Calls Try.prog 5 #[diskV d sl, .string picks, .int .i64 at_, .int .i64 n] w fun e w' => e = .returned (.bool true) ∧ Below w.heap.size w w' := by
  have HA := Lib.hid awake_any
  have HF := Lib.hid (rfew_any d hl sl)
  rw [hf] at HF
  have HC := Lib.hid (check_any d hsz hl sl)
  rw [hc] at HC
  have epicks : decide ((1000 : Int) < (picks.size : Int)) = false := decide_eq_false (by omega)
  clear hf hpicks hc
  obtain ⟨size, firm, ps⟩ := d
  unfold diskV at *
  simp only at hp hl HF HC ⊢
  have HB0 := Lib.hid (Below.refl w.heap.size w)
  have HP0 := Lib.hid hp
  clear hp
  go_enter Try.func5, Try.ntmps5
  have SC1 := Lib.hid (HA.out (w.alloc (.cells #[.int .i64 size, .string firm, sl] 24)))
  go_wp2_with fail
  refine (SC1.out).mono ?_
  rintro e w1 ⟨rfl, hb1⟩
  have HX1 := Lib.hid (((Below.refl w.heap.size w).new (.cells #[.int .i64 size, .string firm, sl] 24)).step hb1)
  have HB1 := Lib.hid (HB0.out.step HX1.out)
  have z1 : w.heap.size < w1.heap.size := by have := hb1.size; rw [World.size_alloc] at this; exact this
  have bd_1_0 := hb1.cell (p := ⟨w.heap.size, 0, none⟩) (by simp)
  have bd_1_1 := hb1.cell (p := ⟨w.heap.size, 1, none⟩) (by simp)
  have bd_1_2 := hb1.cell (p := ⟨w.heap.size, 2, none⟩) (by simp)
  simp at bd_1_0 bd_1_1 bd_1_2
  have bd_1z : w.heap.size < w1.heap.size := z1
  have HP0_1 := Lib.hid (HP0.out.below HX1.out (Nat.le_refl _))
  clear HP0
  clear hb1 
  have SC2 := Lib.hid (HF.out w1 HP0_1.out)
  go_wp2_with fail
  refine (SC2.out).mono ?_
  rintro e w2 ⟨rfl, hb2⟩
  have HX2 := Lib.hid ((Below.refl w1.heap.size w1).step hb2)
  have HB2 := Lib.hid (HB1.out.step HX2.out)
  have z2 : w1.heap.size ≤ w2.heap.size := by have := hb2.size; exact this
  have bd_2_0 := (HX2.out.cell (p := ⟨w.heap.size, 0, none⟩) bd_1z).trans bd_1_0
  have bd_2_1 := (HX2.out.cell (p := ⟨w.heap.size, 1, none⟩) bd_1z).trans bd_1_1
  have bd_2_2 := (HX2.out.cell (p := ⟨w.heap.size, 2, none⟩) bd_1z).trans bd_1_2
  have bd_2z : w.heap.size < w2.heap.size := Nat.lt_of_lt_of_le bd_1z z2
  clear bd_1_0 bd_1_1 bd_1_2 bd_1z
  have HP0_2 := Lib.hid (HP0_1.out.below HX2.out (Nat.le_refl _))
  clear HP0_1
  clear hb2 
  have SC3 := Lib.hid (HC.out w2 HP0_2.out)
  go_wp2_with fail
  refine (SC3.out).mono ?_
  rintro e w3 ⟨rfl, hb3⟩
  have HX3 := Lib.hid ((Below.refl w2.heap.size w2).step hb3)
  have HB3 := Lib.hid (HB2.out.step HX3.out)
  have z3 : w2.heap.size ≤ w3.heap.size := by have := hb3.size; exact this
  have bd_3_0 := (HX3.out.cell (p := ⟨w.heap.size, 0, none⟩) bd_2z).trans bd_2_0
  have bd_3_1 := (HX3.out.cell (p := ⟨w.heap.size, 1, none⟩) bd_2z).trans bd_2_1
  have bd_3_2 := (HX3.out.cell (p := ⟨w.heap.size, 2, none⟩) bd_2z).trans bd_2_2
  have bd_3z : w.heap.size < w3.heap.size := Nat.lt_of_lt_of_le bd_2z z3
  clear bd_2_0 bd_2_1 bd_2_2 bd_2z
  have HP0_3 := Lib.hid (HP0_2.out.below HX3.out (Nat.le_refl _))
  clear HP0_2
  clear hb3 
  go_wp2_with fail
  go_ret
  exact ⟨rfl, HB3.out⟩

set_option maxRecDepth 1000000 in
set_option maxHeartbeats 1000000 in
theorem diskFirm_ok (d : Gw.Disk.Disk) (hsz : -9223372036854775808 ≤ d.size ∧ d.size ≤ 9223372036854775807) (hl : d.loose.length ≤ maxLen) (sl : Value) (picks : ByteArray) (at_ : Int) (ha : -9223372036854775808 ≤ at_ ∧ at_ ≤ 9223372036854775807) (n : Int) (hn : -9223372036854775808 ≤ n ∧ n ≤ 9223372036854775807) (w : World) (hp : PatchesAt w sl d.loose) (hf : few d = true) (hpicks : picks.size ≤ 1000) (hc : Gw.Disk.check d = true) :
    Calls Try.prog 5 #[diskV d sl, .string picks, .int .i64 at_, .int .i64 n] w fun e w' => e = .returned (.bool true) ∧ Below w.heap.size w w' := by
  have hfs : d.loose.length ≤ 100 := by
    unfold few at hf
    simp only [Bool.and_eq_true, decide_eq_true_eq] at hf
    exact hf.2.2.2
  have HA := Lib.hid awake_any
  have HF := Lib.hid (rfew_any d hl sl)
  rw [hf] at HF
  have HC := Lib.hid (check_any d hsz hl sl)
  rw [hc] at HC
  have es : decide ((1000 : Int) < (picks.size : Int)) = false := decide_eq_false (by omega)
  have hck := Gw.Disk.firmOf_check hc
  have hrd := Gw.Disk.firmOf_read hc at_ n
  have hfl := Gw.Disk.firmOf_flush hc
  have hcr := Gw.Disk.firmOf_crash hc picks
  have HK := Lib.hid (flush_any d hsz (by omega) sl)
  rw [Gw.Disk.flush_firm hc] at HK
  have HR1 := Lib.hid (read_any d hsz hl sl at_ n ha hn)
  have hk : Gw.Disk.firmOf d = ⟨d.size, (Gw.Disk.firmOf d).firm, []⟩ := rfl
  generalize (Gw.Disk.firmOf d).firm = G at *
  rw [hk] at hck hrd hfl hcr HK
  have HR2 := Lib.hid (fun sl' => read_any ⟨d.size, G, []⟩ hsz (by simp) sl' at_ n ha hn)
  rw [hrd.1, hrd.2] at HR2
  have HC2 := Lib.hid (fun sl' => check_any ⟨d.size, G, []⟩ hsz (by simp) sl')
  rw [hck] at HC2
  have HX := Lib.hid (fun sl' => crash_any ⟨d.size, G, []⟩ hsz (by simp) sl' picks (by omega))
  rw [hcr] at HX
  have HY := Lib.hid (fun sl' => flush_any ⟨d.size, G, []⟩ hsz (by simp) sl')
  rw [hfl] at HY
  have HS := Lib.hid (fun sl' sl2 => rsame_any ⟨d.size, G, []⟩ (by simp) sl' sl2)
  obtain ⟨X, hX⟩ : ∃ X : ByteArray, X = ⟨(Gw.Disk.read d at_ n).toArray⟩ := ⟨_, rfl⟩
  obtain ⟨E, hE⟩ : ∃ E : Nat, E = Gw.Disk.readErr d at_ n := ⟨_, rfl⟩
  rw [← hX, ← hE] at HR1
  obtain ⟨Y, hY⟩ : ∃ Y : ByteArray, Y = ⟨(Gw.Disk.read d at_ n).toArray⟩ := ⟨_, rfl⟩
  obtain ⟨E2, hE2⟩ : ∃ E : Nat, E = Gw.Disk.readErr d at_ n := ⟨_, rfl⟩
  rw [← hY, ← hE2] at HR2
  have hXY : (X.toList == Y.toList) = true := by rw [hX, hY]; simp
  have hEE : ((E : Int) == (E2 : Int)) = true := by rw [hE, hE2]; simp
  clear hX hE hY hE2
  clear hf hc hck hrd hfl hcr hk hfs hpicks
  obtain ⟨size, firm, ps⟩ := d
  unfold SaidDisk at HK HX HY
  unfold diskV at *
  simp only at hp hl hsz HF HC HC2 HK HR1 HR2 HX HY HS ⊢
  obtain ⟨ao0, cap0, rfl⟩ := hp.form
  have HB0 := Lib.hid (Below.refl w.heap.size w)
  have HP0 := Lib.hid hp
  clear hp
  go_enter Try.func5, Try.ntmps5
  have SC1 := Lib.hid (HA.out (w.alloc (.cells #[.int .i64 size, .string firm, .slice ao0 ps.length cap0] 24)))
  go_wp2_with fail
  refine (SC1.out).mono ?_
  rintro e w1 ⟨rfl, hb1⟩
  have HX1 := Lib.hid (((Below.refl w.heap.size w).new (.cells #[.int .i64 size, .string firm, .slice ao0 ps.length cap0] 24)).step hb1)
  have HB1 := Lib.hid (HB0.out.step HX1.out)
  have z1 : w.heap.size < w1.heap.size := by have := hb1.size; rw [World.size_alloc] at this; exact this
  have bd_1_0 := hb1.cell (p := ⟨w.heap.size, 0, none⟩) (by simp)
  have bd_1_1 := hb1.cell (p := ⟨w.heap.size, 1, none⟩) (by simp)
  have bd_1_2 := hb1.cell (p := ⟨w.heap.size, 2, none⟩) (by simp)
  simp at bd_1_0 bd_1_1 bd_1_2
  have bd_1z : w.heap.size < w1.heap.size := z1
  have HP0_1 := Lib.hid (HP0.out.below HX1.out (Nat.le_refl _))
  clear HP0
  clear hb1 
  have SC2 := Lib.hid (HF.out w1 HP0_1.out)
  go_wp2_with fail
  refine (SC2.out).mono ?_
  rintro e w2 ⟨rfl, hb2⟩
  have HX2 := Lib.hid ((Below.refl w1.heap.size w1).step hb2)
  have HB2 := Lib.hid (HB1.out.step HX2.out)
  have z2 : w1.heap.size ≤ w2.heap.size := by have := hb2.size; exact this
  have bd_2_0 := (HX2.out.cell (p := ⟨w.heap.size, 0, none⟩) bd_1z).trans bd_1_0
  have bd_2_1 := (HX2.out.cell (p := ⟨w.heap.size, 1, none⟩) bd_1z).trans bd_1_1
  have bd_2_2 := (HX2.out.cell (p := ⟨w.heap.size, 2, none⟩) bd_1z).trans bd_1_2
  have bd_2z : w.heap.size < w2.heap.size := Nat.lt_of_lt_of_le bd_1z z2
  clear bd_1_0 bd_1_1 bd_1_2 bd_1z
  have HP0_2 := Lib.hid (HP0_1.out.below HX2.out (Nat.le_refl _))
  clear HP0_1
  clear hb2 
  have SC3 := Lib.hid (HC.out w2 HP0_2.out)
  go_wp2_with fail
  refine (SC3.out).mono ?_
  rintro e w3 ⟨rfl, hb3⟩
  have HX3 := Lib.hid ((Below.refl w2.heap.size w2).step hb3)
  have HB3 := Lib.hid (HB2.out.step HX3.out)
  have z3 : w2.heap.size ≤ w3.heap.size := by have := hb3.size; exact this
  have bd_3_0 := (HX3.out.cell (p := ⟨w.heap.size, 0, none⟩) bd_2z).trans bd_2_0
  have bd_3_1 := (HX3.out.cell (p := ⟨w.heap.size, 1, none⟩) bd_2z).trans bd_2_1
  have bd_3_2 := (HX3.out.cell (p := ⟨w.heap.size, 2, none⟩) bd_2z).trans bd_2_2
  have bd_3z : w.heap.size < w3.heap.size := Nat.lt_of_lt_of_le bd_2z z3
  clear bd_2_0 bd_2_1 bd_2_2 bd_2z
  have HP0_3 := Lib.hid (HP0_2.out.below HX3.out (Nat.le_refl _))
  clear HP0_2
  clear hb3 
  have SC4 := Lib.hid (HK.out w3 HP0_3.out)
  go_wp2_with fail
  refine (SC4.out).mono ?_
  rintro e w4 ⟨sl4, rfl, ho4, hb4⟩
  obtain ⟨ao, cap, rfl⟩ := ho4.form
  have HX4 := Lib.hid ((Below.refl w3.heap.size w3).step hb4)
  have HB4 := Lib.hid (HB3.out.step HX4.out)
  have HP4 := Lib.hid ho4.patches
  have z4 : w3.heap.size ≤ w4.heap.size := by have := hb4.size; exact this
  have bd_4_0 := (HX4.out.cell (p := ⟨w.heap.size, 0, none⟩) bd_3z).trans bd_3_0
  have bd_4_1 := (HX4.out.cell (p := ⟨w.heap.size, 1, none⟩) bd_3z).trans bd_3_1
  have bd_4_2 := (HX4.out.cell (p := ⟨w.heap.size, 2, none⟩) bd_3z).trans bd_3_2
  have bd_4z : w.heap.size < w4.heap.size := Nat.lt_of_lt_of_le bd_3z z4
  clear bd_3_0 bd_3_1 bd_3_2 bd_3z
  have HP0_4 := Lib.hid (HP0_3.out.below HX4.out (Nat.le_refl _))
  clear HP0_3
  clear hb4 ho4
  have SC5 := Lib.hid (HR1.out (w4.alloc (.cells #[.int .i64 size, .string G, .slice ao 0 cap] 24)) (HP0_4.out.below ((Below.refl _ _).new (.cells #[.int .i64 size, .string G, .slice ao 0 cap] 24)) (Nat.le_refl _)))
  go_wp2_with fail
  refine (SC5.out).mono ?_
  rintro e w5 ⟨rfl, hb5⟩
  have HX5 := Lib.hid (((Below.refl w4.heap.size w4).new (.cells #[.int .i64 size, .string G, .slice ao 0 cap] 24)).step hb5)
  have HB5 := Lib.hid (HB4.out.step HX5.out)
  have z5 : w4.heap.size < w5.heap.size := by have := hb5.size; rw [World.size_alloc] at this; exact this
  have bd_5_0 := (HX5.out.cell (p := ⟨w.heap.size, 0, none⟩) bd_4z).trans bd_4_0
  have bd_5_1 := (HX5.out.cell (p := ⟨w.heap.size, 1, none⟩) bd_4z).trans bd_4_1
  have bd_5_2 := (HX5.out.cell (p := ⟨w.heap.size, 2, none⟩) bd_4z).trans bd_4_2
  have bd_5z : w.heap.size < w5.heap.size := Nat.lt_of_lt_of_le bd_4z (Nat.le_of_lt z5)
  clear bd_4_0 bd_4_1 bd_4_2 bd_4z
  have bk_5_0 := hb5.cell (p := ⟨w4.heap.size, 0, none⟩) (by simp)
  have bk_5_1 := hb5.cell (p := ⟨w4.heap.size, 1, none⟩) (by simp)
  have bk_5_2 := hb5.cell (p := ⟨w4.heap.size, 2, none⟩) (by simp)
  simp at bk_5_0 bk_5_1 bk_5_2
  have bk_5z : w4.heap.size < w5.heap.size := z5
  have HP0_5 := Lib.hid (HP0_4.out.below HX5.out (Nat.le_refl _))
  clear HP0_4
  have HP4_5 := Lib.hid (HP4.out.below HX5.out (Nat.le_refl _))
  clear HP4
  clear hb5 
  have SC6 := Lib.hid (HR2.out (.slice ao 0 cap) w5 HP4_5.out)
  go_wp2_with fail
  refine (SC6.out).mono ?_
  rintro e w6 ⟨rfl, hb6⟩
  have HX6 := Lib.hid ((Below.refl w5.heap.size w5).step hb6)
  have HB6 := Lib.hid (HB5.out.step HX6.out)
  have z6 : w5.heap.size ≤ w6.heap.size := by have := hb6.size; exact this
  have bd_6_0 := (HX6.out.cell (p := ⟨w.heap.size, 0, none⟩) bd_5z).trans bd_5_0
  have bd_6_1 := (HX6.out.cell (p := ⟨w.heap.size, 1, none⟩) bd_5z).trans bd_5_1
  have bd_6_2 := (HX6.out.cell (p := ⟨w.heap.size, 2, none⟩) bd_5z).trans bd_5_2
  have bd_6z : w.heap.size < w6.heap.size := Nat.lt_of_lt_of_le bd_5z z6
  clear bd_5_0 bd_5_1 bd_5_2 bd_5z
  have bk_6_0 := (HX6.out.cell (p := ⟨w4.heap.size, 0, none⟩) bk_5z).trans bk_5_0
  have bk_6_1 := (HX6.out.cell (p := ⟨w4.heap.size, 1, none⟩) bk_5z).trans bk_5_1
  have bk_6_2 := (HX6.out.cell (p := ⟨w4.heap.size, 2, none⟩) bk_5z).trans bk_5_2
  have bk_6z : w4.heap.size < w6.heap.size := Nat.lt_of_lt_of_le bk_5z z6
  clear bk_5_0 bk_5_1 bk_5_2 bk_5z
  have HP0_6 := Lib.hid (HP0_5.out.below HX6.out (Nat.le_refl _))
  clear HP0_5
  have HP4_6 := Lib.hid (HP4_5.out.below HX6.out (Nat.le_refl _))
  clear HP4_5
  clear hb6 
  have hS0 : w6.drew.cell? ⟨w4.heap.size, 0, none⟩ = some (.int .i64 size) ∧ w6.drew.cell? ⟨w4.heap.size, 1, none⟩ = some (.string G) ∧ w6.drew.cell? ⟨w4.heap.size, 2, none⟩ = some (.slice ao 0 cap) ∧ w4.heap.size < w6.drew.heap.size ∧ Below w.heap.size w w6.drew := ⟨bk_6_0, bk_6_1, bk_6_2, bk_6z, HB6.out.drew⟩
  go_wp2_with fail
  go_region_held3 (fun w' => w'.cell? ⟨w4.heap.size, 0, none⟩ = some (.int .i64 size) ∧ w'.cell? ⟨w4.heap.size, 1, none⟩ = some (.string G) ∧ w'.cell? ⟨w4.heap.size, 2, none⟩ = some (.slice ao 0 cap) ∧ w4.heap.size < w'.heap.size ∧ Below w.heap.size w w') (assumption) (first | (go_at_call 21; refine (HX.out (.slice ao 0 cap) _ (.inl ⟨rfl, ao, cap, rfl⟩)).mono ?_; rintro e wq ⟨slq, rfl, hoq, hbq⟩; obtain ⟨aoq, capq, rfl⟩ := hoq.form; have hK5 := keep5 (w := w) (b := w4.heap.size) hbq (by assumption); clear hoq hbq) | (go_at_call 19; refine (HY.out (.slice ao 0 cap) _ (.inl ⟨rfl, ao, cap, rfl⟩)).mono ?_; rintro e wq ⟨slq, rfl, hoq, hbq⟩; obtain ⟨aoq, capq, rfl⟩ := hoq.form; have hK5 := keep5 (w := w) (b := w4.heap.size) hbq (by assumption); clear hoq hbq) | (go_at_call 18; refine (HS.out _ _ _ (.inl ⟨rfl, _, _, rfl⟩) (.inl ⟨rfl, _, _, rfl⟩)).mono ?_; rintro e wq ⟨rfl, hbq⟩; have hK5 := keep5 (w := w) (b := w4.heap.size) hbq (by assumption); clear hbq) | (go_at_call 16; refine (HC2.out (.slice ao 0 cap) _ (.inl ⟨rfl, ao, cap, rfl⟩)).mono ?_; rintro e wq ⟨rfl, hbq⟩; have hK5 := keep5 (w := w) (b := w4.heap.size) hbq (by assumption); clear hbq))
  all_goals
    go_wp2_with fail
    go_ret
    exact ⟨rfl, hK5.2.2.2.2⟩

theorem diskFirm_walk (d : Gw.Disk.Disk) (hsz : -9223372036854775808 ≤ d.size ∧ d.size ≤ 9223372036854775807) (hl : d.loose.length ≤ maxLen) (sl : Value) (picks : ByteArray) (at_ : Int) (ha : -9223372036854775808 ≤ at_ ∧ at_ ≤ 9223372036854775807) (n : Int) (hn : -9223372036854775808 ≤ n ∧ n ≤ 9223372036854775807) (w : World) (hp : PatchesAt w sl d.loose) :
    Calls Try.prog 5 #[diskV d sl, .string picks, .int .i64 at_, .int .i64 n] w fun e w' => e = .returned (.bool true) ∧ Below w.heap.size w w' := by
  by_cases hf : few d = true
  · by_cases hpicks : picks.size ≤ 1000
    · by_cases hc : Gw.Disk.check d = true
      · exact diskFirm_ok d hsz hl sl picks at_ ha n hn w hp hf hpicks hc
      · exact diskFirm_chk d hsz hl sl picks at_ ha n hn w hp hf hpicks (Bool.eq_false_iff.mpr hc)
    · exact diskFirm_len0 d hsz hl sl picks at_ ha n hn w hp hf hpicks
  · exact diskFirm_few d hsz hl sl picks at_ ha n hn w hp (Bool.eq_false_iff.mpr hf)
end Go.Proofs.Ytfehckdcjgmcpaa
