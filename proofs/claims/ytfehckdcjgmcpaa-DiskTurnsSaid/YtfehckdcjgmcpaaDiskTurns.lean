/- The walk of gunwalelaw12.DiskTurns. -/
import Derived.Test.YtfehckdcjgmcpaaDiskAwake
import Derived.Test.YtfehckdcjgmcpaaDiskPlain4
import Derived.Deep.RegionHeld3
namespace Go.Proofs.Ytfehckdcjgmcpaa
open Go.RowKit

theorem stepB {w0 w1 w2 : World} {X : Prop} (hb : Below w1.heap.size w1 w2) (h : Below w0.heap.size w0 w1 ∧ X) : Below w0.heap.size w0 w2 := h.1.step hb

set_option maxRecDepth 1000000 in
set_option maxHeartbeats 1000000 in
theorem diskTurns_few (d : Gw.Disk.Disk) (_hsz : -9223372036854775808 ≤ d.size ∧ d.size ≤ 9223372036854775807) (hl : d.loose.length ≤ maxLen) (sl : Value) (at_ : Int) (_ha : -9223372036854775808 ≤ at_ ∧ at_ ≤ 9223372036854775807) (s : ByteArray) (to_ : Int) (_ho : -9223372036854775808 ≤ to_ ∧ to_ ≤ 9223372036854775807) (t : ByteArray) (w : World) (hp : PatchesAt w sl d.loose) (hf : few d = false) :
    Calls Try.prog 9 #[diskV d sl, .int .i64 at_, .string s, .int .i64 to_, .string t] w fun e w' => e = .returned (.bool true) ∧ Below w.heap.size w w' := by
  have HA := Lib.hid awake_any
  have HF := Lib.hid (rfew_any d hl sl)
  rw [hf] at HF
  clear hf
  obtain ⟨size, firm, ps⟩ := d
  unfold diskV at *
  simp only at hp hl HF ⊢
  have HB0 := Lib.hid (Below.refl w.heap.size w)
  have HP0 := Lib.hid hp
  clear hp
  go_enter Try.func9, Try.ntmps9
  have SC1 := Lib.hid (HA.out (w.alloc (.cells #[.int .i64 size, .string firm, sl] 24)))
  go_wp2_with fail
  refine (SC1.out).mono ?_
  rintro e w1 ⟨rfl, hb1⟩
  have HX1 := Lib.hid (((Below.refl w.heap.size w).new (.cells #[.int .i64 size, .string firm, sl] 24)).step hb1)
  have HB1 := Lib.hid (HB0.out.step HX1.out)
  have z1 : w.heap.size < w1.heap.size := by have := hb1.size; rw [World.size_alloc] at this; exact this
  have bd_1_0 := hb1.cell (p := ⟨w.heap.size, 0, none⟩) (by simp)
  have bd_1_1 := hb1.cell (p := ⟨w.heap.size, 1, none⟩) (by simp)
  have bd_1_2 := hb1.cell (p := ⟨w.heap.size, 2, none⟩) (by simp)
  simp at bd_1_0 bd_1_1 bd_1_2
  have bd_1z : w.heap.size < w1.heap.size := z1
  have HP0_1 := Lib.hid (HP0.out.below HX1.out (Nat.le_refl _))
  clear HP0
  clear hb1 
  have SC2 := Lib.hid (HF.out w1 HP0_1.out)
  go_wp2_with fail
  refine (SC2.out).mono ?_
  rintro e w2 ⟨rfl, hb2⟩
  have HX2 := Lib.hid ((Below.refl w1.heap.size w1).step hb2)
  have HB2 := Lib.hid (HB1.out.step HX2.out)
  have z2 : w1.heap.size ≤ w2.heap.size := by have := hb2.size; exact this
  have bd_2_0 := (HX2.out.cell (p := ⟨w.heap.size, 0, none⟩) bd_1z).trans bd_1_0
  have bd_2_1 := (HX2.out.cell (p := ⟨w.heap.size, 1, none⟩) bd_1z).trans bd_1_1
  have bd_2_2 := (HX2.out.cell (p := ⟨w.heap.size, 2, none⟩) bd_1z).trans bd_1_2
  have bd_2z : w.heap.size < w2.heap.size := Nat.lt_of_lt_of_le bd_1z z2
  clear bd_1_0 bd_1_1 bd_1_2 bd_1z
  have HP0_2 := Lib.hid (HP0_1.out.below HX2.out (Nat.le_refl _))
  clear HP0_1
  clear hb2 
  go_wp2_with fail
  go_ret
  exact ⟨rfl, HB2.out⟩
set_option maxRecDepth 1000000 in
set_option maxHeartbeats 1000000 in
theorem diskTurns_len0 (d : Gw.Disk.Disk) (_hsz : -9223372036854775808 ≤ d.size ∧ d.size ≤ 9223372036854775807) (hl : d.loose.length ≤ maxLen) (sl : Value) (at_ : Int) (_ha : -9223372036854775808 ≤ at_ ∧ at_ ≤ 9223372036854775807) (s : ByteArray) (to_ : Int) (_ho : -9223372036854775808 ≤ to_ ∧ to_ ≤ 9223372036854775807) (t : ByteArray) (w : World) (hp : PatchesAt w sl d.loose) (hf : few d = true) (hx : ¬ s.size ≤ 1000) :
    Calls Try.prog 9 #[diskV d sl, .int .i64 at_, .string s, .int .i64 to_, .string t] w fun e w' => e = .returned (.bool true) ∧ Below w.heap.size w w' := by
  have HA := Lib.hid awake_any
  have HF := Lib.hid (rfew_any d hl sl)
  rw [hf] at HF
  have es : decide ((1000 : Int) < (s.size : Int)) = true := decide_eq_true (by omega)
  clear hf hx
  obtain ⟨size, firm, ps⟩ := d
  unfold diskV at *
  simp only at hp hl HF ⊢
  have HB0 := Lib.hid (Below.refl w.heap.size w)
  have HP0 := Lib.hid hp
  clear hp
  go_enter Try.func9, Try.ntmps9
  have SC1 := Lib.hid (HA.out (w.alloc (.cells #[.int .i64 size, .string firm, sl] 24)))
  go_wp2_with fail
  refine (SC1.out).mono ?_
  rintro e w1 ⟨rfl, hb1⟩
  have HX1 := Lib.hid (((Below.refl w.heap.size w).new (.cells #[.int .i64 size, .string firm, sl] 24)).step hb1)
  have HB1 := Lib.hid (HB0.out.step HX1.out)
  have z1 : w.heap.size < w1.heap.size := by have := hb1.size; rw [World.size_alloc] at this; exact this
  have bd_1_0 := hb1.cell (p := ⟨w.heap.size, 0, none⟩) (by simp)
  have bd_1_1 := hb1.cell (p := ⟨w.heap.size, 1, none⟩) (by simp)
  have bd_1_2 := hb1.cell (p := ⟨w.heap.size, 2, none⟩) (by simp)
  simp at bd_1_0 bd_1_1 bd_1_2
  have bd_1z : w.heap.size < w1.heap.size := z1
  have HP0_1 := Lib.hid (HP0.out.below HX1.out (Nat.le_refl _))
  clear HP0
  clear hb1 
  have SC2 := Lib.hid (HF.out w1 HP0_1.out)
  go_wp2_with fail
  refine (SC2.out).mono ?_
  rintro e w2 ⟨rfl, hb2⟩
  have HX2 := Lib.hid ((Below.refl w1.heap.size w1).step hb2)
  have HB2 := Lib.hid (HB1.out.step HX2.out)
  have z2 : w1.heap.size ≤ w2.heap.size := by have := hb2.size; exact this
  have bd_2_0 := (HX2.out.cell (p := ⟨w.heap.size, 0, none⟩) bd_1z).trans bd_1_0
  have bd_2_1 := (HX2.out.cell (p := ⟨w.heap.size, 1, none⟩) bd_1z).trans bd_1_1
  have bd_2_2 := (HX2.out.cell (p := ⟨w.heap.size, 2, none⟩) bd_1z).trans bd_1_2
  have bd_2z : w.heap.size < w2.heap.size := Nat.lt_of_lt_of_le bd_1z z2
  clear bd_1_0 bd_1_1 bd_1_2 bd_1z
  have HP0_2 := Lib.hid (HP0_1.out.below HX2.out (Nat.le_refl _))
  clear HP0_1
  clear hb2 
  go_wp2_with fail
  go_ret
  exact ⟨rfl, HB2.out⟩
set_option maxRecDepth 1000000 in
set_option maxHeartbeats 1000000 in
theorem diskTurns_len1 (d : Gw.Disk.Disk) (_hsz : -9223372036854775808 ≤ d.size ∧ d.size ≤ 9223372036854775807) (hl : d.loose.length ≤ maxLen) (sl : Value) (at_ : Int) (_ha : -9223372036854775808 ≤ at_ ∧ at_ ≤ 9223372036854775807) (s : ByteArray) (to_ : Int) (_ho : -9223372036854775808 ≤ to_ ∧ to_ ≤ 9223372036854775807) (t : ByteArray) (w : World) (hp : PatchesAt w sl d.loose) (hf : few d = true) (hs : s.size ≤ 1000) (hx : ¬ t.size ≤ 1000) :
    Calls Try.prog 9 #[diskV d sl, .int .i64 at_, .string s, .int .i64 to_, .string t] w fun e w' => e = .returned (.bool true) ∧ Below w.heap.size w w' := by
  have HA := Lib.hid awake_any
  have HF := Lib.hid (rfew_any d hl sl)
  rw [hf] at HF
  have es : decide ((1000 : Int) < (s.size : Int)) = false := decide_eq_false (by omega)
  have et : decide ((1000 : Int) < (t.size : Int)) = true := decide_eq_true (by omega)
  clear hf hs hx
  obtain ⟨size, firm, ps⟩ := d
  unfold diskV at *
  simp only at hp hl HF ⊢
  have HB0 := Lib.hid (Below.refl w.heap.size w)
  have HP0 := Lib.hid hp
  clear hp
  go_enter Try.func9, Try.ntmps9
  have SC1 := Lib.hid (HA.out (w.alloc (.cells #[.int .i64 size, .string firm, sl] 24)))
  go_wp2_with fail
  refine (SC1.out).mono ?_
  rintro e w1 ⟨rfl, hb1⟩
  have HX1 := Lib.hid (((Below.refl w.heap.size w).new (.cells #[.int .i64 size, .string firm, sl] 24)).step hb1)
  have HB1 := Lib.hid (HB0.out.step HX1.out)
  have z1 : w.heap.size < w1.heap.size := by have := hb1.size; rw [World.size_alloc] at this; exact this
  have bd_1_0 := hb1.cell (p := ⟨w.heap.size, 0, none⟩) (by simp)
  have bd_1_1 := hb1.cell (p := ⟨w.heap.size, 1, none⟩) (by simp)
  have bd_1_2 := hb1.cell (p := ⟨w.heap.size, 2, none⟩) (by simp)
  simp at bd_1_0 bd_1_1 bd_1_2
  have bd_1z : w.heap.size < w1.heap.size := z1
  have HP0_1 := Lib.hid (HP0.out.below HX1.out (Nat.le_refl _))
  clear HP0
  clear hb1 
  have SC2 := Lib.hid (HF.out w1 HP0_1.out)
  go_wp2_with fail
  refine (SC2.out).mono ?_
  rintro e w2 ⟨rfl, hb2⟩
  have HX2 := Lib.hid ((Below.refl w1.heap.size w1).step hb2)
  have HB2 := Lib.hid (HB1.out.step HX2.out)
  have z2 : w1.heap.size ≤ w2.heap.size := by have := hb2.size; exact this
  have bd_2_0 := (HX2.out.cell (p := ⟨w.heap.size, 0, none⟩) bd_1z).trans bd_1_0
  have bd_2_1 := (HX2.out.cell (p := ⟨w.heap.size, 1, none⟩) bd_1z).trans bd_1_1
  have bd_2_2 := (HX2.out.cell (p := ⟨w.heap.size, 2, none⟩) bd_1z).trans bd_1_2
  have bd_2z : w.heap.size < w2.heap.size := Nat.lt_of_lt_of_le bd_1z z2
  clear bd_1_0 bd_1_1 bd_1_2 bd_1z
  have HP0_2 := Lib.hid (HP0_1.out.below HX2.out (Nat.le_refl _))
  clear HP0_1
  clear hb2 
  go_wp2_with fail
  go_ret
  exact ⟨rfl, HB2.out⟩
set_option maxRecDepth 1000000 in
set_option maxHeartbeats 1000000 in
theorem diskTurns_chk (d : Gw.Disk.Disk) (hsz : -9223372036854775808 ≤ d.size ∧ d.size ≤ 9223372036854775807) (hl : d.loose.length ≤ maxLen) (sl : Value) (at_ : Int) (_ha : -9223372036854775808 ≤ at_ ∧ at_ ≤ 9223372036854775807) (s : ByteArray) (to_ : Int) (_ho : -9223372036854775808 ≤ to_ ∧ to_ ≤ 9223372036854775807) (t : ByteArray) (w : World) (hp : PatchesAt w sl d.loose) (hf : few d = true) (hs : s.size ≤ 1000) (ht : t.size ≤ 1000) (hc : Gw.Disk.check d = false) :
    Calls Try.prog 9 #[diskV d sl, .int .i64 at_, .string s, .int .i64 to_, .string t] w fun e w' => e = .returned (.bool true) ∧ Below w.heap.size w w' := by
  have HA := Lib.hid awake_any
  have HF := Lib.hid (rfew_any d hl sl)
  rw [hf] at HF
  have HC := Lib.hid (check_any d hsz hl sl)
  rw [hc] at HC
  have es : decide ((1000 : Int) < (s.size : Int)) = false := decide_eq_false (by omega)
  have et : decide ((1000 : Int) < (t.size : Int)) = false := decide_eq_false (by omega)
  clear hf hs ht hc
  obtain ⟨size, firm, ps⟩ := d
  unfold diskV at *
  simp only at hp hl HF HC ⊢
  have HB0 := Lib.hid (Below.refl w.heap.size w)
  have HP0 := Lib.hid hp
  clear hp
  go_enter Try.func9, Try.ntmps9
  have SC1 := Lib.hid (HA.out (w.alloc (.cells #[.int .i64 size, .string firm, sl] 24)))
  go_wp2_with fail
  refine (SC1.out).mono ?_
  rintro e w1 ⟨rfl, hb1⟩
  have HX1 := Lib.hid (((Below.refl w.heap.size w).new (.cells #[.int .i64 size, .string firm, sl] 24)).step hb1)
  have HB1 := Lib.hid (HB0.out.step HX1.out)
  have z1 : w.heap.size < w1.heap.size := by have := hb1.size; rw [World.size_alloc] at this; exact this
  have bd_1_0 := hb1.cell (p := ⟨w.heap.size, 0, none⟩) (by simp)
  have bd_1_1 := hb1.cell (p := ⟨w.heap.size, 1, none⟩) (by simp)
  have bd_1_2 := hb1.cell (p := ⟨w.heap.size, 2, none⟩) (by simp)
  simp at bd_1_0 bd_1_1 bd_1_2
  have bd_1z : w.heap.size < w1.heap.size := z1
  have HP0_1 := Lib.hid (HP0.out.below HX1.out (Nat.le_refl _))
  clear HP0
  clear hb1 
  have SC2 := Lib.hid (HF.out w1 HP0_1.out)
  go_wp2_with fail
  refine (SC2.out).mono ?_
  rintro e w2 ⟨rfl, hb2⟩
  have HX2 := Lib.hid ((Below.refl w1.heap.size w1).step hb2)
  have HB2 := Lib.hid (HB1.out.step HX2.out)
  have z2 : w1.heap.size ≤ w2.heap.size := by have := hb2.size; exact this
  have bd_2_0 := (HX2.out.cell (p := ⟨w.heap.size, 0, none⟩) bd_1z).trans bd_1_0
  have bd_2_1 := (HX2.out.cell (p := ⟨w.heap.size, 1, none⟩) bd_1z).trans bd_1_1
  have bd_2_2 := (HX2.out.cell (p := ⟨w.heap.size, 2, none⟩) bd_1z).trans bd_1_2
  have bd_2z : w.heap.size < w2.heap.size := Nat.lt_of_lt_of_le bd_1z z2
  clear bd_1_0 bd_1_1 bd_1_2 bd_1z
  have HP0_2 := Lib.hid (HP0_1.out.below HX2.out (Nat.le_refl _))
  clear HP0_1
  clear hb2 
  have SC3 := Lib.hid (HC.out w2 HP0_2.out)
  go_wp2_with fail
  refine (SC3.out).mono ?_
  rintro e w3 ⟨rfl, hb3⟩
  have HX3 := Lib.hid ((Below.refl w2.heap.size w2).step hb3)
  have HB3 := Lib.hid (HB2.out.step HX3.out)
  have z3 : w2.heap.size ≤ w3.heap.size := by have := hb3.size; exact this
  have bd_3_0 := (HX3.out.cell (p := ⟨w.heap.size, 0, none⟩) bd_2z).trans bd_2_0
  have bd_3_1 := (HX3.out.cell (p := ⟨w.heap.size, 1, none⟩) bd_2z).trans bd_2_1
  have bd_3_2 := (HX3.out.cell (p := ⟨w.heap.size, 2, none⟩) bd_2z).trans bd_2_2
  have bd_3z : w.heap.size < w3.heap.size := Nat.lt_of_lt_of_le bd_2z z3
  clear bd_2_0 bd_2_1 bd_2_2 bd_2z
  have HP0_3 := Lib.hid (HP0_2.out.below HX3.out (Nat.le_refl _))
  clear HP0_2
  clear hb3 
  go_wp2_with fail
  go_ret
  exact ⟨rfl, HB3.out⟩

set_option maxRecDepth 1000000 in
set_option maxHeartbeats 2000000 in
theorem diskTurns_ok (d : Gw.Disk.Disk) (hsz : -9223372036854775808 ≤ d.size ∧ d.size ≤ 9223372036854775807) (hl : d.loose.length ≤ maxLen) (sl : Value) (at_ : Int) (ha : -9223372036854775808 ≤ at_ ∧ at_ ≤ 9223372036854775807) (s : ByteArray) (to_ : Int) (ho : -9223372036854775808 ≤ to_ ∧ to_ ≤ 9223372036854775807) (t : ByteArray) (w : World) (hp : PatchesAt w sl d.loose) (hf : few d = true) (hs : s.size ≤ 1000) (ht : t.size ≤ 1000) (hc : Gw.Disk.check d = true) :
    Calls Try.prog 9 #[diskV d sl, .int .i64 at_, .string s, .int .i64 to_, .string t] w fun e w' => e = .returned (.bool true) ∧ Below w.heap.size w w' := by
  have hfs : d.loose.length ≤ 100 := by
    unfold few at hf
    simp only [Bool.and_eq_true, decide_eq_true_eq] at hf
    exact hf.2.2.2
  have HA := Lib.hid awake_any
  have HF := Lib.hid (rfew_any d hl sl)
  rw [hf] at HF
  have HC := Lib.hid (check_any d hsz hl sl)
  rw [hc] at HC
  have es : decide ((1000 : Int) < (s.size : Int)) = false := decide_eq_false (by omega)
  have et : decide ((1000 : Int) < (t.size : Int)) = false := decide_eq_false (by omega)
  have hms : Gw.Disk.manyOf s ≤ 63 := by unfold Gw.Disk.manyOf; omega
  have hmt : Gw.Disk.manyOf t ≤ 63 := by unfold Gw.Disk.manyOf; omega
  have hsp := Gw.Disk.check_spec hc
  have hTW := Lib.hid (Gw.Disk.two_writes hc at_ to_ s t)
  have hz1 := fun (h : Gw.Disk.writeErr d at_ s = 0) => Gw.Disk.writeErr_zero h
  have hz2 := fun (h : Gw.Disk.writeErr d to_ t = 0) => Gw.Disk.writeErr_zero h
  have WA1 := Lib.hid (write_any d hsz (by omega) sl at_ s (by omega))
  have WC1 := Lib.hid (write_any d hsz (by omega) sl to_ t (by omega))
  have zA := Gw.Disk.write_size d at_ s
  have lA := Gw.Disk.write_len d at_ s
  have zC := Gw.Disk.write_size d to_ t
  have lC := Gw.Disk.write_len d to_ t
  generalize Gw.Disk.writeErr d at_ s = E1 at *
  generalize Gw.Disk.writeErr d to_ t = E3 at *
  generalize Gw.Disk.write d at_ s = dA at *
  generalize Gw.Disk.write d to_ t = dC at *
  have zB := Gw.Disk.write_size dA to_ t
  have lB := Gw.Disk.write_len dA to_ t
  have zK := Gw.Disk.write_size dC at_ s
  have lK := Gw.Disk.write_len dC at_ s
  have WB1 := Lib.hid (fun sl' => write_any dA (by rw [zA]; exact hsz) (by omega) sl' to_ t (by omega))
  have WK1 := Lib.hid (fun sl' => write_any dC (by rw [zC]; exact hsz) (by omega) sl' at_ s (by omega))
  generalize Gw.Disk.writeErr dA to_ t = E2 at *
  generalize Gw.Disk.writeErr dC at_ s = E4 at *
  generalize Gw.Disk.write dA to_ t = dB at *
  generalize Gw.Disk.write dC at_ s = dK at *
  have HFB := Lib.hid (fun sl' => flush_any dB (by rw [zB, zA]; exact hsz) (by omega) sl')
  have HFK := Lib.hid (fun sl' => flush_any dK (by rw [zK, zC]; exact hsz) (by omega) sl')
  have LB := Lib.hid (show dB.loose.length ≤ 300 by omega)
  have hmI : ((s.size : Int) + 15) / 16 = (Gw.Disk.manyOf s : Int) := by unfold Gw.Disk.manyOf; omega
  have hmJ : ((t.size : Int) + 15) / 16 = (Gw.Disk.manyOf t : Int) := by unfold Gw.Disk.manyOf; omega
  have HZ := Lib.hid (And.intro hz1 hz2)
  have HSZ := Lib.hid hsp.2.1
  have hfl : ∀ d' : Gw.Disk.Disk, d'.loose.length ≤ 300 → (Gw.Disk.flush d').loose.length ≤ maxLen := fun d' h => by
    unfold Gw.Disk.flush
    split
    · exact Nat.zero_le _
    · unfold maxLen; omega
  have HFL := Lib.hid (hfl dB LB.out)
  clear hf hc hfs hz1 hz2 zA lA zC lC zB lB zK lK hsp hfl LB
  generalize Gw.Disk.manyOf s = ms at *
  generalize Gw.Disk.manyOf t = mt at *
  obtain ⟨size, firm, ps⟩ := d
  obtain ⟨zA, fA, pA⟩ := dA
  obtain ⟨zB, fB, pB⟩ := dB
  obtain ⟨zC, fC, pC⟩ := dC
  obtain ⟨zK, fK, pK⟩ := dK
  unfold SaidDiskErr at WA1 WB1 WC1 WK1
  unfold SaidDisk at HFB HFK
  unfold diskV at *
  simp only at hp hl hsz HF HC WA1 WB1 WC1 WK1 HFB HFK HSZ ⊢
  obtain ⟨ao0, cap0, rfl⟩ := hp.form
  have HB0 := Lib.hid (Below.refl w.heap.size w)
  have HP0 := Lib.hid hp
  clear hp
  go_enter Try.func9, Try.ntmps9
  have SC1 := Lib.hid (HA.out (w.alloc (.cells #[.int .i64 size, .string firm, .slice ao0 ps.length cap0] 24)))
  go_wp2_with fail
  refine (SC1.out).mono ?_
  rintro e w1 ⟨rfl, hb1⟩
  have HX1 := Lib.hid (((Below.refl w.heap.size w).new (.cells #[.int .i64 size, .string firm, .slice ao0 ps.length cap0] 24)).step hb1)
  have HB1 := Lib.hid (HB0.out.step HX1.out)
  have z1 : w.heap.size < w1.heap.size := by have := hb1.size; rw [World.size_alloc] at this; exact this
  have bd_1_0 := hb1.cell (p := ⟨w.heap.size, 0, none⟩) (by simp)
  have bd_1_1 := hb1.cell (p := ⟨w.heap.size, 1, none⟩) (by simp)
  have bd_1_2 := hb1.cell (p := ⟨w.heap.size, 2, none⟩) (by simp)
  simp at bd_1_0 bd_1_1 bd_1_2
  have bd_1z : w.heap.size < w1.heap.size := z1
  have HP0_1 := Lib.hid (HP0.out.below HX1.out (Nat.le_refl _))
  clear HP0
  clear hb1 
  have SC2 := Lib.hid (HF.out w1 HP0_1.out)
  go_wp2_with fail
  refine (SC2.out).mono ?_
  rintro e w2 ⟨rfl, hb2⟩
  have HX2 := Lib.hid ((Below.refl w1.heap.size w1).step hb2)
  have HB2 := Lib.hid (HB1.out.step HX2.out)
  have z2 : w1.heap.size ≤ w2.heap.size := by have := hb2.size; exact this
  have bd_2_0 := (HX2.out.cell (p := ⟨w.heap.size, 0, none⟩) bd_1z).trans bd_1_0
  have bd_2_1 := (HX2.out.cell (p := ⟨w.heap.size, 1, none⟩) bd_1z).trans bd_1_1
  have bd_2_2 := (HX2.out.cell (p := ⟨w.heap.size, 2, none⟩) bd_1z).trans bd_1_2
  have bd_2z : w.heap.size < w2.heap.size := Nat.lt_of_lt_of_le bd_1z z2
  clear bd_1_0 bd_1_1 bd_1_2 bd_1z
  have HP0_2 := Lib.hid (HP0_1.out.below HX2.out (Nat.le_refl _))
  clear HP0_1
  clear hb2 
  have SC3 := Lib.hid (HC.out w2 HP0_2.out)
  go_wp2_with fail
  refine (SC3.out).mono ?_
  rintro e w3 ⟨rfl, hb3⟩
  have HX3 := Lib.hid ((Below.refl w2.heap.size w2).step hb3)
  have HB3 := Lib.hid (HB2.out.step HX3.out)
  have z3 : w2.heap.size ≤ w3.heap.size := by have := hb3.size; exact this
  have bd_3_0 := (HX3.out.cell (p := ⟨w.heap.size, 0, none⟩) bd_2z).trans bd_2_0
  have bd_3_1 := (HX3.out.cell (p := ⟨w.heap.size, 1, none⟩) bd_2z).trans bd_2_1
  have bd_3_2 := (HX3.out.cell (p := ⟨w.heap.size, 2, none⟩) bd_2z).trans bd_2_2
  have bd_3z : w.heap.size < w3.heap.size := Nat.lt_of_lt_of_le bd_2z z3
  clear bd_2_0 bd_2_1 bd_2_2 bd_2z
  have HP0_3 := Lib.hid (HP0_2.out.below HX3.out (Nat.le_refl _))
  clear HP0_2
  clear hb3 
  have SC4 := Lib.hid (WA1.out w3 HP0_3.out)
  go_wp2_with fail
  refine (SC4.out).mono ?_
  rintro e w4 ⟨sl4, rfl, ho4, hb4⟩
  obtain ⟨aoA, capA, rfl⟩ := ho4.form
  have HX4 := Lib.hid ((Below.refl w3.heap.size w3).step hb4)
  have HB4 := Lib.hid (HB3.out.step HX4.out)
  have HP4 := Lib.hid ho4.patches
  have z4 : w3.heap.size ≤ w4.heap.size := by have := hb4.size; exact this
  have bd_4_0 := (HX4.out.cell (p := ⟨w.heap.size, 0, none⟩) bd_3z).trans bd_3_0
  have bd_4_1 := (HX4.out.cell (p := ⟨w.heap.size, 1, none⟩) bd_3z).trans bd_3_1
  have bd_4_2 := (HX4.out.cell (p := ⟨w.heap.size, 2, none⟩) bd_3z).trans bd_3_2
  have bd_4z : w.heap.size < w4.heap.size := Nat.lt_of_lt_of_le bd_3z z4
  clear bd_3_0 bd_3_1 bd_3_2 bd_3z
  have HP0_4 := Lib.hid (HP0_3.out.below HX4.out (Nat.le_refl _))
  clear HP0_3
  clear hb4 ho4
  have SC5 := Lib.hid (WB1.out (.slice aoA pA.length capA) (w4.alloc (.cells #[.int .i64 zA, .string fA, .slice aoA pA.length capA] 24)) (HP4.out.below ((Below.refl _ _).new (.cells #[.int .i64 zA, .string fA, .slice aoA pA.length capA] 24)) (Nat.le_refl _)))
  go_wp2_with fail
  refine (SC5.out).mono ?_
  rintro e w5 ⟨sl5, rfl, ho5, hb5⟩
  obtain ⟨aoB, capB, rfl⟩ := ho5.form
  have HX5 := Lib.hid (((Below.refl w4.heap.size w4).new (.cells #[.int .i64 zA, .string fA, .slice aoA pA.length capA] 24)).step hb5)
  have HB5 := Lib.hid (HB4.out.step HX5.out)
  have HP5 := Lib.hid ho5.patches
  have z5 : w4.heap.size < w5.heap.size := by have := hb5.size; rw [World.size_alloc] at this; exact this
  have bd_5_0 := (HX5.out.cell (p := ⟨w.heap.size, 0, none⟩) bd_4z).trans bd_4_0
  have bd_5_1 := (HX5.out.cell (p := ⟨w.heap.size, 1, none⟩) bd_4z).trans bd_4_1
  have bd_5_2 := (HX5.out.cell (p := ⟨w.heap.size, 2, none⟩) bd_4z).trans bd_4_2
  have bd_5z : w.heap.size < w5.heap.size := Nat.lt_of_lt_of_le bd_4z (Nat.le_of_lt z5)
  clear bd_4_0 bd_4_1 bd_4_2 bd_4z
  have ba_5_0 := hb5.cell (p := ⟨w4.heap.size, 0, none⟩) (by simp)
  have ba_5_1 := hb5.cell (p := ⟨w4.heap.size, 1, none⟩) (by simp)
  have ba_5_2 := hb5.cell (p := ⟨w4.heap.size, 2, none⟩) (by simp)
  simp at ba_5_0 ba_5_1 ba_5_2
  have ba_5z : w4.heap.size < w5.heap.size := z5
  have HP0_5 := Lib.hid (HP0_4.out.below HX5.out (Nat.le_refl _))
  clear HP0_4
  have HP4_5 := Lib.hid (HP4.out.below HX5.out (Nat.le_refl _))
  clear HP4
  clear hb5 ho5
  have SC6 := Lib.hid (WC1.out (w5.alloc (.cells #[.int .i64 zB, .string fB, .slice aoB pB.length capB] 24)) (HP0_5.out.below ((Below.refl _ _).new (.cells #[.int .i64 zB, .string fB, .slice aoB pB.length capB] 24)) (Nat.le_refl _)))
  go_wp2_with fail
  refine (SC6.out).mono ?_
  rintro e w6 ⟨sl6, rfl, ho6, hb6⟩
  obtain ⟨aoC, capC, rfl⟩ := ho6.form
  have HX6 := Lib.hid (((Below.refl w5.heap.size w5).new (.cells #[.int .i64 zB, .string fB, .slice aoB pB.length capB] 24)).step hb6)
  have HB6 := Lib.hid (HB5.out.step HX6.out)
  have HP6 := Lib.hid ho6.patches
  have z6 : w5.heap.size < w6.heap.size := by have := hb6.size; rw [World.size_alloc] at this; exact this
  have bd_6_0 := (HX6.out.cell (p := ⟨w.heap.size, 0, none⟩) bd_5z).trans bd_5_0
  have bd_6_1 := (HX6.out.cell (p := ⟨w.heap.size, 1, none⟩) bd_5z).trans bd_5_1
  have bd_6_2 := (HX6.out.cell (p := ⟨w.heap.size, 2, none⟩) bd_5z).trans bd_5_2
  have bd_6z : w.heap.size < w6.heap.size := Nat.lt_of_lt_of_le bd_5z (Nat.le_of_lt z6)
  clear bd_5_0 bd_5_1 bd_5_2 bd_5z
  have ba_6_0 := (HX6.out.cell (p := ⟨w4.heap.size, 0, none⟩) ba_5z).trans ba_5_0
  have ba_6_1 := (HX6.out.cell (p := ⟨w4.heap.size, 1, none⟩) ba_5z).trans ba_5_1
  have ba_6_2 := (HX6.out.cell (p := ⟨w4.heap.size, 2, none⟩) ba_5z).trans ba_5_2
  have ba_6z : w4.heap.size < w6.heap.size := Nat.lt_of_lt_of_le ba_5z (Nat.le_of_lt z6)
  clear ba_5_0 ba_5_1 ba_5_2 ba_5z
  have bb_6_0 := hb6.cell (p := ⟨w5.heap.size, 0, none⟩) (by simp)
  have bb_6_1 := hb6.cell (p := ⟨w5.heap.size, 1, none⟩) (by simp)
  have bb_6_2 := hb6.cell (p := ⟨w5.heap.size, 2, none⟩) (by simp)
  simp at bb_6_0 bb_6_1 bb_6_2
  have bb_6z : w5.heap.size < w6.heap.size := z6
  have HP0_6 := Lib.hid (HP0_5.out.below HX6.out (Nat.le_refl _))
  clear HP0_5
  have HP4_6 := Lib.hid (HP4_5.out.below HX6.out (Nat.le_refl _))
  clear HP4_5
  have HP5_6 := Lib.hid (HP5.out.below HX6.out (Nat.le_refl _))
  clear HP5
  clear hb6 ho6
  have SC7 := Lib.hid (WK1.out (.slice aoC pC.length capC) (w6.alloc (.cells #[.int .i64 zC, .string fC, .slice aoC pC.length capC] 24)) (HP6.out.below ((Below.refl _ _).new (.cells #[.int .i64 zC, .string fC, .slice aoC pC.length capC] 24)) (Nat.le_refl _)))
  go_wp2_with fail
  refine (SC7.out).mono ?_
  rintro e w7 ⟨sl7, rfl, ho7, hb7⟩
  obtain ⟨aoK, capK, rfl⟩ := ho7.form
  have HX7 := Lib.hid (((Below.refl w6.heap.size w6).new (.cells #[.int .i64 zC, .string fC, .slice aoC pC.length capC] 24)).step hb7)
  have HB7 := Lib.hid (HB6.out.step HX7.out)
  have HP7 := Lib.hid ho7.patches
  have z7 : w6.heap.size < w7.heap.size := by have := hb7.size; rw [World.size_alloc] at this; exact this
  have bd_7_0 := (HX7.out.cell (p := ⟨w.heap.size, 0, none⟩) bd_6z).trans bd_6_0
  have bd_7_1 := (HX7.out.cell (p := ⟨w.heap.size, 1, none⟩) bd_6z).trans bd_6_1
  have bd_7_2 := (HX7.out.cell (p := ⟨w.heap.size, 2, none⟩) bd_6z).trans bd_6_2
  have bd_7z : w.heap.size < w7.heap.size := Nat.lt_of_lt_of_le bd_6z (Nat.le_of_lt z7)
  clear bd_6_0 bd_6_1 bd_6_2 bd_6z
  have ba_7_0 := (HX7.out.cell (p := ⟨w4.heap.size, 0, none⟩) ba_6z).trans ba_6_0
  have ba_7_1 := (HX7.out.cell (p := ⟨w4.heap.size, 1, none⟩) ba_6z).trans ba_6_1
  have ba_7_2 := (HX7.out.cell (p := ⟨w4.heap.size, 2, none⟩) ba_6z).trans ba_6_2
  have ba_7z : w4.heap.size < w7.heap.size := Nat.lt_of_lt_of_le ba_6z (Nat.le_of_lt z7)
  clear ba_6_0 ba_6_1 ba_6_2 ba_6z
  have bb_7_0 := (HX7.out.cell (p := ⟨w5.heap.size, 0, none⟩) bb_6z).trans bb_6_0
  have bb_7_1 := (HX7.out.cell (p := ⟨w5.heap.size, 1, none⟩) bb_6z).trans bb_6_1
  have bb_7_2 := (HX7.out.cell (p := ⟨w5.heap.size, 2, none⟩) bb_6z).trans bb_6_2
  have bb_7z : w5.heap.size < w7.heap.size := Nat.lt_of_lt_of_le bb_6z (Nat.le_of_lt z7)
  clear bb_6_0 bb_6_1 bb_6_2 bb_6z
  have bc_7_0 := hb7.cell (p := ⟨w6.heap.size, 0, none⟩) (by simp)
  have bc_7_1 := hb7.cell (p := ⟨w6.heap.size, 1, none⟩) (by simp)
  have bc_7_2 := hb7.cell (p := ⟨w6.heap.size, 2, none⟩) (by simp)
  simp at bc_7_0 bc_7_1 bc_7_2
  have bc_7z : w6.heap.size < w7.heap.size := z7
  have HP0_7 := Lib.hid (HP0_6.out.below HX7.out (Nat.le_refl _))
  clear HP0_6
  have HP4_7 := Lib.hid (HP4_6.out.below HX7.out (Nat.le_refl _))
  clear HP4_6
  have HP5_7 := Lib.hid (HP5_6.out.below HX7.out (Nat.le_refl _))
  clear HP5_6
  have HP6_7 := Lib.hid (HP6.out.below HX7.out (Nat.le_refl _))
  clear HP6
  clear hb7 ho7
  by_cases hE1 : E1 = 0
  rotate_left
  · have qE1 : ((E1 : Int) != 0) = true := by rw [bne_iff_ne]; omega
    go_wp2_with fail
    go_ret
    exact ⟨rfl, HB7.out.new _⟩
  have qE1 : ((E1 : Int) != 0) = false := by rw [bne_eq_false_iff_eq]; omega
  by_cases hE2 : E2 = 0
  rotate_left
  · have qE2 : ((E2 : Int) != 0) = true := by rw [bne_iff_ne]; omega
    go_wp2_with fail
    go_ret
    exact ⟨rfl, HB7.out.new _⟩
  have qE2 : ((E2 : Int) != 0) = false := by rw [bne_eq_false_iff_eq]; omega
  by_cases hE3 : E3 = 0
  rotate_left
  · have qE3 : ((E3 : Int) != 0) = true := by rw [bne_iff_ne]; omega
    go_wp2_with fail
    go_ret
    exact ⟨rfl, HB7.out.new _⟩
  have qE3 : ((E3 : Int) != 0) = false := by rw [bne_eq_false_iff_eq]; omega
  by_cases hE4 : E4 = 0
  rotate_left
  · have qE4 : ((E4 : Int) != 0) = true := by rw [bne_iff_ne]; omega
    go_wp2_with fail
    go_ret
    exact ⟨rfl, HB7.out.new _⟩
  have qE4 : ((E4 : Int) != 0) = false := by rw [bne_eq_false_iff_eq]; omega
  obtain ⟨x, hx, hx2⟩ := HZ.out.1 hE1
  obtain ⟨y, hy, hy2⟩ := HZ.out.2 hE3
  try simp only at hx2 hy2
  have hat : 0 ≤ at_ ∧ at_ ≤ 65536 := by have := HSZ.out; omega
  have hto : 0 ≤ to_ ∧ to_ ≤ 65536 := by have := HSZ.out; omega
  clear hx hx2 hy hy2
  by_cases g1 : to_ < at_ + (ms : Int)
  · have d1 : decide (to_ < at_ + (ms : Int)) = true := decide_eq_true g1
    by_cases g2 : at_ < to_ + (mt : Int)
    · have d2 : decide (at_ < to_ + (mt : Int)) = true := decide_eq_true g2
      go_wp2_with fail
      go_ret
      exact ⟨rfl, HB7.out.new _⟩
    · have d2 : decide (at_ < to_ + (mt : Int)) = false := decide_eq_false g2
      have htw := hTW.out hE1 hE2 hE3 hE4 (fun h => by omega)
      rw [← htw] at HFK
      clear htw hTW
      generalize Gw.Disk.flush ⟨zB, fB, pB⟩ = G at *
      obtain ⟨zG, fG, pG⟩ := G
      simp only at HFB HFK HFL
      have zz := World.size_alloc w7 (.cells #[.int .i64 zK, .string fK, .slice aoK pK.length capK] 24)
      have hbx := (Below.refl w7.heap.size w7).new (.cells #[.int .i64 zK, .string fK, .slice aoK pK.length capK] 24)
      have cb0 := (hbx.cell (p := ⟨w5.heap.size, 0, none⟩) bb_7z).trans bb_7_0
      have cb1 := (hbx.cell (p := ⟨w5.heap.size, 1, none⟩) bb_7z).trans bb_7_1
      have cb2 := (hbx.cell (p := ⟨w5.heap.size, 2, none⟩) bb_7z).trans bb_7_2
      have zb : w5.heap.size < (w7.alloc (.cells #[.int .i64 zK, .string fK, .slice aoK pK.length capK] 24)).heap.size := by rw [zz]; exact Nat.lt_succ_of_lt bb_7z
      have ck0 : (w7.alloc (.cells #[.int .i64 zK, .string fK, .slice aoK pK.length capK] 24)).cell? ⟨w7.heap.size, 0, none⟩ = some (.int .i64 zK) := new_cell rfl rfl
      have ck1 : (w7.alloc (.cells #[.int .i64 zK, .string fK, .slice aoK pK.length capK] 24)).cell? ⟨w7.heap.size, 1, none⟩ = some (.string fK) := new_cell rfl rfl
      have ck2 : (w7.alloc (.cells #[.int .i64 zK, .string fK, .slice aoK pK.length capK] 24)).cell? ⟨w7.heap.size, 2, none⟩ = some (.slice aoK pK.length capK) := new_cell rfl rfl
      have zk : w7.heap.size < (w7.alloc (.cells #[.int .i64 zK, .string fK, .slice aoK pK.length capK] 24)).heap.size := by rw [zz]; exact Nat.lt_succ_self _
      have PB := HP5_7.out.below hbx (Nat.le_refl _)
      have PK := HP7.out.below hbx (Nat.le_refl _)
      have HBZ := Lib.hid (HB7.out.new (.cells #[.int .i64 zK, .string fK, .slice aoK pK.length capK] 24))
      generalize hWN : w7.alloc (.cells #[.int .i64 zK, .string fK, .slice aoK pK.length capK] 24) = WN at *
      have MK : ∀ w' : World, Below WN.heap.size WN w' → Below WN.heap.size WN w' ∧ w'.cell? ⟨w5.heap.size, 0, none⟩ = some (.int .i64 zB) ∧ w'.cell? ⟨w5.heap.size, 1, none⟩ = some (.string fB) ∧ w'.cell? ⟨w5.heap.size, 2, none⟩ = some (.slice aoB pB.length capB) ∧ w'.cell? ⟨w7.heap.size, 0, none⟩ = some (.int .i64 zK) ∧ w'.cell? ⟨w7.heap.size, 1, none⟩ = some (.string fK) ∧ w'.cell? ⟨w7.heap.size, 2, none⟩ = some (.slice aoK pK.length capK) := fun w' hB => ⟨hB, (hB.cell (p := ⟨w5.heap.size, 0, none⟩) zb).trans cb0, (hB.cell (p := ⟨w5.heap.size, 1, none⟩) zb).trans cb1, (hB.cell (p := ⟨w5.heap.size, 2, none⟩) zb).trans cb2, (hB.cell (p := ⟨w7.heap.size, 0, none⟩) zk).trans ck0, (hB.cell (p := ⟨w7.heap.size, 1, none⟩) zk).trans ck1, (hB.cell (p := ⟨w7.heap.size, 2, none⟩) zk).trans ck2⟩
      have hS0 := MK _ (Below.refl WN.heap.size WN).drew
      go_wp2_with fail
      try rw [hWN]
      go_region_held3 (fun w' => Below WN.heap.size WN w' ∧ w'.cell? ⟨w5.heap.size, 0, none⟩ = some (.int .i64 zB) ∧ w'.cell? ⟨w5.heap.size, 1, none⟩ = some (.string fB) ∧ w'.cell? ⟨w5.heap.size, 2, none⟩ = some (.slice aoB pB.length capB) ∧ w'.cell? ⟨w7.heap.size, 0, none⟩ = some (.int .i64 zK) ∧ w'.cell? ⟨w7.heap.size, 1, none⟩ = some (.string fK) ∧ w'.cell? ⟨w7.heap.size, 2, none⟩ = some (.slice aoK pK.length capK)) (assumption) (first | (go_at_call_of 19 (Value.agg #[.int .i64 zB, .string fB, .slice aoB pB.length capB]); refine (HFB.out (.slice aoB pB.length capB) _ (PB.below (And.left (by assumption)) (Nat.le_refl _))).mono ?_; rintro e wb ⟨slb, rfl, hob, hbb⟩; have hPb := hob.patches; obtain ⟨aob, capb, rfl⟩ := hob.form; have hK5 := MK _ (stepB hbb (by assumption)); clear hob hbb) | (go_at_call_of 19 (Value.agg #[.int .i64 zK, .string fK, .slice aoK pK.length capK]); refine (HFK.out (.slice aoK pK.length capK) _ (PK.below (And.left (by assumption)) (Nat.le_refl _))).mono ?_; rintro e wk ⟨slk, rfl, hok, hbk⟩; have hPk := hok.patches; obtain ⟨aok, capk, rfl⟩ := hok.form; have hK5 := MK _ (stepB hbk (by assumption)); clear hok) | (go_at_call 18; refine (rsame_any ⟨zG, fG, pG⟩ HFL.out _ _ _ (hPb.below hbk (Nat.le_refl _)) hPk).mono ?_; rintro e ws ⟨rfl, hbs⟩; have hK5 := MK _ (stepB hbs (by assumption)); clear hbs))
      all_goals
        go_wp2_with fail
        go_ret
        exact ⟨rfl, HBZ.out.step hK5.1⟩
  · have d1 : decide (to_ < at_ + (ms : Int)) = false := decide_eq_false g1
    have htw := hTW.out hE1 hE2 hE3 hE4 (fun h => by omega)
    rw [← htw] at HFK
    clear htw hTW
    generalize Gw.Disk.flush ⟨zB, fB, pB⟩ = G at *
    obtain ⟨zG, fG, pG⟩ := G
    simp only at HFB HFK HFL
    have zz := World.size_alloc w7 (.cells #[.int .i64 zK, .string fK, .slice aoK pK.length capK] 24)
    have hbx := (Below.refl w7.heap.size w7).new (.cells #[.int .i64 zK, .string fK, .slice aoK pK.length capK] 24)
    have cb0 := (hbx.cell (p := ⟨w5.heap.size, 0, none⟩) bb_7z).trans bb_7_0
    have cb1 := (hbx.cell (p := ⟨w5.heap.size, 1, none⟩) bb_7z).trans bb_7_1
    have cb2 := (hbx.cell (p := ⟨w5.heap.size, 2, none⟩) bb_7z).trans bb_7_2
    have zb : w5.heap.size < (w7.alloc (.cells #[.int .i64 zK, .string fK, .slice aoK pK.length capK] 24)).heap.size := by rw [zz]; exact Nat.lt_succ_of_lt bb_7z
    have ck0 : (w7.alloc (.cells #[.int .i64 zK, .string fK, .slice aoK pK.length capK] 24)).cell? ⟨w7.heap.size, 0, none⟩ = some (.int .i64 zK) := new_cell rfl rfl
    have ck1 : (w7.alloc (.cells #[.int .i64 zK, .string fK, .slice aoK pK.length capK] 24)).cell? ⟨w7.heap.size, 1, none⟩ = some (.string fK) := new_cell rfl rfl
    have ck2 : (w7.alloc (.cells #[.int .i64 zK, .string fK, .slice aoK pK.length capK] 24)).cell? ⟨w7.heap.size, 2, none⟩ = some (.slice aoK pK.length capK) := new_cell rfl rfl
    have zk : w7.heap.size < (w7.alloc (.cells #[.int .i64 zK, .string fK, .slice aoK pK.length capK] 24)).heap.size := by rw [zz]; exact Nat.lt_succ_self _
    have PB := HP5_7.out.below hbx (Nat.le_refl _)
    have PK := HP7.out.below hbx (Nat.le_refl _)
    have HBZ := Lib.hid (HB7.out.new (.cells #[.int .i64 zK, .string fK, .slice aoK pK.length capK] 24))
    generalize hWN : w7.alloc (.cells #[.int .i64 zK, .string fK, .slice aoK pK.length capK] 24) = WN at *
    have MK : ∀ w' : World, Below WN.heap.size WN w' → Below WN.heap.size WN w' ∧ w'.cell? ⟨w5.heap.size, 0, none⟩ = some (.int .i64 zB) ∧ w'.cell? ⟨w5.heap.size, 1, none⟩ = some (.string fB) ∧ w'.cell? ⟨w5.heap.size, 2, none⟩ = some (.slice aoB pB.length capB) ∧ w'.cell? ⟨w7.heap.size, 0, none⟩ = some (.int .i64 zK) ∧ w'.cell? ⟨w7.heap.size, 1, none⟩ = some (.string fK) ∧ w'.cell? ⟨w7.heap.size, 2, none⟩ = some (.slice aoK pK.length capK) := fun w' hB => ⟨hB, (hB.cell (p := ⟨w5.heap.size, 0, none⟩) zb).trans cb0, (hB.cell (p := ⟨w5.heap.size, 1, none⟩) zb).trans cb1, (hB.cell (p := ⟨w5.heap.size, 2, none⟩) zb).trans cb2, (hB.cell (p := ⟨w7.heap.size, 0, none⟩) zk).trans ck0, (hB.cell (p := ⟨w7.heap.size, 1, none⟩) zk).trans ck1, (hB.cell (p := ⟨w7.heap.size, 2, none⟩) zk).trans ck2⟩
    have hS0 := MK _ (Below.refl WN.heap.size WN).drew
    go_wp2_with fail
    try rw [hWN]
    go_region_held3 (fun w' => Below WN.heap.size WN w' ∧ w'.cell? ⟨w5.heap.size, 0, none⟩ = some (.int .i64 zB) ∧ w'.cell? ⟨w5.heap.size, 1, none⟩ = some (.string fB) ∧ w'.cell? ⟨w5.heap.size, 2, none⟩ = some (.slice aoB pB.length capB) ∧ w'.cell? ⟨w7.heap.size, 0, none⟩ = some (.int .i64 zK) ∧ w'.cell? ⟨w7.heap.size, 1, none⟩ = some (.string fK) ∧ w'.cell? ⟨w7.heap.size, 2, none⟩ = some (.slice aoK pK.length capK)) (assumption) (first | (go_at_call_of 19 (Value.agg #[.int .i64 zB, .string fB, .slice aoB pB.length capB]); refine (HFB.out (.slice aoB pB.length capB) _ (PB.below (And.left (by assumption)) (Nat.le_refl _))).mono ?_; rintro e wb ⟨slb, rfl, hob, hbb⟩; have hPb := hob.patches; obtain ⟨aob, capb, rfl⟩ := hob.form; have hK5 := MK _ (stepB hbb (by assumption)); clear hob hbb) | (go_at_call_of 19 (Value.agg #[.int .i64 zK, .string fK, .slice aoK pK.length capK]); refine (HFK.out (.slice aoK pK.length capK) _ (PK.below (And.left (by assumption)) (Nat.le_refl _))).mono ?_; rintro e wk ⟨slk, rfl, hok, hbk⟩; have hPk := hok.patches; obtain ⟨aok, capk, rfl⟩ := hok.form; have hK5 := MK _ (stepB hbk (by assumption)); clear hok) | (go_at_call 18; refine (rsame_any ⟨zG, fG, pG⟩ HFL.out _ _ _ (hPb.below hbk (Nat.le_refl _)) hPk).mono ?_; rintro e ws ⟨rfl, hbs⟩; have hK5 := MK _ (stepB hbs (by assumption)); clear hbs))
    all_goals
      go_wp2_with fail
      go_ret
      exact ⟨rfl, HBZ.out.step hK5.1⟩

theorem diskTurns_walk (d : Gw.Disk.Disk) (hsz : -9223372036854775808 ≤ d.size ∧ d.size ≤ 9223372036854775807) (hl : d.loose.length ≤ maxLen) (sl : Value) (at_ : Int) (ha : -9223372036854775808 ≤ at_ ∧ at_ ≤ 9223372036854775807) (s : ByteArray) (to_ : Int) (ho : -9223372036854775808 ≤ to_ ∧ to_ ≤ 9223372036854775807) (t : ByteArray) (w : World) (hp : PatchesAt w sl d.loose) :
    Calls Try.prog 9 #[diskV d sl, .int .i64 at_, .string s, .int .i64 to_, .string t] w fun e w' => e = .returned (.bool true) ∧ Below w.heap.size w w' := by
  by_cases hf : few d = true
  · by_cases hs : s.size ≤ 1000
    · by_cases ht : t.size ≤ 1000
      · by_cases hc : Gw.Disk.check d = true
        · exact diskTurns_ok d hsz hl sl at_ ha s to_ ho t w hp hf hs ht hc
        · exact diskTurns_chk d hsz hl sl at_ ha s to_ ho t w hp hf hs ht (Bool.eq_false_iff.mpr hc)
      · exact diskTurns_len1 d hsz hl sl at_ ha s to_ ho t w hp hf hs ht
    · exact diskTurns_len0 d hsz hl sl at_ ha s to_ ho t w hp hf hs
  · exact diskTurns_few d hsz hl sl at_ ha s to_ ho t w hp (Bool.eq_false_iff.mpr hf)
end Go.Proofs.Ytfehckdcjgmcpaa
