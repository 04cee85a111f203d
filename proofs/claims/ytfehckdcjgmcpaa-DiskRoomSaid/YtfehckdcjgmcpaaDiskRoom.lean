/- The walk of gunwalelaw12.DiskRoom. -/
import Derived.Test.YtfehckdcjgmcpaaDiskAwake
import Derived.Test.YtfehckdcjgmcpaaDiskLaw
namespace Go.Proofs.Ytfehckdcjgmcpaa
open Go.RowKit

set_option maxRecDepth 1000000 in
set_option maxHeartbeats 1000000 in
theorem diskRoom_walk (z a : Nat) (hz : z ≤ 255) (ha : a ≤ 255) (s : ByteArray) (w : World) :
    Calls Try.prog 8 #[.int .u8 (z : Int), .int .u8 (a : Int), .string s] w fun e w' => e = .returned (.bool true) ∧ Below w.heap.size w w' := by
  have HA := Lib.hid awake_any
  by_cases hs : s.size ≤ 1000
  · have e0 : decide ((1000 : Int) < (s.size : Int)) = false := decide_eq_false (by omega)
    have hz0 : (0 : Int) ≤ (z : Int) := by omega
    have hrem : ((z : Int)).tmod 100 = ((z % 100 : Nat) : Int) := by rw [Int.tmod_eq_emod_of_nonneg hz0]; rfl
    have hn : z % 100 < 100 := Nat.mod_lt _ (by omega)
    have hx : ((⟨(List.replicate (z % 100 * 16) (0 : UInt8)).toArray⟩ : ByteArray)).size = z % 100 * 16 := by show (List.replicate (z % 100 * 16) (0 : UInt8)).toArray.size = _; simp
    have hck := Gw.Disk.check_new (z % 100) (by omega) _ hx
    have hrd := Gw.Disk.read_new (z % 100) _ hx hck
    have H1 := Lib.hid (new_any ((z % 100 : Nat) : Int) (by omega))
    rw [Gw.Disk.new_nat _ (by omega)] at H1
    have hz1 : ∀ (k : Nat) (h : k < ((⟨(List.replicate (z % 100 * 16) (0 : UInt8)).toArray⟩ : ByteArray)).size), ((⟨(List.replicate (z % 100 * 16) (0 : UInt8)).toArray⟩ : ByteArray))[k]'h = 0 := fun k h => by
      show (List.replicate (z % 100 * 16) (0 : UInt8)).toArray[k]'h = 0
      simp
    generalize (⟨(List.replicate (z % 100 * 16) (0 : UInt8)).toArray⟩ : ByteArray) = X at *
    generalize z % 100 = n at *
    have H2 := Lib.hid (read_any ⟨(n : Int), X, []⟩ (by simp only; omega) (by simp) (.slice none 0 0) 0 (n : Int) (by omega) (by omega))
    rw [hrd.1, hrd.2, show (⟨X.data.toList.toArray⟩ : ByteArray) = X from rfl] at H2
    have H3 := Lib.hid (write_any ⟨(n : Int), X, []⟩ (by simp only; omega) (by simp) (.slice none 0 0) (a : Int) s (by omega))
    have hwe := Gw.Disk.writeErr_good ⟨(n : Int), X, []⟩ hck a s
    simp only at hwe
    have HZ := Lib.hid hz1
    have HXS := Lib.hid hx
    clear hz1 hck hrd
    have HB0 := Lib.hid (Below.refl w.heap.size w)
    go_enter Try.func8, Try.ntmps8
    have HC1 := Lib.hid (HA.out w)
    go_wp2_with fail
    refine (HC1.out).mono ?_
    rintro e w1 ⟨rfl, hb1⟩
    have HX1 := Lib.hid ((Below.refl w.heap.size w).step hb1)
    have HB1 := Lib.hid (HB0.out.step HX1.out)
    have z1 : w.heap.size ≤ w1.heap.size := by have := hb1.size; exact this
    clear hb1 
    have HC2 := Lib.hid (H1.out w1)
    go_wp2_with fail
    refine (HC2.out).mono ?_
    rintro e w2 ⟨rfl, hb2⟩
    have HX2 := Lib.hid ((Below.refl w1.heap.size w1).step hb2)
    have HB2 := Lib.hid (HB1.out.step HX2.out)
    have z2 : w1.heap.size ≤ w2.heap.size := by have := hb2.size; exact this
    clear hb2 
    unfold diskV
    have HC3 := Lib.hid (H2.out (w2.alloc (.cells #[.int .i64 (n : Int), .string X, .slice none 0 0] 24)) (.inl ⟨rfl, none, 0, rfl⟩))
    go_wp2_with fail
    refine (HC3.out).mono ?_
    rintro e w3 ⟨rfl, hb3⟩
    have HX3 := Lib.hid (((Below.refl w2.heap.size w2).new (.cells #[.int .i64 (n : Int), .string X, .slice none 0 0] 24)).step hb3)
    have HB3 := Lib.hid (HB2.out.step HX3.out)
    have z3 : w2.heap.size < w3.heap.size := by have := hb3.size; rw [World.size_alloc] at this; exact this
    have bd_3_0 := hb3.cell (p := ⟨w2.heap.size, 0, none⟩) (by simp)
    have bd_3_1 := hb3.cell (p := ⟨w2.heap.size, 1, none⟩) (by simp)
    have bd_3_2 := hb3.cell (p := ⟨w2.heap.size, 2, none⟩) (by simp)
    simp at bd_3_0 bd_3_1 bd_3_2
    have bd_3z : w2.heap.size < w3.heap.size := z3
    clear hb3 
    go_wp2_with fail
    go_loopw [12] (fun i wr => ∃ k : Nat, k ≤ n * 16 ∧ i = .int .i64 k ∧ wr = w3) (fun i _ => n * 16 - (intOf i).toNat)
    case atStart => exact ⟨0, by simp⟩
    case round =>
      obtain ⟨k, hk, rfl, hwr⟩ := hrel
      replace hwr := hwr.symm
      subst hwr
      by_cases hlt : k < n * 16
      · have hkx : k < X.size := by rw [HXS.out]; exact hlt
        have hxk := HZ.out k hkx
        have e1 : decide ((k : Int) < (X.size : Int)) = true := decide_eq_true (by omega)
        go_wp2_with fail
        go_roundw
        case rel => exact ⟨k + 1, by omega, by go_num, trivial⟩
        case measure => simp [intOf]; omega
      · obtain rfl : k = n * 16 := by omega
        by_cases hf : (n : Int) - (Gw.Disk.manyOf s : Int) < (a : Int)
        · rw [if_pos hf] at hwe
          have hw : Gw.Disk.write ⟨(n : Int), X, []⟩ (a : Int) s = ⟨(n : Int), X, []⟩ := by simp [Gw.Disk.write, hwe]
          rw [hw, hwe] at H3
          have hq : decide (16 * (a : Int) + (s.size : Int) ≤ 16 * (n : Int)) = false := decide_eq_false (by unfold Gw.Disk.manyOf at hf; omega)
          clear hw hwe hf
          have HC4 := Lib.hid (H3.out w3 (.inl ⟨rfl, none, 0, rfl⟩))
          go_wp2_with fail
          refine (HC4.out).mono ?_
          rintro e w4 ⟨sl4, rfl, ho4, hb4⟩
          obtain ⟨ao, cap, rfl⟩ := ho4.form
          have HX4 := Lib.hid ((Below.refl w3.heap.size w3).step hb4)
          have HB4 := Lib.hid (HB3.out.step HX4.out)
          have HP4 := Lib.hid ho4.patches
          have z4 : w3.heap.size ≤ w4.heap.size := by have := hb4.size; exact this
          have bd_4_0 := (HX4.out.cell (p := ⟨w2.heap.size, 0, none⟩) bd_3z).trans bd_3_0
          have bd_4_1 := (HX4.out.cell (p := ⟨w2.heap.size, 1, none⟩) bd_3z).trans bd_3_1
          have bd_4_2 := (HX4.out.cell (p := ⟨w2.heap.size, 2, none⟩) bd_3z).trans bd_3_2
          have bd_4z : w2.heap.size < w4.heap.size := Nat.lt_of_lt_of_le bd_3z z4
          clear bd_3_0 bd_3_1 bd_3_2 bd_3z
          clear hb4 ho4
          unfold diskV
          have HC5 := Lib.hid (rsame_any ⟨(n : Int), X, []⟩ (by simp) (.slice ao 0 cap) (.slice none 0 0) (w4.alloc (.cells #[.int .i64 (n : Int), .string X, .slice ao 0 cap] 24)) (HP4.out.below ((Below.refl _ _).new (.cells #[.int .i64 (n : Int), .string X, .slice ao 0 cap] 24)) (Nat.le_refl _)) (.inl ⟨rfl, none, 0, rfl⟩))
          go_wp2_with fail
          refine (HC5.out).mono ?_
          rintro e w5 ⟨rfl, hb5⟩
          have HX5 := Lib.hid (((Below.refl w4.heap.size w4).new (.cells #[.int .i64 (n : Int), .string X, .slice ao 0 cap] 24)).step hb5)
          have HB5 := Lib.hid (HB4.out.step HX5.out)
          have z5 : w4.heap.size < w5.heap.size := by have := hb5.size; rw [World.size_alloc] at this; exact this
          have bd_5_0 := (HX5.out.cell (p := ⟨w2.heap.size, 0, none⟩) bd_4z).trans bd_4_0
          have bd_5_1 := (HX5.out.cell (p := ⟨w2.heap.size, 1, none⟩) bd_4z).trans bd_4_1
          have bd_5_2 := (HX5.out.cell (p := ⟨w2.heap.size, 2, none⟩) bd_4z).trans bd_4_2
          have bd_5z : w2.heap.size < w5.heap.size := Nat.lt_of_lt_of_le bd_4z (Nat.le_of_lt z5)
          clear bd_4_0 bd_4_1 bd_4_2 bd_4z
          have HP4_5 := Lib.hid (HP4.out.below HX5.out (Nat.le_refl _))
          clear HP4
          clear hb5 
          go_wp2_with fail
          go_ret
          exact ⟨rfl, HB5.out⟩
        · rw [if_neg hf] at hwe
          rw [hwe] at H3
          have hw : (Gw.Disk.write ⟨(n : Int), X, []⟩ (a : Int) s) = ⟨(n : Int), X, Gw.Disk.wrote (a : Int) s (Gw.Disk.manyOf s)⟩ := by simp [Gw.Disk.write, hwe]
          rw [hw] at H3
          have hq : decide (16 * (a : Int) + (s.size : Int) ≤ 16 * (n : Int)) = true := decide_eq_true (by unfold Gw.Disk.manyOf at hf; omega)
          generalize Gw.Disk.wrote (a : Int) s (Gw.Disk.manyOf s) = L at *
          clear hw hwe hf
          have HC4 := Lib.hid (H3.out w3 (.inl ⟨rfl, none, 0, rfl⟩))
          go_wp2_with fail
          refine (HC4.out).mono ?_
          rintro e w4 ⟨sl4, rfl, ho4, hb4⟩
          obtain ⟨ao, cap, rfl⟩ := ho4.form
          have HX4 := Lib.hid ((Below.refl w3.heap.size w3).step hb4)
          have HB4 := Lib.hid (HB3.out.step HX4.out)
          have HP4 := Lib.hid ho4.patches
          have z4 : w3.heap.size ≤ w4.heap.size := by have := hb4.size; exact this
          have bd_4_0 := (HX4.out.cell (p := ⟨w2.heap.size, 0, none⟩) bd_3z).trans bd_3_0
          have bd_4_1 := (HX4.out.cell (p := ⟨w2.heap.size, 1, none⟩) bd_3z).trans bd_3_1
          have bd_4_2 := (HX4.out.cell (p := ⟨w2.heap.size, 2, none⟩) bd_3z).trans bd_3_2
          have bd_4z : w2.heap.size < w4.heap.size := Nat.lt_of_lt_of_le bd_3z z4
          clear bd_3_0 bd_3_1 bd_3_2 bd_3z
          clear hb4 ho4
          unfold diskV
          go_wp2_with fail
          go_ret
          exact ⟨rfl, HB4.out.new _⟩
  · have e0 : decide ((1000 : Int) < (s.size : Int)) = true := decide_eq_true (by omega)
    clear hs
    go_enter Try.func8, Try.ntmps8
    go_wp2_with fail
    refine (HA.out w).mono ?_
    rintro e w1 ⟨rfl, hb1⟩
    go_wp2_with fail
    go_ret
    exact ⟨rfl, hb1⟩
end Go.Proofs.Ytfehckdcjgmcpaa
