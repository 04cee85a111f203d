/- The walks of the reference of the package sums (gunwaleref03). -/
import Derived.Test.YtjhblbipjljojaaDoorSumsWalks
namespace Go.Proofs.YtjhblbipjljojaaDoor
open Go.RowKit

set_option maxRecDepth 1000000 in
set_option maxHeartbeats 400000 in
theorem refStep_any (n : Nat) (hn : n < 4294967296) (w : World) :
    Calls Tryd.prog 106 #[.int .u32 (n : Int)] w fun e w' => e = .returned (.int .u32 (Gw.Sums.step n)) ∧ w = w' := by
  by_cases h : n < 2147483648
  · have hs : Gw.Sums.step n = n * 2 % 4294967296 := Gw.Sums.step_lo h
    have HS := Lib.hid hs
    clear hs
    have hd : decide ((2147483648 : Int) ≤ (n : Int)) = false := decide_eq_false (by omega)
    clear h
    go_enter Tryd.func106, Tryd.ntmps106
    go_wp2
    go_ret
    exact ⟨by rw [HS.out]; go_num, rfl⟩
  · have hs : Gw.Sums.step n = (n * 2 % 4294967296) ^^^ 79764919 := Gw.Sums.step_hi h
    have HS := Lib.hid hs
    have hx : bits .xor .u32 (2 * (n : Int) % 4294967296) 79764919 = (((n * 2 % 4294967296) ^^^ 79764919 : Nat) : Int) := by
      rw [show 2 * (n : Int) % 4294967296 = ((n * 2 % 4294967296 : Nat) : Int) from by omega, show (79764919 : Int) = ((79764919 : Nat) : Int) from rfl, u32_xor_nat _ _ (by omega) (by omega)]
    clear hs
    have hd : decide ((2147483648 : Int) ≤ (n : Int)) = true := decide_eq_true (by omega)
    clear h
    go_enter Tryd.func106, Tryd.ntmps106
    go_wp2
    go_ret
    exact ⟨by rw [HS.out]; rfl, rfl⟩

set_option maxRecDepth 1000000 in
set_option maxHeartbeats 400000 in
theorem refSum_any (s : ByteArray) (hs : s.size < 1000000000) (w : World) :
    Calls Tryd.prog 105 #[.string s] w fun e w' => e = .returned (.int .u32 (Gw.Sums.sum s.data.toList)) ∧ w = w' := by
  go_enter Tryd.func105, Tryd.ntmps105
  go_wp2_with fail
  go_loop [3, 4] (fun n i => ∃ k x : Nat, k ≤ s.size ∧ i = .int .i64 k ∧ n = .int .u32 x ∧ x = Gw.Sums.sumFrom 4294967295 (s.data.toList.take k) ∧ x < 4294967296) (fun _ i => s.size - (intOf i).toNat)
  case atStart => exact ⟨0, 4294967295, Nat.zero_le _, rfl, rfl, rfl, by omega⟩
  case round =>
    obtain ⟨k, x, hk, rfl, rfl, hx, hxlt⟩ := hrel
    have HX := Lib.hid hx
    clear hx
    by_cases hlt : k < s.size
    · have HT := Lib.hid (take_snoc s k hlt)
      have hcl := UInt8.toNat_lt s[k]
      have hxo : bits .xor .u32 (x : Int) ((s[k].toNat : Int) * 16777216) = ((x ^^^ s[k].toNat * 16777216 : Nat) : Int) := by
        rw [show (s[k].toNat : Int) * 16777216 = ((s[k].toNat * 16777216 : Nat) : Int) from by omega, u32_xor_nat _ _ hxlt (by omega)]
      have hX : x ^^^ s[k].toNat * 16777216 < 4294967296 := Nat.xor_lt_two_pow (n := 32) hxlt (by omega)
      have HA : Hid (Gw.Sums.add x s[k].toNat = Gw.Sums.iter 8 (x ^^^ s[k].toNat * 16777216)) := Lib.hid rfl
      go_wp2_with fail
      generalize x ^^^ s[k].toNat * 16777216 = X at *
      go_loop [3, 5] (fun n i => ∃ j y : Nat, j ≤ 8 ∧ i = .int .i64 j ∧ n = .int .u32 y ∧ y = Gw.Sums.iter j X ∧ y < 4294967296) (fun _ i => 8 - (intOf i).toNat)
      case atStart => exact ⟨0, X, Nat.zero_le _, rfl, rfl, rfl, hX⟩
      case round =>
        obtain ⟨j, y, hj, rfl, rfl, hy, hylt⟩ := hrel
        have HY := Lib.hid hy
        clear hy
        by_cases hjt : j < 8
        · go_wp2_with (go_at_call 106; refine (refStep_any _ hylt _).mono ?_; rintro e w' ⟨rfl, rfl⟩)
          go_round
          case rel => exact ⟨j + 1, _, by omega, by go_num, rfl, by rw [HY.out]; rfl, Gw.Sums.step_lt _⟩
          case measure => simp [intOf]; omega
        · obtain rfl : j = 8 := by omega
          go_wp2_with fail
          go_round
          case rel => exact ⟨k + 1, y, by omega, by go_num, rfl, by rw [HT.out, Gw.Sums.sumFrom_snoc, ← HX.out, HA.out, HY.out], hylt⟩
          case measure => simp [intOf]; omega
    · go_wp2_with fail
      go_ret
      refine ⟨?_, rfl⟩
      rw [HX.out, List.take_of_length_le (by simp; omega)]
      rfl

set_option maxHeartbeats 400000 in
theorem refBytes_any (n : Nat) (hn : n < 4294967296) (w : World) :
    Calls Tryd.prog 104 #[.int .u32 (n : Int)] w fun e w' => e = .returned (.string ⟨(Gw.Sums.bytes n).toArray⟩) ∧ Below w.heap.size w w' := by
  have hcv := conv_block (P := Tryd.prog) w 82 5 9 5 Tryd.underlying82 Tryd.underlying5 Tryd.underlying9 [(n : Int) / 16777216, (n : Int) / 65536 % 256, (n : Int) / 256 % 256, (n : Int) % 256] 4
  simp only [List.length_cons, List.length_nil, List.map_cons, List.map_nil] at hcv
  have hfin : strOfNums [(n : Int) / 16777216, (n : Int) / 65536 % 256, (n : Int) / 256 % 256, (n : Int) % 256] = ⟨(Gw.Sums.bytes n).toArray⟩ := by
    unfold strOfNums Gw.Sums.bytes
    simp only [List.map_cons, List.map_nil]
    rw [show ((n : Int) / 16777216).toNat = n / 16777216 from by omega, show ((n : Int) / 65536 % 256).toNat = n / 65536 % 256 from by omega, show ((n : Int) / 256 % 256).toNat = n / 256 % 256 from by omega, show ((n : Int) % 256).toNat = n % 256 from by omega, ofNat_mod, ofNat_mod, ofNat_mod]
  generalize strOfNums [(n : Int) / 16777216, (n : Int) / 65536 % 256, (n : Int) / 256 % 256, (n : Int) % 256] = S at *
  have HF := Lib.hid hfin
  clear hfin
  go_enter Tryd.func104, Tryd.ntmps104
  go_wp2
  go_ret
  exact ⟨by rw [HF.out]; rfl, (Below.refl _ _).alloc (Nat.le_refl _) _⟩

set_option maxHeartbeats 400000 in
theorem refSeal_any (s : ByteArray) (hs : s.size < 1000000000) (w : World) :
    Calls Tryd.prog 102 #[.string s] w fun e w' => e = .returned (.string (s ++ sumBytes s)) ∧ Below w.heap.size w w' := by
  have hlt := Gw.Sums.sum_lt s.data.toList
  have h1 := fun w => refSum_any s hs w
  have hsz : (sumBytes s).size ≤ 4 := by simp [sumBytes, Gw.Sums.bytes, ByteArray.size]
  have hb := fun w => refBytes_any (Gw.Sums.sum s.data.toList) hlt w
  have hdef : (⟨(Gw.Sums.bytes (Gw.Sums.sum s.data.toList)).toArray⟩ : ByteArray) = sumBytes s := rfl
  rw [hdef] at hb
  generalize sumBytes s = B at *
  generalize Gw.Sums.sum s.data.toList = n at *
  have H1 := Lib.hid h1
  have HB := Lib.hid hb
  clear h1 hb hdef
  go_enter Tryd.func102, Tryd.ntmps102
  go_wp2_with fail
  refine (H1.out _).mono ?_
  rintro e w' ⟨rfl, rfl⟩
  go_wp2_with fail
  refine (HB.out _).mono ?_
  rintro e w' ⟨rfl, hb⟩
  go_wp2_with fail
  go_ret
  exact ⟨rfl, hb⟩

theorem split_tail (s : ByteArray) : s.data.toList = (textOf s).data.toList ++ (tailOf s).data.toList := by
  unfold textOf tailOf
  rw [Lib.extract_data, Lib.extract_data, List.drop_zero, Nat.sub_zero, List.take_of_length_le (l := List.drop _ _) (by simp), List.take_append_drop]
/-- That a text is sealed can be asked either way. -/
theorem seal_eq (s : ByteArray) : ((textOf s ++ sumBytes (textOf s)).toList == s.toList) = openTrue s := by
  rw [Bool.eq_iff_iff]
  unfold openTrue
  rw [ba_eq, ba_eq, ByteArray.data_append, Array.toList_append]
  rw [split_tail s]
  constructor
  · intro h
    exact List.append_cancel_left h
  · intro h
    rw [h]

end Go.Proofs.YtjhblbipjljojaaDoor
