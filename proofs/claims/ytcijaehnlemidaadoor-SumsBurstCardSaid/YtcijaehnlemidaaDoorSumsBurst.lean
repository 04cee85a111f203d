/- SumsBurst: the walk. -/
import Derived.Test.YtcijaehnlemidaaDoorSumsAwake
import Derived.Test.YtcijaehnlemidaaDoorSumsLaw
import Derived.Test.YtcijaehnlemidaaDoorSumsBack
namespace Go.Proofs.YtcijaehnlemidaaDoor
open Go.RowKit

theorem Steps.low {w w' : World} {n : Nat} (h : Steps w) (hb : Below n w w') (hn : 0 < n) : Steps w' :=
  ⟨Nat.lt_of_lt_of_le h.1 hb.size, (hb.cell (p := ⟨_, 0, none⟩) hn).trans h.2.1, (hb.cell (p := ⟨_, 1, none⟩) hn).trans h.2.2⟩

set_option maxRecDepth 1000000 in
set_option maxHeartbeats 1000000 in
theorem sumsBurst_walk (s : ByteArray) (hm : s.size ≤ maxLen) (at_ : Nat) (hat : at_ < 65536) (burst : Nat) (hbu : burst < 4294967296) (w : World) (S : Steps w) :
    Calls Tryd.prog 6 #[.string s, .int .u16 (at_ : Int), .int .u32 (burst : Int)] w fun e w' => e = .returned (.bool true) ∧ Below w.heap.size w w' := by
  unfold maxLen at hm
  have H0 := Lib.hid (awake_any w S)
  by_cases hl : s.size ≤ 1000
  · have hs : s.size < 1000000000 := by omega
    have H1 := Lib.hid (fun w S => seal_any s hs w S)
    have hB : (s ++ sumBytes s).size ≤ 1004 := by rw [seal_size]; omega
    have hB4 : 4 ≤ (s ++ sumBytes s).size := by rw [seal_size]; omega
    have HB0 := Lib.hid (openRes_seal s)
    have hz0 : Gw.Sums.sum (s ++ sumBytes s).data.toList = 0 := by
      rw [ByteArray.data_append, Array.toList_append]
      exact Gw.Sums.sum_sealed _
    have HZ0 := Lib.hid hz0
    clear hz0
    generalize s ++ sumBytes s = B at *
    obtain ⟨F, hF, hF2⟩ : ∃ F : Nat, (at_ : Int) % (8 * (B.size : Int) - 31) = (F : Int) ∧ F + 32 ≤ 8 * B.size := by
      refine ⟨at_ % (8 * B.size - 31), by rw [Int.natCast_emod, Int.natCast_sub (by omega)]; rfl, ?_⟩
      have := Nat.mod_lt at_ (show 0 < 8 * B.size - 31 by omega)
      omega
    go_enter Tryd.func6, Tryd.ntmps6
    go_wp2_with fail
    refine H0.out.mono ?_
    rintro e w1 ⟨rfl, hb1⟩
    have S1 := S.below hb1 (Nat.le_refl _)
    go_wp2_with fail
    refine (H1.out _ S1).mono ?_
    rintro e w2 ⟨rfl, hb2⟩
    have S2 := S1.below hb2 (Nat.le_refl _)
    obtain ⟨w3, cap, hcv, hb3, hz3, hby⟩ := bytes_conv (P := Tryd.prog) w2 9 34 5 B Tryd.underlying9 Tryd.underlying34 Tryd.underlying5
    have HBY := Lib.hid hby
    clear hby
    go_wp2_with fail
    have hz2 : 0 < w2.heap.size := S2.1
    have S3 := S2.below hb3 (Nat.le_refl _)
    have hb3' : Below w1.heap.size w1 w3 := hb2.trans (hb3.mono hb2.size)
    have hle : w1.heap.size ≤ w2.heap.size := hb2.size
    generalize w2.heap.size = b at *
    go_loopw [10] (fun i wr => ∃ j : Nat, j ≤ 32 ∧ i = .int .i64 j ∧ Below b w3 wr ∧ b < wr.heap.size ∧ BytesAt wr b 0 (Gw.Sums.burstL B.data.toList F burst j)) (fun i _ => 32 - (intOf i).toNat)
    case atStart => exact ⟨0, by omega, rfl, Below.refl _ _, hz3, HBY.out⟩
    case round =>
      obtain ⟨j, hj, rfl, hbr, hzr, hyr⟩ := hrel
      have HYR := Lib.hid hyr
      clear hyr
      by_cases hlt : j < 32
      · have hk : (F + j) / 8 < (Gw.Sums.burstL B.data.toList F burst j).length := by
          rw [Gw.Sums.burstL_length]
          show _ < B.size
          omega
        have HC := Lib.hid (HYR.out _ hk)
        have hcell := HC.out.1
        have hfz := HC.out.2
        rw [Nat.zero_add] at hcell hfz
        generalize hcc : ((Gw.Sums.burstL B.data.toList F burst j).getD ((F + j) / 8) 0).toNat = c at *
        have ecast : ((burst : Int) / 2 ^ j).tmod 2 = ((burst / 2 ^ j % 2 : Nat) : Int) := by
          rw [show ((burst : Int) / 2 ^ j) = ((burst / 2 ^ j : Nat) : Int) from by simp, Int.tmod_eq_emod_of_nonneg (Int.natCast_nonneg _)]
          rfl
        by_cases hbit : burst / 2 ^ j % 2 = 1
        · have ht : (((burst : Int) / 2 ^ j).tmod 2 == 1) = true := by rw [ecast, hbit]; rfl
          have HBIT := Lib.hid hbit
          have HCC := Lib.hid hcc
          have hc256 : c < 256 := by rw [← hcc]; exact UInt8.toNat_lt _
          have hsh : 128 >>> ((F + j) % 8) < 256 := Nat.lt_of_le_of_lt (Nat.shiftRight_le _ _) (by omega)
          obtain ⟨q, hq, hx⟩ : ∃ q : UInt8, UInt8.ofNat (c ^^^ 128 >>> ((F + j) % 8)) = q ∧ bits .xor .u8 (c : Int) (128 / 2 ^ ((F + j) % 8)) = ((q.toNat : Nat) : Int) := by
            refine ⟨_, rfl, ?_⟩
            rw [show (128 / 2 ^ ((F + j) % 8) : Int) = ((128 >>> ((F + j) % 8) : Nat) : Int) from by rw [Nat.shiftRight_eq_div_pow]; simp]
            rw [u8_xor_nat _ _ hc256 hsh, UInt8.toNat_ofNat', Nat.mod_eq_of_lt (Nat.xor_lt_two_pow (n := 8) hc256 hsh)]
          have HSET := Lib.hid (HYR.out.set _ hk q)
          rw [Nat.zero_add] at HSET
          have HQ := Lib.hid hq
          clear ecast hbit hcc hsh hq
          go_wp2_with fail
          go_roundw
          case rel =>
            refine ⟨j + 1, by omega, by go_num, hbr.setCell (Nat.le_refl _) _, by simpa [World.setCell] using hzr, ?_⟩
            rw [Gw.Sums.burstL, if_pos HBIT.out, Gw.Sums.flip, HCC.out, HQ.out]
            exact HSET.out
          case measure => simp [intOf]; omega
        · have ht : (((burst : Int) / 2 ^ j).tmod 2 == 1) = false := by
            rw [ecast, beq_eq_false_iff_ne]
            omega
          have HBIT := Lib.hid hbit
          clear ecast hbit hcc
          go_wp2_with fail
          go_roundw
          case rel => exact ⟨j + 1, by omega, by go_num, hbr, hzr, by rw [Gw.Sums.burstL, if_neg HBIT.out]; exact HYR.out⟩
          case measure => simp [intOf]; omega
      · obtain rfl : j = 32 := by omega
        have hlen : (Gw.Sums.burstL B.data.toList F burst 32).length = B.size := by rw [Gw.Sums.burstL_length]; rfl
        have hsv := string_conv (P := Tryd.prog) wr 34 9 5 b 0 cap _ Tryd.underlying34 Tryd.underlying5 Tryd.underlying9 HYR.out
        rw [hlen] at hsv
        generalize hX : (⟨(Gw.Sums.burstL B.data.toList F burst 32).toArray⟩ : ByteArray) = X at *
        have hXs : X.size = B.size := by rw [← hX]; exact hlen
        have HX := Lib.hid hX
        have SR : Steps wr := S3.low hbr hz2
        have HOP := Lib.hid (open_any X (by omega) wr SR)
        have hdone : Below w.heap.size w wr := (hb1.trans (hb3'.mono hb1.size)).trans (hbr.mono (by have := hb1.size; omega))
        by_cases hb0 : burst = 0
        · have hXB : X = B := by
            rw [← hX, hb0, Gw.Sums.burstL_zero]
          rw [hXB] at HOP hsv
          rw [HB0.out] at HOP
          have hbz : ((burst : Int) == 0) = true := by rw [hb0]; rfl
          clear hX hXs hlen hXB hb0
          go_wp2_with fail
          refine HOP.out.mono ?_
          rintro e w4 ⟨rfl, hb4⟩
          go_wp2_with fail
          go_ret
          exact ⟨rfl, hdone.trans (hb4.mono hdone.size)⟩
        · have hno : openTrue X = false := by
            rw [Bool.eq_false_iff]
            intro ht
            apply hb0
            have h1 := open_was_sealed X ht
            have h2 : Gw.Sums.sum X.data.toList = 0 := by
              rw [← h1, ByteArray.data_append, Array.toList_append]
              exact Gw.Sums.sum_sealed _
            rw [← hX] at h2
            exact Gw.Sums.burst_sum _ F burst (by show F + 32 ≤ 8 * B.size; exact hF2) hbu HZ0.out h2
          rw [hno, Bool.and_false] at HOP
          simp only [openRes, Bool.false_eq_true, if_false] at HOP
          have hbz : ((burst : Int) == 0) = false := by rw [beq_eq_false_iff_ne]; omega
          clear hX hXs hlen hno hb0
          go_wp2_with fail
          refine HOP.out.mono ?_
          rintro e w4 ⟨rfl, hb4⟩
          go_wp2_with fail
          go_ret
          exact ⟨rfl, hdone.trans (hb4.mono hdone.size)⟩
  · go_enter Tryd.func6, Tryd.ntmps6
    go_wp2_with fail
    refine H0.out.mono ?_
    rintro e w1 ⟨rfl, hb1⟩
    go_wp2_with fail
    go_ret
    exact ⟨rfl, hb1⟩
end Go.Proofs.YtcijaehnlemidaaDoor
