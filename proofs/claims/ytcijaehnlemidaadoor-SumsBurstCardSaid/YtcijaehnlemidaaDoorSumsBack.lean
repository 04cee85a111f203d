/- SumsBack: the walk. -/
import Derived.Test.YtcijaehnlemidaaDoorSumsAwake
import Derived.Test.YtcijaehnlemidaaDoorSumsLaw
namespace Go.Proofs.YtcijaehnlemidaaDoor
open Go.RowKit

/-- What is opened was sealed so. -/
theorem open_was_sealed (s : ByteArray) (h : openTrue s = true) : textOf s ++ sumBytes (textOf s) = s := by
  have := seal_eq s
  rw [h] at this
  exact WideShapes.bytes_inj (ba_eq.1 this)

set_option maxRecDepth 1000000 in
set_option maxHeartbeats 1000000 in
theorem sumsBack_walk (s : ByteArray) (hm : s.size ≤ maxLen) (w : World) (S : Steps w) :
    Calls Tryd.prog 5 #[.string s] w fun e w' => e = .returned (.bool true) ∧ Below w.heap.size w w' := by
  unfold maxLen at hm
  have H0 := Lib.hid (awake_any w S)
  by_cases hl : s.size ≤ 1000
  · have hs : s.size < 1000000000 := by omega
    have hB : (s ++ sumBytes s).size < 1000000000 := by rw [seal_size]; omega
    have H1 := Lib.hid (fun w S => seal_any s hs w S)
    have H2 := Lib.hid (fun w S => open_any (s ++ sumBytes s) hB w S)
    rw [openRes_seal] at H2
    have H3 := Lib.hid (fun w S => open_any s hs w S)
    have H4 := Lib.hid (sum1 (s ++ sumBytes s) (by unfold maxLen; omega))
    have hz : Gw.Sums.sum (s ++ sumBytes s).data.toList = 0 := by
      rw [ByteArray.data_append, Array.toList_append]
      exact Gw.Sums.sum_sealed _
    rw [hz] at H4
    have HO := Lib.hid (open_was_sealed s)
    have hts : (textOf s).size < 1000000000 := by unfold textOf; rw [ByteArray.size_extract]; omega
    have H5 := Lib.hid (fun w S => seal_any (textOf s) hts w S)
    clear hz
    generalize s ++ sumBytes s = B at *
    cases hc : (decide (4 ≤ s.size) && openTrue s)
    · rw [hc] at H3
      clear hc
      simp only [openRes] at H3
      go_enter Tryd.func5, Tryd.ntmps5
      go_wp2_with fail
      refine H0.out.mono ?_
      rintro e w1 ⟨rfl, hb1⟩
      have S1 := S.below hb1 (Nat.le_refl _)
      go_wp2_with fail
      refine (H1.out _ S1).mono ?_
      rintro e w2 ⟨rfl, hb2⟩
      have S2 := S1.below hb2 (Nat.le_refl _)
      go_wp2_with fail
      refine (H2.out _ S2).mono ?_
      rintro e w3 ⟨rfl, hb3⟩
      have S3 := S2.below hb3 (Nat.le_refl _)
      go_wp2_with fail
      refine (H3.out _ S3).mono ?_
      rintro e w4 ⟨rfl, hb4⟩
      have S4 := S3.below hb4 (Nat.le_refl _)
      go_wp2_with fail
      refine (H1.out _ S4).mono ?_
      rintro e w5 ⟨rfl, hb5⟩
      have S5 := S4.below hb5 (Nat.le_refl _)
      go_wp2_with fail
      refine (H4.out _ _ _ (S5.alloc _) (by simp)).mono ?_
      rintro e w6 ⟨rfl, rfl⟩
      go_wp2_with fail
      go_ret
      have z1 := hb1.size
      have z2 := hb2.size
      have z3 := hb3.size
      have z4 := hb4.size
      have z5 := hb5.size
      refine ⟨rfl, Below.alloc ?_ (by omega) _⟩
      exact (((hb1.trans (hb2.mono (by omega))).trans (hb3.mono (by omega))).trans (hb4.mono (by omega))).trans (hb5.mono (by omega))
    · have ho : openTrue s = true := by rw [Bool.and_eq_true] at hc; exact hc.2
      have HE := Lib.hid (HO.out ho)
      clear HO
      rw [HE.out] at H5
      rw [hc] at H3
      clear hc ho
      simp only [openRes] at H3
      generalize textOf s = y at *
      go_enter Tryd.func5, Tryd.ntmps5
      go_wp2_with fail
      refine H0.out.mono ?_
      rintro e w1 ⟨rfl, hb1⟩
      have S1 := S.below hb1 (Nat.le_refl _)
      go_wp2_with fail
      refine (H1.out _ S1).mono ?_
      rintro e w2 ⟨rfl, hb2⟩
      have S2 := S1.below hb2 (Nat.le_refl _)
      go_wp2_with fail
      refine (H2.out _ S2).mono ?_
      rintro e w3 ⟨rfl, hb3⟩
      have S3 := S2.below hb3 (Nat.le_refl _)
      go_wp2_with fail
      refine (H3.out _ S3).mono ?_
      rintro e w4 ⟨rfl, hb4⟩
      have S4 := S3.below hb4 (Nat.le_refl _)
      go_wp2_with fail
      refine (H1.out _ S4).mono ?_
      rintro e w5 ⟨rfl, hb5⟩
      have S5 := S4.below hb5 (Nat.le_refl _)
      go_wp2_with fail
      refine (H4.out _ _ _ (S5.alloc _) (by simp)).mono ?_
      rintro e w6 ⟨rfl, rfl⟩
      have S6 := S5.alloc (.cells #[.string B] 9)
      go_wp2_with fail
      refine (H5.out _ S6).mono ?_
      rintro e w7 ⟨rfl, hb7⟩
      go_wp2_with fail
      go_ret
      have z1 := hb1.size
      have z2 := hb2.size
      have z3 := hb3.size
      have z4 := hb4.size
      have z5 := hb5.size
      refine ⟨rfl, Below.trans (Below.alloc ?_ (by omega) _) (hb7.mono (by simp only [World.size_alloc]; omega))⟩
      exact (((hb1.trans (hb2.mono (by omega))).trans (hb3.mono (by omega))).trans (hb4.mono (by omega))).trans (hb5.mono (by omega))
  · go_enter Tryd.func5, Tryd.ntmps5
    go_wp2_with fail
    refine H0.out.mono ?_
    rintro e w1 ⟨rfl, hb1⟩
    go_wp2_with fail
    go_ret
    exact ⟨rfl, hb1⟩
end Go.Proofs.YtcijaehnlemidaaDoor
