/- SumsTell holds, whatever text and number it is called with. -/
import Derived.Test.YtcijaehnlemidaaDoorSumsAwake
namespace Go.Proofs.YtcijaehnlemidaaDoor
open Go.RowKit

set_option maxRecDepth 1000000 in
set_option maxHeartbeats 1000000 in
theorem sumsTell_walk (s : ByteArray) (hm : s.size ≤ maxLen) (n : Nat) (hn : n < 4294967296) (w : World) (S : Steps w) :
    Calls Tryd.prog 3 #[.string s, .int .u32 (n : Int)] w fun e w' => e = .returned (.bool true) ∧ Below w.heap.size w w' := by
  unfold maxLen at hm
  have H0 := Lib.hid (awake_any w S)
  by_cases hl : s.size ≤ 1000
  · have hs : s.size < 1000000000 := by omega
    have H1 := Lib.hid (fun w S => open_any s hs w S)
    have H2 := Lib.hid (fun w => refOpen_any s hs w)
    have H3 := Lib.hid (sum1 s (by unfold maxLen; omega))
    have H4 := Lib.hid (fun w => refSum_any s hs w)
    have H5 := Lib.hid (fun w => bytes_any n hn w)
    have H6 := Lib.hid (fun w => refBytes_any n hn w)
    have H7 := Lib.hid (fun w S => seal_any s hs w S)
    have H8 := Lib.hid (fun w => refSeal_any s hs w)
    generalize s ++ sumBytes s = B at *
    generalize (⟨(Gw.Sums.bytes n).toArray⟩ : ByteArray) = C at *
    generalize Gw.Sums.sum s.data.toList = m at *
    cases hc : (decide (4 ≤ s.size) && openTrue s)
    all_goals
      rw [hc] at H1 H2
      clear hc
      simp only [openRes] at H1 H2
      go_enter Tryd.func3, Tryd.ntmps3
      go_wp2_with fail
      refine H0.out.mono ?_
      rintro e w1 ⟨rfl, hb1⟩
      have S1 := S.below hb1 (Nat.le_refl _)
      go_wp2_with fail
      refine (H1.out _ S1).mono ?_
      rintro e w2 ⟨rfl, hb2⟩
      have S2 := S1.below hb2 (Nat.le_refl _)
      go_wp2_with fail
      refine (H2.out _).mono ?_
      rintro e w3 ⟨rfl, hb3⟩
      have S3 := S2.below hb3 (Nat.le_refl _)
      go_wp2_with fail
      refine (H3.out _ _ _ (S3.alloc _) (by simp)).mono ?_
      rintro e w4 ⟨rfl, rfl⟩
      go_wp2_with fail
      refine (H4.out _).mono ?_
      rintro e w4 ⟨rfl, rfl⟩
      go_wp2_with fail
      refine (H5.out _).mono ?_
      rintro e w5 ⟨rfl, hb5⟩
      have S5 := (S3.alloc _).below hb5 (Nat.le_refl _)
      go_wp2_with fail
      refine (H6.out _).mono ?_
      rintro e w6 ⟨rfl, hb6⟩
      have S6 := S5.below hb6 (Nat.le_refl _)
      go_wp2_with fail
      refine (H7.out _ S6).mono ?_
      rintro e w7 ⟨rfl, hb7⟩
      go_wp2_with fail
      refine (H8.out _).mono ?_
      rintro e w8 ⟨rfl, hb8⟩
      go_wp2_with fail
      go_ret
      have z1 := hb1.size
      have z2 := hb2.size
      have z3 := hb3.size
      have z5 := hb5.size
      have z6 := hb6.size
      have z7 := hb7.size
      simp only [World.size_alloc] at z5
      refine ⟨rfl, ?_⟩
      refine Below.trans ?_ (hb8.mono (by omega))
      refine Below.trans ?_ (hb7.mono (by omega))
      refine Below.trans ?_ (hb6.mono (by omega))
      refine Below.trans ?_ (hb5.mono (by simp only [World.size_alloc]; omega))
      refine Below.alloc ?_ (by omega) _
      exact (hb1.trans (hb2.mono (by omega))).trans (hb3.mono (by omega))
  · go_enter Tryd.func3, Tryd.ntmps3
    go_wp2_with fail
    refine H0.out.mono ?_
    rintro e w1 ⟨rfl, hb1⟩
    go_wp2_with fail
    go_ret
    exact ⟨rfl, hb1⟩
end Go.Proofs.YtcijaehnlemidaaDoor
