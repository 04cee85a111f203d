/- SumsPart: the walk. -/
import Derived.Test.YtcijaehnlemidaaDoorSumsAwake
namespace Go.Proofs.YtcijaehnlemidaaDoor
open Go.RowKit

set_option maxRecDepth 1000000 in
set_option maxHeartbeats 1000000 in
theorem sumsPart_walk (a b c : ByteArray) (ha : a.size ≤ maxLen) (hb : b.size ≤ maxLen) (hc : c.size ≤ maxLen) (w : World) (S : Steps w) :
    Calls Tryd.prog 4 #[.string a, .string b, .string c] w fun e w' => e = .returned (.bool true) ∧ Below w.heap.size w w' := by
  unfold maxLen at ha hb hc
  have H0 := Lib.hid (awake_any w S)
  by_cases h1 : a.size ≤ 300
  · by_cases h2 : b.size ≤ 300
    · by_cases h3 : c.size ≤ 300
      · have H1 := Lib.hid (sum3 a b c (by unfold maxLen; omega) (by unfold maxLen; omega) (by unfold maxLen; omega))
        have hab : (a ++ b).size ≤ 600 := by rw [ByteArray.size_append]; omega
        have hbc : (b ++ c).size ≤ 600 := by rw [ByteArray.size_append]; omega
        have habc : (a ++ b ++ c).size ≤ 900 := by rw [ByteArray.size_append, ByteArray.size_append]; omega
        have H2 := Lib.hid (sum1 (a ++ b ++ c) (by unfold maxLen; omega))
        have H3 := Lib.hid (sum2 (a ++ b) c (by unfold maxLen; omega) (by unfold maxLen; omega))
        have H4 := Lib.hid (sum2 a (b ++ c) (by unfold maxLen; omega) (by unfold maxLen; omega))
        simp only [ByteArray.data_append, Array.toList_append, ← List.append_assoc] at H1 H2 H3 H4
        generalize Gw.Sums.sum (a.data.toList ++ b.data.toList ++ c.data.toList) = m at *
        go_enter Tryd.func4, Tryd.ntmps4
        go_wp2_with fail
        refine H0.out.mono ?_
        rintro e w1 ⟨rfl, hb1⟩
        have S1 := S.below hb1 (Nat.le_refl _)
        go_wp2_with fail
        refine (H1.out _ _ _ (S1.alloc _) (new_cell (by simp) rfl) (new_cell (by simp) rfl) (new_cell (by simp) rfl)).mono ?_
        rintro e w2 ⟨rfl, rfl⟩
        go_wp2_with fail
        refine (H2.out _ _ _ ((S1.alloc _).alloc _) (new_cell (by simp) rfl)).mono ?_
        rintro e w2 ⟨rfl, rfl⟩
        go_wp2_with fail
        refine (H3.out _ _ _ (((S1.alloc _).alloc _).alloc _) (new_cell (by simp) rfl) (new_cell (by simp) rfl)).mono ?_
        rintro e w2 ⟨rfl, rfl⟩
        go_wp2_with fail
        refine (H4.out _ _ _ ((((S1.alloc _).alloc _).alloc _).alloc _) (new_cell (by simp) rfl) (new_cell (by simp) rfl)).mono ?_
        rintro e w2 ⟨rfl, rfl⟩
        go_wp2_with fail
        go_ret
        have z1 := hb1.size
        refine ⟨rfl, ?_⟩
        refine Below.alloc ?_ (by simp only [World.size_alloc]; omega) _
        refine Below.alloc ?_ (by simp only [World.size_alloc]; omega) _
        refine Below.alloc ?_ (by simp only [World.size_alloc]; omega) _
        exact Below.alloc hb1 (by omega) _
      · go_enter Tryd.func4, Tryd.ntmps4
        go_wp2_with fail
        refine H0.out.mono ?_
        rintro e w1 ⟨rfl, hb1⟩
        go_wp2_with fail
        go_ret
        exact ⟨rfl, hb1⟩
    · go_enter Tryd.func4, Tryd.ntmps4
      go_wp2_with fail
      refine H0.out.mono ?_
      rintro e w1 ⟨rfl, hb1⟩
      go_wp2_with fail
      go_ret
      exact ⟨rfl, hb1⟩
  · go_enter Tryd.func4, Tryd.ntmps4
    go_wp2_with fail
    refine H0.out.mono ?_
    rintro e w1 ⟨rfl, hb1⟩
    go_wp2_with fail
    go_ret
    exact ⟨rfl, hb1⟩
end Go.Proofs.YtcijaehnlemidaaDoor
