/- VlqTells: the walk. -/
import Derived.Test.YtfcmknoipceciaaVlqRefTake
namespace Go.Proofs.Ytfcmknoipceciaa
open Go.RowKit

/-- What Put, Take and TakeText answer, taken apart. -/
theorem putRes_form (s : ByteArray) (zs : List Int) : ∃ (x : ByteArray) (e : Int), putRes s zs = .tuple #[.string x, .int .i64 e] := by
  unfold putRes
  split
  · exact ⟨_, _, rfl⟩
  · exact ⟨_, _, rfl⟩
theorem takeRes_form (s : ByteArray) : ∃ (n : Int) (x : ByteArray) (e : Int), takeRes s = .tuple #[.int .i64 n, .string x, .int .i64 e] := by
  unfold takeRes
  split
  · exact ⟨_, _, _, rfl⟩
  · exact ⟨_, _, _, rfl⟩
theorem takeTextRes_form (s : ByteArray) : ∃ (x y : ByteArray) (e : Int), takeTextRes s = .tuple #[.string x, .string y, .int .i64 e] := by
  unfold takeTextRes
  split
  · exact ⟨_, _, _, rfl⟩
  · exact ⟨_, _, _, rfl⟩

set_option maxRecDepth 1000000 in
set_option maxHeartbeats 1600000 in
theorem vlqTells_walk (b : ByteArray) (zs : List Int) (hz : ∀ z ∈ zs, -9223372036854775808 ≤ z ∧ z ≤ 9223372036854775807) (ao : Option Addr) (cap : Nat) (t : ByteArray) (n : Int) (hn : -9223372036854775808 ≤ n ∧ n ≤ 9223372036854775807) (hb : b.size ≤ maxLen) (hl : zs.length ≤ maxLen) (ht : t.size ≤ maxLen) (w : World) (hv : IntsAt w (.slice ao zs.length cap) zs) :
    Calls Try.prog 3 #[.string b, .slice ao zs.length cap, .string t, .int .i64 n] w fun e w' => e = .returned (.bool true) ∧ Below w.heap.size w w' := by
  unfold maxLen at hb hl ht
  have H0 := Lib.hid (awake_any w)
  by_cases hb1 : b.size ≤ 1000
  · have hd1 : decide ((1000 : Int) < (b.size : Int)) = false := decide_eq_false (by omega)
    by_cases hl1 : zs.length ≤ 1000
    · have hd2 : decide ((1000 : Int) < (zs.length : Int)) = false := decide_eq_false (by omega)
      by_cases ht1 : t.size ≤ 1000
      · have hd3 : decide ((1000 : Int) < (t.size : Int)) = false := decide_eq_false (by omega)
        have HV := Lib.hid hv
        have H1 := Lib.hid (put_any b zs (fun z h => by have := hz z h; omega) (by omega))
        have H2 := Lib.hid (rput_any b zs (fun z h => by have := hz z h; omega) (by omega) ao cap)
        have H3 := Lib.hid (take_any b (by omega))
        have H4 := Lib.hid (rtake_any b)
        have H5 := Lib.hid (takeText_any b (by omega))
        have H6 := Lib.hid (rtakeText_any b)
        have H7 := Lib.hid (text_any b t (by omega))
        have H8 := Lib.hid (rtext_any b t (by omega))
        obtain ⟨x1, e1, h1⟩ := putRes_form b zs
        obtain ⟨n2, x2, e2, h2⟩ := takeRes_form b
        obtain ⟨x3, y3, e3, h3⟩ := takeTextRes_form b
        rw [h1] at H1 H2
        rw [h2] at H3 H4
        rw [h3] at H5 H6
        generalize textOfL b t = T at *
        clear h1 h2 h3 hv hz
        by_cases hn0 : 0 ≤ n
        · obtain ⟨m, rfl⟩ := Int.eq_ofNat_of_zero_le hn0
          have H9 := Lib.hid (vsize_any m (by omega))
          have H10 := Lib.hid (rsize_any m (by omega))
          generalize Gw.Vlq.size m = sz at *
          go_enter Try.func3, Try.ntmps3
          go_wp2_with fail
          refine (H0.out).mono ?_
          rintro e w1 ⟨rfl, hb1⟩
          have ac1 := ((Below.refl _ _)).step hb1
          go_wp2_with fail
          refine (H1.out _ _ (HV.out.below ac1 (Nat.le_refl _))).mono ?_
          rintro e w2 ⟨rfl, hb2⟩
          have ac2 := (ac1).step hb2
          go_wp2_with fail
          refine (H2.out _ (HV.out.below ac2 (Nat.le_refl _))).mono ?_
          rintro e w3 ⟨rfl, hb3⟩
          have ac3 := (ac2).step hb3
          go_wp2_with fail
          refine (H3.out _).mono ?_
          rintro e w4 ⟨rfl, hb4⟩
          have ac4 := (ac3).step hb4
          go_wp2_with fail
          refine (H4.out _).mono ?_
          rintro e w5 ⟨rfl, hb5⟩
          have ac5 := (ac4).step hb5
          go_wp2_with fail
          refine (H5.out _).mono ?_
          rintro e w6 ⟨rfl, hb6⟩
          have ac6 := (ac5).step hb6
          go_wp2_with fail
          refine (H6.out _).mono ?_
          rintro e w7 ⟨rfl, hb7⟩
          have ac7 := (ac6).step hb7
          go_wp2_with fail
          refine (H7.out _).mono ?_
          rintro e w8 ⟨rfl, hb8⟩
          have ac8 := (ac7).step hb8
          go_wp2_with fail
          refine (H8.out _).mono ?_
          rintro e w9 ⟨rfl, hb9⟩
          have ac9 := (ac8).step hb9
          go_wp2_with fail
          refine (H9.out _).mono ?_
          rintro e w10 ⟨rfl, rfl⟩
          go_wp2_with fail
          refine (H10.out _).mono ?_
          rintro e w11 ⟨rfl, hb11⟩
          have ac11 := (ac9).step hb11
          go_wp2_with fail
          go_ret
          exact ⟨rfl, ac11⟩
        · have H9 := Lib.hid (vsize_neg n (by omega))
          have H10 := Lib.hid (rsize_neg n (by omega))
          go_enter Try.func3, Try.ntmps3
          go_wp2_with fail
          refine (H0.out).mono ?_
          rintro e w1 ⟨rfl, hb1⟩
          have ac1 := ((Below.refl _ _)).step hb1
          go_wp2_with fail
          refine (H1.out _ _ (HV.out.below ac1 (Nat.le_refl _))).mono ?_
          rintro e w2 ⟨rfl, hb2⟩
          have ac2 := (ac1).step hb2
          go_wp2_with fail
          refine (H2.out _ (HV.out.below ac2 (Nat.le_refl _))).mono ?_
          rintro e w3 ⟨rfl, hb3⟩
          have ac3 := (ac2).step hb3
          go_wp2_with fail
          refine (H3.out _).mono ?_
          rintro e w4 ⟨rfl, hb4⟩
          have ac4 := (ac3).step hb4
          go_wp2_with fail
          refine (H4.out _).mono ?_
          rintro e w5 ⟨rfl, hb5⟩
          have ac5 := (ac4).step hb5
          go_wp2_with fail
          refine (H5.out _).mono ?_
          rintro e w6 ⟨rfl, hb6⟩
          have ac6 := (ac5).step hb6
          go_wp2_with fail
          refine (H6.out _).mono ?_
          rintro e w7 ⟨rfl, hb7⟩
          have ac7 := (ac6).step hb7
          go_wp2_with fail
          refine (H7.out _).mono ?_
          rintro e w8 ⟨rfl, hb8⟩
          have ac8 := (ac7).step hb8
          go_wp2_with fail
          refine (H8.out _).mono ?_
          rintro e w9 ⟨rfl, hb9⟩
          have ac9 := (ac8).step hb9
          go_wp2_with fail
          refine (H9.out _).mono ?_
          rintro e w10 ⟨rfl, rfl⟩
          go_wp2_with fail
          refine (H10.out _).mono ?_
          rintro e w11 ⟨rfl, rfl⟩
          go_wp2_with fail
          go_ret
          exact ⟨rfl, ac9⟩
      · have hd3 : decide ((1000 : Int) < (t.size : Int)) = true := decide_eq_true (by omega)
        clear hv hz
        go_enter Try.func3, Try.ntmps3
        go_wp2_with fail
        refine (H0.out).mono ?_
        rintro e w1 ⟨rfl, hb1⟩
        have ac1 := ((Below.refl _ _)).step hb1
        go_wp2_with fail
        go_ret
        exact ⟨rfl, ac1⟩
    · have hd2 : decide ((1000 : Int) < (zs.length : Int)) = true := decide_eq_true (by omega)
      clear hv hz
      go_enter Try.func3, Try.ntmps3
      go_wp2_with fail
      refine (H0.out).mono ?_
      rintro e w1 ⟨rfl, hb1⟩
      have ac1 := ((Below.refl _ _)).step hb1
      go_wp2_with fail
      go_ret
      exact ⟨rfl, ac1⟩
  · have hd1 : decide ((1000 : Int) < (b.size : Int)) = true := decide_eq_true (by omega)
    clear hv hz
    go_enter Try.func3, Try.ntmps3
    go_wp2_with fail
    refine (H0.out).mono ?_
    rintro e w1 ⟨rfl, hb1⟩
    have ac1 := ((Below.refl _ _)).step hb1
    go_wp2_with fail
    go_ret
    exact ⟨rfl, ac1⟩
end Go.Proofs.Ytfcmknoipceciaa
