/- The walks of the statements of the package vlq that do not ask the reference: VlqSizes, VlqCuts, VlqOwn, VlqJoins, VlqBack. -/
import Derived.Test.YtfcmknoipceciaaVlqAwake
import Derived.Test.YtfcmknoipceciaaLawKit
import Derived.Lib.MinMax
namespace Go.Proofs.Ytfcmknoipceciaa
open Go.RowKit

set_option maxRecDepth 1000000 in
set_option maxHeartbeats 1000000 in
theorem vlqSizes_walk (a b : Int) (ha : -9223372036854775808 ≤ a ∧ a ≤ 9223372036854775807) (hb : -9223372036854775808 ≤ b ∧ b ≤ 9223372036854775807) (w : World) :
    Calls Try.prog 7 #[.int .i64 a, .int .i64 b] w fun e w' => e = .returned (.bool true) ∧ Below w.heap.size w w' := by
  have H0 := Lib.hid (awake_any w)
  by_cases ha0 : 0 ≤ a
  · by_cases hb0 : 0 ≤ b
    · obtain ⟨x, rfl⟩ := Int.eq_ofNat_of_zero_le ha0
      obtain ⟨y, rfl⟩ := Int.eq_ofNat_of_zero_le hb0
      have hx : x < 9223372036854775808 := by omega
      have hy : y < 9223372036854775808 := by omega
      have H1 := Lib.hid (vsize_any x hx)
      have H2 := Lib.hid (vsize_any y hy)
      have hsx := Gw.Vlq.size_le9 x hx
      have hsy := Gw.Vlq.size_le9 y hy
      have hpx := Gw.Vlq.size_pos x
      have hpy := Gw.Vlq.size_pos y
      have h128 : x < 72057594037927936 → ∀ w, Calls Try.prog 18 #[.int .i64 (128 * (x : Int))] w fun e w' => e = .returned (.int .i64 (Gw.Vlq.size (128 * x))) ∧ w = w' := fun h w => by
        have := vsize_any (128 * x) (by omega) w
        rwa [show ((128 * x : Nat) : Int) = 128 * (x : Int) from by omega] at this
      have ht := Gw.Vlq.size_times x
      have H3 := Lib.hid h128
      have HT := Lib.hid ht
      clear h128 ht
      have hxy : (x ≤ y ∧ Gw.Vlq.size x ≤ Gw.Vlq.size y) ∨ (y ≤ x ∧ Gw.Vlq.size y ≤ Gw.Vlq.size x) := by
        rcases Nat.le_total x y with h | h
        · exact .inl ⟨h, Gw.Vlq.size_mono _ _ h⟩
        · exact .inr ⟨h, Gw.Vlq.size_mono _ _ h⟩
      generalize Gw.Vlq.size x = p at *
      generalize Gw.Vlq.size y = q at *
      rcases hxy with ⟨hxy, hpq⟩ | ⟨hxy, hpq⟩
      · have hmin : min (x : Int) (y : Int) = (x : Int) := by omega
        have hmax : max (x : Int) (y : Int) = (y : Int) := by omega
        by_cases hx0 : x = 0
        · have hz : ((x : Int) == 0) = true := by rw [hx0]; rfl
          clear hx0
          go_enter Try.func7, Try.ntmps7
          go_wp2_with fail
          refine (H0.out).mono ?_
          rintro e w1 ⟨rfl, hb1⟩
          have ac1 := ((Below.refl _ _)).step hb1
          go_wp2_with fail
          refine (H1.out _).mono ?_
          rintro e w2 ⟨rfl, rfl⟩
          go_wp2_with fail
          refine (H2.out _).mono ?_
          rintro e w3 ⟨rfl, rfl⟩
          go_wp2_with fail
          refine (H1.out _).mono ?_
          rintro e w4 ⟨rfl, rfl⟩
          go_wp2_with fail
          refine (H2.out _).mono ?_
          rintro e w5 ⟨rfl, rfl⟩
          go_wp2_with fail
          go_ret
          exact ⟨rfl, ac1⟩
        · have hz : ((x : Int) == 0) = false := by rw [beq_eq_false_iff_ne]; omega
          by_cases h56 : x < 72057594037927936
          · have hd56 : decide ((72057594037927936 : Int) ≤ (x : Int)) = false := decide_eq_false (by omega)
            have HTT := Lib.hid (HT.out hx0 h56)
            have H33 := Lib.hid (H3.out h56)
            rw [HTT.out] at H33
            clear hx0
            go_enter Try.func7, Try.ntmps7
            go_wp2_with fail
            refine (H0.out).mono ?_
            rintro e w1 ⟨rfl, hb1⟩
            have ac1 := ((Below.refl _ _)).step hb1
            go_wp2_with fail
            refine (H33.out _).mono ?_
            rintro e w2 ⟨rfl, rfl⟩
            go_wp2_with fail
            refine (H1.out _).mono ?_
            rintro e w3 ⟨rfl, rfl⟩
            go_wp2_with fail
            refine (H1.out _).mono ?_
            rintro e w4 ⟨rfl, rfl⟩
            go_wp2_with fail
            refine (H2.out _).mono ?_
            rintro e w5 ⟨rfl, rfl⟩
            go_wp2_with fail
            refine (H1.out _).mono ?_
            rintro e w6 ⟨rfl, rfl⟩
            go_wp2_with fail
            refine (H2.out _).mono ?_
            rintro e w7 ⟨rfl, rfl⟩
            go_wp2_with fail
            go_ret
            exact ⟨rfl, ac1⟩
          · have hd56 : decide ((72057594037927936 : Int) ≤ (x : Int)) = true := decide_eq_true (by omega)
            clear hx0 h56
            go_enter Try.func7, Try.ntmps7
            go_wp2_with fail
            refine (H0.out).mono ?_
            rintro e w1 ⟨rfl, hb1⟩
            have ac1 := ((Below.refl _ _)).step hb1
            go_wp2_with fail
            refine (H1.out _).mono ?_
            rintro e w2 ⟨rfl, rfl⟩
            go_wp2_with fail
            refine (H2.out _).mono ?_
            rintro e w3 ⟨rfl, rfl⟩
            go_wp2_with fail
            refine (H1.out _).mono ?_
            rintro e w4 ⟨rfl, rfl⟩
            go_wp2_with fail
            refine (H2.out _).mono ?_
            rintro e w5 ⟨rfl, rfl⟩
            go_wp2_with fail
            go_ret
            exact ⟨rfl, ac1⟩
      · have hmin : min (x : Int) (y : Int) = (y : Int) := by omega
        have hmax : max (x : Int) (y : Int) = (x : Int) := by omega
        by_cases hx0 : x = 0
        · have hz : ((x : Int) == 0) = true := by rw [hx0]; rfl
          clear hx0
          go_enter Try.func7, Try.ntmps7
          go_wp2_with fail
          refine (H0.out).mono ?_
          rintro e w1 ⟨rfl, hb1⟩
          have ac1 := ((Below.refl _ _)).step hb1
          go_wp2_with fail
          refine (H2.out _).mono ?_
          rintro e w2 ⟨rfl, rfl⟩
          go_wp2_with fail
          refine (H1.out _).mono ?_
          rintro e w3 ⟨rfl, rfl⟩
          go_wp2_with fail
          refine (H2.out _).mono ?_
          rintro e w4 ⟨rfl, rfl⟩
          go_wp2_with fail
          refine (H1.out _).mono ?_
          rintro e w5 ⟨rfl, rfl⟩
          go_wp2_with fail
          go_ret
          exact ⟨rfl, ac1⟩
        · have hz : ((x : Int) == 0) = false := by rw [beq_eq_false_iff_ne]; omega
          by_cases h56 : x < 72057594037927936
          · have hd56 : decide ((72057594037927936 : Int) ≤ (x : Int)) = false := decide_eq_false (by omega)
            have HTT := Lib.hid (HT.out hx0 h56)
            have H33 := Lib.hid (H3.out h56)
            rw [HTT.out] at H33
            clear hx0
            go_enter Try.func7, Try.ntmps7
            go_wp2_with fail
            refine (H0.out).mono ?_
            rintro e w1 ⟨rfl, hb1⟩
            have ac1 := ((Below.refl _ _)).step hb1
            go_wp2_with fail
            refine (H33.out _).mono ?_
            rintro e w2 ⟨rfl, rfl⟩
            go_wp2_with fail
            refine (H1.out _).mono ?_
            rintro e w3 ⟨rfl, rfl⟩
            go_wp2_with fail
            refine (H2.out _).mono ?_
            rintro e w4 ⟨rfl, rfl⟩
            go_wp2_with fail
            refine (H1.out _).mono ?_
            rintro e w5 ⟨rfl, rfl⟩
            go_wp2_with fail
            refine (H2.out _).mono ?_
            rintro e w6 ⟨rfl, rfl⟩
            go_wp2_with fail
            refine (H1.out _).mono ?_
            rintro e w7 ⟨rfl, rfl⟩
            go_wp2_with fail
            go_ret
            exact ⟨rfl, ac1⟩
          · have hd56 : decide ((72057594037927936 : Int) ≤ (x : Int)) = true := decide_eq_true (by omega)
            clear hx0 h56
            go_enter Try.func7, Try.ntmps7
            go_wp2_with fail
            refine (H0.out).mono ?_
            rintro e w1 ⟨rfl, hb1⟩
            have ac1 := ((Below.refl _ _)).step hb1
            go_wp2_with fail
            refine (H2.out _).mono ?_
            rintro e w2 ⟨rfl, rfl⟩
            go_wp2_with fail
            refine (H1.out _).mono ?_
            rintro e w3 ⟨rfl, rfl⟩
            go_wp2_with fail
            refine (H2.out _).mono ?_
            rintro e w4 ⟨rfl, rfl⟩
            go_wp2_with fail
            refine (H1.out _).mono ?_
            rintro e w5 ⟨rfl, rfl⟩
            go_wp2_with fail
            go_ret
            exact ⟨rfl, ac1⟩
    · have hbn : b < 0 := by omega
      go_enter Try.func7, Try.ntmps7
      go_wp2_with fail
      refine (H0.out).mono ?_
      rintro e w1 ⟨rfl, hb1⟩
      have ac1 := ((Below.refl _ _)).step hb1
      go_wp2_with fail
      go_ret
      exact ⟨rfl, ac1⟩
  · have han : a < 0 := by omega
    have H1 := Lib.hid (vsize_neg a han)
    go_enter Try.func7, Try.ntmps7
    go_wp2_with fail
    refine (H0.out).mono ?_
    rintro e w1 ⟨rfl, hb1⟩
    have ac1 := ((Below.refl _ _)).step hb1
    go_wp2_with fail
    refine (H1.out _).mono ?_
    rintro e w2 ⟨rfl, rfl⟩
    go_wp2_with fail
    go_ret
    exact ⟨rfl, ac1⟩

/-- Nothing, and a number: what Put makes of them. -/
theorem put_one (x : Nat) : putRes ⟨#[]⟩ [(x : Int)] = .tuple #[.string ⟨(Gw.Vlq.one x).toArray⟩, .int .i64 0] := by
  unfold putRes
  rw [if_pos (by simp)]
  simp [putL, Gw.Vlq.many]
theorem text_none (t : ByteArray) : (textOfL ⟨#[]⟩ t).data.toList = Gw.Vlq.one t.size ++ t.data.toList := by
  simp [textOfL, Gw.Vlq.text]

set_option maxRecDepth 1000000 in
set_option maxHeartbeats 1000000 in
theorem vlqCuts_walk (n : Int) (hn : -9223372036854775808 ≤ n ∧ n ≤ 9223372036854775807) (t : ByteArray) (hm : t.size ≤ maxLen) (cut : Nat) (hcut : cut < 65536) (w : World) :
    Calls Try.prog 6 #[.int .i64 n, .string t, .int .u16 (cut : Int)] w fun e w' => e = .returned (.bool true) ∧ Below w.heap.size w w' := by
  unfold maxLen at hm
  have H0 := Lib.hid (awake_any w)
  by_cases ht : t.size ≤ 1000
  · have hd1 : decide ((1000 : Int) < (t.size : Int)) = false := decide_eq_false (by omega)
    by_cases hn0 : 0 ≤ n
    · obtain ⟨x, rfl⟩ := Int.eq_ofNat_of_zero_le hn0
      have hx : x < 9223372036854775808 := by omega
      have hd2 : decide ((x : Int) < 0) = false := decide_eq_false (by omega)
      have H1 := Lib.hid (put_any ⟨#[]⟩ [(x : Int)] (by intro z hz; rw [List.mem_singleton] at hz; omega) (by simp [ByteArray.size]))
      rw [put_one x] at H1
      have H2 := Lib.hid (text_any ⟨#[]⟩ t (by have : (⟨#[]⟩ : ByteArray).size = 0 := rfl; omega))
      have hol := Gw.Vlq.one_length x (by omega)
      have hs1 := Gw.Vlq.size_pos x
      have hs9 := Gw.Vlq.size_le9 x hx
      have hol2 := Gw.Vlq.one_length t.size (by omega)
      have ht1 := Gw.Vlq.size_pos t.size
      have ht9 := Gw.Vlq.size_le9 t.size (by omega)
      have htx := text_none t
      have hcut1 := fun j => Gw.Vlq.take_cut x j
      have hcut2 := fun j => Gw.Vlq.take_cut t.size j
      obtain ⟨B, hB⟩ : ∃ B : ByteArray, ⟨(Gw.Vlq.one x).toArray⟩ = B := ⟨_, rfl⟩
      have hBl : B.data.toList = Gw.Vlq.one x := by rw [← hB]
      have hBs : B.size = Gw.Vlq.size x := by rw [← hol, ← hBl]; rfl
      obtain ⟨C, hC⟩ : ∃ C : ByteArray, textOfL ⟨#[]⟩ t = C := ⟨_, rfl⟩
      rw [hC] at H2 htx
      rw [hB] at H1
      have hCs : C.size = Gw.Vlq.size t.size + t.size := by
        have : C.data.toList.length = C.size := rfl
        rw [← this, htx, List.length_append, hol2]
        rfl
      have hj1 : cut % B.size < B.size := Nat.mod_lt _ (by omega)
      have hj2 : cut % C.size < C.size := Nat.mod_lt _ (by omega)
      have T1 : takeRes (B.extract 0 (cut % B.size)) = .tuple #[.int .i64 0, .string ⟨#[]⟩, .int .i64 40] := by
        apply takeRes_none
        rw [Lib.extract_data, hBl, List.drop_zero, Nat.sub_zero]
        exact hcut1 _ (by omega)
      have T2 : takeTextRes (C.extract 0 (cut % C.size)) = .tuple #[.string ⟨#[]⟩, .string ⟨#[]⟩, .int .i64 40] := by
        have hn : takeText (C.extract 0 (cut % C.size)).data.toList = none := by
          rw [Lib.extract_data, htx, List.drop_zero, Nat.sub_zero]
          unfold takeText
          by_cases hc : cut % C.size < (Gw.Vlq.one t.size).length
          · rw [List.take_append_of_le_length (by omega), hcut2 _ hc]
          · rw [List.take_append, List.take_of_length_le (by omega), Gw.Vlq.take_one _ (by omega)]
            simp only
            rw [if_neg]
            rw [List.length_append, List.length_take]
            have : t.data.toList.length = t.size := rfl
            omega
        unfold takeTextRes
        rw [hn]
      have H3 := Lib.hid (take_any (B.extract 0 (cut % B.size)) (by rw [ByteArray.size_extract]; omega))
      rw [T1] at H3
      have H4 := Lib.hid (takeText_any (C.extract 0 (cut % C.size)) (by rw [ByteArray.size_extract]; omega))
      rw [T2] at H4
      have hj3 : ((cut : Int) % (B.size : Int)) = ((cut % B.size : Nat) : Int) := rfl
      have hj4 : ((cut : Int) % (C.size : Int)) = ((cut % C.size : Nat) : Int) := rfl
      have hBp : 0 < B.size := by omega
      have hCp : 0 < C.size := by omega
      have hB1 : B.toList.isEmpty = false := by
        rw [Lib.toList_data]
        cases h : B.data.toList with
        | nil => have : B.data.toList.length = B.size := rfl; rw [h] at this; simp at this; omega
        | cons c l => rfl
      have hC1 : C.toList.isEmpty = false := by
        rw [Lib.toList_data]
        cases h : C.data.toList with
        | nil => have : C.data.toList.length = C.size := rfl; rw [h] at this; simp at this; omega
        | cons c l => rfl
      generalize cut % B.size = j1 at *
      generalize cut % C.size = j2 at *
      have HJ := Lib.hid (And.intro hj3 hj4)
      have hBm : B.size ≤ 9 := by omega
      have hCm : C.size ≤ 1009 := by omega
      clear T1 T2 hcut1 hcut2 hol hol2 htx hC hB hBl hBs hCs
      go_enter Try.func6, Try.ntmps6
      go_wp2_with fail
      refine (H0.out).mono ?_
      rintro e w1 ⟨rfl, hb1⟩
      have ac1 := ((Below.refl _ _)).step hb1
      go_wp2_with fail
      refine (H1.out _ _ (intsAt_new (w := w1) [(x : Int)] 3 rfl)).mono ?_
      rintro e w2 ⟨rfl, hb2⟩
      have ac2 := (ac1.new _).step hb2
      go_wp2_with fail
      refine (H2.out _).mono ?_
      rintro e w3 ⟨rfl, hb3⟩
      have ac3 := (ac2).step hb3
      go_wp2_with fail
      refine (H3.out _).mono ?_
      rintro e w4 ⟨rfl, hb4⟩
      have ac4 := (ac3).step hb4
      go_wp2_with fail
      refine (H4.out _).mono ?_
      rintro e w5 ⟨rfl, hb5⟩
      have ac5 := (ac4).step hb5
      go_wp2_with fail
      go_ret
      exact ⟨rfl, ac5⟩
    · have hd2 : decide (n < 0) = true := decide_eq_true (by omega)
      go_enter Try.func6, Try.ntmps6
      go_wp2_with fail
      refine (H0.out).mono ?_
      rintro e w1 ⟨rfl, hb1⟩
      have ac1 := ((Below.refl _ _)).step hb1
      go_wp2_with fail
      go_ret
      exact ⟨rfl, ac1⟩
  · have hd1 : decide ((1000 : Int) < (t.size : Int)) = true := decide_eq_true (by omega)
    go_enter Try.func6, Try.ntmps6
    go_wp2_with fail
    refine (H0.out).mono ?_
    rintro e w1 ⟨rfl, hb1⟩
    have ac1 := ((Below.refl _ _)).step hb1
    go_wp2_with fail
    go_ret
    exact ⟨rfl, ac1⟩

theorem own_number (s : ByteArray) (m u : Nat) (h : Gw.Vlq.take s.data.toList = some (m, u)) : ((⟨(Gw.Vlq.one m).toArray⟩ ++ s.extract u s.size : ByteArray).toList == s.toList) = true := by
  rw [ba_eq, ByteArray.data_append, Array.toList_append, Lib.extract_data]
  have hl : s.data.toList.length = s.size := rfl
  rw [List.take_of_length_le (l := List.drop u _) (by rw [List.length_drop, hl]; omega)]
  show (Gw.Vlq.one m) ++ _ = _
  rw [Gw.Vlq.take_own _ _ _ h, List.take_append_drop]
theorem own_text (s : ByteArray) (m u : Nat) (h : Gw.Vlq.take s.data.toList = some (m, u)) (hf : m + u ≤ s.size) : ((textOfL ⟨#[]⟩ (s.extract u (u + m)) ++ s.extract (u + m) s.size : ByteArray).toList == s.toList) = true := by
  rw [ba_eq, ByteArray.data_append, Array.toList_append, text_none, Lib.extract_data, Lib.extract_data, ByteArray.size_extract]
  have hl : s.data.toList.length = s.size := rfl
  rw [show min (u + m) s.size - u = m from by omega, show u + m - u = m from by omega, Gw.Vlq.take_own _ _ _ h]
  rw [List.take_of_length_le (l := List.drop (u + m) _) (by rw [List.length_drop, hl]; omega)]
  rw [List.append_assoc, ← List.drop_drop, List.take_append_drop, List.take_append_drop]

set_option maxRecDepth 1000000 in
set_option maxHeartbeats 1000000 in
theorem vlqOwn_walk (s : ByteArray) (hm : s.size ≤ maxLen) (w : World) :
    Calls Try.prog 5 #[.string s] w fun e w' => e = .returned (.bool true) ∧ Below w.heap.size w w' := by
  unfold maxLen at hm
  have H0 := Lib.hid (awake_any w)
  by_cases hs : s.size ≤ 1000
  · have H1 := Lib.hid (take_any s (by omega))
    have H3 := Lib.hid (takeText_any s (by omega))
    cases ht : Gw.Vlq.take s.data.toList with
    | none =>
      rw [takeRes_none ht] at H1
      have hr : takeTextRes s = .tuple #[.string ⟨#[]⟩, .string ⟨#[]⟩, .int .i64 40] := by
        unfold takeTextRes takeText
        rw [ht]
      rw [hr] at H3
      have H2 := Lib.hid (put_any ⟨#[]⟩ [((0 : Nat) : Int)] (by intro z hz; rw [List.mem_singleton] at hz; omega) (by simp [ByteArray.size]))
      rw [put_one 0] at H2
      generalize (⟨(Gw.Vlq.one 0).toArray⟩ : ByteArray) = B at *
      clear ht hr
      go_enter Try.func5, Try.ntmps5
      go_wp2_with fail
      refine (H0.out).mono ?_
      rintro e w1 ⟨rfl, hb1⟩
      have ac1 := ((Below.refl _ _)).step hb1
      go_wp2_with fail
      refine (H1.out _).mono ?_
      rintro e w2 ⟨rfl, hb2⟩
      have ac2 := (ac1).step hb2
      go_wp2_with fail
      refine (H2.out _ _ (intsAt_new (w := w2) [0] 3 rfl)).mono ?_
      rintro e w3 ⟨rfl, hb3⟩
      have ac3 := (ac2.new _).step hb3
      go_wp2_with fail
      refine (H3.out _).mono ?_
      rintro e w4 ⟨rfl, hb4⟩
      have ac4 := (ac3).step hb4
      go_wp2_with fail
      go_ret
      exact ⟨rfl, ac4⟩
    | some p =>
      obtain ⟨m, u⟩ := p
      have hbd := Gw.Vlq.takeF_some _ _ _ _ _ (by omega) ht
      have hl : s.data.toList.length = s.size := rfl
      rw [hl] at hbd
      have hol := Gw.Vlq.one_length m (by omega)
      have hs9 := Gw.Vlq.size_le9 m hbd.2.2
      have hown := own_number s m u ht
      rw [takeRes_some ht] at H1
      have H2 := Lib.hid (put_any ⟨#[]⟩ [(m : Int)] (by intro z hz; rw [List.mem_singleton] at hz; omega) (by simp [ByteArray.size]))
      rw [put_one m] at H2
      have hBs : (⟨(Gw.Vlq.one m).toArray⟩ : ByteArray).size ≤ 9 := by
        show (Gw.Vlq.one m).toArray.size ≤ 9
        rw [List.size_toArray]
        omega
      have hRs : (s.extract u s.size).size ≤ 1000 := by rw [ByteArray.size_extract]; omega
      by_cases hfit : m + u ≤ s.size
      · have hr : takeTextRes s = .tuple #[.string (s.extract u (u + m)), .string (s.extract (u + m) s.size), .int .i64 0] := by
          unfold takeTextRes takeText
          rw [ht]
          simp only
          rw [hl, if_pos hfit]
        rw [hr] at H3
        have hX : (s.extract u (u + m)).size ≤ 1000 := by rw [ByteArray.size_extract]; omega
        have H4 := Lib.hid (text_any ⟨#[]⟩ (s.extract u (u + m)) (by have : (⟨#[]⟩ : ByteArray).size = 0 := rfl; omega))
        have hownt := own_text s m u ht hfit
        have hTs : (textOfL ⟨#[]⟩ (s.extract u (u + m))).size ≤ 2000 := by
          have h1 := text_none (s.extract u (u + m))
          have h2 : (textOfL ⟨#[]⟩ (s.extract u (u + m))).data.toList.length = (textOfL ⟨#[]⟩ (s.extract u (u + m))).size := rfl
          rw [← h2, h1, List.length_append, Gw.Vlq.one_length _ (by omega)]
          have h3 := Gw.Vlq.size_le9 (s.extract u (u + m)).size (by omega)
          have h4 : (s.extract u (u + m)).data.toList.length = (s.extract u (u + m)).size := rfl
          omega
        have hMs : (s.extract (u + m) s.size).size ≤ 1000 := by rw [ByteArray.size_extract]; omega
        generalize (⟨(Gw.Vlq.one m).toArray⟩ : ByteArray) = B at *
        generalize textOfL ⟨#[]⟩ (s.extract u (u + m)) = T at *
        generalize s.extract u (u + m) = X at *
        generalize s.extract u s.size = R at *
        generalize s.extract (u + m) s.size = M at *
        clear ht hr hol hl hbd hfit
        go_enter Try.func5, Try.ntmps5
        go_wp2_with fail
        refine (H0.out).mono ?_
        rintro e w1 ⟨rfl, hb1⟩
        have ac1 := ((Below.refl _ _)).step hb1
        go_wp2_with fail
        refine (H1.out _).mono ?_
        rintro e w2 ⟨rfl, hb2⟩
        have ac2 := (ac1).step hb2
        go_wp2_with fail
        refine (H2.out _ _ (intsAt_new (w := w2) [(m : Int)] 3 rfl)).mono ?_
        rintro e w3 ⟨rfl, hb3⟩
        have ac3 := (ac2.new _).step hb3
        go_wp2_with fail
        refine (H3.out _).mono ?_
        rintro e w4 ⟨rfl, hb4⟩
        have ac4 := (ac3).step hb4
        go_wp2_with fail
        refine (H4.out _).mono ?_
        rintro e w5 ⟨rfl, hb5⟩
        have ac5 := (ac4).step hb5
        go_wp2_with fail
        go_ret
        exact ⟨rfl, ac5⟩
      · have hr : takeTextRes s = .tuple #[.string ⟨#[]⟩, .string ⟨#[]⟩, .int .i64 40] := by
          unfold takeTextRes takeText
          rw [ht]
          simp only
          rw [hl, if_neg hfit]
        rw [hr] at H3
        generalize (⟨(Gw.Vlq.one m).toArray⟩ : ByteArray) = B at *
        generalize s.extract u s.size = R at *
        clear ht hr hol hl hbd hfit
        go_enter Try.func5, Try.ntmps5
        go_wp2_with fail
        refine (H0.out).mono ?_
        rintro e w1 ⟨rfl, hb1⟩
        have ac1 := ((Below.refl _ _)).step hb1
        go_wp2_with fail
        refine (H1.out _).mono ?_
        rintro e w2 ⟨rfl, hb2⟩
        have ac2 := (ac1).step hb2
        go_wp2_with fail
        refine (H2.out _ _ (intsAt_new (w := w2) [(m : Int)] 3 rfl)).mono ?_
        rintro e w3 ⟨rfl, hb3⟩
        have ac3 := (ac2.new _).step hb3
        go_wp2_with fail
        refine (H3.out _).mono ?_
        rintro e w4 ⟨rfl, hb4⟩
        have ac4 := (ac3).step hb4
        go_wp2_with fail
        go_ret
        exact ⟨rfl, ac4⟩
  · go_enter Try.func5, Try.ntmps5
    go_wp2_with fail
    refine (H0.out).mono ?_
    rintro e w1 ⟨rfl, hb1⟩
    have ac1 := ((Below.refl _ _)).step hb1
    go_wp2_with fail
    go_ret
    exact ⟨rfl, ac1⟩
end Go.Proofs.Ytfcmknoipceciaa
