/- VlqJoins: the walk. -/
import Derived.Test.YtfcmknoipceciaaVlqInts
import Derived.Test.YtfcmknoipceciaaVlqLaws
namespace Go.Proofs.Ytfcmknoipceciaa
open Go.RowKit

theorem many_length (zs : List Int) (hz : ∀ z ∈ zs, 0 ≤ z ∧ z < 9223372036854775808) : (Gw.Vlq.many (zs.map Int.toNat)).length = (zs.map fun z => Gw.Vlq.size z.toNat).sum := by
  induction zs with
  | nil => rfl
  | cons z zs ih =>
    have hz0 := hz z (by simp)
    rw [List.map_cons, List.map_cons, List.sum_cons, ← ih (fun y hy => hz y (by simp [hy]))]
    rw [show ∀ l, Gw.Vlq.many (z.toNat :: l) = Gw.Vlq.one z.toNat ++ Gw.Vlq.many l from fun _ => rfl, List.length_append, Gw.Vlq.one_length _ (by omega)]
theorem put_good (s : ByteArray) (zs : List Int) (h : ∀ z ∈ zs, 0 ≤ z) : putRes s zs = .tuple #[.string ⟨(putL s zs).toArray⟩, .int .i64 0] := by
  unfold putRes
  rw [if_pos (all_nonneg zs h)]
theorem put_wrong (s : ByteArray) (zs : List Int) (h : ¬ ∀ z ∈ zs, 0 ≤ z) : putRes s zs = .tuple #[.string ⟨#[]⟩, .int .i64 40] := by
  unfold putRes
  rw [if_neg]
  intro h1
  rw [List.all_eq_true] at h1
  exact h (fun z hz => of_decide_eq_true (h1 z hz))
theorem sums_take (zs : List Int) (k : Nat) (h : k < zs.length) : ((zs.take (k + 1)).map fun z => Gw.Vlq.size z.toNat).sum = ((zs.take k).map fun z => Gw.Vlq.size z.toNat).sum + Gw.Vlq.size (zs.getD k 0).toNat := by
  rw [List.take_succ_eq_append_getElem h, List.map_append, List.sum_append, List.getD_eq_getElem?_getD, List.getElem?_eq_getElem h]
  simp

set_option maxRecDepth 1000000 in
set_option maxHeartbeats 1000000 in
theorem vlqJoins_walk (xs ys : List Int) (hza : ∀ z ∈ xs, -9223372036854775808 ≤ z ∧ z ≤ 9223372036854775807) (hzb : ∀ z ∈ ys, -9223372036854775808 ≤ z ∧ z ≤ 9223372036854775807) (ao bo : Option Addr) (ca cb : Nat) (hla : xs.length ≤ maxLen) (hlb : ys.length ≤ maxLen) (w : World) (hva : IntsAt w (.slice ao xs.length ca) xs) (hvb : IntsAt w (.slice bo ys.length cb) ys) :
    Calls Try.prog 8 #[.slice ao xs.length ca, .slice bo ys.length cb] w fun e w' => e = .returned (.bool true) ∧ Below w.heap.size w w' := by
  unfold maxLen at hla hlb
  have H0 := Lib.hid (awake_any w)
  by_cases hl1 : xs.length ≤ 100
  · by_cases hl2 : ys.length ≤ 100
    · have hd1 : decide ((100 : Int) < (xs.length : Int)) = false := decide_eq_false (by omega)
      have hd2 : decide ((100 : Int) < (ys.length : Int)) = false := decide_eq_false (by omega)
      have HVA := Lib.hid hva
      have HVB := Lib.hid hvb
      have HZA := Lib.hid hza
      have HZB := Lib.hid hzb
      clear hva hvb hza hzb
      obtain ⟨i0, hi, hz0, hz1, hz2⟩ := info_parts infoInt
      have HI := Lib.hid (And.intro hi (And.intro hz0 (And.intro hz1 hz2)))
      clear hi hz0 hz1 hz2
      have H1 := Lib.hid (put_any ⟨#[]⟩ xs (fun z h => by have := HZA.out z h; omega) (by simp [ByteArray.size]; omega))
      have H3 := Lib.hid (put_any ⟨#[]⟩ (xs ++ ys) (fun z h => by rcases List.mem_append.1 h with h | h; have := HZA.out z h; omega; have := HZB.out z h; omega) (by simp [ByteArray.size]; omega))
      have HM : Hid ((xs ++ ys).map (Value.int .i64) = xs.map (Value.int .i64) ++ ys.map (Value.int .i64)) := Lib.hid List.map_append
      have b63 : 0 + xs.length ≤ maxLen ∧ (0 + xs.length) * 8 ≤ 140737488355328 ∧ 0 + xs.length + ys.length ≤ maxLen ∧ (0 + xs.length + ys.length) * 8 ≤ 140737488355328 := by unfold maxLen; omega
      have HB63 := Lib.hid b63
      clear b63
      by_cases hA : ∀ z ∈ xs, 0 ≤ z
      · have hAL := many_length xs (fun z h => ⟨hA z h, by have := HZA.out z h; omega⟩)
        have hAl := putL_length ⟨#[]⟩ xs (fun z h => ⟨hA z h, by have := HZA.out z h; omega⟩)
        rw [put_good _ _ hA] at H1
        obtain ⟨P, hP⟩ : ∃ P : ByteArray, ⟨(putL ⟨#[]⟩ xs).toArray⟩ = P := ⟨_, rfl⟩
        have hPd : P.data.toList = Gw.Vlq.many (xs.map Int.toNat) := by rw [← hP, ← putL_nil]
        have hPn : P.size = (xs.map fun z => Gw.Vlq.size z.toNat).sum := by rw [← hAL, ← hPd]; rfl
        have hPs : P.size ≤ 900 := by
          have h1 : P.data.toList.length = P.size := rfl
          rw [← h1, hPd, ← putL_nil]
          have : (⟨#[]⟩ : ByteArray).size = 0 := rfl
          omega
        rw [hP] at H1
        have H2 := Lib.hid (put_any P ys (fun z h => by have := HZB.out z h; omega) (by omega))
        by_cases hB : ∀ z ∈ ys, 0 ≤ z
        · have hAB : ∀ z ∈ xs ++ ys, 0 ≤ z := fun z h => by rcases List.mem_append.1 h with h | h; exact hA z h; exact hB z h
          rw [put_good _ _ hB] at H2
          rw [put_good _ _ hAB] at H3
          have hY : (⟨(putL P ys).toArray⟩ : ByteArray) = ⟨(putL ⟨#[]⟩ (xs ++ ys)).toArray⟩ := by
            apply WideShapes.bytes_inj
            show putL P ys = putL ⟨#[]⟩ (xs ++ ys)
            rw [putL_nil, List.map_append, Gw.Vlq.many_append, ← hPd]
            rfl
          rw [hY] at H2
          generalize (⟨(putL ⟨#[]⟩ (xs ++ ys)).toArray⟩ : ByteArray) = Y at *
          have HPN := Lib.hid hPn
          have HA := Lib.hid hA
          clear hA hB hAB hAL hAl hP hPd hPn hY
          go_enter Try.func8, Try.ntmps8
          go_wp2_with fail
          refine (H0.out).mono ?_
          rintro e w1 ⟨rfl, hb1⟩
          have ac1 := ((Below.refl _ _)).step hb1
          go_wp2_with fail
          refine (H1.out _ _ (HVA.out.below ac1 (Nat.le_refl _))).mono ?_
          rintro e w2 ⟨rfl, hb2⟩
          have ac2 := (ac1).step hb2
          go_wp2_with fail
          refine (H2.out _ _ (HVB.out.below ac2 (Nat.le_refl _))).mono ?_
          rintro e w3 ⟨rfl, hb3⟩
          have ac3 := (ac2).step hb3
          have HZ3 := Lib.hid ac3.size
          go_wp2_with (first | (at_builtin; refine wpList_append_Own rfl (.tmp 36) (.tmp 37) 22 22 rfl w.heap.size 3 i0 (.int .i64 0) 1 8 Try.underlying22 HI.out.1 HI.out.2.1 HI.out.2.2.1 HI.out.2.2.2 rfl _ 0 [] rfl (own_empty w3 _ _ _ HZ3.out) _ xs.length (xs.map (Value.int .i64)) rfl ((HVA.out.below (ac3.new _) (Nat.le_refl _)).src Try.underlying22) HB63.out.1 HB63.out.2.1 (ac3.new _).size (fun h => by cases h) ?_; intro v4 w4 hown4 hgr4 hf4; have HO4 := Lib.hid hown4; have HG4 := Lib.hid hgr4; have HF4 := Lib.hid hf4; have ac4 := (ac3.new _).grown hgr4 (ac3.new _).size (fun k hk => ((own_empty w3 w.heap.size 1 3 HZ3.out).lt k hk).1); clear hown4 hgr4 hf4) | (at_builtin; refine wpList_append_Own rfl (.tmp 38) (.tmp 39) 22 22 rfl w.heap.size 3 i0 (.int .i64 0) 1 8 Try.underlying22 HI.out.1 HI.out.2.1 HI.out.2.2.1 HI.out.2.2.2 rfl v4 (0 + xs.length) _ rfl HO4.out _ ys.length (ys.map (Value.int .i64)) rfl ((HVB.out.below ac4 (Nat.le_refl _)).src Try.underlying22) HB63.out.2.2.1 HB63.out.2.2.2 ac4.size (fun h => by obtain ⟨a, c, h2⟩ := HF4.out; rw [h2] at h; cases h) ?_; intro v5 w5 hown5 hgr5 hf5; have HO5 := Lib.hid hown5; have ac5 := ac4.grown hgr5 ac4.size (fun k hk => (HO4.out.lt k hk).1); clear hown5 hgr5 hf5))
          have hi5 : IntsAt w5 v5 (xs ++ ys) := Own.ints (by rw [HM.out]; simpa using HO5.out)
          refine (H3.out _ _ hi5).mono ?_
          rintro e w6 ⟨rfl, hb6⟩
          have ac6 := ac5.step hb6
          clear hi5
          go_wp2_with fail
          go_loopw [12, 13] (fun n i wr => ∃ k : Nat, k ≤ xs.length ∧ i = .int .i64 k ∧ n = .int .i64 (((xs.take k).map fun z => Gw.Vlq.size z.toNat).sum : Nat) ∧ ((xs.take k).map fun z => Gw.Vlq.size z.toNat).sum ≤ 9 * k ∧ wr = w6) (fun _ i _ => xs.length - (intOf i).toNat)
          case atStart => exact ⟨0, Nat.zero_le _, rfl, rfl, by simp, rfl⟩
          case round =>
            obtain ⟨k, hk, rfl, rfl, hsum, rfl⟩ := hrel
            by_cases hlt : k < xs.length
            · obtain ⟨b, off, hao, hcell⟩ := HVA.out.cell hlt
              have hbw : b < w.heap.size := cell_lt hcell
              have hcell2 := (ac6.cell (p := ⟨b, off + k, none⟩) hbw).trans hcell
              have hmem : xs.getD k 0 ∈ xs := by rw [List.getD_eq_getElem?_getD, List.getElem?_eq_getElem hlt]; exact List.getElem_mem hlt
              have hz1 := HA.out _ hmem
              have hz2 := HZA.out _ hmem
              have hst := sums_take xs k hlt
              obtain ⟨n, hn⟩ := Int.eq_ofNat_of_zero_le hz1
              rw [hn] at hcell2 hz2 hst
              rw [Int.toNat_natCast] at hst
              have hnl : n < 9223372036854775808 := by omega
              have hs9 := Gw.Vlq.size_le9 n hnl
              have H4 := Lib.hid (vsize_any n hnl)
              generalize Gw.Vlq.size n = sz at *
              generalize ((xs.take k).map fun z => Gw.Vlq.size z.toNat).sum = m at *
              have HST := Lib.hid hst
              subst hao
              clear hmem hz1 hn hst hcell
              go_wp2_with fail
              refine (H4.out _).mono ?_
              rintro e w7 ⟨rfl, rfl⟩
              go_wp2_with fail
              go_roundw
              case rel => exact ⟨k + 1, by omega, by go_num, by rw [HST.out]; go_num, by rw [HST.out]; omega, by trivial⟩
              case measure => simp [intOf]; omega
            · obtain rfl : k = xs.length := by omega
              have hp := HPN.out
              rw [List.take_length] at hsum ⊢
              generalize (xs.map fun z => Gw.Vlq.size z.toNat).sum = m at *
              have hpe : ((P.size : Int) == (m : Int)) = true := by rw [beq_iff_eq]; omega
              clear hp
              go_wp2_with fail
              go_ret
              exact ⟨rfl, ac6⟩
        · have hAB : ¬ ∀ z ∈ xs ++ ys, 0 ≤ z := fun h => hB (fun z hz => h z (List.mem_append.2 (.inr hz)))
          rw [put_wrong _ _ hB] at H2
          rw [put_wrong _ _ hAB] at H3
          clear hA hB hAB hAL hAl hP hPd hPn
          go_enter Try.func8, Try.ntmps8
          go_wp2_with fail
          refine (H0.out).mono ?_
          rintro e w1 ⟨rfl, hb1⟩
          have ac1 := ((Below.refl _ _)).step hb1
          go_wp2_with fail
          refine (H1.out _ _ (HVA.out.below ac1 (Nat.le_refl _))).mono ?_
          rintro e w2 ⟨rfl, hb2⟩
          have ac2 := (ac1).step hb2
          go_wp2_with fail
          refine (H2.out _ _ (HVB.out.below ac2 (Nat.le_refl _))).mono ?_
          rintro e w3 ⟨rfl, hb3⟩
          have ac3 := (ac2).step hb3
          have HZ3 := Lib.hid ac3.size
          go_wp2_with (first | (at_builtin; refine wpList_append_Own rfl (.tmp 36) (.tmp 37) 22 22 rfl w.heap.size 3 i0 (.int .i64 0) 1 8 Try.underlying22 HI.out.1 HI.out.2.1 HI.out.2.2.1 HI.out.2.2.2 rfl _ 0 [] rfl (own_empty w3 _ _ _ HZ3.out) _ xs.length (xs.map (Value.int .i64)) rfl ((HVA.out.below (ac3.new _) (Nat.le_refl _)).src Try.underlying22) HB63.out.1 HB63.out.2.1 (ac3.new _).size (fun h => by cases h) ?_; intro v4 w4 hown4 hgr4 hf4; have HO4 := Lib.hid hown4; have HG4 := Lib.hid hgr4; have HF4 := Lib.hid hf4; have ac4 := (ac3.new _).grown hgr4 (ac3.new _).size (fun k hk => ((own_empty w3 w.heap.size 1 3 HZ3.out).lt k hk).1); clear hown4 hgr4 hf4) | (at_builtin; refine wpList_append_Own rfl (.tmp 38) (.tmp 39) 22 22 rfl w.heap.size 3 i0 (.int .i64 0) 1 8 Try.underlying22 HI.out.1 HI.out.2.1 HI.out.2.2.1 HI.out.2.2.2 rfl v4 (0 + xs.length) _ rfl HO4.out _ ys.length (ys.map (Value.int .i64)) rfl ((HVB.out.below ac4 (Nat.le_refl _)).src Try.underlying22) HB63.out.2.2.1 HB63.out.2.2.2 ac4.size (fun h => by obtain ⟨a, c, h2⟩ := HF4.out; rw [h2] at h; cases h) ?_; intro v5 w5 hown5 hgr5 hf5; have HO5 := Lib.hid hown5; have ac5 := ac4.grown hgr5 ac4.size (fun k hk => (HO4.out.lt k hk).1); clear hown5 hgr5 hf5))
          have hi5 : IntsAt w5 v5 (xs ++ ys) := Own.ints (by rw [HM.out]; simpa using HO5.out)
          refine (H3.out _ _ hi5).mono ?_
          rintro e w6 ⟨rfl, hb6⟩
          have ac6 := ac5.step hb6
          clear hi5
          go_wp2_with fail
          go_ret
          exact ⟨rfl, ac6⟩
      · have hAB : ¬ ∀ z ∈ xs ++ ys, 0 ≤ z := fun h => hA (fun z hz => h z (List.mem_append.2 (.inl hz)))
        rw [put_wrong _ _ hA] at H1
        rw [put_wrong _ _ hAB] at H3
        have H2 := Lib.hid (put_any ⟨#[]⟩ ys (fun z h => by have := HZB.out z h; omega) (by simp [ByteArray.size]; omega))
        obtain ⟨y, f, hyf⟩ : ∃ (y : ByteArray) (f : Int), putRes ⟨#[]⟩ ys = .tuple #[.string y, .int .i64 f] := by
          by_cases hB : ∀ z ∈ ys, 0 ≤ z
          · exact ⟨_, _, put_good _ _ hB⟩
          · exact ⟨_, _, put_wrong _ _ hB⟩
        rw [hyf] at H2
        clear hA hAB hyf
        go_enter Try.func8, Try.ntmps8
        go_wp2_with fail
        refine (H0.out).mono ?_
        rintro e w1 ⟨rfl, hb1⟩
        have ac1 := ((Below.refl _ _)).step hb1
        go_wp2_with fail
        refine (H1.out _ _ (HVA.out.below ac1 (Nat.le_refl _))).mono ?_
        rintro e w2 ⟨rfl, hb2⟩
        have ac2 := (ac1).step hb2
        go_wp2_with fail
        refine (H2.out _ _ (HVB.out.below ac2 (Nat.le_refl _))).mono ?_
        rintro e w3 ⟨rfl, hb3⟩
        have ac3 := (ac2).step hb3
        have HZ3 := Lib.hid ac3.size
        go_wp2_with (first | (at_builtin; refine wpList_append_Own rfl (.tmp 36) (.tmp 37) 22 22 rfl w.heap.size 3 i0 (.int .i64 0) 1 8 Try.underlying22 HI.out.1 HI.out.2.1 HI.out.2.2.1 HI.out.2.2.2 rfl _ 0 [] rfl (own_empty w3 _ _ _ HZ3.out) _ xs.length (xs.map (Value.int .i64)) rfl ((HVA.out.below (ac3.new _) (Nat.le_refl _)).src Try.underlying22) HB63.out.1 HB63.out.2.1 (ac3.new _).size (fun h => by cases h) ?_; intro v4 w4 hown4 hgr4 hf4; have HO4 := Lib.hid hown4; have HG4 := Lib.hid hgr4; have HF4 := Lib.hid hf4; have ac4 := (ac3.new _).grown hgr4 (ac3.new _).size (fun k hk => ((own_empty w3 w.heap.size 1 3 HZ3.out).lt k hk).1); clear hown4 hgr4 hf4) | (at_builtin; refine wpList_append_Own rfl (.tmp 38) (.tmp 39) 22 22 rfl w.heap.size 3 i0 (.int .i64 0) 1 8 Try.underlying22 HI.out.1 HI.out.2.1 HI.out.2.2.1 HI.out.2.2.2 rfl v4 (0 + xs.length) _ rfl HO4.out _ ys.length (ys.map (Value.int .i64)) rfl ((HVB.out.below ac4 (Nat.le_refl _)).src Try.underlying22) HB63.out.2.2.1 HB63.out.2.2.2 ac4.size (fun h => by obtain ⟨a, c, h2⟩ := HF4.out; rw [h2] at h; cases h) ?_; intro v5 w5 hown5 hgr5 hf5; have HO5 := Lib.hid hown5; have ac5 := ac4.grown hgr5 ac4.size (fun k hk => (HO4.out.lt k hk).1); clear hown5 hgr5 hf5))
        have hi5 : IntsAt w5 v5 (xs ++ ys) := Own.ints (by rw [HM.out]; simpa using HO5.out)
        refine (H3.out _ _ hi5).mono ?_
        rintro e w6 ⟨rfl, hb6⟩
        have ac6 := ac5.step hb6
        clear hi5
        go_wp2_with fail
        go_ret
        exact ⟨rfl, ac6⟩
    · have hd1 : decide ((100 : Int) < (xs.length : Int)) = false := decide_eq_false (by omega)
      have hd2 : decide ((100 : Int) < (ys.length : Int)) = true := decide_eq_true (by omega)
      clear hva hvb hza hzb
      go_enter Try.func8, Try.ntmps8
      go_wp2_with fail
      refine (H0.out).mono ?_
      rintro e w1 ⟨rfl, hb1⟩
      have ac1 := ((Below.refl _ _)).step hb1
      go_wp2_with fail
      go_ret
      exact ⟨rfl, ac1⟩
  · have hd1 : decide ((100 : Int) < (xs.length : Int)) = true := decide_eq_true (by omega)
    clear hva hvb hza hzb
    go_enter Try.func8, Try.ntmps8
    go_wp2_with fail
    refine (H0.out).mono ?_
    rintro e w1 ⟨rfl, hb1⟩
    have ac1 := ((Below.refl _ _)).step hb1
    go_wp2_with fail
    go_ret
    exact ⟨rfl, ac1⟩
end Go.Proofs.Ytfcmknoipceciaa
