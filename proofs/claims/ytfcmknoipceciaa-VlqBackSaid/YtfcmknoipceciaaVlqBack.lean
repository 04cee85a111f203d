/- VlqBack: the walk. -/
import Derived.Test.YtfcmknoipceciaaVlqInts
import Derived.Test.YtfcmknoipceciaaVlqLaws
namespace Go.Proofs.Ytfcmknoipceciaa
open Go.RowKit

set_option maxRecDepth 1000000 in
set_option maxHeartbeats 1000000 in
theorem vlqBack_walk (zs : List Int) (hz : ∀ z ∈ zs, -9223372036854775808 ≤ z ∧ z ≤ 9223372036854775807) (ao : Option Addr) (cap : Nat) (t behind : ByteArray) (hl : zs.length ≤ maxLen) (ht : t.size ≤ maxLen) (hbe : behind.size ≤ maxLen) (w : World) (hv : IntsAt w (.slice ao zs.length cap) zs) :
    Calls Try.prog 4 #[.slice ao zs.length cap, .string t, .string behind] w fun e w' => e = .returned (.bool true) ∧ Below w.heap.size w w' := by
  unfold maxLen at hl ht hbe
  have H0 := Lib.hid (awake_any w)
  by_cases hl1 : zs.length ≤ 100
  · by_cases ht1 : t.size ≤ 1000
    · by_cases hb1 : behind.size ≤ 1000
      · have hd1 : decide ((100 : Int) < (zs.length : Int)) = false := decide_eq_false (by omega)
        have hd2 : decide ((1000 : Int) < (t.size : Int)) = false := decide_eq_false (by omega)
        have hd3 : decide ((1000 : Int) < (behind.size : Int)) = false := decide_eq_false (by omega)
        have HZ := Lib.hid hz
        have HV := Lib.hid hv
        clear hz hv
        have H1 := Lib.hid (put_any ⟨#[]⟩ zs (fun z h => by have := HZ.out z h; omega) (by simp [ByteArray.size]; omega))
        by_cases hall : ∀ z ∈ zs, 0 ≤ z
        · have hp : putRes ⟨#[]⟩ zs = .tuple #[.string ⟨(putL ⟨#[]⟩ zs).toArray⟩, .int .i64 0] := by
            unfold putRes
            rw [if_pos (all_nonneg zs hall)]
          rw [hp] at H1
          have hPl := putL_length ⟨#[]⟩ zs (fun z h => ⟨hall z h, by have := HZ.out z h; omega⟩)
          obtain ⟨P, hP⟩ : ∃ P : ByteArray, ⟨(putL ⟨#[]⟩ zs).toArray⟩ = P := ⟨_, rfl⟩
          have hPd : P.data.toList = Gw.Vlq.many (zs.map Int.toNat) := by rw [← hP, ← putL_nil]
          have hPs : P.size ≤ 900 := by
            have h1 : P.data.toList.length = P.size := rfl
            rw [← h1, hPd, ← putL_nil]
            have : (⟨#[]⟩ : ByteArray).size = 0 := rfl
            omega
          rw [hP] at H1
          have H2 := Lib.hid (text_any P t (by omega))
          obtain ⟨T, hT⟩ : ∃ T : ByteArray, textOfL P t = T := ⟨_, rfl⟩
          rw [hT] at H2
          have hTd : T.data.toList = Gw.Vlq.many (zs.map Int.toNat) ++ Gw.Vlq.one t.size ++ t.data.toList := by
            rw [← hT, ← hPd]
            simp only [textOfL, Gw.Vlq.text]
            rfl
          have htl := Gw.Vlq.one_length t.size (by omega)
          have ht9 := Gw.Vlq.size_le9 t.size (by omega)
          have hTs : T.size ≤ 2000 := by
            have h1 : T.data.toList.length = T.size := rfl
            have h2 : t.data.toList.length = t.size := rfl
            have h3 : P.data.toList.length = P.size := rfl
            rw [← h1, hTd, List.length_append, List.length_append, htl, ← hPd]
            omega
          have HALL := Lib.hid hall
          have HTD := Lib.hid hTd
          have HTL := Lib.hid htl
          clear hall hp hPl hPd hP hT hTd htl
          go_enter Try.func4, Try.ntmps4
          go_wp2_with fail
          refine (H0.out).mono ?_
          rintro e w1 ⟨rfl, hb1⟩
          have ac1 := ((Below.refl _ _)).step hb1
          go_wp2_with fail
          refine (H1.out _ _ (HV.out.below hb1 (Nat.le_refl _))).mono ?_
          rintro e w2 ⟨rfl, hb2⟩
          have ac2 := (ac1).step hb2
          go_wp2_with fail
          refine (H2.out _).mono ?_
          rintro e w3 ⟨rfl, hb3⟩
          have ac3 := (ac2).step hb3
          go_wp2_with fail
          go_loopw [8, 10] (fun b i wr => ∃ (k : Nat) (X : ByteArray), k ≤ zs.length ∧ i = .int .i64 k ∧ b = .string X ∧ X.data.toList = Gw.Vlq.many ((zs.drop k).map Int.toNat) ++ (Gw.Vlq.one t.size ++ (t.data.toList ++ behind.data.toList)) ∧ X.size ≤ 3000 ∧ Below w.heap.size w wr) (fun _ i _ => zs.length - (intOf i).toNat)
          case atStart =>
            refine ⟨0, T ++ behind, Nat.zero_le _, rfl, rfl, ?_, by rw [ByteArray.size_append]; omega, ac3⟩
            rw [ByteArray.data_append, Array.toList_append, HTD.out, List.drop_zero]
            simp only [List.append_assoc]
          case round =>
            obtain ⟨k, X, hk, rfl, rfl, hXd, hXs, hbr⟩ := hrel
            have HX := Lib.hid hXd
            clear hXd
            by_cases hlt : k < zs.length
            · obtain ⟨b, off, hao, hcell⟩ := HV.out.cell hlt
              have hbw : b < w.heap.size := cell_lt hcell
              have hcell2 := (hbr.cell (p := ⟨b, off + k, none⟩) hbw).trans hcell
              have hmem : zs.getD k 0 ∈ zs := by rw [List.getD_eq_getElem?_getD, List.getElem?_eq_getElem hlt]; exact List.getElem_mem hlt
              have hz1 := HALL.out _ hmem
              have hz2 := HZ.out _ hmem
              have hdrop : zs.drop k = zs.getD k 0 :: zs.drop (k + 1) := by
                rw [List.drop_eq_getElem_cons hlt, List.getD_eq_getElem?_getD, List.getElem?_eq_getElem hlt]; rfl
              obtain ⟨n, hn⟩ := Int.eq_ofNat_of_zero_le hz1
              rw [hn] at hcell2 hz2
              have hnl : n < 9223372036854775808 := by omega
              have hXd : X.data.toList = Gw.Vlq.one n ++ (Gw.Vlq.many ((zs.drop (k + 1)).map Int.toNat) ++ (Gw.Vlq.one t.size ++ (t.data.toList ++ behind.data.toList))) := by
                rw [HX.out, hdrop, List.map_cons, hn, Int.toNat_natCast]
                rw [show ∀ l, Gw.Vlq.many (n :: l) = Gw.Vlq.one n ++ Gw.Vlq.many l from fun _ => rfl, List.append_assoc]
              have hol := Gw.Vlq.one_length n (by omega)
              have htk : Gw.Vlq.take X.data.toList = some (n, (Gw.Vlq.one n).length) := by rw [hXd]; exact Gw.Vlq.take_one n hnl _
              have H3 := Lib.hid (take_any X (by omega))
              rw [takeRes_some htk, hol] at H3
              have hle : Gw.Vlq.size n ≤ X.size := by
                have h1 : X.data.toList.length = X.size := rfl
                rw [← h1, hXd, List.length_append, hol]
                omega
              have hRs : (X.extract (Gw.Vlq.size n) X.size).size + Gw.Vlq.size n = X.size := by rw [ByteArray.size_extract]; omega
              have hRd : (X.extract (Gw.Vlq.size n) X.size).data.toList = Gw.Vlq.many ((zs.drop (k + 1)).map Int.toNat) ++ (Gw.Vlq.one t.size ++ (t.data.toList ++ behind.data.toList)) := by
                have h1 : X.data.toList.length = X.size := rfl
                rw [Lib.extract_data, List.take_of_length_le (by rw [List.length_drop, h1]; omega), hXd, ← hol]
                exact List.drop_left
              have H4 := Lib.hid (vsize_any n hnl)
              generalize X.extract (Gw.Vlq.size n) X.size = R at *
              generalize Gw.Vlq.size n = sz at *
              have hsub : ((X.size : Int) - (R.size : Int) == (sz : Int)) = true := by rw [beq_iff_eq]; omega
              have HRD := Lib.hid hRd
              subst hao
              clear hXd hol htk hRd hdrop hmem hz1 hz2 hn hcell
              go_wp2_with fail
              refine (H3.out _).mono ?_
              rintro e w4 ⟨rfl, hb4⟩
              have hcell3 := (hb4.cell (p := ⟨b, off + k, none⟩) (Nat.lt_of_lt_of_le hbw hbr.size)).trans hcell2
              go_wp2_with fail
              refine (H4.out _).mono ?_
              rintro e w5 ⟨rfl, rfl⟩
              go_wp2_with fail
              go_roundw
              case rel => exact ⟨k + 1, R, by omega, by go_num, rfl, HRD.out, by omega, hbr.step hb4⟩
              case measure => simp [intOf]; omega
            · have htk : Gw.Vlq.take X.data.toList = some (t.size, (Gw.Vlq.one t.size).length) := by
                rw [HX.out, List.drop_eq_nil_of_le (by omega)]
                exact Gw.Vlq.take_one t.size (by omega) _
              have hXl : X.size = Gw.Vlq.size t.size + (t.size + behind.size) := by
                have h1 : X.data.toList.length = X.size := rfl
                have h2 : t.data.toList.length = t.size := rfl
                have h3 : behind.data.toList.length = behind.size := rfl
                rw [← h1, HX.out, List.drop_eq_nil_of_le (by omega)]
                simp only [List.map_nil, Gw.Vlq.many, List.flatten_nil, List.nil_append, List.length_append]
                rw [HTL.out, h2, h3]
              have hXd : X.data.toList = Gw.Vlq.one t.size ++ (t.data.toList ++ behind.data.toList) := by
                rw [HX.out, List.drop_eq_nil_of_le (by omega)]
                rfl
              have hr : takeTextRes X = .tuple #[.string t, .string behind, .int .i64 0] := by
                have h : takeText X.data.toList = some (t.size, Gw.Vlq.size t.size) := by
                  unfold takeText
                  rw [htk]
                  simp only
                  have h1 : X.data.toList.length = X.size := rfl
                  rw [HTL.out, h1, if_pos (by omega)]
                unfold takeTextRes
                rw [h]
                simp only
                have e1 : X.extract (Gw.Vlq.size t.size) (Gw.Vlq.size t.size + t.size) = t := by
                  apply WideShapes.bytes_inj
                  rw [Lib.extract_data, hXd, ← HTL.out, List.drop_left, HTL.out, show Gw.Vlq.size t.size + t.size - Gw.Vlq.size t.size = t.size from by omega]
                  exact List.take_left' rfl
                have e2 : X.extract (Gw.Vlq.size t.size + t.size) X.size = behind := by
                  apply WideShapes.bytes_inj
                  rw [Lib.extract_data, hXd, ← List.drop_drop, ← HTL.out, List.drop_left, HTL.out]
                  have h2 : t.data.toList.length = t.size := rfl
                  rw [List.drop_left' h2]
                  exact List.take_of_length_le (by have h3 : behind.data.toList.length = behind.size := rfl; omega)
                rw [e1, e2]
              have H3 := Lib.hid (takeText_any X (by omega))
              rw [hr] at H3
              clear htk hXl hXd hr
              go_wp2_with fail
              refine (H3.out _).mono ?_
              rintro e w4 ⟨rfl, hb4⟩
              go_wp2_with fail
              go_ret
              exact ⟨rfl, hbr.step hb4⟩
        · have hp : putRes ⟨#[]⟩ zs = .tuple #[.string ⟨#[]⟩, .int .i64 40] := by
            unfold putRes
            rw [if_neg]
            intro h
            rw [List.all_eq_true] at h
            exact hall (fun z hz => of_decide_eq_true (h z hz))
          rw [hp] at H1
          clear hall hp
          go_enter Try.func4, Try.ntmps4
          go_wp2_with fail
          refine (H0.out).mono ?_
          rintro e w1 ⟨rfl, hb1⟩
          have ac1 := ((Below.refl _ _)).step hb1
          go_wp2_with fail
          refine (H1.out _ _ (HV.out.below hb1 (Nat.le_refl _))).mono ?_
          rintro e w2 ⟨rfl, hb2⟩
          have ac2 := (ac1).step hb2
          go_wp2_with fail
          go_ret
          exact ⟨rfl, ac2⟩
      · have hd1 : decide ((100 : Int) < (zs.length : Int)) = false := decide_eq_false (by omega)
        have hd2 : decide ((1000 : Int) < (t.size : Int)) = false := decide_eq_false (by omega)
        have hd3 : decide ((1000 : Int) < (behind.size : Int)) = true := decide_eq_true (by omega)
        clear hz hv
        go_enter Try.func4, Try.ntmps4
        go_wp2_with fail
        refine (H0.out).mono ?_
        rintro e w1 ⟨rfl, hb1⟩
        have ac1 := ((Below.refl _ _)).step hb1
        go_wp2_with fail
        go_ret
        exact ⟨rfl, ac1⟩
    · have hd1 : decide ((100 : Int) < (zs.length : Int)) = false := decide_eq_false (by omega)
      have hd2 : decide ((1000 : Int) < (t.size : Int)) = true := decide_eq_true (by omega)
      clear hz hv
      go_enter Try.func4, Try.ntmps4
      go_wp2_with fail
      refine (H0.out).mono ?_
      rintro e w1 ⟨rfl, hb1⟩
      have ac1 := ((Below.refl _ _)).step hb1
      go_wp2_with fail
      go_ret
      exact ⟨rfl, ac1⟩
  · have hd1 : decide ((100 : Int) < (zs.length : Int)) = true := decide_eq_true (by omega)
    clear hz hv
    go_enter Try.func4, Try.ntmps4
    go_wp2_with fail
    refine (H0.out).mono ?_
    rintro e w1 ⟨rfl, hb1⟩
    have ac1 := ((Below.refl _ _)).step hb1
    go_wp2_with fail
    go_ret
    exact ⟨rfl, ac1⟩
end Go.Proofs.Ytfcmknoipceciaa
