/- The walk of disk.Crash. -/
import Derived.Test.YtfehckdcjgmcpaaDiskRead
import Derived.Test.YtfehckdcjgmcpaaDiskCut
namespace Go.Proofs.Ytfehckdcjgmcpaa
open Go.RowKit

theorem own_congr {w : World} {base size n : Nat} {v : Value} {x y : List UInt8} (e : x = y) (h : Own w base size v n (cellsOf x)) : Own w base size v n (cellsOf y) := e ▸ h
set_option maxRecDepth 1000000 in
set_option maxHeartbeats 1000000 in
theorem crash_any (d : Gw.Disk.Disk) (hsz : -9223372036854775808 ≤ d.size ∧ d.size ≤ 9223372036854775807) (hl : d.loose.length ≤ 1000000000) (sl : Value) (picks : ByteArray) (hpk : picks.size ≤ 1000000000) (w : World) (hp : PatchesAt w sl d.loose) :
    Calls Try.prog 21 #[diskV d sl, .string picks] w (SaidDisk (Gw.Disk.crash d picks) w) := by
  have H := Lib.hid (check_any d hsz (by unfold maxLen; omega) sl)
  by_cases hc : Gw.Disk.check d = true
  · rw [show Gw.Disk.crash d picks = ⟨d.size, ⟨(Gw.Disk.crashed picks d.loose d.loose.length d.firm.data.toList).toArray⟩, []⟩ from by simp [Gw.Disk.crash, hc]]
    have hspec := Gw.Disk.check_spec hc
    rw [hc] at H
    obtain ⟨size, firm, ps⟩ := d
    simp only at hp hl hsz hspec ⊢
    obtain ⟨hs0, hs1, hs2, hs3⟩ := hspec
    unfold SaidDisk
    unfold diskV at H ⊢
    simp only at H ⊢
    obtain ⟨ao, cap, rfl⟩ := hp.form
    have HS3 := Lib.hid hs3
    have hb0 := ((Below.refl w.heap.size w).new (.cells #[.int .i64 size, .string firm, .slice ao ps.length cap] 24)).alloc (by simp) (.cells #[.int .i64 0, .string ⟨#[]⟩, .slice none 0 0] 24)
    have hp0 := hp.below hb0 (Nat.le_refl _)
    have H1 := Lib.hid (H.out _ hp0)
    have hfz : firm.size ≤ 1048576 := by omega
    have HFZ := Lib.hid hs2
    clear H hc hs3 hs2
    go_enter Try.func21, Try.ntmps21
    go_wp2_with fail
    refine (H1.out).mono ?_
    rintro e w1 ⟨rfl, hb1⟩
    have HP1 := Lib.hid (hp0.below hb1 (Nat.le_refl _))
    rw [World.size_alloc, World.size_alloc] at hb1
    obtain ⟨w2, v2, hcv, hb2, hown, cap2, hv2⟩ := bytes_conv_own (P := Try.prog) w1 9 50 5 firm Try.underlying9 Try.underlying50 Try.underlying5 (by unfold maxLen; omega) w1.heap.size (Nat.le_refl _)
    subst hv2
    have l0 : w.heap.size < w.heap.size + 1 + 1 := by omega
    have l1 : w.heap.size + 1 < w.heap.size + 1 + 1 := by omega
    have c00 := hb1.cell (p := ⟨w.heap.size, 0, none⟩) l0
    have c01 := hb1.cell (p := ⟨w.heap.size, 1, none⟩) l0
    have c02 := hb1.cell (p := ⟨w.heap.size, 2, none⟩) l0
    have c10 := hb1.cell (p := ⟨w.heap.size + 1, 0, none⟩) l1
    have c11 := hb1.cell (p := ⟨w.heap.size + 1, 1, none⟩) l1
    have c12 := hb1.cell (p := ⟨w.heap.size + 1, 2, none⟩) l1
    have f10 := hb1.frozen (p := ⟨w.heap.size + 1, 0, none⟩) l1
    have f11 := hb1.frozen (p := ⟨w.heap.size + 1, 1, none⟩) l1
    have f12 := hb1.frozen (p := ⟨w.heap.size + 1, 2, none⟩) l1
    simp at c00 c01 c02 c10 c11 c12 f10 f11 f12
    have hz1 : w.heap.size + 1 + 1 ≤ w1.heap.size := by
      have h := hb1.size
      rw [World.size_alloc, World.size_alloc] at h
      exact h
    have HB := Lib.hid (hb0.trans (hb1.mono (by omega)))
    have HB2 := Lib.hid hb2
    have HOWN := Lib.hid hown
    clear hb0 hb1 hp0 l0 l1 hb2 hown
    have l0 : w.heap.size < w1.heap.size := by omega
    have l1 : w.heap.size + 1 < w1.heap.size := by omega
    have d00 := (HB2.out.cell (p := ⟨w.heap.size, 0, none⟩) l0).trans c00
    have d02 := (HB2.out.cell (p := ⟨w.heap.size, 2, none⟩) l0).trans c02
    go_wp2_with fail
    have HLF := Lib.hid (show firm.data.toList.length = firm.size from rfl)
    obtain ⟨L0, hL0⟩ : ∃ L0, L0 = firm.data.toList := ⟨_, rfl⟩
    rw [← hL0] at HOWN HLF
    have HF0 := Lib.hid hL0.symm
    clear hL0
    go_loopw [21] (fun i wr => ∃ k : Nat, k ≤ ps.length ∧ i = .int .i64 k ∧ Below w1.heap.size w1 wr ∧ w1.heap.size < wr.heap.size ∧ Own wr w1.heap.size 1 (.slice (some ⟨w1.heap.size, 0, none⟩) firm.size cap2) firm.size (cellsOf (Gw.Disk.crashed picks ps k L0))) (fun i _ => ps.length - (intOf i).toNat)
    case atStart => exact ⟨0, Nat.zero_le _, rfl, HB2.out, (HOWN.out.lt _ rfl).2, HOWN.out⟩
    case round =>
      obtain ⟨k, hk, rfl, hbr, hzr, hor⟩ := hrel
      have HBR := Lib.hid hbr
      have HOR := Lib.hid hor
      have e00 := (hbr.cell (p := ⟨w.heap.size, 0, none⟩) l0).trans c00
      have e02 := (hbr.cell (p := ⟨w.heap.size, 2, none⟩) l0).trans c02
      clear hor
      by_cases hlt : k < ps.length
      · obtain ⟨b, off, hao, hbw, hca, hcb⟩ := HP1.out.cell hlt
        have hca1 := (hbr.cell (p := ⟨b, off + k * 2, none⟩) hbw).trans hca
        have hcb1 := (hbr.cell (p := ⟨b, off + k * 2 + 1, none⟩) hbw).trans hcb
        have hget : ps.getD k (0, ByteArray.empty) = ps[k] := by rw [List.getD_eq_getElem?_getD, List.getElem?_eq_getElem hlt]; rfl
        have hmem : ps.getD k (0, ByteArray.empty) ∈ ps := by rw [hget]; exact List.getElem_mem hlt
        have hsp := HS3.out _ hmem
        have HST := Lib.hid (Gw.Disk.crashed_succ picks ps k L0)
        generalize Gw.Disk.crashed picks ps k L0 = L at *
        clear hget hmem hca hcb hbr
        generalize ps.getD k (0, ByteArray.empty) = p at *
        obtain ⟨pa, pd⟩ := p
        simp only at hca1 hcb1 hsp
        obtain ⟨A, rfl⟩ := Int.eq_ofNat_of_zero_le hsp.1
        have hA := hsp.2.1
        have HPD := Lib.hid hsp.2.2
        subst hao
        clear hsp
        have hAf : A * 16 + 16 ≤ firm.size := by have := HFZ.out; omega
        have hfc : firm.size ≤ cap2 := by
          rcases HOR.out.2 with ⟨h0, _⟩ | ⟨_, _, _, h0, _, _, h5, _⟩
          · cases h0
          · cases h0; exact h5
        have hc16 : 16 ≤ cap2 - A * 16 := by omega
        have hAc : ¬ cap2 = A * 16 := by omega
        have hpt : pd.size = 16 := HPD.out
        by_cases hpk2 : k < picks.size
        · have e1 : decide ((k : Int) < (picks.size : Int)) = true := decide_eq_true (by omega)
          have hq : ∃ q : Nat, q < 3 ∧ Gw.Disk.pickOf picks k = q ∧ (wrap64 ((picks[k]'hpk2).toNat : Int)).tmod 3 = (q : Int) := by
            have hb : (picks[k]'hpk2).toNat < 256 := (picks[k]'hpk2).toNat_lt
            refine ⟨(picks[k]'hpk2).toNat % 3, Nat.mod_lt _ (by omega), ?_, ?_⟩
            · unfold Gw.Disk.pickOf
              rw [if_pos hpk2, List.getD_eq_getElem?_getD, List.getElem?_eq_getElem (show k < picks.data.toList.length from hpk2)]
              rfl
            · rw [show wrap64 ((picks[k]'hpk2).toNat : Int) = ((picks[k]'hpk2).toNat : Int) from by unfold wrap64; omega, Int.tmod_eq_emod_of_nonneg (by omega)]
              omega
          obtain ⟨q, hq3, hqp, hqw⟩ := hq
          have HQP := Lib.hid hqp
          clear hqp
          match q, hq3 with
          | 0, _ =>
            go_wp2_with fail
            go_roundw
            case rel =>
              refine ⟨k + 1, by omega, by go_num, HBR.out.alloc HBR.out.size _, Nat.lt_of_lt_of_le hzr (by simp), ?_⟩
              rw [HST.out, HQP.out]
              exact HOR.out.alloc _
            case measure => simp [intOf]; omega
          | 1, _ =>
            have hW := (HOR.out.alloc (.cells #[.int .i64 (A : Int), .string pd] 40)).drew
            have hcop : ∀ j, j < Nat.min (pd.extract 8 16).size 8 → ((wr.alloc (.cells #[.int .i64 (A : Int), .string pd] 40)).drew.cell? ⟨w1.heap.size, A * 16 + 8 + j, none⟩).isSome = true ∧ (wr.alloc (.cells #[.int .i64 (A : Int), .string pd] 40)).drew.frozen? ⟨w1.heap.size, A * 16 + 8 + j, none⟩ = false := fun j hj => by
              have := hW.room (A * 16 + 8) 8 (by omega) j (Nat.lt_of_lt_of_le hj (Nat.min_le_right _ _))
              rwa [Nat.zero_add] at this
            have HC := Lib.hid hcop
            have HW := Lib.hid hW
            clear hcop hW
            have hA8 : ¬ cap2 - A * 16 = 8 := by omega
            have hLl : L.length = firm.size := by
              have h := HOR.out.1
              rw [cellsOf_length] at h
              omega
            have hdl : pd.data.toList.length = 16 := HPD.out
            have h8 : (pd.data.toList.drop 8).length = 8 := by rw [List.length_drop]; omega
            have HT8 := Lib.hid (show List.take 8 (List.take 8 (List.drop 8 pd.data.toList)) = List.drop 8 pd.data.toList by rw [List.take_take, List.take_of_length_le (by omega)])
            have hd1 := HW.out.copied (t := pd.data.toList.drop 8) (A * 16 + 8) (by omega)
            rw [Nat.zero_add] at hd1
            have hcop2 : ∀ j, j < Nat.min (pd.extract 0 8).size 16 → (((wr.alloc (.cells #[.int .i64 (A : Int), .string pd] 40)).drew.setCells w1.heap.size (A * 16 + 8) (cellsOf (pd.data.toList.drop 8))).cell? ⟨w1.heap.size, A * 16 + j, none⟩).isSome = true ∧ ((wr.alloc (.cells #[.int .i64 (A : Int), .string pd] 40)).drew.setCells w1.heap.size (A * 16 + 8) (cellsOf (pd.data.toList.drop 8))).frozen? ⟨w1.heap.size, A * 16 + j, none⟩ = false := fun j hj => by
              have := hd1.room (A * 16) 16 hAf j (Nat.lt_of_lt_of_le hj (Nat.min_le_right _ _))
              rwa [Nat.zero_add] at this
            have hcp := run_copy_str (P := Try.prog) ((wr.alloc (.cells #[.int .i64 (A : Int), .string pd] 40)).drew.setCells w1.heap.size (A * 16 + 8) (cellsOf (pd.data.toList.drop 8))) 50 9 3 5 w1.heap.size (A * 16) 16 (cap2 - A * 16) (pd.extract 0 8) Try.underlying50 (by kernel_rfl) hcop2
            have hd2 := hd1.copied (t := pd.data.toList.take 8) (A * 16) (by simp; omega)
            rw [Nat.zero_add] at hd2
            have hkeep : Gw.Disk.keep L ((A : Int), pd) 1 = Gw.Disk.over (Gw.Disk.over L (A * 16 + 8) (pd.data.toList.drop 8)) (A * 16) (pd.data.toList.take 8) := (Gw.Disk.over_halves L (A * 16) pd.data.toList hdl (by omega)).symm
            have hd3 := own_congr hkeep.symm hd2
            have HD := Lib.hid hd3
            have hpb : ((wr.alloc (.cells #[.int .i64 (A : Int), .string pd] 40)).drew.setCells w1.heap.size (A * 16 + 8) (cellsOf (pd.data.toList.drop 8))).cell? ⟨wr.heap.size, 1, none⟩ = some (.string pd) := by
              rw [World.cell?_setCells_out _ _ _ _ _ (fun h _ => absurd h (by simp; omega))]
              simp
            clear hd1 hd2 hd3 hcop2 hkeep hdl h8 hLl
            go_wp2_with fail
            go_region_law (refine step_copy_str rfl (.tmp 50) (.tmp 53) 50 9 rfl 5 Try.underlying50 (by kernel_rfl) w1.heap.size (A * 16 + 8) 8 (cap2 - A * 16 - 8) (by kernel_rfl) (pd.extract 8 16) (by kernel_rfl) HC.out ?_)
            all_goals
              rw [HT8.out]
              go_wp2_with fail
              rw [List.take_take, Nat.min_self]
              go_roundw
              case rel =>
                refine ⟨k + 1, by omega, by go_num, ((HBR.out.alloc HBR.out.size _).drew.grown (setCells_grown _ _ _ _) (by simp; omega) (fun _ h => by cases h; exact Nat.le_refl _)).grown (setCells_grown _ _ _ _) (by rw [setCells_size]; simp; omega) (fun _ h => by cases h; exact Nat.le_refl _), ?_, ?_⟩
                · rw [setCells_size, setCells_size]
                  exact Nat.lt_of_lt_of_le hzr (by simp)
                · rw [HST.out, HQP.out]
                  exact HD.out
              case measure => simp [intOf]; omega
          | 2, _ =>
            have hW := (HOR.out.alloc (.cells #[.int .i64 (A : Int), .string pd] 40))
            have hcop : ∀ j, j < Nat.min (pd.extract 0 8).size 16 → ((wr.alloc (.cells #[.int .i64 (A : Int), .string pd] 40)).cell? ⟨w1.heap.size, A * 16 + j, none⟩).isSome = true ∧ (wr.alloc (.cells #[.int .i64 (A : Int), .string pd] 40)).frozen? ⟨w1.heap.size, A * 16 + j, none⟩ = false := fun j hj => by
              have := hW.room (A * 16) 16 hAf j (Nat.lt_of_lt_of_le hj (Nat.min_le_right _ _))
              rwa [Nat.zero_add] at this
            have HC := Lib.hid hcop
            have HW := Lib.hid hW
            clear hcop hW
            have hcp := run_copy_str (P := Try.prog) (wr.alloc (.cells #[.int .i64 (A : Int), .string pd] 40)) 50 9 3 5 w1.heap.size (A * 16) 16 (cap2 - A * 16) (pd.extract 0 8) Try.underlying50 (by kernel_rfl) HC.out
            have hLl : L.length = firm.size := by
              have h := HOR.out.1
              rw [cellsOf_length] at h
              omega
            have hdl : pd.data.toList.length = 16 := HPD.out
            have hdone := HW.out.copied (t := pd.data.toList.take 8) (A * 16) (by rw [List.length_take]; omega)
            rw [Nat.zero_add] at hdone
            have hkeep : Gw.Disk.keep L ((A : Int), pd) 2 = L.take (A * 16) ++ pd.data.toList.take 8 ++ L.drop (A * 16 + (pd.data.toList.take 8).length) := rfl
            have HD := Lib.hid (hkeep ▸ hdone)
            clear hdone hkeep hdl hLl
            go_wp2_with fail
            rw [List.take_take, Nat.min_self]
            go_roundw
            case rel =>
              refine ⟨k + 1, by omega, by go_num, (HBR.out.alloc HBR.out.size _).grown (setCells_grown _ _ _ _) (by simp; omega) (fun _ h => by cases h; exact Nat.le_refl _), ?_, ?_⟩
              · rw [setCells_size]
                exact Nat.lt_of_lt_of_le hzr (by simp)
              · rw [HST.out, HQP.out]
                exact HD.out
            case measure => simp [intOf]; omega
        · have e1 : decide ((k : Int) < (picks.size : Int)) = false := decide_eq_false (by omega)
          have HPK := Lib.hid (show Gw.Disk.pickOf picks k = 0 from by simp [Gw.Disk.pickOf, hpk2])
          go_wp2_with fail
          go_roundw
          case rel =>
            refine ⟨k + 1, by omega, by go_num, HBR.out.alloc HBR.out.size _, Nat.lt_of_lt_of_le hzr (by simp), ?_⟩
            rw [HST.out, HPK.out]
            exact HOR.out.alloc _
          case measure => simp [intOf]; omega
      · obtain rfl : k = ps.length := by omega
        have hcv2 := string_conv_own (P := Try.prog) wr 50 9 5 w1.heap.size (.slice (some ⟨w1.heap.size, 0, none⟩) firm.size cap2) firm.size (Gw.Disk.crashed picks ps ps.length L0) Try.underlying50 Try.underlying5 Try.underlying9 HOR.out
        have d10 := (HBR.out.cell (p := ⟨w.heap.size + 1, 0, none⟩) l1).trans c10
        have d11 := (HBR.out.cell (p := ⟨w.heap.size + 1, 1, none⟩) l1).trans c11
        have d12 := (HBR.out.cell (p := ⟨w.heap.size + 1, 2, none⟩) l1).trans c12
        have g10 := (HBR.out.frozen (p := ⟨w.heap.size + 1, 0, none⟩) l1).trans f10
        have g11 := (HBR.out.frozen (p := ⟨w.heap.size + 1, 1, none⟩) l1).trans f11
        have g12 := (HBR.out.frozen (p := ⟨w.heap.size + 1, 2, none⟩) l1).trans f12
        go_wp2_with fail
        refine bodyPost_ret (v := .agg #[.int .i64 size, .string ⟨(Gw.Disk.crashed picks ps ps.length L0).toArray⟩, .slice none 0 0]) (by simp [results, Try.results21, go_sem, d10, d11, d12]) rfl ⟨.slice none 0 0, by rw [HF0.out], Own.nil _ _ _, ?_⟩
        have hb := HB.out.trans (HBR.out.mono (by omega))
        exact ((hb.setCell (p := ⟨w.heap.size + 1, 0, none⟩) (Nat.le_succ _) _).setCell (p := ⟨w.heap.size + 1, 1, none⟩) (Nat.le_succ _) _).setCell (p := ⟨w.heap.size + 1, 2, none⟩) (Nat.le_succ _) _
  · have hcf : Gw.Disk.check d = false := Bool.eq_false_iff.mpr hc
    rw [show Gw.Disk.crash d picks = d from by simp [Gw.Disk.crash, hcf]]
    rw [hcf] at H
    have H2 := Lib.hid (fun w' hp' => same_any d hl sl w' hp')
    obtain ⟨size, firm, ps⟩ := d
    unfold SaidDisk diskV at H2 ⊢
    unfold diskV at H
    simp only at hp hl hsz H H2 ⊢
    have hb0 := ((Below.refl w.heap.size w).new (.cells #[.int .i64 size, .string firm, sl] 24)).alloc (by simp) (.cells #[.int .i64 0, .string ⟨#[]⟩, .slice none 0 0] 24)
    have hp0 := hp.below hb0 (Nat.le_refl _)
    have H1 := Lib.hid (H.out _ hp0)
    clear H hc hcf
    go_enter Try.func21, Try.ntmps21
    go_wp2_with fail
    refine (H1.out).mono ?_
    rintro e w1 ⟨rfl, hb1⟩
    have HP1 := Lib.hid (hp0.below hb1 (Nat.le_refl _))
    rw [World.size_alloc, World.size_alloc] at hb1
    have H3 := Lib.hid (H2.out w1 HP1.out)
    have l0 : w.heap.size < w.heap.size + 1 + 1 := by omega
    have l1 : w.heap.size + 1 < w.heap.size + 1 + 1 := by omega
    have c00 := hb1.cell (p := ⟨w.heap.size, 0, none⟩) l0
    have c01 := hb1.cell (p := ⟨w.heap.size, 1, none⟩) l0
    have c02 := hb1.cell (p := ⟨w.heap.size, 2, none⟩) l0
    have c10 := hb1.cell (p := ⟨w.heap.size + 1, 0, none⟩) l1
    have c11 := hb1.cell (p := ⟨w.heap.size + 1, 1, none⟩) l1
    have c12 := hb1.cell (p := ⟨w.heap.size + 1, 2, none⟩) l1
    have f10 := hb1.frozen (p := ⟨w.heap.size + 1, 0, none⟩) l1
    have f11 := hb1.frozen (p := ⟨w.heap.size + 1, 1, none⟩) l1
    have f12 := hb1.frozen (p := ⟨w.heap.size + 1, 2, none⟩) l1
    simp at c00 c01 c02 c10 c11 c12 f10 f11 f12
    have hz1 : w.heap.size + 1 + 1 ≤ w1.heap.size := by
      have h := hb1.size
      rw [World.size_alloc, World.size_alloc] at h
      exact h
    have HB := Lib.hid (hb0.trans (hb1.mono (by omega)))
    clear hb0 hb1 hp0 H2 l0 l1
    have l1 : w.heap.size + 1 < w1.heap.size := by omega
    go_wp2_with fail
    refine (H3.out).mono ?_
    rintro e w2 ⟨sl2, rfl, ho2, hb2⟩
    have d10 := (hb2.cell (p := ⟨w.heap.size + 1, 0, none⟩) l1).trans c10
    have d11 := (hb2.cell (p := ⟨w.heap.size + 1, 1, none⟩) l1).trans c11
    have d12 := (hb2.cell (p := ⟨w.heap.size + 1, 2, none⟩) l1).trans c12
    have g10 := (hb2.frozen (p := ⟨w.heap.size + 1, 0, none⟩) l1).trans f10
    have g11 := (hb2.frozen (p := ⟨w.heap.size + 1, 1, none⟩) l1).trans f11
    have g12 := (hb2.frozen (p := ⟨w.heap.size + 1, 2, none⟩) l1).trans f12
    obtain ⟨ao2, cap2, rfl⟩ := ho2.form
    have HO := Lib.hid ho2
    have HB2 := Lib.hid (HB.out.trans (hb2.mono HB.out.size))
    clear hb2 ho2
    go_wp2_with fail
    refine bodyPost_ret (v := .agg #[.int .i64 size, .string firm, .slice ao2 ps.length cap2]) (by simp [results, Try.results21, go_sem, d10, d11, d12]) rfl ⟨.slice ao2 ps.length cap2, rfl, ?_, ?_⟩
    · exact (((HO.out.setBelow _ _ l1).setBelow _ _ l1).setBelow _ _ l1).mono (by omega)
    · exact ((HB2.out.setCell (p := ⟨w.heap.size + 1, 0, none⟩) (Nat.le_succ _) _).setCell (p := ⟨w.heap.size + 1, 1, none⟩) (Nat.le_succ _) _).setCell (p := ⟨w.heap.size + 1, 2, none⟩) (Nat.le_succ _) _
end Go.Proofs.Ytfehckdcjgmcpaa
