/- The walks of gunwaleref12.Same (of one disk, twice) and gunwaleref12.Few. -/
import Derived.Test.YtfehckdcjgmcpaaDiskMem
namespace Go.Proofs.Ytfehckdcjgmcpaa
open Go.RowKit

set_option maxRecDepth 1000000 in
set_option maxHeartbeats 1000000 in
theorem rsame_any (d : Gw.Disk.Disk) (hl : d.loose.length ≤ maxLen) (sl sm : Value) (w : World) (hp : PatchesAt w sl d.loose) (hq : PatchesAt w sm d.loose) :
    Calls Try.prog 18 #[diskV d sl, diskV d sm] w fun e w' => e = .returned (.bool true) ∧ Below w.heap.size w w' := by
  obtain ⟨size, firm, ps⟩ := d
  simp only at hl hp hq
  unfold maxLen at hl
  obtain ⟨ao, cap, rfl⟩ := hp.form
  obtain ⟨bo, cbp, rfl⟩ := hq.form
  unfold diskV
  simp only
  have hb0 := ((Below.refl w.heap.size w).new (.cells #[.int .i64 size, .string firm, .slice ao ps.length cap] 24)).alloc (by simp) (.cells #[.int .i64 size, .string firm, .slice bo ps.length cbp] 24)
  have HP := Lib.hid (hp.below hb0 (Nat.le_refl _))
  have HQ := Lib.hid (hq.below hb0 (Nat.le_refl _))
  clear hp hq
  have e1 : (size != size) = false := by simp
  have e3 : ((ps.length : Int) != (ps.length : Int)) = false := by simp
  go_enter Try.func18, Try.ntmps18
  go_wp2_with fail
  obtain ⟨w0, hw0⟩ : ∃ w0, w0 = (w.alloc (.cells #[.int .i64 size, .string firm, .slice ao ps.length cap] 24)).alloc (.cells #[.int .i64 size, .string firm, .slice bo ps.length cbp] 24) := ⟨_, rfl⟩
  have c02 : w0.cell? ⟨w.heap.size, 2, none⟩ = some (.slice ao ps.length cap) := by rw [hw0]; simp
  have c12 : w0.cell? ⟨w.heap.size + 1, 2, none⟩ = some (.slice bo ps.length cbp) := by rw [hw0]; simp
  have hz0 : w0.heap.size = w.heap.size + 2 := by rw [hw0]; simp
  rw [← hw0] at hb0 HP HQ ⊢
  clear hw0
  go_loopw [5] (fun i wr => ∃ k : Nat, k ≤ ps.length ∧ i = .int .i64 k ∧ Below w0.heap.size w0 wr) (fun i _ => ps.length - (intOf i).toNat)
  case atStart => exact ⟨0, Nat.zero_le _, rfl, Below.refl _ _⟩
  case round =>
    obtain ⟨k, hk, rfl, hbr⟩ := hrel
    have HBR := Lib.hid hbr
    have m02 := (hbr.cell (p := ⟨w.heap.size, 2, none⟩) (by show w.heap.size < w0.heap.size; omega)).trans c02
    have m12 := (hbr.cell (p := ⟨w.heap.size + 1, 2, none⟩) (by show w.heap.size + 1 < w0.heap.size; omega)).trans c12
    by_cases hlt : k < ps.length
    · obtain ⟨b, off, hao, hbw, hca, hcb⟩ := HP.out.cell hlt
      obtain ⟨b2, off2, hao2, hbw2, hca2, hcb2⟩ := HQ.out.cell hlt
      have n1 := (hbr.cell (p := ⟨b, off + k * 2, none⟩) hbw).trans hca
      have n2 := (hbr.cell (p := ⟨b, off + k * 2 + 1, none⟩) hbw).trans hcb
      have n3 := (hbr.cell (p := ⟨b2, off2 + k * 2, none⟩) hbw2).trans hca2
      have n4 := (hbr.cell (p := ⟨b2, off2 + k * 2 + 1, none⟩) hbw2).trans hcb2
      generalize ps.getD k (0, ByteArray.empty) = p at *
      obtain ⟨pa, pd⟩ := p
      simp only at n1 n2 n3 n4
      subst hao hao2
      clear hca hcb hca2 hcb2 hbr
      have f1 : (pa == pa) = true := beq_self_eq_true _
      go_wp2_with fail
      go_region
      all_goals
        go_wp2_with fail
        go_roundw
        case rel => exact ⟨k + 1, by omega, by go_num, HBR.out.drew⟩
        case measure => simp [intOf]; omega
    · obtain rfl : k = ps.length := by omega
      go_wp2_with fail
      go_ret
      exact ⟨rfl, hb0.trans (HBR.out.mono (by omega))⟩

/-- Few: at most a hundred sectors, and as many of Loose, of a hundred bytes. -/
def few (d : Gw.Disk.Disk) : Bool := (d.loose.all fun p => decide (p.2.size ≤ 100)) && (decide (d.size ≤ 100) && (decide (d.firm.size ≤ 2000) && decide (d.loose.length ≤ 100)))

set_option maxRecDepth 1000000 in
set_option maxHeartbeats 1000000 in
theorem rfew_any (d : Gw.Disk.Disk) (hl : d.loose.length ≤ maxLen) (sl : Value) (w : World) (hp : PatchesAt w sl d.loose) :
    Calls Try.prog 11 #[diskV d sl] w fun e w' => e = .returned (.bool (few d)) ∧ Below w.heap.size w w' := by
  obtain ⟨size, firm, ps⟩ := d
  simp only at hl hp
  unfold maxLen at hl
  obtain ⟨ao, cap, rfl⟩ := hp.form
  unfold diskV
  simp only
  have hb0 := ((Below.refl w.heap.size w).new (.cells #[.int .i64 size, .string firm, .slice ao ps.length cap] 24))
  have HP := Lib.hid (hp.below hb0 (Nat.le_refl _))
  clear hp
  have HFW := Lib.hid (show few ⟨size, firm, ps⟩ = ((ps.all fun p => decide (p.2.size ≤ 100)) && (decide (size ≤ 100) && (decide (firm.size ≤ 2000) && decide (ps.length ≤ 100)))) from rfl)
  go_enter Try.func11, Try.ntmps11
  go_wp2_with fail
  obtain ⟨w0, hw0⟩ : ∃ w0, w0 = w.alloc (.cells #[.int .i64 size, .string firm, .slice ao ps.length cap] 24) := ⟨_, rfl⟩
  have c00 : w0.cell? ⟨w.heap.size, 0, none⟩ = some (.int .i64 size) := by rw [hw0]; simp
  have c01 : w0.cell? ⟨w.heap.size, 1, none⟩ = some (.string firm) := by rw [hw0]; simp
  have c02 : w0.cell? ⟨w.heap.size, 2, none⟩ = some (.slice ao ps.length cap) := by rw [hw0]; simp
  have hz0 : w0.heap.size = w.heap.size + 1 := by rw [hw0]; simp
  rw [← hw0] at hb0 HP ⊢
  clear hw0
  have q0 : w.heap.size < w0.heap.size := by omega
  go_loopw [3] (fun i wr => ∃ k : Nat, k ≤ ps.length ∧ i = .int .i64 k ∧ Below w0.heap.size w0 wr ∧ (ps.take k).all (fun p => decide (p.2.size ≤ 100)) = true) (fun i _ => ps.length - (intOf i).toNat)
  case atStart => exact ⟨0, Nat.zero_le _, rfl, Below.refl _ _, rfl⟩
  case round =>
    obtain ⟨k, hk, rfl, hbr, hall⟩ := hrel
    have HBR := Lib.hid hbr
    have HALL := Lib.hid hall
    have m00 := (hbr.cell (p := ⟨w.heap.size, 0, none⟩) q0).trans c00
    have m01 := (hbr.cell (p := ⟨w.heap.size, 1, none⟩) q0).trans c01
    have m02 := (hbr.cell (p := ⟨w.heap.size, 2, none⟩) q0).trans c02
    clear hall
    by_cases hlt : k < ps.length
    · obtain ⟨b, off, hao, hbw, hca, hcb⟩ := HP.out.cell hlt
      have n1 := (hbr.cell (p := ⟨b, off + k * 2, none⟩) hbw).trans hca
      have n2 := (hbr.cell (p := ⟨b, off + k * 2 + 1, none⟩) hbw).trans hcb
      have hget : ps.getD k (0, ByteArray.empty) = ps[k] := by rw [List.getD_eq_getElem?_getD, List.getElem?_eq_getElem hlt]; rfl
      have htk : (ps.take (k + 1)).all (fun p => decide (p.2.size ≤ 100)) = ((ps.take k).all (fun p => decide (p.2.size ≤ 100)) && decide ((ps.getD k (0, ByteArray.empty)).2.size ≤ 100)) := by
        rw [List.take_succ_eq_append_getElem hlt, List.all_append, hget]
        simp
      have hno : ¬ (ps.getD k (0, ByteArray.empty)).2.size ≤ 100 → few ⟨size, firm, ps⟩ = false := fun h => by
        rw [HFW.out, Bool.and_eq_false_iff]
        refine .inl ?_
        rw [Bool.eq_false_iff]
        intro h2
        rw [List.all_eq_true] at h2
        have h3 := h2 _ (by rw [hget]; exact List.getElem_mem hlt : ps.getD k (0, ByteArray.empty) ∈ ps)
        exact h (of_decide_eq_true h3)
      have HTK := Lib.hid htk
      have HNO := Lib.hid hno
      clear htk hno hget
      generalize ps.getD k (0, ByteArray.empty) = p at *
      obtain ⟨pa, pd⟩ := p
      simp only at n1 n2
      subst hao
      clear hca hcb hbr
      by_cases hs : pd.size ≤ 100
      · have e1 : decide ((100 : Int) < (pd.size : Int)) = false := decide_eq_false (by omega)
        have HF := Lib.hid (show decide (pd.size ≤ 100) = true from decide_eq_true hs)
        clear hs
        go_wp2_with fail
        go_roundw
        case rel => exact ⟨k + 1, by omega, by go_num, HBR.out, by rw [HTK.out, HALL.out, HF.out]; rfl⟩
        case measure => simp [intOf]; omega
      · have e1 : decide ((100 : Int) < (pd.size : Int)) = true := decide_eq_true (by omega)
        have HF := Lib.hid (HNO.out hs)
        clear hs
        go_wp2_with fail
        go_ret
        exact ⟨by rw [HF.out]; rfl, hb0.trans (HBR.out.mono (by omega))⟩
    · obtain rfl : k = ps.length := by omega
      have ha := HALL.out
      rw [List.take_length] at ha
      have hf : few ⟨size, firm, ps⟩ = (decide (size ≤ 100) && (decide (firm.size ≤ 2000) && decide (ps.length ≤ 100))) := by rw [HFW.out, ha, Bool.true_and]
      have HF := Lib.hid hf
      clear ha hf
      by_cases h1 : size ≤ 100
      · by_cases h2 : firm.size ≤ 2000
        · have e1 : decide (size ≤ 100) = true := decide_eq_true h1
          have e2 : decide ((firm.size : Int) ≤ 2000) = true := decide_eq_true (by omega)
          have E := Lib.hid (show (decide (firm.size ≤ 2000)) = true from decide_eq_true h2)
          clear h1 h2
          by_cases h3 : ps.length ≤ 100
          · have e3 : decide ((ps.length : Int) ≤ 100) = true := decide_eq_true (by omega)
            have E3 := Lib.hid (show (decide (ps.length ≤ 100)) = true from decide_eq_true h3)
            clear h3
            go_wp2_with fail
            go_ret
            exact ⟨by rw [HF.out, E.out, E3.out, e1]; rfl, hb0.trans (HBR.out.mono (by omega))⟩
          · have e3 : decide ((ps.length : Int) ≤ 100) = false := decide_eq_false (by omega)
            have E3 := Lib.hid (show (decide (ps.length ≤ 100)) = false from decide_eq_false h3)
            clear h3
            go_wp2_with fail
            go_ret
            exact ⟨by rw [HF.out, E.out, E3.out, e1]; rfl, hb0.trans (HBR.out.mono (by omega))⟩
        · have e1 : decide (size ≤ 100) = true := decide_eq_true h1
          have e2 : decide ((firm.size : Int) ≤ 2000) = false := decide_eq_false (by omega)
          have E := Lib.hid (show (decide (firm.size ≤ 2000)) = false from decide_eq_false h2)
          clear h1 h2
          go_wp2_with fail
          go_ret
          exact ⟨by rw [HF.out, E.out, e1]; rfl, hb0.trans (HBR.out.mono (by omega))⟩
      · have e1 : decide (size ≤ 100) = false := decide_eq_false h1
        clear h1
        go_wp2_with fail
        go_ret
        exact ⟨by rw [HF.out, e1]; rfl, hb0.trans (HBR.out.mono (by omega))⟩
end Go.Proofs.Ytfehckdcjgmcpaa
