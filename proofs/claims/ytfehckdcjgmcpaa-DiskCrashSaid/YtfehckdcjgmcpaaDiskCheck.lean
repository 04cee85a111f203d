/- The walks of the package disk: many, Check. -/
import Derived.Test.YtfehckdcjgmcpaaDiskMem
namespace Go.Proofs.Ytfehckdcjgmcpaa
open Go.RowKit

set_option maxHeartbeats 400000 in
theorem many_any (s : ByteArray) (hs : s.size < 1000000000000) (w : World) :
    Calls Try.prog 26 #[.string s] w fun e w' => e = .returned (.int .i64 (((s.size + 15) / 16 : Nat) : Int)) ∧ w = w' := by
  go_enter Try.func26, Try.ntmps26
  go_wp2_with fail
  go_ret
  exact ⟨by go_num, rfl⟩

set_option maxRecDepth 1000000 in
set_option maxHeartbeats 1000000 in
theorem check_any (d : Gw.Disk.Disk) (hsz : -9223372036854775808 ≤ d.size ∧ d.size ≤ 9223372036854775807) (hl : d.loose.length ≤ maxLen) (sl : Value) (w : World) (hp : PatchesAt w sl d.loose) :
    Calls Try.prog 16 #[diskV d sl] w fun e w' => e = .returned (.bool (Gw.Disk.check d)) ∧ Below w.heap.size w w' := by
  obtain ⟨size, firm, ps⟩ := d
  simp only at hsz hl hp
  unfold maxLen at hl
  obtain ⟨ao, cap, rfl⟩ := hp.form
  unfold diskV
  simp only
  have HP := Lib.hid hp
  clear hp
  by_cases h0 : 0 ≤ size
  · by_cases h1 : size ≤ 65536
    · by_cases h2 : (firm.size : Int) = size * 16
      · have hd0 : decide (size < 0) = false := decide_eq_false (by omega)
        have hd1 : decide ((65536 : Int) < size) = false := decide_eq_false (by omega)
        have hd2 : ((firm.size : Int) != size * 16) = false := by rw [bne_eq_false_iff_eq]; exact h2
        have hck : Gw.Disk.check ⟨size, firm, ps⟩ = ps.all (Gw.Disk.fits size) := by simp [Gw.Disk.check, h0, h1, h2]
        have HCK := Lib.hid hck
        clear hck h2
        go_enter Try.func16, Try.ntmps16
        go_wp2_with fail
        have w1c : World := w
        obtain ⟨w1, hw1⟩ : ∃ w1, w1 = w.alloc (.cells #[.int .i64 size, .string firm, .slice ao ps.length cap] 24) := ⟨_, rfl⟩
        rw [← hw1]
        have hz1 : w1.heap.size = w.heap.size + 1 := by rw [hw1]; simp
        have hc0 : w1.cell? ⟨w.heap.size, 0, none⟩ = some (.int .i64 size) := by rw [hw1]; simp
        have hb1 : Below w.heap.size w w1 := by rw [hw1]; exact (Below.refl _ _).new _
        have HP1 := Lib.hid (HP.out.below hb1 (Nat.le_refl _))
        clear hw1 w1c
        go_loopw [25] (fun i wr => ∃ k : Nat, k ≤ ps.length ∧ i = .int .i64 k ∧ Below w1.heap.size w1 wr ∧ (ps.take k).all (Gw.Disk.fits size) = true) (fun i _ => ps.length - (intOf i).toNat)
        case atStart => exact ⟨0, Nat.zero_le _, rfl, Below.refl _ _, rfl⟩
        case round =>
          obtain ⟨k, hk, rfl, hbr, hall⟩ := hrel
          have hbb : Below w.heap.size w wr := hb1.trans (hbr.mono (by omega))
          have HALL := Lib.hid hall
          clear hall
          by_cases hlt : k < ps.length
          · obtain ⟨b, off, hao, hbw, hca, hcb⟩ := HP1.out.cell hlt
            have hca1 := (hbr.cell (p := ⟨b, off + k * 2, none⟩) hbw).trans hca
            have hcb1 := (hbr.cell (p := ⟨b, off + k * 2 + 1, none⟩) hbw).trans hcb
            have hc01 := (hbr.cell (p := ⟨w.heap.size, 0, none⟩) (by rw [hz1]; exact Nat.lt_succ_self _)).trans hc0
            have hget : ps.getD k (0, ByteArray.empty) = ps[k] := by rw [List.getD_eq_getElem?_getD, List.getElem?_eq_getElem hlt]; rfl
            have htk : (ps.take (k + 1)).all (Gw.Disk.fits size) = ((ps.take k).all (Gw.Disk.fits size) && Gw.Disk.fits size (ps.getD k (0, ByteArray.empty))) := by
              rw [List.take_succ_eq_append_getElem hlt, List.all_append, hget]
              simp
            have hmem : ps.getD k (0, ByteArray.empty) ∈ ps := by rw [hget]; exact List.getElem_mem hlt
            have hz2 : w.heap.size < wr.heap.size := by have := hbr.size; omega
            have hno : Gw.Disk.fits size (ps.getD k (0, ByteArray.empty)) = false → ps.all (Gw.Disk.fits size) = false := fun h => by
              rw [Bool.eq_false_iff]
              intro h2
              rw [List.all_eq_true] at h2
              rw [h2 _ hmem] at h
              cases h
            have HTK := Lib.hid htk
            have HNO := Lib.hid hno
            clear hget htk hmem hno hca hcb
            generalize ps.getD k (0, ByteArray.empty) = p at *
            obtain ⟨pa, pd⟩ := p
            simp only at hca1 hcb1
            subst hao
            by_cases f1 : 0 ≤ pa
            · by_cases f2 : pa < size
              · by_cases f3 : pd.size = 16
                · have e1 : decide (pa < 0) = false := decide_eq_false (by omega)
                  have e2 : decide (size ≤ pa) = false := decide_eq_false (by omega)
                  have e3 : ((pd.size : Int) != 16) = false := by rw [bne_eq_false_iff_eq]; omega
                  have hf : Gw.Disk.fits size (pa, pd) = true := by simp [Gw.Disk.fits, f1, f2, f3]
                  have HF := Lib.hid hf
                  clear hf f3
                  go_wp2_with fail
                  go_roundw
                  case rel => exact ⟨k + 1, by omega, by go_num, hbr.new _, by rw [HTK.out, HALL.out, HF.out]; rfl⟩
                  case measure => simp [intOf]; omega
                · have e1 : decide (pa < 0) = false := decide_eq_false (by omega)
                  have e2 : decide (size ≤ pa) = false := decide_eq_false (by omega)
                  have e3 : ((pd.size : Int) != 16) = true := by rw [bne_iff_ne]; omega
                  have hf : Gw.Disk.fits size (pa, pd) = false := by simp [Gw.Disk.fits, f3]
                  have HF := Lib.hid (HNO.out hf)
                  clear hf f3
                  go_wp2_with fail
                  go_ret
                  exact ⟨by rw [HCK.out, HF.out]; rfl, hbb.new _⟩
              · have e1 : decide (pa < 0) = false := decide_eq_false (by omega)
                have e2 : decide (size ≤ pa) = true := decide_eq_true (by omega)
                have hf : Gw.Disk.fits size (pa, pd) = false := by simp [Gw.Disk.fits, f2]
                have HF := Lib.hid (HNO.out hf)
                clear hf
                go_wp2_with fail
                go_ret
                exact ⟨by rw [HCK.out, HF.out]; rfl, hbb.new _⟩
            · have e1 : decide (pa < 0) = true := decide_eq_true (by omega)
              have hf : Gw.Disk.fits size (pa, pd) = false := by simp [Gw.Disk.fits, f1]
              have HF := Lib.hid (HNO.out hf)
              clear hf
              go_wp2_with fail
              go_ret
              exact ⟨by rw [HCK.out, HF.out]; rfl, hbb.new _⟩
          · obtain rfl : k = ps.length := by omega
            have ha := HALL.out
            rw [List.take_length] at ha
            have HA := Lib.hid ha
            clear ha
            go_wp2_with fail
            go_ret
            exact ⟨by rw [HCK.out, HA.out]; rfl, hbb⟩
      · have hd0 : decide (size < 0) = false := decide_eq_false (by omega)
        have hd1 : decide ((65536 : Int) < size) = false := decide_eq_false (by omega)
        have hd2 : ((firm.size : Int) != size * 16) = true := by rw [bne_iff_ne]; exact h2
        have hck : Gw.Disk.check ⟨size, firm, ps⟩ = false := by simp [Gw.Disk.check, h2]
        have HCK := Lib.hid hck
        clear hck h2
        go_enter Try.func16, Try.ntmps16
        go_wp2_with fail
        go_ret
        exact ⟨by rw [HCK.out]; rfl, (Below.refl _ _).new _⟩
    · have hd0 : decide (size < 0) = false := decide_eq_false (by omega)
      have hd1 : decide ((65536 : Int) < size) = true := decide_eq_true (by omega)
      have hck : Gw.Disk.check ⟨size, firm, ps⟩ = false := by simp [Gw.Disk.check, h1]
      have HCK := Lib.hid hck
      clear hck
      go_enter Try.func16, Try.ntmps16
      go_wp2_with fail
      go_ret
      exact ⟨by rw [HCK.out]; rfl, (Below.refl _ _).new _⟩
  · have hd0 : decide (size < 0) = true := decide_eq_true (by omega)
    have hck : Gw.Disk.check ⟨size, firm, ps⟩ = false := by simp [Gw.Disk.check, h0]
    have HCK := Lib.hid hck
    clear hck
    go_enter Try.func16, Try.ntmps16
    go_wp2_with fail
    go_ret
    exact ⟨by rw [HCK.out]; rfl, (Below.refl _ _).new _⟩
end Go.Proofs.Ytfehckdcjgmcpaa
