/- Plain laws of disks: what was flushed. -/
import Derived.Test.YtfehckdcjgmcpaaDiskPlain2
namespace Gw.Disk
/-- The disk behind a flush. -/
def firmOf (d : Disk) : Disk := ⟨d.size, ⟨(seen d 0 d.size.toNat).toArray⟩, []⟩
theorem flush_firm {d : Disk} (hc : check d = true) : flush d = firmOf d := by rw [flush, if_pos hc]; rfl
theorem firmOf_check {d : Disk} (hc : check d = true) : check (firmOf d) = true := by
  have hs := check_spec hc
  have hl := seen_length d hc 0 d.size.toNat (by omega)
  have h2 : (firmOf d).firm.size = d.size.toNat * 16 := by
    show (seen d 0 d.size.toNat).toArray.size = _
    rw [List.size_toArray, hl]
  have h3 : (firmOf d).size = d.size := rfl
  unfold check
  rw [h3]
  show ((decide (0 ≤ d.size) && (decide (d.size ≤ 65536) && decide (((firmOf d).firm.size : Int) = d.size * 16))) && ([] : List (Int × ByteArray)).all (fits d.size)) = true
  rw [h2]
  simp
  omega
theorem firmOf_seen {d : Disk} (hc : check d = true) (a n : Nat) (h : ((a + n : Nat) : Int) ≤ d.size) : seen (firmOf d) a n = seen d a n := by
  have hs := check_spec hc
  have h1 : seen (firmOf d) a n = ((seen d 0 d.size.toNat).drop (a * 16)).take (n * 16) := rfl
  rw [h1, seen_flat hc 0 d.size.toNat (by omega), seen_flat hc a n h]
  rw [flat_cut _ _ _ _ (fun i hi => by rw [Nat.zero_add]; exact sec_length hc i (by omega)) (by omega)]
  exact flat_congr _ _ _ (fun i _ => by rw [Nat.zero_add])
theorem firmOf_read {d : Disk} (hc : check d = true) (a n : Int) : read (firmOf d) a n = read d a n ∧ readErr (firmOf d) a n = readErr d a n := by
  have hm := readErr_same (d' := firmOf d) hc (firmOf_check hc) rfl a n
  refine ⟨?_, hm.2⟩
  unfold read
  rw [hm.1]
  split
  · rename_i hr
    have hs := mayRead_spec hr
    obtain ⟨k, rfl⟩ := Int.eq_ofNat_of_zero_le hs.2.1
    obtain ⟨m, rfl⟩ := Int.eq_ofNat_of_zero_le hs.2.2.1
    rw [Int.toNat_natCast, Int.toNat_natCast]
    exact firmOf_seen hc k m (by omega)
  · rfl
theorem firmOf_flush {d : Disk} (hc : check d = true) : flush (firmOf d) = firmOf d := by
  have hs := check_spec hc
  rw [flush_firm (firmOf_check hc)]
  unfold firmOf
  congr 2
  rw [show (⟨d.size, ⟨(seen d 0 d.size.toNat).toArray⟩, []⟩ : Disk) = firmOf d from rfl]
  exact congrArg List.toArray (firmOf_seen hc 0 d.size.toNat (by omega))
theorem firmOf_crash {d : Disk} (hc : check d = true) (picks : ByteArray) : crash (firmOf d) picks = firmOf d := by
  rw [crash, if_pos (firmOf_check hc)]
  rfl
end Gw.Disk
