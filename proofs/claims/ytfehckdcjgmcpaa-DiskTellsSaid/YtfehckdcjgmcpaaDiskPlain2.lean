/- Plain laws of disks: what is read behind a write. -/
import Derived.Test.YtfehckdcjgmcpaaDiskPlain
namespace Gw.Disk
theorem readErr_same {d d' : Disk} (hc : check d = true) (hc' : check d' = true) (hs : d'.size = d.size) (o n : Int) : mayRead d' o n = mayRead d o n ∧ readErr d' o n = readErr d o n := by
  have h : mayRead d' o n = mayRead d o n := by unfold mayRead; rw [hc, hc', hs]
  exact ⟨h, by unfold readErr; rw [h]⟩
theorem mayRead_spec {d : Disk} {a n : Int} (h : mayRead d a n = true) : check d = true ∧ 0 ≤ a ∧ 0 ≤ n ∧ n ≤ d.size - a := by
  unfold mayRead at h
  simp only [Bool.and_eq_true, decide_eq_true_eq] at h
  exact h
theorem read_seen {d : Disk} (hc : check d = true) (a n : Nat) (h : ((a + n : Nat) : Int) ≤ d.size) : read d (a : Int) (n : Int) = seen d a n ∧ readErr d (a : Int) (n : Int) = 0 := by
  have hm : mayRead d (a : Int) (n : Int) = true := by
    unfold mayRead
    rw [hc]
    simp only [Bool.true_and, Bool.and_eq_true, decide_eq_true_eq]
    omega
  exact ⟨by rw [read, if_pos hm, Int.toNat_natCast, Int.toNat_natCast], by simp [readErr, hm]⟩
theorem read_wrote {d : Disk} (hc : check d = true) (a : Nat) (s : ByteArray) (h : ((a + manyOf s : Nat) : Int) ≤ d.size) :
    read ⟨d.size, d.firm, d.loose ++ wrote (a : Int) s (manyOf s)⟩ (a : Int) (manyOf s : Int) = pad s ∧ readErr ⟨d.size, d.firm, d.loose ++ wrote (a : Int) s (manyOf s)⟩ (a : Int) (manyOf s : Int) = 0 := by
  have h1 := read_seen (check_wrote hc a s h) a (manyOf s) h
  rw [h1.1, seen_wrote hc a s h]
  exact ⟨rfl, h1.2⟩
theorem read_other {d : Disk} (hc : check d = true) (a : Nat) (s : ByteArray) (h : ((a + manyOf s : Nat) : Int) ≤ d.size) (o : Int) (ho : ¬ ((a : Int) ≤ o ∧ o < (a : Int) + (manyOf s : Int))) :
    read ⟨d.size, d.firm, d.loose ++ wrote (a : Int) s (manyOf s)⟩ o 1 = read d o 1 := by
  have hm := (readErr_same (d' := ⟨d.size, d.firm, d.loose ++ wrote (a : Int) s (manyOf s)⟩) hc (check_wrote hc a s h) rfl o 1).1
  unfold read
  rw [hm]
  split
  · rename_i hr
    have hs := mayRead_spec hr
    obtain ⟨k, rfl⟩ := Int.eq_ofNat_of_zero_le hs.2.1
    rw [Int.toNat_natCast]
    exact seen_wrote_other hc a s h k (by omega) (by omega)
  · rfl
theorem writeErr_zero {d : Disk} {a : Int} {s : ByteArray} (h : writeErr d a s = 0) : ∃ k : Nat, a = (k : Int) ∧ ((k + manyOf s : Nat) : Int) ≤ d.size := by
  unfold writeErr at h
  split at h
  · cases h
  · rename_i h1
    split at h
    · cases h
    · rename_i h2
      have h3 : ¬ a < 0 := fun h4 => h1 (.inr h4)
      obtain ⟨k, rfl⟩ := Int.eq_ofNat_of_zero_le (Int.not_lt.1 h3)
      exact ⟨k, rfl, by omega⟩
theorem pad_zero (s : ByteArray) (i : Nat) (h1 : s.size ≤ i) (h : i < (pad s).length) : (pad s)[i] = 0 := by
  have hl : s.data.toList.length = s.size := rfl
  unfold pad at h ⊢
  rw [List.getElem_append_right (by omega), List.getElem_replicate]
theorem pad_take (s : ByteArray) : (pad s).take s.size = s.data.toList := by
  have hl : s.data.toList.length = s.size := rfl
  unfold pad
  rw [List.take_append_of_le_length (by omega), List.take_of_length_le (by omega)]
end Gw.Disk
