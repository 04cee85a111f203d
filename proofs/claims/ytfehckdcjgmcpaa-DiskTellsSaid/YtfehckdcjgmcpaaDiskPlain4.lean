/- Plain laws of disks: two writes. -/
import Derived.Test.YtfehckdcjgmcpaaDiskPlain3
namespace Gw.Disk
theorem write_done {d : Disk} {a : Nat} {s : ByteArray} (h : writeErr d (a : Int) s = 0) : write d (a : Int) s = ⟨d.size, d.firm, d.loose ++ wrote (a : Int) s (manyOf s)⟩ := by rw [write, if_pos h]
theorem write_size (d : Disk) (a : Int) (s : ByteArray) : (write d a s).size = d.size := by unfold write; split <;> rfl
theorem write_len (d : Disk) (a : Int) (s : ByteArray) : (write d a s).loose.length ≤ d.loose.length + manyOf s := by
  unfold write
  split
  · rw [List.length_append, wrote_length]
    exact Nat.le_refl _
  · omega
/-- The order of two writes that share no sector does not matter to a flush. -/
theorem two_writes {d : Disk} (hc : check d = true) (a b : Int) (s t : ByteArray) (h1 : writeErr d a s = 0) (h2 : writeErr (write d a s) b t = 0) (h3 : writeErr d b t = 0) (h4 : writeErr (write d b t) a s = 0)
    (hno : ¬ (b < a + (manyOf s : Int) ∧ a < b + (manyOf t : Int))) : flush (write (write d a s) b t) = flush (write (write d b t) a s) := by
  obtain ⟨x, rfl, hx⟩ := writeErr_zero h1
  obtain ⟨y, rfl, hy⟩ := writeErr_zero h3
  have e1 := write_done h1
  have e3 := write_done h3
  rw [write_done h2, write_done h4, e1, e3]
  have c1 := check_wrote hc x s hx
  have c3 := check_wrote hc y t hy
  have c2 := check_wrote c1 y t hy
  have c4 := check_wrote c3 x s hx
  have hs := check_spec hc
  rw [flush_firm c2, flush_firm c4]
  unfold firmOf
  simp only
  congr 2
  refine congrArg List.toArray ?_
  have g2 := seen_flat c2 0 d.size.toNat (by show ((0 + d.size.toNat : Nat) : Int) ≤ d.size; omega)
  have g4 := seen_flat c4 0 d.size.toNat (by show ((0 + d.size.toNat : Nat) : Int) ≤ d.size; omega)
  refine g2.trans (Eq.trans (flat_congr _ _ _ (fun i _ => ?_)) g4.symm)
  simp only [Nat.zero_add, sec_wrote]
  by_cases p : x ≤ i ∧ i < x + manyOf s
  · have q : ¬ (y ≤ i ∧ i < y + manyOf t) := by omega
    simp only [p, q, if_true, if_false, and_self]
  · simp only [p, if_false]
end Gw.Disk
