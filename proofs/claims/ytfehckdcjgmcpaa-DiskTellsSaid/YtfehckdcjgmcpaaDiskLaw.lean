/- Plain laws of disks. -/
import Derived.Test.YtfehckdcjgmcpaaDiskWrFn
namespace Gw.Disk

theorem new_nat (n : Nat) (h : n ≤ 65536) : new (n : Int) = ⟨(n : Int), ⟨(List.replicate (n * 16) (0 : UInt8)).toArray⟩, []⟩ := by
  unfold new
  have e : min (max (n : Int) 0) 65536 = (n : Int) := by omega
  rw [e, Int.toNat_natCast]
theorem check_new (n : Nat) (h : n ≤ 65536) (x : ByteArray) (hx : x.size = n * 16) : check ⟨(n : Int), x, []⟩ = true := by
  unfold check
  have h2 : (x.size : Int) = (n : Int) * 16 := by omega
  simp [h2]
  omega
theorem read_new (n : Nat) (x : ByteArray) (hx : x.size = n * 16) (hc : check ⟨(n : Int), x, []⟩ = true) : read ⟨(n : Int), x, []⟩ 0 (n : Int) = x.data.toList ∧ readErr ⟨(n : Int), x, []⟩ 0 (n : Int) = 0 := by
  have hm : mayRead ⟨(n : Int), x, []⟩ 0 (n : Int) = true := by
    unfold mayRead
    rw [hc]
    simp
  have hl : x.data.toList.length = n * 16 := hx
  refine ⟨?_, by simp [readErr, hm]⟩
  rw [read, if_pos hm]
  unfold seen
  rw [Int.toNat_zero, Int.toNat_natCast, Nat.zero_mul, List.drop_zero, List.take_of_length_le (l := x.data.toList) (i := n * 16) (by omega)]
  rfl
theorem writeErr_good (d : Disk) (hc : check d = true) (a : Nat) (s : ByteArray) : writeErr d (a : Int) s = if d.size - (manyOf s : Int) < (a : Int) then 120 else 0 := by
  unfold writeErr
  rw [if_neg (by rw [hc]; simp)]
end Gw.Disk
