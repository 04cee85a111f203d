/- What disk.Write computes, in plain Lean. -/
import Derived.Test.YtfehckdcjgmcpaaDiskFn
namespace Gw.Disk
/-- The first k sectors of a text, as patches from a place on. -/
def wrote (at_ : Int) (s : ByteArray) (k : Nat) : List (Int × ByteArray) := (List.range k).map fun i : Nat => (at_ + (i : Int), ⟨(((pad s).drop (i * 16)).take 16).toArray⟩)
theorem wrote_length (at_ : Int) (s : ByteArray) (k : Nat) : (wrote at_ s k).length = k := by simp [wrote]
theorem wrote_succ (at_ : Int) (s : ByteArray) (k : Nat) : wrote at_ s (k + 1) = wrote at_ s k ++ [(at_ + (k : Int), ⟨(((pad s).drop (k * 16)).take 16).toArray⟩)] := by
  unfold wrote
  rw [List.range_succ, List.map_append]
  rfl
theorem pad_length (s : ByteArray) : (pad s).length = manyOf s * 16 := by rw [← padTo_all, padTo_length]
def writeErr (d : Disk) (at_ : Int) (s : ByteArray) : Nat := if check d = false ∨ at_ < 0 then 121 else if d.size - (manyOf s : Int) < at_ then 120 else 0
def write (d : Disk) (at_ : Int) (s : ByteArray) : Disk := if writeErr d at_ s = 0 then ⟨d.size, d.firm, d.loose ++ wrote at_ s (manyOf s)⟩ else d
end Gw.Disk
