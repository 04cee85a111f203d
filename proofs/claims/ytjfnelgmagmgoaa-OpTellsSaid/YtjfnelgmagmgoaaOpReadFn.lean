/- What op.Read and op.Write compute, in plain Lean. -/
import Derived.Test.YtjfnelgmagmgoaaOpTakeFn
namespace Gw.Op
theorem fText_len {mk : List UInt8 → Op} {rest r : List UInt8} {o : Op} (h : fText mk rest = some (o, r)) : r.length ≤ rest.length := by
  unfold fText done at h
  split at h
  · cases h
  · split at h
    · simp only [Option.some.injEq, Prod.mk.injEq] at h
      rw [← h.2, List.length_drop]; omega
    · cases h
theorem f45_len {c r n : Nat} {rest q : List UInt8} {o : Op} (h : f45 c r n rest = some (o, q)) : q.length ≤ rest.length := by
  unfold f45 f5 at h
  split at h
  · cases h
  · have := fText_len h; rw [List.length_drop] at this; omega
theorem f4_len {c r k n : Nat} {rest q : List UInt8} {o : Op} (h : f4 c r k n rest = some (o, q)) : q.length ≤ rest.length := by
  unfold f4 at h
  split at h
  · exact f45_len h
  · exact fText_len h
theorem f3_len {c r k : Nat} {rest q : List UInt8} {o : Op} (h : f3 c r k rest = some (o, q)) : q.length ≤ rest.length := by
  unfold f3 at h
  split at h
  · cases h
  · have := f4_len h; rw [List.length_drop] at this; omega
theorem f2_len {c r : Nat} {rest q : List UInt8} {o : Op} (h : f2 c r rest = some (o, q)) : q.length ≤ rest.length := by
  unfold f2 at h
  split at h
  · cases h
  · have := f3_len h; rw [List.length_drop] at this; omega
theorem f1_len {c : Nat} {rest q : List UInt8} {o : Op} (h : f1 c rest = some (o, q)) : q.length ≤ rest.length := by
  unfold f1 at h
  split at h
  · cases h
  · have := f2_len h; rw [List.length_drop] at this; omega
theorem take_len {rest q : List UInt8} {o : Op} (h : take rest = some (o, q)) : q.length < rest.length := by
  unfold take at h
  split at h
  · cases h
  · rename_i n u hn
    have h1 := f1_len h
    have h2 := Gw.Vlq.takeF_some rest 0 0 n u (by omega) hn
    rw [List.length_drop] at h1
    omega
def readF : Nat → List UInt8 → List Op → Option (List Op)
  | 0, _, acc => some acc
  | f + 1, b, acc => if b = [] then some acc else match take b with
    | none => none
    | some (o, r) => readF f r (acc ++ [o])
/-- The operations of bytes. -/
def read (b : List UInt8) : Option (List Op) := readF (b.length + 1) b []
def fewL (l : List Op) : Bool := l.all fun o => decide (o.name.length ≤ 1000) && decide (o.data.length ≤ 1000)
end Gw.Op
