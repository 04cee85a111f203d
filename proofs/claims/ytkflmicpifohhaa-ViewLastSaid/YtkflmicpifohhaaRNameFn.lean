/- What the document's answer for names (gunwaleref01) computes, in plain Lean. -/
import Derived.Test.YtkflmicpifohhaaNameFn
namespace Gw.RName
def size (c : Nat) : Nat := if c < 128 then 1 else if 194 ≤ c ∧ c < 224 then 2 else if 224 ≤ c ∧ c < 240 then 3 else if 240 ≤ c ∧ c < 245 then 4 else 0
theorem size_le (c : Nat) : size c ≤ 4 := by unfold size; split <;> (try split) <;> (try split) <;> (try split) <;> omega
def least (n : Nat) : Nat := if n = 1 then 0 else if n = 2 then 128 else if n = 3 then 2048 else 65536
def contF (s : List UInt8) (p n : Nat) : Nat → Nat → Nat → Option Nat
  | 0, _, r => some r
  | f + 1, i, r => if i < n then (if (s.getD (p + i) 0).toNat < 128 ∨ 192 ≤ (s.getD (p + i) 0).toNat then none else contF s p n f (i + 1) (r * 64 + (s.getD (p + i) 0).toNat % 64)) else some r
def first (c n : Nat) : Nat := if n = 4 then c % 8 else if n = 3 then c % 16 else c % 64
def fin (n r : Nat) : Nat × Nat := if r < least n ∨ (55296 ≤ r ∧ r ≤ 57343) ∨ 1114111 < r then (0, 0) else (r, n)
def finO (n : Nat) : Option Nat → Nat × Nat
  | none => (0, 0)
  | some r => fin n r
/-- The rune at a place, and how many bytes it has. -/
def take (s : List UInt8) (p : Nat) : Nat × Nat :=
  if size (s.getD p 0).toNat = 0 ∨ s.length < p + size (s.getD p 0).toNat then (0, 0) else if size (s.getD p 0).toNat = 1 then ((s.getD p 0).toNat, 1) else
    finO (size (s.getD p 0).toNat) (contF s p (size (s.getD p 0).toNat) 4 1 (first (s.getD p 0).toNat (size (s.getD p 0).toNat)))
def allF (s : List UInt8) : Nat → Nat → List Int → Option (List Int)
  | 0, _, acc => some acc
  | f + 1, p, acc => if p < s.length then (if (take s p).2 = 0 then none else allF s f (p + (take s p).2) (acc ++ [((take s p).1 : Int)])) else some acc
def all (s : List UInt8) : Option (List Int) := allF s (s.length + 1) 0 []
def check (s : List UInt8) : Bool := match all s with | none => false | some l => Gw.Name.okL s l
end Gw.RName
