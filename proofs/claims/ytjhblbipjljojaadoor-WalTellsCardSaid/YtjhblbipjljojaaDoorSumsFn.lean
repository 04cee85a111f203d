/- What the sums package computes, in plain Lean over natural numbers and lists of bytes: no program in sight. -/
namespace Gw.Sums

def step (x : Nat) : Nat := (x * 2 % 4294967296) ^^^ (if x < 2147483648 then 0 else 79764919)
def iter : Nat → Nat → Nat
  | 0, x => x
  | k + 1, x => step (iter k x)
def add (n c : Nat) : Nat := iter 8 (n ^^^ (c * 16777216))
def sumFrom (n : Nat) (l : List UInt8) : Nat := l.foldl (fun n c => add n c.toNat) n
def sum (l : List UInt8) : Nat := sumFrom 4294967295 l
def bytes (n : Nat) : List UInt8 := [UInt8.ofNat (n / 16777216), UInt8.ofNat (n / 65536), UInt8.ofNat (n / 256), UInt8.ofNat n]
def seal_ (l : List UInt8) : List UInt8 := l ++ bytes (sum l)

theorem step_lt (x : Nat) : step x < 4294967296 := by
  unfold step
  refine Nat.xor_lt_two_pow (n := 32) (by omega) ?_
  split <;> omega
theorem step_lo {x : Nat} (h : x < 2147483648) : step x = x * 2 % 4294967296 := by simp [step, h]
theorem step_hi {x : Nat} (h : ¬ x < 2147483648) : step x = (x * 2 % 4294967296) ^^^ 79764919 := by simp [step, h]
theorem iter_lt (k x : Nat) (h : x < 4294967296) : iter k x < 4294967296 := by
  cases k with
  | zero => exact h
  | succ k => exact step_lt _
theorem add_lt (n c : Nat) : add n c < 4294967296 := step_lt _
theorem sumFrom_lt (n : Nat) (l : List UInt8) (h : n < 4294967296) : sumFrom n l < 4294967296 := by
  induction l generalizing n with
  | nil => exact h
  | cons c l ih => exact ih _ (add_lt _ _)
theorem sum_lt (l : List UInt8) : sum l < 4294967296 := sumFrom_lt _ _ (by omega)
theorem sumFrom_append (n : Nat) (a b : List UInt8) : sumFrom n (a ++ b) = sumFrom (sumFrom n a) b := by simp [sumFrom]
theorem sumFrom_snoc (n : Nat) (a : List UInt8) (c : UInt8) : sumFrom n (a ++ [c]) = add (sumFrom n a) c.toNat := by simp [sumFrom]

end Gw.Sums



