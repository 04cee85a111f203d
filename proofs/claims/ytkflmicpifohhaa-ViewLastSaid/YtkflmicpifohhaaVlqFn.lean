/- What the package vlq computes, in plain Lean: no program in sight. -/
namespace Gw.Vlq

/-- A number's high digits, each with 128 more; the fuel is more than any number of the machine has. -/
def high : Nat → Nat → List UInt8
  | 0, _ => []
  | f + 1, n => if n = 0 then [] else high f (n / 128) ++ [UInt8.ofNat (n % 128 + 128)]
def one (n : Nat) : List UInt8 := high 10 (n / 128) ++ [UInt8.ofNat (n % 128)]
def sizeF : Nat → Nat → Nat
  | 0, _ => 1
  | f + 1, n => if n < 128 then 1 else sizeF f (n / 128) + 1
def size (n : Nat) : Nat := sizeF 9 n
/-- Digit i of so many. -/
def digit (n size i : Nat) : Nat := n / 128 ^ (size - 1 - i) % 128 + (if i + 1 < size then 128 else 0)
def digits (n size k : Nat) : List UInt8 := (List.range k).map fun i => UInt8.ofNat (digit n size i)
def many (l : List Nat) : List UInt8 := (l.map one).flatten
def takeF (n i : Nat) : List UInt8 → Option (Nat × Nat)
  | [] => none
  | c :: l => if (i = 0 ∧ c.toNat = 128) ∨ 72057594037927935 < n then none else if c.toNat < 128 then some (n * 128 + c.toNat, i + 1) else takeF (n * 128 + c.toNat % 128) (i + 1) l
def take (l : List UInt8) : Option (Nat × Nat) := takeF 0 0 l
def text (b t : List UInt8) : List UInt8 := b ++ one t.length ++ t

theorem sizeF_pos (f n : Nat) : 1 ≤ sizeF f n := by
  cases f with
  | zero => exact Nat.le_refl _
  | succ f => unfold sizeF; split <;> omega
theorem sizeF_le (f n : Nat) : sizeF f n ≤ f + 1 := by
  induction f generalizing n with
  | zero => exact Nat.le_refl _
  | succ f ih => unfold sizeF; have := ih (n / 128); split <;> omega
theorem size_pos (n : Nat) : 1 ≤ size n := sizeF_pos _ _
theorem sizeF_le9 : ∀ (f n : Nat), n < 128 ^ (f + 1) → sizeF (f + 1) n ≤ f + 1
  | 0, n, h => by unfold sizeF; rw [if_pos (by simpa using h)]; omega
  | f + 1, n, h => by
    unfold sizeF
    split
    · omega
    · have := sizeF_le9 f (n / 128) (by rw [Nat.pow_succ] at h; omega)
      omega
theorem size_le9 (n : Nat) (h : n < 9223372036854775808) : size n ≤ 9 := sizeF_le9 8 n (by omega)
theorem high_length : ∀ (f n : Nat), n < 128 ^ f → (high f (n / 128)).length + 1 = sizeF f n
  | 0, n, h => by simp [high, sizeF]
  | f + 1, n, h => by
    unfold high sizeF
    by_cases hn : n < 128
    · rw [if_pos (by omega), if_pos hn]; rfl
    · rw [if_neg (by omega), if_neg hn, List.length_append]
      have := high_length f (n / 128) (by rw [Nat.pow_succ] at h; omega)
      simp
      omega
theorem high_fuel : ∀ (f g n : Nat), n < 128 ^ f → f ≤ g → high g n = high f n
  | 0, g, n, h, _ => by
    have : n = 0 := by simpa using h
    subst this
    cases g <;> simp [high]
  | f + 1, 0, _, _, hg => by omega
  | f + 1, g + 1, n, h, hg => by
    unfold high
    rw [high_fuel f g (n / 128) (by rw [Nat.pow_succ] at h; omega) (by omega)]
theorem one_length (n : Nat) (h : n < 128 ^ 9) : (one n).length = size n := by
  unfold one size
  rw [List.length_append, high_fuel 9 10 (n / 128) (by omega) (by omega)]
  exact high_length 9 n h
theorem digits_succ (n size k : Nat) : digits n size (k + 1) = digits n size k ++ [UInt8.ofNat (digit n size k)] := by
  simp [digits, List.range_succ]
/-- The digits, one by one, are the number's bytes. -/
theorem high_digits : ∀ (f n : Nat), n < 128 ^ f → high f (n / 128) = digits n (sizeF f n) (sizeF f n - 1)
  | 0, n, _ => by simp [high, sizeF, digits]
  | f + 1, n, h => by
    unfold high sizeF
    by_cases hn : n < 128
    · rw [if_pos (by omega), if_pos hn]; rfl
    · rw [if_neg (by omega), if_neg hn]
      have hf : n / 128 < 128 ^ f := by rw [Nat.pow_succ] at h; omega
      have ih := high_digits f (n / 128) hf
      have hp := sizeF_pos f (n / 128)
      generalize sizeF f (n / 128) = s at *
      rw [ih, show s + 1 - 1 = (s - 1) + 1 from by omega, digits_succ]
      congr 1
      · unfold digits
        refine List.map_congr_left fun i hi => ?_
        have hi' : i < s - 1 := by simpa using hi
        unfold digit
        rw [if_pos (by omega), if_pos (by omega)]
        congr 3
        rw [Nat.div_div_eq_div_mul, ← Nat.pow_succ', show (s - 1 - i).succ = s + 1 - 1 - i from by omega]
      · unfold digit
        rw [show s + 1 - 1 - (s - 1) = 1 from by omega, if_pos (by omega), Nat.pow_one]
theorem one_digits (n : Nat) (h : n < 128 ^ 9) : one n = digits n (size n) (size n) := by
  have hp := size_pos n
  unfold one
  rw [high_fuel 9 10 (n / 128) (by omega) (by omega), high_digits 9 n h]
  unfold size at *
  generalize sizeF 9 n = s at *
  have e := digits_succ n s (s - 1)
  rw [show s - 1 + 1 = s from by omega] at e
  rw [e]
  congr 1
  unfold digit
  rw [show s - 1 - (s - 1) = 0 from by omega, if_neg (by omega), Nat.pow_zero, Nat.div_one, Nat.add_zero]
theorem many_snoc (l : List Nat) (n : Nat) : many (l ++ [n]) = many l ++ one n := by simp [many]
theorem many_append (l m : List Nat) : many (l ++ m) = many l ++ many m := by simp [many]

/- Taking, step by step. -/
theorem takeF_stop (n i : Nat) (c : UInt8) (l : List UInt8) (h : (i = 0 ∧ c.toNat = 128) ∨ 72057594037927935 < n) : takeF n i (c :: l) = none := by
  unfold takeF; rw [if_pos h]
theorem takeF_last (n i : Nat) (c : UInt8) (l : List UInt8) (h : ¬ ((i = 0 ∧ c.toNat = 128) ∨ 72057594037927935 < n)) (hc : c.toNat < 128) : takeF n i (c :: l) = some (n * 128 + c.toNat, i + 1) := by
  unfold takeF; rw [if_neg h, if_pos hc]
theorem takeF_more (n i : Nat) (c : UInt8) (l : List UInt8) (h : ¬ ((i = 0 ∧ c.toNat = 128) ∨ 72057594037927935 < n)) (hc : ¬ c.toNat < 128) : takeF n i (c :: l) = takeF (n * 128 + c.toNat % 128) (i + 1) l := by
  conv => lhs; unfold takeF
  rw [if_neg h, if_neg hc]
/-- What is used of the bytes, and how great the number is. -/
theorem takeF_some : ∀ (l : List UInt8) (n i m u : Nat), n < 9223372036854775808 → takeF n i l = some (m, u) → i + 1 ≤ u ∧ u ≤ i + l.length ∧ m < 9223372036854775808
  | [], n, i, m, u, _, h => by simp [takeF] at h
  | c :: l, n, i, m, u, hn, h => by
    unfold takeF at h
    have hc := UInt8.toNat_lt c
    split at h
    · cases h
    · rename_i h1
      split at h
      · rename_i h2
        simp only [Option.some.injEq, Prod.mk.injEq] at h
        simp only [List.length_cons]
        omega
      · have h3 := takeF_some l _ _ m u (by omega) h
        simp only [List.length_cons]
        omega
end Gw.Vlq



