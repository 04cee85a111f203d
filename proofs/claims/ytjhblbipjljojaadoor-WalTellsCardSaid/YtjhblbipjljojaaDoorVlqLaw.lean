/- The plain laws of vlq: no program in sight. -/
import Derived.Test.YtjhblbipjljojaaDoorVlqFn
namespace Gw.Vlq

theorem high_nil (f n : Nat) (hf : 0 < f) : high f n = [] ↔ n = 0 := by
  obtain ⟨g, rfl⟩ : ∃ g, f = g + 1 := ⟨f - 1, by omega⟩
  unfold high
  by_cases h : n = 0 <;> simp [h]
theorem takeF_high : ∀ (f q : Nat) (l : List UInt8), q < 128 ^ f → q ≤ 72057594037927935 → takeF 0 0 (high f q ++ l) = takeF q (high f q).length l
  | 0, q, l, h, _ => by
    have : q = 0 := by simpa using h
    subst this
    rfl
  | f + 1, q, l, h, h56 => by
    unfold high
    by_cases hq : q = 0
    · rw [if_pos hq, hq]
      rfl
    · rw [if_neg hq, List.append_assoc, takeF_high f (q / 128) _ (by rw [Nat.pow_succ] at h; omega) (by omega)]
      have hc : (UInt8.ofNat (q % 128 + 128)).toNat = q % 128 + 128 := by rw [UInt8.toNat_ofNat']; omega
      rw [List.singleton_append, takeF_more _ _ _ _ _ (by rw [hc]; omega), hc, List.length_append, List.length_singleton]
      · congr 1
        omega
      · rw [hc]
        rintro (⟨h1, h2⟩ | h1)
        · have h3 : high f (q / 128) = [] := List.eq_nil_of_length_eq_zero h1
          rcases Nat.eq_zero_or_pos f with hf | hf
          · subst hf
            simp at h
            omega
          · rw [high_nil _ _ hf] at h3
            omega
        · omega
theorem take_one (n : Nat) (hn : n < 9223372036854775808) (l : List UInt8) : take (one n ++ l) = some (n, (one n).length) := by
  unfold take one
  rw [List.append_assoc, takeF_high 10 (n / 128) _ (by omega) (by omega)]
  have hc : (UInt8.ofNat (n % 128)).toNat = n % 128 := by rw [UInt8.toNat_ofNat']; omega
  rw [List.singleton_append, takeF_last _ _ _ _ (by rw [hc]; omega) (by rw [hc]; omega), hc, List.length_append, List.length_singleton]
  congr 2
  omega

theorem takeF_own : ∀ (l p : List UInt8) (n m u : Nat), p = high 10 n → takeF n p.length l = some (m, u) → one m = (p ++ l).take u
  | [], _, _, _, _, _, h => by simp [takeF] at h
  | c :: l, p, n, m, u, hp, h => by
    have hcl := UInt8.toNat_lt c
    by_cases hs : (p.length = 0 ∧ c.toNat = 128) ∨ 72057594037927935 < n
    · rw [takeF_stop _ _ _ _ hs] at h
      cases h
    · by_cases hlast : c.toNat < 128
      · rw [takeF_last _ _ _ _ hs hlast] at h
        simp only [Option.some.injEq, Prod.mk.injEq] at h
        obtain ⟨rfl, rfl⟩ := h
        unfold one
        rw [show (n * 128 + c.toNat) / 128 = n from by omega, show (n * 128 + c.toNat) % 128 = c.toNat from by omega, ← hp, UInt8.ofNat_toNat]
        rw [List.take_append]
        simp
        exact (List.take_of_length_le (by omega)).symm
      · rw [takeF_more _ _ _ _ hs hlast] at h
        have hn' : n * 128 + c.toNat % 128 ≠ 0 := by
          intro h0
          have hn0 : n = 0 := by omega
          have : p = [] := by rw [hp, hn0]; rfl
          rw [this] at hs
          apply hs
          left
          refine ⟨rfl, by omega⟩
        have hp' : p ++ [c] = high 10 (n * 128 + c.toNat % 128) := by
          rw [show high 10 (n * 128 + c.toNat % 128) = high 9 ((n * 128 + c.toNat % 128) / 128) ++ [UInt8.ofNat ((n * 128 + c.toNat % 128) % 128 + 128)] from by
            conv => lhs; unfold high
            rw [if_neg hn']]
          rw [show (n * 128 + c.toNat % 128) / 128 = n from by omega, show (n * 128 + c.toNat % 128) % 128 + 128 = c.toNat from by omega, UInt8.ofNat_toNat, hp, high_fuel 9 10 n (by omega) (by omega)]
        have ih := takeF_own l (p ++ [c]) (n * 128 + c.toNat % 128) m u hp' (by rw [List.length_append]; exact h)
        rw [ih, List.append_assoc]
        rfl
/-- Bytes of which a number is taken begin with its own. -/
theorem take_own (l : List UInt8) (m u : Nat) (h : take l = some (m, u)) : one m = l.take u := by
  have := takeF_own l [] 0 m u rfl h
  simpa using this

theorem takeF_none (l : List UInt8) (n i : Nat) (h : ∀ c ∈ l, 128 ≤ c.toNat) : takeF n i l = none := by
  induction l generalizing n i with
  | nil => rfl
  | cons c l ih =>
    have hc := h c (by simp)
    unfold takeF
    split
    · rfl
    · rw [if_neg (by omega)]
      exact ih _ _ (fun d hd => h d (by simp [hd]))
theorem high_bytes (f n : Nat) : ∀ c ∈ high f n, 128 ≤ c.toNat := by
  induction f generalizing n with
  | zero => simp [high]
  | succ f ih =>
    unfold high
    split
    · simp
    · intro c hc
      rw [List.mem_append, List.mem_singleton] at hc
      rcases hc with hc | rfl
      · exact ih _ c hc
      · rw [UInt8.toNat_ofNat']
        omega
/-- A number's bytes that are cut are none. -/
theorem take_cut (n j : Nat) (h : j < (one n).length) : take ((one n).take j) = none := by
  unfold take
  refine takeF_none _ _ _ ?_
  intro c hc
  unfold one at h hc
  rw [List.length_append, List.length_singleton] at h
  rw [List.take_append_of_le_length (by omega)] at hc
  exact high_bytes _ _ c (List.mem_of_mem_take hc)

theorem sizeF_mono (f a b : Nat) (h : a ≤ b) : sizeF f a ≤ sizeF f b := by
  induction f generalizing a b with
  | zero => exact Nat.le_refl _
  | succ f ih =>
    unfold sizeF
    have := ih (a / 128) (b / 128) (Nat.div_le_div_right h)
    have := sizeF_pos f (b / 128)
    split <;> split <;> omega
theorem size_mono (a b : Nat) (h : a ≤ b) : size a ≤ size b := sizeF_mono _ _ _ h
theorem sizeF_more : ∀ (f n : Nat), 1 ≤ f → n < 128 ^ f → sizeF (f + 1) n = sizeF f n
  | f + 1, n, _, h => by
    conv => lhs; unfold sizeF
    conv => rhs; unfold sizeF
    by_cases hn : n < 128
    · rw [if_pos hn, if_pos hn]
    · rw [if_neg hn, if_neg hn]
      rcases Nat.eq_zero_or_pos f with hf | hf
      · subst hf
        simp at h
        omega
      · rw [sizeF_more f (n / 128) hf (by rw [Nat.pow_succ] at h; omega)]
theorem size_times (a : Nat) (h0 : a ≠ 0) (h : a < 72057594037927936) : size (128 * a) = size a + 1 := by
  unfold size
  conv => lhs; unfold sizeF
  rw [if_neg (by omega), show 128 * a / 128 = a from by omega, ← sizeF_more 8 a (by omega) (by omega)]
end Gw.Vlq
