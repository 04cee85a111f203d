/- Texts that have runes are their runes' bytes, one rune behind the other: plain Lean. -/
import Derived.Test.YtkflmicpifohhaaRNameLaw
import GoSem.Op.String
namespace Gw.Rune
open Gw.RName

/-- A rune's bytes. -/
def encN (r : Nat) : List Nat :=
  if r < 128 then [r] else if r < 2048 then [192 + r / 64, 128 + r % 64] else if r < 65536 then [224 + r / 4096, 128 + r / 64 % 64, 128 + r % 64] else [240 + r / 262144, 128 + r / 4096 % 64, 128 + r / 64 % 64, 128 + r % 64]
def enc (r : Nat) : List UInt8 := (encN r).map UInt8.ofNat
theorem enc_pos (r : Nat) : 0 < (enc r).length := by
  unfold enc encN; split
  · simp
  · split
    · simp
    · split <;> simp
theorem u8 {n : Nat} (h : n < 256) : (UInt8.ofNat n).toNat = n := by simp; omega
theorem u8_of {x : UInt8} {n : Nat} (h : x.toNat = n) : x = UInt8.ofNat n := by subst h; simp
theorem size_cases (b : Nat) : (b < 128 ∧ size b = 1) ∨ ((194 ≤ b ∧ b < 224) ∧ size b = 2) ∨ ((224 ≤ b ∧ b < 240) ∧ size b = 3) ∨ ((240 ≤ b ∧ b < 245) ∧ size b = 4) ∨ ((128 ≤ b ∧ b < 194 ∨ 245 ≤ b) ∧ size b = 0) := by
  unfold size
  split
  · exact .inl ⟨by assumption, rfl⟩
  · split
    · exact .inr (.inl ⟨by assumption, rfl⟩)
    · split
      · exact .inr (.inr (.inl ⟨by assumption, rfl⟩))
      · split
        · exact .inr (.inr (.inr (.inl ⟨by assumption, rfl⟩)))
        · exact .inr (.inr (.inr (.inr ⟨by omega, rfl⟩)))
theorem takeB_enc (b0 b1 b2 b3 l : Nat) (h0 : b0 < 256) (h1 : b1 < 256) (h2 : b2 < 256) (h3 : b3 < 256) (hn : (takeB b0 b1 b2 b3 l).2 ≠ 0) :
    vN (takeB b0 b1 b2 b3 l).1 ∧ encN (takeB b0 b1 b2 b3 l).1 = [b0, b1, b2, b3].take (takeB b0 b1 b2 b3 l).2 ∧ (takeB b0 b1 b2 b3 l).2 ≤ l ∧ (takeB b0 b1 b2 b3 l).2 ≤ 4 := by
  unfold takeB at hn ⊢
  rcases size_cases b0 with ⟨hb, hs⟩ | ⟨hb, hs⟩ | ⟨hb, hs⟩ | ⟨hb, hs⟩ | ⟨hb, hs⟩ <;> rw [hs] at hn ⊢
  · by_cases hl : (1 : Nat) = 0 ∨ l < 1
    · rw [if_pos hl] at hn; exact absurd rfl hn
    rw [if_neg hl, if_pos rfl]
    refine ⟨.inl (by simp only; omega), ?_, by simp only; omega, by simp⟩
    simp only
    unfold encN
    rw [if_pos hb]; rfl
  · by_cases hl : (2 : Nat) = 0 ∨ l < 2
    · rw [if_pos hl] at hn; exact absurd rfl hn
    rw [if_neg hl, if_neg (by decide), if_pos rfl] at hn ⊢
    by_cases hc : b1 < 128 ∨ 192 ≤ b1
    · rw [if_pos hc] at hn; exact absurd rfl hn
    rw [if_neg hc] at hn ⊢
    unfold fin at hn ⊢
    have hle : least 2 = 128 := rfl
    rw [hle] at hn ⊢
    generalize hr : b0 % 64 * 64 + b1 % 64 = r at hn ⊢
    by_cases hf : r < 128 ∨ (55296 ≤ r ∧ r ≤ 57343) ∨ 1114111 < r
    · rw [if_pos hf] at hn; exact absurd rfl hn
    rw [if_neg hf]
    refine ⟨by unfold vN; simp only; omega, ?_, by simp only; omega, by simp⟩
    simp only
    unfold encN
    rw [if_neg (by omega), if_pos (by omega)]
    show [_, _] = [b0, b1]
    simp only [List.cons.injEq, and_true]; omega
  · by_cases hl : (3 : Nat) = 0 ∨ l < 3
    · rw [if_pos hl] at hn; exact absurd rfl hn
    rw [if_neg hl, if_neg (by decide), if_neg (by decide), if_pos rfl] at hn ⊢
    by_cases hc : (b1 < 128 ∨ 192 ≤ b1) ∨ (b2 < 128 ∨ 192 ≤ b2)
    · rw [if_pos hc] at hn; exact absurd rfl hn
    rw [if_neg hc] at hn ⊢
    unfold fin at hn ⊢
    have hle : least 3 = 2048 := rfl
    rw [hle] at hn ⊢
    generalize hr : (b0 % 16 * 64 + b1 % 64) * 64 + b2 % 64 = r at hn ⊢
    by_cases hf : r < 2048 ∨ (55296 ≤ r ∧ r ≤ 57343) ∨ 1114111 < r
    · rw [if_pos hf] at hn; exact absurd rfl hn
    rw [if_neg hf]
    refine ⟨by unfold vN; simp only; omega, ?_, by simp only; omega, by simp⟩
    simp only
    unfold encN
    rw [if_neg (by omega), if_neg (by omega), if_pos (by omega)]
    show [_, _, _] = [b0, b1, b2]
    simp only [List.cons.injEq, and_true]; omega
  · by_cases hl : (4 : Nat) = 0 ∨ l < 4
    · rw [if_pos hl] at hn; exact absurd rfl hn
    rw [if_neg hl, if_neg (by decide), if_neg (by decide), if_neg (by decide)] at hn ⊢
    by_cases hc : (b1 < 128 ∨ 192 ≤ b1) ∨ (b2 < 128 ∨ 192 ≤ b2) ∨ (b3 < 128 ∨ 192 ≤ b3)
    · rw [if_pos hc] at hn; exact absurd rfl hn
    rw [if_neg hc] at hn ⊢
    unfold fin at hn ⊢
    have hle : least 4 = 65536 := rfl
    rw [hle] at hn ⊢
    generalize hr : ((b0 % 8 * 64 + b1 % 64) * 64 + b2 % 64) * 64 + b3 % 64 = r at hn ⊢
    by_cases hf : r < 65536 ∨ (55296 ≤ r ∧ r ≤ 57343) ∨ 1114111 < r
    · rw [if_pos hf] at hn; exact absurd rfl hn
    rw [if_neg hf]
    refine ⟨by unfold vN; simp only; omega, ?_, by simp only; omega, by simp⟩
    simp only
    unfold encN
    rw [if_neg (by omega), if_neg (by omega), if_neg (by omega)]
    show [_, _, _, _] = [b0, b1, b2, b3]
    simp only [List.cons.injEq, and_true]; omega
  · rw [if_pos (.inl rfl)] at hn; exact absurd rfl hn
theorem drop_cells (s : List UInt8) : ∀ (k p : Nat), p + k ≤ s.length → s.drop p = ((List.range k).map fun i => s.getD (p + i) 0) ++ s.drop (p + k)
  | 0, p, _ => by simp
  | k + 1, p, h => by
    rw [drop_cells s k p (by omega), List.range_succ, List.map_append, List.append_assoc]
    congr 1
    rw [List.drop_eq_getElem_cons (by omega : p + k < s.length)]
    simp [List.getD_eq_getElem?_getD, List.getElem?_eq_getElem (by omega : p + k < s.length), Nat.add_assoc]
/-- A rune that is taken is a rune whose bytes stand there. -/
theorem take_enc (s : List UInt8) (p : Nat) (hp : p < s.length) (hn : (take s p).2 ≠ 0) : vN (take s p).1 ∧ s.drop p = enc (take s p).1 ++ s.drop (p + (take s p).2) := by
  rw [take_eq s p hp] at hn ⊢
  obtain ⟨h1, h2, h3, h4⟩ := takeB_enc _ _ _ _ _ (UInt8.toNat_lt _) (UInt8.toNat_lt _) (UInt8.toNat_lt _) (UInt8.toNat_lt _) hn
  refine ⟨h1, ?_⟩
  unfold enc
  rw [h2]
  generalize (takeB _ _ _ _ _).2 = n at *
  rw [drop_cells s n p (by omega)]
  congr 1
  have e : ∀ x : UInt8, UInt8.ofNat x.toNat = x := fun x => by simp
  match n, h4 with
  | 0, _ => rfl
  | 1, _ => simp [e, List.range_succ]
  | 2, _ => simp [e, List.range_succ]
  | 3, _ => simp [e, List.range_succ]
  | 4, _ => simp [e, List.range_succ]
/-- A rune whose bytes stand there is taken. -/
theorem take_of_enc {r : Nat} (h : vN r) (t : List UInt8) : take (enc r ++ t) 0 = (r, (enc r).length) := by
  have hp := enc_pos r
  rw [take_eq _ 0 (by rw [List.length_append]; omega)]
  unfold vN at h
  unfold takeB
  unfold enc encN
  by_cases c1 : r < 128
  · rw [if_pos c1]
    have e0 : (([r].map UInt8.ofNat ++ t).getD 0 0).toNat = r := u8 (by omega)
    rw [e0]
    have hs : size r = 1 := by unfold size; rw [if_pos c1]
    rw [hs, if_neg (by simp), if_pos rfl]; rfl
  by_cases c2 : r < 2048
  · rw [if_neg c1, if_pos c2]
    have e0 : (([192 + r / 64, 128 + r % 64].map UInt8.ofNat ++ t).getD 0 0).toNat = 192 + r / 64 := u8 (by omega)
    have e1 : (([192 + r / 64, 128 + r % 64].map UInt8.ofNat ++ t).getD (0 + 1) 0).toNat = 128 + r % 64 := u8 (by omega)
    rw [e0, e1]
    have hs : size (192 + r / 64) = 2 := by unfold size; rw [if_neg (by omega), if_pos (by omega)]
    have hl : least 2 = 128 := rfl
    rw [hs, if_neg (by simp), if_neg (by decide), if_pos rfl, if_neg (by omega), show (192 + r / 64) % 64 * 64 + (128 + r % 64) % 64 = r by omega]
    unfold fin
    rw [hl, if_neg (by omega)]; rfl
  by_cases c3 : r < 65536
  · rw [if_neg c1, if_neg c2, if_pos c3]
    have e0 : (([224 + r / 4096, 128 + r / 64 % 64, 128 + r % 64].map UInt8.ofNat ++ t).getD 0 0).toNat = 224 + r / 4096 := u8 (by omega)
    have e1 : (([224 + r / 4096, 128 + r / 64 % 64, 128 + r % 64].map UInt8.ofNat ++ t).getD (0 + 1) 0).toNat = 128 + r / 64 % 64 := u8 (by omega)
    have e2 : (([224 + r / 4096, 128 + r / 64 % 64, 128 + r % 64].map UInt8.ofNat ++ t).getD (0 + 2) 0).toNat = 128 + r % 64 := u8 (by omega)
    rw [e0, e1, e2]
    have hs : size (224 + r / 4096) = 3 := by unfold size; rw [if_neg (by omega), if_neg (by omega), if_pos (by omega)]
    have hl : least 3 = 2048 := rfl
    rw [hs, if_neg (by simp), if_neg (by decide), if_neg (by decide), if_pos rfl, if_neg (by omega), show ((224 + r / 4096) % 16 * 64 + (128 + r / 64 % 64) % 64) * 64 + (128 + r % 64) % 64 = r by omega]
    unfold fin
    rw [hl, if_neg (by omega)]; rfl
  · rw [if_neg c1, if_neg c2, if_neg c3]
    have e0 : (([240 + r / 262144, 128 + r / 4096 % 64, 128 + r / 64 % 64, 128 + r % 64].map UInt8.ofNat ++ t).getD 0 0).toNat = 240 + r / 262144 := u8 (by omega)
    have e1 : (([240 + r / 262144, 128 + r / 4096 % 64, 128 + r / 64 % 64, 128 + r % 64].map UInt8.ofNat ++ t).getD (0 + 1) 0).toNat = 128 + r / 4096 % 64 := u8 (by omega)
    have e2 : (([240 + r / 262144, 128 + r / 4096 % 64, 128 + r / 64 % 64, 128 + r % 64].map UInt8.ofNat ++ t).getD (0 + 2) 0).toNat = 128 + r / 64 % 64 := u8 (by omega)
    have e3 : (([240 + r / 262144, 128 + r / 4096 % 64, 128 + r / 64 % 64, 128 + r % 64].map UInt8.ofNat ++ t).getD (0 + 3) 0).toNat = 128 + r % 64 := u8 (by omega)
    rw [e0, e1, e2, e3]
    have hs : size (240 + r / 262144) = 4 := by unfold size; rw [if_neg (by omega), if_neg (by omega), if_neg (by omega), if_pos (by omega)]
    have hl : least 4 = 65536 := rfl
    rw [hs, if_neg (by simp), if_neg (by decide), if_neg (by decide), if_neg (by decide), if_neg (by omega), show (((240 + r / 262144) % 8 * 64 + (128 + r / 4096 % 64) % 64) * 64 + (128 + r / 64 % 64) % 64) * 64 + (128 + r % 64) % 64 = r by omega]
    unfold fin
    rw [hl, if_neg (by omega)]; rfl
end Gw.Rune
