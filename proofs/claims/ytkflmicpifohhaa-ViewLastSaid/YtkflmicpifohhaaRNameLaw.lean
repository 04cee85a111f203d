/- The plain law: the runes that the model reads are those of the document's answer. -/
import Derived.Test.YtkflmicpifohhaaRNameFn
namespace Gw.RName
open Gw.Name

theorem get_bang (s : List UInt8) (i : Nat) : (ByteArray.get! ⟨s.toArray⟩ i) = s.getD i 0 := by
  simp [ByteArray.get!]
  rfl

def vN (c : Nat) : Prop := c < 55296 ∨ (57344 ≤ c ∧ c ≤ 1114111)
instance (c : Nat) : Decidable (vN c) := by unfold vN; infer_instance
theorem valid_iff (c : Nat) : (Go.Utf8.valid (c : Int) = true) = vN c := by
  apply propext
  unfold Go.Utf8.valid vN
  simp only [Bool.or_eq_true, Bool.and_eq_true, decide_eq_true_eq]
  omega

/-- Both, told by the four bytes, and how many there are. -/
def decB (b0 b1 b2 b3 l : Nat) : Nat × Nat :=
  if b0 < 128 then (b0, 1)
  else if b0 / 32 = 6 ∧ 1 < l ∧ b1 / 64 = 2 then (if 128 ≤ b0 % 32 * 64 + b1 % 64 then (b0 % 32 * 64 + b1 % 64, 2) else (65533, 1))
  else if b0 / 16 = 14 ∧ 1 < l ∧ b1 / 64 = 2 ∧ 2 < l ∧ b2 / 64 = 2 then (if 2048 ≤ b0 % 16 * 4096 + b1 % 64 * 64 + b2 % 64 ∧ vN (b0 % 16 * 4096 + b1 % 64 * 64 + b2 % 64) then (b0 % 16 * 4096 + b1 % 64 * 64 + b2 % 64, 3) else (65533, 1))
  else if b0 / 8 = 30 ∧ 1 < l ∧ b1 / 64 = 2 ∧ 2 < l ∧ b2 / 64 = 2 ∧ 3 < l ∧ b3 / 64 = 2 then (if 65536 ≤ b0 % 8 * 262144 + b1 % 64 * 4096 + b2 % 64 * 64 + b3 % 64 ∧ vN (b0 % 8 * 262144 + b1 % 64 * 4096 + b2 % 64 * 64 + b3 % 64) then (b0 % 8 * 262144 + b1 % 64 * 4096 + b2 % 64 * 64 + b3 % 64, 4) else (65533, 1))
  else (65533, 1)
theorem dec_eq (s : List UInt8) (p : Nat) (hp : p < s.length) : dec s p = decB (s.getD p 0).toNat (s.getD (p + 1) 0).toNat (s.getD (p + 2) 0).toNat (s.getD (p + 3) 0).toNat (s.length - p) := by
  unfold dec Go.Utf8.decode decB
  have hsz : (⟨s.toArray⟩ : ByteArray).size = s.length := rfl
  have e1 : ∀ k, (p + k < s.length) = (k < s.length - p) := fun k => by apply propext; omega
  simp only [get_bang, hsz, e1, Nat.add_zero, Bool.and_eq_true, beq_iff_eq, decide_eq_true_eq, Go.Utf8.runeError, ge_iff_le, and_assoc, valid_iff]

def takeB (b0 b1 b2 b3 l : Nat) : Nat × Nat :=
  if size b0 = 0 ∨ l < size b0 then (0, 0) else if size b0 = 1 then (b0, 1) else
    if size b0 = 2 then (if b1 < 128 ∨ 192 ≤ b1 then (0, 0) else fin 2 (b0 % 64 * 64 + b1 % 64))
    else if size b0 = 3 then (if (b1 < 128 ∨ 192 ≤ b1) ∨ (b2 < 128 ∨ 192 ≤ b2) then (0, 0) else fin 3 ((b0 % 16 * 64 + b1 % 64) * 64 + b2 % 64))
    else (if (b1 < 128 ∨ 192 ≤ b1) ∨ (b2 < 128 ∨ 192 ≤ b2) ∨ (b3 < 128 ∨ 192 ≤ b3) then (0, 0) else fin 4 (((b0 % 8 * 64 + b1 % 64) * 64 + b2 % 64) * 64 + b3 % 64))
theorem contF_end {s : List UInt8} {p n f i r : Nat} (h : ¬ i < n) : contF s p n f i r = some r := by
  cases f with
  | zero => rfl
  | succ f => rw [contF, if_neg h]
theorem contF_step {s : List UInt8} {p n f i r : Nat} (h : i < n) : contF s p n (f + 1) i r = if (s.getD (p + i) 0).toNat < 128 ∨ 192 ≤ (s.getD (p + i) 0).toNat then none else contF s p n f (i + 1) (r * 64 + (s.getD (p + i) 0).toNat % 64) := by
  rw [contF, if_pos h]
theorem take_eq (s : List UInt8) (p : Nat) (hp : p < s.length) : take s p = takeB (s.getD p 0).toNat (s.getD (p + 1) 0).toNat (s.getD (p + 2) 0).toNat (s.getD (p + 3) 0).toNat (s.length - p) := by
  unfold take takeB
  have hle := size_le (s.getD p 0).toNat
  generalize hn : size (s.getD p 0).toNat = n at hle ⊢
  by_cases h0 : n = 0 ∨ s.length - p < n
  · rw [if_pos (show n = 0 ∨ s.length < p + n by omega), if_pos h0]
  rw [if_neg (show ¬ (n = 0 ∨ s.length < p + n) by omega), if_neg h0]
  by_cases h1 : n = 1
  · rw [if_pos h1, if_pos h1]
  rw [if_neg h1, if_neg h1]
  have hn3 : n = 2 ∨ n = 3 ∨ n = 4 := by omega
  rcases hn3 with rfl | rfl | rfl
  · rw [if_pos rfl, contF_step (by decide), contF_end (by decide)]
    split
    · rfl
    · rfl
  · rw [if_neg (by decide), if_pos rfl, contF_step (by decide), contF_step (by decide), contF_end (by decide)]
    by_cases q1 : (s.getD (p + 1) 0).toNat < 128 ∨ 192 ≤ (s.getD (p + 1) 0).toNat
    · rw [if_pos q1, if_pos (.inl q1)]; rfl
    rw [if_neg q1]
    by_cases q2 : (s.getD (p + 2) 0).toNat < 128 ∨ 192 ≤ (s.getD (p + 2) 0).toNat
    · rw [if_pos (show (s.getD (p + (1 + 1)) 0).toNat < 128 ∨ 192 ≤ (s.getD (p + (1 + 1)) 0).toNat from q2), if_pos (.inr q2)]; rfl
    · rw [if_neg (show ¬ ((s.getD (p + (1 + 1)) 0).toNat < 128 ∨ 192 ≤ (s.getD (p + (1 + 1)) 0).toNat) from q2), if_neg (fun h => h.elim q1 q2)]; rfl
  · rw [if_neg (by decide), if_neg (by decide), contF_step (by decide), contF_step (by decide), contF_step (by decide), contF_end (by decide)]
    by_cases q1 : (s.getD (p + 1) 0).toNat < 128 ∨ 192 ≤ (s.getD (p + 1) 0).toNat
    · rw [if_pos q1, if_pos (.inl q1)]; rfl
    rw [if_neg q1]
    by_cases q2 : (s.getD (p + 2) 0).toNat < 128 ∨ 192 ≤ (s.getD (p + 2) 0).toNat
    · rw [if_pos (show (s.getD (p + (1 + 1)) 0).toNat < 128 ∨ 192 ≤ (s.getD (p + (1 + 1)) 0).toNat from q2), if_pos (.inr (.inl q2))]; rfl
    rw [if_neg (show ¬ ((s.getD (p + (1 + 1)) 0).toNat < 128 ∨ 192 ≤ (s.getD (p + (1 + 1)) 0).toNat) from q2)]
    by_cases q3 : (s.getD (p + 3) 0).toNat < 128 ∨ 192 ≤ (s.getD (p + 3) 0).toNat
    · rw [if_pos (show (s.getD (p + (1 + 1 + 1)) 0).toNat < 128 ∨ 192 ≤ (s.getD (p + (1 + 1 + 1)) 0).toNat from q3), if_pos (.inr (.inr q3))]; rfl
    · rw [if_neg (show ¬ ((s.getD (p + (1 + 1 + 1)) 0).toNat < 128 ∨ 192 ≤ (s.getD (p + (1 + 1 + 1)) 0).toNat) from q3), if_neg (fun h => h.elim q1 (fun h => h.elim q2 q3))]; rfl

theorem both (b0 b1 b2 b3 l : Nat) (hl : 0 < l) (h0 : b0 < 256) (h1 : b1 < 256) (h2 : b2 < 256) (h3 : b3 < 256) :
    ((takeB b0 b1 b2 b3 l).2 ≠ 0 → decB b0 b1 b2 b3 l = takeB b0 b1 b2 b3 l ∧ ((takeB b0 b1 b2 b3 l).1 = 65533 → 2 < l ∧ b0 = 239 ∧ b1 = 191 ∧ b2 = 189)) ∧
    ((takeB b0 b1 b2 b3 l).2 = 0 → (decB b0 b1 b2 b3 l).1 = 65533 ∧ ¬ (2 < l ∧ b0 = 239 ∧ b1 = 191 ∧ b2 = 189)) := by
  have hsz : size b0 = if b0 < 128 then 1 else if 194 ≤ b0 ∧ b0 < 224 then 2 else if 224 ≤ b0 ∧ b0 < 240 then 3 else if 240 ≤ b0 ∧ b0 < 245 then 4 else 0 := rfl
  by_cases c1 : b0 < 128
  · rw [if_pos c1] at hsz
    have ht : takeB b0 b1 b2 b3 l = (b0, 1) := by unfold takeB; rw [hsz, if_neg (by omega), if_pos rfl]
    have hd : decB b0 b1 b2 b3 l = (b0, 1) := by unfold decB; rw [if_pos c1]
    rw [ht, hd]
    exact ⟨fun _ => ⟨rfl, fun h => by simp only at h; omega⟩, fun h => by simp at h⟩
  rw [if_neg c1] at hsz
  by_cases c2 : 194 ≤ b0 ∧ b0 < 224
  · rw [if_pos c2] at hsz
    by_cases g : 1 < l ∧ b1 / 64 = 2
    · have ht : takeB b0 b1 b2 b3 l = fin 2 (b0 % 64 * 64 + b1 % 64) := by unfold takeB; rw [hsz, if_neg (by omega), if_neg (by decide), if_pos rfl, if_neg (by omega)]
      have hf : fin 2 (b0 % 64 * 64 + b1 % 64) = (b0 % 64 * 64 + b1 % 64, 2) := by unfold fin; rw [if_neg (by have l2 : least 2 = 128 := rfl; have l3 : least 3 = 2048 := rfl; have l4 : least 4 = 65536 := rfl; omega)]
      have hd : decB b0 b1 b2 b3 l = (b0 % 32 * 64 + b1 % 64, 2) := by unfold decB; rw [if_neg c1, if_pos ⟨by omega, g⟩, if_pos (by omega)]
      have e : b0 % 64 = b0 % 32 := by omega
      rw [ht, hf, hd, e]
      exact ⟨fun _ => ⟨rfl, fun h => by simp only at h; omega⟩, fun h => by simp at h⟩
    · have ht : takeB b0 b1 b2 b3 l = (0, 0) := by
        unfold takeB; rw [hsz]
        by_cases q : l < 2
        · rw [if_pos (.inr q)]
        · rw [if_neg (by omega), if_neg (by decide), if_pos rfl, if_pos (by omega)]
      have hd : decB b0 b1 b2 b3 l = (65533, 1) := by unfold decB; rw [if_neg c1, if_neg (fun h => g h.2), if_neg (by omega), if_neg (by omega)]
      rw [ht, hd]
      exact ⟨fun h => absurd rfl h, fun _ => ⟨rfl, by omega⟩⟩
  rw [if_neg c2] at hsz
  by_cases c3 : 224 ≤ b0 ∧ b0 < 240
  · rw [if_pos c3] at hsz
    by_cases g : 1 < l ∧ b1 / 64 = 2 ∧ 2 < l ∧ b2 / 64 = 2
    · have ht : takeB b0 b1 b2 b3 l = fin 3 ((b0 % 16 * 64 + b1 % 64) * 64 + b2 % 64) := by unfold takeB; rw [hsz, if_neg (by omega), if_neg (by decide), if_neg (by decide), if_pos rfl, if_neg (by omega)]
      have e : (b0 % 16 * 64 + b1 % 64) * 64 + b2 % 64 = b0 % 16 * 4096 + b1 % 64 * 64 + b2 % 64 := by omega
      rw [e] at ht
      by_cases k : 2048 ≤ b0 % 16 * 4096 + b1 % 64 * 64 + b2 % 64 ∧ vN (b0 % 16 * 4096 + b1 % 64 * 64 + b2 % 64)
      · have hd : decB b0 b1 b2 b3 l = (b0 % 16 * 4096 + b1 % 64 * 64 + b2 % 64, 3) := by unfold decB; rw [if_neg c1, if_neg (by omega), if_pos ⟨by omega, g⟩, if_pos k]
        have k2 := k.2; unfold vN at k2
        have hf : fin 3 (b0 % 16 * 4096 + b1 % 64 * 64 + b2 % 64) = (b0 % 16 * 4096 + b1 % 64 * 64 + b2 % 64, 3) := by unfold fin; rw [if_neg (by have l2 : least 2 = 128 := rfl; have l3 : least 3 = 2048 := rfl; have l4 : least 4 = 65536 := rfl; omega)]
        rw [ht, hf, hd]
        exact ⟨fun _ => ⟨rfl, fun h => by simp only at h; omega⟩, fun h => by simp at h⟩
      · have hd : decB b0 b1 b2 b3 l = (65533, 1) := by unfold decB; rw [if_neg c1, if_neg (by omega), if_pos ⟨by omega, g⟩, if_neg k]
        have k2 : b0 % 16 * 4096 + b1 % 64 * 64 + b2 % 64 < 2048 ∨ ¬ (b0 % 16 * 4096 + b1 % 64 * 64 + b2 % 64 < 55296 ∨ (57344 ≤ b0 % 16 * 4096 + b1 % 64 * 64 + b2 % 64 ∧ b0 % 16 * 4096 + b1 % 64 * 64 + b2 % 64 ≤ 1114111)) := by
          by_cases q : 2048 ≤ b0 % 16 * 4096 + b1 % 64 * 64 + b2 % 64
          · exact .inr fun h => k ⟨q, h⟩
          · exact .inl (by omega)
        have hf : fin 3 (b0 % 16 * 4096 + b1 % 64 * 64 + b2 % 64) = (0, 0) := by unfold fin; rw [if_pos (by have l2 : least 2 = 128 := rfl; have l3 : least 3 = 2048 := rfl; have l4 : least 4 = 65536 := rfl; omega)]
        rw [ht, hf, hd]
        exact ⟨fun h => absurd rfl h, fun _ => ⟨rfl, by omega⟩⟩
    · have ht : takeB b0 b1 b2 b3 l = (0, 0) := by
        unfold takeB; rw [hsz]
        by_cases q : l < 3
        · rw [if_pos (.inr q)]
        · rw [if_neg (by omega), if_neg (by decide), if_neg (by decide), if_pos rfl, if_pos (by omega)]
      have hd : decB b0 b1 b2 b3 l = (65533, 1) := by unfold decB; rw [if_neg c1, if_neg (by omega), if_neg (fun h => g h.2), if_neg (by omega)]
      rw [ht, hd]
      exact ⟨fun h => absurd rfl h, fun _ => ⟨rfl, by omega⟩⟩
  rw [if_neg c3] at hsz
  by_cases c4 : 240 ≤ b0 ∧ b0 < 245
  · rw [if_pos c4] at hsz
    by_cases g : 1 < l ∧ b1 / 64 = 2 ∧ 2 < l ∧ b2 / 64 = 2 ∧ 3 < l ∧ b3 / 64 = 2
    · have ht : takeB b0 b1 b2 b3 l = fin 4 (((b0 % 8 * 64 + b1 % 64) * 64 + b2 % 64) * 64 + b3 % 64) := by unfold takeB; rw [hsz, if_neg (by omega), if_neg (by decide), if_neg (by decide), if_neg (by decide), if_neg (by omega)]
      have e : ((b0 % 8 * 64 + b1 % 64) * 64 + b2 % 64) * 64 + b3 % 64 = b0 % 8 * 262144 + b1 % 64 * 4096 + b2 % 64 * 64 + b3 % 64 := by omega
      rw [e] at ht
      by_cases k : 65536 ≤ b0 % 8 * 262144 + b1 % 64 * 4096 + b2 % 64 * 64 + b3 % 64 ∧ vN (b0 % 8 * 262144 + b1 % 64 * 4096 + b2 % 64 * 64 + b3 % 64)
      · have hd : decB b0 b1 b2 b3 l = (b0 % 8 * 262144 + b1 % 64 * 4096 + b2 % 64 * 64 + b3 % 64, 4) := by unfold decB; rw [if_neg c1, if_neg (by omega), if_neg (by omega), if_pos ⟨by omega, g⟩, if_pos k]
        have k2 := k.2; unfold vN at k2
        have hf : fin 4 (b0 % 8 * 262144 + b1 % 64 * 4096 + b2 % 64 * 64 + b3 % 64) = (b0 % 8 * 262144 + b1 % 64 * 4096 + b2 % 64 * 64 + b3 % 64, 4) := by unfold fin; rw [if_neg (by have l2 : least 2 = 128 := rfl; have l3 : least 3 = 2048 := rfl; have l4 : least 4 = 65536 := rfl; omega)]
        rw [ht, hf, hd]
        exact ⟨fun _ => ⟨rfl, fun h => by simp only at h; omega⟩, fun h => by simp at h⟩
      · have hd : decB b0 b1 b2 b3 l = (65533, 1) := by unfold decB; rw [if_neg c1, if_neg (by omega), if_neg (by omega), if_pos ⟨by omega, g⟩, if_neg k]
        have k2 : b0 % 8 * 262144 + b1 % 64 * 4096 + b2 % 64 * 64 + b3 % 64 < 65536 ∨ ¬ (b0 % 8 * 262144 + b1 % 64 * 4096 + b2 % 64 * 64 + b3 % 64 < 55296 ∨ (57344 ≤ b0 % 8 * 262144 + b1 % 64 * 4096 + b2 % 64 * 64 + b3 % 64 ∧ b0 % 8 * 262144 + b1 % 64 * 4096 + b2 % 64 * 64 + b3 % 64 ≤ 1114111)) := by
          by_cases q : 65536 ≤ b0 % 8 * 262144 + b1 % 64 * 4096 + b2 % 64 * 64 + b3 % 64
          · exact .inr fun h => k ⟨q, h⟩
          · exact .inl (by omega)
        have hf : fin 4 (b0 % 8 * 262144 + b1 % 64 * 4096 + b2 % 64 * 64 + b3 % 64) = (0, 0) := by unfold fin; rw [if_pos (by have l2 : least 2 = 128 := rfl; have l3 : least 3 = 2048 := rfl; have l4 : least 4 = 65536 := rfl; omega)]
        rw [ht, hf, hd]
        exact ⟨fun h => absurd rfl h, fun _ => ⟨rfl, by omega⟩⟩
    · have ht : takeB b0 b1 b2 b3 l = (0, 0) := by
        unfold takeB; rw [hsz]
        by_cases q : l < 4
        · rw [if_pos (.inr q)]
        · rw [if_neg (by omega), if_neg (by decide), if_neg (by decide), if_neg (by decide), if_pos (by omega)]
      have hd : decB b0 b1 b2 b3 l = (65533, 1) := by unfold decB; rw [if_neg c1, if_neg (by omega), if_neg (by omega), if_neg (fun h => g h.2)]
      rw [ht, hd]
      exact ⟨fun h => absurd rfl h, fun _ => ⟨rfl, by omega⟩⟩
  rw [if_neg c4] at hsz
  have ht : takeB b0 b1 b2 b3 l = (0, 0) := by unfold takeB; rw [hsz, if_pos (.inl rfl)]
  have hd : (decB b0 b1 b2 b3 l).1 = 65533 := by
    unfold decB
    rw [if_neg c1]
    by_cases q : b0 / 32 = 6 ∧ 1 < l ∧ b1 / 64 = 2
    · rw [if_pos q, if_neg (by omega)]
    rw [if_neg q, if_neg (by omega)]
    by_cases q2 : b0 / 8 = 30 ∧ 1 < l ∧ b1 / 64 = 2 ∧ 2 < l ∧ b2 / 64 = 2 ∧ 3 < l ∧ b3 / 64 = 2
    · rw [if_pos q2]
      by_cases q3 : 65536 ≤ b0 % 8 * 262144 + b1 % 64 * 4096 + b2 % 64 * 64 + b3 % 64 ∧ vN (b0 % 8 * 262144 + b1 % 64 * 4096 + b2 % 64 * 64 + b3 % 64)
      · have := q3.2; unfold vN at this; omega
      · rw [if_neg q3]
    · rw [if_neg q2]
  rw [ht]
  exact ⟨fun h => absurd rfl h, fun _ => ⟨hd, by omega⟩⟩

theorem pre_eq (s : List UInt8) (p : Nat) : isPrefix [239, 191, 189] (s.drop p) = decide (2 < s.length - p ∧ (s.getD p 0).toNat = 239 ∧ (s.getD (p + 1) 0).toNat = 191 ∧ (s.getD (p + 2) 0).toNat = 189) := by
  have e : ∀ i, s.getD (p + i) 0 = (s.drop p).getD i 0 := fun i => by simp [List.getD_eq_getElem?_getD]
  have e0 := e 0
  rw [Nat.add_zero] at e0
  rw [e0, e 1, e 2, ← List.length_drop]
  have k : ∀ (x : UInt8) (n : Nat) (hn : n < 256), (x = UInt8.ofNat n) = (x.toNat = n) := fun x n hn => by
    apply propext
    constructor
    · rintro rfl; simp; omega
    · intro h; apply UInt8.toNat_inj.1; rw [h]; simp; omega
  generalize s.drop p = t
  unfold isPrefix
  match t with
  | [] => rfl
  | [a] => rfl
  | [a, b] => rfl
  | a :: b :: c :: t =>
    have k0 := k a 239 (by decide)
    have k1 := k b 191 (by decide)
    have k2 := k c 189 (by decide)
    rw [Bool.eq_iff_iff]
    simp only [Bool.and_eq_true, decide_eq_true_eq, List.length_cons, List.take_succ_cons, List.take_zero, List.cons.injEq, List.length_nil, and_true, List.getD_cons_zero, List.getD_cons_succ]
    rw [← k0, ← k1, ← k2]
    constructor
    · rintro ⟨_, h⟩; exact ⟨by omega, h⟩
    · rintro ⟨_, h⟩; exact ⟨by omega, h⟩
theorem step (s : List UInt8) (p : Nat) (hp : p < s.length) :
    ((take s p).2 ≠ 0 → dec s p = take s p ∧ ((take s p).1 = 65533 → isPrefix [239, 191, 189] (s.drop p) = true)) ∧ ((take s p).2 = 0 → (dec s p).1 = 65533 ∧ isPrefix [239, 191, 189] (s.drop p) = false) := by
  rw [dec_eq s p hp, take_eq s p hp, pre_eq]
  obtain ⟨h1, h2⟩ := both (s.getD p 0).toNat (s.getD (p + 1) 0).toNat (s.getD (p + 2) 0).toNat (s.getD (p + 3) 0).toNat (s.length - p) (by omega) (UInt8.toNat_lt _) (UInt8.toNat_lt _) (UInt8.toNat_lt _) (UInt8.toNat_lt _)
  exact ⟨fun h => ⟨(h1 h).1, fun h' => decide_eq_true ((h1 h).2 h')⟩, fun h => ⟨(h2 h).1, decide_eq_false (h2 h).2⟩⟩
theorem spellF_all (s : List UInt8) : ∀ (f p : Nat) (acc : List Int), spellF s f p acc = allF s f p acc
  | 0, _, _ => rfl
  | f + 1, p, acc => by
    rw [spellF, allF]
    by_cases hp : p < s.length
    · rw [if_pos hp, if_pos hp]
      obtain ⟨h1, h2⟩ := step s p hp
      by_cases hn : (take s p).2 = 0
      · obtain ⟨e, q⟩ := h2 hn
        rw [if_pos hn, e, q, if_neg (by decide)]
      · obtain ⟨e, q⟩ := h1 hn
        rw [if_neg hn, e, if_pos, spellF_all s f]
        by_cases h : (take s p).1 = 65533
        · exact .inr (q h)
        · exact .inl (by omega)
    · rw [if_neg hp, if_neg hp]
/-- The runes that the program reads are those of the document's answer. -/
theorem spell_all (s : List UInt8) : spell s = all s := spellF_all s _ _ _
theorem check_same (s : List UInt8) : check s = Gw.Name.check s := by
  unfold check Gw.Name.check
  rw [spell_all]
  cases all s <;> rfl
theorem all_len {s : List UInt8} {l : List Int} (h : all s = some l) : l.length ≤ s.length := by rw [← spell_all] at h; exact spell_len h
end Gw.RName
