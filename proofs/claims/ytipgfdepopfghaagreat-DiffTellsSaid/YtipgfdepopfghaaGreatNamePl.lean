/- What the package name computes, in plain Lean, over the model's reading of runes. -/
import GoSem.Core.Utf8
import Derived.Lib.Bytealg
import GoSem.Op.String
namespace Gw.Name
def dec (s : List UInt8) (p : Nat) : Nat × Nat := Go.Utf8.decode ⟨s.toArray⟩ p
theorem dec_pos (s : List UInt8) (p : Nat) : 1 ≤ (dec s p).2 := by
  unfold dec Go.Utf8.decode
  simp only
  repeat' split
  all_goals simp
theorem dec_le (s : List UInt8) (p : Nat) : (dec s p).2 ≤ 4 := by
  unfold dec Go.Utf8.decode
  simp only
  repeat' split
  all_goals simp
def isPrefix (p s : List UInt8) : Bool := decide (p.length ≤ s.length) && decide (s.take p.length = p)
def spellF (s : List UInt8) : Nat → Nat → List Int → Option (List Int)
  | 0, _, acc => some acc
  | f + 1, p, acc => if p < s.length then (if ((dec s p).1 : Int) ≠ 65533 ∨ isPrefix [239, 191, 189] (s.drop p) = true then spellF s f (p + (dec s p).2) (acc ++ [((dec s p).1 : Int)]) else none) else some acc
/-- A text's runes, if it has some. -/
def spell (s : List UInt8) : Option (List Int) := spellF s (s.length + 1) 0 []
theorem spellF_len (s : List UInt8) : ∀ (f p : Nat) (acc l : List Int), spellF s f p acc = some l → l.length ≤ acc.length + (s.length - p)
  | 0, p, acc, l, h => by simp only [spellF, Option.some.injEq] at h; subst h; omega
  | f + 1, p, acc, l, h => by
    rw [spellF] at h
    have hd := dec_pos s p
    split at h
    · split at h
      · have := spellF_len s f _ _ _ h
        rw [List.length_append, List.length_singleton] at this
        omega
      · cases h
    · simp only [Option.some.injEq] at h; subst h; omega
theorem spell_len {s : List UInt8} {l : List Int} (h : spell s = some l) : l.length ≤ s.length := by
  have := spellF_len s _ _ _ _ h
  simp at this
  exact this
def barred (r : Int) : Bool := decide (r < 32) || (decide (r = 47) || decide (r = 127))
def idx (l : List Int) : Int := match l.findIdx? barred with | some i => (i : Int) | none => -1
def okL (s : List UInt8) (l : List Int) : Bool := !(decide (l.length < 1) || (decide (20 < l.length) || (decide (s = [46]) || decide (s = [46, 46])))) && !l.any barred
/-- Whether a text is a name. -/
def check (s : List UInt8) : Bool := match spell s with | none => false | some l => okL s l
end Gw.Name


namespace Gw.Name
open Go
def ranks (s : List UInt8) : List Int := match spell s with | some l => l | none => s.map fun b => (1114112 + b.toNat : Int)
def cmpL : List Int → List Int → Int
  | [], [] => 0
  | [], _ :: _ => -1
  | _ :: _, [] => 1
  | a :: l, b :: m => if a < b then -1 else if b < a then 1 else cmpL l m
/-- Whether one text stands ahead of another one. -/
def less (a b : List UInt8) : Bool := decide (cmpL (ranks a) (ranks b) < 0)
/-- A text's parts, between the marks. -/
def split : List UInt8 → List (List UInt8)
  | [] => [[]]
  | b :: l => if b = 47 then [] :: split l else match split l with
    | [] => [[b]]
    | h :: t => (b :: h) :: t
def fit (l : List (List UInt8)) : Bool := decide (l.length ≤ 16) && l.all check
/-- A path's names. -/
def paths (p : List UInt8) : Option (List (List UInt8)) := if p = [47] then some [] else match p with
  | [] => none
  | b :: r => if b = 47 then (if fit (split r) = true then some (split r) else none) else none
def glue : List (List UInt8) → List UInt8
  | [] => []
  | x :: r => x ++ (r.map fun y => 47 :: y).flatten
/-- The path of names. -/
def join (l : List (List UInt8)) : Option (List UInt8) := if fit l = true then some (47 :: glue l) else none

theorem split_ne (s : List UInt8) : split s ≠ [] := by
  cases s with
  | nil => simp [split]
  | cons b l =>
    rw [split]
    split
    · simp
    · split <;> simp
theorem split_len (s : List UInt8) : (split s).length = s.count 47 + 1 := by
  induction s with
  | nil => rfl
  | cons b l ih =>
    rw [split, List.count_cons]
    by_cases hb : b = 47
    · rw [if_pos hb, List.length_cons, ih, if_pos (by simp [hb])]
    · rw [if_neg hb, if_neg (by simp [hb])]
      cases hs : split l with
      | nil => exact absurd hs (split_ne l)
      | cons h t => rw [hs] at ih; simp only [List.length_cons] at ih ⊢; omega
theorem idx_neg {s : List UInt8} (h : Lib.indexByte s 47 = -1) : split s = [s] ∧ s.count 47 = 0 := by
  induction s with
  | nil => exact ⟨rfl, rfl⟩
  | cons b l ih =>
    rw [Lib.indexByte] at h
    have hg := Lib.indexByte_ge l 47
    by_cases hb : b = 47
    · rw [if_pos (by simp [hb])] at h; omega
    rw [if_neg (by simp [hb])] at h
    by_cases h2 : Lib.indexByte l 47 = -1
    · obtain ⟨i1, i2⟩ := ih h2
      refine ⟨by rw [split, if_neg hb, i1], by rw [List.count_cons, i2, if_neg (by simp [hb])]⟩
    · rw [if_neg (by simp [h2])] at h; omega
theorem idx_pos {s : List UInt8} {m : Nat} (h : Lib.indexByte s 47 = (m : Int)) : m < s.length ∧ split s = s.take m :: split (s.drop (m + 1)) ∧ s.count 47 = (s.drop (m + 1)).count 47 + 1 := by
  induction s generalizing m with
  | nil => rw [Lib.indexByte] at h; omega
  | cons b l ih =>
    rw [Lib.indexByte] at h
    by_cases hb : b = 47
    · rw [if_pos (by simp [hb])] at h
      obtain rfl : m = 0 := by omega
      refine ⟨by simp, by rw [split, if_pos hb]; simp, by rw [List.count_cons, if_pos (by simp [hb])]; simp⟩
    rw [if_neg (by simp [hb])] at h
    by_cases h2 : Lib.indexByte l 47 = -1
    · rw [if_pos (by simp [h2])] at h; omega
    rw [if_neg (by simp [h2])] at h
    obtain ⟨k, rfl⟩ : ∃ k, m = k + 1 := ⟨m - 1, by have := Lib.indexByte_ge l 47; omega⟩
    obtain ⟨i1, i2, i3⟩ := ih (m := k) (by omega)
    refine ⟨by simp; omega, ?_, ?_⟩
    · rw [split, if_neg hb, i2]; simp
    · rw [List.count_cons, if_neg (by simp [hb]), i3]; simp
theorem idx_some {s : List UInt8} (h : 0 < s.count 47) : ∃ m : Nat, Lib.indexByte s 47 = (m : Int) := by
  have hg := Lib.indexByte_ge s 47
  by_cases h1 : Lib.indexByte s 47 = -1
  · have := (idx_neg h1).2; omega
  · exact ⟨(Lib.indexByte s 47).toNat, by omega⟩
theorem idx_none {s : List UInt8} (h : s.count 47 = 0) : split s = [s] := by
  have hg := Lib.indexByte_ge s 47
  by_cases h1 : Lib.indexByte s 47 = -1
  · exact (idx_neg h1).1
  · have := (idx_pos (s := s) (m := (Lib.indexByte s 47).toNat) (by omega)).2.2; omega
end Gw.Name


namespace Gw.RName
def size (c : Nat) : Nat := if c < 128 then 1 else if 194 ≤ c ∧ c < 224 then 2 else if 224 ≤ c ∧ c < 240 then 3 else if 240 ≤ c ∧ c < 245 then 4 else 0
theorem size_le (c : Nat) : size c ≤ 4 := by unfold size; split <;> (try split) <;> (try split) <;> (try split) <;> omega
def least (n : Nat) : Nat := if n = 1 then 0 else if n = 2 then 128 else if n = 3 then 2048 else 65536
def contF (s : List UInt8) (p n : Nat) : Nat → Nat → Nat → Option Nat
  | 0, _, r => some r
  | f + 1, i, r => if i < n then (if (s.getD (p + i) 0).toNat < 128 ∨ 192 ≤ (s.getD (p + i) 0).toNat then none else contF s p n f (i + 1) (r * 64 + (s.getD (p + i) 0).toNat % 64)) else some r
def first (c n : Nat) : Nat := if n = 4 then c % 8 else if n = 3 then c % 16 else c % 64
def fin (n r : Nat) : Nat × Nat := if r < least n ∨ (55296 ≤ r ∧ r ≤ 57343) ∨ 1114111 < r then (0, 0) else (r, n)
def finO (n : Nat) : Option Nat → Nat × Nat
  | none => (0, 0)
  | some r => fin n r
/-- The rune at a place, and how many bytes it has. -/
def take (s : List UInt8) (p : Nat) : Nat × Nat :=
  if size (s.getD p 0).toNat = 0 ∨ s.length < p + size (s.getD p 0).toNat then (0, 0) else if size (s.getD p 0).toNat = 1 then ((s.getD p 0).toNat, 1) else
    finO (size (s.getD p 0).toNat) (contF s p (size (s.getD p 0).toNat) 4 1 (first (s.getD p 0).toNat (size (s.getD p 0).toNat)))
def allF (s : List UInt8) : Nat → Nat → List Int → Option (List Int)
  | 0, _, acc => some acc
  | f + 1, p, acc => if p < s.length then (if (take s p).2 = 0 then none else allF s f (p + (take s p).2) (acc ++ [((take s p).1 : Int)])) else some acc
def all (s : List UInt8) : Option (List Int) := allF s (s.length + 1) 0 []
def check (s : List UInt8) : Bool := match all s with | none => false | some l => Gw.Name.okL s l
end Gw.RName


namespace Gw.RName
open Gw.Name

theorem get_bang (s : List UInt8) (i : Nat) : (ByteArray.get! ⟨s.toArray⟩ i) = s.getD i 0 := by
  simp [ByteArray.get!]
  rfl

def vN (c : Nat) : Prop := c < 55296 ∨ (57344 ≤ c ∧ c ≤ 1114111)
instance (c : Nat) : Decidable (vN c) := by unfold vN; infer_instance
theorem valid_iff (c : Nat) : (Go.Utf8.valid (c : Int) = true) = vN c := by
  apply propext
  unfold Go.Utf8.valid vN
  simp only [Bool.or_eq_true, Bool.and_eq_true, decide_eq_true_eq]
  omega

/-- Both, told by the four bytes, and how many there are. -/
def decB (b0 b1 b2 b3 l : Nat) : Nat × Nat :=
  if b0 < 128 then (b0, 1)
  else if b0 / 32 = 6 ∧ 1 < l ∧ b1 / 64 = 2 then (if 128 ≤ b0 % 32 * 64 + b1 % 64 then (b0 % 32 * 64 + b1 % 64, 2) else (65533, 1))
  else if b0 / 16 = 14 ∧ 1 < l ∧ b1 / 64 = 2 ∧ 2 < l ∧ b2 / 64 = 2 then (if 2048 ≤ b0 % 16 * 4096 + b1 % 64 * 64 + b2 % 64 ∧ vN (b0 % 16 * 4096 + b1 % 64 * 64 + b2 % 64) then (b0 % 16 * 4096 + b1 % 64 * 64 + b2 % 64, 3) else (65533, 1))
  else if b0 / 8 = 30 ∧ 1 < l ∧ b1 / 64 = 2 ∧ 2 < l ∧ b2 / 64 = 2 ∧ 3 < l ∧ b3 / 64 = 2 then (if 65536 ≤ b0 % 8 * 262144 + b1 % 64 * 4096 + b2 % 64 * 64 + b3 % 64 ∧ vN (b0 % 8 * 262144 + b1 % 64 * 4096 + b2 % 64 * 64 + b3 % 64) then (b0 % 8 * 262144 + b1 % 64 * 4096 + b2 % 64 * 64 + b3 % 64, 4) else (65533, 1))
  else (65533, 1)
theorem dec_eq (s : List UInt8) (p : Nat) (hp : p < s.length) : dec s p = decB (s.getD p 0).toNat (s.getD (p + 1) 0).toNat (s.getD (p + 2) 0).toNat (s.getD (p + 3) 0).toNat (s.length - p) := by
  unfold dec Go.Utf8.decode decB
  have hsz : (⟨s.toArray⟩ : ByteArray).size = s.length := rfl
  have e1 : ∀ k, (p + k < s.length) = (k < s.length - p) := fun k => by apply propext; omega
  simp only [get_bang, hsz, e1, Nat.add_zero, Bool.and_eq_true, beq_iff_eq, decide_eq_true_eq, Go.Utf8.runeError, ge_iff_le, and_assoc, valid_iff]

def takeB (b0 b1 b2 b3 l : Nat) : Nat × Nat :=
  if size b0 = 0 ∨ l < size b0 then (0, 0) else if size b0 = 1 then (b0, 1) else
    if size b0 = 2 then (if b1 < 128 ∨ 192 ≤ b1 then (0, 0) else fin 2 (b0 % 64 * 64 + b1 % 64))
    else if size b0 = 3 then (if (b1 < 128 ∨ 192 ≤ b1) ∨ (b2 < 128 ∨ 192 ≤ b2) then (0, 0) else fin 3 ((b0 % 16 * 64 + b1 % 64) * 64 + b2 % 64))
    else (if (b1 < 128 ∨ 192 ≤ b1) ∨ (b2 < 128 ∨ 192 ≤ b2) ∨ (b3 < 128 ∨ 192 ≤ b3) then (0, 0) else fin 4 (((b0 % 8 * 64 + b1 % 64) * 64 + b2 % 64) * 64 + b3 % 64))
theorem contF_end {s : List UInt8} {p n f i r : Nat} (h : ¬ i < n) : contF s p n f i r = some r := by
  cases f with
  | zero => rfl
  | succ f => rw [contF, if_neg h]
theorem contF_step {s : List UInt8} {p n f i r : Nat} (h : i < n) : contF s p n (f + 1) i r = if (s.getD (p + i) 0).toNat < 128 ∨ 192 ≤ (s.getD (p + i) 0).toNat then none else contF s p n f (i + 1) (r * 64 + (s.getD (p + i) 0).toNat % 64) := by
  rw [contF, if_pos h]
theorem take_eq (s : List UInt8) (p : Nat) (hp : p < s.length) : take s p = takeB (s.getD p 0).toNat (s.getD (p + 1) 0).toNat (s.getD (p + 2) 0).toNat (s.getD (p + 3) 0).toNat (s.length - p) := by
  unfold take takeB
  have hle := size_le (s.getD p 0).toNat
  generalize hn : size (s.getD p 0).toNat = n at hle ⊢
  by_cases h0 : n = 0 ∨ s.length - p < n
  · rw [if_pos (show n = 0 ∨ s.length < p + n by omega), if_pos h0]
  rw [if_neg (show ¬ (n = 0 ∨ s.length < p + n) by omega), if_neg h0]
  by_cases h1 : n = 1
  · rw [if_pos h1, if_pos h1]
  rw [if_neg h1, if_neg h1]
  have hn3 : n = 2 ∨ n = 3 ∨ n = 4 := by omega
  rcases hn3 with rfl | rfl | rfl
  · rw [if_pos rfl, contF_step (by decide), contF_end (by decide)]
    split
    · rfl
    · rfl
  · rw [if_neg (by decide), if_pos rfl, contF_step (by decide), contF_step (by decide), contF_end (by decide)]
    by_cases q1 : (s.getD (p + 1) 0).toNat < 128 ∨ 192 ≤ (s.getD (p + 1) 0).toNat
    · rw [if_pos q1, if_pos (.inl q1)]; rfl
    rw [if_neg q1]
    by_cases q2 : (s.getD (p + 2) 0).toNat < 128 ∨ 192 ≤ (s.getD (p + 2) 0).toNat
    · rw [if_pos (show (s.getD (p + (1 + 1)) 0).toNat < 128 ∨ 192 ≤ (s.getD (p + (1 + 1)) 0).toNat from q2), if_pos (.inr q2)]; rfl
    · rw [if_neg (show ¬ ((s.getD (p + (1 + 1)) 0).toNat < 128 ∨ 192 ≤ (s.getD (p + (1 + 1)) 0).toNat) from q2), if_neg (fun h => h.elim q1 q2)]; rfl
  · rw [if_neg (by decide), if_neg (by decide), contF_step (by decide), contF_step (by decide), contF_step (by decide), contF_end (by decide)]
    by_cases q1 : (s.getD (p + 1) 0).toNat < 128 ∨ 192 ≤ (s.getD (p + 1) 0).toNat
    · rw [if_pos q1, if_pos (.inl q1)]; rfl
    rw [if_neg q1]
    by_cases q2 : (s.getD (p + 2) 0).toNat < 128 ∨ 192 ≤ (s.getD (p + 2) 0).toNat
    · rw [if_pos (show (s.getD (p + (1 + 1)) 0).toNat < 128 ∨ 192 ≤ (s.getD (p + (1 + 1)) 0).toNat from q2), if_pos (.inr (.inl q2))]; rfl
    rw [if_neg (show ¬ ((s.getD (p + (1 + 1)) 0).toNat < 128 ∨ 192 ≤ (s.getD (p + (1 + 1)) 0).toNat) from q2)]
    by_cases q3 : (s.getD (p + 3) 0).toNat < 128 ∨ 192 ≤ (s.getD (p + 3) 0).toNat
    · rw [if_pos (show (s.getD (p + (1 + 1 + 1)) 0).toNat < 128 ∨ 192 ≤ (s.getD (p + (1 + 1 + 1)) 0).toNat from q3), if_pos (.inr (.inr q3))]; rfl
    · rw [if_neg (show ¬ ((s.getD (p + (1 + 1 + 1)) 0).toNat < 128 ∨ 192 ≤ (s.getD (p + (1 + 1 + 1)) 0).toNat) from q3), if_neg (fun h => h.elim q1 (fun h => h.elim q2 q3))]; rfl

theorem both (b0 b1 b2 b3 l : Nat) (hl : 0 < l) (h0 : b0 < 256) (h1 : b1 < 256) (h2 : b2 < 256) (h3 : b3 < 256) :
    ((takeB b0 b1 b2 b3 l).2 ≠ 0 → decB b0 b1 b2 b3 l = takeB b0 b1 b2 b3 l ∧ ((takeB b0 b1 b2 b3 l).1 = 65533 → 2 < l ∧ b0 = 239 ∧ b1 = 191 ∧ b2 = 189)) ∧
    ((takeB b0 b1 b2 b3 l).2 = 0 → (decB b0 b1 b2 b3 l).1 = 65533 ∧ ¬ (2 < l ∧ b0 = 239 ∧ b1 = 191 ∧ b2 = 189)) := by
  have hsz : size b0 = if b0 < 128 then 1 else if 194 ≤ b0 ∧ b0 < 224 then 2 else if 224 ≤ b0 ∧ b0 < 240 then 3 else if 240 ≤ b0 ∧ b0 < 245 then 4 else 0 := rfl
  by_cases c1 : b0 < 128
  · rw [if_pos c1] at hsz
    have ht : takeB b0 b1 b2 b3 l = (b0, 1) := by unfold takeB; rw [hsz, if_neg (by omega), if_pos rfl]
    have hd : decB b0 b1 b2 b3 l = (b0, 1) := by unfold decB; rw [if_pos c1]
    rw [ht, hd]
    exact ⟨fun _ => ⟨rfl, fun h => by simp only at h; omega⟩, fun h => by simp at h⟩
  rw [if_neg c1] at hsz
  by_cases c2 : 194 ≤ b0 ∧ b0 < 224
  · rw [if_pos c2] at hsz
    by_cases g : 1 < l ∧ b1 / 64 = 2
    · have ht : takeB b0 b1 b2 b3 l = fin 2 (b0 % 64 * 64 + b1 % 64) := by unfold takeB; rw [hsz, if_neg (by omega), if_neg (by decide), if_pos rfl, if_neg (by omega)]
      have hf : fin 2 (b0 % 64 * 64 + b1 % 64) = (b0 % 64 * 64 + b1 % 64, 2) := by unfold fin; rw [if_neg (by have l2 : least 2 = 128 := rfl; have l3 : least 3 = 2048 := rfl; have l4 : least 4 = 65536 := rfl; omega)]
      have hd : decB b0 b1 b2 b3 l = (b0 % 32 * 64 + b1 % 64, 2) := by unfold decB; rw [if_neg c1, if_pos ⟨by omega, g⟩, if_pos (by omega)]
      have e : b0 % 64 = b0 % 32 := by omega
      rw [ht, hf, hd, e]
      exact ⟨fun _ => ⟨rfl, fun h => by simp only at h; omega⟩, fun h => by simp at h⟩
    · have ht : takeB b0 b1 b2 b3 l = (0, 0) := by
        unfold takeB; rw [hsz]
        by_cases q : l < 2
        · rw [if_pos (.inr q)]
        · rw [if_neg (by omega), if_neg (by decide), if_pos rfl, if_pos (by omega)]
      have hd : decB b0 b1 b2 b3 l = (65533, 1) := by unfold decB; rw [if_neg c1, if_neg (fun h => g h.2), if_neg (by omega), if_neg (by omega)]
      rw [ht, hd]
      exact ⟨fun h => absurd rfl h, fun _ => ⟨rfl, by omega⟩⟩
  rw [if_neg c2] at hsz
  by_cases c3 : 224 ≤ b0 ∧ b0 < 240
  · rw [if_pos c3] at hsz
    by_cases g : 1 < l ∧ b1 / 64 = 2 ∧ 2 < l ∧ b2 / 64 = 2
    · have ht : takeB b0 b1 b2 b3 l = fin 3 ((b0 % 16 * 64 + b1 % 64) * 64 + b2 % 64) := by unfold takeB; rw [hsz, if_neg (by omega), if_neg (by decide), if_neg (by decide), if_pos rfl, if_neg (by omega)]
      have e : (b0 % 16 * 64 + b1 % 64) * 64 + b2 % 64 = b0 % 16 * 4096 + b1 % 64 * 64 + b2 % 64 := by omega
      rw [e] at ht
      by_cases k : 2048 ≤ b0 % 16 * 4096 + b1 % 64 * 64 + b2 % 64 ∧ vN (b0 % 16 * 4096 + b1 % 64 * 64 + b2 % 64)
      · have hd : decB b0 b1 b2 b3 l = (b0 % 16 * 4096 + b1 % 64 * 64 + b2 % 64, 3) := by unfold decB; rw [if_neg c1, if_neg (by omega), if_pos ⟨by omega, g⟩, if_pos k]
        have k2 := k.2; unfold vN at k2
        have hf : fin 3 (b0 % 16 * 4096 + b1 % 64 * 64 + b2 % 64) = (b0 % 16 * 4096 + b1 % 64 * 64 + b2 % 64, 3) := by unfold fin; rw [if_neg (by have l2 : least 2 = 128 := rfl; have l3 : least 3 = 2048 := rfl; have l4 : least 4 = 65536 := rfl; omega)]
        rw [ht, hf, hd]
        exact ⟨fun _ => ⟨rfl, fun h => by simp only at h; omega⟩, fun h => by simp at h⟩
      · have hd : decB b0 b1 b2 b3 l = (65533, 1) := by unfold decB; rw [if_neg c1, if_neg (by omega), if_pos ⟨by omega, g⟩, if_neg k]
        have k2 : b0 % 16 * 4096 + b1 % 64 * 64 + b2 % 64 < 2048 ∨ ¬ (b0 % 16 * 4096 + b1 % 64 * 64 + b2 % 64 < 55296 ∨ (57344 ≤ b0 % 16 * 4096 + b1 % 64 * 64 + b2 % 64 ∧ b0 % 16 * 4096 + b1 % 64 * 64 + b2 % 64 ≤ 1114111)) := by
          by_cases q : 2048 ≤ b0 % 16 * 4096 + b1 % 64 * 64 + b2 % 64
          · exact .inr fun h => k ⟨q, h⟩
          · exact .inl (by omega)
        have hf : fin 3 (b0 % 16 * 4096 + b1 % 64 * 64 + b2 % 64) = (0, 0) := by unfold fin; rw [if_pos (by have l2 : least 2 = 128 := rfl; have l3 : least 3 = 2048 := rfl; have l4 : least 4 = 65536 := rfl; omega)]
        rw [ht, hf, hd]
        exact ⟨fun h => absurd rfl h, fun _ => ⟨rfl, by omega⟩⟩
    · have ht : takeB b0 b1 b2 b3 l = (0, 0) := by
        unfold takeB; rw [hsz]
        by_cases q : l < 3
        · rw [if_pos (.inr q)]
        · rw [if_neg (by omega), if_neg (by decide), if_neg (by decide), if_pos rfl, if_pos (by omega)]
      have hd : decB b0 b1 b2 b3 l = (65533, 1) := by unfold decB; rw [if_neg c1, if_neg (by omega), if_neg (fun h => g h.2), if_neg (by omega)]
      rw [ht, hd]
      exact ⟨fun h => absurd rfl h, fun _ => ⟨rfl, by omega⟩⟩
  rw [if_neg c3] at hsz
  by_cases c4 : 240 ≤ b0 ∧ b0 < 245
  · rw [if_pos c4] at hsz
    by_cases g : 1 < l ∧ b1 / 64 = 2 ∧ 2 < l ∧ b2 / 64 = 2 ∧ 3 < l ∧ b3 / 64 = 2
    · have ht : takeB b0 b1 b2 b3 l = fin 4 (((b0 % 8 * 64 + b1 % 64) * 64 + b2 % 64) * 64 + b3 % 64) := by unfold takeB; rw [hsz, if_neg (by omega), if_neg (by decide), if_neg (by decide), if_neg (by decide), if_neg (by omega)]
      have e : ((b0 % 8 * 64 + b1 % 64) * 64 + b2 % 64) * 64 + b3 % 64 = b0 % 8 * 262144 + b1 % 64 * 4096 + b2 % 64 * 64 + b3 % 64 := by omega
      rw [e] at ht
      by_cases k : 65536 ≤ b0 % 8 * 262144 + b1 % 64 * 4096 + b2 % 64 * 64 + b3 % 64 ∧ vN (b0 % 8 * 262144 + b1 % 64 * 4096 + b2 % 64 * 64 + b3 % 64)
      · have hd : decB b0 b1 b2 b3 l = (b0 % 8 * 262144 + b1 % 64 * 4096 + b2 % 64 * 64 + b3 % 64, 4) := by unfold decB; rw [if_neg c1, if_neg (by omega), if_neg (by omega), if_pos ⟨by omega, g⟩, if_pos k]
        have k2 := k.2; unfold vN at k2
        have hf : fin 4 (b0 % 8 * 262144 + b1 % 64 * 4096 + b2 % 64 * 64 + b3 % 64) = (b0 % 8 * 262144 + b1 % 64 * 4096 + b2 % 64 * 64 + b3 % 64, 4) := by unfold fin; rw [if_neg (by have l2 : least 2 = 128 := rfl; have l3 : least 3 = 2048 := rfl; have l4 : least 4 = 65536 := rfl; omega)]
        rw [ht, hf, hd]
        exact ⟨fun _ => ⟨rfl, fun h => by simp only at h; omega⟩, fun h => by simp at h⟩
      · have hd : decB b0 b1 b2 b3 l = (65533, 1) := by unfold decB; rw [if_neg c1, if_neg (by omega), if_neg (by omega), if_pos ⟨by omega, g⟩, if_neg k]
        have k2 : b0 % 8 * 262144 + b1 % 64 * 4096 + b2 % 64 * 64 + b3 % 64 < 65536 ∨ ¬ (b0 % 8 * 262144 + b1 % 64 * 4096 + b2 % 64 * 64 + b3 % 64 < 55296 ∨ (57344 ≤ b0 % 8 * 262144 + b1 % 64 * 4096 + b2 % 64 * 64 + b3 % 64 ∧ b0 % 8 * 262144 + b1 % 64 * 4096 + b2 % 64 * 64 + b3 % 64 ≤ 1114111)) := by
          by_cases q : 65536 ≤ b0 % 8 * 262144 + b1 % 64 * 4096 + b2 % 64 * 64 + b3 % 64
          · exact .inr fun h => k ⟨q, h⟩
          · exact .inl (by omega)
        have hf : fin 4 (b0 % 8 * 262144 + b1 % 64 * 4096 + b2 % 64 * 64 + b3 % 64) = (0, 0) := by unfold fin; rw [if_pos (by have l2 : least 2 = 128 := rfl; have l3 : least 3 = 2048 := rfl; have l4 : least 4 = 65536 := rfl; omega)]
        rw [ht, hf, hd]
        exact ⟨fun h => absurd rfl h, fun _ => ⟨rfl, by omega⟩⟩
    · have ht : takeB b0 b1 b2 b3 l = (0, 0) := by
        unfold takeB; rw [hsz]
        by_cases q : l < 4
        · rw [if_pos (.inr q)]
        · rw [if_neg (by omega), if_neg (by decide), if_neg (by decide), if_neg (by decide), if_pos (by omega)]
      have hd : decB b0 b1 b2 b3 l = (65533, 1) := by unfold decB; rw [if_neg c1, if_neg (by omega), if_neg (by omega), if_neg (fun h => g h.2)]
      rw [ht, hd]
      exact ⟨fun h => absurd rfl h, fun _ => ⟨rfl, by omega⟩⟩
  rw [if_neg c4] at hsz
  have ht : takeB b0 b1 b2 b3 l = (0, 0) := by unfold takeB; rw [hsz, if_pos (.inl rfl)]
  have hd : (decB b0 b1 b2 b3 l).1 = 65533 := by
    unfold decB
    rw [if_neg c1]
    by_cases q : b0 / 32 = 6 ∧ 1 < l ∧ b1 / 64 = 2
    · rw [if_pos q, if_neg (by omega)]
    rw [if_neg q, if_neg (by omega)]
    by_cases q2 : b0 / 8 = 30 ∧ 1 < l ∧ b1 / 64 = 2 ∧ 2 < l ∧ b2 / 64 = 2 ∧ 3 < l ∧ b3 / 64 = 2
    · rw [if_pos q2]
      by_cases q3 : 65536 ≤ b0 % 8 * 262144 + b1 % 64 * 4096 + b2 % 64 * 64 + b3 % 64 ∧ vN (b0 % 8 * 262144 + b1 % 64 * 4096 + b2 % 64 * 64 + b3 % 64)
      · have := q3.2; unfold vN at this; omega
      · rw [if_neg q3]
    · rw [if_neg q2]
  rw [ht]
  exact ⟨fun h => absurd rfl h, fun _ => ⟨hd, by omega⟩⟩

theorem pre_eq (s : List UInt8) (p : Nat) : isPrefix [239, 191, 189] (s.drop p) = decide (2 < s.length - p ∧ (s.getD p 0).toNat = 239 ∧ (s.getD (p + 1) 0).toNat = 191 ∧ (s.getD (p + 2) 0).toNat = 189) := by
  have e : ∀ i, s.getD (p + i) 0 = (s.drop p).getD i 0 := fun i => by simp [List.getD_eq_getElem?_getD]
  have e0 := e 0
  rw [Nat.add_zero] at e0
  rw [e0, e 1, e 2, ← List.length_drop]
  have k : ∀ (x : UInt8) (n : Nat) (hn : n < 256), (x = UInt8.ofNat n) = (x.toNat = n) := fun x n hn => by
    apply propext
    constructor
    · rintro rfl; simp; omega
    · intro h; apply UInt8.toNat_inj.1; rw [h]; simp; omega
  generalize s.drop p = t
  unfold isPrefix
  match t with
  | [] => rfl
  | [a] => rfl
  | [a, b] => rfl
  | a :: b :: c :: t =>
    have k0 := k a 239 (by decide)
    have k1 := k b 191 (by decide)
    have k2 := k c 189 (by decide)
    rw [Bool.eq_iff_iff]
    simp only [Bool.and_eq_true, decide_eq_true_eq, List.length_cons, List.take_succ_cons, List.take_zero, List.cons.injEq, List.length_nil, and_true, List.getD_cons_zero, List.getD_cons_succ]
    rw [← k0, ← k1, ← k2]
    constructor
    · rintro ⟨_, h⟩; exact ⟨by omega, h⟩
    · rintro ⟨_, h⟩; exact ⟨by omega, h⟩
theorem step (s : List UInt8) (p : Nat) (hp : p < s.length) :
    ((take s p).2 ≠ 0 → dec s p = take s p ∧ ((take s p).1 = 65533 → isPrefix [239, 191, 189] (s.drop p) = true)) ∧ ((take s p).2 = 0 → (dec s p).1 = 65533 ∧ isPrefix [239, 191, 189] (s.drop p) = false) := by
  rw [dec_eq s p hp, take_eq s p hp, pre_eq]
  obtain ⟨h1, h2⟩ := both (s.getD p 0).toNat (s.getD (p + 1) 0).toNat (s.getD (p + 2) 0).toNat (s.getD (p + 3) 0).toNat (s.length - p) (by omega) (UInt8.toNat_lt _) (UInt8.toNat_lt _) (UInt8.toNat_lt _) (UInt8.toNat_lt _)
  exact ⟨fun h => ⟨(h1 h).1, fun h' => decide_eq_true ((h1 h).2 h')⟩, fun h => ⟨(h2 h).1, decide_eq_false (h2 h).2⟩⟩
theorem spellF_all (s : List UInt8) : ∀ (f p : Nat) (acc : List Int), spellF s f p acc = allF s f p acc
  | 0, _, _ => rfl
  | f + 1, p, acc => by
    rw [spellF, allF]
    by_cases hp : p < s.length
    · rw [if_pos hp, if_pos hp]
      obtain ⟨h1, h2⟩ := step s p hp
      by_cases hn : (take s p).2 = 0
      · obtain ⟨e, q⟩ := h2 hn
        rw [if_pos hn, e, q, if_neg (by decide)]
      · obtain ⟨e, q⟩ := h1 hn
        rw [if_neg hn, e, if_pos, spellF_all s f]
        by_cases h : (take s p).1 = 65533
        · exact .inr (q h)
        · exact .inl (by omega)
    · rw [if_neg hp, if_neg hp]
/-- The runes that the program reads are those of the document's answer. -/
theorem spell_all (s : List UInt8) : spell s = all s := spellF_all s _ _ _
theorem check_same (s : List UInt8) : check s = Gw.Name.check s := by
  unfold check Gw.Name.check
  first
    | (rw [spell_all]; done)
    | (rw [spell_all]; cases all s <;> rfl)
theorem all_len {s : List UInt8} {l : List Int} (h : all s = some l) : l.length ≤ s.length := by rw [← spell_all] at h; exact spell_len h
end Gw.RName


namespace Gw.Rune
open Gw.RName

/-- A rune's bytes. -/
def encN (r : Nat) : List Nat :=
  if r < 128 then [r] else if r < 2048 then [192 + r / 64, 128 + r % 64] else if r < 65536 then [224 + r / 4096, 128 + r / 64 % 64, 128 + r % 64] else [240 + r / 262144, 128 + r / 4096 % 64, 128 + r / 64 % 64, 128 + r % 64]
def enc (r : Nat) : List UInt8 := (encN r).map UInt8.ofNat
theorem enc_pos (r : Nat) : 0 < (enc r).length := by
  unfold enc encN; split
  · simp
  · split
    · simp
    · split <;> simp
theorem u8 {n : Nat} (h : n < 256) : (UInt8.ofNat n).toNat = n := by simp; omega
theorem u8_of {x : UInt8} {n : Nat} (h : x.toNat = n) : x = UInt8.ofNat n := by subst h; simp
theorem size_cases (b : Nat) : (b < 128 ∧ size b = 1) ∨ ((194 ≤ b ∧ b < 224) ∧ size b = 2) ∨ ((224 ≤ b ∧ b < 240) ∧ size b = 3) ∨ ((240 ≤ b ∧ b < 245) ∧ size b = 4) ∨ ((128 ≤ b ∧ b < 194 ∨ 245 ≤ b) ∧ size b = 0) := by
  unfold size
  split
  · exact .inl ⟨by assumption, rfl⟩
  · split
    · exact .inr (.inl ⟨by assumption, rfl⟩)
    · split
      · exact .inr (.inr (.inl ⟨by assumption, rfl⟩))
      · split
        · exact .inr (.inr (.inr (.inl ⟨by assumption, rfl⟩)))
        · exact .inr (.inr (.inr (.inr ⟨by omega, rfl⟩)))
theorem takeB_enc (b0 b1 b2 b3 l : Nat) (h0 : b0 < 256) (h1 : b1 < 256) (h2 : b2 < 256) (h3 : b3 < 256) (hn : (takeB b0 b1 b2 b3 l).2 ≠ 0) :
    vN (takeB b0 b1 b2 b3 l).1 ∧ encN (takeB b0 b1 b2 b3 l).1 = [b0, b1, b2, b3].take (takeB b0 b1 b2 b3 l).2 ∧ (takeB b0 b1 b2 b3 l).2 ≤ l ∧ (takeB b0 b1 b2 b3 l).2 ≤ 4 := by
  unfold takeB at hn ⊢
  rcases size_cases b0 with ⟨hb, hs⟩ | ⟨hb, hs⟩ | ⟨hb, hs⟩ | ⟨hb, hs⟩ | ⟨hb, hs⟩ <;> rw [hs] at hn ⊢
  · by_cases hl : (1 : Nat) = 0 ∨ l < 1
    · rw [if_pos hl] at hn; exact absurd rfl hn
    rw [if_neg hl, if_pos rfl]
    refine ⟨.inl (by simp only; omega), ?_, by simp only; omega, by simp⟩
    simp only
    unfold encN
    rw [if_pos hb]; rfl
  · by_cases hl : (2 : Nat) = 0 ∨ l < 2
    · rw [if_pos hl] at hn; exact absurd rfl hn
    rw [if_neg hl, if_neg (by decide), if_pos rfl] at hn ⊢
    by_cases hc : b1 < 128 ∨ 192 ≤ b1
    · rw [if_pos hc] at hn; exact absurd rfl hn
    rw [if_neg hc] at hn ⊢
    unfold fin at hn ⊢
    have hle : least 2 = 128 := rfl
    rw [hle] at hn ⊢
    generalize hr : b0 % 64 * 64 + b1 % 64 = r at hn ⊢
    by_cases hf : r < 128 ∨ (55296 ≤ r ∧ r ≤ 57343) ∨ 1114111 < r
    · rw [if_pos hf] at hn; exact absurd rfl hn
    rw [if_neg hf]
    refine ⟨by unfold vN; simp only; omega, ?_, by simp only; omega, by simp⟩
    simp only
    unfold encN
    rw [if_neg (by omega), if_pos (by omega)]
    show [_, _] = [b0, b1]
    simp only [List.cons.injEq, and_true]; omega
  · by_cases hl : (3 : Nat) = 0 ∨ l < 3
    · rw [if_pos hl] at hn; exact absurd rfl hn
    rw [if_neg hl, if_neg (by decide), if_neg (by decide), if_pos rfl] at hn ⊢
    by_cases hc : (b1 < 128 ∨ 192 ≤ b1) ∨ (b2 < 128 ∨ 192 ≤ b2)
    · rw [if_pos hc] at hn; exact absurd rfl hn
    rw [if_neg hc] at hn ⊢
    unfold fin at hn ⊢
    have hle : least 3 = 2048 := rfl
    rw [hle] at hn ⊢
    generalize hr : (b0 % 16 * 64 + b1 % 64) * 64 + b2 % 64 = r at hn ⊢
    by_cases hf : r < 2048 ∨ (55296 ≤ r ∧ r ≤ 57343) ∨ 1114111 < r
    · rw [if_pos hf] at hn; exact absurd rfl hn
    rw [if_neg hf]
    refine ⟨by unfold vN; simp only; omega, ?_, by simp only; omega, by simp⟩
    simp only
    unfold encN
    rw [if_neg (by omega), if_neg (by omega), if_pos (by omega)]
    show [_, _, _] = [b0, b1, b2]
    simp only [List.cons.injEq, and_true]; omega
  · by_cases hl : (4 : Nat) = 0 ∨ l < 4
    · rw [if_pos hl] at hn; exact absurd rfl hn
    rw [if_neg hl, if_neg (by decide), if_neg (by decide), if_neg (by decide)] at hn ⊢
    by_cases hc : (b1 < 128 ∨ 192 ≤ b1) ∨ (b2 < 128 ∨ 192 ≤ b2) ∨ (b3 < 128 ∨ 192 ≤ b3)
    · rw [if_pos hc] at hn; exact absurd rfl hn
    rw [if_neg hc] at hn ⊢
    unfold fin at hn ⊢
    have hle : least 4 = 65536 := rfl
    rw [hle] at hn ⊢
    generalize hr : ((b0 % 8 * 64 + b1 % 64) * 64 + b2 % 64) * 64 + b3 % 64 = r at hn ⊢
    by_cases hf : r < 65536 ∨ (55296 ≤ r ∧ r ≤ 57343) ∨ 1114111 < r
    · rw [if_pos hf] at hn; exact absurd rfl hn
    rw [if_neg hf]
    refine ⟨by unfold vN; simp only; omega, ?_, by simp only; omega, by simp⟩
    simp only
    unfold encN
    rw [if_neg (by omega), if_neg (by omega), if_neg (by omega)]
    show [_, _, _, _] = [b0, b1, b2, b3]
    simp only [List.cons.injEq, and_true]; omega
  · rw [if_pos (.inl rfl)] at hn; exact absurd rfl hn
theorem drop_cells (s : List UInt8) : ∀ (k p : Nat), p + k ≤ s.length → s.drop p = ((List.range k).map fun i => s.getD (p + i) 0) ++ s.drop (p + k)
  | 0, p, _ => by simp
  | k + 1, p, h => by
    rw [drop_cells s k p (by omega), List.range_succ, List.map_append, List.append_assoc]
    congr 1
    rw [List.drop_eq_getElem_cons (by omega : p + k < s.length)]
    simp [List.getD_eq_getElem?_getD, List.getElem?_eq_getElem (by omega : p + k < s.length), Nat.add_assoc]
/-- A rune that is taken is a rune whose bytes stand there. -/
theorem take_enc (s : List UInt8) (p : Nat) (hp : p < s.length) (hn : (take s p).2 ≠ 0) : vN (take s p).1 ∧ s.drop p = enc (take s p).1 ++ s.drop (p + (take s p).2) := by
  rw [take_eq s p hp] at hn ⊢
  obtain ⟨h1, h2, h3, h4⟩ := takeB_enc _ _ _ _ _ (UInt8.toNat_lt _) (UInt8.toNat_lt _) (UInt8.toNat_lt _) (UInt8.toNat_lt _) hn
  refine ⟨h1, ?_⟩
  unfold enc
  rw [h2]
  generalize (takeB _ _ _ _ _).2 = n at *
  rw [drop_cells s n p (by omega)]
  congr 1
  have e : ∀ x : UInt8, UInt8.ofNat x.toNat = x := fun x => by simp
  match n, h4 with
  | 0, _ => rfl
  | 1, _ => simp [e, List.range_succ]
  | 2, _ => simp [e, List.range_succ]
  | 3, _ => simp [e, List.range_succ]
  | 4, _ => simp [e, List.range_succ]
/-- A rune whose bytes stand there is taken. -/
theorem take_of_enc {r : Nat} (h : vN r) (t : List UInt8) : take (enc r ++ t) 0 = (r, (enc r).length) := by
  have hp := enc_pos r
  rw [take_eq _ 0 (by rw [List.length_append]; omega)]
  unfold vN at h
  unfold takeB
  unfold enc encN
  by_cases c1 : r < 128
  · rw [if_pos c1]
    have e0 : (([r].map UInt8.ofNat ++ t).getD 0 0).toNat = r := u8 (by omega)
    rw [e0]
    have hs : size r = 1 := by unfold size; rw [if_pos c1]
    rw [hs, if_neg (by simp), if_pos rfl]; rfl
  by_cases c2 : r < 2048
  · rw [if_neg c1, if_pos c2]
    have e0 : (([192 + r / 64, 128 + r % 64].map UInt8.ofNat ++ t).getD 0 0).toNat = 192 + r / 64 := u8 (by omega)
    have e1 : (([192 + r / 64, 128 + r % 64].map UInt8.ofNat ++ t).getD (0 + 1) 0).toNat = 128 + r % 64 := u8 (by omega)
    rw [e0, e1]
    have hs : size (192 + r / 64) = 2 := by unfold size; rw [if_neg (by omega), if_pos (by omega)]
    have hl : least 2 = 128 := rfl
    rw [hs, if_neg (by simp), if_neg (by decide), if_pos rfl, if_neg (by omega), show (192 + r / 64) % 64 * 64 + (128 + r % 64) % 64 = r by omega]
    unfold fin
    rw [hl, if_neg (by omega)]; rfl
  by_cases c3 : r < 65536
  · rw [if_neg c1, if_neg c2, if_pos c3]
    have e0 : (([224 + r / 4096, 128 + r / 64 % 64, 128 + r % 64].map UInt8.ofNat ++ t).getD 0 0).toNat = 224 + r / 4096 := u8 (by omega)
    have e1 : (([224 + r / 4096, 128 + r / 64 % 64, 128 + r % 64].map UInt8.ofNat ++ t).getD (0 + 1) 0).toNat = 128 + r / 64 % 64 := u8 (by omega)
    have e2 : (([224 + r / 4096, 128 + r / 64 % 64, 128 + r % 64].map UInt8.ofNat ++ t).getD (0 + 2) 0).toNat = 128 + r % 64 := u8 (by omega)
    rw [e0, e1, e2]
    have hs : size (224 + r / 4096) = 3 := by unfold size; rw [if_neg (by omega), if_neg (by omega), if_pos (by omega)]
    have hl : least 3 = 2048 := rfl
    rw [hs, if_neg (by simp), if_neg (by decide), if_neg (by decide), if_pos rfl, if_neg (by omega), show ((224 + r / 4096) % 16 * 64 + (128 + r / 64 % 64) % 64) * 64 + (128 + r % 64) % 64 = r by omega]
    unfold fin
    rw [hl, if_neg (by omega)]; rfl
  · rw [if_neg c1, if_neg c2, if_neg c3]
    have e0 : (([240 + r / 262144, 128 + r / 4096 % 64, 128 + r / 64 % 64, 128 + r % 64].map UInt8.ofNat ++ t).getD 0 0).toNat = 240 + r / 262144 := u8 (by omega)
    have e1 : (([240 + r / 262144, 128 + r / 4096 % 64, 128 + r / 64 % 64, 128 + r % 64].map UInt8.ofNat ++ t).getD (0 + 1) 0).toNat = 128 + r / 4096 % 64 := u8 (by omega)
    have e2 : (([240 + r / 262144, 128 + r / 4096 % 64, 128 + r / 64 % 64, 128 + r % 64].map UInt8.ofNat ++ t).getD (0 + 2) 0).toNat = 128 + r / 64 % 64 := u8 (by omega)
    have e3 : (([240 + r / 262144, 128 + r / 4096 % 64, 128 + r / 64 % 64, 128 + r % 64].map UInt8.ofNat ++ t).getD (0 + 3) 0).toNat = 128 + r % 64 := u8 (by omega)
    rw [e0, e1, e2, e3]
    have hs : size (240 + r / 262144) = 4 := by unfold size; rw [if_neg (by omega), if_neg (by omega), if_neg (by omega), if_pos (by omega)]
    have hl : least 4 = 65536 := rfl
    rw [hs, if_neg (by simp), if_neg (by decide), if_neg (by decide), if_neg (by decide), if_neg (by omega), show (((240 + r / 262144) % 8 * 64 + (128 + r / 4096 % 64) % 64) * 64 + (128 + r / 64 % 64) % 64) * 64 + (128 + r % 64) % 64 = r by omega]
    unfold fin
    rw [hl, if_neg (by omega)]; rfl
end Gw.Rune


namespace Gw.Rune
open Gw.RName

def flat (m : List Nat) : List UInt8 := m.flatMap enc
theorem flat_cons (r : Nat) (m : List Nat) : flat (r :: m) = enc r ++ flat m := by simp [flat]
theorem flat_append (m n : List Nat) : flat (m ++ n) = flat m ++ flat n := by simp [flat]
def ints (m : List Nat) : List Int := m.map fun (r : Nat) => ((r : Nat) : Int)
theorem take_drop (s : List UInt8) (p : Nat) (hp : p < s.length) : take s p = take (s.drop p) 0 := by
  have e : ∀ i, (s.drop p).getD i 0 = s.getD (p + i) 0 := fun i => by simp [List.getD_eq_getElem?_getD]
  rw [take_eq s p hp, take_eq (s.drop p) 0 (by rw [List.length_drop]; omega), e, e, e, e, List.length_drop]
  simp
theorem allF_flat (s : List UInt8) : ∀ (m : List Nat) (f p : Nat) (acc : List Int), (∀ r ∈ m, vN r) → p ≤ s.length → s.drop p = flat m → s.length < f + p → allF s f p acc = some (acc ++ ints m)
  | [], f, p, acc, _, hp, hd, hf => by
    have : s.length ≤ p := by have := congrArg List.length hd; simp [flat] at this; omega
    cases f with
    | zero => simp [allF, ints]
    | succ f => rw [allF, if_neg (by omega)]; simp [ints]
  | r :: m, f, p, acc, hv, hp, hd, hf => by
    have hl := congrArg List.length hd
    rw [flat_cons, List.length_append, List.length_drop] at hl
    have hpos := enc_pos r
    obtain ⟨f, rfl⟩ : ∃ g, f = g + 1 := ⟨f - 1, by omega⟩
    have ht : take s p = (r, (enc r).length) := by rw [take_drop s p (by omega), hd, flat_cons, take_of_enc (hv r (by simp))]
    rw [allF, if_pos (by omega), ht]
    simp only
    rw [if_neg (by omega), allF_flat s m f (p + (enc r).length) (acc ++ [(r : Int)]) (fun x hx => hv x (by simp [hx])) (by omega) (by rw [← List.drop_drop, hd, flat_cons]; simp) (by omega)]
    simp [ints]
theorem all_flat {m : List Nat} (h : ∀ r ∈ m, vN r) : all (flat m) = some (ints m) := by
  unfold all
  rw [allF_flat (flat m) m _ 0 [] h (Nat.zero_le _) rfl (by omega)]
  simp
theorem flat_allF (s : List UInt8) : ∀ (f p : Nat) (acc l : List Int), p ≤ s.length → s.length < f + p → allF s f p acc = some l → ∃ m, l = acc ++ ints m ∧ (∀ r ∈ m, vN r) ∧ s.drop p = flat m
  | 0, p, acc, l, hp, hf, _ => absurd hf (by omega)
  | f + 1, p, acc, l, hp, hf, h => by
    rw [allF] at h
    by_cases hlt : p < s.length
    · rw [if_pos hlt] at h
      by_cases hn : (take s p).2 = 0
      · rw [if_pos hn] at h; cases h
      · rw [if_neg hn] at h
        obtain ⟨h1, h2⟩ := take_enc s p hlt hn
        have hle : p + (take s p).2 ≤ s.length := by
          have := congrArg List.length h2
          rw [List.length_drop, List.length_append, List.length_drop] at this
          have := enc_pos (take s p).1
          rw [take_eq s p hlt] at hn ⊢
          have := (takeB_enc _ _ _ _ _ (UInt8.toNat_lt _) (UInt8.toNat_lt _) (UInt8.toNat_lt _) (UInt8.toNat_lt _) hn).2.2.1
          omega
        obtain ⟨m, k1, k2, k3⟩ := flat_allF s f _ _ l hle (by omega) h
        refine ⟨(take s p).1 :: m, by rw [k1]; simp [ints], fun r hr => ?_, by rw [h2, k3, flat_cons]⟩
        rcases List.mem_cons.1 hr with rfl | hr
        · exact h1
        · exact k2 r hr
    · rw [if_neg hlt] at h
      simp only [Option.some.injEq] at h
      exact ⟨[], by rw [h]; simp [ints], by simp, by rw [List.drop_of_length_le (by omega)]; rfl⟩
theorem spell_iff {s : List UInt8} {l : List Int} : Gw.Name.spell s = some l ↔ ∃ m, l = ints m ∧ (∀ r ∈ m, vN r) ∧ s = flat m := by
  rw [spell_all]
  constructor
  · intro h
    obtain ⟨m, h1, h2, h3⟩ := flat_allF s _ 0 [] l (Nat.zero_le _) (by omega) h
    exact ⟨m, by simpa using h1, h2, by simpa using h3⟩
  · rintro ⟨m, rfl, h2, rfl⟩
    exact all_flat h2
theorem spell_append {a b : List UInt8} {l m : List Int} (h1 : Gw.Name.spell a = some l) (h2 : Gw.Name.spell b = some m) : Gw.Name.spell (a ++ b) = some (l ++ m) := by
  obtain ⟨x, rfl, hx, rfl⟩ := spell_iff.1 h1
  obtain ⟨y, rfl, hy, rfl⟩ := spell_iff.1 h2
  exact spell_iff.2 ⟨x ++ y, by simp [ints], fun r hr => (List.mem_append.1 hr).elim (hx r) (hy r), (flat_append x y).symm⟩

open Go (Op.bytesLess)
theorem bl_cons (a b : Nat) (ha : a < 256) (hb : b < 256) (x y : List UInt8) : Go.Op.bytesLess (UInt8.ofNat a :: x) (UInt8.ofNat b :: y) = if a < b then true else if a = b then Go.Op.bytesLess x y else false := by
  rw [Go.Op.bytesLess]
  have e1 : (UInt8.ofNat a < UInt8.ofNat b) ↔ a < b := by rw [UInt8.lt_iff_toNat_lt, u8 ha, u8 hb]
  have e2 : (UInt8.ofNat a == UInt8.ofNat b) = decide (a = b) := by
    rw [Bool.eq_iff_iff, beq_iff_eq, decide_eq_true_eq, ← UInt8.toNat_inj, u8 ha, u8 hb]
  rw [e2]
  by_cases h1 : a < b
  · simp [e1.2 h1, h1]
  · have : ¬ (UInt8.ofNat a < UInt8.ofNat b) := fun h => h1 (e1.1 h)
    by_cases h2 : a = b
    · simp [h2]
    · simp [this, h1, h2]
theorem bl_same : ∀ (c x y : List UInt8), Go.Op.bytesLess (c ++ x) (c ++ y) = Go.Op.bytesLess x y
  | [], _, _ => rfl
  | a :: c, x, y => by
    rw [List.cons_append, List.cons_append, Go.Op.bytesLess, bl_same c x y]
    have : ¬ a < a := by rw [UInt8.lt_iff_toNat_lt]; omega
    simp [this]
theorem enc_lt {a b : Nat} (hb : vN b) (h : a < b) (x y : List UInt8) : Go.Op.bytesLess (enc a ++ x) (enc b ++ y) = true ∧ Go.Op.bytesLess (enc b ++ y) (enc a ++ x) = false := by
  unfold vN at hb
  have key : ∀ c : Nat, c ≤ 1114111 → (c < 128 ∧ encN c = [c]) ∨ (128 ≤ c ∧ c < 2048 ∧ encN c = [192 + c / 64, 128 + c % 64]) ∨ (2048 ≤ c ∧ c < 65536 ∧ encN c = [224 + c / 4096, 128 + c / 64 % 64, 128 + c % 64]) ∨ (65536 ≤ c ∧ encN c = [240 + c / 262144, 128 + c / 4096 % 64, 128 + c / 64 % 64, 128 + c % 64]) := by
    intro c _
    unfold encN
    by_cases c1 : c < 128
    · exact .inl ⟨c1, if_pos c1⟩
    by_cases c2 : c < 2048
    · exact .inr (.inl ⟨by omega, c2, by rw [if_neg c1, if_pos c2]⟩)
    by_cases c3 : c < 65536
    · exact .inr (.inr (.inl ⟨by omega, c3, by rw [if_neg c1, if_neg c2, if_pos c3]⟩))
    · exact .inr (.inr (.inr ⟨by omega, by rw [if_neg c1, if_neg c2, if_neg c3]⟩))
  unfold enc
  rcases key a (by omega) with ⟨a1, ea⟩ | ⟨a1, a2, ea⟩ | ⟨a1, a2, ea⟩ | ⟨a1, ea⟩ <;> rcases key b (by omega) with ⟨b1, eb⟩ | ⟨b1, b2, eb⟩ | ⟨b1, b2, eb⟩ | ⟨b1, eb⟩ <;> rw [ea, eb] <;>
    simp only [List.map_cons, List.map_nil, List.cons_append, List.nil_append] <;> simp (disch := omega) only [bl_cons] <;> (try omega) <;> (constructor <;> (repeat' split) <;> first | rfl | omega)
open Gw.Name (cmpL ranks less)
theorem cmpL_cases : ∀ (l m : List Int), (cmpL l m = -1 ∧ cmpL m l = 1) ∨ (cmpL l m = 0 ∧ l = m) ∨ (cmpL l m = 1 ∧ cmpL m l = -1)
  | [], [] => .inr (.inl ⟨rfl, rfl⟩)
  | [], _ :: _ => .inl ⟨rfl, rfl⟩
  | _ :: _, [] => .inr (.inr ⟨rfl, rfl⟩)
  | a :: l, b :: m => by
    rw [cmpL, cmpL]
    by_cases h1 : a < b
    · rw [if_pos h1, if_neg (by omega), if_pos h1]; exact .inl ⟨rfl, rfl⟩
    by_cases h2 : b < a
    · rw [if_neg h1, if_pos h2, if_pos h2]; exact .inr (.inr ⟨rfl, rfl⟩)
    obtain rfl : a = b := by omega
    rw [if_neg h1, if_neg h1, if_neg h1, if_neg h1]
    rcases cmpL_cases l m with h | ⟨h3, h4⟩ | h
    · exact .inl h
    · exact .inr (.inl ⟨h3, by rw [h4]⟩)
    · exact .inr (.inr h)
theorem cmpL_trans : ∀ (l m n : List Int), cmpL l m < 0 → cmpL m n < 0 → cmpL l n < 0
  | [], [], n, h, _ => by rw [cmpL] at h; omega
  | [], _ :: _, [], _, h => by rw [cmpL] at h; omega
  | [], _ :: _, _ :: _, _, _ => by rw [cmpL]; omega
  | _ :: _, [], n, h, _ => by rw [cmpL] at h; omega
  | _ :: _, _ :: _, [], _, h => by rw [cmpL] at h; omega
  | a :: l, b :: m, c :: n, h, k => by
    rw [cmpL] at h k ⊢
    by_cases h1 : a < b
    · by_cases k1 : b < c
      · rw [if_pos (by omega)]; omega
      · rw [if_neg k1] at k
        by_cases k2 : c < b
        · rw [if_pos k2] at k; omega
        · rw [if_pos (by omega)]; omega
    · rw [if_neg h1] at h
      by_cases h2 : b < a
      · rw [if_pos h2] at h; omega
      · rw [if_neg h2] at h
        by_cases k1 : b < c
        · rw [if_pos (by omega)]; omega
        · rw [if_neg k1] at k
          by_cases k2 : c < b
          · rw [if_pos k2] at k; omega
          · rw [if_neg k2] at k
            rw [if_neg (by omega), if_neg (by omega)]
            exact cmpL_trans l m n h k
theorem cmpL_map (f : UInt8 → Int) (hf : ∀ a b, f a < f b ↔ a.toNat < b.toNat) : ∀ (a b : List UInt8), decide (cmpL (a.map f) (b.map f) < 0) = Go.Op.bytesLess a b
  | [], [] => rfl
  | [], _ :: _ => rfl
  | _ :: _, [] => rfl
  | x :: a, y :: b => by
    rw [List.map_cons, List.map_cons, cmpL, Go.Op.bytesLess]
    by_cases h1 : x.toNat < y.toNat
    · rw [if_pos ((hf x y).2 h1)]
      simp [UInt8.lt_iff_toNat_lt, h1]
    rw [if_neg (fun h => h1 ((hf x y).1 h))]
    by_cases h2 : y.toNat < x.toNat
    · rw [if_pos ((hf y x).2 h2)]
      have : ¬ x = y := fun e => by rw [e] at h2; omega
      simp [UInt8.lt_iff_toNat_lt, h1, this]
    · rw [if_neg (fun h => h2 ((hf y x).1 h)), cmpL_map f hf a b]
      have e : x = y := UInt8.toNat_inj.1 (by omega)
      simp [e]
theorem less_flat : ∀ {m n : List Nat}, (∀ r ∈ m, vN r) → (∀ r ∈ n, vN r) → decide (cmpL (ints m) (ints n) < 0) = Go.Op.bytesLess (flat m) (flat n)
  | [], [], _, _ => rfl
  | [], r :: n, _, _ => by
    have := enc_pos r
    rw [flat_cons]
    cases h : enc r with
    | nil => rw [h] at this; simp at this
    | cons a l => rfl
  | r :: m, [], _, _ => by
    have := enc_pos r
    rw [flat_cons]
    cases h : enc r with
    | nil => rw [h] at this; simp at this
    | cons a l => rfl
  | a :: m, b :: n, hm, hn => by
    have ha := hm a (by simp)
    have hb := hn b (by simp)
    rw [flat_cons, flat_cons, show ints (a :: m) = (a : Int) :: ints m from rfl, show ints (b :: n) = (b : Int) :: ints n from rfl, cmpL]
    by_cases h1 : a < b
    · rw [if_pos (by omega), (enc_lt hb h1 _ _).1]; rfl
    by_cases h2 : b < a
    · rw [if_neg (by omega), if_pos (by omega), (enc_lt ha h2 _ _).2]; rfl
    obtain rfl : a = b := by omega
    rw [if_neg (by omega), if_neg (by omega), bl_same]
    exact less_flat (fun r hr => hm r (by simp [hr])) (fun r hr => hn r (by simp [hr]))
theorem ints_inj : ∀ {m n : List Nat}, ints m = ints n → m = n
  | [], [], _ => rfl
  | [], _ :: _, h => by cases h
  | _ :: _, [], h => by cases h
  | a :: m, b :: n, h => by
    have h1 : (a : Int) = b := (List.cons.inj h).1
    have h2 : ints m = ints n := (List.cons.inj h).2
    rw [ints_inj h2, show a = b by omega]
def raw (s : List UInt8) : List Int := s.map fun b => (1114112 + b.toNat : Int)
theorem raw_inj : ∀ {a b : List UInt8}, raw a = raw b → a = b
  | [], [], _ => rfl
  | [], _ :: _, h => by cases h
  | _ :: _, [], h => by cases h
  | x :: a, y :: b, h => by
    have h1 : (1114112 + x.toNat : Int) = 1114112 + y.toNat := (List.cons.inj h).1
    have h2 : raw a = raw b := (List.cons.inj h).2
    rw [raw_inj h2, UInt8.toNat_inj.1 (show x.toNat = y.toNat by omega)]
theorem ranks_some {s : List UInt8} {l : List Int} (h : Gw.Name.spell s = some l) : ranks s = l := by unfold ranks; rw [h]
theorem ranks_none {s : List UInt8} (h : Gw.Name.spell s = none) : ranks s = raw s := by unfold ranks; rw [h]; rfl
/-- A text with runes stands ahead of one without. -/
theorem mixed_lt {m : List Nat} (hm : ∀ r ∈ m, vN r) {s : List UInt8} (hs : s ≠ []) : cmpL (ints m) (raw s) = -1 := by
  cases s with
  | nil => exact absurd rfl hs
  | cons b s =>
    cases m with
    | nil => rfl
    | cons r m =>
      have := hm r (by simp)
      unfold vN at this
      show cmpL ((r : Int) :: ints m) ((1114112 + b.toNat : Int) :: raw s) = -1
      rw [cmpL, if_pos (by omega)]
theorem spell_none_ne {s : List UInt8} (h : Gw.Name.spell s = none) : s ≠ [] := fun e => by subst e; cases h
theorem mixed {a b : List UInt8} {l : List Int} (ha : Gw.Name.spell a = some l) (hb : Gw.Name.spell b = none) : less a b = true ∧ less b a = false := by
  obtain ⟨m, rfl, hm, rfl⟩ := spell_iff.1 ha
  have h := mixed_lt hm (spell_none_ne hb)
  unfold less
  rw [ranks_some ha, ranks_none hb]
  refine ⟨by rw [h]; rfl, ?_⟩
  rcases cmpL_cases (ints m) (raw b) with h1 | h1 | h1
  · rw [h1.2]; rfl
  · omega
  · omega
theorem ranks_inj {a b : List UInt8} (h : ranks a = ranks b) : a = b := by
  cases ha : Gw.Name.spell a with
  | some l =>
    obtain ⟨m, rfl, hm, e⟩ := spell_iff.1 ha
    cases hb : Gw.Name.spell b with
    | some l' =>
      obtain ⟨n, rfl, hn, e'⟩ := spell_iff.1 hb
      rw [ranks_some ha, ranks_some hb] at h
      rw [e, e', ints_inj h]
    | none =>
      have h1 := mixed_lt hm (spell_none_ne hb)
      rw [ranks_some ha, ranks_none hb] at h
      rw [h] at h1
      rcases cmpL_cases (raw b) (raw b) with h2 | h2 | h2 <;> omega
  | none =>
    cases hb : Gw.Name.spell b with
    | some l' =>
      obtain ⟨n, rfl, hn, e'⟩ := spell_iff.1 hb
      have h1 := mixed_lt hn (spell_none_ne ha)
      rw [ranks_none ha, ranks_some hb] at h
      rw [h] at h1
      rcases cmpL_cases (ints n) (ints n) with h2 | h2 | h2 <;> omega
    | none =>
      rw [ranks_none ha, ranks_none hb] at h
      exact raw_inj h
/-- Of two texts one stands ahead, just if they are unlike. -/
theorem order (a b : List UInt8) : (less a b != less b a) = !decide (a = b) := by
  by_cases e : a = b
  · subst e; simp
  rw [decide_eq_false e]
  unfold less
  rcases cmpL_cases (ranks a) (ranks b) with h | h | h
  · rw [h.1, h.2]; rfl
  · exact absurd (ranks_inj h.2) e
  · rw [h.1, h.2]; rfl
theorem less_trans {a b c : List UInt8} (h : less a b = true) (k : less b c = true) : less a c = true :=
  decide_eq_true (cmpL_trans _ _ _ (of_decide_eq_true h) (of_decide_eq_true k))
/-- By runes, and by bytes. -/
theorem less_bytes {a b : List UInt8} (h : (Gw.Name.spell a).isSome = (Gw.Name.spell b).isSome) : less a b = Go.Op.bytesLess a b := by
  unfold less
  cases ha : Gw.Name.spell a with
  | some l =>
    cases hb : Gw.Name.spell b with
    | some l' =>
      rw [ranks_some ha, ranks_some hb]
      obtain ⟨m, rfl, hm, rfl⟩ := spell_iff.1 ha
      obtain ⟨n, rfl, hn, rfl⟩ := spell_iff.1 hb
      exact less_flat hm hn
    | none => rw [ha, hb] at h; cases h
  | none =>
    cases hb : Gw.Name.spell b with
    | some l' => rw [ha, hb] at h; cases h
    | none =>
      rw [ranks_none ha, ranks_none hb]
      exact cmpL_map _ (fun x y => by omega) a b
end Gw.Rune


namespace Gw.View
theorem less_irrefl (a : List UInt8) : Gw.Name.less a a = false := by
  unfold Gw.Name.less
  rcases Gw.Rune.cmpL_cases (Gw.Name.ranks a) (Gw.Name.ranks a) with ⟨h1, h2⟩ | ⟨h1, _⟩ | ⟨h1, h2⟩
  · rw [h1] at h2; cases h2
  · rw [h1]; rfl
  · rw [h1] at h2; cases h2
theorem less_total {a b : List UInt8} (h1 : Gw.Name.less a b = false) (h2 : Gw.Name.less b a = false) : a = b := by
  have := Gw.Rune.order a b
  rw [h1, h2] at this
  simpa using this
theorem less_asymm {a b : List UInt8} (h : Gw.Name.less a b = true) : Gw.Name.less b a = false := by
  cases h2 : Gw.Name.less b a
  · rfl
  · have := Gw.Rune.less_trans h h2
    rw [less_irrefl] at this; cases this
/-- The texts, in their order. -/
def insT (s : List UInt8) : List (List UInt8) → List (List UInt8)
  | [] => [s]
  | t :: l => if Gw.Name.less t s = true then t :: insT s l else s :: t :: l
def sortT : List (List UInt8) → List (List UInt8)
  | [] => []
  | s :: l => insT s (sortT l)
theorem insT_perm (s : List UInt8) : ∀ l, (insT s l).Perm (s :: l)
  | [] => .refl _
  | t :: l => by
    rw [insT]
    split
    · exact (List.Perm.cons t (insT_perm s l)).trans (.swap s t l)
    · exact .refl _
theorem sortT_perm : ∀ l, (sortT l).Perm l
  | [] => .refl _
  | s :: l => (insT_perm s _).trans (.cons s (sortT_perm l))
/-- One does not stand behind the other. -/
def leT (a b : List UInt8) : Prop := Gw.Name.less b a = false
theorem leT_anti {a b : List UInt8} (h : leT a b) (k : leT b a) : a = b := less_total k h
theorem leT_of {a b : List UInt8} (h : Gw.Name.less a b = true) : leT a b := less_asymm h
theorem leT_trans {a b c : List UInt8} (h : leT a b) (k : leT b c) : leT a c := by
  unfold leT at *
  cases h3 : Gw.Name.less c a
  · rfl
  · cases h4 : Gw.Name.less a b with
    | true =>
      have := Gw.Rune.less_trans h3 h4
      rw [k] at this; cases this
    | false =>
      have := less_total h4 h
      subst this
      rw [k] at h3; cases h3
theorem insT_sorted (s : List UInt8) : ∀ l, l.Pairwise leT → (insT s l).Pairwise leT
  | [], _ => List.pairwise_singleton _ _
  | t :: l, h => by
    rw [insT]
    have h1 := (List.pairwise_cons.1 h).1
    have h2 := (List.pairwise_cons.1 h).2
    split
    · rename_i hlt
      refine List.pairwise_cons.2 ⟨fun u hu => ?_, insT_sorted s l h2⟩
      rcases List.mem_cons.1 ((insT_perm s l).mem_iff.1 hu) with rfl | hu
      · exact leT_of hlt
      · exact h1 u hu
    · rename_i hlt
      have hst : leT s t := by unfold leT; simpa using hlt
      refine List.pairwise_cons.2 ⟨fun u hu => ?_, h⟩
      rcases List.mem_cons.1 hu with rfl | hu
      · exact hst
      · exact leT_trans hst (h1 u hu)
theorem sortT_sorted : ∀ l, (sortT l).Pairwise leT
  | [] => .nil
  | s :: l => insT_sorted s _ (sortT_sorted l)
theorem sortT_unique {l m : List (List UInt8)} (h : m.Perm l) (hs : m.Pairwise leT) : m = sortT l :=
  List.Perm.eq_of_pairwise (fun _ _ _ _ h1 h2 => leT_anti h1 h2) hs (sortT_sorted l) (h.trans (sortT_perm l).symm)
end Gw.View


namespace Gw.Lists
theorem len_of_sub {α : Type} : ∀ {l m : List α}, l.Nodup → (∀ a ∈ l, a ∈ m) → l.length ≤ m.length
  | [], _, _, _ => Nat.zero_le _
  | a :: l, m, hd, h => by
    obtain ⟨s, t, rfl⟩ := List.append_of_mem (h a (by simp))
    rw [List.nodup_cons] at hd
    have := len_of_sub (l := l) (m := s ++ t) hd.2 fun b hb => by
      have := h b (by simp [hb])
      simp only [List.mem_append, List.mem_cons] at this ⊢
      rcases this with h1 | rfl | h1
      · exact .inl h1
      · exact absurd hb hd.1
      · exact .inr h1
    simp only [List.length_append, List.length_cons] at this ⊢
    omega
theorem perm_of_mem {α : Type} : ∀ {l m : List α}, l.Nodup → m.Nodup → (∀ a, a ∈ l ↔ a ∈ m) → l.Perm m
  | [], m, _, _, h => by
    have : m = [] := List.eq_nil_iff_forall_not_mem.2 fun a ha => by have := (h a).2 ha; cases this
    rw [this]
  | a :: l, m, hd, hm, h => by
    obtain ⟨s, t, rfl⟩ := List.append_of_mem ((h a).1 (by simp))
    rw [List.nodup_cons] at hd
    have hm' : (a :: (s ++ t)).Nodup := (List.perm_middle.nodup_iff).1 hm
    rw [List.nodup_cons] at hm'
    refine (List.Perm.cons a (perm_of_mem hd.2 hm'.2 fun b => ?_)).trans List.perm_middle.symm
    have hb := h b
    simp only [List.mem_cons, List.mem_append] at hb ⊢
    constructor
    · intro hl
      rcases hb.1 (.inr hl) with h1 | rfl | h1
      · exact .inl h1
      · exact absurd hl hd.1
      · exact .inr h1
    · intro hst
      have : b ≠ a := fun e => by subst e; exact hm'.1 (List.mem_append.2 hst)
      rcases hb.2 (by rcases hst with h1 | h1; exact .inl h1; exact .inr (.inr h1)) with h1 | h1
      · exact absurd h1 this
      · exact h1
theorem nodup_of_map {α β : Type} (f : α → β) : ∀ {l : List α}, (l.map f).Nodup → l.Nodup
  | [], _ => List.nodup_nil
  | a :: l, h => by
    rw [List.map_cons, List.nodup_cons] at h
    rw [List.nodup_cons]
    exact ⟨fun ha => h.1 (List.mem_map.2 ⟨a, ha, rfl⟩), nodup_of_map f h.2⟩
theorem inj_of_nodup {α β : Type} (f : α → β) : ∀ {l : List α}, (l.map f).Nodup → ∀ {a b : α}, a ∈ l → b ∈ l → f a = f b → a = b
  | c :: l, h, a, b, ha, hb, e => by
    rw [List.map_cons, List.nodup_cons] at h
    rcases List.mem_cons.1 ha with hac | ha
    · rcases List.mem_cons.1 hb with hbc | hb
      · rw [hac, hbc]
      · exact absurd (show f c ∈ l.map f from List.mem_map.2 ⟨b, hb, by rw [← e, hac]⟩) h.1
    · rcases List.mem_cons.1 hb with hbc | hb
      · exact absurd (show f c ∈ l.map f from List.mem_map.2 ⟨a, ha, by rw [e, hbc]⟩) h.1
      · exact inj_of_nodup f h.2 ha hb e
end Gw.Lists
