/- What rec.Take and rec.All compute, in plain Lean: no program in sight. -/
import Derived.Test.YtkempcjemeipnaaDoorRecFn
namespace Gw.Rec
open Gw.Vlq

def takeT (s : List UInt8) : Option (List UInt8 × List UInt8) := match Gw.Vlq.take s with
  | none => none
  | some (n, u) => if n + u ≤ s.length then some ((s.drop u).take n, s.drop (u + n)) else none
def openS (s : List UInt8) : Option (List UInt8) := if 4 ≤ s.length ∧ Gw.Sums.bytes (Gw.Sums.sum (s.take (s.length - 4))) = s.drop (s.length - 4) then some (s.take (s.length - 4)) else none
def isPre (p s : List UInt8) : Bool := decide (p.length ≤ s.length) && decide (s.take p.length = p)
/-- A record's text, and how many sectors it has. -/
def takeB (s : List UInt8) (lsn : Int) (p : List UInt8) : Option (List UInt8 × Nat) :=
  if may lsn p = true then (if isPre (packed lsn.toNat p) s = true then some (p, (packed lsn.toNat p).length / 16) else none) else none
def takeN (s : List UInt8) (lsn : Int) (b : List UInt8) : Option (List UInt8 × Nat) := match Gw.Vlq.take b with
  | none => none
  | some (_, u) => match takeT (b.drop u) with
    | none => none
    | some (p, _) => takeB s lsn p
def takeW (s : List UInt8) (lsn : Int) (x : List UInt8) : Option (List UInt8 × Nat) := match takeT x with
  | none => none
  | some (y, _) => match openS y with
    | none => none
    | some b => takeN s lsn b
def take (s : List UInt8) (lsn : Int) : Option (List UInt8 × Nat) :=
  if lsn < 1 ∨ 1000000 < lsn then none else takeW s lsn (whole s (mark lsn.toNat))
theorem wholeF_len (s : List UInt8) (m : Nat) : ∀ (f k : Nat) (b : List UInt8) (need : Nat), b.length ≤ s.length → b.length ≤ 16 * k → (wholeF s m f k b need).1.length ≤ s.length
  | 0, k, b, need, h, h2 => h
  | f + 1, k, b, need, h, h2 => by
    rw [wholeF]
    split
    · rename_i hf
      have e := inn_len (sect_len hf)
      have h3 : (b ++ inn (sect s k)).length ≤ s.length := by rw [List.length_append]; omega
      split
      · exact h
      · split
        · exact h3
        · exact wholeF_len s m f (k + 1) _ _ h3 (by rw [List.length_append]; omega)
    · exact h
theorem whole_len (s : List UInt8) (m : Nat) : (whole s m).length ≤ s.length := by
  unfold whole wholeE
  split
  · exact Nat.zero_le _
  · exact wholeF_len s m _ _ _ _ (Nat.zero_le _) (Nat.zero_le _)
theorem takeT_len {s x y : List UInt8} (h : takeT s = some (x, y)) : x.length ≤ s.length := by
  unfold takeT at h
  split at h
  · cases h
  · split at h
    · simp only [Option.some.injEq, Prod.mk.injEq] at h
      rw [← h.1, List.length_take, List.length_drop]; omega
    · cases h
theorem openS_len {s x : List UInt8} (h : openS s = some x) : x.length ≤ s.length := by
  unfold openS at h
  split at h
  · simp only [Option.some.injEq] at h
    rw [← h, List.length_take]; omega
  · cases h
/-- All the records that follow one another. -/
def allF : Nat → List UInt8 → Int → List (List UInt8) → Nat → List (List UInt8) × Nat
  | 0, _, _, acc, n => (acc, n)
  | f + 1, s, lsn, acc, n => match take (s.drop (16 * n)) lsn with
    | none => (acc, n)
    | some (p, k) => allF f s (lsn + 1) (acc ++ [p]) (n + k)
def all (s : List UInt8) (lsn : Int) : List (List UInt8) × Nat := allF (s.length + 1) s lsn [] 0
theorem take_more {s : List UInt8} {lsn : Int} {p : List UInt8} {k : Nat} (h : take s lsn = some (p, k)) : may lsn p = true ∧ isPre (packed lsn.toNat p) s = true ∧ k = (packed lsn.toNat p).length / 16 := by
  unfold take takeW takeN takeB at h
  split at h
  · cases h
  split at h
  · cases h
  split at h
  · cases h
  split at h
  · cases h
  split at h
  · cases h
  split at h
  · split at h
    · simp only [Option.some.injEq, Prod.mk.injEq] at h
      obtain ⟨rfl, rfl⟩ := h
      refine ⟨by assumption, by assumption, rfl⟩
    · cases h
  · cases h
theorem bytes_pos (n : Nat) (p : List UInt8) : 0 < (bytes n p).length := by
  unfold bytes Gw.Vlq.text Gw.Vlq.one
  simp only [List.length_append, List.length_cons]; omega
theorem take_bound {s : List UInt8} {lsn : Int} {p : List UInt8} {k : Nat} (h : take s lsn = some (p, k)) : 0 < k ∧ 16 * k ≤ s.length := by
  obtain ⟨_, h2, rfl⟩ := take_more h
  have hb := bytes_pos lsn.toNat p
  unfold isPre at h2
  rw [Bool.and_eq_true, decide_eq_true_eq] at h2
  have e : (packed lsn.toNat p).length = 16 * many (bytes lsn.toNat p) := secs_len _ _ _
  have : 0 < many (bytes lsn.toNat p) := by unfold many; omega
  omega
end Gw.Rec
