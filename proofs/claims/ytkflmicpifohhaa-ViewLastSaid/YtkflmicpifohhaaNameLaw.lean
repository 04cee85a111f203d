/- What the package name computes of texts, paths and names, in plain Lean. -/
import Derived.Test.YtkflmicpifohhaaNameFn
import Derived.Lib.Bytealg
namespace Gw.Name
open Go
def ranks (s : List UInt8) : List Int := match spell s with | some l => l | none => s.map fun b => (1114112 + b.toNat : Int)
def cmpL : List Int → List Int → Int
  | [], [] => 0
  | [], _ :: _ => -1
  | _ :: _, [] => 1
  | a :: l, b :: m => if a < b then -1 else if b < a then 1 else cmpL l m
/-- Whether one text stands ahead of another one. -/
def less (a b : List UInt8) : Bool := decide (cmpL (ranks a) (ranks b) < 0)
/-- A text's parts, between the marks. -/
def split : List UInt8 → List (List UInt8)
  | [] => [[]]
  | b :: l => if b = 47 then [] :: split l else match split l with
    | [] => [[b]]
    | h :: t => (b :: h) :: t
def fit (l : List (List UInt8)) : Bool := decide (l.length ≤ 16) && l.all check
/-- A path's names. -/
def paths (p : List UInt8) : Option (List (List UInt8)) := if p = [47] then some [] else match p with
  | [] => none
  | b :: r => if b = 47 then (if fit (split r) = true then some (split r) else none) else none
def glue : List (List UInt8) → List UInt8
  | [] => []
  | x :: r => x ++ (r.map fun y => 47 :: y).flatten
/-- The path of names. -/
def join (l : List (List UInt8)) : Option (List UInt8) := if fit l = true then some (47 :: glue l) else none

theorem split_ne (s : List UInt8) : split s ≠ [] := by
  cases s with
  | nil => simp [split]
  | cons b l =>
    rw [split]
    split
    · simp
    · split <;> simp
theorem split_len (s : List UInt8) : (split s).length = s.count 47 + 1 := by
  induction s with
  | nil => rfl
  | cons b l ih =>
    rw [split, List.count_cons]
    by_cases hb : b = 47
    · rw [if_pos hb, List.length_cons, ih, if_pos (by simp [hb])]
    · rw [if_neg hb, if_neg (by simp [hb])]
      cases hs : split l with
      | nil => exact absurd hs (split_ne l)
      | cons h t => rw [hs] at ih; simp only [List.length_cons] at ih ⊢; omega
theorem idx_neg {s : List UInt8} (h : Lib.indexByte s 47 = -1) : split s = [s] ∧ s.count 47 = 0 := by
  induction s with
  | nil => exact ⟨rfl, rfl⟩
  | cons b l ih =>
    rw [Lib.indexByte] at h
    have hg := Lib.indexByte_ge l 47
    by_cases hb : b = 47
    · rw [if_pos (by simp [hb])] at h; omega
    rw [if_neg (by simp [hb])] at h
    by_cases h2 : Lib.indexByte l 47 = -1
    · obtain ⟨i1, i2⟩ := ih h2
      refine ⟨by rw [split, if_neg hb, i1], by rw [List.count_cons, i2, if_neg (by simp [hb])]⟩
    · rw [if_neg (by simp [h2])] at h; omega
theorem idx_pos {s : List UInt8} {m : Nat} (h : Lib.indexByte s 47 = (m : Int)) : m < s.length ∧ split s = s.take m :: split (s.drop (m + 1)) ∧ s.count 47 = (s.drop (m + 1)).count 47 + 1 := by
  induction s generalizing m with
  | nil => rw [Lib.indexByte] at h; omega
  | cons b l ih =>
    rw [Lib.indexByte] at h
    by_cases hb : b = 47
    · rw [if_pos (by simp [hb])] at h
      obtain rfl : m = 0 := by omega
      refine ⟨by simp, by rw [split, if_pos hb]; simp, by rw [List.count_cons, if_pos (by simp [hb])]; simp⟩
    rw [if_neg (by simp [hb])] at h
    by_cases h2 : Lib.indexByte l 47 = -1
    · rw [if_pos (by simp [h2])] at h; omega
    rw [if_neg (by simp [h2])] at h
    obtain ⟨k, rfl⟩ : ∃ k, m = k + 1 := ⟨m - 1, by have := Lib.indexByte_ge l 47; omega⟩
    obtain ⟨i1, i2, i3⟩ := ih (m := k) (by omega)
    refine ⟨by simp; omega, ?_, ?_⟩
    · rw [split, if_neg hb, i2]; simp
    · rw [List.count_cons, if_neg (by simp [hb]), i3]; simp
theorem idx_some {s : List UInt8} (h : 0 < s.count 47) : ∃ m : Nat, Lib.indexByte s 47 = (m : Int) := by
  have hg := Lib.indexByte_ge s 47
  by_cases h1 : Lib.indexByte s 47 = -1
  · have := (idx_neg h1).2; omega
  · exact ⟨(Lib.indexByte s 47).toNat, by omega⟩
theorem idx_none {s : List UInt8} (h : s.count 47 = 0) : split s = [s] := by
  have hg := Lib.indexByte_ge s 47
  by_cases h1 : Lib.indexByte s 47 = -1
  · exact (idx_neg h1).1
  · have := (idx_pos (s := s) (m := (Lib.indexByte s 47).toNat) (by omega)).2.2; omega
end Gw.Name
