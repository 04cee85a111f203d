/- What the package name computes, in plain Lean, over the model's reading of runes. -/
import GoSem.Core.Utf8
namespace Gw.Name
def dec (s : List UInt8) (p : Nat) : Nat × Nat := Go.Utf8.decode ⟨s.toArray⟩ p
theorem dec_pos (s : List UInt8) (p : Nat) : 1 ≤ (dec s p).2 := by
  unfold dec Go.Utf8.decode
  simp only
  repeat' split
  all_goals simp
theorem dec_le (s : List UInt8) (p : Nat) : (dec s p).2 ≤ 4 := by
  unfold dec Go.Utf8.decode
  simp only
  repeat' split
  all_goals simp
def isPrefix (p s : List UInt8) : Bool := decide (p.length ≤ s.length) && decide (s.take p.length = p)
def spellF (s : List UInt8) : Nat → Nat → List Int → Option (List Int)
  | 0, _, acc => some acc
  | f + 1, p, acc => if p < s.length then (if ((dec s p).1 : Int) ≠ 65533 ∨ isPrefix [239, 191, 189] (s.drop p) = true then spellF s f (p + (dec s p).2) (acc ++ [((dec s p).1 : Int)]) else none) else some acc
/-- A text's runes, if it has some. -/
def spell (s : List UInt8) : Option (List Int) := spellF s (s.length + 1) 0 []
theorem spellF_len (s : List UInt8) : ∀ (f p : Nat) (acc l : List Int), spellF s f p acc = some l → l.length ≤ acc.length + (s.length - p)
  | 0, p, acc, l, h => by simp only [spellF, Option.some.injEq] at h; subst h; omega
  | f + 1, p, acc, l, h => by
    rw [spellF] at h
    have hd := dec_pos s p
    split at h
    · split at h
      · have := spellF_len s f _ _ _ h
        rw [List.length_append, List.length_singleton] at this
        omega
      · cases h
    · simp only [Option.some.injEq] at h; subst h; omega
theorem spell_len {s : List UInt8} {l : List Int} (h : spell s = some l) : l.length ≤ s.length := by
  have := spellF_len s _ _ _ _ h
  simp at this
  exact this
def barred (r : Int) : Bool := decide (r < 32) || (decide (r = 47) || decide (r = 127))
def idx (l : List Int) : Int := match l.findIdx? barred with | some i => (i : Int) | none => -1
def okL (s : List UInt8) (l : List Int) : Bool := !(decide (l.length < 1) || (decide (20 < l.length) || (decide (s = [46]) || decide (s = [46, 46])))) && !l.any barred
/-- Whether a text is a name. -/
def check (s : List UInt8) : Bool := match spell s with | none => false | some l => okL s l
end Gw.Name
