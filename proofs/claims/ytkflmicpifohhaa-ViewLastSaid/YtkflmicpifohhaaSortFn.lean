/- Sorting in place, in plain Lean: no program in sight. -/
namespace Gw.Sort
variable {α : Type} (lt : α → α → Bool)
/-- Two places turned. -/
def swap (l : List α) (p q : Nat) : List α := match l[p]?, l[q]? with
  | some x, some y => (l.set p y).set q x
  | _, _ => l
def lessAt (l : List α) (p q : Nat) : Bool := match l[p]?, l[q]? with
  | some x, some y => lt x y
  | _, _ => false
def sink (a : Nat) : Nat → List α → List α
  | 0, l => l
  | j + 1, l => if decide (a < j + 1) && lessAt lt l (j + 1) j then sink a j (swap l (j + 1) j) else l
def insF (a : Nat) : Nat → Nat → List α → List α
  | 0, _, l => l
  | f + 1, i, l => insF a f (i + 1) (sink lt a i l)
def isort (a b : Nat) (l : List α) : List α := insF lt a (b - (a + 1)) (a + 1) l

theorem swap_eq {l : List α} {p q : Nat} (hp : p < l.length) (hq : q < l.length) : swap l p q = (l.set p l[q]).set q l[p] := by
  unfold swap
  rw [List.getElem?_eq_getElem hp, List.getElem?_eq_getElem hq]
theorem swap_len (l : List α) (p q : Nat) : (swap l p q).length = l.length := by
  unfold swap
  split <;> simp
theorem swap_perm (l : List α) (p q : Nat) : (swap l p q).Perm l := by
  by_cases hp : p < l.length
  · by_cases hq : q < l.length
    · rw [swap_eq hp hq]
      have h := Array.swap_perm (xs := l.toArray) (i := p) (j := q) (by simpa using hp) (by simpa using hq)
      have e : (l.toArray.swap p q (by simpa using hp) (by simpa using hq)).toList = (l.set p l[q]).set q l[p] := by simp [Array.swap]
      rw [← e]
      exact h.toList
    · unfold swap
      rw [List.getElem?_eq_none (show l.length ≤ q by omega)]
      cases l[p]? <;> exact .refl _
  · unfold swap
    rw [List.getElem?_eq_none (show l.length ≤ p by omega)]
theorem lessAt_eq {l : List α} {p q : Nat} (hp : p < l.length) (hq : q < l.length) : lessAt lt l p q = lt l[p] l[q] := by
  unfold lessAt
  rw [List.getElem?_eq_getElem hp, List.getElem?_eq_getElem hq]
theorem sink_perm (a : Nat) : ∀ (j : Nat) (l : List α), (sink lt a j l).Perm l
  | 0, _ => .refl _
  | j + 1, l => by
    rw [sink]
    split
    · exact (sink_perm a j _).trans (swap_perm _ _ _)
    · exact .refl _
theorem insF_perm (a : Nat) : ∀ (f i : Nat) (l : List α), (insF lt a f i l).Perm l
  | 0, _, _ => .refl _
  | f + 1, i, l => (insF_perm a f (i + 1) _).trans (sink_perm lt a i l)
theorem isort_perm (a b : Nat) (l : List α) : (isort lt a b l).Perm l := insF_perm lt a _ _ l
theorem sink_len (a j : Nat) (l : List α) : (sink lt a j l).length = l.length := (sink_perm lt a j l).length_eq
end Gw.Sort



