/- Nodes, in plain Lean: no program in sight. -/
import Derived.Test.YtkflmicpifohhaaStampFn
namespace Gw.Tree
open Gw.Stamp (Stamp)
structure Node where
  id : Int
  parent : Int
  name : List UInt8
  moved : Stamp
  data : List UInt8
  wrote : Stamp
def zeroN : Node := ⟨0, 0, [], ⟨0, 0⟩, [], ⟨0, 0⟩⟩
/-- The node ahead of a place has a smaller number. -/
def prevOk (l : List Node) (id : Int) : Nat → Bool
  | 0 => true
  | j + 1 => match l[j]? with | none => false | some p => decide (p.id < id)
/-- The node at a place may be there. -/
def mayAt (l : List Node) (k : Nat) : Bool := match l[k]? with
  | none => false
  | some n => Gw.Stamp.ok n.id && prevOk l n.id k
/-- Whether nodes may be. -/
def check (l : List Node) : Bool := (List.range l.length).all (mayAt l)
/-- The place of a number in nodes that rise; whether its node is there; the node. -/
def pos (l : List Node) (id : Int) : Nat := (l.takeWhile fun n => decide (n.id < id)).length
def had (l : List Node) (id : Int) : Bool := match l[pos l id]? with | none => false | some n => decide (n.id = id)
def find (l : List Node) (id : Int) : Option Node := match l[pos l id]? with | none => none | some n => if n.id = id then some n else none
/-- What is above a number: so far at most. -/
def climb (l : List Node) : Nat → Int → List Int
  | 0, _ => []
  | f + 1, id => match find l id with
    | none => []
    | some n => if n.parent = -1 then [] else n.parent :: climb l f n.parent
def above (l : List Node) (id : Int) : List Int := if check l = true then climb l l.length id else []

theorem check_at {l : List Node} (h : check l = true) {k : Nat} (hk : k < l.length) : mayAt l k = true := List.all_eq_true.1 h k (List.mem_range.2 hk)
theorem check_ok {l : List Node} (h : check l = true) {k : Nat} (hk : k < l.length) : Gw.Stamp.ok l[k].id = true := by
  have := check_at h hk
  unfold mayAt at this
  rw [List.getElem?_eq_getElem hk] at this
  simp only [Bool.and_eq_true] at this
  exact this.1
theorem check_next {l : List Node} (h : check l = true) {k : Nat} (hk : k + 1 < l.length) : l[k].id < l[k + 1].id := by
  have := check_at h hk
  unfold mayAt at this
  rw [List.getElem?_eq_getElem hk] at this
  simp only [Bool.and_eq_true] at this
  have h2 := this.2
  rw [prevOk, List.getElem?_eq_getElem (show k < l.length by omega)] at h2
  exact of_decide_eq_true h2
theorem check_lt {l : List Node} (h : check l = true) {i j : Nat} (hij : i < j) (hj : j < l.length) : l[i].id < l[j].id := by
  induction j with
  | zero => omega
  | succ j ih =>
    have h1 := check_next h hj
    by_cases e : i = j
    · subst e; exact h1
    · have := ih (by omega) (by omega); omega
theorem pos_le (l : List Node) (id : Int) : pos l id ≤ l.length := by
  unfold pos
  exact (List.takeWhile_sublist _).length_le
theorem pos_low {l : List Node} {id : Int} {k : Nat} (hk : k < pos l id) : ∃ h : k < l.length, l[k].id < id := by
  have hl : k < l.length := Nat.lt_of_lt_of_le hk (pos_le l id)
  refine ⟨hl, ?_⟩
  unfold pos at hk
  have hp : (l.takeWhile fun n => decide (n.id < id)) <+: l := List.takeWhile_prefix _
  have e := hp.getElem hk
  have hm : (l.takeWhile fun n => decide (n.id < id))[k] ∈ (l.takeWhile fun n => decide (n.id < id)) := List.getElem_mem hk
  have := List.all_takeWhile (p := fun n : Node => decide (n.id < id)) (l := l)
  have := List.all_eq_true.1 this _ hm
  rw [e] at this
  exact of_decide_eq_true this
theorem pos_at {l : List Node} {id : Int} (h : pos l id < l.length) : id ≤ l[pos l id].id := by
  induction l with
  | nil => simp at h
  | cons n l ih =>
    by_cases hn : n.id < id
    · have e : pos (n :: l) id = pos l id + 1 := by unfold pos; rw [List.takeWhile_cons_of_pos (by simpa using hn)]; rfl
      simp only [e, List.getElem_cons_succ]
      simp only [e, List.length_cons] at h
      exact ih (by omega)
    · have e : pos (n :: l) id = 0 := by unfold pos; rw [List.takeWhile_cons_of_neg (by simpa using hn)]; rfl
      simp only [e, List.getElem_cons_zero]
      omega
theorem pos_of {l : List Node} {id : Int} {i : Nat} (hi : i ≤ l.length) (h1 : ∀ k (hk : k < l.length), k < i → l[k].id < id) (h2 : ∀ k (hk : k < l.length), i ≤ k → id ≤ l[k].id) : i = pos l id := by
  rcases Nat.lt_trichotomy i (pos l id) with h | h | h
  · obtain ⟨hl, h3⟩ := pos_low h
    have := h2 i hl (Nat.le_refl _); omega
  · exact h
  · have hl : pos l id < l.length := by omega
    have := h1 _ hl h
    have := pos_at hl; omega
theorem had_find (l : List Node) (id : Int) : had l id = (find l id).isSome := by
  unfold had find
  cases l[pos l id]? with
  | none => rfl
  | some n => by_cases h : n.id = id <;> simp [h]
theorem find_some {l : List Node} {id : Int} {n : Node} (h : find l id = some n) : n ∈ l ∧ n.id = id ∧ ∃ hp : pos l id < l.length, l[pos l id] = n := by
  unfold find at h
  cases hg : l[pos l id]? with
  | none => simp [hg] at h
  | some m =>
    simp only [hg] at h
    split at h
    · cases h
      obtain ⟨hp, e⟩ := List.getElem?_eq_some_iff.1 hg
      exact ⟨List.mem_of_getElem? hg, by assumption, hp, e⟩
    · cases h
theorem find_mem {l : List Node} (hc : check l = true) {n : Node} (h : n ∈ l) : find l n.id = some n := by
  obtain ⟨k, hk, rfl⟩ := List.getElem_of_mem h
  have e : k = pos l l[k].id := pos_of (Nat.le_of_lt hk) (fun j hj h => check_lt hc h hk) (fun j hj h => by
    by_cases e : k = j
    · subst e; exact Int.le_refl _
    · exact Int.le_of_lt (check_lt hc (by omega) hj))
  unfold find
  rw [← e, List.getElem?_eq_getElem hk]
  simp
theorem climb_len (l : List Node) : ∀ (f : Nat) (id : Int), (climb l f id).length ≤ f
  | 0, _ => Nat.le_refl _
  | f + 1, id => by
    rw [climb]
    split
    · simp
    · split
      · simp
      · have := climb_len l f (by assumption : Node).parent; simp; omega
end Gw.Tree
