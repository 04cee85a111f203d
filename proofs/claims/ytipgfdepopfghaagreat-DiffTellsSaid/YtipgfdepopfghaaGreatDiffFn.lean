/- What has changed, in plain Lean: no program in sight. -/
import Derived.Test.YtipgfdepopfghaaGreatMapPl
import Derived.Test.YtipgfdepopfghaaGreatViewPl
namespace Gw.Diff
open Gw.View (Item)
open Gw.Mp
structure Event where
  kind : Int
  path : List UInt8
deriving DecidableEq
/-- Items by their paths: of those of a path the last. -/
def byPath (c : Nat) (l : List Item) : Nat × M Item := l.foldl (fun x t => set x t.path t) (c, [])
/-- The item of a path: the last. -/
def lastAt (l : List Item) (p : List UInt8) : Option Item := l.reverse.find? fun t => decide (t.path = p)
def sameAt (l : List Item) (t : Item) : Bool := match lastAt l t.path with
  | none => false
  | some x => decide (x.id = t.id)
def wroteAt (l : List Item) (t : Item) : Bool := match lastAt l t.path with
  | none => false
  | some x => decide (x.id = t.id) && !decide (x.data = t.data)
def gone (was is : List Item) : List Event := (was.reverse.filter fun t => !sameAt is t).map fun t => ⟨1, t.path⟩
def came (was is : List Item) : List Event := (is.filter fun t => !sameAt was t).map fun t => ⟨2, t.path⟩
def wrote (was is : List Item) : List Event := (is.filter fun t => wroteAt was t).map fun t => ⟨3, t.path⟩
/-- What has changed. -/
def ofI (was is : List Item) : List Event := gone was is ++ came was is ++ wrote was is
theorem byPath_snoc (c : Nat) (l : List Item) (t : Item) : byPath c (l ++ [t]) = set (byPath c l) t.path t := by unfold byPath; rw [List.foldl_append]; rfl
theorem byPath_ok (c : Nat) (l : List Item) : Ok (byPath c l) := by
  have key : ∀ (l : List Item) (x : Nat × M Item), Ok x → Ok (l.foldl (fun x t => set x t.path t) x) := by
    intro l
    induction l with
    | nil => intro x h; exact h
    | cons t l ih => intro x h; exact ih _ (set_ok h _ _)
  exact key l _ (Ok.nil c)
theorem byPath_find (c : Nat) (l : List Item) (p : List UInt8) : find p (byPath c l).2 = lastAt l p := by
  have key : ∀ (l : List Item) (x : Nat × M Item), find p (l.foldl (fun x t => set x t.path t) x).2 = match lastAt l p with | some t => some t | none => find p x.2 := by
    intro l
    induction l with
    | nil => intro x; rfl
    | cons t l ih =>
      intro x
      rw [List.foldl_cons, ih]
      unfold lastAt
      rw [List.reverse_cons, List.find?_append]
      cases List.find? (fun t => decide (t.path = p)) l.reverse with
      | some y => rfl
      | none =>
        simp only [Option.none_or, List.find?_singleton]
        rw [set_find]
        by_cases h : p = t.path
        · rw [if_pos h, if_pos (by simp [h])]
        · rw [if_neg h, if_neg (by simpa using fun q => h q.symm)]
  have := key l (c, [])
  unfold byPath
  rw [this]
  cases lastAt l p <;> rfl
/-- Paths that are there. -/
abbrev T := Nat × M Unit
def addP (x : T) (p : List UInt8) : T := set x p ()
def stepP (x : T) (e : Event) : T := if e.kind = 1 then (x.1, del e.path x.2) else if e.kind = 2 then addP x e.path else x
def playM (l : List (List UInt8)) (e : List Event) : T := e.foldl stepP (l.foldl addP (0, []))
theorem adds_ok (l : List (List UInt8)) : ∀ x : T, Ok x → Ok (l.foldl addP x) := by
  induction l with
  | nil => intro x h; exact h
  | cons p l ih => intro x h; exact ih _ (set_ok h _ _)
theorem step_ok {x : T} (h : Ok x) (e : Event) : Ok (stepP x e) := by
  unfold stepP
  split
  · exact del_ok h _
  · split
    · exact set_ok h _ _
    · exact h
theorem steps_ok (l : List Event) : ∀ x : T, Ok x → Ok (l.foldl stepP x) := by
  induction l with
  | nil => intro x h; exact h
  | cons p l ih => intro x h; exact ih _ (step_ok h p)
theorem play_ok (l : List (List UInt8)) (e : List Event) : Ok (playM l e) := steps_ok e _ (adds_ok l _ (Ok.nil 0))
theorem add_mem (x : T) (p q : List UInt8) : q ∈ keys (addP x p).2 ↔ q = p ∨ q ∈ keys x.2 := by
  rw [mem_keys, mem_keys]
  unfold addP
  rw [set_find]
  by_cases h : q = p
  · simp [h]
  · simp [h]
theorem del_mem {x : T} (hx : Ok x) (p q : List UInt8) : q ∈ keys (del p x.2) ↔ q ≠ p ∧ q ∈ keys x.2 := by
  rw [mem_keys, mem_keys, del_find hx.names]
  by_cases h : q = p
  · simp [h]
  · simp [h]
theorem adds_mem (l : List (List UInt8)) (q : List UInt8) : ∀ x : T, q ∈ keys (l.foldl addP x).2 ↔ q ∈ l ∨ q ∈ keys x.2 := by
  induction l with
  | nil => intro x; simp
  | cons p l ih =>
    intro x
    rw [List.foldl_cons, ih, add_mem, List.mem_cons]
    constructor
    · rintro (h | h | h) <;> simp [h]
    · rintro ((h | h) | h) <;> simp [h]
/-- Is a path there behind events, if it was there? -/
def stays (q : List UInt8) : List Event → Prop → Prop
  | [], b => b
  | e :: l, b => stays q l (if e.kind = 1 then q ≠ e.path ∧ b else if e.kind = 2 then q = e.path ∨ b else b)
theorem steps_mem (q : List UInt8) : ∀ (l : List Event) (x : T), Ok x → (q ∈ keys (l.foldl stepP x).2 ↔ stays q l (q ∈ keys x.2))
  | [], _, _ => Iff.rfl
  | e :: l, x, hx => by
    rw [List.foldl_cons, steps_mem q l _ (step_ok hx e), stays]
    have : (q ∈ keys (stepP x e).2) = (if e.kind = 1 then q ≠ e.path ∧ q ∈ keys x.2 else if e.kind = 2 then q = e.path ∨ q ∈ keys x.2 else q ∈ keys x.2) := by
      unfold stepP
      split
      · exact propext (del_mem hx _ _)
      · split
        · exact propext (add_mem _ _ _)
        · rfl
    rw [this]
theorem play_mem (l : List (List UInt8)) (e : List Event) (q : List UInt8) : q ∈ keys (playM l e).2 ↔ stays q e (q ∈ l) := by
  unfold playM
  rw [steps_mem q e _ (adds_ok l _ (Ok.nil 0))]
  have : (q ∈ keys (l.foldl addP (0, [])).2) = (q ∈ l) := propext (by rw [adds_mem]; simp [keys])
  rw [this]
end Gw.Diff
