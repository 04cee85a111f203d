/- All that is seen below a directory, in plain Lean: no program in sight. -/
import Derived.Test.YtkflmicpifohhaaViewLaw
import Derived.Test.YtkflmicpifohhaaSortTFn
import Derived.Test.YtkflmicpifohhaaListFn
namespace Gw.View
open Gw.Tree (Node)
structure Item where
  path : List UInt8
  id : Int
  data : List UInt8
/-- The names of a directory, in order. -/
def list (l : List Node) (dir : Int) : List (List UInt8) := if Gw.Tree.check l = true then sortT ((seen l dir).2.map (·.2.1)) else []
/-- What is seen in a directory, but for what is out. -/
def inner (l : List Node) (outs : List Int) (dir : Int) : M := (seen l dir).2.filter fun e => !outs.contains e.2.2.id
def pathOf (path s : List UInt8) : List UInt8 := path ++ [47] ++ s
def oneF (sub : Int → List UInt8 → List Item) (path : List UInt8) (s : List UInt8) (n : Node) : List Item :=
  ⟨pathOf path s, n.id, n.data⟩ :: (if Gw.Stamp.dir n.id = true then sub n.id (pathOf path s) else [])
def stepF (sub : Int → List UInt8 → List Item) (m : M) (path : List UInt8) (s : List UInt8) : List Item := match findM s m with
  | none => []
  | some n => oneF sub path s n
def levelF (sub : Int → List UInt8 → List Item) (m : M) (path : List UInt8) : List Item := (sortT (m.map (·.2.1))).flatMap (stepF sub m path)
/-- .. so deep at most. -/
def belowF (l : List Node) (outs : List Int) : Nat → Int → List UInt8 → List Item
  | 0, _, _ => []
  | f + 1, dir, path => levelF (belowF l outs f) (inner l outs dir) path
def outsOf (l : List Node) (dir : Int) : List Int := dir :: Gw.Tree.above l dir
def items (l : List Node) (dir : Int) : List Item := if Gw.Tree.check l = true then belowF l (outsOf l dir) l.length dir [] else []

theorem delM_filter {m : M} (hn : (m.map (·.2.1)).Nodup) {e : Nat × List UInt8 × Node} (he : e ∈ m) (p : Nat × List UInt8 × Node → Bool) (hp : p e = true) :
    delM e.2.1 (m.filter p) = m.filter (fun x => p x && !decide (x.2.1 = e.2.1)) := by
  induction m with
  | nil => cases he
  | cons a m ih =>
    rw [List.map_cons, List.nodup_cons] at hn
    have hrest : ∀ (q : M), (∀ x ∈ q, x.2.1 ≠ e.2.1) → q.filter p = q.filter (fun x => p x && !decide (x.2.1 = e.2.1)) := fun q hq => by
      apply List.filter_congr
      intro x hx
      rw [decide_eq_false (hq x hx), Bool.not_false, Bool.and_true]
    rcases List.mem_cons.1 he with rfl | he
    · rw [List.filter_cons_of_pos hp, delM, if_pos rfl, List.filter_cons_of_neg (by simp)]
      exact hrest m fun x hx h => hn.1 (List.mem_map.2 ⟨x, hx, h⟩)
    · have hne : a.2.1 ≠ e.2.1 := fun h => hn.1 (List.mem_map.2 ⟨e, he, h.symm⟩)
      by_cases hpa : p a = true
      · rw [List.filter_cons_of_pos hpa, delM, if_neg hne, List.filter_cons_of_pos (by simp [hpa, hne]), ih hn.2 he]
      · rw [List.filter_cons_of_neg hpa, List.filter_cons_of_neg (by simp [hpa]), ih hn.2 he]
theorem inner_mem {l : List Node} {outs : List Int} {dir : Int} {e : Nat × List UInt8 × Node} (h : e ∈ inner l outs dir) :
    e ∈ (seen l dir).2 ∧ e.2.2 ∈ l ∧ inDir e.2.2 dir = true ∧ e.2.2.name = e.2.1 ∧ e.2.2.id ∉ outs := by
  obtain ⟨h1, h2⟩ := List.mem_filter.1 h
  obtain ⟨q1, q2⟩ := seen_ok l dir
  exact ⟨h1, (q2 e h1).1, (q2 e h1).2, q1.own e h1, by simpa using h2⟩
theorem inner_ok (l : List Node) (outs : List Int) (dir : Int) : MOk ((seen l dir).1, inner l outs dir) := by
  have h := (seen_ok l dir).1
  have hs : (inner l outs dir).Sublist (seen l dir).2 := List.filter_sublist
  exact ⟨fun e he => h.born e (hs.mem he), (hs.map _).nodup h.births, (hs.map _).nodup h.names, fun e he => h.own e (hs.mem he)⟩
theorem inner_find {l : List Node} {outs : List Int} {dir : Int} {s : List UInt8} {n : Node} (h : findM s (inner l outs dir) = some n) :
    n ∈ l ∧ inDir n dir = true ∧ n.name = s ∧ n.id ∉ outs := by
  obtain ⟨b, hb⟩ := findM_mem h
  obtain ⟨_, h1, h2, h3, h4⟩ := inner_mem hb
  exact ⟨h1, h2, h3, h4⟩
/-- A way down: from a directory, whose above are out, through nodes that are in one another. -/
inductive Way (l : List Node) (outs : List Int) (top : Int) : List Int → Int → Prop
  | top : Way l outs top [] top
  | down {ids : List Int} {dir : Int} {n : Node} (h : Way l outs top ids dir) (hn : n ∈ l) (hp : n.parent = dir) (ho : n.id ∉ outs) : Way l outs top (ids ++ [n.id]) n.id
theorem Way.mem {l : List Node} {outs : List Int} {top : Int} {ids : List Int} {dir : Int} (h : Way l outs top ids dir) : ∀ i ∈ ids, (∃ n ∈ l, n.id = i) ∧ i ∉ outs := by
  induction h with
  | top => intro i hi; cases hi
  | down h hn hp ho ih =>
    intro i hi
    rcases List.mem_append.1 hi with hi | hi
    · exact ih i hi
    · rw [List.mem_singleton] at hi; subst hi; exact ⟨⟨_, hn, rfl⟩, ho⟩
/-- Two ways to one place are one. -/
theorem Way.same {l : List Node} (hc : Gw.Tree.check l = true) {outs : List Int} {top : Int} (ht : top ∈ outs) {ids ids' : List Int} {dir : Int} (h : Way l outs top ids dir) (h' : Way l outs top ids' dir) : ids = ids' := by
  induction h generalizing ids' with
  | top =>
    cases h' with
    | top => rfl
    | down _ _ _ ho => exact absurd ht ho
  | down h hn hp ho ih =>
    rename_i ids0 dir0 n
    generalize hd : n.id = d at h'
    cases h' with
    | top => rw [hd] at ho; exact absurd ht ho
    | down h2 hn2 hp2 ho2 =>
      rename_i ids2 dir2 n2
      have e : n = n2 := by
        have h1 := Gw.Tree.find_mem hc hn
        have h2 := Gw.Tree.find_mem hc hn2
        rw [hd] at h1
        rw [h1] at h2
        exact Option.some.inj h2
      subst e
      have e2 : dir2 = dir0 := hp2.symm.trans hp
      subst e2
      rw [ih h2]
theorem Way.nodup {l : List Node} (hc : Gw.Tree.check l = true) {outs : List Int} {top : Int} (ht : top ∈ outs) {ids : List Int} {dir : Int} (h : Way l outs top ids dir) : ids.Nodup := by
  have pre : ∀ {ids dir}, Way l outs top ids dir → ∀ i ∈ ids, ∃ a, a.length < ids.length ∧ ∃ b, ids = a ++ i :: b ∧ Way l outs top (a ++ [i]) i := by
    intro ids dir h
    induction h with
    | top => intro i hi; cases hi
    | down h hn hp ho ih =>
      rename_i ids0 dir0 n
      intro i hi
      rcases List.mem_append.1 hi with hi | hi
      · obtain ⟨a, h1, b, h2, h3⟩ := ih i hi
        exact ⟨a, by rw [List.length_append, List.length_singleton]; omega, b ++ [n.id], by rw [h2]; simp, h3⟩
      · rw [List.mem_singleton] at hi
        subst hi
        exact ⟨ids0, by rw [List.length_append, List.length_singleton]; omega, [], rfl, .down h hn hp ho⟩
  induction h with
  | top => exact List.nodup_nil
  | down h hn hp ho ih =>
    rename_i ids0 dir0 n
    rw [List.nodup_append]
    refine ⟨ih, by simp, fun a ha b hb => ?_⟩
    rw [List.mem_singleton] at hb
    subst hb
    intro e
    subst e
    obtain ⟨a', h1, b, h2, h3⟩ := pre h n.id ha
    have := h3.same hc ht (.down h hn hp ho)
    have := congrArg List.length this
    simp only [List.length_append, List.length_singleton] at this
    omega
theorem Way.len {l : List Node} (hc : Gw.Tree.check l = true) {outs : List Int} {top : Int} (ht : top ∈ outs) {ids : List Int} {dir : Int} (h : Way l outs top ids dir) : ids.length ≤ l.length := by
  have := Gw.Lists.len_of_sub (l := ids) (m := l.map (·.id)) (h.nodup hc ht) fun i hi => by
    obtain ⟨⟨n, hn, rfl⟩, _⟩ := h.mem i hi
    exact List.mem_map.2 ⟨n, hn, rfl⟩
  rwa [List.length_map] at this
end Gw.View
