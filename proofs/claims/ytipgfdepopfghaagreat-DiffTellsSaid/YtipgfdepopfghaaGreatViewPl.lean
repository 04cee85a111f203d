/- What is seen of nodes, in plain Lean: no program in sight. -/
import Derived.Test.YtipgfdepopfghaaGreatTreePl
import Derived.Test.YtipgfdepopfghaaGreatNamePl
namespace Gw.View
open Gw.Tree (Node)
open Gw.Stamp (Stamp)
/-- Names, and what is seen by them, with when they came. -/
abbrev M := List (Nat × List UInt8 × Node)
def findM (k : List UInt8) : M → Option Node
  | [] => none
  | e :: m => if e.2.1 = k then some e.2.2 else findM k m
def putM (k : List UInt8) (n : Node) : M → Option M
  | [] => none
  | e :: m => if e.2.1 = k then some ((e.1, e.2.1, n) :: m) else match putM k n m with
    | some l => some (e :: l)
    | none => none
def delM (k : List UInt8) : M → M
  | [] => []
  | e :: m => if e.2.1 = k then m else e :: delM k m
def inDir (n : Node) (dir : Int) : Bool := decide (n.parent = dir) && Gw.Stamp.check n.moved
def beats (n : Node) (m : M) : Bool := match findM n.name m with
  | none => true
  | some old => !Gw.Stamp.less n.moved old.moved
def setM (x : Nat × M) (n : Node) : Nat × M := match putM n.name n x.2 with
  | some m => (x.1, m)
  | none => (x.1 + 1, x.2 ++ [(x.1, n.name, n)])
def seenStep (dir : Int) (x : Nat × M) (n : Node) : Nat × M := if inDir n dir = true then (if beats n x.2 = true then setM x n else x) else x
/-- What is seen in a directory. -/
def seen (l : List Node) (dir : Int) : Nat × M := l.foldl (seenStep dir) (0, [])
/-- What is seen by a name. -/
def child (l : List Node) (dir : Int) (s : List UInt8) : Option Node := if Gw.Tree.check l = true then findM s (seen l dir).2 else none
/-- What is seen at a path; 81: what should be a directory is none; 80: there is none. -/
def findF (l : List Node) : Int → List (List UInt8) → Int × Int
  | at_, [] => (at_, 0)
  | at_, s :: r => if Gw.Stamp.dir at_ = true then (match child l at_ s with
    | some n => findF l n.id r
    | none => (0, 80)) else (0, 81)
def find (l : List Node) (names : List (List UInt8)) : Int × Int := findF l 0 names
end Gw.View


namespace Gw.View
open Gw.Tree (Node)

theorem findM_mem {k : List UInt8} {n : Node} : ∀ {m : M}, findM k m = some n → ∃ b, (b, k, n) ∈ m
  | e :: m, h => by
    rw [findM] at h
    split at h
    · rename_i hk
      cases h
      exact ⟨e.1, by rw [← hk]; exact List.mem_cons_self⟩
    · obtain ⟨b, hb⟩ := findM_mem h
      exact ⟨b, List.mem_cons_of_mem _ hb⟩
theorem findM_none {k : List UInt8} : ∀ {m : M}, findM k m = none → k ∉ m.map (·.2.1)
  | [], _ => by simp
  | e :: m, h => by
    rw [findM] at h
    split at h
    · cases h
    · rename_i hk
      rw [List.map_cons, List.mem_cons]
      rintro (h1 | h1)
      · exact hk h1.symm
      · exact findM_none h h1
theorem findM_of {b : Nat} {k : List UInt8} {n : Node} : ∀ {m : M}, (m.map (·.2.1)).Nodup → (b, k, n) ∈ m → findM k m = some n
  | e :: m, hd, h => by
    rw [List.map_cons, List.nodup_cons] at hd
    rw [findM]
    rcases List.mem_cons.1 h with rfl | h
    · simp
    · split
      · rename_i hk
        exact absurd (List.mem_map.2 ⟨_, h, rfl⟩) (by rw [hk] at hd; exact hd.1)
      · exact findM_of hd.2 h
theorem putM_spec (k : List UInt8) (n : Node) : ∀ m : M, (putM k n m = none ∧ findM k m = none) ∨
    ∃ m', putM k n m = some m' ∧ m'.map (·.1) = m.map (·.1) ∧ m'.map (·.2.1) = m.map (·.2.1) ∧ (∀ k', findM k' m' = if k' = k then some n else findM k' m) ∧ (∀ e ∈ m', e ∈ m ∨ e.2 = (k, n))
  | [] => .inl ⟨rfl, rfl⟩
  | e :: m => by
    rw [putM, findM]
    by_cases hk : e.2.1 = k
    · rw [if_pos hk, if_pos hk]
      refine .inr ⟨_, rfl, rfl, rfl, fun k' => ?_, fun x hx => ?_⟩
      · rw [findM, findM]
        by_cases h1 : k' = k
        · rw [if_pos h1, if_pos (by rw [h1]; exact hk)]
        · rw [if_neg (fun h => h1 (by rw [← h]; exact hk)), if_neg h1, if_neg (fun h => h1 (by rw [← h]; exact hk))]
      · rcases List.mem_cons.1 hx with rfl | hx
        · exact .inr (by rw [← hk])
        · exact .inl (List.mem_cons_of_mem _ hx)
    · rw [if_neg hk, if_neg hk]
      rcases putM_spec k n m with ⟨h1, h2⟩ | ⟨m', h1, h2, h3, h4, h5⟩
      · exact .inl ⟨by rw [h1], h2⟩
      · refine .inr ⟨e :: m', by rw [h1], by rw [List.map_cons, List.map_cons, h2], by rw [List.map_cons, List.map_cons, h3], fun k' => ?_, fun x hx => ?_⟩
        · rw [findM, findM, h4]
          by_cases h6 : e.2.1 = k'
          · rw [if_pos h6, if_pos h6, if_neg (fun h => hk (by rw [h6, h]))]
          · rw [if_neg h6, if_neg h6]
        · rcases List.mem_cons.1 hx with rfl | hx
          · exact .inl List.mem_cons_self
          · rcases h5 x hx with h | h
            · exact .inl (List.mem_cons_of_mem _ h)
            · exact .inr h
theorem findM_snoc (k : List UInt8) (e : Nat × List UInt8 × Node) : ∀ m : M, findM k (m ++ [e]) = match findM k m with | some n => some n | none => if e.2.1 = k then some e.2.2 else none
  | [] => rfl
  | x :: m => by
    rw [List.cons_append, findM, findM]
    split
    · rfl
    · exact findM_snoc k e m
/-- What is known of a map of names: it knows its time, its names are unlike, and each is that of its node. -/
structure MOk (x : Nat × M) : Prop where
  born : ∀ e ∈ x.2, e.1 < x.1
  births : (x.2.map (·.1)).Nodup
  names : (x.2.map (·.2.1)).Nodup
  own : ∀ e ∈ x.2, e.2.2.name = e.2.1
theorem setM_find (x : Nat × M) (n : Node) (k : List UInt8) : findM k (setM x n).2 = if k = n.name then some n else findM k x.2 := by
  unfold setM
  rcases putM_spec n.name n x.2 with ⟨h1, h2⟩ | ⟨m', h1, _, _, h4, _⟩
  · rw [h1]
    show findM k (x.2 ++ [(x.1, n.name, n)]) = _
    rw [findM_snoc]
    by_cases hk : k = n.name
    · subst hk
      rw [h2]
    · rw [if_neg hk]
      cases findM k x.2 with
      | some m => rfl
      | none => simp only; rw [if_neg (fun h => hk h.symm)]
  · rw [h1]
    exact h4 k
theorem setM_ok {x : Nat × M} (h : MOk x) (n : Node) : MOk (setM x n) := by
  unfold setM
  rcases putM_spec n.name n x.2 with ⟨h1, h2⟩ | ⟨m', h1, h2, h3, _, h5⟩
  · rw [h1]
    have hn := findM_none h2
    refine ⟨fun e he => ?_, ?_, ?_, fun e he => ?_⟩
    · rcases List.mem_append.1 he with he | he
      · have := h.born e he; show e.1 < x.1 + 1; omega
      · rw [List.mem_singleton] at he; subst he; exact Nat.lt_succ_self _
    · show ((x.2 ++ [(x.1, n.name, n)]).map (·.1)).Nodup
      rw [List.map_append, List.nodup_append]
      refine ⟨h.births, by simp, fun a ha b hb => ?_⟩
      simp only [List.map_cons, List.map_nil, List.mem_singleton] at hb
      obtain ⟨e, he, rfl⟩ := List.mem_map.1 ha
      have := h.born e he
      omega
    · show ((x.2 ++ [(x.1, n.name, n)]).map (·.2.1)).Nodup
      rw [List.map_append, List.nodup_append]
      refine ⟨h.names, by simp, fun a ha b hb => ?_⟩
      simp only [List.map_cons, List.map_nil, List.mem_singleton] at hb
      subst hb
      exact fun e => hn (e ▸ ha)
    · rcases List.mem_append.1 he with he | he
      · exact h.own e he
      · rw [List.mem_singleton] at he; subst he; rfl
  · rw [h1]
    have hm : ∀ e ∈ m', e.1 ∈ x.2.map (·.1) := fun e he => by rw [← h2]; exact List.mem_map.2 ⟨e, he, rfl⟩
    refine ⟨fun e he => ?_, by show (m'.map (·.1)).Nodup; rw [h2]; exact h.births, by show (m'.map (·.2.1)).Nodup; rw [h3]; exact h.names, fun e he => ?_⟩
    · obtain ⟨y, hy, e1⟩ := List.mem_map.1 (hm e he)
      show e.1 < x.1
      rw [← e1]; exact h.born y hy
    · rcases h5 e he with h6 | h6
      · exact h.own e h6
      · rw [h6]
theorem setM_mem {x : Nat × M} {n : Node} {e : Nat × List UInt8 × Node} (h : e ∈ (setM x n).2) : e ∈ x.2 ∨ e.2.2 = n := by
  unfold setM at h
  rcases putM_spec n.name n x.2 with ⟨h1, _⟩ | ⟨m', h1, _, _, _, h5⟩
  · rw [h1] at h
    rcases List.mem_append.1 h with h | h
    · exact .inl h
    · rw [List.mem_singleton] at h; exact .inr (by rw [h])
  · rw [h1] at h
    rcases h5 e h with h | h
    · exact .inl h
    · exact .inr (by rw [h])
/-- Is a node seen rather than what was? -/
def over (r : Option Node) (n : Node) : Bool := match r with
  | none => true
  | some old => !Gw.Stamp.less n.moved old.moved
/-- The best of what is there by a name. -/
def better (dir : Int) (s : List UInt8) (r : Option Node) (n : Node) : Option Node :=
  if (inDir n dir && (decide (n.name = s) && over r n)) = true then some n else r
def best (l : List Node) (dir : Int) (s : List UInt8) : Option Node := l.foldl (better dir s) none
theorem beats_over (n : Node) (m : M) : beats n m = over (findM n.name m) n := rfl
theorem step_find (dir : Int) (x : Nat × M) (n : Node) (s : List UInt8) : findM s (seenStep dir x n).2 = better dir s (findM s x.2) n := by
  unfold seenStep better
  rw [beats_over]
  cases inDir n dir with
  | false => rfl
  | true =>
    rw [if_pos rfl, Bool.true_and]
    by_cases hs : n.name = s
    · subst hs
      rw [decide_eq_true rfl, Bool.true_and]
      split
      · rw [setM_find, if_pos rfl]
      · rfl
    · rw [decide_eq_false hs, Bool.false_and, if_neg (c := false = true) (by decide)]
      split
      · rw [setM_find, if_neg (fun h => hs h.symm)]
      · rfl
theorem seen_find (l : List Node) (dir : Int) (s : List UInt8) : findM s (seen l dir).2 = best l dir s := by
  unfold seen best
  have key : ∀ (l : List Node) (x : Nat × M) (r : Option Node), findM s x.2 = r → findM s (l.foldl (seenStep dir) x).2 = l.foldl (better dir s) r := by
    intro l
    induction l with
    | nil => intro x r h; exact h
    | cons n l ih =>
      intro x r h
      rw [List.foldl_cons, List.foldl_cons]
      exact ih _ _ (by rw [step_find, h])
  exact key l (0, []) none rfl
theorem seen_ok (l : List Node) (dir : Int) : MOk (seen l dir) ∧ ∀ e ∈ (seen l dir).2, e.2.2 ∈ l ∧ inDir e.2.2 dir = true := by
  have key : ∀ (l : List Node) (x : Nat × M) (L : List Node), (∀ n ∈ l, n ∈ L) → MOk x → (∀ e ∈ x.2, e.2.2 ∈ L ∧ inDir e.2.2 dir = true) → MOk (l.foldl (seenStep dir) x) ∧ ∀ e ∈ (l.foldl (seenStep dir) x).2, e.2.2 ∈ L ∧ inDir e.2.2 dir = true := by
    intro l
    induction l with
    | nil => intro x L _ h1 h2; exact ⟨h1, h2⟩
    | cons n l ih =>
      intro x L hL h1 h2
      rw [List.foldl_cons]
      refine ih _ L (fun m hm => hL m (List.mem_cons_of_mem _ hm)) ?_ ?_
      · unfold seenStep
        split
        · split
          · exact setM_ok h1 n
          · exact h1
        · exact h1
      · unfold seenStep
        split
        · rename_i hin
          split
          · intro e he
            rcases setM_mem he with he | he
            · exact h2 e he
            · rw [he]; exact ⟨hL n List.mem_cons_self, hin⟩
          · exact h2
        · exact h2
  exact key l (0, []) l (fun _ h => h) ⟨(fun e h => by cases h), List.nodup_nil, List.nodup_nil, (fun e h => by cases h)⟩ (fun e h => by cases h)
theorem child_mem {l : List Node} {dir : Int} {s : List UInt8} {n : Node} (h : child l dir s = some n) : n ∈ l ∧ inDir n dir = true ∧ n.name = s := by
  unfold child at h
  split at h
  · obtain ⟨b, hb⟩ := findM_mem h
    obtain ⟨h1, h2⟩ := seen_ok l dir
    exact ⟨(h2 _ hb).1, (h2 _ hb).2, h1.own _ hb⟩
  · cases h
end Gw.View


namespace Gw.View
open Gw.Tree (Node)
structure Item where
  path : List UInt8
  id : Int
  data : List UInt8
/-- The names of a directory, in order. -/
def list (l : List Node) (dir : Int) : List (List UInt8) := if Gw.Tree.check l = true then sortT ((seen l dir).2.map (·.2.1)) else []
/-- What is seen in a directory, but for what is out. -/
def inner (l : List Node) (outs : List Int) (dir : Int) : M := (seen l dir).2.filter fun e => !outs.contains e.2.2.id
def pathOf (path s : List UInt8) : List UInt8 := path ++ [47] ++ s
def oneF (sub : Int → List UInt8 → List Item) (path : List UInt8) (s : List UInt8) (n : Node) : List Item :=
  ⟨pathOf path s, n.id, n.data⟩ :: (if Gw.Stamp.dir n.id = true then sub n.id (pathOf path s) else [])
def stepF (sub : Int → List UInt8 → List Item) (m : M) (path : List UInt8) (s : List UInt8) : List Item := match findM s m with
  | none => []
  | some n => oneF sub path s n
def levelF (sub : Int → List UInt8 → List Item) (m : M) (path : List UInt8) : List Item := (sortT (m.map (·.2.1))).flatMap (stepF sub m path)
/-- .. so deep at most. -/
def belowF (l : List Node) (outs : List Int) : Nat → Int → List UInt8 → List Item
  | 0, _, _ => []
  | f + 1, dir, path => levelF (belowF l outs f) (inner l outs dir) path
def outsOf (l : List Node) (dir : Int) : List Int := dir :: Gw.Tree.above l dir
def items (l : List Node) (dir : Int) : List Item := if Gw.Tree.check l = true then belowF l (outsOf l dir) l.length dir [] else []

theorem delM_filter {m : M} (hn : (m.map (·.2.1)).Nodup) {e : Nat × List UInt8 × Node} (he : e ∈ m) (p : Nat × List UInt8 × Node → Bool) (hp : p e = true) :
    delM e.2.1 (m.filter p) = m.filter (fun x => p x && !decide (x.2.1 = e.2.1)) := by
  induction m with
  | nil => cases he
  | cons a m ih =>
    rw [List.map_cons, List.nodup_cons] at hn
    have hrest : ∀ (q : M), (∀ x ∈ q, x.2.1 ≠ e.2.1) → q.filter p = q.filter (fun x => p x && !decide (x.2.1 = e.2.1)) := fun q hq => by
      apply List.filter_congr
      intro x hx
      rw [decide_eq_false (hq x hx), Bool.not_false, Bool.and_true]
    rcases List.mem_cons.1 he with rfl | he
    · rw [List.filter_cons_of_pos hp, delM, if_pos rfl, List.filter_cons_of_neg (by simp)]
      exact hrest m fun x hx h => hn.1 (List.mem_map.2 ⟨x, hx, h⟩)
    · have hne : a.2.1 ≠ e.2.1 := fun h => hn.1 (List.mem_map.2 ⟨e, he, h.symm⟩)
      by_cases hpa : p a = true
      · rw [List.filter_cons_of_pos hpa, delM, if_neg hne, List.filter_cons_of_pos (by simp [hpa, hne]), ih hn.2 he]
      · rw [List.filter_cons_of_neg hpa, List.filter_cons_of_neg (by simp [hpa]), ih hn.2 he]
theorem inner_mem {l : List Node} {outs : List Int} {dir : Int} {e : Nat × List UInt8 × Node} (h : e ∈ inner l outs dir) :
    e ∈ (seen l dir).2 ∧ e.2.2 ∈ l ∧ inDir e.2.2 dir = true ∧ e.2.2.name = e.2.1 ∧ e.2.2.id ∉ outs := by
  obtain ⟨h1, h2⟩ := List.mem_filter.1 h
  obtain ⟨q1, q2⟩ := seen_ok l dir
  exact ⟨h1, (q2 e h1).1, (q2 e h1).2, q1.own e h1, by simpa using h2⟩
theorem inner_ok (l : List Node) (outs : List Int) (dir : Int) : MOk ((seen l dir).1, inner l outs dir) := by
  have h := (seen_ok l dir).1
  have hs : (inner l outs dir).Sublist (seen l dir).2 := List.filter_sublist
  exact ⟨fun e he => h.born e (hs.mem he), (hs.map _).nodup h.births, (hs.map _).nodup h.names, fun e he => h.own e (hs.mem he)⟩
theorem inner_find {l : List Node} {outs : List Int} {dir : Int} {s : List UInt8} {n : Node} (h : findM s (inner l outs dir) = some n) :
    n ∈ l ∧ inDir n dir = true ∧ n.name = s ∧ n.id ∉ outs := by
  obtain ⟨b, hb⟩ := findM_mem h
  obtain ⟨_, h1, h2, h3, h4⟩ := inner_mem hb
  exact ⟨h1, h2, h3, h4⟩
/-- A way down: from a directory, whose above are out, through nodes that are in one another. -/
inductive Way (l : List Node) (outs : List Int) (top : Int) : List Int → Int → Prop
  | top : Way l outs top [] top
  | down {ids : List Int} {dir : Int} {n : Node} (h : Way l outs top ids dir) (hn : n ∈ l) (hp : n.parent = dir) (ho : n.id ∉ outs) : Way l outs top (ids ++ [n.id]) n.id
theorem Way.mem {l : List Node} {outs : List Int} {top : Int} {ids : List Int} {dir : Int} (h : Way l outs top ids dir) : ∀ i ∈ ids, (∃ n ∈ l, n.id = i) ∧ i ∉ outs := by
  induction h with
  | top => intro i hi; cases hi
  | down h hn hp ho ih =>
    intro i hi
    rcases List.mem_append.1 hi with hi | hi
    · exact ih i hi
    · rw [List.mem_singleton] at hi; subst hi; exact ⟨⟨_, hn, rfl⟩, ho⟩
/-- Two ways to one place are one. -/
theorem Way.same {l : List Node} (hc : Gw.Tree.check l = true) {outs : List Int} {top : Int} (ht : top ∈ outs) {ids ids' : List Int} {dir : Int} (h : Way l outs top ids dir) (h' : Way l outs top ids' dir) : ids = ids' := by
  induction h generalizing ids' with
  | top =>
    cases h' with
    | top => rfl
    | down _ _ _ ho => exact absurd ht ho
  | down h hn hp ho ih =>
    rename_i ids0 dir0 n
    generalize hd : n.id = d at h'
    cases h' with
    | top => rw [hd] at ho; exact absurd ht ho
    | down h2 hn2 hp2 ho2 =>
      rename_i ids2 dir2 n2
      have e : n = n2 := by
        have h1 := Gw.Tree.find_mem hc hn
        have h2 := Gw.Tree.find_mem hc hn2
        rw [hd] at h1
        rw [h1] at h2
        exact Option.some.inj h2
      subst e
      have e2 : dir2 = dir0 := hp2.symm.trans hp
      subst e2
      rw [ih h2]
theorem Way.nodup {l : List Node} (hc : Gw.Tree.check l = true) {outs : List Int} {top : Int} (ht : top ∈ outs) {ids : List Int} {dir : Int} (h : Way l outs top ids dir) : ids.Nodup := by
  have pre : ∀ {ids dir}, Way l outs top ids dir → ∀ i ∈ ids, ∃ a, a.length < ids.length ∧ ∃ b, ids = a ++ i :: b ∧ Way l outs top (a ++ [i]) i := by
    intro ids dir h
    induction h with
    | top => intro i hi; cases hi
    | down h hn hp ho ih =>
      rename_i ids0 dir0 n
      intro i hi
      rcases List.mem_append.1 hi with hi | hi
      · obtain ⟨a, h1, b, h2, h3⟩ := ih i hi
        exact ⟨a, by rw [List.length_append, List.length_singleton]; omega, b ++ [n.id], by rw [h2]; simp, h3⟩
      · rw [List.mem_singleton] at hi
        subst hi
        exact ⟨ids0, by rw [List.length_append, List.length_singleton]; omega, [], rfl, .down h hn hp ho⟩
  induction h with
  | top => exact List.nodup_nil
  | down h hn hp ho ih =>
    rename_i ids0 dir0 n
    rw [List.nodup_append]
    refine ⟨ih, by simp, fun a ha b hb => ?_⟩
    rw [List.mem_singleton] at hb
    subst hb
    intro e
    subst e
    obtain ⟨a', h1, b, h2, h3⟩ := pre h n.id ha
    have := h3.same hc ht (.down h hn hp ho)
    have := congrArg List.length this
    simp only [List.length_append, List.length_singleton] at this
    omega
theorem Way.len {l : List Node} (hc : Gw.Tree.check l = true) {outs : List Int} {top : Int} (ht : top ∈ outs) {ids : List Int} {dir : Int} (h : Way l outs top ids dir) : ids.length ≤ l.length := by
  have := Gw.Lists.len_of_sub (l := ids) (m := l.map (·.id)) (h.nodup hc ht) fun i hi => by
    obtain ⟨⟨n, hn, rfl⟩, _⟩ := h.mem i hi
    exact List.mem_map.2 ⟨n, hn, rfl⟩
  rwa [List.length_map] at this
end Gw.View


namespace Gw.View
open Gw.Tree (Node)

theorem mem_levelF {sub : Int → List UInt8 → List Item} {m : M} {path : List UInt8} {it : Item} (h : it ∈ levelF sub m path) :
    ∃ s n, s ∈ m.map (·.2.1) ∧ findM s m = some n ∧ it ∈ oneF sub path s n := by
  unfold levelF at h
  obtain ⟨s, hs, hi⟩ := List.mem_flatMap.1 h
  unfold stepF at hi
  cases hf : findM s m with
  | none => rw [hf] at hi; cases hi
  | some n => rw [hf] at hi; exact ⟨s, n, (sortT_perm _).mem_iff.1 hs, hf, hi⟩
/-- Each item is at the end of a way that goes on. -/
theorem belowF_way {l : List Node} {outs : List Int} {top : Int} : ∀ (f : Nat) {ids : List Int} {dir : Int} {path : List UInt8}, Way l outs top ids dir → ∀ it ∈ belowF l outs f dir path, ∃ x suf, Way l outs top (ids ++ x :: suf) it.id ∧ ∃ n ∈ l, n.id = it.id ∧ it.data = n.data
  | 0, _, _, _, _, it, h => by cases h
  | f + 1, ids, dir, path, hw, it, h => by
    rw [belowF] at h
    obtain ⟨s, n, _, hf, hi⟩ := mem_levelF h
    obtain ⟨h1, h2, h3, h4⟩ := inner_find hf
    have hp : n.parent = dir := by
      unfold inDir at h2
      simp only [Bool.and_eq_true, decide_eq_true_eq] at h2
      exact h2.1
    have hd := Way.down hw h1 hp h4
    rcases List.mem_cons.1 hi with rfl | hi
    · exact ⟨n.id, [], hd, n, h1, rfl, rfl⟩
    · split at hi
      · obtain ⟨x, suf, q1, q2⟩ := belowF_way f hd it hi
        exact ⟨n.id, x :: suf, by rw [List.append_assoc] at q1; exact q1, q2⟩
      · cases hi
theorem belowF_nodup {l : List Node} (hc : Gw.Tree.check l = true) {outs : List Int} {top : Int} (ht : top ∈ outs) : ∀ (f : Nat) {ids : List Int} {dir : Int} {path : List UInt8}, Way l outs top ids dir → (belowF l outs f dir path).Pairwise fun a b => a.id ≠ b.id
  | 0, _, _, _, _ => .nil
  | f + 1, ids, dir, path, hw => by
    rw [belowF]
    unfold levelF
    have hm := inner_ok l outs dir
    have hdown : ∀ {s n}, findM s (inner l outs dir) = some n → Way l outs top (ids ++ [n.id]) n.id ∧ n.name = s ∧ n ∈ l := fun {s n} hf => by
      obtain ⟨h1, h2, h3, h4⟩ := inner_find hf
      have hp : n.parent = dir := by
        unfold inDir at h2
        simp only [Bool.and_eq_true, decide_eq_true_eq] at h2
        exact h2.1
      exact ⟨.down hw h1 hp h4, h3, h1⟩
    have hone : ∀ {s n}, findM s (inner l outs dir) = some n → ∀ it ∈ oneF (belowF l outs f) path s n, ∃ suf, Way l outs top (ids ++ n.id :: suf) it.id := fun {s n} hf it hi => by
      have hd := (hdown hf).1
      rcases List.mem_cons.1 hi with rfl | hi
      · exact ⟨[], hd⟩
      · split at hi
        · obtain ⟨x, suf, q1, _⟩ := belowF_way f hd it hi
          exact ⟨x :: suf, by rw [List.append_assoc] at q1; exact q1⟩
        · cases hi
    rw [List.pairwise_flatMap]
    refine ⟨fun s _ => ?_, ?_⟩
    · unfold stepF
      cases hf : findM s (inner l outs dir) with
      | none => exact .nil
      | some n =>
        have hd := (hdown hf).1
        refine List.pairwise_cons.2 ⟨fun it hi => ?_, ?_⟩
        · split at hi
          · obtain ⟨x, suf, q1, _⟩ := belowF_way f hd it hi
            intro e
            have e : n.id = it.id := e
            rw [← e] at q1
            have := congrArg List.length (q1.same hc ht hd)
            simp only [List.length_append, List.length_cons, List.length_nil] at this
            omega
          · cases hi
        · split
          · exact belowF_nodup hc ht f hd
          · exact .nil
    · have hnd : (sortT ((inner l outs dir).map (·.2.1))).Nodup := (sortT_perm _).nodup_iff.2 hm.names
      refine List.Pairwise.imp ?_ hnd
      intro s s' hne it hi it' hi' e
      unfold stepF at hi hi'
      cases hf : findM s (inner l outs dir) with
      | none => rw [hf] at hi; cases hi
      | some n =>
        cases hf' : findM s' (inner l outs dir) with
        | none => rw [hf'] at hi'; cases hi'
        | some n' =>
          rw [hf] at hi
          rw [hf'] at hi'
          obtain ⟨suf, w1⟩ := hone hf it hi
          obtain ⟨suf', w2⟩ := hone hf' it' hi'
          rw [← e] at w2
          have := w1.same hc ht w2
          have := List.append_cancel_left this
          have hid : n.id = n'.id := (List.cons.inj this).1
          have e1 := Gw.Tree.find_mem hc (hdown hf).2.2
          have e2 := Gw.Tree.find_mem hc (hdown hf').2.2
          rw [hid, e2] at e1
          have : n = n' := (Option.some.inj e1).symm
          subst this
          exact hne ((hdown hf).2.1.symm.trans (hdown hf').2.1)
theorem belowF_len {l : List Node} (hc : Gw.Tree.check l = true) {outs : List Int} {top : Int} (ht : top ∈ outs) (f : Nat) {ids : List Int} {dir : Int} {path : List UInt8} (hw : Way l outs top ids dir) : (belowF l outs f dir path).length ≤ l.length := by
  have hn := belowF_nodup hc ht f (path := path) hw
  have := Gw.Lists.len_of_sub (l := (belowF l outs f dir path).map (·.id)) (m := l.map (·.id)) (List.pairwise_map.2 hn) fun i hi => by
    obtain ⟨it, hit, rfl⟩ := List.mem_map.1 hi
    obtain ⟨_, _, _, n, h1, h2, _⟩ := belowF_way f hw it hit
    exact List.mem_map.2 ⟨n, h1, h2⟩
  rwa [List.length_map, List.length_map] at this
theorem belowF_path {l : List Node} {outs : List Int} (hs : ∀ n ∈ l, n.name.length ≤ 1000) : ∀ (f : Nat) {dir : Int} {path : List UInt8}, ∀ it ∈ belowF l outs f dir path, it.path.length ≤ path.length + 1001 * f
  | 0, _, _, it, h => by cases h
  | f + 1, dir, path, it, h => by
    rw [belowF] at h
    obtain ⟨s, n, _, hf, hi⟩ := mem_levelF h
    obtain ⟨h1, h2, h3, h4⟩ := inner_find hf
    have hsl : s.length ≤ 1000 := by rw [← h3]; exact hs n h1
    have hp : (pathOf path s).length = path.length + 1 + s.length := by unfold pathOf; simp only [List.length_append, List.length_singleton]
    rcases List.mem_cons.1 hi with rfl | hi
    · show (pathOf path s).length ≤ _
      omega
    · split at hi
      · have := belowF_path hs f it hi
        omega
      · cases hi
end Gw.View


namespace Gw.View
open Gw.Tree (Node)
open Gw.Stamp (Stamp)

theorem stamp_ntrans {a b c : Stamp} (h : Gw.Stamp.less a b = false) (k : Gw.Stamp.less b c = false) : Gw.Stamp.less a c = false := by
  unfold Gw.Stamp.less at *
  rw [Bool.eq_false_iff] at *
  simp only [ne_eq, Bool.or_eq_true, Bool.and_eq_true, decide_eq_true_eq] at *
  omega
theorem stamp_irrefl (a : Stamp) : Gw.Stamp.less a a = false := by
  unfold Gw.Stamp.less
  simp
theorem best_last (dir : Int) (s : List UInt8) : ∀ (l : List Node) (r : Option Node) (seen : List Node),
    (∀ n, r = some n → ∀ m ∈ seen, inDir m dir = true → m.name = s → Gw.Stamp.less n.moved m.moved = false) → (r = none → ∀ m ∈ seen, inDir m dir = true → m.name = s → False) →
    (∀ n, l.foldl (better dir s) r = some n → ∀ m ∈ seen ++ l, inDir m dir = true → m.name = s → Gw.Stamp.less n.moved m.moved = false) ∧ (l.foldl (better dir s) r = none → ∀ m ∈ seen ++ l, inDir m dir = true → m.name = s → False)
  | [], r, seen, h1, h2 => by
    rw [List.append_nil]
    exact ⟨h1, h2⟩
  | a :: l, r, seen, h1, h2 => by
    have hstep := best_last dir s l (better dir s r a) (seen ++ [a]) ?_ ?_
    · rw [List.append_assoc] at hstep
      exact hstep
    · intro n hn m hm hi hs
      unfold better at hn
      split at hn
      · rename_i hc
        cases hn
        simp only [Bool.and_eq_true, decide_eq_true_eq] at hc
        rcases List.mem_append.1 hm with hm | hm
        · cases hr : r with
          | none => exact (h2 hr m hm hi hs).elim
          | some old =>
            have ho := hc.2.2
            rw [hr] at ho
            simp only [over, Bool.not_eq_true'] at ho
            exact stamp_ntrans ho (h1 old hr m hm hi hs)
        · rw [List.mem_singleton] at hm
          subst hm
          exact stamp_irrefl _
      · rename_i hc
        rcases List.mem_append.1 hm with hm | hm
        · exact h1 n hn m hm hi hs
        · rw [List.mem_singleton] at hm
          subst hm
          rw [hn, hi, decide_eq_true hs, Bool.true_and, Bool.true_and] at hc
          simp only [over, Bool.not_eq_true', Bool.not_eq_false] at hc
          -- a is ahead of what is seen
          have : Gw.Stamp.less m.moved n.moved = true := hc
          unfold Gw.Stamp.less at this ⊢
          rw [Bool.eq_false_iff]
          simp only [ne_eq, Bool.or_eq_true, Bool.and_eq_true, decide_eq_true_eq] at this ⊢
          omega
    · intro hn m hm hi hs
      unfold better at hn
      split at hn
      · cases hn
      · rename_i hc
        rcases List.mem_append.1 hm with hm | hm
        · exact h2 hn m hm hi hs
        · rw [List.mem_singleton] at hm
          subst hm
          rw [hn, hi, decide_eq_true hs, Bool.true_and, Bool.true_and] at hc
          exact hc rfl
theorem child_last {l : List Node} {dir : Int} {s : List UInt8} {n : Node} (h : child l dir s = some n) {m : Node} (hm : m ∈ l) (hi : inDir m dir = true) (hs : m.name = s) : Gw.Stamp.less n.moved m.moved = false := by
  unfold child at h
  split at h
  · rw [seen_find] at h
    have := (best_last dir s l none [] (fun n hn => by cases hn) (fun _ m hm => by cases hm)).1 n h m (by simpa using hm) hi hs
    exact this
  · cases h
theorem child_some {l : List Node} (hc : Gw.Tree.check l = true) {dir : Int} {m : Node} (hm : m ∈ l) (hi : inDir m dir = true) : ∃ n, child l dir m.name = some n := by
  cases h : child l dir m.name with
  | some n => exact ⟨n, rfl⟩
  | none =>
    unfold child at h
    rw [if_pos hc, seen_find] at h
    exact ((best_last dir m.name l none [] (fun n hn => by cases hn) (fun _ m hm => by cases hm)).2 h m (by simpa using hm) hi rfl).elim
theorem mem_list {l : List Node} (hc : Gw.Tree.check l = true) {dir : Int} {s : List UInt8} : s ∈ list l dir ↔ ∃ n, child l dir s = some n := by
  unfold list child
  rw [if_pos hc, if_pos hc]
  obtain ⟨h1, h2⟩ := seen_ok l dir
  constructor
  · intro h
    obtain ⟨e, he, rfl⟩ := List.mem_map.1 ((sortT_perm _).mem_iff.1 h)
    exact ⟨e.2.2, findM_of h1.names he⟩
  · rintro ⟨n, h⟩
    obtain ⟨b, hb⟩ := findM_mem h
    exact (sortT_perm _).mem_iff.2 (List.mem_map.2 ⟨_, hb, rfl⟩)
theorem list_nodup (l : List Node) (dir : Int) : (list l dir).Nodup := by
  unfold list
  split
  · exact (sortT_perm _).nodup_iff.2 (seen_ok l dir).1.names
  · exact List.nodup_nil
theorem list_sorted (l : List Node) (dir : Int) : (list l dir).Pairwise leT := by
  unfold list
  split
  · exact sortT_sorted _
  · exact .nil
theorem list_rises (l : List Node) (dir : Int) {i : Nat} (h : i + 1 < (list l dir).length) : Gw.Name.less (list l dir)[i] (list l dir)[i + 1] = true := by
  have h1 := List.pairwise_iff_getElem.1 (list_sorted l dir) i (i + 1) (by omega) h (Nat.lt_succ_self _)
  have h2 := List.pairwise_iff_getElem.1 (list_nodup l dir) i (i + 1) (by omega) h (Nat.lt_succ_self _)
  cases h3 : Gw.Name.less (list l dir)[i] (list l dir)[i + 1] with
  | true => rfl
  | false => exact absurd (less_total h3 h1) h2
end Gw.View
