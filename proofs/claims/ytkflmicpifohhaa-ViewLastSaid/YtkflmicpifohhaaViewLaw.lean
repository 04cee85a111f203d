/- Facts of what is seen, in plain Lean: no program in sight. -/
import Derived.Test.YtkflmicpifohhaaViewFn
namespace Gw.View
open Gw.Tree (Node)

theorem findM_mem {k : List UInt8} {n : Node} : ∀ {m : M}, findM k m = some n → ∃ b, (b, k, n) ∈ m
  | e :: m, h => by
    rw [findM] at h
    split at h
    · rename_i hk
      cases h
      exact ⟨e.1, by rw [← hk]; exact List.mem_cons_self⟩
    · obtain ⟨b, hb⟩ := findM_mem h
      exact ⟨b, List.mem_cons_of_mem _ hb⟩
theorem findM_none {k : List UInt8} : ∀ {m : M}, findM k m = none → k ∉ m.map (·.2.1)
  | [], _ => by simp
  | e :: m, h => by
    rw [findM] at h
    split at h
    · cases h
    · rename_i hk
      rw [List.map_cons, List.mem_cons]
      rintro (h1 | h1)
      · exact hk h1.symm
      · exact findM_none h h1
theorem findM_of {b : Nat} {k : List UInt8} {n : Node} : ∀ {m : M}, (m.map (·.2.1)).Nodup → (b, k, n) ∈ m → findM k m = some n
  | e :: m, hd, h => by
    rw [List.map_cons, List.nodup_cons] at hd
    rw [findM]
    rcases List.mem_cons.1 h with rfl | h
    · simp
    · split
      · rename_i hk
        exact absurd (List.mem_map.2 ⟨_, h, rfl⟩) (by rw [hk] at hd; exact hd.1)
      · exact findM_of hd.2 h
theorem putM_spec (k : List UInt8) (n : Node) : ∀ m : M, (putM k n m = none ∧ findM k m = none) ∨
    ∃ m', putM k n m = some m' ∧ m'.map (·.1) = m.map (·.1) ∧ m'.map (·.2.1) = m.map (·.2.1) ∧ (∀ k', findM k' m' = if k' = k then some n else findM k' m) ∧ (∀ e ∈ m', e ∈ m ∨ e.2 = (k, n))
  | [] => .inl ⟨rfl, rfl⟩
  | e :: m => by
    rw [putM, findM]
    by_cases hk : e.2.1 = k
    · rw [if_pos hk, if_pos hk]
      refine .inr ⟨_, rfl, rfl, rfl, fun k' => ?_, fun x hx => ?_⟩
      · rw [findM, findM]
        by_cases h1 : k' = k
        · rw [if_pos h1, if_pos (by rw [h1]; exact hk)]
        · rw [if_neg (fun h => h1 (by rw [← h]; exact hk)), if_neg h1, if_neg (fun h => h1 (by rw [← h]; exact hk))]
      · rcases List.mem_cons.1 hx with rfl | hx
        · exact .inr (by rw [← hk])
        · exact .inl (List.mem_cons_of_mem _ hx)
    · rw [if_neg hk, if_neg hk]
      rcases putM_spec k n m with ⟨h1, h2⟩ | ⟨m', h1, h2, h3, h4, h5⟩
      · exact .inl ⟨by rw [h1], h2⟩
      · refine .inr ⟨e :: m', by rw [h1], by rw [List.map_cons, List.map_cons, h2], by rw [List.map_cons, List.map_cons, h3], fun k' => ?_, fun x hx => ?_⟩
        · rw [findM, findM, h4]
          by_cases h6 : e.2.1 = k'
          · rw [if_pos h6, if_pos h6, if_neg (fun h => hk (by rw [h6, h]))]
          · rw [if_neg h6, if_neg h6]
        · rcases List.mem_cons.1 hx with rfl | hx
          · exact .inl List.mem_cons_self
          · rcases h5 x hx with h | h
            · exact .inl (List.mem_cons_of_mem _ h)
            · exact .inr h
theorem findM_snoc (k : List UInt8) (e : Nat × List UInt8 × Node) : ∀ m : M, findM k (m ++ [e]) = match findM k m with | some n => some n | none => if e.2.1 = k then some e.2.2 else none
  | [] => rfl
  | x :: m => by
    rw [List.cons_append, findM, findM]
    split
    · rfl
    · exact findM_snoc k e m
/-- What is known of a map of names: it knows its time, its names are unlike, and each is that of its node. -/
structure MOk (x : Nat × M) : Prop where
  born : ∀ e ∈ x.2, e.1 < x.1
  births : (x.2.map (·.1)).Nodup
  names : (x.2.map (·.2.1)).Nodup
  own : ∀ e ∈ x.2, e.2.2.name = e.2.1
theorem setM_find (x : Nat × M) (n : Node) (k : List UInt8) : findM k (setM x n).2 = if k = n.name then some n else findM k x.2 := by
  unfold setM
  rcases putM_spec n.name n x.2 with ⟨h1, h2⟩ | ⟨m', h1, _, _, h4, _⟩
  · rw [h1]
    show findM k (x.2 ++ [(x.1, n.name, n)]) = _
    rw [findM_snoc]
    by_cases hk : k = n.name
    · subst hk
      rw [h2]
    · rw [if_neg hk]
      cases findM k x.2 with
      | some m => rfl
      | none => simp only; rw [if_neg (fun h => hk h.symm)]
  · rw [h1]
    exact h4 k
theorem setM_ok {x : Nat × M} (h : MOk x) (n : Node) : MOk (setM x n) := by
  unfold setM
  rcases putM_spec n.name n x.2 with ⟨h1, h2⟩ | ⟨m', h1, h2, h3, _, h5⟩
  · rw [h1]
    have hn := findM_none h2
    refine ⟨fun e he => ?_, ?_, ?_, fun e he => ?_⟩
    · rcases List.mem_append.1 he with he | he
      · have := h.born e he; show e.1 < x.1 + 1; omega
      · rw [List.mem_singleton] at he; subst he; exact Nat.lt_succ_self _
    · show ((x.2 ++ [(x.1, n.name, n)]).map (·.1)).Nodup
      rw [List.map_append, List.nodup_append]
      refine ⟨h.births, by simp, fun a ha b hb => ?_⟩
      simp only [List.map_cons, List.map_nil, List.mem_singleton] at hb
      obtain ⟨e, he, rfl⟩ := List.mem_map.1 ha
      have := h.born e he
      omega
    · show ((x.2 ++ [(x.1, n.name, n)]).map (·.2.1)).Nodup
      rw [List.map_append, List.nodup_append]
      refine ⟨h.names, by simp, fun a ha b hb => ?_⟩
      simp only [List.map_cons, List.map_nil, List.mem_singleton] at hb
      subst hb
      exact fun e => hn (e ▸ ha)
    · rcases List.mem_append.1 he with he | he
      · exact h.own e he
      · rw [List.mem_singleton] at he; subst he; rfl
  · rw [h1]
    have hm : ∀ e ∈ m', e.1 ∈ x.2.map (·.1) := fun e he => by rw [← h2]; exact List.mem_map.2 ⟨e, he, rfl⟩
    refine ⟨fun e he => ?_, by show (m'.map (·.1)).Nodup; rw [h2]; exact h.births, by show (m'.map (·.2.1)).Nodup; rw [h3]; exact h.names, fun e he => ?_⟩
    · obtain ⟨y, hy, e1⟩ := List.mem_map.1 (hm e he)
      show e.1 < x.1
      rw [← e1]; exact h.born y hy
    · rcases h5 e he with h6 | h6
      · exact h.own e h6
      · rw [h6]
theorem setM_mem {x : Nat × M} {n : Node} {e : Nat × List UInt8 × Node} (h : e ∈ (setM x n).2) : e ∈ x.2 ∨ e.2.2 = n := by
  unfold setM at h
  rcases putM_spec n.name n x.2 with ⟨h1, _⟩ | ⟨m', h1, _, _, _, h5⟩
  · rw [h1] at h
    rcases List.mem_append.1 h with h | h
    · exact .inl h
    · rw [List.mem_singleton] at h; exact .inr (by rw [h])
  · rw [h1] at h
    rcases h5 e h with h | h
    · exact .inl h
    · exact .inr (by rw [h])
/-- Is a node seen rather than what was? -/
def over (r : Option Node) (n : Node) : Bool := match r with
  | none => true
  | some old => !Gw.Stamp.less n.moved old.moved
/-- The best of what is there by a name. -/
def better (dir : Int) (s : List UInt8) (r : Option Node) (n : Node) : Option Node :=
  if (inDir n dir && (decide (n.name = s) && over r n)) = true then some n else r
def best (l : List Node) (dir : Int) (s : List UInt8) : Option Node := l.foldl (better dir s) none
theorem beats_over (n : Node) (m : M) : beats n m = over (findM n.name m) n := rfl
theorem step_find (dir : Int) (x : Nat × M) (n : Node) (s : List UInt8) : findM s (seenStep dir x n).2 = better dir s (findM s x.2) n := by
  unfold seenStep better
  rw [beats_over]
  cases inDir n dir with
  | false => rfl
  | true =>
    rw [if_pos rfl, Bool.true_and]
    by_cases hs : n.name = s
    · subst hs
      rw [decide_eq_true rfl, Bool.true_and]
      split
      · rw [setM_find, if_pos rfl]
      · rfl
    · rw [decide_eq_false hs, Bool.false_and, if_neg (c := false = true) (by decide)]
      split
      · rw [setM_find, if_neg (fun h => hs h.symm)]
      · rfl
theorem seen_find (l : List Node) (dir : Int) (s : List UInt8) : findM s (seen l dir).2 = best l dir s := by
  unfold seen best
  have key : ∀ (l : List Node) (x : Nat × M) (r : Option Node), findM s x.2 = r → findM s (l.foldl (seenStep dir) x).2 = l.foldl (better dir s) r := by
    intro l
    induction l with
    | nil => intro x r h; exact h
    | cons n l ih =>
      intro x r h
      rw [List.foldl_cons, List.foldl_cons]
      exact ih _ _ (by rw [step_find, h])
  exact key l (0, []) none rfl
theorem seen_ok (l : List Node) (dir : Int) : MOk (seen l dir) ∧ ∀ e ∈ (seen l dir).2, e.2.2 ∈ l ∧ inDir e.2.2 dir = true := by
  have key : ∀ (l : List Node) (x : Nat × M) (L : List Node), (∀ n ∈ l, n ∈ L) → MOk x → (∀ e ∈ x.2, e.2.2 ∈ L ∧ inDir e.2.2 dir = true) → MOk (l.foldl (seenStep dir) x) ∧ ∀ e ∈ (l.foldl (seenStep dir) x).2, e.2.2 ∈ L ∧ inDir e.2.2 dir = true := by
    intro l
    induction l with
    | nil => intro x L _ h1 h2; exact ⟨h1, h2⟩
    | cons n l ih =>
      intro x L hL h1 h2
      rw [List.foldl_cons]
      refine ih _ L (fun m hm => hL m (List.mem_cons_of_mem _ hm)) ?_ ?_
      · unfold seenStep
        split
        · split
          · exact setM_ok h1 n
          · exact h1
        · exact h1
      · unfold seenStep
        split
        · rename_i hin
          split
          · intro e he
            rcases setM_mem he with he | he
            · exact h2 e he
            · rw [he]; exact ⟨hL n List.mem_cons_self, hin⟩
          · exact h2
        · exact h2
  exact key l (0, []) l (fun _ h => h) ⟨(fun e h => by cases h), List.nodup_nil, List.nodup_nil, (fun e h => by cases h)⟩ (fun e h => by cases h)
theorem child_mem {l : List Node} {dir : Int} {s : List UInt8} {n : Node} (h : child l dir s = some n) : n ∈ l ∧ inDir n dir = true ∧ n.name = s := by
  unfold child at h
  split at h
  · obtain ⟨b, hb⟩ := findM_mem h
    obtain ⟨h1, h2⟩ := seen_ok l dir
    exact ⟨(h2 _ hb).1, (h2 _ hb).2, h1.own _ hb⟩
  · cases h
end Gw.View
