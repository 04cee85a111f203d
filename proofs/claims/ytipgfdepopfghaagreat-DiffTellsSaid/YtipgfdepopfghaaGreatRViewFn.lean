/- What the document's answer sees of nodes, in plain Lean: no program in sight. -/
import Derived.Test.YtipgfdepopfghaaGreatViewPl
namespace Gw.View
open Gw.Tree (Node)
open Gw.Stamp (Stamp)
/-- Is a node behind another, in what was moved last? -/
def behind (a b : Node) : Bool := Gw.Stamp.less b.moved a.moved || (decide (a.moved.c = b.moved.c ∧ a.moved.r = b.moved.r) && decide (b.id < a.id))
/-- The place of what is seen by a name. -/
def bestStep (l : List Node) (dir : Int) (s : List UInt8) (b : Option Nat) (k : Nat) : Option Nat := match l[k]? with
  | none => b
  | some n => if (inDir n dir && (decide (n.name = s) && (match b.bind (fun j => l[j]?) with | none => true | some old => behind n old))) = true then some k else b
theorem behind_over {a b : Node} (h : b.id < a.id) : behind a b = !Gw.Stamp.less a.moved b.moved := by
  unfold behind Gw.Stamp.less
  rw [decide_eq_true h, Bool.and_true, Bool.eq_iff_iff]
  simp only [Bool.or_eq_true, Bool.and_eq_true, decide_eq_true_eq, Bool.not_eq_true', Bool.or_eq_false_iff, Bool.and_eq_false_iff, decide_eq_false_iff_not]
  omega
theorem bestStep_better {l : List Node} (hc : Gw.Tree.check l = true) (dir : Int) (s : List UInt8) {b : Option Nat} {k : Nat} (hk : k < l.length) (hb : ∀ j, b = some j → j < k) :
    (bestStep l dir s b k).bind (fun j => l[j]?) = better dir s (b.bind (fun j => l[j]?)) l[k] ∧ ∀ j, bestStep l dir s b k = some j → j < k + 1 := by
  have hov : (match b.bind (fun j => l[j]?) with | none => true | some old => behind l[k] old) = over (b.bind (fun j => l[j]?)) l[k] := by
    cases b with
    | none => rfl
    | some j =>
      have hj := hb j rfl
      show (match l[j]? with | none => true | some old => behind l[k] old) = over (l[j]?) l[k]
      rw [List.getElem?_eq_getElem (show j < l.length by omega)]
      exact behind_over (Gw.Tree.check_lt hc hj hk)
  unfold bestStep better
  rw [List.getElem?_eq_getElem hk]
  simp only [hov]
  split
  · refine ⟨?_, fun j h => ?_⟩
    · show l[k]? = _
      rw [List.getElem?_eq_getElem hk]
    · cases h; omega
  · exact ⟨rfl, fun j h => by have := hb j h; omega⟩
/-- A name laid among others, in order; what is there already is not laid again. -/
def below (l : List (List UInt8)) (s : List UInt8) : Nat := (l.takeWhile fun t => Gw.Name.less t s).length
def putT (l : List (List UInt8)) (s : List UInt8) : List (List UInt8) := if l[below l s]? = some s then l else l.take (below l s) ++ [s] ++ l.drop (below l s)
theorem below_le (l : List (List UInt8)) (s : List UInt8) : below l s ≤ l.length := (List.takeWhile_sublist _).length_le
theorem below_of {l : List (List UInt8)} {s : List UInt8} {k : Nat} (hk : k ≤ l.length) (h1 : ∀ j (hj : j < l.length), j < k → Gw.Name.less l[j] s = true) (h2 : ∀ hk : k < l.length, Gw.Name.less l[k] s = false) : below l s = k := by
  unfold below
  induction l generalizing k with
  | nil => simp at hk ⊢; omega
  | cons t l ih =>
    cases k with
    | zero =>
      have := h2 (by simp)
      simp only [List.getElem_cons_zero] at this
      rw [List.takeWhile_cons_of_neg (by rw [this]; decide)]; rfl
    | succ k =>
      have h0 := h1 0 (by simp) (by omega)
      simp only [List.getElem_cons_zero] at h0
      rw [List.takeWhile_cons_of_pos (p := fun t => Gw.Name.less t s) h0, List.length_cons]
      rw [ih (k := k) (by simp at hk; omega) (fun j hj h => by have := h1 (j + 1) (by simp; omega) (by omega); simpa using this) (fun hk => by have := h2 (by simp; omega); simpa using this)]
/-- In order, none twice. -/
abbrev Up (l : List (List UInt8)) : Prop := l.Pairwise fun a b => Gw.Name.less a b = true
theorem less_trans {a b c : List UInt8} (h : Gw.Name.less a b = true) (k : Gw.Name.less b c = true) : Gw.Name.less a c = true := by
  cases hac : Gw.Name.less a c with
  | true => rfl
  | false =>
    have h3 := leT_trans (leT_of k) (show leT c a from hac)
    unfold leT at h3
    rw [h] at h3; cases h3
theorem putT_spec {l : List (List UInt8)} (hu : Up l) (s : List UInt8) : Up (putT l s) ∧ ∀ t, t ∈ putT l s ↔ t ∈ l ∨ t = s := by
  have hlow : ∀ t ∈ l.take (below l s), Gw.Name.less t s = true := fun t ht => by
    have e : l.take (below l s) = l.takeWhile fun t => Gw.Name.less t s := by
      have := List.prefix_iff_eq_take.1 (List.takeWhile_prefix (fun t => Gw.Name.less t s) (l := l))
      exact this.symm
    rw [e] at ht
    exact List.all_eq_true.1 (List.all_takeWhile (p := fun t => Gw.Name.less t s) (l := l)) t ht
  have hhi : ∀ hk : below l s < l.length, Gw.Name.less l[below l s] s = false := fun hk => by
    have key : ∀ (l : List (List UInt8)) (hk : below l s < l.length), Gw.Name.less l[below l s] s = false := by
      intro l
      induction l with
      | nil => intro hk; simp at hk
      | cons t l ih =>
        intro hk
        by_cases ht : Gw.Name.less t s = true
        · have e : below (t :: l) s = below l s + 1 := by unfold below; rw [List.takeWhile_cons_of_pos (p := fun t => Gw.Name.less t s) ht]; rfl
          simp only [e, List.getElem_cons_succ]
          exact ih (by rw [e] at hk; simpa using hk)
        · have e : below (t :: l) s = 0 := by unfold below; rw [List.takeWhile_cons_of_neg (p := fun t => Gw.Name.less t s) ht]; rfl
          simp only [e, List.getElem_cons_zero]
          simpa using ht
    exact key l hk
  unfold putT
  split
  · rename_i h
    exact ⟨hu, fun t => ⟨.inl, fun q => q.elim id fun e => by rw [e]; exact List.mem_of_getElem? h⟩⟩
  · rename_i h
    have hbig : ∀ t ∈ l.drop (below l s), Gw.Name.less s t = true := fun t ht => by
      have hk : below l s < l.length := by
        rcases Nat.lt_or_ge (below l s) l.length with h | h
        · exact h
        · rw [List.drop_of_length_le h] at ht; cases ht
      have h1 := hhi hk
      have h2 : Gw.Name.less s l[below l s] = true := by
        cases hq : Gw.Name.less s l[below l s] with
        | true => rfl
        | false => exact absurd (by rw [List.getElem?_eq_getElem hk, less_total h1 hq]) h
      rw [List.drop_eq_getElem_cons hk] at ht
      rcases List.mem_cons.1 ht with rfl | ht
      · exact h2
      · have hp : Up (l.drop (below l s)) := hu.sublist (List.drop_sublist _ _)
        rw [List.drop_eq_getElem_cons hk] at hp
        exact less_trans h2 (List.rel_of_pairwise_cons hp ht)
    refine ⟨?_, fun t => ?_⟩
    · rw [List.append_assoc]
      refine List.pairwise_append.2 ⟨hu.sublist (List.take_sublist _ _), List.pairwise_cons.2 ⟨hbig, hu.sublist (List.drop_sublist _ _)⟩, fun a ha b hb => ?_⟩
      rcases List.mem_cons.1 hb with rfl | hb
      · exact hlow a ha
      · exact less_trans (hlow a ha) (hbig b hb)
    · have e : t ∈ l ↔ t ∈ l.take (below l s) ∨ t ∈ l.drop (below l s) := by
        rw [← List.mem_append, List.take_append_drop]
      rw [e]
      simp only [List.mem_append, List.mem_singleton]
      constructor
      · rintro ((h | h) | h)
        · exact .inl (.inl h)
        · exact .inr h
        · exact .inl (.inr h)
      · rintro ((h | h) | h)
        · exact .inl (.inl h)
        · exact .inr h
        · exact .inl (.inr h)
def listStep (dir : Int) (x : List (List UInt8)) (n : Node) : List (List UInt8) := if inDir n dir = true then putT x n.name else x
def rlist (l : List Node) (dir : Int) : List (List UInt8) := l.foldl (listStep dir) []
theorem rlist_spec (dir : Int) : ∀ (l : List Node) (x : List (List UInt8)), Up x → Up (l.foldl (listStep dir) x) ∧ ∀ t, t ∈ l.foldl (listStep dir) x ↔ t ∈ x ∨ ∃ n ∈ l, inDir n dir = true ∧ n.name = t
  | [], x, h => ⟨h, fun t => by simp⟩
  | n :: l, x, h => by
    rw [List.foldl_cons]
    unfold listStep
    split
    · rename_i hin
      obtain ⟨h1, h2⟩ := putT_spec h n.name
      obtain ⟨h3, h4⟩ := rlist_spec dir l _ h1
      refine ⟨h3, fun t => ?_⟩
      show t ∈ l.foldl (listStep dir) (putT x n.name) ↔ _
      rw [h4, h2]
      constructor
      · rintro ((q | q) | ⟨m, q1, q2⟩)
        · exact .inl q
        · exact .inr ⟨n, List.mem_cons_self, hin, q.symm⟩
        · exact .inr ⟨m, List.mem_cons_of_mem _ q1, q2⟩
      · rintro (q | ⟨m, q1, q2, q3⟩)
        · exact .inl (.inl q)
        · rcases List.mem_cons.1 q1 with rfl | q1
          · exact .inl (.inr q3.symm)
          · exact .inr ⟨m, q1, q2, q3⟩
    · rename_i hin
      obtain ⟨h3, h4⟩ := rlist_spec dir l x h
      refine ⟨h3, fun t => ?_⟩
      show t ∈ l.foldl (listStep dir) x ↔ _
      rw [h4]
      constructor
      · rintro (q | ⟨m, q1, q2⟩)
        · exact .inl q
        · exact .inr ⟨m, List.mem_cons_of_mem _ q1, q2⟩
      · rintro (q | ⟨m, q1, q2, q3⟩)
        · exact .inl q
        · rcases List.mem_cons.1 q1 with rfl | q1
          · exact absurd q2 hin
          · exact .inr ⟨m, q1, q2, q3⟩
theorem best_isSome (dir : Int) (s : List UInt8) : ∀ (l : List Node) (r : Option Node), (l.foldl (better dir s) r).isSome = true ↔ r.isSome = true ∨ ∃ n ∈ l, inDir n dir = true ∧ n.name = s
  | [], r => by simp
  | n :: l, r => by
    rw [List.foldl_cons, best_isSome dir s l]
    have hb : (better dir s r n).isSome = true ↔ r.isSome = true ∨ (inDir n dir = true ∧ n.name = s) := by
      unfold better
      split
      · rename_i h
        simp only [Bool.and_eq_true, decide_eq_true_eq] at h
        exact ⟨fun _ => .inr ⟨h.1, h.2.1⟩, fun _ => rfl⟩
      · rename_i h
        refine ⟨.inl, fun q => q.elim id fun ⟨q1, q2⟩ => ?_⟩
        rw [q1, decide_eq_true q2, Bool.true_and, Bool.true_and] at h
        cases r with
        | none => exact absurd rfl h
        | some _ => rfl
    rw [hb]
    constructor
    · rintro ((q | q) | ⟨m, q1, q2⟩)
      · exact .inl q
      · exact .inr ⟨n, List.mem_cons_self, q⟩
      · exact .inr ⟨m, List.mem_cons_of_mem _ q1, q2⟩
    · rintro (q | ⟨m, q1, q2⟩)
      · exact .inl (.inl q)
      · rcases List.mem_cons.1 q1 with rfl | q1
        · exact .inl (.inr q2)
        · exact .inr ⟨m, q1, q2⟩
theorem up_sorted {l : List (List UInt8)} (h : Up l) : l.Pairwise leT := h.imp fun q => leT_of q
theorem up_nodup {l : List (List UInt8)} (h : Up l) : l.Nodup := h.imp fun {a b} q e => by
  subst e
  rw [less_irrefl] at q; cases q
theorem findM_isSome (s : List UInt8) (m : M) : (findM s m).isSome = true ↔ s ∈ m.map (·.2.1) := by
  constructor
  · intro h
    cases hf : findM s m with
    | none => rw [hf] at h; cases h
    | some n => obtain ⟨b, hb⟩ := findM_mem hf; exact List.mem_map.2 ⟨_, hb, rfl⟩
  · intro h
    cases hf : findM s m with
    | none => exact absurd h (findM_none hf)
    | some n => rfl
theorem rlist_list {l : List Node} (hc : Gw.Tree.check l = true) (dir : Int) : rlist l dir = list l dir := by
  obtain ⟨h1, h2⟩ := rlist_spec dir l [] List.Pairwise.nil
  unfold list
  rw [if_pos hc]
  refine sortT_unique (Gw.Lists.perm_of_mem (up_nodup h1) (seen_ok l dir).1.names fun t => ?_) (up_sorted h1)
  show t ∈ l.foldl (listStep dir) [] ↔ _
  rw [h2, ← findM_isSome, seen_find]
  unfold best
  rw [best_isSome]
  simp
/-- Level by level, in the way of the document: a name at a time; what is out is passed by. -/
def stepR (sub : Int → List UInt8 → List Item) (l : List Node) (outs : List Int) (dir : Int) (path : List UInt8) (s : List UInt8) : List Item := match child l dir s with
  | none => []
  | some n => if outs.contains n.id = true then [] else oneF sub path s n
theorem sortT_filter (p : List UInt8 → Bool) {l m : List (List UInt8)} (h : m.Perm (l.filter p)) : sortT m = (sortT l).filter p :=
  (sortT_unique (((sortT_perm l).filter p).trans h.symm) ((sortT_sorted l).sublist List.filter_sublist)).symm
theorem levelR {l : List Node} (hc : Gw.Tree.check l = true) (sub : Int → List UInt8 → List Item) (outs : List Int) (dir : Int) (path : List UInt8) :
    levelF sub (inner l outs dir) path = (list l dir).flatMap (stepR sub l outs dir path) := by
  have hok := (seen_ok l dir).1
  have hio := inner_ok l outs dir
  have hch : ∀ s, child l dir s = findM s (seen l dir).2 := fun s => by unfold child; rw [if_pos hc]
  let p : List UInt8 → Bool := fun s => match findM s (seen l dir).2 with | none => false | some n => !outs.contains n.id
  have hp : ∀ e ∈ (seen l dir).2, p e.2.1 = !outs.contains e.2.2.id := fun e he => by
    show (match findM e.2.1 (seen l dir).2 with | none => false | some n => !outs.contains n.id) = _
    rw [findM_of (b := e.1) hok.names he]
  have hnames : (inner l outs dir).map (·.2.1) = ((seen l dir).2.map (·.2.1)).filter p := by
    unfold inner
    rw [List.filter_map]
    congr 1
    apply List.filter_congr
    intro e he
    exact (hp e he).symm
  have hlist : list l dir = sortT ((seen l dir).2.map (·.2.1)) := by unfold list; rw [if_pos hc]
  unfold levelF
  rw [hlist, hnames, sortT_filter p (List.Perm.refl _)]
  have hin : ∀ s n, findM s (seen l dir).2 = some n → p s = true → findM s (inner l outs dir) = some n := fun s n hf hps => by
    obtain ⟨b, hb⟩ := findM_mem hf
    refine findM_of (b := b) hio.names (List.mem_filter.2 ⟨hb, ?_⟩)
    rw [← hp _ hb]; exact hps
  induction sortT ((seen l dir).2.map (·.2.1)) with
  | nil => rfl
  | cons s r ih =>
    rw [List.flatMap_cons]
    have hstep : stepR sub l outs dir path s = if p s = true then stepF sub (inner l outs dir) path s else [] := by
      unfold stepR stepF
      rw [hch]
      cases hf : findM s (seen l dir).2 with
      | none =>
        have : p s = false := by show (match findM s (seen l dir).2 with | none => false | some n => !outs.contains n.id) = _; rw [hf]
        rw [this, if_neg (by decide)]
      | some n =>
        have hps : p s = !outs.contains n.id := by show (match findM s (seen l dir).2 with | none => false | some n => !outs.contains n.id) = _; rw [hf]
        cases ho : outs.contains n.id with
        | true =>
          rw [hps, ho]
          show (if outs.contains n.id = true then [] else oneF sub path s n) = _
          rw [if_pos ho, if_neg (by decide)]
        | false =>
          rw [hin s n hf (by rw [hps, ho]; rfl), hps, ho]
          show (if outs.contains n.id = true then [] else oneF sub path s n) = _
          rw [ho, if_neg (by decide), if_pos (by decide)]
    rw [hstep, ← ih]
    by_cases h : p s = true
    · rw [List.filter_cons_of_pos h, List.flatMap_cons, if_pos h]
    · rw [List.filter_cons_of_neg h, if_neg h, List.nil_append]
end Gw.View
