/- Facts of what has changed, in plain Lean: no program in sight. -/
import Derived.Test.YtipgfdepopfghaaGreatDiffFn
import Derived.Test.YtipgfdepopfghaaGreatBelowPl
namespace Gw.View
open Gw.Tree (Node)
/-- Each node that was moved has a name that may be. -/
def Named (l : List Node) : Prop := ∀ n ∈ l, Gw.Stamp.check n.moved = true → Gw.Name.check n.name = true
/-- Items in order: paths are unlike, and none stands ahead of what it is in. -/
def Ahead (a b : Item) : Prop := a.path ≠ b.path ∧ within b.path a.path = false
theorem belowF_ahead {l : List Node} (hg : Named l) {outs : List Int} : ∀ (f : Nat) {dir : Int} {path : List UInt8}, (belowF l outs f dir path).Pairwise Ahead
  | 0, _, _ => .nil
  | f + 1, dir, path => by
    rw [belowF]
    unfold levelF
    have hm := inner_ok l outs dir
    have hstep : ∀ s n, findM s (inner l outs dir) = some n → (47 : UInt8) ∉ s := fun s n hf => by
      obtain ⟨h1, h2, h3, h4⟩ := inner_find hf
      obtain ⟨_, q2, _⟩ := inDir_own h2
      have h47 := (Gw.Name.check_spec (hg n h1 q2)).1
      rwa [h3] at h47
    rw [List.pairwise_flatMap]
    refine ⟨fun s _ => ?_, ?_⟩
    · unfold stepF
      cases hf : findM s (inner l outs dir) with
      | none => exact .nil
      | some n =>
        refine List.pairwise_cons.2 ⟨fun it hi => ?_, ?_⟩
        · split at hi
          · obtain ⟨m, _, _, hfr⟩ := belowF_from f it hi
            have h1 := hfr.longer
            show pathOf path s ≠ it.path ∧ within it.path (pathOf path s) = false
            refine ⟨fun e => by rw [e] at h1; omega, within_false fun r e => ?_⟩
            have := congrArg List.length e
            simp only [List.length_append, List.length_cons] at this
            omega
          · cases hi
        · split
          · exact belowF_ahead hg f
          · exact .nil
    · refine List.Pairwise.imp ?_ ((sortT_perm _).nodup_iff.2 hm.names)
      intro s t hne a ha b hb
      unfold stepF at ha hb
      cases hf : findM s (inner l outs dir) with
      | none => rw [hf] at ha; cases ha
      | some n =>
        cases hft : findM t (inner l outs dir) with
        | none => rw [hft] at hb; cases hb
        | some m =>
          rw [hf] at ha
          rw [hft] at hb
          obtain ⟨r1, e1, c1⟩ := oneF_from a ha
          obtain ⟨r2, e2, c2⟩ := oneF_from b hb
          refine ⟨fun e => hne ?_, within_false fun r e => hne ?_⟩
          · rw [e1, e2] at e
            have e := List.append_cancel_left e
            injection e with _ e
            exact name_end (hstep s n hf) (hstep t m hft) c1 c2 e
          · rw [e1, e2, List.append_assoc] at e
            have e := List.append_cancel_left e
            rw [List.cons_append, List.append_assoc] at e
            injection e with _ e
            refine name_end (hstep s n hf) (hstep t m hft) c1 ?_ e
            rcases c2 with rfl | ⟨q, rfl⟩
            · exact .inr ⟨r, rfl⟩
            · exact .inr ⟨q ++ 47 :: r, rfl⟩
theorem items_ahead {l : List Node} (hg : Named l) (dir : Int) : (items l dir).Pairwise Ahead := by
  unfold items
  split
  · exact belowF_ahead hg _
  · exact .nil
end Gw.View
namespace Gw.Diff
open Gw.View (Item Ahead within)
open Gw.Mp
abbrev Unlike (l : List Item) : Prop := l.Pairwise fun a b => a.path ≠ b.path
theorem lastAt_some {l : List Item} {p : List UInt8} {t : Item} (h : lastAt l p = some t) : t ∈ l ∧ t.path = p := by
  unfold lastAt at h
  have h2 := List.find?_some (p := fun t : Item => decide (t.path = p)) h
  exact ⟨List.mem_reverse.1 (List.mem_of_find?_eq_some h), of_decide_eq_true h2⟩
theorem unlike_eq {l : List Item} (h : Unlike l) {a b : Item} (ha : a ∈ l) (hb : b ∈ l) (e : a.path = b.path) : a = b := by
  obtain ⟨i, hi, rfl⟩ := List.getElem_of_mem ha
  obtain ⟨j, hj, rfl⟩ := List.getElem_of_mem hb
  rcases Nat.lt_trichotomy i j with q | q | q
  · exact absurd e (List.pairwise_iff_getElem.1 h i j hi hj q)
  · subst q; rfl
  · exact absurd e.symm (List.pairwise_iff_getElem.1 h j i hj hi q)
theorem lastAt_of {l : List Item} (h : Unlike l) {t : Item} (ht : t ∈ l) : lastAt l t.path = some t := by
  cases hf : lastAt l t.path with
  | none =>
    unfold lastAt at hf
    rw [List.find?_eq_none] at hf
    exact absurd (decide_eq_true rfl) (hf t (List.mem_reverse.2 ht))
  | some x =>
    obtain ⟨h1, h2⟩ := lastAt_some hf
    rw [unlike_eq h h1 ht h2]
theorem same_iff {l : List Item} (h : Unlike l) {t : Item} : sameAt l t = true ↔ ∃ x ∈ l, x.path = t.path ∧ x.id = t.id := by
  unfold sameAt
  constructor
  · intro q
    cases hf : lastAt l t.path with
    | none => rw [hf] at q; cases q
    | some x =>
      rw [hf] at q
      obtain ⟨h1, h2⟩ := lastAt_some hf
      exact ⟨x, h1, h2, of_decide_eq_true q⟩
  · rintro ⟨x, h1, h2, h3⟩
    rw [← h2, lastAt_of h h1]
    exact decide_eq_true h3
theorem wrote_iff {l : List Item} (h : Unlike l) {t : Item} : wroteAt l t = true ↔ ∃ x ∈ l, x.path = t.path ∧ x.id = t.id ∧ x.data ≠ t.data := by
  unfold wroteAt
  constructor
  · intro q
    cases hf : lastAt l t.path with
    | none => rw [hf] at q; cases q
    | some x =>
      rw [hf] at q
      obtain ⟨h1, h2⟩ := lastAt_some hf
      simp only [Bool.and_eq_true, decide_eq_true_eq, Bool.not_eq_true', decide_eq_false_iff_not] at q
      exact ⟨x, h1, h2, q⟩
  · rintro ⟨x, h1, h2, h3, h4⟩
    rw [← h2, lastAt_of h h1]
    simp [h3, h4]
theorem mem_gone {was is : List Item} {e : Event} : e ∈ gone was is ↔ ∃ t ∈ was, sameAt is t = false ∧ e = ⟨1, t.path⟩ := by
  unfold gone
  simp only [List.mem_map, List.mem_filter, List.mem_reverse, Bool.not_eq_true']
  exact ⟨fun ⟨t, ⟨h1, h2⟩, h3⟩ => ⟨t, h1, h2, h3.symm⟩, fun ⟨t, h1, h2, h3⟩ => ⟨t, ⟨h1, h2⟩, h3.symm⟩⟩
theorem mem_came {was is : List Item} {e : Event} : e ∈ came was is ↔ ∃ t ∈ is, sameAt was t = false ∧ e = ⟨2, t.path⟩ := by
  unfold came
  simp only [List.mem_map, List.mem_filter, Bool.not_eq_true']
  exact ⟨fun ⟨t, ⟨h1, h2⟩, h3⟩ => ⟨t, h1, h2, h3.symm⟩, fun ⟨t, h1, h2, h3⟩ => ⟨t, ⟨h1, h2⟩, h3.symm⟩⟩
theorem mem_wrote {was is : List Item} {e : Event} : e ∈ wrote was is ↔ ∃ t ∈ is, wroteAt was t = true ∧ e = ⟨3, t.path⟩ := by
  unfold wrote
  simp only [List.mem_map, List.mem_filter]
  exact ⟨fun ⟨t, ⟨h1, h2⟩, h3⟩ => ⟨t, h1, h2, h3.symm⟩, fun ⟨t, h1, h2, h3⟩ => ⟨t, ⟨h1, h2⟩, h3.symm⟩⟩
theorem mem_ofI {was is : List Item} {e : Event} : e ∈ ofI was is ↔ e ∈ gone was is ∨ e ∈ came was is ∨ e ∈ wrote was is := by
  unfold ofI
  rw [List.mem_append, List.mem_append, or_assoc]
theorem stays_app (q : List UInt8) : ∀ (a b : List Event) (P : Prop), stays q (a ++ b) P = stays q b (stays q a P)
  | [], _, _ => rfl
  | e :: a, b, P => by rw [List.cons_append, stays, stays, stays_app q a b]
theorem stays_gone (q : List UInt8) : ∀ (l : List Event) (P : Prop), (∀ e ∈ l, e.kind = 1) → (stays q l P ↔ P ∧ ∀ e ∈ l, q ≠ e.path)
  | [], P, _ => by simp [stays]
  | e :: l, P, h => by
    rw [stays, if_pos (h e List.mem_cons_self), stays_gone q l _ fun x hx => h x (List.mem_cons_of_mem _ hx)]
    constructor
    · rintro ⟨⟨h1, h2⟩, h3⟩
      exact ⟨h2, fun x hx => (List.mem_cons.1 hx).elim (fun e => by rw [e]; exact h1) (h3 x)⟩
    · rintro ⟨h1, h2⟩
      exact ⟨⟨h2 e List.mem_cons_self, h1⟩, fun x hx => h2 x (List.mem_cons_of_mem _ hx)⟩
theorem stays_came (q : List UInt8) : ∀ (l : List Event) (P : Prop), (∀ e ∈ l, e.kind = 2) → (stays q l P ↔ P ∨ ∃ e ∈ l, q = e.path)
  | [], P, _ => by simp [stays]
  | e :: l, P, h => by
    rw [stays, if_neg (by rw [h e List.mem_cons_self]; decide), if_pos (h e List.mem_cons_self), stays_came q l _ fun x hx => h x (List.mem_cons_of_mem _ hx)]
    constructor
    · rintro ((h1 | h1) | ⟨x, hx, h1⟩)
      · exact .inr ⟨e, List.mem_cons_self, h1⟩
      · exact .inl h1
      · exact .inr ⟨x, List.mem_cons_of_mem _ hx, h1⟩
    · rintro (h1 | ⟨x, hx, h1⟩)
      · exact .inl (.inr h1)
      · rcases List.mem_cons.1 hx with rfl | hx
        · exact .inl (.inl h1)
        · exact .inr ⟨x, hx, h1⟩
theorem stays_wrote (q : List UInt8) : ∀ (l : List Event) (P : Prop), (∀ e ∈ l, e.kind = 3) → (stays q l P ↔ P)
  | [], P, _ => Iff.rfl
  | e :: l, P, h => by
    rw [stays, if_neg (by rw [h e List.mem_cons_self]; decide), if_neg (by rw [h e List.mem_cons_self]; decide)]
    exact stays_wrote q l _ fun x hx => h x (List.mem_cons_of_mem _ hx)
/-- The paths that were there, behind what has changed, are those that are there. -/
theorem plays {was is : List Item} (ha : Unlike was) (hb : Unlike is) (q : List UInt8) : stays q (ofI was is) (q ∈ was.map (·.path)) ↔ q ∈ is.map (·.path) := by
  unfold ofI
  rw [stays_app, stays_app, stays_wrote q _ _ (fun e he => by obtain ⟨_, _, _, rfl⟩ := mem_wrote.1 he; rfl), stays_came q _ _ (fun e he => by obtain ⟨_, _, _, rfl⟩ := mem_came.1 he; rfl), stays_gone q _ _ (fun e he => by obtain ⟨_, _, _, rfl⟩ := mem_gone.1 he; rfl)]
  constructor
  · rintro (⟨h1, h2⟩ | ⟨e, he, h1⟩)
    · obtain ⟨t, ht, rfl⟩ := List.mem_map.1 h1
      cases hs : sameAt is t with
      | true =>
        obtain ⟨x, k1, k2, _⟩ := (same_iff hb).1 hs
        exact List.mem_map.2 ⟨x, k1, k2⟩
      | false => exact absurd rfl (h2 _ (mem_gone.2 ⟨t, ht, hs, rfl⟩))
    · obtain ⟨t, ht, _, rfl⟩ := mem_came.1 he
      exact List.mem_map.2 ⟨t, ht, h1.symm⟩
  · intro h
    obtain ⟨t, ht, rfl⟩ := List.mem_map.1 h
    cases hs : sameAt was t with
    | false => exact .inr ⟨_, mem_came.2 ⟨t, ht, hs, rfl⟩, rfl⟩
    | true =>
      obtain ⟨x, k1, k2, k3⟩ := (same_iff ha).1 hs
      refine .inl ⟨List.mem_map.2 ⟨x, k1, k2⟩, fun e he h1 => ?_⟩
      obtain ⟨y, hy, hf, rfl⟩ := mem_gone.1 he
      have : x = y := unlike_eq ha k1 hy (k2.trans h1)
      subst this
      have : sameAt is x = true := (same_iff hb).2 ⟨t, ht, k2.symm, k3.symm⟩
      rw [hf] at this
      cases this
theorem ofI_same {l : List Item} (h : Unlike l) : ofI l l = [] := by
  have hs : ∀ t ∈ l, sameAt l t = true := fun t ht => (same_iff h).2 ⟨t, ht, rfl, rfl⟩
  refine List.eq_nil_iff_forall_not_mem.2 fun e he => ?_
  rcases mem_ofI.1 he with he | he | he
  · obtain ⟨t, ht, hf, _⟩ := mem_gone.1 he
    rw [hs t ht] at hf; cases hf
  · obtain ⟨t, ht, hf, _⟩ := mem_came.1 he
    rw [hs t ht] at hf; cases hf
  · obtain ⟨t, ht, hf, _⟩ := mem_wrote.1 he
    obtain ⟨x, k1, k2, _, k3⟩ := (wrote_iff h).1 hf
    rw [unlike_eq h k1 ht k2] at k3
    exact k3 rfl
/-- The other way round. -/
theorem turns {was is : List Item} (ha : Unlike was) (hb : Unlike is) : ∀ e ∈ ofI was is, ∃ x ∈ ofI is was, x.path = e.path ∧ ((e.kind = 1 ∧ x.kind = 2) ∨ (e.kind = 2 ∧ x.kind = 1) ∨ (e.kind = 3 ∧ x.kind = 3)) := by
  intro e he
  rcases mem_ofI.1 he with he | he | he
  · obtain ⟨t, ht, hf, rfl⟩ := mem_gone.1 he
    exact ⟨⟨2, t.path⟩, mem_ofI.2 (.inr (.inl (mem_came.2 ⟨t, ht, hf, rfl⟩))), rfl, .inl ⟨rfl, rfl⟩⟩
  · obtain ⟨t, ht, hf, rfl⟩ := mem_came.1 he
    exact ⟨⟨1, t.path⟩, mem_ofI.2 (.inl (mem_gone.2 ⟨t, ht, hf, rfl⟩)), rfl, .inr (.inl ⟨rfl, rfl⟩)⟩
  · obtain ⟨t, ht, hf, rfl⟩ := mem_wrote.1 he
    obtain ⟨x, k1, k2, k3, k4⟩ := (wrote_iff ha).1 hf
    exact ⟨⟨3, x.path⟩, mem_ofI.2 (.inr (.inr (mem_wrote.2 ⟨x, k1, (wrote_iff hb).2 ⟨t, ht, k2.symm, k3.symm, Ne.symm k4⟩, rfl⟩))), k2, .inr (.inr ⟨rfl, rfl⟩)⟩
theorem wrote_nodup {was is : List Item} (hb : Unlike is) : ((wrote was is).map (·.path)).Nodup := by
  unfold wrote
  rw [List.map_map]
  unfold List.Nodup
  rw [List.pairwise_map]
  exact hb.sublist List.filter_sublist
theorem turns_len {was is : List Item} (ha : Unlike was) (hb : Unlike is) : (ofI was is).length = (ofI is was).length := by
  have e1 : (gone was is).length = (came is was).length := by
    unfold gone came
    rw [List.length_map, List.length_map, List.filter_reverse, List.length_reverse]
  have e2 : (gone is was).length = (came was is).length := by
    unfold gone came
    rw [List.length_map, List.length_map, List.filter_reverse, List.length_reverse]
  have e3 : ((wrote was is).map (·.path)).Perm ((wrote is was).map (·.path)) := by
    refine Gw.Lists.perm_of_mem (wrote_nodup hb) (wrote_nodup ha) fun q => ?_
    have key : ∀ {a b : List Item}, Unlike a → Unlike b → q ∈ (wrote a b).map (·.path) → q ∈ (wrote b a).map (·.path) := by
      intro a b ha hb h
      obtain ⟨e, he, rfl⟩ := List.mem_map.1 h
      obtain ⟨t, ht, hf, rfl⟩ := mem_wrote.1 he
      obtain ⟨x, k1, k2, k3, k4⟩ := (wrote_iff ha).1 hf
      exact List.mem_map.2 ⟨⟨3, x.path⟩, mem_wrote.2 ⟨x, k1, (wrote_iff hb).2 ⟨t, ht, k2.symm, k3.symm, Ne.symm k4⟩, rfl⟩, k2⟩
    exact ⟨key ha hb, key hb ha⟩
  have e3 := e3.length_eq
  rw [List.length_map, List.length_map] at e3
  unfold ofI
  simp only [List.length_append]
  omega
/-- In which order events are. -/
def InOrder (x y : Event) : Prop := x.kind ≤ y.kind ∧ x ≠ y ∧ (x.kind = y.kind → y.kind = 1 → within x.path y.path = false) ∧ (x.kind = y.kind → y.kind = 2 → within y.path x.path = false)
theorem kinds {was is : List Item} {e : Event} (h : e ∈ ofI was is) : (e.kind = 1 ∧ e ∈ gone was is) ∨ (e.kind = 2 ∧ e ∈ came was is) ∨ (e.kind = 3 ∧ e ∈ wrote was is) := by
  rcases mem_ofI.1 h with h | h | h
  · exact .inl ⟨by obtain ⟨_, _, _, rfl⟩ := mem_gone.1 h; rfl, h⟩
  · exact .inr (.inl ⟨by obtain ⟨_, _, _, rfl⟩ := mem_came.1 h; rfl, h⟩)
  · exact .inr (.inr ⟨by obtain ⟨_, _, _, rfl⟩ := mem_wrote.1 h; rfl, h⟩)
theorem in_order {was is : List Item} (ha : was.Pairwise Ahead) (hb : is.Pairwise Ahead) : (ofI was is).Pairwise InOrder := by
  unfold ofI
  have g1 : ∀ e ∈ gone was is, e.kind = 1 := fun e he => by obtain ⟨_, _, _, rfl⟩ := mem_gone.1 he; rfl
  have g2 : ∀ e ∈ came was is, e.kind = 2 := fun e he => by obtain ⟨_, _, _, rfl⟩ := mem_came.1 he; rfl
  have g3 : ∀ e ∈ wrote was is, e.kind = 3 := fun e he => by obtain ⟨_, _, _, rfl⟩ := mem_wrote.1 he; rfl
  have far : ∀ x y : Event, x.kind < y.kind → InOrder x y := fun x y h => ⟨by omega, fun e => by rw [e] at h; omega, fun e => by omega, fun e => by omega⟩
  rw [List.pairwise_append, List.pairwise_append]
  refine ⟨⟨?_, ?_, fun x hx y hy => far x y (by rw [g1 x hx, g2 y hy]; decide)⟩, ?_, fun x hx y hy => far x y ?_⟩
  · unfold gone
    rw [List.pairwise_map]
    refine List.Pairwise.imp ?_ ((List.pairwise_reverse.2 ha).sublist List.filter_sublist)
    intro a b h
    exact ⟨Int.le_refl _, fun e => h.1 (congrArg Event.path e).symm, fun _ _ => h.2, fun _ q => absurd q (by show ¬ (1 : Int) = 2; decide)⟩
  · unfold came
    rw [List.pairwise_map]
    refine List.Pairwise.imp ?_ (hb.sublist List.filter_sublist)
    intro a b h
    exact ⟨Int.le_refl _, fun e => h.1 (congrArg Event.path e), fun _ q => absurd q (by show ¬ (2 : Int) = 1; decide), fun _ _ => h.2⟩
  · unfold wrote
    rw [List.pairwise_map]
    refine List.Pairwise.imp ?_ (hb.sublist List.filter_sublist)
    intro a b h
    exact ⟨Int.le_refl _, fun e => h.1 (congrArg Event.path e), fun _ q => absurd q (by show ¬ (3 : Int) = 1; decide), fun _ q => absurd q (by show ¬ (3 : Int) = 2; decide)⟩
  · rw [g3 y hy]
    rcases List.mem_append.1 hx with hx | hx
    · rw [g1 x hx]; decide
    · rw [g2 x hx]; decide
/-- Texts by their bytes. -/
def sortB (l : List (List UInt8)) : List (List UInt8) := l.mergeSort fun x y => decide (x ≤ y)
theorem sortB_perm (l : List (List UInt8)) : (sortB l).Perm l := List.mergeSort_perm _ _
theorem sortB_sorted (l : List (List UInt8)) : (sortB l).Pairwise fun a b => a ≤ b := by
  have := List.pairwise_mergeSort (le := fun x y : List UInt8 => decide (x ≤ y)) (fun a b c h1 h2 => decide_eq_true (List.le_trans (of_decide_eq_true h1) (of_decide_eq_true h2))) (fun _ _ => by
    rw [Bool.or_eq_true, decide_eq_true_eq, decide_eq_true_eq]; exact List.le_total _ _) l
  exact this.imp fun h => of_decide_eq_true h
theorem sortB_unique {l m : List (List UInt8)} (hp : m.Perm l) (hs : m.Pairwise fun a b => a ≤ b) : m = sortB l :=
  (hp.trans (sortB_perm l).symm).eq_of_pairwise (fun _ _ _ _ h1 h2 => List.le_antisymm h1 h2) hs (sortB_sorted l)
theorem sortB_mem {l m : List (List UInt8)} (hl : l.Nodup) (hm : m.Nodup) (h : ∀ q, q ∈ l ↔ q ∈ m) : sortB l = sortB m := by
  have hp := Gw.Lists.perm_of_mem hl hm h
  exact sortB_unique ((sortB_perm l).trans hp) (sortB_sorted l)
/-- Paths behind events, in order. -/
def play (l : List (List UInt8)) (e : List Event) : List (List UInt8) := sortB (keys (playM l e).2)
/-- Texts in order, once each. -/
def setB (l : List (List UInt8)) : List (List UInt8) := play l []
theorem mem_setB {l : List (List UInt8)} {q : List UInt8} : q ∈ setB l ↔ q ∈ l := by
  unfold setB play
  rw [(sortB_perm _).mem_iff, play_mem]
  rfl
theorem play_same {l m : List (List UInt8)} {e f : List Event} (h : ∀ q, stays q e (q ∈ l) ↔ stays q f (q ∈ m)) : play l e = play m f :=
  sortB_mem (play_ok l e).names (play_ok m f).names fun q => by rw [play_mem, play_mem]; exact h q
theorem stays_congr (q : List UInt8) {P Q : Prop} (h : P ↔ Q) (e : List Event) : stays q e P ↔ stays q e Q := by rw [propext h]
theorem play_set (l : List (List UInt8)) (e : List Event) : play (setB l) e = play l e := play_same fun q => stays_congr q mem_setB e
theorem play_items {was is : List Item} (ha : Unlike was) (hb : Unlike is) : play (setB (was.map (·.path))) (ofI was is) = setB (is.map (·.path)) := by
  rw [play_set]
  exact play_same fun q => plays ha hb q
end Gw.Diff
