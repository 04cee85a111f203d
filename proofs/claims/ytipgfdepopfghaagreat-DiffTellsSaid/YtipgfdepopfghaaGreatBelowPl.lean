/- What is seen below what is seen, in plain Lean: no program in sight. -/
import Derived.Test.YtipgfdepopfghaaGreatFindsPl
namespace Gw.View
open Gw.Tree (Node NodeOk)
/-- Is a path one of something in a directory of another one? -/
def within (x p : List UInt8) : Bool := decide (x.length < p.length) && decide (p.take (x.length + 1) = x ++ [47])
theorem within_iff {x p : List UInt8} : within x p = true ↔ ∃ r, p = x ++ 47 :: r := by
  unfold within
  rw [Bool.and_eq_true, decide_eq_true_eq, decide_eq_true_eq]
  constructor
  · rintro ⟨_, h⟩
    exact ⟨p.drop (x.length + 1), by rw [← List.singleton_append, ← List.append_assoc, ← h, List.take_append_drop]⟩
  · rintro ⟨r, rfl⟩
    refine ⟨by simp, ?_⟩
    rw [← List.singleton_append, ← List.append_assoc, List.take_left' (by simp)]
theorem within_false {x p : List UInt8} (h : ∀ r, p = x ++ 47 :: r → False) : within x p = false := by
  rw [Bool.eq_false_iff]
  intro hw
  obtain ⟨r, e⟩ := within_iff.1 hw
  exact h r e
def preI (p : List UInt8) (it : Item) : Item := ⟨p ++ it.path, it.id, it.data⟩
def cutI (n : Nat) (it : Item) : Item := ⟨it.path.drop n, it.id, it.data⟩
theorem cut_pre (p : List UInt8) (I : List Item) : (I.map (preI p)).map (cutI p.length) = I := by
  rw [List.map_map]
  conv => rhs; rw [← List.map_id I]
  refine List.map_congr_left fun it _ => ?_
  show (⟨(p ++ it.path).drop p.length, it.id, it.data⟩ : Item) = it
  rw [List.drop_left]
theorem flat_congr {α β : Type} {f g : α → List β} : ∀ (l : List α), (∀ a ∈ l, f a = g a) → l.flatMap f = l.flatMap g
  | [], _ => rfl
  | a :: l, h => by rw [List.flatMap_cons, List.flatMap_cons, h a List.mem_cons_self, flat_congr l fun b hb => h b (List.mem_cons_of_mem _ hb)]
theorem levelF_congr {sub sub' : Int → List UInt8 → List Item} {m : M} {path : List UInt8} (h : ∀ s n, findM s m = some n → sub n.id (pathOf path s) = sub' n.id (pathOf path s)) : levelF sub m path = levelF sub' m path := by
  unfold levelF
  refine flat_congr _ fun s _ => ?_
  unfold stepF
  cases hf : findM s m with
  | none => rfl
  | some n => simp only [oneF, h s n hf]
theorem level_nil (sub : Int → List UInt8 → List Item) (path : List UInt8) : levelF sub [] path = [] := rfl
theorem inner_end {l : List Node} (hc : Gw.Tree.check l = true) {outs : List Int} {top : Int} (ht : top ∈ outs) {ids : List Int} {dir : Int} (hw : Way l outs top ids dir) (hl : l.length ≤ ids.length) : inner l outs dir = [] :=
  List.eq_nil_iff_forall_not_mem.2 fun e he => by
    obtain ⟨_, h1, h2, _, h4⟩ := inner_mem he
    have := (Way.down hw h1 (inDir_own h2).1 h4).len hc ht
    rw [List.length_append, List.length_singleton] at this
    omega
/-- Enough is enough. -/
theorem belowF_enough {l : List Node} (hc : Gw.Tree.check l = true) {outs : List Int} {top : Int} (ht : top ∈ outs) : ∀ (f g : Nat) {ids : List Int} {dir : Int} {path : List UInt8}, Way l outs top ids dir → l.length ≤ ids.length + f → l.length ≤ ids.length + g → belowF l outs f dir path = belowF l outs g dir path
  | 0, 0, _, _, _, _, _, _ => rfl
  | 0, g + 1, ids, dir, path, hw, h1, _ => by
    rw [belowF, belowF, inner_end hc ht hw h1, level_nil]
  | f + 1, 0, ids, dir, path, hw, _, h1 => by
    rw [belowF, belowF, inner_end hc ht hw h1, level_nil]
  | f + 1, g + 1, ids, dir, path, hw, h1, h2 => by
    rw [belowF, belowF]
    refine levelF_congr fun s n hf => ?_
    obtain ⟨k1, k2, k3, k4⟩ := inner_find hf
    exact belowF_enough hc ht f g (Way.down hw k1 (inDir_own k2).1 k4) (by rw [List.length_append, List.length_singleton]; omega) (by rw [List.length_append, List.length_singleton]; omega)
theorem inner_all {l : List Node} {outs : List Int} {dir : Int} (h : ∀ n ∈ l, n.parent = dir → n.id ∉ outs) : inner l outs dir = (seen l dir).2 := by
  unfold inner
  rw [List.filter_eq_self]
  intro e he
  obtain ⟨q1, q2⟩ := seen_ok l dir
  have := h _ (q2 e he).1 (inDir_own (q2 e he).2).1
  simpa using this
/-- What is above need not be told where a way comes from there. -/
theorem belowF_outs {l : List Node} (hc : Gw.Tree.check l = true) {outs outs' : List Int} {top : Int} (ht : top ∈ outs) (hout : ∀ n ∈ l, n.id ∉ outs) (htop : ∀ n ∈ l, n.id ≠ top) : ∀ (f : Nat) {ids : List Int} {dir : Int} {path : List UInt8}, Way l outs top ids dir → (∀ z ∈ outs', z = top ∨ z ∈ ids) → belowF l outs f dir path = belowF l outs' f dir path
  | 0, _, _, _, _, _ => rfl
  | f + 1, ids, dir, path, hw, h => by
    have e1 : inner l outs dir = (seen l dir).2 := inner_all fun n hn _ => hout n hn
    have e2 : inner l outs' dir = (seen l dir).2 := inner_all fun n hn hp hin => by
      rcases h _ hin with e | e
      · exact htop n hn e
      · have := (Way.down hw hn hp (hout n hn)).nodup hc ht
        rw [List.nodup_append] at this
        exact this.2.2 _ e _ (List.mem_singleton.2 rfl) rfl
    rw [belowF, belowF, e1, e2]
    refine levelF_congr fun s n hf => ?_
    rw [← e1] at hf
    obtain ⟨k1, k2, k3, k4⟩ := inner_find hf
    exact belowF_outs hc ht hout htop f (Way.down hw k1 (inDir_own k2).1 k4) (fun z hz => (h z hz).imp id fun q => List.mem_append.2 (.inl q))
theorem belowF_pre (l : List Node) (outs : List Int) (p : List UInt8) : ∀ (f : Nat) (dir : Int) (q : List UInt8), belowF l outs f dir (p ++ q) = (belowF l outs f dir q).map (preI p)
  | 0, _, _ => rfl
  | f + 1, dir, q => by
    rw [belowF, belowF]
    unfold levelF
    rw [List.map_flatMap]
    refine flat_congr _ fun s _ => ?_
    unfold stepF
    cases hf : findM s (inner l outs dir) with
    | none => rfl
    | some n =>
      have e : pathOf (p ++ q) s = p ++ pathOf q s := by unfold pathOf; simp
      simp only [oneF, e]
      rw [List.map_cons]
      refine List.cons_eq_cons.2 ⟨rfl, ?_⟩
      split
      · exact belowF_pre l outs p f n.id _
      · rfl
theorem flatMap_one {α β : Type} {g : α → List β} {s : α} : ∀ {N : List α}, N.Nodup → s ∈ N → (∀ t ∈ N, t ≠ s → g t = []) → N.flatMap g = g s
  | a :: N, hn, hs, h => by
    rw [List.nodup_cons] at hn
    rw [List.flatMap_cons]
    rcases List.mem_cons.1 hs with rfl | hs
    · have : N.flatMap g = [] := List.flatMap_eq_nil_iff.2 fun t ht => h t (List.mem_cons_of_mem _ ht) fun e => hn.1 (e ▸ ht)
      rw [this, List.append_nil]
    · rw [h a List.mem_cons_self (fun e => hn.1 (e ▸ hs)), List.nil_append]
      exact flatMap_one hn.2 hs fun t ht => h t (List.mem_cons_of_mem _ ht)
theorem From.longer {path s p : List UInt8} (h : From path s p) : path.length < p.length := by
  obtain ⟨r, rfl, _⟩ := h
  simp
theorem oneF_from {l : List Node} {outs : List Int} {f : Nat} {path s : List UInt8} {n : Node} : ∀ it ∈ oneF (belowF l outs f) path s n, From path s it.path := fun it hi => by
  rcases List.mem_cons.1 hi with rfl | hi
  · exact ⟨[], by rw [List.append_nil]; show path ++ [47] ++ s = _; rw [List.append_assoc]; rfl, .inl rfl⟩
  · split at hi
    · obtain ⟨m, _, _, r, e, _⟩ := belowF_from f it hi
      exact ⟨47 :: (m.name ++ r), by rw [e]; show path ++ [47] ++ s ++ _ = _; simp, .inr ⟨_, rfl⟩⟩
    · cases hi
/-- What is within the path of what is seen is what is seen below it. -/
theorem belowF_within {l : List Node} (hg : ∀ n ∈ l, NodeOk n) {outs : List Int} {top : Int} : ∀ (f : Nat) {ids : List Int} {dir : Int} {path : List UInt8}, Way l outs top ids dir → l.length ≤ ids.length + f → ∀ x ∈ belowF l outs f dir path,
    ∃ g ids', Way l outs top (ids ++ ids') x.id ∧ ids' ≠ [] ∧ l.length ≤ (ids ++ ids').length + g ∧ (belowF l outs f dir path).filter (fun it => within x.path it.path) = if Gw.Stamp.dir x.id = true then belowF l outs g x.id x.path else []
  | 0, _, _, _, _, _, x, h => by cases h
  | f + 1, ids, dir, path, hw, hl, x, h => by
    rw [belowF] at h ⊢
    obtain ⟨s, n, hs, hf, hx⟩ := mem_levelF h
    obtain ⟨k1, k2, k3, k4⟩ := inner_find hf
    have hdn := Way.down hw k1 (inDir_own k2).1 k4
    have h47 : ∀ s n, findM s (inner l outs dir) = some n → (47 : UInt8) ∉ s := fun s n hf => by
      obtain ⟨h1, h2, h3, h4⟩ := inner_find hf
      have := (Gw.Name.check_spec ((hg n h1).1 (inDir_own h2).2.1).2).1
      rwa [h3] at this
    have hxf := oneF_from x hx
    have hmo := inner_ok l outs dir
    have hone : (levelF (belowF l outs f) (inner l outs dir) path).filter (fun it => within x.path it.path) = (oneF (belowF l outs f) path s n).filter (fun it => within x.path it.path) := by
      unfold levelF
      rw [List.filter_flatMap]
      rw [flatMap_one (s := s) ((sortT_perm _).nodup_iff.2 hmo.names) ((sortT_perm _).mem_iff.2 hs) ?_]
      · unfold stepF
        rw [hf]
      · intro t _ hne
        unfold stepF
        cases hft : findM t (inner l outs dir) with
        | none => rfl
        | some m =>
          rw [List.filter_eq_nil_iff]
          intro it hi hwi
          obtain ⟨r, e⟩ := within_iff.1 hwi
          obtain ⟨r1, e1, c1⟩ := oneF_from it hi
          obtain ⟨r2, e2, c2⟩ := hxf
          rw [e1, e2, List.append_assoc] at e
          have e := List.append_cancel_left e
          rw [List.cons_append, List.append_assoc] at e
          injection e with _ e
          refine hne (name_end (h47 t m hft) (h47 s n hf) c1 ?_ e)
          rcases c2 with rfl | ⟨q, rfl⟩
          · exact .inr ⟨r, rfl⟩
          · exact .inr ⟨q ++ 47 :: r, rfl⟩
    rw [hone]
    have hpl : (pathOf path s).length = path.length + 1 + s.length := by unfold pathOf; simp only [List.length_append, List.length_singleton]
    rcases List.mem_cons.1 hx with rfl | hx
    · refine ⟨f, [n.id], hdn, by simp, by rw [List.length_append, List.length_singleton]; omega, ?_⟩
      unfold oneF
      rw [List.filter_cons_of_neg (by
        rw [within_false]; · decide
        intro r e
        have := congrArg List.length e
        simp at this)]
      show List.filter _ (if Gw.Stamp.dir n.id = true then belowF l outs f n.id (pathOf path s) else []) = if Gw.Stamp.dir n.id = true then belowF l outs f n.id (pathOf path s) else []
      split
      · rw [List.filter_eq_self]
        intro it hi
        obtain ⟨m, _, _, r, e, _⟩ := belowF_from f it hi
        exact within_iff.2 ⟨_, e⟩
      · rfl
    · split at hx
      · rename_i hdir
        obtain ⟨g, ids', q1, q2, q3, q4⟩ := belowF_within hg f hdn (by rw [List.length_append, List.length_singleton]; omega) x hx
        refine ⟨g, n.id :: ids', by rw [List.append_assoc] at q1; exact q1, by simp, by rw [List.append_assoc] at q3; exact q3, ?_⟩
        rw [← q4]
        unfold oneF
        rw [if_pos hdir, List.filter_cons_of_neg]
        rw [within_false]
        · decide
        intro r e
        obtain ⟨m, _, _, hfr⟩ := belowF_from f x hx
        have h1 := hfr.longer
        have e : pathOf path s = x.path ++ 47 :: r := e
        rw [e] at h1
        simp only [List.length_append, List.length_cons] at h1
        omega
      · cases hx
theorem Way.end_in {l : List Node} {outs : List Int} {top : Int} {ids : List Int} {dir : Int} (h : Way l outs top ids dir) : dir = top ∨ dir ∈ ids := by
  cases h with
  | top => exact .inl rfl
  | down _ _ _ _ => exact .inr (List.mem_append.2 (.inr (List.mem_singleton.2 rfl)))
theorem Way.climb_in {l : List Node} (hc : Gw.Tree.check l = true) {outs : List Int} {top : Int} (htop : Gw.Tree.find l top = none) {ids : List Int} {dir : Int} (h : Way l outs top ids dir) : ∀ f, ∀ z ∈ Gw.Tree.climb l f dir, z = top ∨ z ∈ ids := by
  induction h with
  | top =>
    intro f z hz
    cases f with
    | zero => cases hz
    | succ f => rw [Gw.Tree.climb, htop] at hz; cases hz
  | down h hn hp ho ih =>
    rename_i ids0 dir0 n
    intro f z hz
    cases f with
    | zero => cases hz
    | succ f =>
      rw [Gw.Tree.climb, Gw.Tree.find_mem hc hn] at hz
      have hz : z ∈ (if n.parent = -1 then [] else n.parent :: Gw.Tree.climb l f n.parent) := hz
      split at hz
      · cases hz
      · rw [hp] at hz
        rcases List.mem_cons.1 hz with e | e
        · rw [e]
          exact h.end_in.imp id fun q => List.mem_append.2 (.inl q)
        · exact (ih f z e).imp id fun q => List.mem_append.2 (.inl q)
theorem above_in {l : List Node} {dir : Int} {z : Int} (h : z ∈ Gw.Tree.above l dir) : ∃ f, z ∈ Gw.Tree.climb l f dir := by
  unfold Gw.Tree.above at h
  split at h
  · exact ⟨_, h⟩
  · cases h
/-- What is seen below what is seen, is what is within its path. -/
theorem items_within {l : List Node} (hc : Gw.Tree.check l = true) (hg : ∀ n ∈ l, NodeOk n) (h0 : Gw.Tree.find l 0 = none) (hr : items l 0 = belowF l [0] l.length 0 []) {x : Item} (hx : x ∈ items l 0) :
    items l x.id = ((items l 0).filter fun it => within x.path it.path).map (cutI x.path.length) ∧ (Gw.Stamp.dir x.id = true ∨ items l x.id = []) := by
  have hn0 : ∀ n ∈ l, n.id ≠ 0 := fun n hn e => by
    have := Gw.Tree.find_mem hc hn
    rw [e, h0] at this
    cases this
  rw [hr] at hx
  obtain ⟨g, ids, q1, q2, q3, q4⟩ := belowF_within hg (top := 0) l.length (.top) (by omega) x hx
  rw [List.nil_append] at q1 q3
  have hin : ∀ z ∈ outsOf l x.id, z = 0 ∨ z ∈ ids := fun z hz => by
    unfold outsOf at hz
    rcases List.mem_cons.1 hz with rfl | hz
    · exact q1.end_in
    · obtain ⟨f, hf⟩ := above_in hz
      exact q1.climb_in hc h0 f z hf
  have hit : items l x.id = belowF l (outsOf l x.id) l.length x.id [] := by unfold items; rw [if_pos hc]
  by_cases hd : Gw.Stamp.dir x.id = true
  · refine ⟨?_, .inl hd⟩
    rw [hr, q4, if_pos hd]
    have e1 := belowF_pre l [0] x.path g x.id []
    rw [List.append_nil] at e1
    rw [e1, cut_pre, hit, ← belowF_outs hc (outs := [0]) (top := 0) (by simp) (fun n hn h => hn0 n hn (List.mem_singleton.1 h)) hn0 l.length q1 hin]
    exact belowF_enough hc (by simp) _ _ q1 (by omega) q3
  · have he : items l x.id = [] := by
      rw [hit]
      have : ∀ f, belowF l (outsOf l x.id) f x.id [] = [] := fun f => by
        cases f with
        | zero => rfl
        | succ f =>
          rw [belowF, show inner l (outsOf l x.id) x.id = [] from ?_, level_nil]
          refine List.eq_nil_iff_forall_not_mem.2 fun e he => ?_
          obtain ⟨_, h1, h2, _, _⟩ := inner_mem he
          obtain ⟨p1, p2, _⟩ := inDir_own h2
          have := ((hg _ h1).1 p2).1
          rw [p1] at this
          exact hd this
      exact this _
    refine ⟨?_, .inr he⟩
    rw [he, hr, q4, if_neg hd]
    rfl
theorem items_none {l : List Node} (hc : Gw.Tree.check l = true) (hn0 : ∀ n ∈ l, n.id ≠ 0) (hr : items l 0 = belowF l [0] l.length 0 []) (h : items l 0 = []) : list l 0 = [] := by
  unfold list
  rw [if_pos hc]
  rw [hr] at h
  cases hl : l.length with
  | zero =>
    rw [List.eq_nil_of_length_eq_zero hl]
    rfl
  | succ f =>
    rw [hl, belowF, inner_all (fun n hn _ h => hn0 n hn (List.mem_singleton.1 h))] at h
    unfold levelF at h
    rw [List.flatMap_eq_nil_iff] at h
    refine List.eq_nil_iff_forall_not_mem.2 fun s hs => ?_
    have := h s hs
    obtain ⟨e, he, rfl⟩ := List.mem_map.1 ((sortT_perm _).mem_iff.1 hs)
    unfold stepF at this
    rw [findM_of (seen_ok l 0).1.names (show (e.1, e.2.1, e.2.2) ∈ _ from he)] at this
    cases this
end Gw.View
