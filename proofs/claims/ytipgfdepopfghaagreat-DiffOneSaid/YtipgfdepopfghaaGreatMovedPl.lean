/- What was moved last is seen, and what is below what is seen, in plain Lean: no program in sight. -/
import Derived.Test.YtipgfdepopfghaaGreatFindsPl
import Derived.Test.YtipgfdepopfghaaGreatViewPl
namespace Gw.Tree
open Gw.Op (Op)
theorem mem_done {l : List Node} (hc : check l = true) {o : Op} (hm : may l o = true) {n : Node} : n ∈ done l o ↔ (n ∈ l ∧ n.id ≠ o.node) ∨ n = turned ((find l o.node).getD (freshN o.node)) o := by
  have hid := got_id l o
  unfold done
  rw [if_pos hm]
  constructor
  · intro h
    rcases List.mem_append.1 h with h | h
    · rcases List.mem_append.1 h with h | h
      · have := low_take n h
        exact .inl ⟨List.mem_of_mem_take h, by omega⟩
      · rw [List.mem_singleton] at h; exact .inr h
    · have := high_drop hc n h
      exact .inl ⟨List.mem_of_mem_drop h, by omega⟩
  · rintro (⟨h, hne⟩ | h)
    · have hs : l = l.take (pos l o.node) ++ l.drop (pos l o.node) := (List.take_append_drop _ _).symm
      rw [hs] at h
      rcases List.mem_append.1 h with h | h
      · exact List.mem_append.2 (.inl (List.mem_append.2 (.inl h)))
      · refine List.mem_append.2 (.inr ?_)
        unfold upto
        split
        · rename_i hh
          have hp : pos l o.node < l.length := by
            rcases Nat.lt_or_ge (pos l o.node) l.length with h | h
            · exact h
            · unfold had at hh
              rw [List.getElem?_eq_none h] at hh
              cases hh
          rw [List.drop_eq_getElem_cons hp] at h
          rcases List.mem_cons.1 h with h | h
          · unfold had at hh
            rw [List.getElem?_eq_getElem hp] at hh
            exact absurd (by rw [h]; exact of_decide_eq_true hh) hne
          · exact h
        · exact h
    · exact List.mem_append.2 (.inl (List.mem_append.2 (.inr (List.mem_singleton.2 h))))
end Gw.Tree
namespace Gw.View
open Gw.Tree (Node)
open Gw.Stamp (Stamp)
/-- What is seen by a name: none other was moved behind it, and of those that were moved at its time it has the greatest number. -/
def Tops (l : List Node) (dir : Int) (s : List UInt8) (n : Node) : Prop := n ∈ l ∧ inDir n dir = true ∧ n.name = s ∧ ∀ m ∈ l, inDir m dir = true → m.name = s → Gw.Stamp.less n.moved m.moved = false ∧ (Gw.Stamp.less m.moved n.moved = true ∨ m.id ≤ n.id)
theorem stamp_cases (a b c : Stamp) (h : Gw.Stamp.less a b = false) (k : Gw.Stamp.less c b = true) : Gw.Stamp.less c a = true := by
  unfold Gw.Stamp.less at *
  rw [Bool.eq_false_iff] at h
  simp only [ne_eq, Bool.or_eq_true, Bool.and_eq_true, decide_eq_true_eq] at *
  omega
theorem best_top (dir : Int) (s : List UInt8) : ∀ (l : List Node) (r : Option Node) (seen : List Node), (seen ++ l).Pairwise (fun a b => a.id < b.id) →
    (∀ n, r = some n → Tops seen dir s n) → (r = none → ∀ m ∈ seen, inDir m dir = true → m.name = s → False) → ∀ n, l.foldl (better dir s) r = some n → Tops (seen ++ l) dir s n
  | [], r, seen, _, h1, _, n, h => by
    rw [List.append_nil]
    exact h1 n h
  | a :: l, r, seen, hp, h1, h2, n, h => by
    have hstep := best_top dir s l (better dir s r a) (seen ++ [a]) (by rw [List.append_assoc]; exact hp) ?_ ?_ n h
    · rw [List.append_assoc] at hstep
      exact hstep
    · intro n hn
      have hlt : ∀ m ∈ seen, m.id < a.id := fun m hm => (List.pairwise_append.1 hp).2.2 m hm a List.mem_cons_self
      unfold better at hn
      split at hn
      · rename_i hc
        cases hn
        simp only [Bool.and_eq_true, decide_eq_true_eq] at hc
        refine ⟨List.mem_append.2 (.inr List.mem_cons_self), hc.1, hc.2.1, fun m hm hi hs => ?_⟩
        rcases List.mem_append.1 hm with hm | hm
        · have := hlt m hm
          refine ⟨?_, .inr (by omega)⟩
          cases hr : r with
          | none => exact (h2 hr m hm hi hs).elim
          | some old =>
            have ho := hc.2.2
            rw [hr] at ho
            simp only [over, Bool.not_eq_true'] at ho
            exact stamp_ntrans ho ((h1 old hr).2.2.2 m hm hi hs).1
        · rw [List.mem_singleton] at hm
          subst hm
          exact ⟨stamp_irrefl _, .inr (Int.le_refl _)⟩
      · rename_i hc
        obtain ⟨k1, k2, k3, k4⟩ := h1 n hn
        refine ⟨List.mem_append.2 (.inl k1), k2, k3, fun m hm hi hs => ?_⟩
        rcases List.mem_append.1 hm with hm | hm
        · exact k4 m hm hi hs
        · rw [List.mem_singleton] at hm
          subst hm
          rw [hn, hi, decide_eq_true hs, Bool.true_and, Bool.true_and] at hc
          simp only [over, Bool.not_eq_true', Bool.not_eq_false] at hc
          refine ⟨?_, .inl hc⟩
          unfold Gw.Stamp.less at hc ⊢
          rw [Bool.eq_false_iff]
          simp only [ne_eq, Bool.or_eq_true, Bool.and_eq_true, decide_eq_true_eq] at hc ⊢
          omega
    · intro hn m hm hi hs
      unfold better at hn
      split at hn
      · cases hn
      · rename_i hc
        rcases List.mem_append.1 hm with hm | hm
        · exact h2 hn m hm hi hs
        · rw [List.mem_singleton] at hm
          subst hm
          rw [hn, hi, decide_eq_true hs, Bool.true_and, Bool.true_and] at hc
          exact hc rfl
theorem child_top {l : List Node} {dir : Int} {s : List UInt8} {n : Node} (h : child l dir s = some n) : Tops l dir s n := by
  unfold child at h
  split at h
  · rename_i hc
    rw [seen_find] at h
    have := best_top dir s l none [] (by rw [List.nil_append]; exact ((Gw.Tree.check_iff l).1 hc).2) (fun n hn => by cases hn) (fun _ m hm => by cases hm) n h
    rwa [List.nil_append] at this
  · cases h
theorem tops_same {l : List Node} (hc : Gw.Tree.check l = true) {dir : Int} {s : List UInt8} {n m : Node} (h : Tops l dir s n) (k : Tops l dir s m) : n = m := by
  have h1 := h.2.2.2 m k.1 k.2.1 k.2.2.1
  have h2 := k.2.2.2 n h.1 h.2.1 h.2.2.1
  have e : n.id = m.id := by
    rcases h1.2 with q | q
    · rw [h2.1] at q; cases q
    · rcases h2.2 with p | p
      · rw [h1.1] at p; cases p
      · omega
  have e1 := Gw.Tree.find_mem hc h.1
  have e2 := Gw.Tree.find_mem hc k.1
  rw [e, e2] at e1
  exact (Option.some.inj e1).symm
theorem child_of_top {l : List Node} (hc : Gw.Tree.check l = true) {dir : Int} {s : List UInt8} {n : Node} (h : Tops l dir s n) : child l dir s = some n := by
  obtain ⟨m, hm⟩ := child_some hc h.1 h.2.1
  rw [h.2.2.1] at hm
  rw [hm, tops_same hc h (child_top hm)]
/-- What is above the end of a way. -/
theorem Way.climbs {l : List Node} (hc : Gw.Tree.check l = true) {outs : List Int} {top : Int} (htop : top ≠ -1) {ids : List Int} {dir : Int} (h : Way l outs top ids dir) : ∀ f, ids.length ≤ f → ∀ i ∈ ids, i = dir ∨ i ∈ Gw.Tree.climb l f dir := by
  induction h with
  | top => intro f _ i hi; cases hi
  | down h hn hp ho ih =>
    rename_i ids0 dir0 n
    intro f hf i hi
    rw [List.length_append, List.length_singleton] at hf
    obtain ⟨f, rfl⟩ : ∃ g, f = g + 1 := ⟨f - 1, by omega⟩
    rcases List.mem_append.1 hi with hi | hi
    · right
      have hpar : n.parent ≠ -1 := by
        rw [hp]
        cases h with
        | top => exact htop
        | down _ hn' _ _ =>
          have := Gw.Tree.check_iff l |>.1 hc |>.1 _ hn'
          unfold Gw.Stamp.ok at this
          simp only [Bool.and_eq_true, decide_eq_true_eq] at this
          have := this.1
          omega
      rw [Gw.Tree.climb, Gw.Tree.find_mem hc hn]
      show i ∈ (if n.parent = -1 then [] else n.parent :: Gw.Tree.climb l f n.parent)
      rw [if_neg hpar, hp]
      rcases ih f (by omega) i hi with e | e
      · rw [e]; exact List.mem_cons_self
      · exact List.mem_cons_of_mem _ e
    · rw [List.mem_singleton] at hi
      exact .inl hi
/-- A way that a path goes. -/
theorem findF_way {l : List Node} {outs : List Int} (hout : ∀ n ∈ l, n.id ∈ outs → False) {top : Int} : ∀ (names : List (List UInt8)) {ids : List Int} {at_ id : Int}, Way l outs top ids at_ → findF l at_ names = (id, 0) → ∃ suf, Way l outs top (ids ++ suf) id ∧ suf.length = names.length
  | [], ids, at_, id, hw, h => by
    rw [findF] at h
    cases h
    exact ⟨[], by rw [List.append_nil]; exact hw, rfl⟩
  | s :: r, ids, at_, id, hw, h => by
    rw [findF] at h
    by_cases hd : Gw.Stamp.dir at_ = true
    · rw [if_pos hd] at h
      cases hch : child l at_ s with
      | none => rw [hch] at h; simp at h
      | some n =>
        rw [hch] at h
        obtain ⟨h1, h2, h3⟩ := child_mem hch
        obtain ⟨suf, q1, q2⟩ := findF_way hout r (Way.down hw h1 (inDir_own h2).1 (fun h => hout n h1 h)) h
        exact ⟨n.id :: suf, by rw [List.append_assoc] at q1; exact q1, by rw [List.length_cons, List.length_cons, q2]⟩
    · rw [if_neg hd] at h
      simp at h
/-- A way stays where another node goes elsewhere. -/
theorem findF_stays {l : List Node} (hc : Gw.Tree.check l = true) {o : Gw.Op.Op} (hm : Gw.Tree.may l o = true) (hk : o.kind = 1) {outs : List Int} {top : Int} (ht : top ∈ outs) (hout : ∀ n ∈ l, n.id ∈ outs → False) :
    ∀ (names : List (List UInt8)) {ids : List Int} {at_ : Int}, Way l outs top ids at_ → findF l at_ names = (o.parent, 0) → (∀ suf, Way l outs top (ids ++ suf) o.parent → o.node ∉ suf) → findF (Gw.Tree.done l o) at_ names = (o.parent, 0)
  | [], _, _, _, h, _ => h
  | s :: r, ids, at_, hw, h, hno => by
    rw [findF] at h ⊢
    by_cases hd : Gw.Stamp.dir at_ = true
    · rw [if_pos hd] at h ⊢
      cases hch : child l at_ s with
      | none => rw [hch] at h; simp at h
      | some n =>
        rw [hch] at h
        obtain ⟨h1, h2, h3⟩ := child_mem hch
        have hdn := Way.down hw h1 (inDir_own h2).1 (fun h => hout n h1 h)
        obtain ⟨suf, q1, q2⟩ := findF_way hout r hdn h
        have q1' : Way l outs top (ids ++ (n.id :: suf)) o.parent := by rw [List.append_assoc] at q1; exact q1
        have hne : n.id ≠ o.node := fun e => hno _ q1' (by rw [e]; exact List.mem_cons_self)
        have hat : at_ ≠ o.parent := fun e => by
          rw [e] at hw
          have := congrArg List.length (hw.same hc ht q1')
          simp at this
        have htop := child_top hch
        have hch' : child (Gw.Tree.done l o) at_ s = some n := by
          refine child_of_top (Gw.Tree.done_check hc o) ⟨(Gw.Tree.mem_done hc hm).2 (.inl ⟨h1, hne⟩), h2, h3, fun m hmm hi hs => ?_⟩
          rcases (Gw.Tree.mem_done hc hm).1 hmm with ⟨q, _⟩ | q
          · exact htop.2.2.2 m q hi hs
          · exfalso
            have := (inDir_own hi).1
            rw [q] at this
            unfold Gw.Tree.turned at this
            rw [if_pos hk] at this
            exact hat this.symm
        rw [hch']
        exact findF_stays hc hm hk ht hout r hdn h (fun suf' hw' hin => hno (n.id :: suf') (by rw [List.append_assoc] at hw'; exact hw') (List.mem_cons_of_mem _ hin))
    · rw [if_neg hd] at h
      simp at h
theorem findF_app (l : List Node) : ∀ (a b : List (List UInt8)) (at_ id : Int), findF l at_ a = (id, 0) → findF l at_ (a ++ b) = findF l id b
  | [], b, at_, id, h => by rw [findF] at h; cases h; rfl
  | s :: r, b, at_, id, h => by
    rw [List.cons_append]
    rw [findF] at h ⊢
    by_cases hd : Gw.Stamp.dir at_ = true
    · rw [if_pos hd] at h ⊢
      cases hch : child l at_ s with
      | none => rw [hch] at h; simp at h
      | some n =>
        rw [hch] at h
        exact findF_app l r b n.id id h
    · rw [if_neg hd] at h
      simp at h
/-- What was moved behind all others is seen where it went. -/
theorem moved_seen {l : List Node} (hc : Gw.Tree.check l = true) (h0 : ∀ n ∈ l, n.id ≠ 0) {o : Gw.Op.Op} (hm : Gw.Tree.may l o = true) (hk : o.kind = 1) (hlast : ∀ n ∈ l, Gw.Stamp.less n.moved o.at_ = true) {names : List (List UInt8)} (hf : find l names = (o.parent, 0)) :
    ∃ n, child (Gw.Tree.done l o) o.parent o.name = some n ∧ n.id = o.node ∧ find (Gw.Tree.done l o) (names ++ [o.name]) = (o.node, 0) := by
  have hout : ∀ n ∈ l, n.id ∈ [(0 : Int)] → False := fun n hn h => by rw [List.mem_singleton] at h; exact h0 n hn h
  obtain ⟨_, hoc, _⟩ := Gw.Tree.may_ok hm
  have hloop : Gw.Tree.loops l o = false := by
    unfold Gw.Tree.may at hm
    rw [decide_eq_true hk] at hm
    simp only [Bool.and_eq_true, Bool.not_eq_true', Bool.true_and] at hm
    exact hm.2.2
  unfold Gw.Tree.loops at hloop
  rw [Bool.or_eq_false_iff] at hloop
  have hne := of_decide_eq_false hloop.1
  have hcl : o.node ∉ Gw.Tree.climb l l.length o.parent := by
    have := hloop.2
    intro h
    rw [List.contains_iff_mem.2 h] at this
    cases this
  have hst : Gw.Stamp.check o.at_ = true ∧ Gw.Stamp.dir o.parent = true := by
    unfold Gw.Op.check at hoc
    rw [if_pos hk] at hoc
    simp only [Bool.and_eq_true] at hoc
    have h2 := hoc.2.2
    unfold Gw.Op.fitsMove at h2
    simp only [Bool.and_eq_true] at h2
    exact ⟨hoc.1, h2.2.1⟩
  have hid := Gw.Tree.got_id l o
  generalize ht : Gw.Tree.turned ((Gw.Tree.find l o.node).getD (Gw.Tree.freshN o.node)) o = t at hid
  have htp : t.parent = o.parent ∧ t.name = o.name ∧ t.moved = o.at_ := by
    rw [← ht]
    unfold Gw.Tree.turned
    rw [if_pos hk]
    exact ⟨rfl, rfl, rfl⟩
  have hmem := fun n => Gw.Tree.mem_done hc hm (n := n)
  rw [ht] at hmem
  have hch : child (Gw.Tree.done l o) o.parent o.name = some t := by
    refine child_of_top (Gw.Tree.done_check hc o) ⟨(hmem t).2 (.inr rfl), ?_, htp.2.1, fun m hmm hi hs => ?_⟩
    · unfold inDir
      rw [decide_eq_true htp.1, htp.2.2, hst.1]
      rfl
    · rcases (hmem m).1 hmm with ⟨q, _⟩ | q
      · have := hlast m q
        rw [htp.2.2]
        refine ⟨?_, .inl this⟩
        unfold Gw.Stamp.less at this ⊢
        rw [Bool.eq_false_iff]
        simp only [ne_eq, Bool.or_eq_true, Bool.and_eq_true, decide_eq_true_eq] at this ⊢
        omega
      · rw [q]
        exact ⟨stamp_irrefl _, .inr (Int.le_refl _)⟩
  refine ⟨t, hch, hid, ?_⟩
  have hw0 : Way l [0] 0 [] 0 := .top
  have hstay := findF_stays hc hm hk (outs := [0]) (top := 0) (by simp) hout names hw0 hf (fun suf hw hin => by
    rw [List.nil_append] at hw
    rcases hw.climbs hc (by decide) l.length (hw.len hc (by simp)) _ hin with e | e
    · exact hne e.symm
    · exact hcl e)
  unfold find
  rw [findF_app _ _ _ _ _ hstay, findF, if_pos hst.2, hch]
  show findF _ t.id [] = _
  rw [findF, hid]
end Gw.View
