/- One file that is written, in plain Lean: no program in sight. -/
import Derived.Test.YtipgfdepopfghaaGreatDiffLaw
import Derived.Test.YtipgfdepopfghaaGreatMovedPl
namespace Gw.View
open Gw.Tree (Node)
open Gw.Op (Op)
theorem find_zero {l : List Node} (hc : Gw.Tree.check l = true) : Gw.Tree.find l 0 = none := by
  cases h : Gw.Tree.find l 0 with
  | none => rfl
  | some n =>
    obtain ⟨h1, h2, _⟩ := Gw.Tree.find_some h
    have := ((Gw.Tree.check_iff l).1 hc).1 n h1
    unfold Gw.Stamp.ok at this
    simp only [Bool.and_eq_true, decide_eq_true_eq] at this
    have := this.1
    omega
theorem ids_pos {l : List Node} (hc : Gw.Tree.check l = true) : ∀ n ∈ l, n.id ≠ 0 := fun n hn e => by
  have := Gw.Tree.find_mem hc hn
  rw [e, find_zero hc] at this
  cases this
theorem items_root {l : List Node} (hc : Gw.Tree.check l = true) : items l 0 = belowF l [0] l.length 0 [] := by
  have ha : Gw.Tree.above l 0 = [] := by
    unfold Gw.Tree.above
    rw [if_pos hc]
    cases l with
    | nil => rfl
    | cons n l => rw [List.length_cons, Gw.Tree.climb, find_zero hc]
  unfold items outsOf
  rw [if_pos hc, ha]
variable (o : Op)
/-- A node, written. -/
def updN (n : Node) : Node := if n.id = o.node then ⟨n.id, n.parent, n.name, n.moved, o.data, o.at_⟩ else n
def updI (it : Item) : Item := if it.id = o.node then ⟨it.path, it.id, o.data⟩ else it
theorem updN_keeps (n : Node) : (updN o n).id = n.id ∧ (updN o n).parent = n.parent ∧ (updN o n).name = n.name ∧ (updN o n).moved = n.moved := by
  unfold updN
  split <;> exact ⟨rfl, rfl, rfl, rfl⟩
def updM (m : M) : M := m.map fun e => (e.1, e.2.1, updN o e.2.2)
theorem findM_upd (k : List UInt8) : ∀ m : M, findM k (updM o m) = (findM k m).map (updN o)
  | [] => rfl
  | e :: m => by
    show (if e.2.1 = k then some (updN o e.2.2) else findM k (updM o m)) = _
    rw [findM, findM_upd k m]
    split <;> rfl
theorem putM_upd (k : List UInt8) (n : Node) : ∀ m : M, putM k (updN o n) (updM o m) = (putM k n m).map (updM o)
  | [] => rfl
  | e :: m => by
    show (if e.2.1 = k then some ((e.1, e.2.1, updN o n) :: updM o m) else match putM k (updN o n) (updM o m) with | some l => some ((e.1, e.2.1, updN o e.2.2) :: l) | none => none) = _
    rw [putM, putM_upd k n m]
    by_cases h : e.2.1 = k
    · rw [if_pos h, if_pos h]; rfl
    · rw [if_neg h, if_neg h]
      cases putM k n m <;> rfl
theorem step_upd (dir : Int) (x : Nat × M) (n : Node) : seenStep dir (x.1, updM o x.2) (updN o n) = ((seenStep dir x n).1, updM o (seenStep dir x n).2) := by
  obtain ⟨_, k2, k3, k4⟩ := updN_keeps o n
  have hi : inDir (updN o n) dir = inDir n dir := by unfold inDir; rw [k2, k4]
  have hb : beats (updN o n) (updM o x.2) = beats n x.2 := by
    unfold beats
    rw [k3, findM_upd, k4]
    cases findM n.name x.2 with
    | none => rfl
    | some old => show (!Gw.Stamp.less n.moved (updN o old).moved) = _; rw [(updN_keeps o old).2.2.2]
  unfold seenStep
  rw [hi, hb]
  split
  · split
    · unfold setM
      rw [k3]
      show (match putM n.name (updN o n) (updM o x.2) with | some m => (x.1, m) | none => (x.1 + 1, updM o x.2 ++ [(x.1, n.name, updN o n)])) = _
      rw [putM_upd]
      cases putM n.name n x.2 with
      | none =>
        show (x.1 + 1, updM o x.2 ++ [(x.1, n.name, updN o n)]) = (x.1 + 1, updM o (x.2 ++ [(x.1, n.name, n)]))
        unfold updM
        rw [List.map_append]
        rfl
      | some m => rfl
    · rfl
  · rfl
theorem fold_upd (dir : Int) : ∀ (l : List Node) (x : Nat × M), (l.map (updN o)).foldl (seenStep dir) (x.1, updM o x.2) = ((l.foldl (seenStep dir) x).1, updM o (l.foldl (seenStep dir) x).2)
  | [], _ => rfl
  | n :: l, x => by
    rw [List.map_cons, List.foldl_cons, List.foldl_cons, step_upd]
    exact fold_upd dir l (seenStep dir x n)
theorem seen_done {l : List Node} (hc : Gw.Tree.check l = true) (hm : Gw.Tree.may l o = true) (hk : o.kind ≠ 1) (dir : Int) : seen (Gw.Tree.done l o) dir = ((seen l dir).1, updM o (seen l dir).2) := by
  have hlow : ∀ n ∈ l.take (Gw.Tree.pos l o.node), updN o n = n := fun n hn => by
    have := Gw.Tree.low_take n hn
    unfold updN
    rw [if_neg (by omega)]
  have hhigh : ∀ n ∈ l.drop (Gw.Tree.upto l o.node), updN o n = n := fun n hn => by
    have := Gw.Tree.high_drop hc n hn
    unfold updN
    rw [if_neg (by omega)]
  have e1 : (l.take (Gw.Tree.pos l o.node)).map (updN o) = l.take (Gw.Tree.pos l o.node) := by
    conv => rhs; rw [← List.map_id (l.take (Gw.Tree.pos l o.node))]
    exact List.map_congr_left hlow
  have e2 : (l.drop (Gw.Tree.upto l o.node)).map (updN o) = l.drop (Gw.Tree.upto l o.node) := by
    conv => rhs; rw [← List.map_id (l.drop (Gw.Tree.upto l o.node))]
    exact List.map_congr_left hhigh
  have hd : Gw.Tree.done l o = l.take (Gw.Tree.pos l o.node) ++ [Gw.Tree.turned ((Gw.Tree.find l o.node).getD (Gw.Tree.freshN o.node)) o] ++ l.drop (Gw.Tree.upto l o.node) := by
    unfold Gw.Tree.done
    rw [if_pos hm]
  have hfold := fold_upd o dir l (0, [])
  have hseen : seen (l.map (updN o)) dir = ((seen l dir).1, updM o (seen l dir).2) := hfold
  cases hf : Gw.Tree.find l o.node with
  | some n =>
    rw [hf] at hd
    obtain ⟨h1, h2, hp, h3⟩ := Gw.Tree.find_some hf
    have hup : Gw.Tree.upto l o.node = Gw.Tree.pos l o.node + 1 := by
      unfold Gw.Tree.upto
      rw [Gw.Tree.had_find, hf]
      rfl
    have e3 : l.map (updN o) = Gw.Tree.done l o := by
      rw [hd]
      conv => lhs; rw [← List.take_append_drop (Gw.Tree.pos l o.node) l, List.drop_eq_getElem_cons hp, ← hup, h3]
      rw [List.map_append, List.map_cons, e1, e2, List.append_assoc]
      congr 2
      show updN o n = Gw.Tree.turned n o
      unfold updN Gw.Tree.turned
      rw [if_pos h2, if_neg hk]
    rw [← e3, hseen]
  | none =>
    rw [hf] at hd
    have hup : Gw.Tree.upto l o.node = Gw.Tree.pos l o.node := by
      unfold Gw.Tree.upto
      rw [Gw.Tree.had_find, hf]
      rfl
    have e3 : l.map (updN o) = l := by
      conv => lhs; rw [← List.take_append_drop (Gw.Tree.pos l o.node) l, ← hup]
      rw [List.map_append, e2, hup, e1, List.take_append_drop]
    have hnot : inDir (Gw.Tree.turned (Gw.Tree.freshN o.node) o) dir = false := by
      unfold inDir Gw.Tree.turned
      rw [if_neg hk]
      show (decide _ && Gw.Stamp.check ⟨0, 0⟩) = false
      rw [Bool.and_eq_false_iff]
      exact .inr (by decide)
    rw [e3] at hseen
    rw [← hseen]
    show seen (Gw.Tree.done l o) dir = seen l dir
    rw [hd, hup]
    show (l.take _ ++ [Gw.Tree.turned (Gw.Tree.freshN o.node) o] ++ l.drop _).foldl (seenStep dir) (0, []) = _
    rw [List.foldl_append, List.foldl_append, List.foldl_cons, List.foldl_nil]
    have hs : ∀ x, seenStep dir x (Gw.Tree.turned (Gw.Tree.freshN o.node) o) = x := fun x => by
      unfold seenStep
      rw [hnot]
      rfl
    rw [hs, ← List.foldl_append, List.take_append_drop]
    rfl
theorem inner_done {l : List Node} (hc : Gw.Tree.check l = true) (hm : Gw.Tree.may l o = true) (hk : o.kind ≠ 1) (outs : List Int) (dir : Int) : inner (Gw.Tree.done l o) outs dir = updM o (inner l outs dir) := by
  unfold inner
  rw [seen_done o hc hm hk]
  show (updM o (seen l dir).2).filter _ = _
  unfold updM
  rw [List.filter_map]
  congr 1
  apply List.filter_congr
  intro e _
  show (!outs.contains (updN o e.2.2).id) = _
  rw [(updN_keeps o e.2.2).1]
theorem below_done {l : List Node} (hc : Gw.Tree.check l = true) (hm : Gw.Tree.may l o = true) (hk : o.kind ≠ 1) (outs : List Int) : ∀ (f : Nat) (dir : Int) (path : List UInt8), belowF (Gw.Tree.done l o) outs f dir path = (belowF l outs f dir path).map (updI o)
  | 0, _, _ => rfl
  | f + 1, dir, path => by
    rw [belowF, belowF, inner_done o hc hm hk]
    unfold levelF
    have en : (updM o (inner l outs dir)).map (·.2.1) = (inner l outs dir).map (·.2.1) := by unfold updM; rw [List.map_map]; rfl
    rw [en, List.map_flatMap]
    refine flat_congr _ fun s _ => ?_
    unfold stepF
    rw [findM_upd]
    cases hf : findM s (inner l outs dir) with
    | none => rfl
    | some n =>
      show oneF (belowF (Gw.Tree.done l o) outs f) path s (updN o n) = (oneF (belowF l outs f) path s n).map (updI o)
      unfold oneF
      rw [(updN_keeps o n).1, List.map_cons]
      refine List.cons_eq_cons.2 ⟨?_, ?_⟩
      · unfold updI updN
        by_cases h : n.id = o.node
        · rw [if_pos h, if_pos h]
        · rw [if_neg h, if_neg h]
      · split
        · exact below_done hc hm hk outs f n.id _
        · rfl
/-- What is seen when a file was written. -/
theorem items_done {l : List Node} (hc : Gw.Tree.check l = true) (hm : Gw.Tree.may l o = true) (hk : o.kind ≠ 1) : items (Gw.Tree.done l o) 0 = (items l 0).map (updI o) := by
  rw [items_root (Gw.Tree.done_check hc o), items_root hc, below_done o hc hm hk]
  congr 1
  have hl : l.length ≤ (Gw.Tree.done l o).length := by
    unfold Gw.Tree.done
    rw [if_pos hm, List.length_append, List.length_append, List.length_take, List.length_drop, List.length_singleton]
    have h1 := Gw.Tree.pos_le l o.node
    unfold Gw.Tree.upto
    split <;> omega
  exact belowF_enough hc (outs := [0]) (top := 0) (by simp) _ _ .top (by omega) (by omega)
end Gw.View
namespace Gw.Diff
open Gw.View (Item updI)
open Gw.Op (Op)
theorem updI_keeps (o : Op) (it : Item) : (updI o it).path = it.path ∧ (updI o it).id = it.id := by
  unfold updI
  split <;> exact ⟨rfl, rfl⟩
/-- What has changed when a file was written. -/
theorem one_event (o : Op) {I : List Item} (hu : Unlike I) (hid : I.Pairwise fun a b => a.id ≠ b.id) : (ofI I (I.map (updI o))).length ≤ 1 ∧ ∀ e ∈ ofI I (I.map (updI o)), e.kind = 3 ∧ ∃ it ∈ I, it.id = o.node ∧ it.path = e.path ∧ it.data ≠ o.data := by
  have hu' : Unlike (I.map (updI o)) := by
    unfold Unlike
    rw [List.pairwise_map]
    exact hu.imp fun {a b} h => by rw [(updI_keeps o a).1, (updI_keeps o b).1]; exact h
  have s1 : ∀ t ∈ I, sameAt (I.map (updI o)) t = true := fun t ht => (same_iff hu').2 ⟨_, List.mem_map.2 ⟨t, ht, rfl⟩, (updI_keeps o t).1, (updI_keeps o t).2⟩
  have s2 : ∀ t ∈ I.map (updI o), sameAt I t = true := fun t ht => by
    obtain ⟨x, hx, rfl⟩ := List.mem_map.1 ht
    exact (same_iff hu).2 ⟨x, hx, (updI_keeps o x).1.symm, (updI_keeps o x).2.symm⟩
  have hg : gone I (I.map (updI o)) = [] := List.eq_nil_iff_forall_not_mem.2 fun e he => by
    obtain ⟨t, ht, hf, _⟩ := mem_gone.1 he
    rw [s1 t ht] at hf; cases hf
  have hcm : came I (I.map (updI o)) = [] := List.eq_nil_iff_forall_not_mem.2 fun e he => by
    obtain ⟨t, ht, hf, _⟩ := mem_came.1 he
    rw [s2 t ht] at hf; cases hf
  have hof : ofI I (I.map (updI o)) = wrote I (I.map (updI o)) := by unfold ofI; rw [hg, hcm]; rfl
  have hw : ∀ t ∈ I.map (updI o), wroteAt I t = true → ∃ it ∈ I, it.id = o.node ∧ it.path = t.path ∧ it.data ≠ o.data ∧ t.id = o.node := fun t ht hf => by
    obtain ⟨y, hy, k0⟩ := List.mem_map.1 ht
    obtain ⟨x, k1, k2, k3, k4⟩ := (wrote_iff hu).1 hf
    have hxy : x = y := unlike_eq hu k1 hy (by rw [k2, ← k0, (updI_keeps o y).1])
    subst hxy
    by_cases h : x.id = o.node
    · refine ⟨x, k1, h, k2, ?_, by rw [← k3]; exact h⟩
      rw [← k0] at k4
      unfold updI at k4
      rw [if_pos h] at k4
      exact k4
    · rw [← k0] at k4
      unfold updI at k4
      rw [if_neg h] at k4
      exact absurd rfl k4
  rw [hof]
  refine ⟨?_, fun e he => ?_⟩
  · unfold wrote
    rw [List.length_map]
    have hp : ((I.map (updI o)).filter fun t => wroteAt I t).Pairwise fun a b => a.id ≠ b.id := by
      refine List.Pairwise.sublist List.filter_sublist ?_
      rw [List.pairwise_map]
      exact hid.imp fun {a b} h => by rw [(updI_keeps o a).2, (updI_keeps o b).2]; exact h
    have hall : ∀ t ∈ (I.map (updI o)).filter fun t => wroteAt I t, t.id = o.node := fun t ht => by
      obtain ⟨h1, h2⟩ := List.mem_filter.1 ht
      obtain ⟨_, _, _, _, _, h⟩ := hw t h1 h2
      exact h
    generalize (I.map (updI o)).filter (fun t => wroteAt I t) = L at hp hall
    match L with
    | [] => exact Nat.zero_le _
    | [_] => exact Nat.le_refl _
    | a :: b :: L =>
      exfalso
      exact (List.pairwise_cons.1 hp).1 b List.mem_cons_self ((hall a List.mem_cons_self).trans (hall b (List.mem_cons_of_mem _ List.mem_cons_self)).symm)
  · obtain ⟨t, ht, hf, rfl⟩ := mem_wrote.1 he
    obtain ⟨it, h1, h2, h3, h4, _⟩ := hw t ht hf
    exact ⟨rfl, it, h1, h2, h3, h4⟩
end Gw.Diff
