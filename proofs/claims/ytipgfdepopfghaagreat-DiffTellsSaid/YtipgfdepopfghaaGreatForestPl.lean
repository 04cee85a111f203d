/- Nodes that operations make, and what is seen of them, in plain Lean: no program in sight. -/
import Derived.Test.YtipgfdepopfghaaGreatViewPl
import Derived.Test.YtipgfdepopfghaaGreatTreePl
import Derived.Test.YtipgfdepopfghaaGreatNameLaw2
namespace Gw.Tree
open Gw.Op (Op)
theorem check_iff (l : List Node) : check l = true ↔ (∀ n ∈ l, Gw.Stamp.ok n.id = true) ∧ l.Pairwise fun a b => a.id < b.id := by
  constructor
  · intro h
    refine ⟨fun n hn => ?_, List.pairwise_iff_getElem.2 fun i j hi hj hij => check_lt h hij hj⟩
    obtain ⟨k, hk, rfl⟩ := List.getElem_of_mem hn
    exact check_ok h hk
  · rintro ⟨h1, h2⟩
    refine List.all_eq_true.2 fun k hk => ?_
    have hk := List.mem_range.1 hk
    unfold mayAt
    rw [List.getElem?_eq_getElem hk]
    show (Gw.Stamp.ok l[k].id && prevOk l l[k].id k) = true
    rw [h1 _ (List.getElem_mem hk), Bool.true_and]
    cases k with
    | zero => rfl
    | succ j =>
      show (match l[j]? with | none => false | some p => decide (p.id < l[j + 1].id)) = true
      rw [List.getElem?_eq_getElem (show j < l.length by omega)]
      exact decide_eq_true (List.pairwise_iff_getElem.1 h2 j (j + 1) (by omega) hk (Nat.lt_succ_self j))
theorem may_ok {l : List Node} {o : Op} (h : may l o = true) : check l = true ∧ Gw.Op.check o = true ∧ Gw.Stamp.ok o.node = true := by
  unfold may at h
  simp only [Bool.and_eq_true] at h
  refine ⟨h.1, h.2.1, ?_⟩
  have h2 := h.2.1
  unfold Gw.Op.check at h2
  split at h2
  · simp only [Bool.and_eq_true] at h2
    have := h2.2.2
    unfold Gw.Op.fitsMove at this
    simp only [Bool.and_eq_true] at this
    exact this.1
  · split at h2
    · simp only [Bool.and_eq_true] at h2
      have := h2.2.2
      unfold Gw.Op.fitsWrite at this
      simp only [Bool.and_eq_true] at this
      exact this.1
    · cases h2
theorem low_take {l : List Node} {id : Int} : ∀ a ∈ l.take (pos l id), a.id < id := fun a ha => by
  obtain ⟨k, hk, rfl⟩ := List.getElem_of_mem ha
  rw [List.length_take] at hk
  obtain ⟨_, h⟩ := pos_low (l := l) (id := id) (k := k) (by omega)
  rw [List.getElem_take]
  exact h
theorem high_drop {l : List Node} (hc : check l = true) {id : Int} : ∀ b ∈ l.drop (upto l id), id < b.id := fun b hb => by
  obtain ⟨k, hk, rfl⟩ := List.getElem_of_mem hb
  rw [List.length_drop] at hk
  rw [List.getElem_drop]
  have hp : pos l id < l.length := by unfold upto at hk; split at hk <;> omega
  have h1 := pos_at hp
  have hh : had l id = decide (l[pos l id].id = id) := by unfold had; rw [List.getElem?_eq_getElem hp]
  by_cases hd : had l id = true
  · have e : l[pos l id].id = id := by rw [hh] at hd; exact of_decide_eq_true hd
    have e2 : upto l id = pos l id + 1 := by unfold upto; rw [if_pos hd]
    have := check_lt hc (show pos l id < upto l id + k by omega) (by omega)
    omega
  · have e : l[pos l id].id ≠ id := fun e => hd (by rw [hh]; exact decide_eq_true e)
    have e2 : upto l id = pos l id := by unfold upto; rw [if_neg hd]
    by_cases hk0 : k = 0
    · subst hk0
      have e3 : upto l id + 0 = pos l id := e2
      simp only [e3]
      omega
    · have := check_lt hc (show pos l id < upto l id + k by omega) (by omega)
      omega
theorem got_id (l : List Node) (o : Op) : (turned ((find l o.node).getD (freshN o.node)) o).id = o.node := by
  rw [turned_id]
  cases hf : find l o.node with
  | none => rfl
  | some m => exact (find_some hf).2.1
theorem done_check {l : List Node} (hc : check l = true) (o : Op) : check (done l o) = true := by
  by_cases hm : may l o = true
  · obtain ⟨_, _, hok⟩ := may_ok hm
    obtain ⟨h1, h2⟩ := (check_iff l).1 hc
    unfold done
    rw [if_pos hm]
    have hid := got_id l o
    refine (check_iff _).2 ⟨fun n hn => ?_, ?_⟩
    · rcases List.mem_append.1 hn with hn | hn
      · rcases List.mem_append.1 hn with hn | hn
        · exact h1 n (List.mem_of_mem_take hn)
        · rw [List.mem_singleton] at hn
          rw [hn, hid]; exact hok
      · exact h1 n (List.mem_of_mem_drop hn)
    · rw [List.append_assoc]
      refine List.pairwise_append.2 ⟨h2.sublist (List.take_sublist _ _), List.pairwise_cons.2 ⟨fun b hb => ?_, h2.sublist (List.drop_sublist _ _)⟩, fun a ha b hb => ?_⟩
      · rw [hid]; exact high_drop hc b hb
      · have hal := low_take a ha
        rcases List.mem_cons.1 hb with rfl | hb
        · rw [hid]; exact hal
        · have := high_drop hc b hb
          omega
  · unfold done
    rw [if_neg hm]
    exact hc
/-- What is seen of a node is of a directory, and has a name. -/
def NodeOk (n : Node) : Prop := (Gw.Stamp.check n.moved = true → Gw.Stamp.dir n.parent = true ∧ Gw.Name.check n.name = true) ∧ n.name.length ≤ 1000
theorem done_good {l : List Node} (h : ∀ n ∈ l, NodeOk n) (o : Op) (ho : o.name.length ≤ 1000) : ∀ n ∈ done l o, NodeOk n := fun n hn => by
  rcases done_mem hn with hn | ⟨hm, hn, _⟩
  · exact h n hn
  · have hold : NodeOk ((find l o.node).getD (freshN o.node)) := by
      cases hf : find l o.node with
      | none => exact ⟨fun q => absurd q (by show ¬ Gw.Stamp.check ⟨0, 0⟩ = true; decide), Nat.zero_le _⟩
      | some m => exact h m (find_some hf).1
    subst hn
    unfold turned
    split
    · rename_i hk
      refine ⟨fun _ => ?_, ho⟩
      have h2 := (may_ok hm).2.1
      unfold Gw.Op.check at h2
      rw [if_pos hk] at h2
      simp only [Bool.and_eq_true] at h2
      have := h2.2.2
      unfold Gw.Op.fitsMove at this
      simp only [Bool.and_eq_true] at this
      exact ⟨this.2.1, this.2.2.2.1⟩
    · exact hold
theorem fold_good : ∀ (s : List Op) (l : List Node), (∀ o ∈ s, o.name.length ≤ 1000) → check l = true → (∀ n ∈ l, NodeOk n) → check (s.foldl done l) = true ∧ ∀ n ∈ s.foldl done l, NodeOk n
  | [], _, _, h1, h2 => ⟨h1, h2⟩
  | o :: s, l, h, h1, h2 => fold_good s (done l o) (fun p hp => h p (List.mem_cons_of_mem _ hp)) (done_check h1 o) (done_good h2 o (h o List.mem_cons_self))
end Gw.Tree
namespace Gw.View
open Gw.Tree (Node NodeOk)
/-- Each item stands in a directory that was seen ahead of it. -/
def Stands (l : List Node) (dir : Int) (path : List UInt8) : List Item → List Item → Prop
  | _, [] => True
  | pre, it :: r => (∃ n ∈ l, n.id = it.id ∧ inDir n n.parent = true ∧ n.data = it.data ∧ ((n.parent = dir ∧ it.path = pathOf path n.name) ∨ ∃ j ∈ pre, j.id = n.parent ∧ it.path = pathOf j.path n.name)) ∧ Stands l dir path (pre ++ [it]) r
theorem Stands.append {l : List Node} {dir : Int} {path : List UInt8} : ∀ (a b pre : List Item), Stands l dir path pre a → Stands l dir path (pre ++ a) b → Stands l dir path pre (a ++ b)
  | [], b, pre, _, h => by rw [List.append_nil] at h; exact h
  | it :: a, b, pre, h, h' => ⟨h.1, Stands.append a b (pre ++ [it]) h.2 (by rw [List.append_assoc]; exact h')⟩
/-- What stands below an item that was seen, stands. -/
theorem Stands.lift {l : List Node} {dir dir' : Int} {path path' : List UInt8} : ∀ (a pre : List Item), Stands l dir' path' pre a → (∃ j ∈ pre, j.id = dir' ∧ j.path = path') → Stands l dir path pre a
  | [], _, _, _ => trivial
  | it :: a, pre, h, hj => by
    obtain ⟨⟨n, h1, h2, h3, h3', h4⟩, h5⟩ := h
    refine ⟨⟨n, h1, h2, h3, h3', .inr ?_⟩, Stands.lift a (pre ++ [it]) h5 (by obtain ⟨j, q1, q2⟩ := hj; exact ⟨j, List.mem_append.2 (.inl q1), q2⟩)⟩
    rcases h4 with ⟨q1, q2⟩ | h4
    · obtain ⟨j, p1, p2, p3⟩ := hj
      exact ⟨j, p1, by rw [p2, q1], by rw [p3, q2]⟩
    · exact h4
theorem stands_flat {l : List Node} {dir : Int} {path : List UInt8} {g : List UInt8 → List Item} : ∀ (N : List (List UInt8)), (∀ s ∈ N, ∀ pre, Stands l dir path pre (g s)) → ∀ pre, Stands l dir path pre (N.flatMap g)
  | [], _, _ => trivial
  | s :: N, h, pre => by
    rw [List.flatMap_cons]
    exact Stands.append _ _ _ (h s List.mem_cons_self pre) (stands_flat N (fun t ht => h t (List.mem_cons_of_mem _ ht)) _)
theorem inDir_own {n : Node} {dir : Int} (h : inDir n dir = true) : n.parent = dir ∧ Gw.Stamp.check n.moved = true ∧ inDir n n.parent = true := by
  unfold inDir at *
  simp only [Bool.and_eq_true, decide_eq_true_eq] at h
  simp [h.2, h.1]
theorem belowF_stands (l : List Node) (outs : List Int) : ∀ (f : Nat) (dir : Int) (path : List UInt8) (pre : List Item), Stands l dir path pre (belowF l outs f dir path)
  | 0, _, _, _ => trivial
  | f + 1, dir, path, pre => by
    rw [belowF]
    unfold levelF
    refine stands_flat _ (fun s _ pre => ?_) pre
    unfold stepF
    cases hf : findM s (inner l outs dir) with
    | none => trivial
    | some n =>
      obtain ⟨h1, h2, h3, h4⟩ := inner_find hf
      obtain ⟨q1, _, q2⟩ := inDir_own h2
      show Stands l dir path pre (⟨pathOf path s, n.id, n.data⟩ :: (if Gw.Stamp.dir n.id = true then belowF l outs f n.id (pathOf path s) else []))
      refine ⟨⟨n, h1, rfl, q2, rfl, .inl ⟨q1, by rw [h3]⟩⟩, ?_⟩
      split
      · exact Stands.lift _ _ (belowF_stands l outs f n.id (pathOf path s) _) ⟨_, List.mem_append.2 (.inr List.mem_cons_self), rfl, rfl⟩
      · trivial
theorem stands_at {l : List Node} {dir : Int} {path : List UInt8} : ∀ (I pre : List Item), Stands l dir path pre I → ∀ i (h : i < I.length), ∃ n ∈ l, n.id = I[i].id ∧ inDir n n.parent = true ∧ n.data = I[i].data ∧ ((n.parent = dir ∧ I[i].path = pathOf path n.name) ∨ ∃ j ∈ pre ++ I.take i, j.id = n.parent ∧ I[i].path = pathOf j.path n.name)
  | [], _, _, i, h => by simp at h
  | it :: I, pre, hs, 0, _ => by
    obtain ⟨n, h1⟩ := hs.1
    refine ⟨n, ?_⟩
    simpa using h1
  | it :: I, pre, hs, i + 1, h => by
    obtain ⟨n, h1, h2, h3, h3', h4⟩ := stands_at I (pre ++ [it]) hs.2 i (by simpa using h)
    refine ⟨n, h1, by simpa using h2, h3, by simpa using h3', ?_⟩
    simp only [List.getElem_cons_succ, List.take_succ_cons]
    rw [List.append_assoc, List.singleton_append] at h4
    exact h4
/-- A name ends where a mark stands. -/
theorem name_end {s s' r r' : List UInt8} (h : (47 : UInt8) ∉ s) (h' : (47 : UInt8) ∉ s') (hr : r = [] ∨ ∃ q, r = 47 :: q) (hr' : r' = [] ∨ ∃ q, r' = 47 :: q) (e : s ++ r = s' ++ r') : s = s' := by
  induction s generalizing s' with
  | nil =>
    cases s' with
    | nil => rfl
    | cons b s' =>
      rcases hr with rfl | ⟨q, rfl⟩
      · cases e
      · rw [List.nil_append, List.cons_append] at e
        cases e
        exact absurd List.mem_cons_self h'
  | cons a s ih =>
    cases s' with
    | nil =>
      rcases hr' with rfl | ⟨q, rfl⟩
      · cases e
      · rw [List.nil_append, List.cons_append] at e
        cases e
        exact absurd List.mem_cons_self h
    | cons b s' =>
      rw [List.cons_append, List.cons_append] at e
      injection e with e1 e2
      rw [e1, ih (fun q => h (List.mem_cons_of_mem _ q)) (fun q => h' (List.mem_cons_of_mem _ q)) e2]
/-- A text that goes on from another by a mark and a name. -/
def From (path s p : List UInt8) : Prop := ∃ r, p = path ++ (47 :: (s ++ r)) ∧ (r = [] ∨ ∃ q, r = 47 :: q)
theorem belowF_from {l : List Node} {outs : List Int} : ∀ (f : Nat) {dir : Int} {path : List UInt8}, ∀ it ∈ belowF l outs f dir path, ∃ n ∈ l, inDir n dir = true ∧ From path n.name it.path
  | 0, _, _, it, h => by cases h
  | f + 1, dir, path, it, h => by
    rw [belowF] at h
    obtain ⟨s, n, _, hf, hi⟩ := mem_levelF h
    obtain ⟨h1, h2, h3, h4⟩ := inner_find hf
    refine ⟨n, h1, h2, ?_⟩
    rcases List.mem_cons.1 hi with rfl | hi
    · exact ⟨[], by rw [h3, List.append_nil]; show path ++ [47] ++ s = _; rw [List.append_assoc]; rfl, .inl rfl⟩
    · split at hi
      · obtain ⟨m, _, _, r, e, _⟩ := belowF_from f it hi
        exact ⟨47 :: (m.name ++ r), by rw [e, h3]; show path ++ [47] ++ s ++ _ = _; simp, .inr ⟨_, rfl⟩⟩
      · cases hi
theorem belowF_paths {l : List Node} (hg : ∀ n ∈ l, NodeOk n) {outs : List Int} : ∀ (f : Nat) {dir : Int} {path : List UInt8}, (belowF l outs f dir path).Pairwise fun a b => a.path ≠ b.path
  | 0, _, _ => .nil
  | f + 1, dir, path => by
    rw [belowF]
    unfold levelF
    have hm := inner_ok l outs dir
    have hstep : ∀ s n, findM s (inner l outs dir) = some n → (47 : UInt8) ∉ s ∧ ∀ it ∈ oneF (belowF l outs f) path s n, From path s it.path := fun s n hf => by
      obtain ⟨h1, h2, h3, h4⟩ := inner_find hf
      obtain ⟨_, q2, _⟩ := inDir_own h2
      have h47 := (Gw.Name.check_spec ((hg n h1).1 q2).2).1
      rw [h3] at h47
      refine ⟨h47, fun it hi => ?_⟩
      rcases List.mem_cons.1 hi with rfl | hi
      · exact ⟨[], by rw [List.append_nil]; show path ++ [47] ++ s = _; rw [List.append_assoc]; rfl, .inl rfl⟩
      · split at hi
        · obtain ⟨m, _, _, r, e, _⟩ := belowF_from f it hi
          exact ⟨47 :: (m.name ++ r), by rw [e]; show path ++ [47] ++ s ++ _ = _; simp, .inr ⟨_, rfl⟩⟩
        · cases hi
    rw [List.pairwise_flatMap]
    refine ⟨fun s _ => ?_, ?_⟩
    · unfold stepF
      cases hf : findM s (inner l outs dir) with
      | none => exact .nil
      | some n =>
        refine List.pairwise_cons.2 ⟨fun it hi => ?_, ?_⟩
        · split at hi
          · obtain ⟨m, _, _, r, e, _⟩ := belowF_from f it hi
            show pathOf path s ≠ it.path
            intro e2
            rw [e] at e2
            have := congrArg List.length e2
            simp at this
          · cases hi
        · split
          · exact belowF_paths hg f
          · exact .nil
    · have hnd : (sortT ((inner l outs dir).map (·.2.1))).Nodup := (sortT_perm _).nodup_iff.2 hm.names
      refine hnd.imp fun {a b} hab => fun x hx y hy e => ?_
      unfold stepF at hx hy
      cases ha : findM a (inner l outs dir) with
      | none => rw [ha] at hx; cases hx
      | some n =>
        cases hb : findM b (inner l outs dir) with
        | none => rw [hb] at hy; cases hy
        | some m =>
          rw [ha] at hx
          rw [hb] at hy
          obtain ⟨p1, p2⟩ := hstep a n ha
          obtain ⟨q1, q2⟩ := hstep b m hb
          obtain ⟨r, e1, hr⟩ := p2 x hx
          obtain ⟨r', e1', hr'⟩ := q2 y hy
          rw [e1, e1'] at e
          have e3 := List.append_cancel_left e
          injection e3 with _ e4
          exact hab (name_end p1 q1 hr hr' e4)
end Gw.View
