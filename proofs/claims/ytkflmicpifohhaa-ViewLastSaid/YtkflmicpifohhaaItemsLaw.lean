/- Facts of all that is seen below a directory, in plain Lean: no program in sight. -/
import Derived.Test.YtkflmicpifohhaaItemsFn
namespace Gw.View
open Gw.Tree (Node)

theorem mem_levelF {sub : Int → List UInt8 → List Item} {m : M} {path : List UInt8} {it : Item} (h : it ∈ levelF sub m path) :
    ∃ s n, s ∈ m.map (·.2.1) ∧ findM s m = some n ∧ it ∈ oneF sub path s n := by
  unfold levelF at h
  obtain ⟨s, hs, hi⟩ := List.mem_flatMap.1 h
  unfold stepF at hi
  cases hf : findM s m with
  | none => rw [hf] at hi; cases hi
  | some n => rw [hf] at hi; exact ⟨s, n, (sortT_perm _).mem_iff.1 hs, hf, hi⟩
/-- Each item is at the end of a way that goes on. -/
theorem belowF_way {l : List Node} {outs : List Int} {top : Int} : ∀ (f : Nat) {ids : List Int} {dir : Int} {path : List UInt8}, Way l outs top ids dir → ∀ it ∈ belowF l outs f dir path, ∃ x suf, Way l outs top (ids ++ x :: suf) it.id ∧ ∃ n ∈ l, n.id = it.id ∧ it.data = n.data
  | 0, _, _, _, _, it, h => by cases h
  | f + 1, ids, dir, path, hw, it, h => by
    rw [belowF] at h
    obtain ⟨s, n, _, hf, hi⟩ := mem_levelF h
    obtain ⟨h1, h2, h3, h4⟩ := inner_find hf
    have hp : n.parent = dir := by
      unfold inDir at h2
      simp only [Bool.and_eq_true, decide_eq_true_eq] at h2
      exact h2.1
    have hd := Way.down hw h1 hp h4
    rcases List.mem_cons.1 hi with rfl | hi
    · exact ⟨n.id, [], hd, n, h1, rfl, rfl⟩
    · split at hi
      · obtain ⟨x, suf, q1, q2⟩ := belowF_way f hd it hi
        exact ⟨n.id, x :: suf, by rw [List.append_assoc] at q1; exact q1, q2⟩
      · cases hi
theorem belowF_nodup {l : List Node} (hc : Gw.Tree.check l = true) {outs : List Int} {top : Int} (ht : top ∈ outs) : ∀ (f : Nat) {ids : List Int} {dir : Int} {path : List UInt8}, Way l outs top ids dir → (belowF l outs f dir path).Pairwise fun a b => a.id ≠ b.id
  | 0, _, _, _, _ => .nil
  | f + 1, ids, dir, path, hw => by
    rw [belowF]
    unfold levelF
    have hm := inner_ok l outs dir
    have hdown : ∀ {s n}, findM s (inner l outs dir) = some n → Way l outs top (ids ++ [n.id]) n.id ∧ n.name = s ∧ n ∈ l := fun {s n} hf => by
      obtain ⟨h1, h2, h3, h4⟩ := inner_find hf
      have hp : n.parent = dir := by
        unfold inDir at h2
        simp only [Bool.and_eq_true, decide_eq_true_eq] at h2
        exact h2.1
      exact ⟨.down hw h1 hp h4, h3, h1⟩
    have hone : ∀ {s n}, findM s (inner l outs dir) = some n → ∀ it ∈ oneF (belowF l outs f) path s n, ∃ suf, Way l outs top (ids ++ n.id :: suf) it.id := fun {s n} hf it hi => by
      have hd := (hdown hf).1
      rcases List.mem_cons.1 hi with rfl | hi
      · exact ⟨[], hd⟩
      · split at hi
        · obtain ⟨x, suf, q1, _⟩ := belowF_way f hd it hi
          exact ⟨x :: suf, by rw [List.append_assoc] at q1; exact q1⟩
        · cases hi
    rw [List.pairwise_flatMap]
    refine ⟨fun s _ => ?_, ?_⟩
    · unfold stepF
      cases hf : findM s (inner l outs dir) with
      | none => exact .nil
      | some n =>
        have hd := (hdown hf).1
        refine List.pairwise_cons.2 ⟨fun it hi => ?_, ?_⟩
        · split at hi
          · obtain ⟨x, suf, q1, _⟩ := belowF_way f hd it hi
            intro e
            have e : n.id = it.id := e
            rw [← e] at q1
            have := congrArg List.length (q1.same hc ht hd)
            simp only [List.length_append, List.length_cons, List.length_nil] at this
            omega
          · cases hi
        · split
          · exact belowF_nodup hc ht f hd
          · exact .nil
    · have hnd : (sortT ((inner l outs dir).map (·.2.1))).Nodup := (sortT_perm _).nodup_iff.2 hm.names
      refine List.Pairwise.imp ?_ hnd
      intro s s' hne it hi it' hi' e
      unfold stepF at hi hi'
      cases hf : findM s (inner l outs dir) with
      | none => rw [hf] at hi; cases hi
      | some n =>
        cases hf' : findM s' (inner l outs dir) with
        | none => rw [hf'] at hi'; cases hi'
        | some n' =>
          rw [hf] at hi
          rw [hf'] at hi'
          obtain ⟨suf, w1⟩ := hone hf it hi
          obtain ⟨suf', w2⟩ := hone hf' it' hi'
          rw [← e] at w2
          have := w1.same hc ht w2
          have := List.append_cancel_left this
          have hid : n.id = n'.id := (List.cons.inj this).1
          have e1 := Gw.Tree.find_mem hc (hdown hf).2.2
          have e2 := Gw.Tree.find_mem hc (hdown hf').2.2
          rw [hid, e2] at e1
          have : n = n' := (Option.some.inj e1).symm
          subst this
          exact hne ((hdown hf).2.1.symm.trans (hdown hf').2.1)
theorem belowF_len {l : List Node} (hc : Gw.Tree.check l = true) {outs : List Int} {top : Int} (ht : top ∈ outs) (f : Nat) {ids : List Int} {dir : Int} {path : List UInt8} (hw : Way l outs top ids dir) : (belowF l outs f dir path).length ≤ l.length := by
  have hn := belowF_nodup hc ht f (path := path) hw
  have := Gw.Lists.len_of_sub (l := (belowF l outs f dir path).map (·.id)) (m := l.map (·.id)) (List.pairwise_map.2 hn) fun i hi => by
    obtain ⟨it, hit, rfl⟩ := List.mem_map.1 hi
    obtain ⟨_, _, _, n, h1, h2, _⟩ := belowF_way f hw it hit
    exact List.mem_map.2 ⟨n, h1, h2⟩
  rwa [List.length_map, List.length_map] at this
theorem belowF_path {l : List Node} {outs : List Int} (hs : ∀ n ∈ l, n.name.length ≤ 1000) : ∀ (f : Nat) {dir : Int} {path : List UInt8}, ∀ it ∈ belowF l outs f dir path, it.path.length ≤ path.length + 1001 * f
  | 0, _, _, it, h => by cases h
  | f + 1, dir, path, it, h => by
    rw [belowF] at h
    obtain ⟨s, n, _, hf, hi⟩ := mem_levelF h
    obtain ⟨h1, h2, h3, h4⟩ := inner_find hf
    have hsl : s.length ≤ 1000 := by rw [← h3]; exact hs n h1
    have hp : (pathOf path s).length = path.length + 1 + s.length := by unfold pathOf; simp only [List.length_append, List.length_singleton]
    rcases List.mem_cons.1 hi with rfl | hi
    · show (pathOf path s).length ≤ _
      omega
    · split at hi
      · have := belowF_path hs f it hi
        omega
      · cases hi
end Gw.View
