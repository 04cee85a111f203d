/- By a name that is seen that was moved last, in plain Lean: no program in sight. -/
import Derived.Test.YtkflmicpifohhaaItemsFn
namespace Gw.View
open Gw.Tree (Node)
open Gw.Stamp (Stamp)

theorem stamp_ntrans {a b c : Stamp} (h : Gw.Stamp.less a b = false) (k : Gw.Stamp.less b c = false) : Gw.Stamp.less a c = false := by
  unfold Gw.Stamp.less at *
  rw [Bool.eq_false_iff] at *
  simp only [ne_eq, Bool.or_eq_true, Bool.and_eq_true, decide_eq_true_eq] at *
  omega
theorem stamp_irrefl (a : Stamp) : Gw.Stamp.less a a = false := by
  unfold Gw.Stamp.less
  simp
theorem best_last (dir : Int) (s : List UInt8) : ∀ (l : List Node) (r : Option Node) (seen : List Node),
    (∀ n, r = some n → ∀ m ∈ seen, inDir m dir = true → m.name = s → Gw.Stamp.less n.moved m.moved = false) → (r = none → ∀ m ∈ seen, inDir m dir = true → m.name = s → False) →
    (∀ n, l.foldl (better dir s) r = some n → ∀ m ∈ seen ++ l, inDir m dir = true → m.name = s → Gw.Stamp.less n.moved m.moved = false) ∧ (l.foldl (better dir s) r = none → ∀ m ∈ seen ++ l, inDir m dir = true → m.name = s → False)
  | [], r, seen, h1, h2 => by
    rw [List.append_nil]
    exact ⟨h1, h2⟩
  | a :: l, r, seen, h1, h2 => by
    have hstep := best_last dir s l (better dir s r a) (seen ++ [a]) ?_ ?_
    · rw [List.append_assoc] at hstep
      exact hstep
    · intro n hn m hm hi hs
      unfold better at hn
      split at hn
      · rename_i hc
        cases hn
        simp only [Bool.and_eq_true, decide_eq_true_eq] at hc
        rcases List.mem_append.1 hm with hm | hm
        · cases hr : r with
          | none => exact (h2 hr m hm hi hs).elim
          | some old =>
            have ho := hc.2.2
            rw [hr] at ho
            simp only [over, Bool.not_eq_true'] at ho
            exact stamp_ntrans ho (h1 old hr m hm hi hs)
        · rw [List.mem_singleton] at hm
          subst hm
          exact stamp_irrefl _
      · rename_i hc
        rcases List.mem_append.1 hm with hm | hm
        · exact h1 n hn m hm hi hs
        · rw [List.mem_singleton] at hm
          subst hm
          rw [hn, hi, decide_eq_true hs, Bool.true_and, Bool.true_and] at hc
          simp only [over, Bool.not_eq_true', Bool.not_eq_false] at hc
          -- a is ahead of what is seen
          have : Gw.Stamp.less m.moved n.moved = true := hc
          unfold Gw.Stamp.less at this ⊢
          rw [Bool.eq_false_iff]
          simp only [ne_eq, Bool.or_eq_true, Bool.and_eq_true, decide_eq_true_eq] at this ⊢
          omega
    · intro hn m hm hi hs
      unfold better at hn
      split at hn
      · cases hn
      · rename_i hc
        rcases List.mem_append.1 hm with hm | hm
        · exact h2 hn m hm hi hs
        · rw [List.mem_singleton] at hm
          subst hm
          rw [hn, hi, decide_eq_true hs, Bool.true_and, Bool.true_and] at hc
          exact hc rfl
theorem child_last {l : List Node} {dir : Int} {s : List UInt8} {n : Node} (h : child l dir s = some n) {m : Node} (hm : m ∈ l) (hi : inDir m dir = true) (hs : m.name = s) : Gw.Stamp.less n.moved m.moved = false := by
  unfold child at h
  split at h
  · rw [seen_find] at h
    have := (best_last dir s l none [] (fun n hn => by cases hn) (fun _ m hm => by cases hm)).1 n h m (by simpa using hm) hi hs
    exact this
  · cases h
theorem child_some {l : List Node} (hc : Gw.Tree.check l = true) {dir : Int} {m : Node} (hm : m ∈ l) (hi : inDir m dir = true) : ∃ n, child l dir m.name = some n := by
  cases h : child l dir m.name with
  | some n => exact ⟨n, rfl⟩
  | none =>
    unfold child at h
    rw [if_pos hc, seen_find] at h
    exact ((best_last dir m.name l none [] (fun n hn => by cases hn) (fun _ m hm => by cases hm)).2 h m (by simpa using hm) hi rfl).elim
theorem mem_list {l : List Node} (hc : Gw.Tree.check l = true) {dir : Int} {s : List UInt8} : s ∈ list l dir ↔ ∃ n, child l dir s = some n := by
  unfold list child
  rw [if_pos hc, if_pos hc]
  obtain ⟨h1, h2⟩ := seen_ok l dir
  constructor
  · intro h
    obtain ⟨e, he, rfl⟩ := List.mem_map.1 ((sortT_perm _).mem_iff.1 h)
    exact ⟨e.2.2, findM_of h1.names he⟩
  · rintro ⟨n, h⟩
    obtain ⟨b, hb⟩ := findM_mem h
    exact (sortT_perm _).mem_iff.2 (List.mem_map.2 ⟨_, hb, rfl⟩)
theorem list_nodup (l : List Node) (dir : Int) : (list l dir).Nodup := by
  unfold list
  split
  · exact (sortT_perm _).nodup_iff.2 (seen_ok l dir).1.names
  · exact List.nodup_nil
theorem list_sorted (l : List Node) (dir : Int) : (list l dir).Pairwise leT := by
  unfold list
  split
  · exact sortT_sorted _
  · exact .nil
theorem list_rises (l : List Node) (dir : Int) {i : Nat} (h : i + 1 < (list l dir).length) : Gw.Name.less (list l dir)[i] (list l dir)[i + 1] = true := by
  have h1 := List.pairwise_iff_getElem.1 (list_sorted l dir) i (i + 1) (by omega) h (Nat.lt_succ_self _)
  have h2 := List.pairwise_iff_getElem.1 (list_nodup l dir) i (i + 1) (by omega) h (Nat.lt_succ_self _)
  cases h3 : Gw.Name.less (list l dir)[i] (list l dir)[i + 1] with
  | true => rfl
  | false => exact absurd (less_total h3 h1) h2
end Gw.View
