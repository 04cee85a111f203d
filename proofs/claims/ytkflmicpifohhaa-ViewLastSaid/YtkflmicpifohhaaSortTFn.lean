/- Texts in the order of names, in plain Lean. -/
import Derived.Test.YtkflmicpifohhaaRuneLaw2
namespace Gw.View
theorem less_irrefl (a : List UInt8) : Gw.Name.less a a = false := by
  unfold Gw.Name.less
  rcases Gw.Rune.cmpL_cases (Gw.Name.ranks a) (Gw.Name.ranks a) with ⟨h1, h2⟩ | ⟨h1, _⟩ | ⟨h1, h2⟩
  · rw [h1] at h2; cases h2
  · rw [h1]; rfl
  · rw [h1] at h2; cases h2
theorem less_total {a b : List UInt8} (h1 : Gw.Name.less a b = false) (h2 : Gw.Name.less b a = false) : a = b := by
  have := Gw.Rune.order a b
  rw [h1, h2] at this
  simpa using this
theorem less_asymm {a b : List UInt8} (h : Gw.Name.less a b = true) : Gw.Name.less b a = false := by
  cases h2 : Gw.Name.less b a
  · rfl
  · have := Gw.Rune.less_trans h h2
    rw [less_irrefl] at this; cases this
/-- The texts, in their order. -/
def insT (s : List UInt8) : List (List UInt8) → List (List UInt8)
  | [] => [s]
  | t :: l => if Gw.Name.less t s = true then t :: insT s l else s :: t :: l
def sortT : List (List UInt8) → List (List UInt8)
  | [] => []
  | s :: l => insT s (sortT l)
theorem insT_perm (s : List UInt8) : ∀ l, (insT s l).Perm (s :: l)
  | [] => .refl _
  | t :: l => by
    rw [insT]
    split
    · exact (List.Perm.cons t (insT_perm s l)).trans (.swap s t l)
    · exact .refl _
theorem sortT_perm : ∀ l, (sortT l).Perm l
  | [] => .refl _
  | s :: l => (insT_perm s _).trans (.cons s (sortT_perm l))
/-- One does not stand behind the other. -/
def leT (a b : List UInt8) : Prop := Gw.Name.less b a = false
theorem leT_anti {a b : List UInt8} (h : leT a b) (k : leT b a) : a = b := less_total k h
theorem leT_of {a b : List UInt8} (h : Gw.Name.less a b = true) : leT a b := less_asymm h
theorem leT_trans {a b c : List UInt8} (h : leT a b) (k : leT b c) : leT a c := by
  unfold leT at *
  cases h3 : Gw.Name.less c a
  · rfl
  · cases h4 : Gw.Name.less a b with
    | true =>
      have := Gw.Rune.less_trans h3 h4
      rw [k] at this; cases this
    | false =>
      have := less_total h4 h
      subst this
      rw [k] at h3; cases h3
theorem insT_sorted (s : List UInt8) : ∀ l, l.Pairwise leT → (insT s l).Pairwise leT
  | [], _ => List.pairwise_singleton _ _
  | t :: l, h => by
    rw [insT]
    have h1 := (List.pairwise_cons.1 h).1
    have h2 := (List.pairwise_cons.1 h).2
    split
    · rename_i hlt
      refine List.pairwise_cons.2 ⟨fun u hu => ?_, insT_sorted s l h2⟩
      rcases List.mem_cons.1 ((insT_perm s l).mem_iff.1 hu) with rfl | hu
      · exact leT_of hlt
      · exact h1 u hu
    · rename_i hlt
      have hst : leT s t := by unfold leT; simpa using hlt
      refine List.pairwise_cons.2 ⟨fun u hu => ?_, h⟩
      rcases List.mem_cons.1 hu with rfl | hu
      · exact hst
      · exact leT_trans hst (h1 u hu)
theorem sortT_sorted : ∀ l, (sortT l).Pairwise leT
  | [] => .nil
  | s :: l => insT_sorted s _ (sortT_sorted l)
theorem sortT_unique {l m : List (List UInt8)} (h : m.Perm l) (hs : m.Pairwise leT) : m = sortT l :=
  List.Perm.eq_of_pairwise (fun _ _ _ _ h1 h2 => leT_anti h1 h2) hs (sortT_sorted l) (h.trans (sortT_perm l).symm)
end Gw.View
