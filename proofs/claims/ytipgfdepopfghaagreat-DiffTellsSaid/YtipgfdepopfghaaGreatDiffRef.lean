/- The document's answer of what has changed, in plain Lean: no program in sight. -/
import Derived.Test.YtipgfdepopfghaaGreatDiffLaw
namespace Gw.Diff
open Gw.View (Item)
open Gw.Mp
/-- The item of a path: the first. -/
def firstAt (l : List Item) (p : List UInt8) : Option Item := l.find? fun t => decide (t.path = p)
theorem first_last {l : List Item} (h : Unlike l) (p : List UInt8) : firstAt l p = lastAt l p := by
  cases hl : lastAt l p with
  | some t =>
    obtain ⟨h1, h2⟩ := lastAt_some hl
    cases hf : firstAt l p with
    | none =>
      unfold firstAt at hf
      rw [List.find?_eq_none] at hf
      exact absurd (decide_eq_true h2) (hf t h1)
    | some x =>
      have k2 := List.find?_some (p := fun t : Item => decide (t.path = p)) hf
      rw [unlike_eq h h1 (List.mem_of_find?_eq_some hf) (h2.trans (of_decide_eq_true k2).symm)]
  | none =>
    unfold lastAt at hl
    rw [List.find?_eq_none] at hl
    unfold firstAt
    rw [List.find?_eq_none]
    exact fun t ht => hl t (List.mem_reverse.2 ht)
def withoutB (l : List (List UInt8)) (s : List UInt8) : List (List UInt8) := l.filter fun t => !decide (t = s)
/-- How many stand ahead. -/
def lowB (l : List (List UInt8)) (s : List UInt8) : Nat := (l.takeWhile fun t => decide (t < s)).length
def withB (l : List (List UInt8)) (s : List UInt8) : List (List UInt8) := (withoutB l s).take (lowB (withoutB l s) s) ++ [s] ++ (withoutB l s).drop (lowB (withoutB l s) s)
def Rises (l : List (List UInt8)) : Prop := l.Pairwise (· < ·)
theorem rises_without {l : List (List UInt8)} (h : Rises l) (s : List UInt8) : Rises (withoutB l s) := List.Pairwise.sublist List.filter_sublist h
theorem mem_without {l : List (List UInt8)} {s q : List UInt8} : q ∈ withoutB l s ↔ q ≠ s ∧ q ∈ l := by
  unfold withoutB
  rw [List.mem_filter]
  simp [and_comm]
theorem lowB_le (l : List (List UInt8)) (s : List UInt8) : lowB l s ≤ l.length := (List.takeWhile_sublist _).length_le
theorem lowB_low {l : List (List UInt8)} {s : List UInt8} {k : Nat} (hk : k < lowB l s) : ∃ h : k < l.length, l[k] < s := by
  have hl : k < l.length := Nat.lt_of_lt_of_le hk (lowB_le l s)
  refine ⟨hl, ?_⟩
  unfold lowB at hk
  have hp : (l.takeWhile fun t => decide (t < s)) <+: l := List.takeWhile_prefix _
  have e := hp.getElem hk
  have hm : (l.takeWhile fun t => decide (t < s))[k] ∈ (l.takeWhile fun t => decide (t < s)) := List.getElem_mem hk
  have := List.all_eq_true.1 (List.all_takeWhile (p := fun t : List UInt8 => decide (t < s)) (l := l)) _ hm
  rw [e] at this
  exact of_decide_eq_true this
theorem lowB_at : ∀ {l : List (List UInt8)} {s : List UInt8} (h : lowB l s < l.length), ¬ l[lowB l s] < s
  | t :: l, s, h => by
    by_cases ht : t < s
    · have e : lowB (t :: l) s = lowB l s + 1 := by unfold lowB; rw [List.takeWhile_cons_of_pos (by simpa using ht)]; rfl
      simp only [e, List.getElem_cons_succ]
      simp only [e, List.length_cons] at h
      exact lowB_at (by omega)
    · have e : lowB (t :: l) s = 0 := by unfold lowB; rw [List.takeWhile_cons_of_neg (by simpa using ht)]; rfl
      simp only [e, List.getElem_cons_zero]
      exact ht
theorem rises_with {l : List (List UInt8)} (h : Rises l) (s : List UInt8) : Rises (withB l s) := by
  have hr := rises_without h s
  have hns : s ∉ withoutB l s := fun hm => (mem_without.1 hm).1 rfl
  unfold withB
  generalize withoutB l s = r at *
  have hlow : ∀ a ∈ r.take (lowB r s), a < s := fun a ha => by
    obtain ⟨k, hk, rfl⟩ := List.getElem_of_mem ha
    rw [List.length_take] at hk
    obtain ⟨_, h⟩ := lowB_low (l := r) (s := s) (k := k) (by omega)
    rw [List.getElem_take]
    exact h
  have hhigh : ∀ b ∈ r.drop (lowB r s), s < b := fun b hb => by
    have hne : b ≠ s := fun e => hns (e ▸ List.mem_of_mem_drop hb)
    have hnlt : ¬ b < s := by
      obtain ⟨k, hk, rfl⟩ := List.getElem_of_mem hb
      rw [List.length_drop] at hk
      rw [List.getElem_drop]
      have h0 := lowB_at (l := r) (s := s) (by omega)
      rcases Nat.eq_zero_or_pos k with rfl | hk0
      · simpa using h0
      · have := List.pairwise_iff_getElem.1 hr (lowB r s) (lowB r s + k) (by omega) (by omega) (by omega)
        intro hlt
        exact h0 (List.lt_trans this hlt)
    rcases List.le_total b s with q | q
    · have : b = s := List.le_antisymm q (List.not_lt.1 hnlt)
      exact absurd this hne
    · rcases Classical.em (s < b) with k | k
      · exact k
      · exact absurd (List.le_antisymm (List.not_lt.1 k) (List.not_lt.1 hnlt)) hne
  unfold Rises
  rw [List.append_assoc]
  refine List.pairwise_append.2 ⟨hr.sublist (List.take_sublist _ _), List.pairwise_cons.2 ⟨hhigh, hr.sublist (List.drop_sublist _ _)⟩, fun a ha b hb => ?_⟩
  rcases List.mem_cons.1 hb with rfl | hb
  · exact hlow a ha
  · exact List.lt_trans (hlow a ha) (hhigh b hb)
theorem mem_with {l : List (List UInt8)} {s q : List UInt8} : q ∈ withB l s ↔ q = s ∨ q ∈ l := by
  have : q ∈ withB l s ↔ q = s ∨ q ∈ withoutB l s := by
    unfold withB
    rw [List.mem_append, List.mem_append, List.mem_singleton]
    have e : q ∈ withoutB l s ↔ q ∈ (withoutB l s).take (lowB (withoutB l s) s) ∨ q ∈ (withoutB l s).drop (lowB (withoutB l s) s) := by
      rw [← List.mem_append, List.take_append_drop]
    rw [e]
    constructor
    · rintro ((h | h) | h) <;> simp [h]
    · rintro (h | h | h) <;> simp [h]
  rw [this, mem_without]
  constructor
  · rintro (h | ⟨_, h⟩)
    · exact .inl h
    · exact .inr h
  · rintro (h | h)
    · exact .inl h
    · by_cases e : q = s
      · exact .inl e
      · exact .inr ⟨e, h⟩
theorem with_len (l : List (List UInt8)) (s : List UInt8) : (withB l s).length ≤ l.length + 1 := by
  unfold withB
  have := List.length_filter_le (fun t => !decide (t = s)) l
  have h2 : (withoutB l s).length ≤ l.length := this
  have h3 := lowB_le (withoutB l s) s
  simp only [List.length_append, List.length_take, List.length_drop, List.length_singleton]
  omega
theorem rises_eq {l : List (List UInt8)} (h : Rises l) {x : T} (hx : Ok x) (hm : ∀ q, q ∈ l ↔ q ∈ keys x.2) : l = sortB (keys x.2) := by
  have hn : l.Nodup := h.imp fun {a b} hab => by
    intro e
    rw [e] at hab
    exact List.lt_irrefl _ hab
  exact sortB_unique (Gw.Lists.perm_of_mem hn hx.names hm) (h.imp fun hab => List.le_of_lt hab)
def rstep (l : List (List UInt8)) (e : Event) : List (List UInt8) :=
  let l1 := if e.kind = 1 then withoutB l e.path else l
  if e.kind = 2 then withB l1 e.path else l1
def rplay (l : List (List UInt8)) (e : List Event) : List (List UInt8) := e.foldl rstep (l.foldl withB [])
theorem rstep_rises {l : List (List UInt8)} (h : Rises l) (e : Event) : Rises (rstep l e) := by
  unfold rstep
  by_cases h1 : e.kind = 1
  · simp only [h1, if_true]
    rw [if_neg (by decide)]
    exact rises_without h _
  · simp only [h1, if_false]
    split
    · exact rises_with h _
    · exact h
theorem rstep_mem {l : List (List UInt8)} (e : Event) (q : List UInt8) : q ∈ rstep l e ↔ (if e.kind = 1 then q ≠ e.path ∧ q ∈ l else if e.kind = 2 then q = e.path ∨ q ∈ l else q ∈ l) := by
  unfold rstep
  by_cases h1 : e.kind = 1
  · simp only [h1, if_true]
    rw [if_neg (by decide)]
    exact mem_without
  · simp only [h1, if_false]
    split
    · exact mem_with
    · rfl
theorem adds_rises (l : List (List UInt8)) : ∀ x, Rises x → Rises (l.foldl withB x) ∧ ∀ q, q ∈ l.foldl withB x ↔ q ∈ l ∨ q ∈ x := by
  induction l with
  | nil => intro x h; exact ⟨h, fun q => by simp⟩
  | cons p l ih =>
    intro x h
    obtain ⟨h1, h2⟩ := ih (withB x p) (rises_with h p)
    refine ⟨h1, fun q => ?_⟩
    rw [List.foldl_cons, h2, mem_with, List.mem_cons]
    constructor
    · rintro (h | h | h) <;> simp [h]
    · rintro ((h | h) | h) <;> simp [h]
theorem steps_rises (q : List UInt8) : ∀ (e : List Event) (x : List (List UInt8)), Rises x → Rises (e.foldl rstep x) ∧ (q ∈ e.foldl rstep x ↔ stays q e (q ∈ x))
  | [], x, h => ⟨h, Iff.rfl⟩
  | e :: l, x, h => by
    obtain ⟨h1, h2⟩ := steps_rises q l (rstep x e) (rstep_rises h e)
    refine ⟨h1, ?_⟩
    rw [List.foldl_cons, h2, stays]
    have : (q ∈ rstep x e) = (if e.kind = 1 then q ≠ e.path ∧ q ∈ x else if e.kind = 2 then q = e.path ∨ q ∈ x else q ∈ x) := propext (rstep_mem e q)
    rw [this]
theorem rplay_eq (l : List (List UInt8)) (e : List Event) : rplay l e = play l e := by
  obtain ⟨h1, h2⟩ := adds_rises l [] .nil
  have hm : ∀ q, q ∈ rplay l e ↔ q ∈ keys (playM l e).2 := fun q => by
    rw [play_mem]
    unfold rplay
    rw [(steps_rises q e _ h1).2]
    have : (q ∈ l.foldl withB []) = (q ∈ l) := propext (by rw [h2]; simp)
    rw [this]
  exact rises_eq (steps_rises [] e _ h1).1 (play_ok l e) hm
theorem rpaths_eq (l : List (List UInt8)) : l.foldl withB [] = setB l := rplay_eq l []
end Gw.Diff
