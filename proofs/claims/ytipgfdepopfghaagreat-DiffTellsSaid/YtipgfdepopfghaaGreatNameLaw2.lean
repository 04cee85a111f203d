/- The plain laws of paths: split as they were joined; and of parts. Plain Lean. -/
import Derived.Test.YtipgfdepopfghaaGreatNamePl
namespace Gw.Name
open Gw.Rune Gw.RName

theorem glue_split : ∀ (r : List UInt8), glue (split r) = r
  | [] => rfl
  | b :: r => by
    have ih := glue_split r
    rw [split]
    split
    · rename_i h
      subst h
      cases hs : split r with
      | nil => exact absurd hs (split_ne r)
      | cons x l => rw [hs] at ih; rw [← ih]; simp [glue]
    · cases hs : split r with
      | nil => exact absurd hs (split_ne r)
      | cons x l => rw [hs] at ih; rw [← ih]; simp [glue]
theorem split_app {x : List UInt8} (h : (47 : UInt8) ∉ x) (r : List UInt8) : split (x ++ 47 :: r) = x :: split r := by
  induction x with
  | nil => rw [List.nil_append, split, if_pos rfl]
  | cons b x ih =>
    rw [List.cons_append, split, if_neg (fun e => h (by simp [e])), ih (fun e => h (by simp [e]))]
theorem split_one {x : List UInt8} (h : (47 : UInt8) ∉ x) : split x = [x] := by
  induction x with
  | nil => rfl
  | cons b x ih => rw [split, if_neg (fun e => h (by simp [e])), ih (fun e => h (by simp [e]))]
theorem split_glue : ∀ (x : List UInt8) (l : List (List UInt8)), (∀ t ∈ x :: l, (47 : UInt8) ∉ t) → split (glue (x :: l)) = x :: l
  | x, [], h => by simp only [glue, List.map_nil, List.flatten_nil, List.append_nil]; exact split_one (h x (by simp))
  | x, y :: l, h => by
    have e : glue (x :: y :: l) = x ++ 47 :: glue (y :: l) := by simp [glue]
    rw [e, split_app (h x (by simp)), split_glue y l (fun t ht => h t (by simp [ht]))]
/-- What a rune's bytes are, seen from a mark: only the mark itself has one. -/
theorem enc_47 {r : Nat} (h : vN r) : (47 : UInt8) ∈ enc r ↔ r = 47 := by
  unfold vN at h
  have hne : ∀ n : Nat, n < 256 → n ≠ 47 → UInt8.ofNat n ≠ 47 := fun n h1 h2 e => h2 (by have := congrArg UInt8.toNat e; rw [u8 h1] at this; exact this)
  constructor
  · intro hm
    unfold enc encN at hm
    by_cases c1 : r < 128
    · rw [if_pos c1] at hm
      simp only [List.map_cons, List.map_nil, List.mem_singleton] at hm
      have := congrArg UInt8.toNat hm
      rw [u8 (by omega)] at this
      exact this.symm
    exfalso
    by_cases c2 : r < 2048
    · rw [if_neg c1, if_pos c2] at hm
      simp only [List.map_cons, List.map_nil, List.mem_cons, List.not_mem_nil, or_false] at hm
      rcases hm with e | e <;> exact hne _ (by omega) (by omega) e.symm
    by_cases c3 : r < 65536
    · rw [if_neg c1, if_neg c2, if_pos c3] at hm
      simp only [List.map_cons, List.map_nil, List.mem_cons, List.not_mem_nil, or_false] at hm
      rcases hm with e | e | e <;> exact hne _ (by omega) (by omega) e.symm
    · rw [if_neg c1, if_neg c2, if_neg c3] at hm
      simp only [List.map_cons, List.map_nil, List.mem_cons, List.not_mem_nil, or_false] at hm
      rcases hm with e | e | e | e <;> exact hne _ (by omega) (by omega) e.symm
  · rintro rfl; decide
theorem flat_47 {m : List Nat} (h : ∀ r ∈ m, vN r) : (47 : UInt8) ∈ flat m ↔ 47 ∈ m := by
  unfold flat
  rw [List.mem_flatMap]
  constructor
  · rintro ⟨r, hr, h2⟩
    rw [← (enc_47 (h r hr)).1 h2]; exact hr
  · intro h2
    exact ⟨47, h2, (enc_47 (h 47 h2)).2 rfl⟩
theorem check_spec {s : List UInt8} (h : check s = true) : (47 : UInt8) ∉ s ∧ s ≠ [] := by
  unfold check at h
  cases hs : spell s with
  | none => rw [hs] at h; cases h
  | some l =>
    rw [hs] at h
    obtain ⟨m, rfl, hm, rfl⟩ := spell_iff.1 hs
    simp only [okL, Bool.and_eq_true, Bool.not_eq_true', Bool.or_eq_false_iff, decide_eq_false_iff_not] at h
    obtain ⟨⟨h1, _⟩, h2⟩ := h
    refine ⟨fun h3 => ?_, fun h3 => ?_⟩
    · have h4 := (flat_47 hm).1 h3
      have h5 : (47 : Int) ∈ ints m := List.mem_map.2 ⟨47, h4, rfl⟩
      rw [List.any_eq_false] at h2
      exact absurd (show barred 47 = true by decide) (h2 47 h5)
    · rw [h3] at hs
      have e : ints m = [] := by
        have : spell [] = some [] := rfl
        rw [this] at hs
        exact (Option.some.inj hs).symm
      rw [e] at h1
      exact h1 (by simp)
theorem check_mark {a b : List UInt8} : check (a ++ 47 :: b) = false := by
  cases h : check (a ++ 47 :: b) with
  | false => rfl
  | true => exact absurd (show (47 : UInt8) ∈ a ++ 47 :: b by simp) (check_spec h).1
theorem fit_spec {l : List (List UInt8)} (h : fit l = true) : l.length ≤ 16 ∧ ∀ t ∈ l, (47 : UInt8) ∉ t ∧ t ≠ [] := by
  unfold fit at h
  simp only [Bool.and_eq_true, decide_eq_true_eq, List.all_eq_true] at h
  exact ⟨h.1, fun t ht => check_spec (h.2 t ht)⟩
/-- What was joined is split again. -/
theorem paths_join {l : List (List UInt8)} {w : List UInt8} (h : join l = some w) : paths w = some l := by
  unfold join at h
  split at h
  · rename_i hf
    obtain ⟨h1, h2⟩ := fit_spec hf
    cases h
    cases l with
    | nil => rfl
    | cons x l =>
      have hx := h2 x (by simp)
      unfold paths
      rw [if_neg (fun e => by
        have : glue (x :: l) = [] := (List.cons.inj e).2
        simp [glue, hx.2] at this)]
      show (if (47 : UInt8) = 47 then (if fit (split (glue (x :: l))) = true then some (split (glue (x :: l))) else none) else none) = _
      rw [if_pos rfl, split_glue x l (fun t ht => (h2 t ht).1), if_pos hf]
  · cases h
/-- What was split is joined again. -/
theorem join_paths {p : List UInt8} {l : List (List UInt8)} (h : paths p = some l) : join l = some p := by
  unfold paths at h
  split at h
  · rename_i hp
    cases h; subst hp; rfl
  · split at h
    · cases h
    · rename_i b r
      split at h
      · rename_i hb
        split at h
        · rename_i hf
          cases h
          unfold join
          rw [if_pos hf, glue_split, hb]
        · cases h
      · cases h
theorem paths_two {a b : List UInt8} (ha : check a = true) (hb : check b = true) : paths (47 :: a ++ 47 :: b) = some [a, b] := by
  have h1 := check_spec ha
  have h2 := check_spec hb
  have e : split (a ++ 47 :: b) = [a, b] := by rw [split_app h1.1, split_one h2.1]
  unfold paths
  rw [if_neg (by simp)]
  show (if (47 : UInt8) = 47 then (if fit (split (a ++ 47 :: b)) = true then some (split (a ++ 47 :: b)) else none) else none) = _
  rw [if_pos rfl, e, if_pos (by unfold fit; simp [ha, hb])]
theorem split_small : ∀ (s : List UInt8), ∀ t ∈ split s, t.length ≤ s.length
  | [] => by simp [split]
  | b :: l => by
    have ih := split_small l
    rw [split]
    split
    · intro t ht
      rcases List.mem_cons.1 ht with rfl | ht
      · simp
      · have := ih t ht; simp; omega
    · split
      · simp
      · rename_i h t' hs
        rw [hs] at ih
        intro t ht
        rcases List.mem_cons.1 ht with rfl | ht
        · have := ih h (by simp); simp; omega
        · have := ih t (by simp [ht]); simp; omega
theorem paths_small {p : List UInt8} {y : List (List UInt8)} (h : paths p = some y) : ∀ t ∈ y, t.length ≤ p.length := by
  unfold paths at h
  by_cases h0 : p = [47]
  · rw [if_pos h0] at h; cases h; simp
  rw [if_neg h0] at h
  cases p with
  | nil => cases h
  | cons b r =>
    have h : (if b = 47 then (if fit (split r) = true then some (split r) else none) else none) = some y := h
    split at h
    · split at h
      · cases h
        intro t ht
        have := split_small r t ht
        simp; omega
      · cases h
    · cases h
theorem glue_len : ∀ (l : List (List UInt8)), (∀ t ∈ l, t.length ≤ 1000) → (glue l).length ≤ l.length * 1001
  | [], _ => by simp [glue]
  | [x], h => by have := h x (by simp); simp [glue]; omega
  | x :: y :: l, h => by
    have e : glue (x :: y :: l) = x ++ 47 :: glue (y :: l) := by simp [glue]
    have := glue_len (y :: l) (fun t ht => h t (by simp [ht]))
    have := h x (by simp)
    rw [e, List.length_append, List.length_cons]
    simp only [List.length_cons] at *
    omega
theorem join_len {l : List (List UInt8)} {w : List UInt8} (h : join l = some w) (hl : ∀ t ∈ l, t.length ≤ 1000) : w.length ≤ 20000 := by
  unfold join at h
  split at h
  · rename_i hf
    have := (fit_spec hf).1
    have := glue_len l hl
    cases h
    rw [List.length_cons]
    omega
  · cases h
/-- A path of so many times one text. -/
def many (s : List UInt8) (k : Nat) : List UInt8 := (List.replicate k (47 :: s)).flatten
theorem many_succ (s : List UInt8) (k : Nat) : many s (k + 1) = many s k ++ [47] ++ s := by
  unfold many
  rw [List.replicate_succ', List.flatten_append]; simp
theorem many_len (s : List UInt8) (k : Nat) : (many s k).length = k * (s.length + 1) := by
  induction k with
  | zero => simp [many]
  | succ k ih => rw [many_succ, List.length_append, List.length_append, ih, Nat.succ_mul]; simp; omega
theorem many_glue (s : List UInt8) {k : Nat} (hk : 0 < k) : many s k = 47 :: glue (List.replicate k s) := by
  obtain ⟨k, rfl⟩ : ∃ j, k = j + 1 := ⟨k - 1, by omega⟩
  unfold many
  rw [List.replicate_succ, List.replicate_succ, glue, List.map_replicate]; simp
theorem fit_many {s : List UInt8} {k : Nat} (hk : 0 < k) : fit (List.replicate k s) = (check s && decide (k ≤ 16)) := by
  unfold fit
  rw [List.length_replicate, List.all_replicate, if_neg (by omega), Bool.and_comm]
theorem join_many {s : List UInt8} {k : Nat} (hk : 0 < k) : join (List.replicate k s) = if (check s && decide (k ≤ 16)) = true then some (many s k) else none := by
  unfold join
  rw [fit_many hk, many_glue s hk]
theorem paths_many {s : List UInt8} {k : Nat} (hk : 0 < k) : paths (many s k) = none ∨ (s ≠ [] ∧ (paths (many s k)).getD [] ≠ []) ∨ many s k = [47] := by
  by_cases h0 : many s k = [47]
  · exact .inr (.inr h0)
  have e : paths (many s k) = if fit (split (glue (List.replicate k s))) = true then some (split (glue (List.replicate k s))) else none := by
    rw [many_glue s hk] at h0 ⊢
    unfold paths
    rw [if_neg h0]
    exact if_pos rfl
  rw [e]
  split
  · rename_i hf
    refine .inr (.inl ⟨fun hs => ?_, split_ne _⟩)
    subst hs
    obtain ⟨k, rfl⟩ : ∃ j, k = j + 1 := ⟨k - 1, by omega⟩
    cases k with
    | zero => exact h0 rfl
    | succ k =>
      have e2 : glue (List.replicate (k + 1 + 1) ([] : List UInt8)) = 47 :: glue (List.replicate (k + 1) []) := by
        rw [List.replicate_succ, List.replicate_succ]; simp [glue]
      rw [e2, split, if_pos rfl] at hf
      have := (fit_spec hf).2 [] (by simp)
      exact this.2 rfl
  · exact .inl rfl
end Gw.Name
