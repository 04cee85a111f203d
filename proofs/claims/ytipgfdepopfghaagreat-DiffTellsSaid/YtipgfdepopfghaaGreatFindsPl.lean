/- What is found at a path is what is seen below it, in plain Lean: no program in sight. -/
import Derived.Test.YtipgfdepopfghaaGreatForestPl
namespace Gw.View
open Gw.Tree (Node NodeOk)
def pathN (names : List (List UInt8)) : List UInt8 := (names.map fun s => 47 :: s).flatten
theorem pathN_glue (s : List UInt8) (r : List (List UInt8)) : pathN (s :: r) = 47 :: Gw.Name.glue (s :: r) := by
  unfold pathN
  simp [Gw.Name.glue]
/-- The parts of a path, as the law takes them. -/
def partsOf : List UInt8 → List (List UInt8)
  | [] => []
  | _ :: r => Gw.Name.split r
theorem parts_path {names : List (List UInt8)} (h : names ≠ []) (hn : ∀ t ∈ names, (47 : UInt8) ∉ t) : partsOf (pathN names) = names := by
  cases names with
  | nil => exact absurd rfl h
  | cons s r =>
    rw [pathN_glue]
    exact Gw.Name.split_glue s r hn
theorem inner_seen {l : List Node} {outs : List Int} {dir : Int} {s : List UInt8} {n : Node} (h : findM s (inner l outs dir) = some n) : findM s (seen l dir).2 = some n := by
  obtain ⟨b, hb⟩ := findM_mem h
  exact findM_of (seen_ok l dir).1.names (List.mem_filter.1 hb).1
theorem seen_inner {l : List Node} {outs : List Int} {dir : Int} {s : List UInt8} {n : Node} (h : findM s (seen l dir).2 = some n) (ho : n.id ∉ outs) : findM s (inner l outs dir) = some n := by
  obtain ⟨b, hb⟩ := findM_mem h
  refine findM_of (inner_ok l outs dir).names (List.mem_filter.2 ⟨hb, ?_⟩)
  simpa using ho
theorem pathOf_path (path s : List UInt8) (r : List (List UInt8)) : pathOf path s ++ pathN r = path ++ pathN (s :: r) := by
  unfold pathOf pathN
  simp
/-- What is seen below is found. -/
theorem below_found {l : List Node} (hc : Gw.Tree.check l = true) (hg : ∀ n ∈ l, NodeOk n) {outs : List Int} : ∀ (f : Nat) {dir : Int} {path : List UInt8}, Gw.Stamp.dir dir = true → ∀ it ∈ belowF l outs f dir path,
    ∃ names, names ≠ [] ∧ (∀ t ∈ names, (47 : UInt8) ∉ t) ∧ it.path = path ++ pathN names ∧ findF l dir names = (it.id, 0)
  | 0, _, _, _, it, h => by cases h
  | f + 1, dir, path, hd, it, h => by
    rw [belowF] at h
    obtain ⟨s, n, _, hf, hi⟩ := mem_levelF h
    obtain ⟨h1, h2, h3, h4⟩ := inner_find hf
    obtain ⟨_, q2, _⟩ := inDir_own h2
    have h47 := (Gw.Name.check_spec ((hg n h1).1 q2).2).1
    rw [h3] at h47
    have hch : child l dir s = some n := by unfold child; rw [if_pos hc]; exact inner_seen hf
    rcases List.mem_cons.1 hi with rfl | hi
    · refine ⟨[s], by simp, by simpa using h47, by show path ++ [47] ++ s = _; simp [pathN], ?_⟩
      rw [findF, if_pos hd, hch]
      rfl
    · split at hi
      · rename_i hdn
        obtain ⟨names, k1, k2, k3, k4⟩ := below_found hc hg f hdn it hi
        refine ⟨s :: names, by simp, fun t ht => (List.mem_cons.1 ht).elim (fun e => by rw [e]; exact h47) (k2 t), by rw [k3, pathOf_path], ?_⟩
        rw [findF, if_pos hd, hch]
        exact k4
      · cases hi
/-- What is found is seen below. -/
theorem found_below {l : List Node} (hc : Gw.Tree.check l = true) {outs : List Int} (hout : ∀ n ∈ l, n.id ∈ outs → False) {top : Int} (ht : top ∈ outs) : ∀ (names : List (List UInt8)) (f : Nat) {ids : List Int} {dir id : Int} {path : List UInt8}, names ≠ [] → Way l outs top ids dir → l.length ≤ ids.length + f →
    findF l dir names = (id, 0) → ∃ it ∈ belowF l outs f dir path, it.path = path ++ pathN names ∧ it.id = id
  | [], _, _, _, _, _, h, _, _, _ => absurd rfl h
  | s :: r, f, ids, dir, id, path, _, hw, hf, hfd => by
    rw [findF] at hfd
    by_cases hd : Gw.Stamp.dir dir = true
    · rw [if_pos hd] at hfd
      cases hch : child l dir s with
      | none => rw [hch] at hfd; simp at hfd
      | some n =>
        rw [hch] at hfd
        simp only at hfd
        obtain ⟨h1, h2, h3⟩ := child_mem hch
        have hdn := Way.down hw h1 (inDir_own h2).1 (fun h => hout n h1 h)
        have hl := hdn.len hc ht
        rw [List.length_append, List.length_singleton] at hl
        obtain ⟨f, rfl⟩ : ∃ g, f = g + 1 := ⟨f - 1, by omega⟩
        have hse : findM s (seen l dir).2 = some n := by unfold child at hch; rw [if_pos hc] at hch; exact hch
        have hin := seen_inner (outs := outs) hse (fun h => hout n h1 h)
        have hmem : ∀ it ∈ oneF (belowF l outs f) path s n, it ∈ belowF l outs (f + 1) dir path := fun it hi => by
          rw [belowF]
          unfold levelF
          refine List.mem_flatMap.2 ⟨s, (sortT_perm _).mem_iff.2 ?_, ?_⟩
          · obtain ⟨b, hb⟩ := findM_mem hin
            exact List.mem_map.2 ⟨_, hb, rfl⟩
          · unfold stepF
            rw [hin]
            exact hi
        cases r with
        | nil =>
          rw [findF] at hfd
          cases hfd
          exact ⟨_, hmem _ List.mem_cons_self, by show path ++ [47] ++ s = _; simp [pathN], rfl⟩
        | cons t r =>
          have hdir : Gw.Stamp.dir n.id = true := by
            rw [findF] at hfd
            by_cases h : Gw.Stamp.dir n.id = true
            · exact h
            · rw [if_neg h] at hfd; simp at hfd
          obtain ⟨it, k1, k2, k3⟩ := found_below hc hout ht (t :: r) f (path := pathOf path s) (by simp) hdn (by rw [List.length_append, List.length_singleton]; omega) hfd
          refine ⟨it, hmem it (List.mem_cons_of_mem _ (by rw [if_pos hdir]; exact k1)), by rw [k2, pathOf_path], k3⟩
    · rw [if_neg hd] at hfd
      simp at hfd
end Gw.View
