/- What the package sums computes: told without addresses. No claim of its own. -/
import Derived.Test.YtjhblbipjljojaaDoorAmTab
import Derived.Test.YtjhblbipjljojaaDoorSumsWalks
namespace Go.Proofs.YtjhblbipjljojaaDoor
open Go.Am Go.RowKit

theorem steps_of_gok {w : World} (h : GOk Tryd.prog w) : Steps w := by
  have hg : Tryd.prog.globalNamed "gunwale/sums.steps" = some 0 := by kernel_rfl
  have c0 := h _ (List.mem_singleton.2 rfl) _ hg 0 0 rfl
  have c1 := h _ (List.mem_singleton.2 rfl) _ hg 1 79764919 rfl
  exact ⟨cell_block c0, c0, c1⟩

theorem sum_pc (s : List UInt8) (hs : s.length ≤ maxLen) : PC Tryd.prog 93 [.lst false 1 [[.str s]] .none] (.int .u32 (Gw.Sums.sum s)) := by
  refine ⟨enters_of (fn := Tryd.f93) (by kernel_rfl) rfl (by kernel_rfl), fun w F vals hG hF hl hv => ?_⟩
  match vals, hl with
  | [v], _ =>
    have hp := hv 0 _ v rfl rfl
    cases hp with
    | @lst _ _ _ ad c vs hnil hc hsz ha hone h =>
      obtain ⟨blk, base, rfl, _, hcell⟩ := ha 0 [.str s] 0 (.str s) rfl rfl
      have hp0 := h 0 [.str s] 0 (.str s) rfl rfl
      generalize vs 0 0 = v0 at hcell hp0
      cases hp0 with
      | str hb =>
        rename_i b
        have S := steps_of_gok hG
        have hsz : b.size = s.length := by rw [← hb]; rfl
        have hh := sum_any [b] blk base c (by simpa using (by omega : b.size ≤ maxLen)) (by unfold maxLen; simp) w S.2.1 S.2.2 (by intro i hi; match i, hi with | 0, _ => simpa using hcell)
        have e : flatS [b] = s := by simp [flatS, hb]
        rw [e] at hh
        refine hh.mono fun e w' ⟨h1, h2⟩ => ?_
        subst h2
        exact ⟨_, F, h1, Below.refl _ _, fun _ _ h => h, fun _ _ h => .inl h, .int _ _⟩

theorem seal_pc (s : List UInt8) (hs : s.length < 1000000000) : PC Tryd.prog 75 [.str s] (.str (Gw.Sums.seal_ s)) :=
  .of_calls (enters_of (fn := Tryd.f75) (by kernel_rfl) rfl (by kernel_rfl)) rfl (fun w hG => seal_any ⟨s.toArray⟩ hs w (steps_of_gok hG)) (fun _ _ => .str (by
    simp [sumBytes, Gw.Sums.seal_]))
def openV (s : List UInt8) : V := if 4 ≤ s.length ∧ Gw.Sums.bytes (Gw.Sums.sum (s.take (s.length - 4))) = s.drop (s.length - 4) then .tup [.str (s.take (s.length - 4)), .bool true] else .tup [.str [], .bool false]
theorem textOf_list (s : List UInt8) : (textOf ⟨s.toArray⟩).data.toList = s.take (s.length - 4) := by
  unfold textOf
  rw [Lib.extract_data, Nat.sub_zero]
  rfl
theorem tailOf_list (s : List UInt8) : (tailOf ⟨s.toArray⟩).data.toList = s.drop (s.length - 4) := by
  unfold tailOf
  rw [Lib.extract_data]
  rw [List.take_of_length_le (by simp; exact Nat.le_refl _)]
  rfl
theorem openV_rep (s : List UInt8) (w : World) (F : Nat → Nat → Prop) : PRep w F (openV s) (openRes (decide (4 ≤ (⟨s.toArray⟩ : ByteArray).size) && openTrue ⟨s.toArray⟩) ⟨s.toArray⟩) := by
  have h1 : (openTrue ⟨s.toArray⟩ = true) ↔ Gw.Sums.bytes (Gw.Sums.sum (s.take (s.length - 4))) = s.drop (s.length - 4) := by
    unfold openTrue
    rw [ba_eq, tailOf_list]
    unfold sumBytes
    rw [textOf_list]
  unfold openV openRes
  by_cases h4 : 4 ≤ s.length
  · rw [decide_eq_true (show 4 ≤ (⟨s.toArray⟩ : ByteArray).size from h4), Bool.true_and]
    by_cases ho : openTrue ⟨s.toArray⟩ = true
    · rw [if_pos ⟨h4, h1.1 ho⟩, if_pos ho]
      exact .tup2 (.str (textOf_list s)) (.bool true)
    · rw [if_neg (fun h => ho (h1.2 h.2)), if_neg ho]
      exact .tup2 (.str rfl) (.bool false)
  · rw [decide_eq_false (show ¬ 4 ≤ (⟨s.toArray⟩ : ByteArray).size from h4), Bool.false_and, if_neg (fun h => h4 h.1), if_neg (by decide)]
    exact .tup2 (.str rfl) (.bool false)
theorem open_pc (s : List UInt8) (hs : s.length < 1000000000) : PC Tryd.prog 86 [.str s] (openV s) :=
  .of_calls (enters_of (fn := Tryd.f86) (by kernel_rfl) rfl (by kernel_rfl)) rfl (fun w hG => open_any ⟨s.toArray⟩ hs w (steps_of_gok hG)) (openV_rep s)
theorem sbytes_pc (n : Nat) (hn : n < 4294967296) : PC Tryd.prog 92 [.int .u32 n] (.str (Gw.Sums.bytes n)) :=
  .of_calls (enters_of (fn := Tryd.f92) (by kernel_rfl) rfl (by kernel_rfl)) rfl (fun w _ => bytes_any n hn w) (fun _ _ => .str rfl)
end Go.Proofs.YtjhblbipjljojaaDoor
