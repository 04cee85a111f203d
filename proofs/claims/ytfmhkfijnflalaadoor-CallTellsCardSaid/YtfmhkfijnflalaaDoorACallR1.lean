/- What the document's answer for call computes: Of, path, Check: told without addresses. No claim of its own. -/
import Derived.Test.YtfmhkfijnflalaaDoorACall3
import Derived.Test.YtfmhkfijnflalaaDoorARSplit
namespace Go.Proofs.YtfmhkfijnflalaaDoor
open Go.Am

def noParts : Gw.Call.Parts := ⟨false, false, false, false⟩
def ofV (o : Option Gw.Call.Parts) : V := match o with
  | none => .agg [.bool false, .bool false, .bool false, .bool false, .bool false]
  | some p => .agg [.bool true, .bool p.path, .bool p.to, .bool p.data, .bool p.n]
theorem rof_pc (k : Int) : PC Tryd.prog 28 [.int .i64 k] (ofV (Gw.Call.has k)) := by
  by_cases h : 1 ≤ k ∧ k ≤ 13
  · obtain ⟨h1, h2⟩ := h
    obtain rfl | rfl | rfl | rfl | rfl | rfl | rfl | rfl | rfl | rfl | rfl | rfl | rfl : k = 1 ∨ k = 2 ∨ k = 3 ∨ k = 4 ∨ k = 5 ∨ k = 6 ∨ k = 7 ∨ k = 8 ∨ k = 9 ∨ k = 10 ∨ k = 11 ∨ k = 12 ∨ k = 13 := by omega
    all_goals
      refine PC.of tabOk mixed (fn := Tryd.f28) (by kernel_rfl) rfl (by kernel_rfl) rfl rfl ?_
      conv => whnf
      repeat (first | refine ⟨fun _ => ?_, fun h => absurd h (by decide)⟩ | refine ⟨fun h => absurd h (by decide), fun _ => ?_⟩ | refine ⟨fun _ => ?_, fun h => absurd (show true = false from h) (by decide)⟩ | refine ⟨fun h => absurd (show false = true from h) (by decide), fun _ => ?_⟩
              (conv => whnf))
      rfl
  · have e : Gw.Call.has k = none := by
      cases hh : Gw.Call.has k with
      | none => rfl
      | some p => exact absurd (Gw.Call.has_kind hh) h
    have ne : ∀ m : Int, 1 ≤ m → m ≤ 13 → ¬ (k == m) = true := fun m h1 h2 h3 => h (by simp at h3; omega)
    rw [e]
    refine PC.of tabOk mixed (fn := Tryd.f28) (by kernel_rfl) rfl (by kernel_rfl) rfl rfl ?_
    conv => whnf
    repeat (refine ⟨fun h => absurd h (ne _ (by decide) (by decide)), fun _ => ?_⟩
            (conv => whnf))
    rfl
theorem len_zero (s : List UInt8) : V.bool ((s.length : Int) == 0) = V.bool (decide (s = [])) := by
  congr 1; rw [Bool.eq_iff_iff]; simp
theorem rpath_pc (s : List UInt8) (hs : s.length ≤ 100000) (q : Bool) : PC Tryd.prog 34 [.str s, .bool q] (.bool (bif q then Gw.Call.pathOk s else decide (s = []))) := by
  have h1 := rsplit_pc s hs
  rw [pathsV_eq] at h1
  unfold Gw.Call.pathOk
  refine PC.of tabOk mixed (fn := Tryd.f34) (by kernel_rfl) rfl (by kernel_rfl) rfl rfl ?_
  cases ho : (Gw.Name.paths s).isSome with
  | true =>
    rw [ho, if_pos rfl] at h1
    conv => whnf
    refine AC.of_pc h1 rfl ?_
    cases q with
    | true =>
      conv => whnf
      refine ⟨fun _ => ?_, fun h => absurd h (by decide)⟩
      conv => whnf
      rfl
    | false =>
      conv => whnf
      refine ⟨fun h => absurd h (by decide), fun _ => ?_⟩
      conv => whnf
      exact len_zero s
  | false =>
    rw [ho, if_neg (by decide)] at h1
    conv => whnf
    refine AC.of_pc h1 rfl ?_
    cases q with
    | true =>
      conv => whnf
      refine ⟨fun _ => ?_, fun h => absurd h (by decide)⟩
      conv => whnf
      rfl
    | false =>
      conv => whnf
      refine ⟨fun h => absurd h (by decide), fun _ => ?_⟩
      conv => whnf
      exact len_zero s
end Go.Proofs.YtfmhkfijnflalaaDoor
