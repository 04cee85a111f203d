/- What the document's Check for call computes: told without addresses. No claim of its own. -/
import Derived.Test.YtfmhkfijnflalaaDoorACallR1
namespace Go.Proofs.YtfmhkfijnflalaaDoor
open Go.Am

theorem rcallcheck_pc (c : Gw.Call.Call) (h1 : c.path.length ≤ 100000) (h2 : c.to.length ≤ 100000) : PC Tryd.prog 19 [encK c] (.bool (Gw.Call.check c)) := by
  have ch := rof_pc c.kind
  have cp := rpath_pc c.path h1
  have ct := rpath_pc c.to h2
  unfold encK cellsK
  unfold Gw.Call.check
  cases hh : Gw.Call.has c.kind with
  | none =>
    rw [hh] at ch
    have cp := cp false
    have ct := ct false
    simp only [cond_false] at cp ct
    refine PC.of tabOk mixed (fn := Tryd.f19) (by kernel_rfl) rfl (by kernel_rfl) rfl rfl ?_
    conv => whnf
    refine AC.of_pc ch rfl ?_
    conv => whnf
    refine AC.of_pc cp rfl ?_
    conv => whnf
    refine AC.of_pc ct rfl ?_
    conv => whnf
    repeat ((first | refine ⟨fun _ => ?_, fun h => absurd h (by decide)⟩ | refine ⟨fun h => absurd h (by decide), fun _ => ?_⟩ | refine ⟨fun _ => ?_, fun h => absurd (show true = false from h) (by decide)⟩ | refine ⟨fun h => absurd (show false = true from h) (by decide), fun _ => ?_⟩)
            (conv => whnf))
    all_goals rfl
  | some p =>
    rw [hh] at ch
    have cp := cp p.path
    have ct := ct p.to
    have hf := has_few hh
    clear hh
    show PC _ _ _ (.bool (Gw.Call.okP p c))
    rw [okP_eq]
    generalize (bif p.path then Gw.Call.pathOk c.path else decide (c.path = [])) = A at cp ⊢
    generalize (bif p.to then Gw.Call.pathOk c.to else decide (c.to = [])) = B at ct ⊢
    have hg : ∀ D : Bool, ((bif p.data then decide ((c.data.length : Int) ≤ (Gw.Call.most c.kind : Nat)) else decide (c.data = [])) && (bif p.n then decide (0 ≤ c.n) else (c.n == 0))) = D → PC Tryd.prog 19 [V.agg [V.int .i64 c.kind, V.str c.path, V.str c.to, V.str c.data, V.int .i64 c.n]] (.bool (A && (B && D))) := by
      intro D hD
      have hm : (c.kind = 13 → Gw.Call.most c.kind = 4000) ∧ (c.kind ≠ 13 → Gw.Call.most c.kind = 64) := by
        unfold Gw.Call.most; constructor <;> intro h <;> simp [h]
      generalize Gw.Call.most c.kind = M at hm hD
      cases A with
      | false =>
        refine PC.of tabOk mixed (fn := Tryd.f19) (by kernel_rfl) rfl (by kernel_rfl) rfl rfl ?_
        conv => whnf
        refine AC.of_pc ch rfl ?_
        conv => whnf
        refine AC.of_pc cp rfl ?_
        conv => whnf
        refine AC.of_pc ct rfl ?_
        conv => whnf
        repeat ((first | refine ⟨fun _ => ?_, fun h => absurd h (by decide)⟩ | refine ⟨fun h => absurd h (by decide), fun _ => ?_⟩ | refine ⟨fun _ => ?_, fun h => absurd (show true = false from h) (by decide)⟩ | refine ⟨fun h => absurd (show false = true from h) (by decide), fun _ => ?_⟩)
                (conv => whnf))
        all_goals rfl
      | true =>
      cases B with
      | false =>
        refine PC.of tabOk mixed (fn := Tryd.f19) (by kernel_rfl) rfl (by kernel_rfl) rfl rfl ?_
        conv => whnf
        refine AC.of_pc ch rfl ?_
        conv => whnf
        refine AC.of_pc cp rfl ?_
        conv => whnf
        refine AC.of_pc ct rfl ?_
        conv => whnf
        repeat ((first | refine ⟨fun _ => ?_, fun h => absurd h (by decide)⟩ | refine ⟨fun h => absurd h (by decide), fun _ => ?_⟩ | refine ⟨fun _ => ?_, fun h => absurd (show true = false from h) (by decide)⟩ | refine ⟨fun h => absurd (show false = true from h) (by decide), fun _ => ?_⟩)
                (conv => whnf))
        all_goals rfl
      | true =>
      rcases hf with ⟨hk, rfl⟩ | ⟨hk, rfl⟩ | ⟨hk, rfl⟩ | ⟨hk, rfl⟩ | ⟨hk, rfl⟩ | ⟨hk, rfl⟩ | ⟨hk, rfl⟩
      all_goals
        refine PC.of tabOk mixed (fn := Tryd.f19) (by kernel_rfl) rfl (by kernel_rfl) rfl rfl ?_
        conv => whnf
        refine AC.of_pc ch rfl ?_
        conv => whnf
        refine AC.of_pc cp rfl ?_
        conv => whnf
        refine AC.of_pc ct rfl ?_
        conv => whnf
        repeat ((first | refine ⟨fun _ => ?_, fun h => absurd h (by decide)⟩ | refine ⟨fun h => absurd h (by decide), fun _ => ?_⟩ | refine ⟨fun _ => ?_, fun h => absurd (show true = false from h) (by decide)⟩ | refine ⟨fun h => absurd (show false = true from h) (by decide), fun _ => ?_⟩)
                (conv => whnf))
        repeat' (first | ((first | refine ⟨fun _ => ?_, fun h => absurd h (by decide)⟩ | refine ⟨fun h => absurd h (by decide), fun _ => ?_⟩ | refine ⟨fun _ => ?_, fun h => absurd (show true = false from h) (by decide)⟩ | refine ⟨fun h => absurd (show false = true from h) (by decide), fun _ => ?_⟩); conv => whnf) | (refine And.intro (fun q => ?_) (fun q => ?_) <;> conv => whnf) | fail "end")
        all_goals
          clear ch cp ct
          subst hD
          apply congrArg V.bool
          rw [Bool.eq_iff_iff]
          simp only [decide_eq_true_eq, decide_eq_false_iff_not, beq_iff_eq, beq_eq_false_iff_ne, ne_eq, Bool.true_and, Bool.and_eq_true, cond_true, cond_false, Bool.false_eq_true, false_iff, true_iff, ← List.length_eq_zero_iff] at *
          omega
    exact hg _ rfl
end Go.Proofs.YtfmhkfijnflalaaDoor
