/- The law CallMay: told without addresses. No claim of its own. -/
import Derived.Test.YtfmhkfijnflalaaDoorACall5
namespace Go.Proofs.YtfmhkfijnflalaaDoor
open Go.Am

theorem few_len {l : List Gw.Call.Call} (h : Gw.Call.fewL l = true) {o : Gw.Call.Call} (ho : o ∈ l) : o.path.length ≤ 1000 ∧ o.to.length ≤ 1000 ∧ o.data.length ≤ 5000 := by
  have h2 := List.all_eq_true.1 h _ ho
  simpa only [Bool.and_eq_true, decide_eq_true_eq] using h2
theorem few_one {l : List Gw.Call.Call} {m : Int} (h : (!(Gw.Call.fewL l && decide ((l.length : Int) ≤ m))) = false) : Gw.Call.fewL l = true ∧ (l.length : Int) ≤ m := by
  simpa using h
theorem path_ne {s : List UInt8} (h : Gw.Call.pathOk s = true) : ∃ c t, s = c :: t := by
  obtain ⟨_, h⟩ := Gw.Call.pathOk_len h
  exact ⟨_, _, (List.exists_cons_of_ne_nil h).choose_spec.choose_spec⟩
/-- What is known of a call that may be. -/
theorem may_parts {c : Gw.Call.Call} (h : Gw.Call.check c = true) : 0 ≤ c.n ∧
    (((c.kind = 1 ∨ c.kind = 2 ∨ c.kind = 6 ∨ c.kind = 10) ∧ (∃ x t, c.path = x :: t) ∧ c.to = [] ∧ c.data = [] ∧ c.n = 0) ∨ (c.kind = 3 ∧ (∃ x t, c.path = x :: t) ∧ c.to = [] ∧ c.data.length ≤ 64 ∧ c.n = 0) ∨
      ((c.kind = 4 ∨ c.kind = 7) ∧ (∃ x t, c.path = x :: t) ∧ c.to = [] ∧ c.data = []) ∨ (c.kind = 5 ∧ (∃ x t, c.path = x :: t) ∧ (∃ x t, c.to = x :: t) ∧ c.data = [] ∧ c.n = 0) ∨
      ((c.kind = 9 ∨ c.kind = 11) ∧ c.path = [] ∧ c.to = [] ∧ c.data = []) ∨ (c.kind = 13 ∧ c.path = [] ∧ c.to = [] ∧ c.data.length ≤ 4000 ∧ c.n = 0) ∨ ((c.kind = 8 ∨ c.kind = 12) ∧ c.path = [] ∧ c.to = [] ∧ c.data = [] ∧ c.n = 0)) := by
  obtain ⟨p, hh, hok⟩ := Gw.Call.check_some h
  have hf := has_few hh
  rw [okP_eq] at hok
  have hm : (c.kind = 13 → Gw.Call.most c.kind = 4000) ∧ (c.kind ≠ 13 → Gw.Call.most c.kind = 64) := by
    unfold Gw.Call.most; constructor <;> intro h <;> simp [h]
  generalize Gw.Call.most c.kind = M at hm hok
  rcases hf with ⟨hk, rfl⟩ | ⟨hk, rfl⟩ | ⟨hk, rfl⟩ | ⟨hk, rfl⟩ | ⟨hk, rfl⟩ | ⟨hk, rfl⟩ | ⟨hk, rfl⟩
  all_goals simp only [cond_true, cond_false, Bool.and_eq_true, decide_eq_true_eq, beq_iff_eq] at hok
  · exact ⟨by omega, .inl ⟨hk, path_ne hok.1, hok.2.1, hok.2.2.1, hok.2.2.2⟩⟩
  · exact ⟨by omega, .inr (.inl ⟨hk, path_ne hok.1, hok.2.1, by omega, hok.2.2.2⟩)⟩
  · exact ⟨by omega, .inr (.inr (.inl ⟨hk, path_ne hok.1, hok.2.1, hok.2.2.1⟩))⟩
  · exact ⟨by omega, .inr (.inr (.inr (.inl ⟨hk, path_ne hok.1, path_ne hok.2.1, hok.2.2.1, hok.2.2.2⟩)))⟩
  · exact ⟨by omega, .inr (.inr (.inr (.inr (.inl ⟨hk, hok.1, hok.2.1, hok.2.2.1⟩))))⟩
  · exact ⟨by omega, .inr (.inr (.inr (.inr (.inr (.inl ⟨hk, hok.1, hok.2.1, by omega, hok.2.2.2⟩)))))⟩
  · exact ⟨by omega, .inr (.inr (.inr (.inr (.inr (.inr ⟨hk, hok.1, hok.2.1, hok.2.2.1, hok.2.2.2⟩)))))⟩
/-- A call's data may be left out. -/
theorem bare_check {c : Gw.Call.Call} (h : Gw.Call.check c = true) : Gw.Call.check ⟨c.kind, c.path, c.to, [], c.n⟩ = true := by
  obtain ⟨p, hh, hok⟩ := Gw.Call.check_some h
  unfold Gw.Call.check
  show (match Gw.Call.has c.kind with | none => false | some p => Gw.Call.okP p ⟨c.kind, c.path, c.to, [], c.n⟩) = true
  rw [hh]
  show Gw.Call.okP p _ = true
  rw [okP_eq] at hok ⊢
  simp only [Bool.and_eq_true] at hok ⊢
  obtain ⟨h1, h2, h3, h4⟩ := hok
  refine ⟨h1, h2, ?_, h4⟩
  cases p.data
  · rfl
  · simp
/-- A greater number may be where there is one. -/
theorem more_check {c : Gw.Call.Call} (h : Gw.Call.check c = true) (m : Int) (hm : 0 < m) : Gw.Call.check ⟨c.kind, c.path, c.to, c.data, m⟩ = (decide (c.kind = 4) || (decide (c.kind = 7) || (decide (c.kind = 9) || decide (c.kind = 11)))) := by
  obtain ⟨p, hh, hok⟩ := Gw.Call.check_some h
  have hf := has_few hh
  unfold Gw.Call.check
  show (match Gw.Call.has c.kind with | none => false | some p => Gw.Call.okP p ⟨c.kind, c.path, c.to, c.data, m⟩) = _
  rw [hh]
  show Gw.Call.okP p _ = _
  rw [okP_eq] at hok ⊢
  simp only [Bool.and_eq_true] at hok
  obtain ⟨h1, h2, h3, _⟩ := hok
  show (_ && (_ && (_ && (bif p.n then decide (0 ≤ m) else (m == 0))))) = _
  rw [h1, h2]
  show (true && (true && ((bif p.data then decide ((c.data.length : Int) ≤ (Gw.Call.most c.kind : Nat)) else decide (c.data = [])) && _))) = _
  rw [h3]
  rw [Bool.eq_iff_iff]
  rcases hf with ⟨hk, rfl⟩ | ⟨hk, rfl⟩ | ⟨hk, rfl⟩ | ⟨hk, rfl⟩ | ⟨hk, rfl⟩ | ⟨hk, rfl⟩ | ⟨hk, rfl⟩
  all_goals simp only [cond_true, cond_false, Bool.true_and, Bool.or_eq_true, decide_eq_true_eq, beq_iff_eq]; omega
end Go.Proofs.YtfmhkfijnflalaaDoor
