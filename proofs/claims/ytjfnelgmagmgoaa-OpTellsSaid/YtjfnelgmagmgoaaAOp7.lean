/- OpLate, told without addresses. No claim of its own. -/
import Derived.Test.YtjfnelgmagmgoaaAOp6
namespace Go.Proofs.Ytjfnelgmagmgoaa
open Go.Am

theorem few_fine {l : List Gw.Op.Op} (h : Gw.Op.fewL l = true) (hi : ∀ o ∈ l, I64 o.node ∧ I64 o.parent) : ∀ o ∈ l, Fine o := fun o ho => by
  have := List.all_eq_true.1 h o ho
  simp only [Bool.and_eq_true, decide_eq_true_eq] at this
  exact ⟨(hi o ho).1, (hi o ho).2, by omega, by omega⟩

theorem late_pc (o : Gw.Op.Op) (hn : I64 o.node) (hp : I64 o.parent) (hlen : o.name.length ≤ 9223372036854775807) (counter : Int) : PC Try.prog 8 [encO o, .int .i64 counter] (.bool true) := by
  have hfew := few_pc false [o] 1 (by simp)
  have hof1 := of_pc o.node hn
  have hof2 := of_pc o.parent hp
  have hls1 := less_pc o.at_ (Gw.Stamp.of o.node)
  have hls2 := less_pc o.at_ (Gw.Stamp.of o.parent)
  refine PC.of tabOk mixed (fn := Try.f8) (by kernel_rfl) rfl (by kernel_rfl) rfl rfl ?_
  conv => whnf
  refine AC.of_pc awake_pc rfl ?_
  conv => whnf
  refine AC.of_pc hfew rfl ?_
  conv => whnf
  refine ⟨fun _ => ?_, fun h => ?_⟩
  · conv => whnf
  have h : Gw.Op.fewL [o] = true := by
    have h : (!(Gw.Op.fewL [o] && decide (([o].length : Int) ≤ 1))) = false := h
    simp only [Bool.not_eq_false', Bool.and_eq_true] at h
    exact h.1
  have hf : Fine o := few_fine h (fun o' ho => by rw [List.mem_singleton] at ho; subst ho; exact ⟨hn, hp⟩) o (by simp)
  have hck := opCheck_pc o hf
  have hlate := opCheck_pc { o with at_ := ⟨counter, o.at_.r⟩ } ⟨hf.node, hf.parent, hf.name, hf.data⟩
  conv => whnf
  cases hcheck : Gw.Op.check o with
  | false =>
    rw [hcheck] at hck
    refine AC.of_pc hck rfl ?_
    conv => whnf
    repeat (first | refine ⟨fun _ => ?_, fun h => absurd h (by decide)⟩ | refine ⟨fun h => absurd h (by decide), fun _ => ?_⟩
            (conv => whnf))
  | true =>
    obtain ⟨k1, k2, k3, _⟩ := Gw.Op.not_later hcheck
    have kl := fun hk => Gw.Op.late_counter hcheck (k := counter) hk
    unfold Gw.Stamp.later at k2 k3
    rw [hcheck] at hck
    rw [k1, Bool.true_and] at k2
    rw [k2] at hls1
    rw [k1] at hof1
    refine AC.of_pc hck rfl ?_
    conv => whnf
    repeat (first | refine ⟨fun _ => ?_, fun h => absurd h (by decide)⟩ | refine ⟨fun h => absurd h (by decide), fun _ => ?_⟩
            (conv => whnf))
    refine AC.of_pc hof1 rfl ?_
    cases hin : Gw.Stamp.ok o.parent with
    | false =>
      rw [hin] at hof2 kl
      generalize Gw.Stamp.of o.node = s1 at *
      generalize Gw.Stamp.of o.parent = s2 at *
      generalize Gw.Stamp.file o.node = f1 at *
      generalize Gw.Stamp.file o.parent = f2 at *
      conv => whnf
      refine AC.of_pc hof2 rfl ?_
      conv => whnf
      refine ⟨fun h => ?_, fun h => ?_⟩
      · rw [kl (.inl (of_decide_eq_true h))] at hlate
        conv => whnf
        repeat (first | refine ⟨fun _ => ?_, fun h => absurd h (by decide)⟩ | refine ⟨fun h => absurd h (by decide), fun _ => ?_⟩ | refine AC.of_pc hls1 rfl ?_ | refine AC.of_pc hls2 rfl ?_ | refine AC.of_pc hlate rfl ?_
                (conv => whnf))
        rfl
      · conv => whnf
        repeat (first | refine ⟨fun _ => ?_, fun h => absurd h (by decide)⟩ | refine ⟨fun h => absurd h (by decide), fun _ => ?_⟩ | refine AC.of_pc hls1 rfl ?_ | refine AC.of_pc hls2 rfl ?_
                (conv => whnf))
    | true =>
      rw [hin, Bool.true_and] at k3
      rw [k3] at hls2
      rw [hin] at hof2 kl
      generalize Gw.Stamp.of o.node = s1 at *
      generalize Gw.Stamp.of o.parent = s2 at *
      generalize Gw.Stamp.file o.node = f1 at *
      generalize Gw.Stamp.file o.parent = f2 at *
      conv => whnf
      refine AC.of_pc hof2 rfl ?_
      conv => whnf
      refine ⟨fun h => ?_, fun h => ?_⟩
      · rw [kl (.inl (of_decide_eq_true h))] at hlate
        conv => whnf
        repeat (first | refine ⟨fun _ => ?_, fun h => absurd h (by decide)⟩ | refine ⟨fun h => absurd h (by decide), fun _ => ?_⟩ | refine AC.of_pc hls1 rfl ?_ | refine AC.of_pc hls2 rfl ?_ | refine AC.of_pc hlate rfl ?_
                (conv => whnf))
        rfl
      · conv => whnf
        repeat (first | refine ⟨fun _ => ?_, fun h => absurd h (by decide)⟩ | refine ⟨fun h => absurd h (by decide), fun _ => ?_⟩ | refine AC.of_pc hls1 rfl ?_ | refine AC.of_pc hls2 rfl ?_
                (conv => whnf))
        refine ⟨fun h => ?_, fun h => ?_⟩
        · have h : decide (counter < s2.c) = false := by simpa using h
          conv => whnf
        · have h : decide (counter < s2.c) = true := by simpa using h
          rw [kl (.inr ⟨rfl, of_decide_eq_true h⟩)] at hlate
          conv => whnf
          repeat (first | refine ⟨fun _ => ?_, fun h => absurd h (by decide)⟩ | refine ⟨fun h => absurd h (by decide), fun _ => ?_⟩ | refine AC.of_pc hls1 rfl ?_ | refine AC.of_pc hls2 rfl ?_ | refine AC.of_pc hlate rfl ?_
                  (conv => whnf))
          rfl
end Go.Proofs.Ytjfnelgmagmgoaa
