/- OpTells, told without addresses. No claim of its own. -/
import Derived.Test.YtjfnelgmagmgoaaAROp3
namespace Go.Proofs.Ytjfnelgmagmgoaa
open Go.Am

theorem tells_pc (nil : Bool) (o p : Gw.Op.Op) (l : List Gw.Op.Op) (b : List UInt8) (hio : I64 o.node ∧ I64 o.parent) (hip : I64 p.node ∧ I64 p.parent) (hil : ∀ o ∈ l, I64 o.node ∧ I64 o.parent) (hl : (l.length + 2) * 72 ≤ 140737488355328) :
    PC Try.prog 3 [encO o, encO p, .lst nil 7 (encOs l) .none, .str b] (.bool true) := by
  have hfew := few_pc false (l ++ [o, p]) 102 (by rw [List.length_append]; simp; omega)
  have hlen := encOs_len l
  rw [encOs_app] at hfew
  have hF1 : Fits (([] : List (List V)).length + (encOs l).length) 72 := by unfold Fits; rw [List.length_nil, hlen]; omega
  have hF2 : 0 + (encOs l).length = ([] ++ encOs l).length ∧ Fits (([] ++ encOs l).length + 2) 72 := by unfold Fits; rw [List.nil_append, hlen]; omega
  refine PC.of tabOk mixed (fn := Try.f3) (by kernel_rfl) rfl (by kernel_rfl) rfl rfl ?_
  conv => whnf
  refine AC.of_pc awake_pc rfl ?_
  conv => whnf
  refine ⟨hF1, ?_⟩
  conv => whnf
  refine ⟨hF2, ?_⟩
  conv => whnf
  refine ⟨_, rfl, hfew, ?_⟩
  conv => whnf
  refine ⟨fun _ => ?_, fun h => ?_⟩
  · conv => whnf
    refine ⟨by kernel_rfl, ?_⟩
    conv => whnf
  have h : Gw.Op.fewL (l ++ [o, p]) = true ∧ (l ++ [o, p]).length ≤ 102 := by
    have h : (!(Gw.Op.fewL (l ++ [o, p]) && decide (((l ++ [o, p]).length : Int) ≤ 102))) = false := h
    simp only [Bool.not_eq_false', Bool.and_eq_true, decide_eq_true_eq] at h
    exact ⟨h.1, by omega⟩
  obtain ⟨hfw, hl2⟩ := h
  have hl2 : l.length ≤ 100 := by rw [List.length_append] at hl2; simp at hl2; omega
  have hall := few_fine hfw (fun q hq => by
    rcases List.mem_append.1 hq with hq | hq
    · exact hil q hq
    · rcases List.mem_cons.1 hq with rfl | hq
      · exact hio
      · rw [List.mem_singleton] at hq; subst hq; exact hip)
  have hfo : Fine o := hall o (by simp)
  have hfl : ∀ q ∈ l, Fine q := fun q hq => hall q (List.mem_append.2 (.inl hq))
  conv => whnf
  refine ⟨by kernel_rfl, ?_⟩
  conv => whnf
  refine ⟨fun _ => ?_, fun h => ?_⟩
  · conv => whnf
  have hb : b.length ≤ 3000 := by have := of_decide_eq_false h; omega
  have p1 := opPut_pc b o hfo (by omega)
  have p2 := rput_pc b o hfo (by omega)
  have t1 := opTake_pc b (by omega)
  have t2 := ropTake_pc b (by omega)
  have w1 := opWrite_pc' nil l hfl (by omega)
  have w2 := rwrite_pc nil l hfl (by omega)
  have r1 := read_pc b (by omega)
  have r2 := rread_pc b (by omega)
  have c1 := opCheck_pc o hfo
  have c2 := rcheck_pc o hfo
  have l1 := opLess_pc o p
  have l2 := ropLess_pc o p
  generalize Gw.Op.put b o = P1 at *
  generalize Gw.Op.putErr o = E1 at *
  generalize (if l.all Gw.Op.check = true then outB l else []) = W1 at *
  generalize (if l.all Gw.Op.check = true then (0 : Int) else 50) = E2 at *
  generalize Gw.Op.check o = ck at *
  generalize Gw.Stamp.less o.at_ p.at_ = ls at *
  obtain ⟨xs, rs, e3, ht⟩ : ∃ (q : Gw.Op.Op) (r : List UInt8) (e : Int), opTakeV (Gw.Op.take b) = .tup [encO q, .str r, .int .i64 e] := by
    cases Gw.Op.take b with
    | none => exact ⟨⟨⟨0, 0⟩, 0, 0, 0, [], []⟩, [], 50, rfl⟩
    | some q => exact ⟨q.1, q.2, 0, rfl⟩
  obtain ⟨ny, y, e4, hy, hyl⟩ : ∃ (ny : Bool) (y : List Gw.Op.Op) (e : Int), readV (Gw.Op.read b) = .tup [.lst ny 7 (encOs y) .none, .int .i64 e] ∧ y.length ≤ 1048576 := by
    cases hr : Gw.Op.read b with
    | none => exact ⟨true, [], 50, rfl, by decide⟩
    | some y =>
      obtain ⟨h1, h2⟩ := Gw.Op.read_own hr
      have h3 := fewer h1
      rw [show outB y = b from h2.symm] at h3
      exact ⟨_, y, 0, rfl, by omega⟩
  rw [ht] at t1 t2
  rw [hy] at r1 r2
  have sm := opSame_pc ny ny y hyl
  conv => whnf
  refine AC.of_pc p1 rfl ?_
  conv => whnf
  refine AC.of_pc p2 rfl ?_
  conv => whnf
  refine AC.of_pc t1 rfl ?_
  conv => whnf
  refine AC.of_pc t2 rfl ?_
  conv => whnf
  refine AC.of_pc w1 rfl ?_
  conv => whnf
  refine AC.of_pc w2 rfl ?_
  conv => whnf
  refine AC.of_pc r1 rfl ?_
  conv => whnf
  refine AC.of_pc r2 rfl ?_
  conv => whnf
  refine ⟨_, rfl, c1, ?_⟩
  conv => whnf
  refine ⟨_, rfl, c2, ?_⟩
  conv => whnf
  repeat (first | refine ⟨fun _ => ?_, fun h => absurd h (by simp)⟩ | refine ⟨_, rfl, l1, ?_⟩ | refine ⟨_, rfl, l2, ?_⟩ | refine AC.of_pc sm rfl ?_ | refine ⟨by kernel_rfl, ?_⟩
          (conv => whnf))
  rw [show (e4 == e4) = true by simp]
end Go.Proofs.Ytjfnelgmagmgoaa
