/- The law CallTells, told without addresses. No claim of its own. -/
import Derived.Test.YtfmhkfijnflalaaDoorACall10
namespace Go.Proofs.YtfmhkfijnflalaaDoor
open Go.Am

theorem tells_pc (nil : Bool) (c : Gw.Call.Call) (l : List Gw.Call.Call) (b : List UInt8) (hc : Gw.Call.Nn c) (hil : ∀ o ∈ l, Gw.Call.Nn o) (hl : (l.length + 2) * 64 ≤ 140737488355328) :
    PC Tryd.prog 3 [encK c, .lst nil 5 (encKs l) .none, .str b] (.bool true) := by
  have hfew := few_pc false (l ++ [c]) 101 (by rw [List.length_append]; simp; omega)
  have hlen := encKs_len l
  rw [encKs_app] at hfew
  have hF1 : Fits (([] : List (List V)).length + (encKs l).length) 64 := by unfold Fits; rw [List.length_nil, hlen]; omega
  have hF2 : 0 + (encKs l).length = ([] ++ encKs l).length ∧ Fits (([] ++ encKs l).length + 1) 64 := by unfold Fits; rw [List.nil_append, hlen]; omega
  refine PC.of tabOk mixed (fn := Tryd.f3) (by kernel_rfl) rfl (by kernel_rfl) rfl rfl ?_
  conv => whnf
  refine AC.of_pc awake_pc rfl ?_
  conv => whnf
  refine ⟨hF1, ?_⟩
  conv => whnf
  refine ⟨hF2, ?_⟩
  conv => whnf
  refine ⟨_, rfl, hfew, ?_⟩
  conv => whnf
  refine ⟨fun _ => ?_, fun h => ?_⟩
  · conv => whnf
    refine ⟨by kernel_rfl, ?_⟩
    conv => whnf
  obtain ⟨hfw, hl2⟩ := few_one h
  have hl2 : l.length ≤ 100 := by rw [List.length_append] at hl2; simp at hl2; omega
  obtain ⟨lc1, lc2, lc3⟩ := few_len hfw (List.mem_append.2 (.inr (List.mem_singleton.2 rfl)) : c ∈ l ++ [c])
  have hfl : ∀ q ∈ l, (q.path.length ≤ 100000 ∧ q.to.length ≤ 100000) ∧ Gw.Call.Nn q := fun q hq => by have := few_len hfw (List.mem_append.2 (.inl hq)); exact ⟨⟨by omega, by omega⟩, hil q hq⟩
  conv => whnf
  refine ⟨by kernel_rfl, ?_⟩
  conv => whnf
  refine ⟨fun _ => ?_, fun h => ?_⟩
  · conv => whnf
  have hb : b.length ≤ 5000 := by have := of_decide_eq_false h; omega
  have p1 := put_pc b c (by omega) (by omega) (by omega) hc
  have p2 := rput_pc b c (by omega) (by omega) (by omega) hc
  have t1 := calltake_pc b (by omega)
  have t2 := rcallTake_pc b (by omega)
  have w1 := write_pc' nil l (fun o h => ⟨⟨by have := (hfl o h).1.1; omega, by have := (hfl o h).1.2; omega⟩, (hfl o h).2⟩) (by omega)
  have w2 := rwrite_pc nil l hfl (by omega)
  have r1 := read_pc b (by omega)
  have r2 := rread_pc b (by omega)
  have c1 := check_pc c (by omega) (by omega)
  have c2 := rcallcheck_pc c (by omega) (by omega)
  obtain ⟨P1, E1, hP⟩ : ∃ (s : List UInt8) (e : Int), putV (Gw.Call.put b c) = .tup [.str s, .int .i64 e] := ⟨_, _, rfl⟩
  rw [hP] at p1 p2
  generalize (if l.all Gw.Call.check = true then outB l else []) = W1 at *
  generalize (if l.all Gw.Call.check = true then (0 : Int) else 180) = E2 at *
  generalize Gw.Call.check c = ck at *
  obtain ⟨xs, rs, e3, ht⟩ : ∃ (q : Gw.Call.Call) (r : List UInt8) (e : Int), takeKV (Gw.Call.take b) = .tup [encK q, .str r, .int .i64 e] := by
    cases Gw.Call.take b with
    | none => exact ⟨⟨0, [], [], [], 0⟩, [], 180, rfl⟩
    | some q => exact ⟨q.1, q.2, 0, rfl⟩
  obtain ⟨ny, y, e4, hy, hyl⟩ : ∃ (ny : Bool) (y : List Gw.Call.Call) (e : Int), readV (Gw.Call.read b) = .tup [.lst ny 5 (encKs y) .none, .int .i64 e] ∧ y.length ≤ 1048576 := by
    cases hr : Gw.Call.read b with
    | none => exact ⟨true, [], 180, rfl, by decide⟩
    | some y =>
      obtain ⟨h1, _, h2⟩ := Gw.Call.read_own hr
      have h3 := fewer h1
      rw [show outB y = b from h2.symm] at h3
      exact ⟨_, y, 0, rfl, by omega⟩
  rw [ht] at t1 t2
  rw [hy] at r1 r2
  have sm := ksame_pc ny ny y hyl
  conv => whnf
  refine AC.of_pc p1 rfl ?_
  conv => whnf
  refine AC.of_pc p2 rfl ?_
  conv => whnf
  refine AC.of_pc t1 rfl ?_
  conv => whnf
  refine AC.of_pc t2 rfl ?_
  conv => whnf
  refine AC.of_pc w1 rfl ?_
  conv => whnf
  refine AC.of_pc w2 rfl ?_
  conv => whnf
  refine AC.of_pc r1 rfl ?_
  conv => whnf
  refine AC.of_pc r2 rfl ?_
  conv => whnf
  refine ⟨_, rfl, c1, ?_⟩
  conv => whnf
  refine ⟨_, rfl, c2, ?_⟩
  conv => whnf
  repeat (first | refine ⟨fun _ => ?_, fun h => absurd h (by simp)⟩ | refine AC.of_pc sm rfl ?_ | refine ⟨by kernel_rfl, ?_⟩
          (conv => whnf))
  rw [show (e4 == e4) = true by simp]
end Go.Proofs.YtfmhkfijnflalaaDoor
