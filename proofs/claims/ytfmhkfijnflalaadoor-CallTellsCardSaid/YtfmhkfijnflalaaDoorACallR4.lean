/- What the document's answer for call's Take computes: told without addresses. No claim of its own. -/
import Derived.Test.YtfmhkfijnflalaaDoorACallR3
import Derived.Test.YtfmhkfijnflalaaDoorRCallFn
namespace Go.Proofs.YtfmhkfijnflalaaDoor
open Go.Am

def numE (s : List UInt8) : Int := match Gw.Vlq.take s with | none => 40 | some _ => 0
def txtE (s : List UInt8) : Int := match takeText s with | none => 40 | some _ => 0
theorem rnum_pc (s : List UInt8) : PC Tryd.prog 27 [.str s] (.tup [.int .i64 ((Gw.Call.rnum s).1 : Nat), .str (Gw.Call.rnum s).2, .int .i64 (numE s)]) := by
  have h := rtake_pc s
  unfold tookV at h
  unfold Gw.Call.rnum numE
  cases hh : Gw.Vlq.take s with
  | none => rw [hh] at h; exact h
  | some p => rw [hh] at h; exact h
theorem rtxt_pc (s : List UInt8) : PC Tryd.prog 29 [.str s] (.tup [.str (Gw.Call.rtxt s).1, .str (Gw.Call.rtxt s).2, .int .i64 (txtE s)]) := by
  have h := rtakeText_pc s
  unfold tookTextV at h
  unfold Gw.Call.rtxt txtE
  cases hh : takeText s with
  | none => rw [hh] at h; exact h
  | some p => rw [hh] at h; exact h

theorem rcallTake_pc (b : List UInt8) (hb : b.length ≤ 100000) : PC Tryd.prog 13 [.str b] (takeKV (Gw.Call.take b)) := by
  have hk := rnum_pc b
  have hof := rof_pc ((Gw.Call.rnum b).1 : Nat)
  have href := Gw.Call.take_ref b
  obtain ⟨q1, q2⟩ := Gw.Call.parse_len b
  have hput := rput_pc [] (Gw.Call.parse b) (by decide) (by omega) (by omega) (Gw.Call.parse_n b)
  clear q1 q2
  have hf : Gw.Call.has ((Gw.Call.rnum b).1 : Nat) = none ∨ ∃ p, Gw.Call.has ((Gw.Call.rnum b).1 : Nat) = some p := by
    cases Gw.Call.has ((Gw.Call.rnum b).1 : Nat) with
    | none => exact .inl rfl
    | some p => exact .inr ⟨p, rfl⟩
  unfold Gw.Call.parse at href hput
  have e1 : ∀ c, Gw.Call.check c = false → Gw.Call.put [] c = none := fun c h => by unfold Gw.Call.put; rw [h]; rfl
  have e2 : ∀ c, Gw.Call.check c = true → Gw.Call.put [] c = some (Gw.Call.bytes c) := fun c h => by unfold Gw.Call.put; rw [h]; rfl
  have e3 : ∀ x, putV (some x) = .tup [.str x, .int .i64 0] := fun _ => rfl
  rcases hf with h | ⟨p, h⟩
  · rw [h] at hof href hput
    rw [Option.getD_none] at href hput
    have hC : ∃ C, C = Gw.Call.parseP ⟨false, false, false, false⟩ ((Gw.Call.rnum b).1 : Nat) (Gw.Call.rnum b).2 := ⟨_, rfl⟩
    obtain ⟨C, hC⟩ := hC
    have eC : encK C = .agg [.int .i64 ((Gw.Call.rnum b).1 : Nat), .str [], .str [], .str [], .int .i64 0] := by rw [hC]; rfl
    rw [← hC] at href hput
    have hck : Gw.Call.check C = false := by
      unfold Gw.Call.check
      have : C.kind = ((Gw.Call.rnum b).1 : Nat) := by rw [hC]; rfl
      rw [this, h]
    rw [e1 _ hck, eC] at hput
    rw [if_neg (by rw [hck]; simp)] at href
    rw [href]
    refine PC.of tabOk mixed (fn := Tryd.f13) (by kernel_rfl) rfl (by kernel_rfl) rfl rfl ?_
    conv => whnf
    refine AC.of_pc hk rfl ?_
    conv => whnf
    refine AC.of_pc hof rfl ?_
    conv => whnf
    repeat (first | (first | refine ⟨fun _ => ?_, fun h => absurd h (by decide)⟩ | refine ⟨fun h => absurd h (by decide), fun _ => ?_⟩ | refine ⟨fun _ => ?_, fun h => absurd (show true = false from h) (by decide)⟩ | refine ⟨fun h => absurd (show false = true from h) (by decide), fun _ => ?_⟩)
            (conv => whnf))
    refine AC.of_pc hput rfl ?_
    conv => whnf
    repeat (first | (first | refine ⟨fun _ => ?_, fun h => absurd h (by decide)⟩ | refine ⟨fun h => absurd h (by decide), fun _ => ?_⟩ | refine ⟨fun _ => ?_, fun h => absurd (show true = false from h) (by decide)⟩ | refine ⟨fun h => absurd (show false = true from h) (by decide), fun _ => ?_⟩)
            (conv => whnf))
    all_goals rfl
  · have hp := has_few h
    rw [h] at hof href hput
    rw [Option.getD_some] at href hput
    clear h hb
    rcases hp with ⟨_, rfl⟩ | ⟨_, rfl⟩ | ⟨_, rfl⟩ | ⟨_, rfl⟩ | ⟨_, rfl⟩ | ⟨_, rfl⟩ | ⟨_, rfl⟩
    all_goals
      refine PC.of tabOk mixed (fn := Tryd.f13) (by kernel_rfl) rfl (by kernel_rfl) rfl rfl ?_
      conv => whnf
      refine AC.of_pc hk rfl ?_
      conv => whnf
      refine AC.of_pc hof rfl ?_
      conv => whnf
      repeat (first | (first | refine ⟨fun _ => ?_, fun h => absurd h (by decide)⟩ | refine ⟨fun h => absurd h (by decide), fun _ => ?_⟩ | refine ⟨fun _ => ?_, fun h => absurd (show true = false from h) (by decide)⟩ | refine ⟨fun h => absurd (show false = true from h) (by decide), fun _ => ?_⟩) | refine AC.of_pc (rtxt_pc _) rfl ?_ | refine AC.of_pc (rnum_pc _) rfl ?_
              (conv => whnf))
      cases hck : Gw.Call.check (Gw.Call.parseP _ ((Gw.Call.rnum b).1 : Nat) (Gw.Call.rnum b).2) with
      | false =>
        rw [e1 _ hck] at hput
        rw [if_neg (by rw [hck]; simp)] at href
        rw [href]
        refine AC.of_pc hput rfl ?_
        conv => whnf
        repeat (first | (first | refine ⟨fun _ => ?_, fun h => absurd h (by decide)⟩ | refine ⟨fun h => absurd h (by decide), fun _ => ?_⟩ | refine ⟨fun _ => ?_, fun h => absurd (show true = false from h) (by decide)⟩ | refine ⟨fun h => absurd (show false = true from h) (by decide), fun _ => ?_⟩)
                (conv => whnf))
        all_goals rfl
      | true =>
        rw [e2 _ hck, e3] at hput
        rw [hck] at href
        generalize Gw.Call.bytes (Gw.Call.parseP _ ((Gw.Call.rnum b).1 : Nat) (Gw.Call.rnum b).2) = B at href hput
        refine AC.of_pc hput rfl ?_
        conv => whnf
        refine ⟨fun h => absurd h (by decide), fun _ => ?_⟩
        conv => whnf
        refine ⟨fun h => ?_, fun h => ?_⟩
        · have h := of_decide_eq_true h
          rw [if_neg (by omega)] at href
          rw [href]
          conv => whnf
          repeat (first | (first | refine ⟨fun _ => ?_, fun h => absurd h (by decide)⟩ | refine ⟨fun h => absurd h (by decide), fun _ => ?_⟩ | refine ⟨fun _ => ?_, fun h => absurd (show true = false from h) (by decide)⟩ | refine ⟨fun h => absurd (show false = true from h) (by decide), fun _ => ?_⟩)
                  (conv => whnf))
          all_goals rfl
        have h := of_decide_eq_false h
        conv => whnf
        refine ⟨⟨by omega, by omega⟩, ?_⟩
        rw [Int.toNat_natCast]
        conv => whnf
        refine ⟨fun h2 => ?_, fun h2 => ?_⟩
        · have h2 : ¬ b.take B.length = B := fun e => by
            have h2 : (!decide (B = b.take B.length)) = true := h2
            rw [e] at h2; simp at h2
          rw [if_neg (fun h => h2 h.2.2)] at href
          rw [href]
          conv => whnf
          all_goals rfl
        · have h2 : b.take B.length = B := by
            have h2 : (!decide (B = b.take B.length)) = false := h2
            have h2 : B = b.take B.length := by simpa using h2
            exact h2.symm
          rw [if_pos ⟨rfl, by omega, h2⟩] at href
          rw [href]
          conv => whnf
          refine ⟨⟨by omega, by omega⟩, ?_⟩
          rw [Int.toNat_natCast]
          conv => whnf
          refine ⟨by kernel_rfl, ?_⟩
          conv => whnf
          all_goals rfl
end Go.Proofs.YtfmhkfijnflalaaDoor
