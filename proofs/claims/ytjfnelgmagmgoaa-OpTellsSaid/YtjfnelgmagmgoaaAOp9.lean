/- OpJoins, told without addresses. No claim of its own. -/
import Derived.Test.YtjfnelgmagmgoaaAOp8
namespace Go.Proofs.Ytjfnelgmagmgoaa
open Go.Am

theorem joins_pc (nk nl : Bool) (k l : List Gw.Op.Op) (b : List UInt8) (hik : ∀ o ∈ k, I64 o.node ∧ I64 o.parent) (hil : ∀ o ∈ l, I64 o.node ∧ I64 o.parent) (hk : k.length ≤ 9223372036854775807) (hl : l.length ≤ 9223372036854775807) :
    PC Try.prog 5 [.lst nk 7 (encOs k) .none, .lst nl 7 (encOs l) .none, .str b] (.bool true) := by
  have hfk := few_pc nk k 100 hk
  have hfl := few_pc nl l 100 hl
  refine PC.of tabOk mixed (fn := Try.f5) (by kernel_rfl) rfl (by kernel_rfl) rfl rfl ?_
  conv => whnf
  refine AC.of_pc awake_pc rfl ?_
  conv => whnf
  refine AC.of_pc hfk rfl ?_
  conv => whnf
  refine ⟨fun _ => ?_, fun h => ?_⟩
  · conv => whnf
  have h : Gw.Op.fewL k = true ∧ k.length ≤ 100 := by
    have h : (!(Gw.Op.fewL k && decide ((k.length : Int) ≤ 100))) = false := h
    simp only [Bool.not_eq_false', Bool.and_eq_true, decide_eq_true_eq] at h
    exact ⟨h.1, by omega⟩
  obtain ⟨hfwk, hk⟩ := h
  have hk' := few_fine hfwk hik
  conv => whnf
  refine AC.of_pc hfl rfl ?_
  conv => whnf
  refine ⟨fun _ => ?_, fun h => ?_⟩
  · conv => whnf
  have h : Gw.Op.fewL l = true ∧ l.length ≤ 100 := by
    have h : (!(Gw.Op.fewL l && decide ((l.length : Int) ≤ 100))) = false := h
    simp only [Bool.not_eq_false', Bool.and_eq_true, decide_eq_true_eq] at h
    exact ⟨h.1, by omega⟩
  obtain ⟨hfwl, hl⟩ := h
  have hl' := few_fine hfwl hil
  conv => whnf
  refine ⟨fun _ => ?_, fun h => ?_⟩
  · conv => whnf
  have hb : b.length ≤ 3000 := by have := of_decide_eq_false h; omega
  have hwk := opWrite_pc' nk k hk' (by omega)
  have hwl := opWrite_pc' nl l hl' (by omega)
  have hwa := opWrite_pc' false (k ++ l) (fun o ho => (List.mem_append.1 ho).elim (hk' o) (hl' o)) (by rw [List.length_append]; omega)
  have hlk := encOs_len k
  have hll := encOs_len l
  rw [encOs_app, outB_app, List.all_append] at hwa
  have hF1 : 0 + (encOs k).length ≤ 4294967296 := by omega
  have hF2 : 0 + (encOs k).length = ([] ++ encOs k).length := by rw [List.nil_append]; omega
  have hF3 : ([] ++ encOs k).length + (encOs l).length ≤ 4294967296 := by rw [List.nil_append]; omega
  cases hck : k.all Gw.Op.check with
  | false =>
    rw [hck, Bool.false_and, if_neg (by decide), if_neg (by decide)] at hwa
    rw [hck, if_neg (by decide), if_neg (by decide)] at hwk
    generalize (if l.all Gw.Op.check = true then outB l else []) = wl at *
    generalize (if l.all Gw.Op.check = true then (0 : Int) else 50) = el at *
    conv => whnf
    refine AC.of_pc hwk rfl ?_
    conv => whnf
    refine AC.of_pc hwl rfl ?_
    conv => whnf
    refine ⟨fits_small hF1 (by decide), ?_⟩
    conv => whnf
    refine ⟨⟨hF2, fits_small hF3 (by decide)⟩, ?_⟩
    conv => whnf
    refine AC.of_pc hwa rfl ?_
    conv => whnf
    repeat (first | refine ⟨fun _ => ?_, fun h => absurd h (by decide)⟩ | refine ⟨fun h => absurd h (by decide), fun _ => ?_⟩ | refine ⟨fun _ => ?_, fun h => absurd (of_decide_eq_false h) (fun h => h rfl)⟩
            (conv => whnf))
    rfl
  | true =>
    rw [hck, Bool.true_and] at hwa
    rw [hck, if_pos rfl, if_pos rfl] at hwk
    cases hcl : l.all Gw.Op.check with
    | false =>
      rw [hcl, if_neg (by decide), if_neg (by decide)] at hwa hwl
      conv => whnf
      refine AC.of_pc hwk rfl ?_
      conv => whnf
      refine AC.of_pc hwl rfl ?_
      conv => whnf
      refine ⟨fits_small hF1 (by decide), ?_⟩
      conv => whnf
      refine ⟨⟨hF2, fits_small hF3 (by decide)⟩, ?_⟩
      conv => whnf
      refine AC.of_pc hwa rfl ?_
      conv => whnf
      repeat (first | refine ⟨fun _ => ?_, fun h => absurd h (by decide)⟩ | refine ⟨fun h => absurd h (by decide), fun _ => ?_⟩ | refine ⟨fun _ => ?_, fun h => absurd (of_decide_eq_false h) (fun h => h rfl)⟩
              (conv => whnf))
      rfl
    | true =>
      rw [hcl, if_pos rfl, if_pos rfl] at hwa hwl
      have hbk := outB_len hck
      have hbl := outB_len hcl
      have hcat : (outB k).length + (outB l).length < 9223372036854775808 := by omega
      obtain rfl | ⟨o, k, rfl⟩ : k = [] ∨ ∃ o k', k = o :: k' := by cases k with | nil => exact .inl rfl | cons o k => exact .inr ⟨o, k, rfl⟩
      · skip
        conv => whnf
        refine AC.of_pc hwk rfl ?_
        conv => whnf
        refine AC.of_pc hwl rfl ?_
        conv => whnf
        refine ⟨fits_small hF1 (by decide), ?_⟩
        conv => whnf
        refine ⟨⟨hF2, fits_small hF3 (by decide)⟩, ?_⟩
        conv => whnf
        refine AC.of_pc hwa rfl ?_
        conv => whnf
        repeat (first | refine ⟨fun _ => ?_, fun h => absurd h (by decide)⟩ | refine ⟨fun h => absurd h (by decide), fun _ => ?_⟩ | refine ⟨fun _ => ?_, fun h => absurd (of_decide_eq_false h) (fun h => h rfl)⟩
                (conv => whnf))
        refine ⟨hcat, ?_⟩
        conv => whnf
        rw [decide_eq_true rfl]
      · have hco : Gw.Op.check o = true := by rw [List.all_cons, Bool.and_eq_true] at hck; exact hck.1
        have hp := opPut_pc [] o (hk' o (by simp)) (by decide)
        have e1 : Gw.Op.put [] o = Gw.Op.bytes o := by unfold Gw.Op.put; rw [hco]; rfl
        have e2 : Gw.Op.putErr o = 0 := by unfold Gw.Op.putErr; rw [hco]; rfl
        rw [e1, e2] at hp
        have hs := Gw.Op.bytes_small hco
        have ht := opTake_pc (Gw.Op.bytes o ++ b) (by rw [List.length_append]; omega)
        rw [Gw.Op.take_bytes hco b] at ht
        have hel : (encOs (o :: k))[0]? = some (cellsO o) := rfl
        unfold cellsO at hel
        have hpos : decide ((0 : Int) < ((encOs (o :: k)).length : Int)) = true := decide_eq_true (by rw [hlk, List.length_cons]; omega)
        conv => whnf
        refine AC.of_pc hwk rfl ?_
        conv => whnf
        refine AC.of_pc hwl rfl ?_
        conv => whnf
        refine ⟨fits_small hF1 (by decide), ?_⟩
        conv => whnf
        refine ⟨⟨hF2, fits_small hF3 (by decide)⟩, ?_⟩
        conv => whnf
        refine AC.of_pc hwa rfl ?_
        conv => whnf
        repeat (first | refine ⟨fun _ => ?_, fun h => absurd h (by decide)⟩ | refine ⟨fun h => absurd h (by decide), fun _ => ?_⟩ | refine ⟨fun _ => ?_, fun h => absurd (of_decide_eq_false h) (fun h => h rfl)⟩
                (conv => whnf))
        refine ⟨fun _ => ?_, fun h => absurd (hpos.symm.trans h) (by decide)⟩
        conv => whnf
        refine ⟨_, ⟨by decide, hel⟩, ?_⟩
        conv => whnf
        refine AC.of_pc hp rfl ?_
        conv => whnf
        refine ⟨by show (Gw.Op.bytes o).length + b.length < _; omega, ?_⟩
        conv => whnf
        refine AC.of_pc ht rfl ?_
        conv => whnf
        repeat (first | refine ⟨fun _ => ?_, fun h => absurd h (by decide)⟩ | refine ⟨fun h => absurd h (by decide), fun _ => ?_⟩ | refine ⟨fun _ => ?_, fun h => absurd (of_decide_eq_false h) (fun h => h rfl)⟩ | refine ⟨_, ⟨by decide, hel⟩, ?_⟩ | refine ⟨by kernel_rfl, ?_⟩ | refine ⟨hcat, ?_⟩ | refine ⟨fun _ => ?_, fun h => absurd h (by simp)⟩
                (conv => whnf))
        rw [decide_eq_true rfl]
end Go.Proofs.Ytjfnelgmagmgoaa
