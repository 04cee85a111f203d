/- The law CallJoins, told without addresses. No claim of its own. -/
import Derived.Test.YtfmhkfijnflalaaDoorACall9
namespace Go.Proofs.YtfmhkfijnflalaaDoor
open Go.Am

theorem joins_pc (nk nl : Bool) (k l : List Gw.Call.Call) (b : List UInt8) (hik : ∀ o ∈ k, Gw.Call.Nn o) (hil : ∀ o ∈ l, Gw.Call.Nn o) (hk : k.length ≤ 9223372036854775807) (hl : l.length ≤ 9223372036854775807) :
    PC Tryd.prog 5 [.lst nk 5 (encKs k) .none, .lst nl 5 (encKs l) .none, .str b] (.bool true) := by
  have hfk := few_pc nk k 100 hk
  have hfl := few_pc nl l 100 hl
  refine PC.of tabOk mixed (fn := Tryd.f5) (by kernel_rfl) rfl (by kernel_rfl) rfl rfl ?_
  conv => whnf
  refine AC.of_pc awake_pc rfl ?_
  conv => whnf
  refine AC.of_pc hfk rfl ?_
  conv => whnf
  refine ⟨fun _ => ?_, fun h => ?_⟩
  · conv => whnf
  have h : Gw.Call.fewL k = true ∧ k.length ≤ 100 := by
    have h : (!(Gw.Call.fewL k && decide ((k.length : Int) ≤ 100))) = false := h
    simp only [Bool.not_eq_false', Bool.and_eq_true, decide_eq_true_eq] at h
    exact ⟨h.1, by omega⟩
  obtain ⟨hfwk, hk⟩ := h
  have hk' : ∀ o ∈ k, (o.path.length ≤ 1048576 ∧ o.to.length ≤ 1048576) ∧ Gw.Call.Nn o := fun o ho => by have := few_len hfwk ho; exact ⟨⟨by omega, by omega⟩, hik o ho⟩
  conv => whnf
  refine AC.of_pc hfl rfl ?_
  conv => whnf
  refine ⟨fun _ => ?_, fun h => ?_⟩
  · conv => whnf
  have h : Gw.Call.fewL l = true ∧ l.length ≤ 100 := by
    have h : (!(Gw.Call.fewL l && decide ((l.length : Int) ≤ 100))) = false := h
    simp only [Bool.not_eq_false', Bool.and_eq_true, decide_eq_true_eq] at h
    exact ⟨h.1, by omega⟩
  obtain ⟨hfwl, hl⟩ := h
  have hl' : ∀ o ∈ l, (o.path.length ≤ 1048576 ∧ o.to.length ≤ 1048576) ∧ Gw.Call.Nn o := fun o ho => by have := few_len hfwl ho; exact ⟨⟨by omega, by omega⟩, hil o ho⟩
  conv => whnf
  refine ⟨fun _ => ?_, fun h => ?_⟩
  · conv => whnf
  have hb : b.length ≤ 5000 := by have := of_decide_eq_false h; omega
  have hwk := write_pc' nk k hk' (by omega)
  have hwl := write_pc' nl l hl' (by omega)
  have hwa := write_pc' false (k ++ l) (fun o ho => (List.mem_append.1 ho).elim (hk' o) (hl' o)) (by rw [List.length_append]; omega)
  have hlk := encKs_len k
  have hll := encKs_len l
  rw [encKs_app, outB_app, List.all_append] at hwa
  have hF1 : 0 + (encKs k).length ≤ 4294967296 := by omega
  have hF2 : 0 + (encKs k).length = ([] ++ encKs k).length := by rw [List.nil_append]; omega
  have hF3 : ([] ++ encKs k).length + (encKs l).length ≤ 4294967296 := by rw [List.nil_append]; omega
  cases hck : k.all Gw.Call.check with
  | false =>
    rw [hck, Bool.false_and, if_neg (by decide), if_neg (by decide)] at hwa
    rw [hck, if_neg (by decide), if_neg (by decide)] at hwk
    generalize (if l.all Gw.Call.check = true then outB l else []) = wl at *
    generalize (if l.all Gw.Call.check = true then (0 : Int) else 180) = el at *
    conv => whnf
    refine AC.of_pc hwk rfl ?_
    conv => whnf
    refine AC.of_pc hwl rfl ?_
    conv => whnf
    refine ⟨fits_small hF1 (by decide), ?_⟩
    conv => whnf
    refine ⟨⟨hF2, fits_small hF3 (by decide)⟩, ?_⟩
    conv => whnf
    refine AC.of_pc hwa rfl ?_
    conv => whnf
    repeat (first | refine ⟨fun _ => ?_, fun h => absurd h (by decide)⟩ | refine ⟨fun h => absurd h (by decide), fun _ => ?_⟩ | refine ⟨fun _ => ?_, fun h => absurd (of_decide_eq_false h) (fun h => h rfl)⟩
            (conv => whnf))
    rfl
  | true =>
    rw [hck, Bool.true_and] at hwa
    rw [hck, if_pos rfl, if_pos rfl] at hwk
    cases hcl : l.all Gw.Call.check with
    | false =>
      rw [hcl, if_neg (by decide), if_neg (by decide)] at hwa hwl
      conv => whnf
      refine AC.of_pc hwk rfl ?_
      conv => whnf
      refine AC.of_pc hwl rfl ?_
      conv => whnf
      refine ⟨fits_small hF1 (by decide), ?_⟩
      conv => whnf
      refine ⟨⟨hF2, fits_small hF3 (by decide)⟩, ?_⟩
      conv => whnf
      refine AC.of_pc hwa rfl ?_
      conv => whnf
      repeat (first | refine ⟨fun _ => ?_, fun h => absurd h (by decide)⟩ | refine ⟨fun h => absurd h (by decide), fun _ => ?_⟩ | refine ⟨fun _ => ?_, fun h => absurd (of_decide_eq_false h) (fun h => h rfl)⟩
              (conv => whnf))
      rfl
    | true =>
      rw [hcl, if_pos rfl, if_pos rfl] at hwa hwl
      have hbk := outB_len hck hik
      have hbl := outB_len hcl hil
      have hcat : (outB k).length + (outB l).length < 9223372036854775808 := by omega
      obtain rfl | ⟨o, k, rfl⟩ : k = [] ∨ ∃ o k', k = o :: k' := by cases k with | nil => exact .inl rfl | cons o k => exact .inr ⟨o, k, rfl⟩
      · skip
        conv => whnf
        refine AC.of_pc hwk rfl ?_
        conv => whnf
        refine AC.of_pc hwl rfl ?_
        conv => whnf
        refine ⟨fits_small hF1 (by decide), ?_⟩
        conv => whnf
        refine ⟨⟨hF2, fits_small hF3 (by decide)⟩, ?_⟩
        conv => whnf
        refine AC.of_pc hwa rfl ?_
        conv => whnf
        repeat (first | refine ⟨fun _ => ?_, fun h => absurd h (by decide)⟩ | refine ⟨fun h => absurd h (by decide), fun _ => ?_⟩ | refine ⟨fun _ => ?_, fun h => absurd (of_decide_eq_false h) (fun h => h rfl)⟩
                (conv => whnf))
        refine ⟨hcat, ?_⟩
        conv => whnf
        rw [decide_eq_true rfl]
      · have hco : Gw.Call.check o = true := by rw [List.all_cons, Bool.and_eq_true] at hck; exact hck.1
        have hp := put_pc [] o (by decide) (hk' o (by simp)).1.1 (hk' o (by simp)).1.2 (hk' o (by simp)).2
        have hno := hik o (by simp)
        rw [putV_some hco, List.nil_append] at hp
        have hs := Gw.Call.bytes_small hco hno
        have ht := calltake_pc (Gw.Call.bytes o ++ b) (by rw [List.length_append]; omega)
        rw [Gw.Call.take_bytes hco hno b] at ht
        have hel : (encKs (o :: k))[0]? = some (cellsK o) := rfl
        unfold cellsK at hel
        have hpos : decide ((0 : Int) < ((encKs (o :: k)).length : Int)) = true := decide_eq_true (by rw [hlk, List.length_cons]; omega)
        conv => whnf
        refine AC.of_pc hwk rfl ?_
        conv => whnf
        refine AC.of_pc hwl rfl ?_
        conv => whnf
        refine ⟨fits_small hF1 (by decide), ?_⟩
        conv => whnf
        refine ⟨⟨hF2, fits_small hF3 (by decide)⟩, ?_⟩
        conv => whnf
        refine AC.of_pc hwa rfl ?_
        conv => whnf
        repeat (first | refine ⟨fun _ => ?_, fun h => absurd h (by decide)⟩ | refine ⟨fun h => absurd h (by decide), fun _ => ?_⟩ | refine ⟨fun _ => ?_, fun h => absurd (of_decide_eq_false h) (fun h => h rfl)⟩
                (conv => whnf))
        refine ⟨fun _ => ?_, fun h => absurd (hpos.symm.trans h) (by decide)⟩
        conv => whnf
        refine ⟨_, ⟨by decide, hel⟩, ?_⟩
        conv => whnf
        refine AC.of_pc hp rfl ?_
        conv => whnf
        refine ⟨by show (Gw.Call.bytes o).length + b.length < _; omega, ?_⟩
        conv => whnf
        refine AC.of_pc ht rfl ?_
        conv => whnf
        repeat (first | refine ⟨fun _ => ?_, fun h => absurd h (by decide)⟩ | refine ⟨fun h => absurd h (by decide), fun _ => ?_⟩ | refine ⟨fun _ => ?_, fun h => absurd (of_decide_eq_false h) (fun h => h rfl)⟩ | refine ⟨_, ⟨by decide, hel⟩, ?_⟩ | refine ⟨by kernel_rfl, ?_⟩ | refine ⟨hcat, ?_⟩ | refine ⟨fun _ => ?_, fun h => absurd h (by simp)⟩
                (conv => whnf))
        rw [decide_eq_true rfl]
end Go.Proofs.YtfmhkfijnflalaaDoor
