/- WalTells: THE STATEMENT HOLDS: for every input that can be read the call returns true, and each argument reads as it did. Its conditions: the variables that the row lists hold what the text of the program lays (the card ties them). -/
import Derived.Test.YtjhblbipjljojaaDoorLawKit
import Derived.Test.YtjhblbipjljojaaDoorAWal19
import Derived.Test.YtjhblbipjljojaaDoorCards
import Derived.Test.YtjhblbipjljojaaDoorTie
import Derived.Deep.DeepHandedRow
import Derived.Lib.LaidTab
import Derived.Test.YtjhblbipjljojaaDoorAmRow
import Derived.Test.YtjhblbipjljojaaDoorStepsRow
import Derived.Test.YtjhblbipjljojaaDoorDskRow
namespace Go.Proofs.YtjhblbipjljojaaDoor.lnWalTells
open Go.ChangeShapes Go.WideShapes Go.ChangeAt Go.RowKit
open Go.ChangeMaps (open_string)

theorem own : ownKnob Tryd.prog.godebug = none := by kernel_rfl
theorem laidOut : laidOutB Tryd.prog = true := by kernel_rfl
theorem gTab : Tryd.prog.globalNamed "gunwale/sums.steps" = some 0 := by kernel_rfl
theorem gTabType : (Tryd.prog.globals[0]?).map (·.type) = some 133 := by kernel_rfl
theorem cellsA : Tryd.prog.cellsOf 133 = 2 := by kernel_rfl
theorem cellsE : Tryd.prog.cellsOf 121 = 1 := by kernel_rfl
theorem table {W : World} (h : laidMetH Tryd.prog Rows.walTellsRow.laid W) : Lib.TabIs Tryd.prog W "gunwale/sums.steps" .u32 [0, 79764919] :=
  Lib.tabIs_of_head (rest := []) gTab gTabType Tryd.underlying133 Tryd.underlying121 cellsE cellsA h
theorem gok {W : World} (h : laidMetH Tryd.prog Rows.walTellsRow.laid W) : Go.Am.GOk Tryd.prog W := fun x hx i hi j z hz => by
  obtain rfl := List.mem_singleton.1 hx
  have hg : Tryd.prog.globalNamed "gunwale/sums.steps" = some 0 := by kernel_rfl
  obtain rfl : 0 = i := Option.some.inj (hg.symm.trans hi)
  match j, hz with
  | 0, hz => cases hz; exact (table h).cell gTab 0 (by decide)
  | 1, hz => cases hz; exact (table h).cell gTab 1 (by decide)
  | j + 2, hz => cases hz
theorem reads_all : ∀ t ∈ Tryd.f3.params.toList, Tryd.prog.readableRec t = true ∧ t < Tryd.prog.types.size := by
  rw [Tryd.params3]
  intro t ht
  have h0 : Tryd.prog.readableRec 5 = true ∧ 5 < Tryd.prog.types.size := ⟨by kernel_rfl, of_decide_eq_true (by kernel_rfl)⟩
  have h1 : Tryd.prog.readableRec 22 = true ∧ 22 < Tryd.prog.types.size := ⟨by kernel_rfl, of_decide_eq_true (by kernel_rfl)⟩
  have h2 : Tryd.prog.readableRec 25 = true ∧ 25 < Tryd.prog.types.size := ⟨by kernel_rfl, of_decide_eq_true (by kernel_rfl)⟩
  simp only [List.mem_cons, List.not_mem_nil, or_false] at ht
  rcases ht with rfl | rfl | rfl
  · exact h0
  · exact h1
  · exact h2

set_option maxRecDepth 20000 in
theorem contract (H : Type) (enc : TypeId × Value → H) (W : World) (base : Nat) (args : Array Value) (ds gs : List (DataW H)) (before : List MemPlace)
    (hval : ∀ (j : Nat) t v, Tryd.f3.params[j]? = some t → args[j]? = some v → Value.okWide Tryd.prog W .any base t v)
    (hW : DataW.Whole enc Tryd.prog Tryd.f3.params.toList Rows.walTellsSpec.vars false W args.toList ds gs before) (hL : laidMetH Tryd.prog Rows.walTellsRow.laid W) :
    Calls Tryd.prog 3 args W fun e W' => ∃ v, e = .returned v ∧ Rows.walTellsSpec.post enc Tryd.prog Tryd.f3 false true false false W args v W' := by
  have hW' := hW
  obtain ⟨p, q, hA0, hV, rfl, hfz, hnd⟩ := hW
  have hA : DataW.TrodAll enc Tryd.prog W 0 (fun _ => true) true Tryd.f3.params.toList args.toList ds p := hA0
  rw [Tryd.params3] at hA hval
  obtain ⟨v0, vs0, d0, ds0, p0, q0, hargs, rfl, rfl, g0, r0⟩ := trodAll_cons hA
  obtain ⟨v1, vs1, d1, ds1, p1, q1, rfl, rfl, rfl, g1, r1⟩ := trodAll_cons r0
  obtain ⟨v2, vs2, d2, ds2, p2, q2, rfl, rfl, rfl, g2, r2⟩ := trodAll_cons r1
  obtain ⟨rfl, rfl, rfl⟩ := trodAll_nil r2
  obtain rfl : args = #[v0, v1, v2] := by cases args; simp_all
  obtain ⟨rfl, rfl⟩ := trodVars_none hV
  clear hA0
  obtain ⟨size, rfl, rfl, rfl, wfsize⟩ := open_int Tryd.underlying5 (hval 0 5 v0 rfl rfl) g0
  have hsize := bounds_u8 wfsize
  obtain ⟨size, rfl⟩ := Int.eq_ofNat_of_zero_le hsize.1
  obtain ⟨nil1, l, hp1, hn1, hl1⟩ := open_steps (hval 1 22 v1 rfl rfl) g1
  obtain ⟨nil2, d, hp2, hn2, hl2, hz2⟩ := open_dsk (hval 2 25 v2 rfl rfl) g2
  refine (pc_calls (gok hL) (vals := [.int .u8 size, v1, v2]) (tells_pc size (by omega) nil1 nil2 l (by unfold maxLen at hl1; omega) d hn2 (by unfold maxLen at hl2; omega) hz2) rfl (reps_cons rep_int (reps_cons hp1 (reps_cons hp2 reps_nil)))).mono fun e W' ⟨he, hb⟩ => ⟨.bool true, he, ?_⟩
  exact law_post hW' rfl rfl (by kernel_rfl) Tryd.underlying4 laidOut reads_all hb

noncomputable def laidWorld (os : Os) : World :=
  { World.holding Tryd.prog os ⟨#[], #[], []⟩ with heap := (World.holding Tryd.prog os ⟨#[], #[], []⟩).heap.modify 0 fun
      | .cells _ t frozen => .cells #[.int .u32 0, .int .u32 79764919] t frozen
      | o => o }
theorem laid_met (os : Os) : laidMet Tryd.prog Rows.walTellsRow.laid ((laidWorld os).forCall (fun _ _ => 0) ⟨#[], #[.int .u8 0, .slice none 0 0, .agg #[.int .i64 0, .string ⟨#[]⟩, .slice none 0 0]], []⟩).memory :=
  laidMet_of_run' 8 (by kernel_rfl) (by kernel_rfl)
theorem reads (os : Os) {H : Type} (enc : TypeId × Value → H) : ∃ places, DataW.whole enc Tryd.prog ((laidWorld os).forCall (fun _ _ => 0) ⟨#[], #[.int .u8 0, .slice none 0 0, .agg #[.int .i64 0, .string ⟨#[]⟩, .slice none 0 0]], []⟩).memory Tryd.f3.params.toList Rows.walTellsSpec.vars false (#[.int .u8 0, .slice none 0 0, .agg #[.int .i64 0, .string ⟨#[]⟩, .slice none 0 0]] : Array Value).toList 8 = some ([.lit (.int .u8 0), .nil, .agg [.lit (.int .i64 0), .lit (.string []), .nil]], [], places) :=
  ⟨[], by kernel_rfl⟩

set_option maxRecDepth 100000 in
theorem lifted (os : Os) (started : os.Started) (H : Type) (enc : TypeId × Value → H) (F : Stop.Interp) :
    ReturnsInHanded {} Tryd.checked os 3 .any ((OpenSpec.ofChange Rows.walTellsSpec).preRow enc Tryd.prog Tryd.f3 Rows.walTellsRow.domain false Rows.walTellsRow.laid) (((OpenSpec.ofChange Rows.walTellsSpec).at F).post enc Tryd.prog Tryd.f3 false true false false) := by
  obtain ⟨places, hx⟩ := reads os enc
  refine returnsInHanded_of_row (C := Tryd.checked) (s := OpenSpec.ofChange Rows.walTellsSpec) own started (by kernel_rfl) Tryd.func3
    (witness_row_at (enc := enc) (C := Tryd.checked) false (laidWorld os) #[.int .u8 0, .slice none 0 0, .agg #[.int .i64 0, .string ⟨#[]⟩, .slice none 0 0]] rfl (by kernel_rfl) (by kernel_rfl) (by kernel_rfl)
      (OpenSpec.preRow_of_cond 8 hx (by kernel_rfl) (fun k hk => by cases hk) (by kernel_rfl) (laid_met os))) ?_
  intro W base args ds gs before hval hW _ _ _ hL _ _
  exact contract H enc W base args ds gs before hval hW hL

theorem said : Rows.WalTellsSaid :=
  OpenClaim.holds_of_cond 3 Tryd.f3 rfl rfl rfl rfl rfl rfl rfl ⟨rfl, rfl, rfl, rfl, rfl⟩ rfl rfl rfl rfl rfl (by kernel_rfl) Tryd.func3 (by kernel_rfl)
    (of_decide_eq_true (by kernel_rfl)) (by unfold Func.isWrapper; first | (rw [if_pos (by decide +kernel)]; kernel_rfl) | (rw [if_neg (by decide +kernel)]; exact ⟨rfl, rfl⟩))
    (fun os started H enc _ F => by rw [OpenClaim.pre_eq_preRow]; exact lifted os started H enc F)

theorem plain (f : FuncId) (fn : Func) (hf : Tryd.pinned.checked.prog.funcNamed "gunwale/gunwalelaw14.WalTells" = some f) (hfn : Tryd.pinned.checked.prog.funcs[f]? = some fn) :
    false = Tryd.pinned.checked.prog.looks [] ∧ ∀ (j : Nat) t, fn.params[j]? = some t → Tryd.pinned.checked.prog.wantsStandIn t = false := by
  obtain rfl : f = 3 := Option.some.inj ((show Tryd.prog.funcNamed "gunwale/gunwalelaw14.WalTells" = some 3 by kernel_rfl).symm.trans hf) |>.symm
  obtain rfl : fn = Tryd.f3 := (Option.some.inj (Tryd.func3.symm.trans hfn)).symm
  refine ⟨by kernel_rfl, fun j t ht => ?_⟩
  have k0 : Tryd.prog.wantsStandIn 5 = false := by kernel_rfl
  have k1 : Tryd.prog.wantsStandIn 22 = false := by kernel_rfl
  have k2 : Tryd.prog.wantsStandIn 25 = false := by kernel_rfl
  rw [Tryd.params3] at ht
  have hm := Array.mem_of_getElem? ht
  simp only [List.mem_toArray, List.mem_cons, List.not_mem_nil, or_false] at hm
  rcases hm with rfl | rfl | rfl
  · exact k0
  · exact k1
  · exact k2

/-- THE CARD. -/
theorem card : Rows.WalTellsCardSaid :=
  Claim7.holds_tied_plain_at .later [] _ _ _ _ said (fun _ h => by cases h) (by kernel_rfl) (fun _ h => by cases h) walTells_row_tie rfl ⟨rfl, rfl⟩ (by kernel_rfl) rfl plain (by kernel_rfl)
#print axioms card
end Go.Proofs.YtjhblbipjljojaaDoor.lnWalTells
