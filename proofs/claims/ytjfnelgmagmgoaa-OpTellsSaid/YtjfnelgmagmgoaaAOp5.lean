/- The law's awake: told without addresses. No claim of its own. -/
import Derived.Test.YtjfnelgmagmgoaaAOp4
import Derived.Test.YtjfnelgmagmgoaaOpLaw
namespace Go.Proofs.Ytjfnelgmagmgoaa
open Go.Am

abbrev awW : Gw.Op.Op := ⟨⟨2, 1⟩, 2, 129, 0, [], [97, 98]⟩
abbrev awM : Gw.Op.Op := ⟨⟨1, 0⟩, 1, 129, 0, [120], []⟩
abbrev awO : Gw.Op.Op := ⟨⟨0, 0⟩, 0, 0, 0, [], []⟩
abbrev awV : Gw.Op.Op := ⟨⟨2, 1⟩, 2, 128, 0, [], [97, 98]⟩
abbrev awB : List UInt8 := [2, 1, 2, 129, 1, 2, 97, 98, 1, 0, 1, 129, 1, 0, 1, 120]
theorem fine_of {o : Gw.Op.Op} (h1 : I64 o.node) (h2 : I64 o.parent) (h3 : o.name.length ≤ 1048576) (h4 : o.data.length ≤ 1048576) : Fine o := ⟨h1, h2, h3, h4⟩
theorem fine_check {o : Gw.Op.Op} (h : Gw.Op.check o = true) : Fine o := by
  obtain ⟨_, _, _, a, b⟩ := Gw.Op.check_bounds h
  have := Gw.Op.text_le h
  exact ⟨by unfold I64; omega, by unfold I64; omega, by omega, by omega⟩
theorem out_bound (l : List Gw.Op.Op) (hl : l.length ≤ 1048576) : ∀ k, k ≤ l.length → (l.take k).all Gw.Op.check = true → (outB (l.take k)).length ≤ 1000000000000 := fun k hk h => by
  have := Gw.Op.out_small h
  rw [List.length_take] at this
  unfold outB
  omega
/-- What Write answers. -/
theorem opWrite_pc' (nil : Bool) (l : List Gw.Op.Op) (hf : ∀ o ∈ l, Fine o) (hl : l.length ≤ 1048576) :
    PC Try.prog 15 [.lst nil 7 (encOs l) .none] (.tup [.str (if l.all Gw.Op.check = true then outB l else []), .int .i64 (if l.all Gw.Op.check = true then 0 else 50)]) :=
  opWrite_pc nil l hf hl (out_bound l hl)

theorem awake_pc : PC Try.prog 9 [] (.bool true) := by
  have hW : Fine awW := ⟨by unfold I64; decide, by unfold I64; decide, by decide, by decide⟩
  have hM : Fine awM := ⟨by unfold I64; decide, by unfold I64; decide, by decide, by decide⟩
  have hO : Fine awO := ⟨by unfold I64; decide, by unfold I64; decide, by decide, by decide⟩
  have hV : Fine awV := ⟨by unfold I64; decide, by unfold I64; decide, by decide, by decide⟩
  have H1 := opWrite_pc' false [awW, awM] (fun o h => by rcases List.mem_cons.1 h with rfl | h; exact hW; rcases List.mem_cons.1 h with rfl | h; exact hM; cases h) (by decide)
  rw [show [awW, awM].all Gw.Op.check = true by kernel_rfl, if_pos rfl, if_pos rfl, show outB [awW, awM] = awB by kernel_rfl] at H1
  have H2 := read_pc awB (by decide)
  rw [show Gw.Op.read awB = some [awW, awM] by kernel_rfl] at H2
  have H3 := opPut_pc [] awO hO (by decide)
  rw [show Gw.Op.put [] awO = [] by kernel_rfl, show Gw.Op.putErr awO = 50 by kernel_rfl] at H3
  have H4 := opTake_pc [] (by decide)
  rw [show Gw.Op.take [] = none by kernel_rfl] at H4
  have H5 := opSame_pc (decide ([awW, awM] = [])) false [awW, awM] (by decide)
  have H6 := opCheck_pc awW hW
  rw [show Gw.Op.check awW = true by kernel_rfl] at H6
  have H7 := opCheck_pc awV hV
  rw [show Gw.Op.check awV = false by kernel_rfl] at H7
  have H8 := opLess_pc awM awW
  rw [show Gw.Stamp.less awM.at_ awW.at_ = true by kernel_rfl] at H8
  have H9 := opLess_pc awW awW
  rw [show Gw.Stamp.less awW.at_ awW.at_ = false by kernel_rfl] at H9
  refine PC.of tabOk mixed (fn := Try.f9) (by kernel_rfl) rfl (by kernel_rfl) rfl rfl ?_
  conv => whnf
  refine AC.of_pc H1 rfl ?_
  conv => whnf
  refine AC.of_pc H2 rfl ?_
  conv => whnf
  refine AC.of_pc H3 rfl ?_
  conv => whnf
  refine AC.of_pc H4 rfl ?_
  conv => whnf
  repeat (first | refine ⟨fun _ => ?_, fun h => absurd h (by decide)⟩ | refine ⟨by decide, ?_⟩ | refine AC.of_pc H5 rfl ?_ | refine AC.of_pc H6 rfl ?_ | refine AC.of_pc H7 rfl ?_ | refine AC.of_pc H8 rfl ?_ | refine AC.of_pc H9 rfl ?_
          (conv => whnf))
  rfl
end Go.Proofs.Ytjfnelgmagmgoaa
