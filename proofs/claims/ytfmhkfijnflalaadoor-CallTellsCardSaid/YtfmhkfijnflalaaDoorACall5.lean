/- The law's awake: told without addresses. No claim of its own. -/
import Derived.Test.YtfmhkfijnflalaaDoorACallR5
namespace Go.Proofs.YtfmhkfijnflalaaDoor
open Go.Am

abbrev awA : Gw.Call.Call := ⟨1, [47, 97], [], [], 0⟩
abbrev awL : List Gw.Call.Call := [awA, ⟨5, [47, 97], [47, 98], [], 0⟩, ⟨3, [47, 98], [], [120, 121], 0⟩, ⟨11, [], [], [], 300⟩, ⟨12, [], [], [], 0⟩]
abbrev awP : Gw.Call.Call := ⟨12, [], [], [], 1⟩
abbrev awO : Gw.Call.Call := ⟨0, [], [], [], 0⟩
abbrev awR : Gw.Call.Call := ⟨1, [97], [], [], 0⟩
abbrev awB : List UInt8 := [1, 2, 47, 97, 5, 2, 47, 97, 2, 47, 98, 3, 2, 47, 98, 2, 120, 121, 11, 0x82, 0x2c, 12]

theorem awake_pc : PC Tryd.prog 8 [] (.bool true) := by
  have H1 := write_pc' false awL (fun o h => by
    simp only [List.mem_cons, List.not_mem_nil, or_false] at h
    rcases h with rfl | rfl | rfl | rfl | rfl <;> exact ⟨⟨by decide, by decide⟩, by unfold Gw.Call.Nn; decide⟩) (by decide)
  rw [show awL.all Gw.Call.check = true by kernel_rfl, if_pos rfl, if_pos rfl, show outB awL = awB by kernel_rfl] at H1
  have H2 := read_pc awB (by decide)
  rw [show Gw.Call.read awB = some awL by kernel_rfl] at H2
  have H3 := put_pc [] awP (by decide) (by decide) (by decide) (by decide)
  rw [show Gw.Call.put [] awP = none by kernel_rfl] at H3
  have H4 := calltake_pc [] (by decide)
  rw [show Gw.Call.take [] = none by kernel_rfl] at H4
  have H5 := ksame_pc (decide (awL = [])) false awL (by decide)
  have H6 := check_pc awA (by decide) (by decide)
  rw [show Gw.Call.check awA = true by kernel_rfl] at H6
  have H7 := check_pc awO (by decide) (by decide)
  rw [show Gw.Call.check awO = false by kernel_rfl] at H7
  have H8 := check_pc awR (by decide) (by decide)
  rw [show Gw.Call.check awR = false by kernel_rfl] at H8
  refine PC.of tabOk mixed (fn := Tryd.f8) (by kernel_rfl) rfl (by kernel_rfl) rfl rfl ?_
  conv => whnf
  refine AC.of_pc H1 rfl ?_
  conv => whnf
  refine AC.of_pc H2 rfl ?_
  conv => whnf
  refine AC.of_pc H3 rfl ?_
  conv => whnf
  refine AC.of_pc H4 rfl ?_
  conv => whnf
  repeat (first | refine ⟨fun _ => ?_, fun h => absurd h (by decide)⟩ | refine ⟨_, ⟨by decide, rfl⟩, ?_⟩ | refine ⟨by decide, ?_⟩ | refine AC.of_pc H5 rfl ?_ | refine AC.of_pc H6 rfl ?_ | refine AC.of_pc H7 rfl ?_ | refine AC.of_pc H8 rfl ?_
          (conv => whnf))
  rfl
end Go.Proofs.YtfmhkfijnflalaaDoor
