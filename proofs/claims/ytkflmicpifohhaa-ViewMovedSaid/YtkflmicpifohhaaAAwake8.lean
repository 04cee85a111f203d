/- The calls at the head of all statements of layer 8: told without addresses. No claim of its own. -/
import Derived.Test.YtkflmicpifohhaaAItemsM
import Derived.Test.YtkflmicpifohhaaASortM
import Derived.Test.YtkflmicpifohhaaASameT
namespace Go.Proofs.Ytkflmicpifohhaa
open Go.Am

def moveO (c node parent : Int) (s : List UInt8) : Gw.Op.Op := ⟨⟨c, 0⟩, 1, node, parent, s, []⟩
theorem move_pc (c node parent : Int) (s : List UInt8) : PC Try.prog 26 [.int .i64 c, .int .i64 node, .int .i64 parent, .str s] (encO (moveO c node parent s)) := by
  refine PC.of tabOk mixed (fn := Try.f26) (by kernel_rfl) rfl (by kernel_rfl) rfl rfl ?_
  conv => whnf
  rfl
def ops8 : List Gw.Op.Op := [moveO 1 128 0 [98], moveO 5 256 0 [98], moveO 6 385 128 [120], moveO 7 513 256 [121], moveO 8 641 0 [97]]
def nodes8 : List Gw.Tree.Node := [⟨128, 0, [98], ⟨1, 0⟩, [], ⟨0, 0⟩⟩, ⟨256, 0, [98], ⟨5, 0⟩, [], ⟨0, 0⟩⟩, ⟨385, 128, [120], ⟨6, 0⟩, [], ⟨0, 0⟩⟩, ⟨513, 256, [121], ⟨7, 0⟩, [], ⟨0, 0⟩⟩, ⟨641, 0, [97], ⟨8, 0⟩, [], ⟨0, 0⟩⟩]
def want8 : List Gw.View.Item := [⟨[47, 97], 641, []⟩, ⟨[47, 98], 256, []⟩, ⟨[47, 98, 47, 121], 513, []⟩]
theorem fine8 : ∀ o ∈ ops8, Fine o := by
  intro o ho
  simp only [ops8, List.mem_cons, List.not_mem_nil, or_false] at ho
  rcases ho with rfl | rfl | rfl | rfl | rfl <;> exact ⟨by unfold I64 moveO; decide, by unfold I64 moveO; decide, by decide, by decide⟩
theorem filter8 : ops8.filter Gw.Op.check = ops8 := by kernel_rfl
theorem sort8 : ops8 = Gw.Sort.isort lessO 0 (ops8.filter Gw.Op.check).length (ops8.filter Gw.Op.check) := by kernel_rfl
theorem fold8 : foldN ops8 = nodes8 := by kernel_rfl
theorem foldAwake_pc : PC Try.prog 10 [.lst false 7 (encOs ops8) .none] (.lst false 8 (encN nodes8) .none) := by
  rw [← fold8]
  refine foldS_pc false ops8 ops8 (by decide) fine8 sort8 (by rw [filter8]; decide) (by rw [filter8]; decide) ?_
  intro i h
  have h : i + 1 < 5 := h
  match i, h with
  | 0, _ => rfl
  | 1, _ => rfl
  | 2, _ => rfl
  | 3, _ => rfl
theorem idsN8 : ∀ n ∈ nodes8, I64 n.id := by
  intro n hn
  simp only [nodes8, List.mem_cons, List.not_mem_nil, or_false] at hn
  rcases hn with rfl | rfl | rfl | rfl | rfl <;> (unfold I64; decide)
theorem namesN8 : ∀ n ∈ nodes8, n.name.length ≤ 1000 := by
  intro n hn
  simp only [nodes8, List.mem_cons, List.not_mem_nil, or_false] at hn
  rcases hn with rfl | rfl | rfl | rfl | rfl <;> decide
theorem awake_pc : PC Try.prog 8 [] (.bool true) := by
  have hc1 := child_pc false nodes8 0 [98] idsN8 (by decide)
  have hc2 := child_pc false nodes8 0 [120] idsN8 (by decide)
  have hf1 := vFind_pc false false nodes8 [[98], [121]] idsN8 (by decide) (by decide)
  have hf2 := vFind_pc false false nodes8 [[98], [120]] idsN8 (by decide) (by decide)
  have hf3 := vFind_pc false false nodes8 [[97], [120]] idsN8 (by decide) (by decide)
  have hf4 := (vFind_pc false true nodes8 [] idsN8 (by decide) (by decide))
  obtain ⟨q, hls⟩ := vList_pc false nodes8 0 idsN8 (by decide) (fun n hn => by have := namesN8 n hn; omega)
  have hit := vItems_pc false nodes8 0 idsN8 (by decide) namesN8
  rw [show idOf (Gw.View.child nodes8 0 [98]) = 256 by kernel_rfl, show (Gw.View.child nodes8 0 [98]).isSome = true by kernel_rfl] at hc1
  rw [show idOf (Gw.View.child nodes8 0 [120]) = 0 by kernel_rfl, show (Gw.View.child nodes8 0 [120]).isSome = false by kernel_rfl] at hc2
  rw [show Gw.View.find nodes8 [[98], [121]] = (513, 0) by kernel_rfl] at hf1
  rw [show Gw.View.find nodes8 [[98], [120]] = (0, 80) by kernel_rfl] at hf2
  rw [show Gw.View.find nodes8 [[97], [120]] = (0, 81) by kernel_rfl] at hf3
  rw [show Gw.View.find nodes8 [] = (0, 0) by kernel_rfl] at hf4
  rw [show Gw.View.list nodes8 0 = [[97], [98]] by kernel_rfl] at hls
  rw [show Gw.View.items nodes8 0 = want8 by kernel_rfl] at hit
  have hsa := rsameT_pc q false [[97], [98]] [[97], [98]] (by decide)
  have hsi := sameI_pc (decide (want8 = [])) false want8 (by decide)
  have hfd := foldAwake_pc
  have m1 := move_pc 1 128 0 [98]
  have m2 := move_pc 5 256 0 [98]
  have m3 := move_pc 6 385 128 [120]
  have m4 := move_pc 7 513 256 [121]
  have m5 := move_pc 8 641 0 [97]
  generalize nodes8 = F at *
  refine PC.of tabOk mixed (fn := Try.f8) (by kernel_rfl) rfl (by kernel_rfl) rfl rfl ?_
  conv => whnf
  refine AC.of_pc m1 rfl ?_
  conv => whnf
  refine AC.of_pc m2 rfl ?_
  conv => whnf
  refine AC.of_pc m3 rfl ?_
  conv => whnf
  refine AC.of_pc m4 rfl ?_
  conv => whnf
  refine AC.of_pc m5 rfl ?_
  conv => whnf
  refine AC.of_pc hfd rfl ?_
  conv => whnf
  refine AC.of_pc hc1 rfl ?_
  conv => whnf
  refine AC.of_pc hc2 rfl ?_
  conv => whnf
  refine AC.of_pc hf1 rfl ?_
  conv => whnf
  refine AC.of_pc hf2 rfl ?_
  conv => whnf
  refine AC.of_pc hf3 rfl ?_
  conv => whnf
  refine AC.of_pc (hf4.args (args' := [.lst false 8 (encN F) .none, .lst true 1 [] .none]) (.cons (.refl _) (.cons (.nil _ _ _) .nil))) rfl ?_
  conv => whnf
  repeat (first | refine ⟨fun _ => ?_, fun h => absurd h (by decide)⟩ | refine ⟨fun h => absurd h (by decide), fun _ => ?_⟩ | refine ⟨fun _ => ?_, fun h => absurd (show true = false from h) (by decide)⟩ | refine ⟨fun h => absurd (show false = true from h) (by decide), fun _ => ?_⟩
          (conv => whnf))
  refine AC.of_pc hls rfl ?_
  conv => whnf
  refine AC.of_pc hsa rfl ?_
  conv => whnf
  repeat (first | refine ⟨fun _ => ?_, fun h => absurd h (by decide)⟩ | refine ⟨fun h => absurd h (by decide), fun _ => ?_⟩ | refine ⟨fun _ => ?_, fun h => absurd (show true = false from h) (by decide)⟩ | refine ⟨fun h => absurd (show false = true from h) (by decide), fun _ => ?_⟩
          (conv => whnf))
  refine AC.of_pc hit rfl ?_
  conv => whnf
  refine AC.of_pc hsi rfl ?_
  conv => whnf
  repeat (first | refine ⟨fun _ => ?_, fun h => absurd h (by decide)⟩ | refine ⟨fun h => absurd h (by decide), fun _ => ?_⟩ | refine ⟨fun _ => ?_, fun h => absurd (show true = false from h) (by decide)⟩ | refine ⟨fun h => absurd (show false = true from h) (by decide), fun _ => ?_⟩
          (conv => whnf))
end Go.Proofs.Ytkflmicpifohhaa
