/- The calls at the head of all statements of layer 9: told without addresses. No claim of its own. -/
import Derived.Test.YtipgfdepopfghaaGreatADiff2
import Derived.Test.YtipgfdepopfghaaGreatASortM
import Derived.Test.YtipgfdepopfghaaGreatASameT
namespace Go.Proofs.YtipgfdepopfghaaGreat
open Go.Am

theorem sameE_pc (n1 n2 : Bool) (l : List Gw.Diff.Event) (hl : l.length ≤ 1048576) : PC Tryz.prog 14 [.lst n1 2 (encE l) .none, .lst n2 2 (encE l) .none] (.bool true) := by
  have hel := encE_len l
  refine PC.of tabOk mixed (fn := Tryz.f14) (by kernel_rfl) rfl (by kernel_rfl) rfl rfl ?_
  conv => whnf
  rw [hel]
  refine ⟨fun h => absurd h (by simp), fun _ => ?_⟩
  conv => whnf
  refine AW.loop (fun k : Nat => [(.tmp 0, .v (.lst n1 2 (encE l) .none)), (.tmp 1, .v (.lst n2 2 (encE l) .none)), (.tmp 5, .v (.int .i64 k))]) 0
    (fun k => k ≤ l.length) (fun k => l.length - k) (by decide) 0 (Nat.zero_le _) ⟨rfl, rfl, rfl, rfl, rfl, rfl, trivial⟩ ?_
  rintro k hk
  refine ev_sound tabOk mixed _ _ _ _ ?_
  conv => whnf
  rw [hel]
  refine ⟨fun h => ?_, fun h => ?_⟩
  · have h := of_decide_eq_true h
    have hlt : k < l.length := by omega
    have hg := encE_get hlt
    conv => whnf
    refine ⟨_, ⟨by omega, hg⟩, ?_⟩
    conv => whnf
    refine ⟨_, ⟨by omega, hg⟩, ?_⟩
    generalize l[k] = it at *
    conv => whnf
    refine ⟨by kernel_rfl, ?_⟩
    conv => whnf
    refine ⟨by kernel_rfl, ?_⟩
    conv => whnf
    refine ⟨fun h => absurd h (by simp), fun _ => ?_⟩
    conv => whnf
    refine ⟨k + 1, hlt, by show l.length - (k + 1) < l.length - k; omega, rfl, rfl, rfl, rfl, ?_, rfl, trivial⟩
    show C.v (V.int .i64 (IntKind.i64.wrap ((k : Int) + 1))) = _
    rw [w64 (by omega) (by omega)]; rfl
  · conv => whnf
def moveO (c node parent : Int) (s : List UInt8) : Gw.Op.Op := ⟨⟨c, 0⟩, 1, node, parent, s, []⟩
theorem move_pc (c node parent : Int) (s : List UInt8) : PC Tryz.prog 27 [.int .i64 c, .int .i64 node, .int .i64 parent, .str s] (encO (moveO c node parent s)) := by
  refine PC.of tabOk mixed (fn := Tryz.f27) (by kernel_rfl) rfl (by kernel_rfl) rfl rfl ?_
  conv => whnf
  rfl
def ops9 : List Gw.Op.Op := [moveO 1 128 0 [97], moveO 2 257 128 [98], moveO 3 385 0 [107]]
def write9 : Gw.Op.Op := ⟨⟨5, 0⟩, 2, 385, 0, [], [110, 101, 119]⟩
def nodesA9 : List Gw.Tree.Node := [⟨128, 0, [97], ⟨1, 0⟩, [], ⟨0, 0⟩⟩, ⟨257, 128, [98], ⟨2, 0⟩, [], ⟨0, 0⟩⟩, ⟨385, 0, [107], ⟨3, 0⟩, [], ⟨0, 0⟩⟩]
def nodesW9 : List Gw.Tree.Node := [⟨128, 0, [99], ⟨4, 0⟩, [], ⟨0, 0⟩⟩, ⟨257, 128, [98], ⟨2, 0⟩, [], ⟨0, 0⟩⟩, ⟨385, 0, [107], ⟨3, 0⟩, [], ⟨0, 0⟩⟩]
def nodesB9 : List Gw.Tree.Node := [⟨128, 0, [99], ⟨4, 0⟩, [], ⟨0, 0⟩⟩, ⟨257, 128, [98], ⟨2, 0⟩, [], ⟨0, 0⟩⟩, ⟨385, 0, [107], ⟨3, 0⟩, [110, 101, 119], ⟨5, 0⟩⟩]
def want9 : List Gw.Diff.Event := [⟨1, [47, 97, 47, 98]⟩, ⟨1, [47, 97]⟩, ⟨2, [47, 99]⟩, ⟨2, [47, 99, 47, 98]⟩, ⟨3, [47, 107]⟩]
theorem fine9 : ∀ o ∈ ops9, Fine o := by
  intro o ho
  simp only [ops9, List.mem_cons, List.not_mem_nil, or_false] at ho
  rcases ho with rfl | rfl | rfl <;> exact ⟨by unfold I64 moveO; decide, by unfold I64 moveO; decide, by decide, by decide⟩
theorem filter9 : ops9.filter Gw.Op.check = ops9 := by kernel_rfl
theorem sort9 : ops9 = Gw.Sort.isort lessO 0 (ops9.filter Gw.Op.check).length (ops9.filter Gw.Op.check) := by kernel_rfl
theorem fold9 : foldN ops9 = nodesA9 := by kernel_rfl
theorem foldAwake_pc : PC Tryz.prog 21 [.lst false 7 (encOs ops9) .none] (.lst false 8 (encN nodesA9) .none) := by
  rw [← fold9]
  refine foldS_pc false ops9 ops9 (by decide) fine9 sort9 (by rw [filter9]; decide) (by rw [filter9]; decide) ?_
  intro i h
  have h : i + 1 < 3 := h
  match i, h with
  | 0, _ => rfl
  | 1, _ => rfl
theorem idsA9 : ∀ n ∈ nodesA9, I64 n.id ∧ n.name.length ≤ 1000 := by
  intro n hn
  simp only [nodesA9, List.mem_cons, List.not_mem_nil, or_false] at hn
  rcases hn with rfl | rfl | rfl <;> exact ⟨by unfold I64; decide, by decide⟩
theorem idsW9 : ∀ n ∈ nodesW9, I64 n.id ∧ n.name.length ≤ 1000 := by
  intro n hn
  simp only [nodesW9, List.mem_cons, List.not_mem_nil, or_false] at hn
  rcases hn with rfl | rfl | rfl <;> exact ⟨by unfold I64; decide, by decide⟩
theorem idsB9 : ∀ n ∈ nodesB9, I64 n.id ∧ n.name.length ≤ 1000 := by
  intro n hn
  simp only [nodesB9, List.mem_cons, List.not_mem_nil, or_false] at hn
  rcases hn with rfl | rfl | rfl <;> exact ⟨by unfold I64; decide, by decide⟩
theorem play9 : Gw.Diff.play [[47, 107], [47, 97], [47, 97, 47, 98], [47, 97]] want9 = [[47, 99], [47, 99, 47, 98], [47, 107]] := by
  unfold Gw.Diff.play
  rw [show Gw.Mp.keys (Gw.Diff.playM [[47, 107], [47, 97], [47, 97, 47, 98], [47, 97]] want9).2 = [[47, 107], [47, 99], [47, 99, 47, 98]] by kernel_rfl]
  refine (Gw.Diff.sortB_unique ?_ ?_).symm
  · rw [← List.isPerm_iff]; rfl
  · decide
theorem awake_pc : PC Tryz.prog 9 [] (.bool true) := by
  have hd1 := do_pc false nodesA9 (moveO 4 128 0 [99]) (fun n hn => (idsA9 n hn).1) (by decide) ⟨by unfold I64 moveO; decide, by unfold I64 moveO; decide, by decide, by decide⟩
  have hd2 := do_pc false nodesW9 write9 (fun n hn => (idsW9 n hn).1) (by decide) ⟨by unfold I64 write9; decide, by unfold I64 write9; decide, by decide, by decide⟩
  rw [show Gw.Tree.done nodesA9 (moveO 4 128 0 [99]) = nodesW9 by kernel_rfl] at hd1
  rw [show Gw.Tree.done nodesW9 write9 = nodesB9 by kernel_rfl] at hd2
  have ho1 := diffOf_pc false false nodesA9 nodesB9 0 (fun n hn => (idsA9 n hn).1) (fun n hn => (idsB9 n hn).1) (by decide) (by decide) (fun n hn => (idsA9 n hn).2) (fun n hn => (idsB9 n hn).2)
  have ho2 := diffOf_pc false false nodesA9 nodesB9 128 (fun n hn => (idsA9 n hn).1) (fun n hn => (idsB9 n hn).1) (by decide) (by decide) (fun n hn => (idsA9 n hn).2) (fun n hn => (idsB9 n hn).2)
  rw [show Gw.Diff.ofI (Gw.View.items nodesA9 0) (Gw.View.items nodesB9 0) = want9 by kernel_rfl] at ho1
  rw [show Gw.Diff.ofI (Gw.View.items nodesA9 128) (Gw.View.items nodesB9 128) = [] by kernel_rfl] at ho2
  have hpl := play_pc false (decide (want9 = [])) [[47, 107], [47, 97], [47, 97, 47, 98], [47, 97]] want9 (by decide) (by decide)
  rw [play9] at hpl
  have hse := sameE_pc (decide (want9 = [])) false want9 (by decide)
  have hsa := rsameT_pc false false [[47, 99], [47, 99, 47, 98], [47, 107]] [[47, 99], [47, 99, 47, 98], [47, 107]] (by decide)
  rw [decide_eq_true rfl] at hsa
  have hfd := foldAwake_pc
  have m1 := move_pc 1 128 0 [97]
  have m2 := move_pc 2 257 128 [98]
  have m3 := move_pc 3 385 0 [107]
  have m4 := move_pc 4 128 0 [99]
  generalize hu1 : encU (Gw.Tree.undo nodesA9 (moveO 4 128 0 [99])) = U1 at hd1
  generalize hu2 : encU (Gw.Tree.undo nodesW9 write9) = U2 at hd2
  have hx1 : ∃ u, U1 = encU u := ⟨_, hu1.symm⟩
  have hx2 : ∃ u, U2 = encU u := ⟨_, hu2.symm⟩
  clear hu1 hu2
  obtain ⟨u1, rfl⟩ := hx1
  obtain ⟨u2, rfl⟩ := hx2
  have hOps : encOs ops9 = [cellsO (moveO 1 128 0 [97]), cellsO (moveO 2 257 128 [98]), cellsO (moveO 3 385 0 [107])] := rfl
  generalize nodesA9 = FA at *
  generalize nodesW9 = FW at *
  generalize nodesB9 = FB at *
  refine PC.of tabOk mixed (fn := Tryz.f9) (by kernel_rfl) rfl (by kernel_rfl) rfl rfl ?_
  conv => whnf
  refine AC.of_pc m1 rfl ?_
  conv => whnf
  refine AC.of_pc m2 rfl ?_
  conv => whnf
  refine AC.of_pc m3 rfl ?_
  conv => whnf
  refine AC.of_pc hfd rfl ?_
  conv => whnf
  refine AC.of_pc m4 rfl ?_
  conv => whnf
  refine AC.of_pc hd1 rfl ?_
  conv => whnf
  refine AC.of_pc hd2 rfl ?_
  conv => whnf
  refine AC.of_pc ho1 rfl ?_
  conv => whnf
  refine AC.of_pc hse rfl ?_
  conv => whnf
  repeat (first | refine ⟨fun _ => ?_, fun h => absurd h (by decide)⟩ | refine ⟨fun h => absurd h (by decide), fun _ => ?_⟩ | refine ⟨fun _ => ?_, fun h => absurd (show true = false from h) (by decide)⟩ | refine ⟨fun h => absurd (show false = true from h) (by decide), fun _ => ?_⟩
          (conv => whnf))
  refine AC.of_pc ho2 rfl ?_
  conv => whnf
  repeat (first | refine ⟨fun _ => ?_, fun h => absurd h (by decide)⟩ | refine ⟨fun h => absurd h (by decide), fun _ => ?_⟩ | refine ⟨fun _ => ?_, fun h => absurd (show true = false from h) (by decide)⟩ | refine ⟨fun h => absurd (show false = true from h) (by decide), fun _ => ?_⟩
          (conv => whnf))
  refine AC.of_pc hpl rfl ?_
  conv => whnf
  refine AC.of_pc hsa rfl ?_
  conv => whnf
  repeat (first | refine ⟨fun _ => ?_, fun h => absurd h (by decide)⟩ | refine ⟨fun h => absurd h (by decide), fun _ => ?_⟩ | refine ⟨fun _ => ?_, fun h => absurd (show true = false from h) (by decide)⟩ | refine ⟨fun h => absurd (show false = true from h) (by decide), fun _ => ?_⟩
          (conv => whnf))
end Go.Proofs.YtipgfdepopfghaaGreat
