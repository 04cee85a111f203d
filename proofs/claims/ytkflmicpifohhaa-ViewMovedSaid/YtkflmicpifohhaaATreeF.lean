/- tree.Find: told without addresses. No claim of its own. -/
import Derived.Test.YtkflmicpifohhaaATreeM
namespace Go.Proofs.Ytkflmicpifohhaa
open Go.Am

theorem tFind_pc (nil : Bool) (l : List Gw.Tree.Node) (id : Int) (hi : ∀ n ∈ l, I64 n.id) (hl : l.length ≤ 1048576) :
    PC Try.prog 21 [.lst nil 8 (encN l) .none, .int .i64 id] (.tup [.agg (cellsN ((if Gw.Tree.check l = true then Gw.Tree.find l id else none).getD Gw.Tree.zeroN)), .bool (if Gw.Tree.check l = true then Gw.Tree.find l id else none).isSome]) := by
  have hck := treeCheck_pc nil l hi hl
  have hpl := place_pc nil l id hl
  refine PC.of tabOk mixed (fn := Try.f21) (by kernel_rfl) rfl (by kernel_rfl) rfl rfl ?_
  conv => whnf
  refine AC.of_pc hck rfl ?_
  cases hc : Gw.Tree.check l with
  | false =>
    conv => whnf
    repeat (first | refine ⟨fun _ => ?_, fun h => absurd h (by decide)⟩ | refine ⟨fun h => absurd h (by decide), fun _ => ?_⟩ | refine ⟨fun _ => ?_, fun h => absurd (show true = false from h) (by decide)⟩ | refine ⟨fun h => absurd (show false = true from h) (by decide), fun _ => ?_⟩
            (conv => whnf))
    rfl
  | true =>
    have hhd := Gw.Tree.had_find l id
    rw [if_pos rfl]
    conv => whnf
    repeat (first | refine ⟨fun _ => ?_, fun h => absurd h (by decide)⟩ | refine ⟨fun h => absurd h (by decide), fun _ => ?_⟩ | refine ⟨fun _ => ?_, fun h => absurd (show true = false from h) (by decide)⟩ | refine ⟨fun h => absurd (show false = true from h) (by decide), fun _ => ?_⟩
            (conv => whnf))
    refine AC.of_pc (hpl hc) rfl ?_
    cases hfd : Gw.Tree.find l id with
    | none =>
      rw [hfd] at hhd
      rw [hhd]
      conv => whnf
      repeat (first | refine ⟨fun _ => ?_, fun h => absurd h (by decide)⟩ | refine ⟨fun h => absurd h (by decide), fun _ => ?_⟩ | refine ⟨fun _ => ?_, fun h => absurd (show true = false from h) (by decide)⟩ | refine ⟨fun h => absurd (show false = true from h) (by decide), fun _ => ?_⟩
              (conv => whnf))
      rfl
    | some nd =>
      obtain ⟨_, _, hp, hnd⟩ := Gw.Tree.find_some hfd
      have hg := encN_get hp
      rw [hnd] at hg
      rw [hfd, Option.isSome_some] at hhd
      rw [hhd]
      conv => whnf
      refine ⟨fun h => absurd h (by decide), fun _ => ?_⟩
      conv => whnf
      refine ⟨_, ⟨by omega, hg⟩, ?_⟩
      conv => whnf
      rfl
end Go.Proofs.Ytkflmicpifohhaa
