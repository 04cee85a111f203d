/- What the package tree tells of nodes: told without addresses. No claim of its own. -/
import Derived.Test.YtkflmicpifohhaaAStampP
import Derived.Test.YtkflmicpifohhaaNodeFn
namespace Go.Proofs.Ytkflmicpifohhaa
open Go.Am

def cellsN (n : Gw.Tree.Node) : List V := [.int .i64 n.id, .int .i64 n.parent, .str n.name, .int .i64 n.moved.c, .int .i64 n.moved.r, .str n.data, .int .i64 n.wrote.c, .int .i64 n.wrote.r]
def encN (l : List Gw.Tree.Node) : List (List V) := l.map cellsN
theorem encN_len (l : List Gw.Tree.Node) : (encN l).length = l.length := List.length_map _
theorem encN_get {l : List Gw.Tree.Node} {k : Nat} (h : k < l.length) : (encN l)[k]? = some (cellsN l[k]) := by unfold encN; rw [List.getElem?_map, List.getElem?_eq_getElem h]; rfl
theorem treeCheck_pc (nil : Bool) (l : List Gw.Tree.Node) (hi : ∀ n ∈ l, I64 n.id) (hl : l.length ≤ 1048576) : PC Try.prog 23 [.lst nil 8 (encN l) .none] (.bool (Gw.Tree.check l)) := by
  have hel := encN_len l
  refine PC.of tabOk mixed (fn := Try.f23) (by kernel_rfl) rfl (by kernel_rfl) rfl rfl ?_
  conv => whnf
  refine AW.loop (fun k : Nat => [(.tmp 0, .v (.lst nil 8 (encN l) .none)), (.tmp 8, .v (.lst nil 8 (encN l) .none)), (.tmp 9, .v (.int .i64 l.length)), (.tmp 10, .v (.int .i64 k))]) 0 (fun k => k ≤ l.length ∧ ∀ j, j < k → Gw.Tree.mayAt l j = true) (fun k => l.length - k) (by decide) 0 ⟨Nat.zero_le _, fun j h => by omega⟩ ⟨rfl, rfl, rfl, rfl, ?_, rfl, rfl, rfl, trivial⟩ ?_
  · show C.v (V.int .i64 (encN l).length) = _
    rw [hel]
  rintro k ⟨hk, hall⟩
  refine ev_sound tabOk mixed _ _ _ _ ?_
  conv => whnf
  refine ⟨fun h1 => ?_, fun h1 => ?_⟩
  · have h1 := of_decide_eq_true h1
    have hlt : k < l.length := by omega
    have hg := encN_get hlt
    conv => whnf
    refine ⟨_, ⟨by omega, hg⟩, ?_⟩
    have hid := hi _ (List.getElem_mem hlt)
    conv => whnf
    refine AC.of_pc (of_pc _ hid) rfl ?_
    have hmk : Gw.Tree.mayAt l k = (Gw.Stamp.ok l[k].id && Gw.Tree.prevOk l l[k].id k) := by unfold Gw.Tree.mayAt; rw [List.getElem?_eq_getElem hlt]
    have hbad : Gw.Tree.mayAt l k = false → Gw.Tree.check l = false := fun h => by
      rw [Bool.eq_false_iff]
      intro hc
      have := List.all_eq_true.1 hc k (List.mem_range.2 hlt)
      rw [h] at this; cases this
    have hwk : IntKind.i64.wrap ((k : Int) + 1) = ((k + 1 : Nat) : Int) := by rw [w64 (by omega) (by omega)]; rfl
    have hnext : Gw.Tree.mayAt l k = true → ∀ j, j < k + 1 → Gw.Tree.mayAt l j = true := fun h j hj => by
      by_cases e : j = k
      · subst e; exact h
      · exact hall j (by omega)
    generalize l[k] = nd at *
    generalize Gw.Stamp.ok nd.id = q at *
    generalize Gw.Stamp.of nd.id = st at *
    generalize Gw.Stamp.file nd.id = fl at *
    cases q with
    | false =>
      rw [hbad (by rw [hmk]; rfl)]
      conv => whnf
      repeat (first | refine ⟨fun _ => ?_, fun h => absurd h (by decide)⟩ | refine ⟨fun h => absurd h (by decide), fun _ => ?_⟩ | refine ⟨fun _ => ?_, fun h => absurd (show true = false from h) (by decide)⟩ | refine ⟨fun h => absurd (show false = true from h) (by decide), fun _ => ?_⟩
              (conv => whnf))
      refine ⟨by kernel_rfl, ?_⟩
      conv => whnf
    | true =>
    rw [Bool.true_and] at hmk
    cases k with
    | zero =>
      conv => whnf
      repeat (first | refine ⟨fun _ => ?_, fun h => absurd h (by decide)⟩ | refine ⟨fun h => absurd h (by decide), fun _ => ?_⟩ | refine ⟨fun _ => ?_, fun h => absurd (show true = false from h) (by decide)⟩ | refine ⟨fun h => absurd (show false = true from h) (by decide), fun _ => ?_⟩
              (conv => whnf))
      refine ⟨by kernel_rfl, ?_⟩
      conv => whnf
      refine ⟨1, ⟨hlt, hnext (by rw [hmk]; rfl)⟩, by show l.length - 1 < l.length - 0; omega, rfl, rfl, rfl, rfl, rfl, rfl, rfl, rfl, trivial⟩
    | succ j =>
      have hg2 := encN_get (show j < l.length by omega)
      have hpr : Gw.Tree.mayAt l (j + 1) = decide (l[j].id < nd.id) := by rw [hmk]; show (match l[j]? with | none => false | some p => decide (p.id < nd.id)) = _; rw [List.getElem?_eq_getElem (show j < l.length by omega)]
      have hwj : IntKind.i64.wrap (((j + 1 : Nat) : Int) - 1) = (j : Int) := by rw [w64 (by omega) (by omega)]; omega
      conv => whnf
      repeat (first | refine ⟨fun h => absurd h (by decide), fun _ => ?_⟩
                    | refine ⟨fun _ => ?_, fun h => absurd h (by decide)⟩
                    | refine ⟨fun _ => ?_, fun h => absurd h (by simp; first | done | omega | fail "x")⟩
                    | fail "end"
              (conv => whnf))
      rw [hwj]
      refine ⟨_, ⟨by omega, hg2⟩, ?_⟩
      generalize l[j] = pd at *
      conv => whnf
      refine ⟨by kernel_rfl, ?_⟩
      conv => whnf
      refine ⟨fun h => ?_, fun h => ?_⟩
      · have h := of_decide_eq_true h
        rw [hbad (by rw [hpr]; exact decide_eq_false (by omega))]
        conv => whnf
      · have h := of_decide_eq_false h
        conv => whnf
        refine ⟨j + 2, ⟨by omega, hnext (by rw [hpr]; exact decide_eq_true (by omega))⟩, by show l.length - (j + 2) < l.length - (j + 1); omega, rfl, rfl, rfl, rfl, rfl, rfl, ?_, rfl, trivial⟩
        show C.v (V.int .i64 (IntKind.i64.wrap (((j + 1 : Nat) : Int) + 1))) = _
        rw [hwk]
  · have h1 := of_decide_eq_false h1
    have hck : Gw.Tree.check l = true := List.all_eq_true.2 fun j hj => hall j (by have := List.mem_range.1 hj; omega)
    rw [hck]
    conv => whnf
end Go.Proofs.Ytkflmicpifohhaa
