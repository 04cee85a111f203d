/- The law ViewTells, walked without addresses. No claim of its own. -/
import Derived.Test.YtkflmicpifohhaaGreatAAwake8
import Derived.Test.YtkflmicpifohhaaGreatARItems
import Derived.Test.YtkflmicpifohhaaGreatASameT
namespace Go.Proofs.YtkflmicpifohhaaGreat
open Go.Am

theorem viewTells_pc (nil n2 : Bool) (l : List Gw.Tree.Node) (dir : Int) (s : List UInt8) (names : List (List UInt8)) (hi : ∀ n ∈ l, I64 n.id) (hl : l.length ≤ 9223372036854775807) (hn : (names.length + 1) * 16 ≤ 140737488355328) :
    PC Tryz.prog 3 [.lst nil 8 (encN l) .none, .int .i64 dir, .str s, .lst n2 1 (encS1 names) .none] (.bool true) := by
  have hel := encN_len l
  have hnl := encS1_len names
  have haw := awake_pc
  have hfw := few_pc nil false l (names ++ [s]) hl (by rw [List.length_append, List.length_singleton]; omega)
  have hns : encS1 (names ++ [s]) = encS1 names ++ [[V.str s]] := by unfold encS1; rw [List.map_append]; rfl
  rw [hns] at hfw
  have hfits : Fits (0 + (encS1 names).length) 16 := by unfold Fits; rw [hnl]; constructor <;> omega
  have hfits2 : Fits ((encS1 names).length + 1) 16 := by unfold Fits; rw [hnl]; constructor <;> omega
  refine PC.of tabOk mixed (fn := Tryz.f3) (by kernel_rfl) rfl (by kernel_rfl) rfl rfl ?_
  conv => whnf
  refine AC.of_pc haw rfl ?_
  conv => whnf
  refine ⟨hfits, ?_⟩
  conv => whnf
  refine ⟨⟨Nat.zero_add _, hfits2⟩, ?_⟩
  conv => whnf
  refine AC.of_pc hfw rfl ?_
  cases hfew : (fewT (names ++ [s]) && (fewN l 100 && decide ((names ++ [s]).length ≤ 100))) with
  | false =>
    conv => whnf
    repeat (first | refine ⟨fun _ => ?_, fun h => absurd h (by decide)⟩ | refine ⟨fun h => absurd h (by decide), fun _ => ?_⟩ | refine ⟨fun _ => ?_, fun h => absurd (show true = false from h) (by decide)⟩ | refine ⟨fun h => absurd (show false = true from h) (by decide), fun _ => ?_⟩
            (conv => whnf))
  | true =>
  simp only [Bool.and_eq_true, decide_eq_true_eq] at hfew
  obtain ⟨hft, hfewN, hnn⟩ := hfew
  rw [List.length_append, List.length_singleton] at hnn
  obtain ⟨hlen, hshort⟩ := fewN_spec hfewN
  have hch := child_pc nil l dir s hi (by omega)
  have hrch := rchild_pc nil l dir s hi (by omega)
  have hvf := vFind_pc nil n2 l names hi (by omega) (by omega)
  have hrvf := rvFind_pc nil n2 l names hi (by omega) (by omega)
  obtain ⟨q1, hli⟩ := vList_pc nil l dir hi (by omega) (fun n hn => by have := (hshort n hn).1; omega)
  obtain ⟨q2, hrli⟩ := rlist_pc nil l dir hi (by omega) (fun n hn => by have := (hshort n hn).1; omega)
  have hit := vItems_pc nil l dir hi (by omega) (fun n hn => (hshort n hn).1)
  obtain ⟨q3, hrit⟩ := rvItems_pc nil l dir hi (by omega) (fun n hn => (hshort n hn).1)
  have hLl : (Gw.View.list l dir).length ≤ 4611686018427387904 := by
    cases hc : Gw.Tree.check l with
    | true => have := list_len hc dir; omega
    | false => rw [show Gw.View.list l dir = [] from by unfold Gw.View.list; rw [hc]; rfl]; decide
  have hIl : (Gw.View.items l dir).length ≤ 1048576 := by
    cases hc : Gw.Tree.check l with
    | true =>
      have := Gw.View.belowF_len hc (outs := Gw.View.outsOf l dir) (top := dir) (by unfold Gw.View.outsOf; exact List.mem_cons_self) l.length .top (path := [])
      unfold Gw.View.items
      rw [hc, if_pos rfl]
      omega
    | false => rw [show Gw.View.items l dir = [] from by unfold Gw.View.items; rw [hc]; rfl]; decide
  have hsT := rsameT_pc q1 q2 (Gw.View.list l dir) (Gw.View.list l dir) hLl
  have hsI := sameI_pc (decide (Gw.View.items l dir = [])) q3 (Gw.View.items l dir) hIl
  rw [decide_eq_true rfl] at hsT
  generalize Gw.View.items l dir = I at hit hrit hsI
  generalize Gw.View.list l dir = L at hli hrli hsT
  generalize Gw.View.child l dir s = C at hch hrch
  generalize Gw.View.find l names = D at hvf hrvf
  conv => whnf
  repeat (first | refine ⟨fun _ => ?_, fun h => absurd h (by decide)⟩ | refine ⟨fun h => absurd h (by decide), fun _ => ?_⟩ | refine ⟨fun _ => ?_, fun h => absurd (show true = false from h) (by decide)⟩ | refine ⟨fun h => absurd (show false = true from h) (by decide), fun _ => ?_⟩
          (conv => whnf))
  refine AC.of_pc hch rfl ?_
  conv => whnf
  refine AC.of_pc hrch rfl ?_
  conv => whnf
  refine AC.of_pc hvf rfl ?_
  conv => whnf
  refine AC.of_pc hrvf rfl ?_
  conv => whnf
  repeat (first | refine ⟨fun h => absurd h (by decide), fun _ => ?_⟩
                | refine ⟨fun _ => ?_, fun h => absurd h (by simp; first | done | fail "x")⟩
                | fail "end"
          (conv => whnf))
  refine AC.of_pc hli rfl ?_
  conv => whnf
  refine AC.of_pc hrli rfl ?_
  conv => whnf
  refine AC.of_pc hsT rfl ?_
  conv => whnf
  repeat (first | refine ⟨fun h => absurd h (by decide), fun _ => ?_⟩
                | refine ⟨fun _ => ?_, fun h => absurd h (by simp; first | done | fail "x")⟩
                | fail "end"
          (conv => whnf))
  refine AC.of_pc hit rfl ?_
  conv => whnf
  refine AC.of_pc hrit rfl ?_
  conv => whnf
  refine AC.of_pc hsI rfl ?_
  conv => whnf
  done
end Go.Proofs.YtkflmicpifohhaaGreat
