/- The law ViewMoved, walked without addresses. No claim of its own. -/
import Derived.Test.YtkflmicpifohhaaAFinds
import Derived.Test.YtkflmicpifohhaaMovedPl
namespace Go.Proofs.Ytkflmicpifohhaa
open Go.Am

def atO (o : Gw.Op.Op) (dir : Int) : Gw.Op.Op := ⟨o.at_, o.kind, o.node, dir, o.name, o.data⟩
theorem findF_i64 {l : List Gw.Tree.Node} (hi : ∀ n ∈ l, I64 n.id) : ∀ (names : List (List UInt8)) (at_ : Int), I64 at_ → I64 (Gw.View.findF l at_ names).1
  | [], _, h => h
  | s :: r, at_, h => by
    have z : I64 0 := by unfold I64; decide
    rw [Gw.View.findF]
    split
    · cases hc : Gw.View.child l at_ s with
      | none => exact z
      | some n => exact findF_i64 hi r n.id (hi n (Gw.View.child_mem hc).1)
    · exact z
theorem find_i64 {l : List Gw.Tree.Node} (hi : ∀ n ∈ l, I64 n.id) (names : List (List UInt8)) : I64 (Gw.View.find l names).1 := findF_i64 hi names 0 (by unfold I64; decide)
theorem viewMoved_pc (nil n2 : Bool) (l : List Gw.Op.Op) (o : Gw.Op.Op) (names : List (List UInt8)) (hi : ∀ o ∈ l, I64 o.node ∧ I64 o.parent) (hl : l.length ≤ 9223372036854775807) (ho : I64 o.node ∧ I64 o.parent) (hnl : names.length ≤ 9223372036854775807) :
    PC Try.prog 4 [.lst nil 7 (encOs l) .none, encO o, .lst n2 1 (encS1 names) .none] (.bool true) := by
  have haw := awake_pc
  have hfw := few05_pc nil l 60 hl
  have hfw1 := fun q => few05_pc q [o] 1 (by rw [List.length_singleton]; decide)
  have hfn := (few_pc true n2 [] names (by decide) hnl).args (args' := [.lst true 1 [] .none, .lst n2 1 (encS1 names) .none]) (.cons (.nil _ _ _) (.cons (.refl _) .nil))
  have hne := encS1_len names
  refine PC.of tabOk mixed (fn := Try.f4) (by kernel_rfl) rfl (by kernel_rfl) rfl rfl ?_
  conv => whnf
  refine AC.of_pc haw rfl ?_
  conv => whnf
  refine AC.of_pc hfw rfl ?_
  cases hfew : (Gw.Op.fewL l && decide ((l.length : Int) ≤ 60)) with
  | false =>
    conv => whnf
    repeat (first | refine ⟨fun _ => ?_, fun h => absurd h (by decide)⟩ | refine ⟨fun h => absurd h (by decide), fun _ => ?_⟩ | refine ⟨fun _ => ?_, fun h => absurd (show true = false from h) (by decide)⟩ | refine ⟨fun h => absurd (show false = true from h) (by decide), fun _ => ?_⟩
            (conv => whnf))
  | true =>
  simp only [Bool.and_eq_true, decide_eq_true_eq] at hfew
  obtain ⟨hf5, hlen⟩ := hfew
  obtain ⟨hfine, hnm⟩ := few_fine05 hf5 hi
  have hfo := foldG_pr nil l (by omega) hfine
  conv => whnf
  repeat (first | refine ⟨fun _ => ?_, fun h => absurd h (by decide)⟩ | refine ⟨fun h => absurd h (by decide), fun _ => ?_⟩ | refine ⟨fun _ => ?_, fun h => absurd (show true = false from h) (by decide)⟩ | refine ⟨fun h => absurd (show false = true from h) (by decide), fun _ => ?_⟩
          (conv => whnf))
  refine AC.of_pc (hfw1 _) rfl ?_
  cases hfewo : (Gw.Op.fewL [o] && decide ((([o] : List Gw.Op.Op).length : Int) ≤ 1)) with
  | false =>
    conv => whnf
    repeat (first | refine ⟨fun _ => ?_, fun h => absurd h (by decide)⟩ | refine ⟨fun h => absurd h (by decide), fun _ => ?_⟩ | refine ⟨fun _ => ?_, fun h => absurd (show true = false from h) (by decide)⟩ | refine ⟨fun h => absurd (show false = true from h) (by decide), fun _ => ?_⟩
            (conv => whnf))
  | true =>
  simp only [Bool.and_eq_true, decide_eq_true_eq] at hfewo
  obtain ⟨hfineo, hnmo⟩ := few_fine05 hfewo.1 (fun x hx => by rw [List.mem_singleton] at hx; rw [hx]; exact ho)
  have hfo1 := hfineo o (by simp)
  have hno1 := hnmo o (by simp)
  conv => whnf
  repeat (first | refine ⟨fun _ => ?_, fun h => absurd h (by decide)⟩ | refine ⟨fun h => absurd h (by decide), fun _ => ?_⟩ | refine ⟨fun _ => ?_, fun h => absurd (show true = false from h) (by decide)⟩ | refine ⟨fun h => absurd (show false = true from h) (by decide), fun _ => ?_⟩
          (conv => whnf))
  refine AC.of_pc hfn rfl ?_
  cases hfew2 : (fewT names && (fewN [] 100 && decide (names.length ≤ 100))) with
  | false =>
    conv => whnf
    repeat (first | refine ⟨fun _ => ?_, fun h => absurd h (by decide)⟩ | refine ⟨fun h => absurd h (by decide), fun _ => ?_⟩ | refine ⟨fun _ => ?_, fun h => absurd (show true = false from h) (by decide)⟩ | refine ⟨fun h => absurd (show false = true from h) (by decide), fun _ => ?_⟩
            (conv => whnf))
  | true =>
  simp only [Bool.and_eq_true, decide_eq_true_eq] at hfew2
  obtain ⟨hft, _, hn100⟩ := hfew2
  conv => whnf
  repeat (first | refine ⟨fun _ => ?_, fun h => absurd h (by decide)⟩ | refine ⟨fun h => absurd h (by decide), fun _ => ?_⟩ | refine ⟨fun _ => ?_, fun h => absurd (show true = false from h) (by decide)⟩ | refine ⟨fun h => absurd (show false = true from h) (by decide), fun _ => ?_⟩
          (conv => whnf))
  refine ⟨fun h => ?_, fun h => ?_⟩
  · conv => whnf
  have hkind : o.kind = 1 := by simpa using h
  conv => whnf
  refine AC.of_pr hfo rfl ?_
  rintro res ⟨q, s, hs, hsl, rfl⟩
  have hg := grove_of hfine hnm (by omega) hs hsl
  have hl60 := hg.len
  generalize foldN s = D at *
  have hel := encN_len D
  conv => whnf
  refine AW.loop (fun k : Nat => [(.tmp 2, .v (.lst n2 1 (encS1 names) .none)), (.tmp 4, .v (.ptr 0 0)), (.tmp 7, .v (.bool true)), (.tmp 8, .v (.lst q 8 (encN D) .none)), (.tmp 9, .v (.int .i64 k)), (.blk 0, .box 39 (cellsO o))]) 1
    (fun k => k ≤ D.length ∧ ∀ n ∈ D.take k, Gw.Stamp.less n.moved o.at_ = true) (fun k => D.length - k) (by decide) 0 ⟨Nat.zero_le _, fun n h => by rw [List.take_zero] at h; cases h⟩ ⟨rfl, rfl, rfl, rfl, rfl, rfl, rfl, rfl, rfl, rfl, rfl, rfl, trivial⟩ ?_
  rintro k ⟨hk, hall⟩
  refine ev_sound tabOk mixed _ _ _ _ ?_
  conv => whnf
  refine ⟨fun h => ?_, fun h => ?_⟩
  · have h := of_decide_eq_true h
    rw [hel] at h
    have hlt : k < D.length := by omega
    have hgk := encN_get hlt
    have hls := less_pc D[k].moved o.at_
    conv => whnf
    refine ⟨_, ⟨by omega, hgk⟩, ?_⟩
    conv => whnf
    refine ⟨_, rfl, hls, ?_⟩
    conv => whnf
    refine ⟨by kernel_rfl, ?_⟩
    conv => whnf
    refine ⟨fun h => ?_, fun h => ?_⟩
    · conv => whnf
    · have h : Gw.Stamp.less D[k].moved o.at_ = true := by simpa using h
      conv => whnf
      refine ⟨k + 1, ⟨by omega, fun n hn => ?_⟩, by show D.length - (k + 1) < D.length - k; omega, rfl, rfl, rfl, rfl, rfl, rfl, rfl, rfl, ?_, rfl, rfl, rfl, trivial⟩
      · rw [List.take_succ_eq_append_getElem hlt] at hn
        rcases List.mem_append.1 hn with hn | hn
        · exact hall n hn
        · rw [List.mem_singleton] at hn
          rw [hn]; exact h
      · show C.v (V.int .i64 (IntKind.i64.wrap ((k : Int) + 1))) = _
        rw [w64 (by omega) (by omega)]; rfl
  have h := of_decide_eq_false h
  rw [hel] at h
  obtain rfl : k = D.length := by omega
  rw [List.take_length] at hall
  have hvf := vFind_pc q n2 D names hg.ids (by omega) (by omega)
  have hdir := find_i64 hg.ids names
  have hdo := fun dir h => do_pc q D (atO o dir) hg.ids (by omega) ⟨hfo1.node, h, hfo1.name, hfo1.data⟩
  generalize hF : Gw.View.find D names = F at *
  obtain ⟨dir, e⟩ := F
  simp only at hdir hvf
  have hdo := hdo dir hdir
  have hns : encS1 (names ++ [o.name]) = encS1 names ++ [[V.str o.name]] := by unfold encS1; rw [List.map_append]; rfl
  have hfits : Fits (0 + (encS1 names).length) 16 := by unfold Fits; rw [hne]; constructor <;> omega
  have hfits2 : Fits ((encS1 names).length + 1) 16 := by unfold Fits; rw [hne]; constructor <;> omega
  cases hm : Gw.Tree.may D (atO o dir) with
  | false =>
    rw [show Gw.Tree.undo D (atO o dir) = ⟨false, false, Gw.Tree.zeroN⟩ by unfold Gw.Tree.undo; rw [hm]; rfl] at hdo
    conv => whnf
    refine AC.of_pc hvf rfl ?_
    conv => whnf
    refine AC.of_pc hdo rfl ?_
    conv => whnf
    refine ⟨fun h => ?_, fun h => ?_⟩
    · conv => whnf
    conv => whnf
    repeat (first | refine ⟨fun _ => ?_, fun h => absurd h (by decide)⟩ | refine ⟨fun h => absurd h (by decide), fun _ => ?_⟩ | refine ⟨fun _ => ?_, fun h => absurd (show true = false from h) (by decide)⟩ | refine ⟨fun h => absurd (show false = true from h) (by decide), fun _ => ?_⟩
            (conv => whnf))
  | true =>
  rw [show Gw.Tree.undo D (atO o dir) = ⟨true, Gw.Tree.had D o.node, (Gw.Tree.find D o.node).getD Gw.Tree.zeroN⟩ by unfold Gw.Tree.undo; rw [hm]; rfl] at hdo
  have hms := fun h => Gw.View.moved_seen hg.check (fun n hn => by have := ok_pos (((Gw.Tree.check_iff _).1 hg.check).1 n hn); omega) (o := atO o dir) hm hkind hall (names := names) h
  have hids : ∀ n ∈ Gw.Tree.done D (atO o dir), I64 n.id := fun n hn => by
    rcases Gw.Tree.done_mem hn with hn | ⟨_, _, hn⟩
    · exact hg.ids n hn
    · rw [hn]; exact ho.1
  have hdl := Gw.Tree.done_len D (atO o dir)
  have hch := child_pc false (Gw.Tree.done D (atO o dir)) dir o.name hids (by omega)
  have hvf2 := vFind_pc false false (Gw.Tree.done D (atO o dir)) (names ++ [o.name]) hids (by omega) (by rw [List.length_append, List.length_singleton]; omega)
  rw [hns] at hvf2
  generalize Gw.Tree.done D (atO o dir) = D2 at *
  conv => whnf
  refine AC.of_pc hvf rfl ?_
  conv => whnf
  refine AC.of_pc hdo rfl ?_
  conv => whnf
  refine ⟨fun h => ?_, fun h => ?_⟩
  · conv => whnf
  have he : e = 0 := by simpa using h
  obtain ⟨n, hn1, hn2, hn3⟩ := hms (by rw [hF, he]; rfl)
  rw [show Gw.View.child D2 dir o.name = some n from hn1] at hch
  rw [show Gw.View.find D2 (names ++ [o.name]) = (o.node, 0) from hn3] at hvf2
  have hn2 : n.id = o.node := hn2
  rw [show idOf (some n) = o.node from hn2] at hch
  conv => whnf
  repeat (first | refine ⟨fun _ => ?_, fun h => absurd h (by decide)⟩ | refine ⟨fun h => absurd h (by decide), fun _ => ?_⟩ | refine ⟨fun _ => ?_, fun h => absurd (show true = false from h) (by decide)⟩ | refine ⟨fun h => absurd (show false = true from h) (by decide), fun _ => ?_⟩
          (conv => whnf))
  refine AC.of_pc hch rfl ?_
  conv => whnf
  refine ⟨hfits, ?_⟩
  conv => whnf
  refine ⟨⟨Nat.zero_add _, hfits2⟩, ?_⟩
  conv => whnf
  refine ⟨_, rfl, hvf2, ?_⟩
  conv => whnf
  refine ⟨by kernel_rfl, ?_⟩
  conv => whnf
  repeat (first | refine ⟨fun _ => ?_, fun h => absurd h (by decide)⟩
                | refine ⟨fun _ => ?_, fun h => absurd h (by simp; first | done | fail "x")⟩
                | fail "end"
          (conv => whnf))
  exact congrArg V.bool (by simp)
end Go.Proofs.Ytkflmicpifohhaa
