/- The law DiffOne, walked without addresses. No claim of its own. -/
import Derived.Test.YtipgfdepopfghaaGreatADiffL2
import Derived.Test.YtipgfdepopfghaaGreatDiffOne
namespace Go.Proofs.YtipgfdepopfghaaGreat
open Go.Am

def oneB (o : Gw.Op.Op) (p : List UInt8) (it : Gw.View.Item) : Bool := decide (it.id = o.node) && (decide (it.path = p) && !decide (it.data = o.data))
def oneK (A : List Gw.View.Item) (o : Gw.Op.Op) (p : List UInt8) (k : Nat) : Bool := (A.take k).any (oneB o p)
theorem oneK_next {A : List Gw.View.Item} {o : Gw.Op.Op} {p : List UInt8} {k : Nat} (h : k < A.length) : oneK A o p (k + 1) = (oneK A o p k || oneB o p A[k]) := by
  unfold oneK
  rw [List.take_succ_eq_append_getElem h, List.any_append]
  simp
set_option maxRecDepth 20000 in
theorem diffOne_pc (nil0 : Bool) (ops : List Gw.Op.Op) (o : Gw.Op.Op) (hi0 : ∀ o ∈ ops, I64 o.node ∧ I64 o.parent) (hl0 : ops.length ≤ 9223372036854775807) (ho : I64 o.node ∧ I64 o.parent) :
    PC Tryz.prog 8 [.lst nil0 7 (encOs ops) .none, encO o] (.bool true) := by
  have haw := awake_pc
  have hfw := few05_pc nil0 ops 60 hl0
  have hfw1 := fun q => few05_pc q [o] 1 (by rw [List.length_singleton]; decide)
  refine PC.of tabOk mixed (fn := Tryz.f8) (by kernel_rfl) rfl (by kernel_rfl) rfl rfl ?_
  conv => whnf
  refine AC.of_pc haw rfl ?_
  conv => whnf
  refine AC.of_pc hfw rfl ?_
  cases hfew : (Gw.Op.fewL ops && decide ((ops.length : Int) ≤ 60)) with
  | false =>
    conv => whnf
    repeat (first | refine ⟨fun _ => ?_, fun h => absurd h (by decide)⟩ | refine ⟨fun h => absurd h (by decide), fun _ => ?_⟩ | refine ⟨fun _ => ?_, fun h => absurd (show true = false from h) (by decide)⟩ | refine ⟨fun h => absurd (show false = true from h) (by decide), fun _ => ?_⟩
            (conv => whnf))
  | true =>
  simp only [Bool.and_eq_true, decide_eq_true_eq] at hfew
  obtain ⟨hf5, hlen⟩ := hfew
  obtain ⟨hfine, hnm⟩ := few_fine05 hf5 hi0
  have hfo := foldG_pr nil0 ops (by omega) hfine
  conv => whnf
  repeat (first | refine ⟨fun _ => ?_, fun h => absurd h (by decide)⟩ | refine ⟨fun h => absurd h (by decide), fun _ => ?_⟩ | refine ⟨fun _ => ?_, fun h => absurd (show true = false from h) (by decide)⟩ | refine ⟨fun h => absurd (show false = true from h) (by decide), fun _ => ?_⟩
          (conv => whnf))
  refine AC.of_pc (hfw1 _) rfl ?_
  cases hfewo : (Gw.Op.fewL [o] && decide ((([o] : List Gw.Op.Op).length : Int) ≤ 1)) with
  | false =>
    conv => whnf
    repeat (first | refine ⟨fun _ => ?_, fun h => absurd h (by decide)⟩ | refine ⟨fun h => absurd h (by decide), fun _ => ?_⟩ | refine ⟨fun _ => ?_, fun h => absurd (show true = false from h) (by decide)⟩ | refine ⟨fun h => absurd (show false = true from h) (by decide), fun _ => ?_⟩
            (conv => whnf))
  | true =>
  simp only [Bool.and_eq_true, decide_eq_true_eq] at hfewo
  obtain ⟨hfineo, hnmo⟩ := few_fine05 hfewo.1 (fun x hx => by rw [List.mem_singleton] at hx; rw [hx]; exact ho)
  have hfo1 := hfineo o (by simp)
  have hno1 := hnmo o (by simp)
  conv => whnf
  repeat (first | refine ⟨fun _ => ?_, fun h => absurd h (by decide)⟩ | refine ⟨fun h => absurd h (by decide), fun _ => ?_⟩ | refine ⟨fun _ => ?_, fun h => absurd (show true = false from h) (by decide)⟩ | refine ⟨fun h => absurd (show false = true from h) (by decide), fun _ => ?_⟩
          (conv => whnf))
  refine AC.of_pr hfo rfl ?_
  rintro res ⟨q, s, hs, hsl, rfl⟩
  have hg := grove_of hfine hnm (by omega) hs hsl
  have hl60 := hg.len
  have hnd := hg.named
  generalize foldN s = D at *
  clear hs hsl hfo hfw hf5 hfine hnm
  have hua := unlike_items hnd 0
  have hse : (Gw.View.items D 0).Pairwise fun a b => a.id ≠ b.id := by rw [hg.items0]; exact Gw.View.belowF_nodup hg.check (outs := [0]) (top := 0) (by simp) D.length .top
  have hia := vItemsG_pc q hg 0
  have hla := items_len D 0
  have hdo := do_pc q D o hg.ids (by omega) hfo1
  cases hm : Gw.Tree.may D o with
  | false =>
    have hof := diffOfG_pc q false hg hg 0
    rw [Gw.Diff.ofI_same hua] at hof
    rw [show Gw.Tree.undo D o = ⟨false, false, Gw.Tree.zeroN⟩ by unfold Gw.Tree.undo; rw [hm]; rfl, show Gw.Tree.done D o = D by unfold Gw.Tree.done; rw [hm]; rfl] at hdo
    conv => whnf
    refine AC.of_pc hdo rfl ?_
    conv => whnf
    refine AC.of_pc hof rfl ?_
    conv => whnf
    repeat (first | refine ⟨fun _ => ?_, fun h => absurd h (by decide)⟩ | refine ⟨fun h => absurd h (by decide), fun _ => ?_⟩ | refine ⟨fun _ => ?_, fun h => absurd (show true = false from h) (by decide)⟩ | refine ⟨fun h => absurd (show false = true from h) (by decide), fun _ => ?_⟩
            (conv => whnf))
    rfl
  | true =>
  rw [show Gw.Tree.undo D o = ⟨true, Gw.Tree.had D o.node, (Gw.Tree.find D o.node).getD Gw.Tree.zeroN⟩ by unfold Gw.Tree.undo; rw [hm]; rfl] at hdo
  have hids : ∀ n ∈ Gw.Tree.done D o, I64 n.id := fun n hn => by
    rcases Gw.Tree.done_mem hn with hn | ⟨_, _, hn⟩
    · exact hg.ids n hn
    · rw [hn]; exact ho.1
  have hdl := Gw.Tree.done_len D o
  have hgood := Gw.Tree.done_good hg.ok o hno1
  have hof := diffOf_pc q false D (Gw.Tree.done D o) 0 hg.ids hids (by omega) (by omega) (fun n hn => (hg.ok n hn).2) (fun n hn => (hgood n hn).2)
  have hlb := items_len (Gw.Tree.done D o) 0
  have hol := ofI_len (Gw.View.items D 0) (Gw.View.items (Gw.Tree.done D o) 0)
  have hone : o.kind = 2 → (Gw.Diff.ofI (Gw.View.items D 0) (Gw.View.items (Gw.Tree.done D o) 0)).length ≤ 1 ∧ ∀ e ∈ Gw.Diff.ofI (Gw.View.items D 0) (Gw.View.items (Gw.Tree.done D o) 0), e.kind = 3 ∧ ∃ it ∈ Gw.View.items D 0, it.id = o.node ∧ it.path = e.path ∧ it.data ≠ o.data := fun hk => by
    rw [Gw.View.items_done o hg.check hm (by rw [hk]; decide)]
    exact Gw.Diff.one_event o hua hse
  generalize Gw.Diff.ofI (Gw.View.items D 0) (Gw.View.items (Gw.Tree.done D o) 0) = E at *
  generalize Gw.View.items D 0 = A at *
  generalize Gw.Tree.done D o = D2 at *
  have hEe := encE_len E
  have hAe := encIt_len A
  conv => whnf
  refine AC.of_pc hdo rfl ?_
  conv => whnf
  refine AC.of_pc hof rfl ?_
  conv => whnf
  repeat (first | refine ⟨fun _ => ?_, fun h => absurd h (by decide)⟩ | refine ⟨fun h => absurd h (by decide), fun _ => ?_⟩ | refine ⟨fun _ => ?_, fun h => absurd (show true = false from h) (by decide)⟩ | refine ⟨fun h => absurd (show false = true from h) (by decide), fun _ => ?_⟩
          (conv => whnf))
  refine ⟨fun h => ?_, fun h => ?_⟩
  · conv => whnf
  have hk : o.kind = 2 := by simpa using h
  obtain ⟨hE1, hEall⟩ := hone hk
  generalize decide (E = []) = qe at *
  match E, hE1, hEall with
  | [], _, _ =>
    conv => whnf
    repeat (first | refine ⟨fun _ => ?_, fun h => absurd h (by decide)⟩ | refine ⟨fun h => absurd h (by decide), fun _ => ?_⟩ | refine ⟨fun _ => ?_, fun h => absurd (show true = false from h) (by decide)⟩ | refine ⟨fun h => absurd (show false = true from h) (by decide), fun _ => ?_⟩
            (conv => whnf))
  | [e], _, hEall =>
  obtain ⟨hk3, it0, hit1, hit2, hit3, hit4⟩ := hEall e List.mem_cons_self
  have hge : (encE [e])[0]? = some (cellsE e) := rfl
  obtain ⟨ek, p⟩ := e
  have hk3 : ek = 3 := hk3
  have hit3 : it0.path = p := hit3
  subst hk3
  have hge : (encE [⟨3, p⟩])[0]? = some [.int .i64 3, .str p] := rfl
  have hend : oneK A o p A.length = true := by
    unfold oneK
    rw [List.take_length]
    refine List.any_eq_true.2 ⟨it0, hit1, ?_⟩
    unfold oneB
    rw [decide_eq_true hit2, decide_eq_true hit3, decide_eq_false hit4]
    rfl
  conv => whnf
  repeat (first | refine ⟨fun _ => ?_, fun h => absurd h (by decide)⟩ | refine ⟨fun h => absurd h (by decide), fun _ => ?_⟩ | refine ⟨fun _ => ?_, fun h => absurd (show true = false from h) (by decide)⟩ | refine ⟨fun h => absurd (show false = true from h) (by decide), fun _ => ?_⟩
          (conv => whnf))
  refine AC.of_pc hia rfl ?_
  conv => whnf
  generalize decide (A = []) = qa
  refine AW.loop (X := Nat × V) (fun x => [(.tmp 3, .v (.ptr 0 0)), (.tmp 5, .v (.bool true)), (.tmp 9, .v (.lst qe 2 (encE [⟨3, p⟩]) .none)), (.tmp 10, .v (.lst qa 3 (encIt A) .none)), (.tmp 11, .v x.2), (.tmp 12, .v (.int .i64 x.1)), (.blk 0, .box 51 (cellsO o))]) 1
    (fun x => x.1 ≤ A.length ∧ HoldV x.2 (oneK A o p x.1)) (fun x => A.length - x.1) (by decide) (0, .ff) ⟨Nat.zero_le _, .ff (by simp [oneK])⟩ ⟨rfl, rfl, rfl, rfl, rfl, rfl, rfl, rfl, rfl, rfl, rfl, rfl, rfl, rfl, trivial⟩ ?_
  rintro ⟨j, v⟩ ⟨hj, hv⟩
  simp only at hj hv
  dsimp only
  refine ev_sound tabOk mixed _ _ _ _ ?_
  rcases Nat.lt_or_ge j A.length with hjl | hge2
  · have hgj := encIt_get hjl
    have hnx := oneK_next (o := o) (p := p) hjl
    have wj : IntKind.i64.wrap ((j : Int) + 1) = ((j + 1 : Nat) : Int) := by rw [w64 (by omega) (by omega)]; rfl
    unfold oneB at hnx
    generalize A[j] = it at *
    conv => whnf
    refine ⟨fun h => ?_, fun h => absurd (of_decide_eq_false h) (by rw [hAe]; omega)⟩
    rcases hv with rfl | ⟨rfl, hv⟩ | ⟨rfl, hv⟩
    · conv => whnf
      refine ⟨fun hv => ?_, fun hv => ?_⟩
      · have hv : oneK A o p j = true := hv
        rw [hv, Bool.true_or] at hnx
        conv => whnf
        refine ⟨by kernel_rfl, ?_⟩
        conv => whnf
        refine ⟨(j + 1, .tt), ⟨by show j + 1 ≤ A.length; omega, .tt hnx⟩, by show A.length - (j + 1) < A.length - j; omega, rfl, rfl, rfl, rfl, rfl, rfl, rfl, rfl, rfl, rfl, ?_, rfl, rfl, rfl, trivial⟩
        show C.v (V.int .i64 (IntKind.i64.wrap ((j : Int) + 1))) = _
        rw [wj]
      · have hv : oneK A o p j = false := hv
        rw [hv, Bool.false_or] at hnx
        conv => whnf
        refine ⟨_, ⟨by omega, hgj⟩, ?_⟩
        conv => whnf
        refine ⟨fun h => ?_, fun h => ?_⟩
        · have h : it.id = o.node := by simpa using h
          rw [decide_eq_true h, Bool.true_and] at hnx
          conv => whnf
          refine ⟨_, ⟨by omega, hgj⟩, ?_⟩
          conv => whnf
          refine ⟨_, ⟨by decide, hge⟩, ?_⟩
          conv => whnf
          refine ⟨fun h => ?_, fun h => ?_⟩
          · have h : it.path = p := by simpa using h
            rw [decide_eq_true h, Bool.true_and] at hnx
            conv => whnf
            refine ⟨_, ⟨by omega, hgj⟩, ?_⟩
            conv => whnf
            refine ⟨by kernel_rfl, ?_⟩
            conv => whnf
            refine ⟨(j + 1, .bool (!decide (it.data = o.data))), ⟨by show j + 1 ≤ A.length; omega, .bool hnx⟩, by show A.length - (j + 1) < A.length - j; omega, rfl, rfl, rfl, rfl, rfl, rfl, rfl, rfl, rfl, rfl, ?_, rfl, rfl, rfl, trivial⟩
            show C.v (V.int .i64 (IntKind.i64.wrap ((j : Int) + 1))) = _
            rw [wj]
          · have h : it.path ≠ p := by simpa using h
            rw [decide_eq_false h, Bool.false_and] at hnx
            conv => whnf
            refine ⟨by kernel_rfl, ?_⟩
            conv => whnf
            refine ⟨(j + 1, .ff), ⟨by show j + 1 ≤ A.length; omega, .ff hnx⟩, by show A.length - (j + 1) < A.length - j; omega, rfl, rfl, rfl, rfl, rfl, rfl, rfl, rfl, rfl, rfl, ?_, rfl, rfl, rfl, trivial⟩
            show C.v (V.int .i64 (IntKind.i64.wrap ((j : Int) + 1))) = _
            rw [wj]
        · have h : it.id ≠ o.node := by simpa using h
          rw [decide_eq_false h, Bool.false_and] at hnx
          conv => whnf
          refine ⟨by kernel_rfl, ?_⟩
          conv => whnf
          refine ⟨(j + 1, .ff), ⟨by show j + 1 ≤ A.length; omega, .ff hnx⟩, by show A.length - (j + 1) < A.length - j; omega, rfl, rfl, rfl, rfl, rfl, rfl, rfl, rfl, rfl, rfl, ?_, rfl, rfl, rfl, trivial⟩
          show C.v (V.int .i64 (IntKind.i64.wrap ((j : Int) + 1))) = _
          rw [wj]
    · rw [hv, Bool.true_or] at hnx
      conv => whnf
      refine ⟨by kernel_rfl, ?_⟩
      conv => whnf
      refine ⟨(j + 1, .tt), ⟨by show j + 1 ≤ A.length; omega, .tt hnx⟩, by show A.length - (j + 1) < A.length - j; omega, rfl, rfl, rfl, rfl, rfl, rfl, rfl, rfl, rfl, rfl, ?_, rfl, rfl, rfl, trivial⟩
      show C.v (V.int .i64 (IntKind.i64.wrap ((j : Int) + 1))) = _
      rw [wj]
    · rw [hv, Bool.false_or] at hnx
      conv => whnf
      refine ⟨_, ⟨by omega, hgj⟩, ?_⟩
      conv => whnf
      refine ⟨fun h => ?_, fun h => ?_⟩
      · have h : it.id = o.node := by simpa using h
        rw [decide_eq_true h, Bool.true_and] at hnx
        conv => whnf
        refine ⟨_, ⟨by omega, hgj⟩, ?_⟩
        conv => whnf
        refine ⟨_, ⟨by decide, hge⟩, ?_⟩
        conv => whnf
        refine ⟨fun h => ?_, fun h => ?_⟩
        · have h : it.path = p := by simpa using h
          rw [decide_eq_true h, Bool.true_and] at hnx
          conv => whnf
          refine ⟨_, ⟨by omega, hgj⟩, ?_⟩
          conv => whnf
          refine ⟨by kernel_rfl, ?_⟩
          conv => whnf
          refine ⟨(j + 1, .bool (!decide (it.data = o.data))), ⟨by show j + 1 ≤ A.length; omega, .bool hnx⟩, by show A.length - (j + 1) < A.length - j; omega, rfl, rfl, rfl, rfl, rfl, rfl, rfl, rfl, rfl, rfl, ?_, rfl, rfl, rfl, trivial⟩
          show C.v (V.int .i64 (IntKind.i64.wrap ((j : Int) + 1))) = _
          rw [wj]
        · have h : it.path ≠ p := by simpa using h
          rw [decide_eq_false h, Bool.false_and] at hnx
          conv => whnf
          refine ⟨by kernel_rfl, ?_⟩
          conv => whnf
          refine ⟨(j + 1, .ff), ⟨by show j + 1 ≤ A.length; omega, .ff hnx⟩, by show A.length - (j + 1) < A.length - j; omega, rfl, rfl, rfl, rfl, rfl, rfl, rfl, rfl, rfl, rfl, ?_, rfl, rfl, rfl, trivial⟩
          show C.v (V.int .i64 (IntKind.i64.wrap ((j : Int) + 1))) = _
          rw [wj]
      · have h : it.id ≠ o.node := by simpa using h
        rw [decide_eq_false h, Bool.false_and] at hnx
        conv => whnf
        refine ⟨by kernel_rfl, ?_⟩
        conv => whnf
        refine ⟨(j + 1, .ff), ⟨by show j + 1 ≤ A.length; omega, .ff hnx⟩, by show A.length - (j + 1) < A.length - j; omega, rfl, rfl, rfl, rfl, rfl, rfl, rfl, rfl, rfl, rfl, ?_, rfl, rfl, rfl, trivial⟩
        show C.v (V.int .i64 (IntKind.i64.wrap ((j : Int) + 1))) = _
        rw [wj]
  · obtain rfl : j = A.length := by omega
    rw [hend] at hv
    rcases hv with rfl | ⟨rfl, _⟩ | ⟨_, hv⟩
    · conv => whnf
      refine ⟨fun h => absurd (of_decide_eq_true h) (by rw [hAe]; omega), fun _ => ?_⟩
      conv => whnf
      repeat (first | refine ⟨fun _ => ?_, fun h => absurd h (by decide)⟩ | refine ⟨fun h => absurd h (by decide), fun _ => ?_⟩ | refine ⟨fun _ => ?_, fun h => absurd (show true = false from h) (by decide)⟩ | refine ⟨fun h => absurd (show false = true from h) (by decide), fun _ => ?_⟩
              (conv => whnf))
      refine ⟨_, ⟨by decide, hge⟩, ?_⟩
      conv => whnf
      repeat (first | refine ⟨fun _ => ?_, fun h => absurd h (by decide)⟩ | refine ⟨fun h => absurd h (by decide), fun _ => ?_⟩ | refine ⟨fun _ => ?_, fun h => absurd (show true = false from h) (by decide)⟩ | refine ⟨fun h => absurd (show false = true from h) (by decide), fun _ => ?_⟩
              (conv => whnf))
    · conv => whnf
      refine ⟨fun h => absurd (of_decide_eq_true h) (by rw [hAe]; omega), fun _ => ?_⟩
      conv => whnf
      repeat (first | refine ⟨fun _ => ?_, fun h => absurd h (by decide)⟩ | refine ⟨fun h => absurd h (by decide), fun _ => ?_⟩ | refine ⟨fun _ => ?_, fun h => absurd (show true = false from h) (by decide)⟩ | refine ⟨fun h => absurd (show false = true from h) (by decide), fun _ => ?_⟩
              (conv => whnf))
      refine ⟨_, ⟨by decide, hge⟩, ?_⟩
      conv => whnf
      repeat (first | refine ⟨fun _ => ?_, fun h => absurd h (by decide)⟩ | refine ⟨fun h => absurd h (by decide), fun _ => ?_⟩ | refine ⟨fun _ => ?_, fun h => absurd (show true = false from h) (by decide)⟩ | refine ⟨fun h => absurd (show false = true from h) (by decide), fun _ => ?_⟩
              (conv => whnf))
    · cases hv
end Go.Proofs.YtipgfdepopfghaaGreat
