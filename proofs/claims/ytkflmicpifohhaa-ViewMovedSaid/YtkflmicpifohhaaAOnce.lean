/- The law ViewOnce, walked without addresses. No claim of its own. -/
import Derived.Test.YtkflmicpifohhaaAGrove
import Derived.Test.YtkflmicpifohhaaATreeF
namespace Go.Proofs.Ytkflmicpifohhaa
open Go.Am

/-- The directory of a node was seen. -/
def leftN (I : List Gw.View.Item) (n : Gw.Tree.Node) (p : List UInt8) (j : Nat) : Bool := decide (n.parent = 0) || (I.take j).any fun x => decide (x.id = n.parent) && decide (Gw.View.pathOf x.path n.name = p)
theorem leftN_next {I : List Gw.View.Item} {n : Gw.Tree.Node} {p : List UInt8} {j : Nat} (h : j < I.length) : leftN I n p (j + 1) = (leftN I n p j || (decide (I[j].id = n.parent) && decide (Gw.View.pathOf I[j].path n.name = p))) := by
  unfold leftN
  rw [List.take_succ_eq_append_getElem h, List.any_append, ← Bool.or_assoc]
  simp
/-- What is told of the items of nodes of few operations. -/
structure Seen (D : List Gw.Tree.Node) (I : List Gw.View.Item) : Prop where
  len : I.length ≤ 60
  path : ∀ it ∈ I, it.path.length ≤ 100000
  ids : I.Pairwise fun a b => a.id ≠ b.id
  paths : I.Pairwise fun a b => a.path ≠ b.path
  stand : ∀ i (h : i < I.length), ∃ n ∈ D, Gw.Tree.find D I[i].id = some n ∧ Gw.Stamp.dir n.parent = true ∧ n.parent ≠ 2 ∧ n.data = I[i].data ∧ leftN I n I[i].path i = true
theorem Grove.seen {D : List Gw.Tree.Node} (hg : Grove D) : Seen D (Gw.View.items D 0) := by
  rw [hg.items0]
  have hlen := Gw.View.belowF_len hg.check (outs := [0]) (top := 0) (by simp) D.length .top (path := [])
  have hst := Gw.View.stands_at _ [] (Gw.View.belowF_stands D [0] D.length 0 [] [])
  have hway := Gw.View.belowF_way (l := D) (outs := [0]) (top := 0) D.length (path := []) .top
  have hl60 := hg.len
  refine ⟨by omega, fun it hi => ?_, Gw.View.belowF_nodup hg.check (by simp) D.length .top, Gw.View.belowF_paths hg.ok D.length, fun i h => ?_⟩
  · have := Gw.View.belowF_path (fun n hn => (hg.ok n hn).2) D.length it hi
    rw [List.length_nil] at this
    omega
  · obtain ⟨n, h1, h2, h3, h4, h5⟩ := hst i h
    obtain ⟨_, hck, _⟩ := Gw.View.inDir_own h3
    refine ⟨n, h1, by rw [← h2]; exact Gw.Tree.find_mem hg.check h1, ((hg.ok n h1).1 hck).1, ?_, h4, ?_⟩
    · rcases h5 with ⟨q, _⟩ | ⟨j, hj, q, _⟩
      · omega
      · rw [List.nil_append] at hj
        obtain ⟨x, suf, hw, m, hm, he, _⟩ := hway j (List.mem_of_mem_take hj)
        have := ok_pos (((Gw.Tree.check_iff _).1 hg.check).1 m hm)
        omega
    · unfold leftN
      rcases h5 with ⟨q, _⟩ | ⟨j, hj, q, e⟩
      · rw [decide_eq_true q]; rfl
      · rw [List.nil_append] at hj
        rw [Bool.or_eq_true]
        exact .inr (List.any_eq_true.2 ⟨j, hj, by rw [decide_eq_true q, decide_eq_true e.symm]; rfl⟩)
theorem viewOnce_pc (nil : Bool) (l : List Gw.Op.Op) (hi : ∀ o ∈ l, I64 o.node ∧ I64 o.parent) (hl : l.length ≤ 9223372036854775807) :
    PC Try.prog 6 [.lst nil 7 (encOs l) .none] (.bool true) := by
  have haw := awake_pc
  have hfw := few05_pc nil l 60 hl
  refine PC.of tabOk mixed (fn := Try.f6) (by kernel_rfl) rfl (by kernel_rfl) rfl rfl ?_
  conv => whnf
  refine AC.of_pc haw rfl ?_
  conv => whnf
  refine AC.of_pc hfw rfl ?_
  cases hfew : (Gw.Op.fewL l && decide ((l.length : Int) ≤ 60)) with
  | false =>
    conv => whnf
    repeat (first | refine ⟨fun _ => ?_, fun h => absurd h (by decide)⟩ | refine ⟨fun h => absurd h (by decide), fun _ => ?_⟩ | refine ⟨fun _ => ?_, fun h => absurd (show true = false from h) (by decide)⟩ | refine ⟨fun h => absurd (show false = true from h) (by decide), fun _ => ?_⟩
            (conv => whnf))
  | true =>
  simp only [Bool.and_eq_true, decide_eq_true_eq] at hfew
  obtain ⟨hf5, hlen⟩ := hfew
  obtain ⟨hfine, hnm⟩ := few_fine05 hf5 hi
  have hfo := foldG_pr nil l (by omega) hfine
  conv => whnf
  repeat (first | refine ⟨fun _ => ?_, fun h => absurd h (by decide)⟩ | refine ⟨fun h => absurd h (by decide), fun _ => ?_⟩ | refine ⟨fun _ => ?_, fun h => absurd (show true = false from h) (by decide)⟩ | refine ⟨fun h => absurd (show false = true from h) (by decide), fun _ => ?_⟩
          (conv => whnf))
  refine AC.of_pr hfo rfl ?_
  rintro res ⟨q, s, hs, hsl, rfl⟩
  have hg := grove_of hfine hnm (by omega) hs hsl
  have hl60 := hg.len
  have hit := vItems_pc q (foldN s) 0 hg.ids (by omega) (fun n hn => (hg.ok n hn).2)
  have hse := hg.seen
  have htf := fun id => tFind_pc q (foldN s) id hg.ids (by omega)
  generalize Gw.View.items (foldN s) 0 = I at *
  rw [hg.check] at htf
  have hdN := hg.ids
  generalize foldN s = D at *
  have hel := encIt_len I
  obtain ⟨e1, e2, e3, e4, e5⟩ := hse
  conv => whnf
  refine AC.of_pc hit rfl ?_
  conv => whnf
  generalize decide (I = []) = q2
  refine AW.loop (fun i : Nat => [(.tmp 3, .v (.bool true)), (.tmp 4, .v (.lst q 8 (encN D) .none)), (.tmp 5, .v (.lst q2 3 (encIt I) .none)), (.tmp 6, .v (.int .i64 i))]) 0 (fun i => i ≤ I.length) (fun i => I.length - i) (by decide) 0 (Nat.zero_le _) ⟨rfl, rfl, rfl, rfl, rfl, rfl, rfl, rfl, trivial⟩ ?_
  rintro i hi2
  refine ev_sound tabOk mixed _ _ _ _ ?_
  conv => whnf
  refine ⟨fun h => ?_, fun h => ?_⟩
  · have h := of_decide_eq_true h
    rw [hel] at h
    have hlt : i < I.length := by omega
    have hgi := encIt_get hlt
    obtain ⟨n, hn1, hn2, hn3, hn4, _, hn5⟩ := e5 i hlt
    have htn := htf I[i].id
    rw [if_pos rfl, hn2] at htn
    have hpi := List.pairwise_iff_getElem.1 e3
    have hpp := List.pairwise_iff_getElem.1 e4
    have hnb := (hg.ok n hn1).2
    have hplen := fun (j : Nat) (h : j < I.length) => e2 _ (List.getElem_mem h)
    have wi : IntKind.i64.wrap ((i : Int) + 1) = ((i + 1 : Nat) : Int) := by rw [w64 (by omega) (by omega)]; rfl
    have hdr := dir_pc n.parent (by unfold Gw.Stamp.dir at hn3; simp only [Bool.or_eq_true, Bool.and_eq_true, decide_eq_true_eq] at hn3; unfold I64; rcases hn3 with h | h | h <;> first | omega | (have := h.1; unfold Gw.Stamp.ok at this; simp only [Bool.and_eq_true, decide_eq_true_eq] at this; omega))
    rw [hn3] at hdr
    conv => whnf
    refine ⟨_, ⟨by omega, hgi⟩, ?_⟩
    conv => whnf
    refine AC.of_pc htn rfl ?_
    conv => whnf
    refine AW.loop (X := Nat × V) (fun x => [(.tmp 3, .v (.bool true)), (.tmp 4, .v (.lst q 8 (encN D) .none)), (.tmp 5, .v (.lst q2 3 (encIt I) .none)), (.tmp 6, .v (.int .i64 i)), (.tmp 7, .v (.ptr 13 0)), (.tmp 8, .v (.bool true)), (.tmp 9, .v x.2), (.tmp 10, .v (.int .i64 x.1)), (.blk 13, .box 43 (cellsN n))]) 14
      (fun x => x.1 ≤ i ∧ (x.2 = .bool (leftN I n I[i].path x.1) ∨ (x.2 = .tt ∧ leftN I n I[i].path x.1 = true) ∨ (x.2 = .ff ∧ leftN I n I[i].path x.1 = false))) (fun x => i - x.1) (by decide) (0, .bool (leftN I n I[i].path 0)) ⟨Nat.zero_le _, .inl rfl⟩ ⟨rfl, rfl, rfl, rfl, rfl, rfl, rfl, rfl, rfl, rfl, rfl, rfl, ?_, rfl, rfl, rfl, rfl, rfl, trivial⟩ ?_
    · exact congrArg (fun b => C.v (V.bool b)) (by rw [Bool.eq_iff_iff]; simp [leftN])
    rintro ⟨j, v⟩ ⟨hj, hv⟩
    simp only at hj hv
    dsimp only
    rcases Nat.lt_or_ge j i with hji | hji
    · have hjl : j < I.length := by omega
      have hgj := encIt_get hjl
      have wj : IntKind.i64.wrap ((j : Int) + 1) = ((j + 1 : Nat) : Int) := by rw [w64 (by omega) (by omega)]; rfl
      have hne := hpi j i hjl hlt (by omega)
      have hnp := hpp j i hjl hlt (by omega)
      have hnx := leftN_next (n := n) (p := I[i].path) hjl
      have hp1 := hplen j hjl
      have hpl : (I[j].path ++ (ByteArray.mk #[47]).data.toList).length = I[j].path.length + 1 := List.length_append
      rcases hv with rfl | ⟨rfl, hv⟩ | ⟨rfl, hv⟩
      · refine ev_sound tabOk mixed _ _ _ _ ?_
        conv => whnf
        refine ⟨fun h => ?_, fun h => absurd (of_decide_eq_false h) (by omega)⟩
        conv => whnf
        refine ⟨_, ⟨by omega, hgj⟩, ?_⟩
        conv => whnf
        refine ⟨_, ⟨by omega, hgi⟩, ?_⟩
        conv => whnf
        refine ⟨fun h => absurd (by simpa using h) hne, fun _ => ?_⟩
        conv => whnf
        refine ⟨_, ⟨by omega, hgj⟩, ?_⟩
        conv => whnf
        refine ⟨_, ⟨by omega, hgi⟩, ?_⟩
        conv => whnf
        refine ⟨by kernel_rfl, ?_⟩
        conv => whnf
        refine ⟨fun h => absurd (by simpa using h) hnp, fun _ => ?_⟩
        conv => whnf
        refine ⟨fun hv => ?_, fun hv => ?_⟩
        · have hv : leftN I n I[i].path j = true := hv
          conv => whnf
          rw [hv, Bool.true_or] at hnx
          refine ⟨by kernel_rfl, ?_⟩
          conv => whnf
          refine ⟨(j + 1, .tt), ⟨by show j + 1 ≤ i; omega, .inr (.inl ⟨rfl, hnx⟩)⟩, by show i - (j + 1) < i - j; omega, rfl, rfl, rfl, rfl, rfl, rfl, rfl, rfl, rfl, rfl, rfl, rfl, rfl, rfl, ?_, rfl, rfl, rfl, trivial⟩
          · show C.v (V.int .i64 (IntKind.i64.wrap ((j : Int) + 1))) = _
            rw [wj]
        · have hv : leftN I n I[i].path j = false := hv
          conv => whnf
          rw [hv, Bool.false_or] at hnx
          refine ⟨_, ⟨by omega, hgj⟩, ?_⟩
          conv => whnf
          refine ⟨fun h => ?_, fun h => ?_⟩
          · have h : I[j].id = n.parent := by simpa using h
            rw [decide_eq_true h, Bool.true_and] at hnx
            conv => whnf
            refine ⟨_, ⟨by omega, hgj⟩, ?_⟩
            conv => whnf
            refine ⟨by show I[j].path.length + 1 < _; omega, ?_⟩
            conv => whnf
            refine ⟨by rw [hpl]; omega, ?_⟩
            conv => whnf
            refine ⟨_, ⟨by omega, hgi⟩, ?_⟩
            conv => whnf
            refine ⟨by kernel_rfl, ?_⟩
            conv => whnf
            refine ⟨(j + 1, .bool (leftN I n I[i].path (j + 1))), ⟨by show j + 1 ≤ i; omega, .inl rfl⟩, by show i - (j + 1) < i - j; omega, rfl, rfl, rfl, rfl, rfl, rfl, rfl, rfl, rfl, rfl, rfl, rfl, ?_, rfl, ?_, rfl, rfl, rfl, trivial⟩
            · rw [hnx]
              exact congrArg (fun b => C.v (V.bool b)) (by rw [Bool.eq_iff_iff]; simp [Gw.View.pathOf])
            · show C.v (V.int .i64 (IntKind.i64.wrap ((j : Int) + 1))) = _
              rw [wj]
          · have h : I[j].id ≠ n.parent := by simpa using h
            rw [decide_eq_false h, Bool.false_and] at hnx
            conv => whnf
            refine ⟨by kernel_rfl, ?_⟩
            conv => whnf
            refine ⟨(j + 1, .ff), ⟨by show j + 1 ≤ i; omega, .inr (.inr ⟨rfl, hnx⟩)⟩, by show i - (j + 1) < i - j; omega, rfl, rfl, rfl, rfl, rfl, rfl, rfl, rfl, rfl, rfl, rfl, rfl, rfl, rfl, ?_, rfl, rfl, rfl, trivial⟩
            · show C.v (V.int .i64 (IntKind.i64.wrap ((j : Int) + 1))) = _
              rw [wj]
      · refine ev_sound tabOk mixed _ _ _ _ ?_
        conv => whnf
        refine ⟨fun h => ?_, fun h => absurd (of_decide_eq_false h) (by omega)⟩
        conv => whnf
        refine ⟨_, ⟨by omega, hgj⟩, ?_⟩
        conv => whnf
        refine ⟨_, ⟨by omega, hgi⟩, ?_⟩
        conv => whnf
        refine ⟨fun h => absurd (by simpa using h) hne, fun _ => ?_⟩
        conv => whnf
        refine ⟨_, ⟨by omega, hgj⟩, ?_⟩
        conv => whnf
        refine ⟨_, ⟨by omega, hgi⟩, ?_⟩
        conv => whnf
        refine ⟨by kernel_rfl, ?_⟩
        conv => whnf
        refine ⟨fun h => absurd (by simpa using h) hnp, fun _ => ?_⟩
        conv => whnf
        rw [hv, Bool.true_or] at hnx
        refine ⟨by kernel_rfl, ?_⟩
        conv => whnf
        refine ⟨(j + 1, .tt), ⟨by show j + 1 ≤ i; omega, .inr (.inl ⟨rfl, hnx⟩)⟩, by show i - (j + 1) < i - j; omega, rfl, rfl, rfl, rfl, rfl, rfl, rfl, rfl, rfl, rfl, rfl, rfl, rfl, rfl, ?_, rfl, rfl, rfl, trivial⟩
        · show C.v (V.int .i64 (IntKind.i64.wrap ((j : Int) + 1))) = _
          rw [wj]
      · refine ev_sound tabOk mixed _ _ _ _ ?_
        conv => whnf
        refine ⟨fun h => ?_, fun h => absurd (of_decide_eq_false h) (by omega)⟩
        conv => whnf
        refine ⟨_, ⟨by omega, hgj⟩, ?_⟩
        conv => whnf
        refine ⟨_, ⟨by omega, hgi⟩, ?_⟩
        conv => whnf
        refine ⟨fun h => absurd (by simpa using h) hne, fun _ => ?_⟩
        conv => whnf
        refine ⟨_, ⟨by omega, hgj⟩, ?_⟩
        conv => whnf
        refine ⟨_, ⟨by omega, hgi⟩, ?_⟩
        conv => whnf
        refine ⟨by kernel_rfl, ?_⟩
        conv => whnf
        refine ⟨fun h => absurd (by simpa using h) hnp, fun _ => ?_⟩
        conv => whnf
        rw [hv, Bool.false_or] at hnx
        refine ⟨_, ⟨by omega, hgj⟩, ?_⟩
        conv => whnf
        refine ⟨fun h => ?_, fun h => ?_⟩
        · have h : I[j].id = n.parent := by simpa using h
          rw [decide_eq_true h, Bool.true_and] at hnx
          conv => whnf
          refine ⟨_, ⟨by omega, hgj⟩, ?_⟩
          conv => whnf
          refine ⟨by show I[j].path.length + 1 < _; omega, ?_⟩
          conv => whnf
          refine ⟨by rw [hpl]; omega, ?_⟩
          conv => whnf
          refine ⟨_, ⟨by omega, hgi⟩, ?_⟩
          conv => whnf
          refine ⟨by kernel_rfl, ?_⟩
          conv => whnf
          refine ⟨(j + 1, .bool (leftN I n I[i].path (j + 1))), ⟨by show j + 1 ≤ i; omega, .inl rfl⟩, by show i - (j + 1) < i - j; omega, rfl, rfl, rfl, rfl, rfl, rfl, rfl, rfl, rfl, rfl, rfl, rfl, ?_, rfl, ?_, rfl, rfl, rfl, trivial⟩
          · rw [hnx]
            exact congrArg (fun b => C.v (V.bool b)) (by rw [Bool.eq_iff_iff]; simp [Gw.View.pathOf])
          · show C.v (V.int .i64 (IntKind.i64.wrap ((j : Int) + 1))) = _
            rw [wj]
        · have h : I[j].id ≠ n.parent := by simpa using h
          rw [decide_eq_false h, Bool.false_and] at hnx
          conv => whnf
          refine ⟨by kernel_rfl, ?_⟩
          conv => whnf
          refine ⟨(j + 1, .ff), ⟨by show j + 1 ≤ i; omega, .inr (.inr ⟨rfl, hnx⟩)⟩, by show i - (j + 1) < i - j; omega, rfl, rfl, rfl, rfl, rfl, rfl, rfl, rfl, rfl, rfl, rfl, rfl, rfl, rfl, ?_, rfl, rfl, rfl, trivial⟩
          · show C.v (V.int .i64 (IntKind.i64.wrap ((j : Int) + 1))) = _
            rw [wj]
    · obtain rfl : j = i := by omega
      rw [hn5] at hv
      rcases hv with rfl | ⟨rfl, _⟩ | ⟨_, hv⟩
      · refine ev_sound tabOk mixed _ _ _ _ ?_
        conv => whnf
        refine ⟨fun h => absurd (of_decide_eq_true h) (by omega), fun _ => ?_⟩
        conv => whnf
        repeat (first | refine ⟨fun _ => ?_, fun h => absurd h (by decide)⟩ | refine ⟨fun h => absurd h (by decide), fun _ => ?_⟩ | refine ⟨fun _ => ?_, fun h => absurd (show true = false from h) (by decide)⟩ | refine ⟨fun h => absurd (show false = true from h) (by decide), fun _ => ?_⟩
                (conv => whnf))
        refine AC.of_pc hdr rfl ?_
        conv => whnf
        repeat (first | refine ⟨fun _ => ?_, fun h => absurd h (by decide)⟩ | refine ⟨fun h => absurd h (by decide), fun _ => ?_⟩ | refine ⟨fun _ => ?_, fun h => absurd (show true = false from h) (by decide)⟩ | refine ⟨fun h => absurd (show false = true from h) (by decide), fun _ => ?_⟩
                (conv => whnf))
        refine ⟨fun h => absurd (by simpa using h) hn4, fun _ => ?_⟩
        conv => whnf
        refine ⟨j + 1, by omega, by show I.length - (j + 1) < I.length - j; omega, rfl, rfl, rfl, rfl, rfl, rfl, ?_, rfl, trivial⟩
        show C.v (V.int .i64 (IntKind.i64.wrap ((j : Int) + 1))) = _
        rw [wi]
      · refine ev_sound tabOk mixed _ _ _ _ ?_
        conv => whnf
        refine ⟨fun h => absurd (of_decide_eq_true h) (by omega), fun _ => ?_⟩
        conv => whnf
        repeat (first | refine ⟨fun _ => ?_, fun h => absurd h (by decide)⟩ | refine ⟨fun h => absurd h (by decide), fun _ => ?_⟩ | refine ⟨fun _ => ?_, fun h => absurd (show true = false from h) (by decide)⟩ | refine ⟨fun h => absurd (show false = true from h) (by decide), fun _ => ?_⟩
                (conv => whnf))
        refine AC.of_pc hdr rfl ?_
        conv => whnf
        repeat (first | refine ⟨fun _ => ?_, fun h => absurd h (by decide)⟩ | refine ⟨fun h => absurd h (by decide), fun _ => ?_⟩ | refine ⟨fun _ => ?_, fun h => absurd (show true = false from h) (by decide)⟩ | refine ⟨fun h => absurd (show false = true from h) (by decide), fun _ => ?_⟩
                (conv => whnf))
        refine ⟨fun h => absurd (by simpa using h) hn4, fun _ => ?_⟩
        conv => whnf
        refine ⟨j + 1, by omega, by show I.length - (j + 1) < I.length - j; omega, rfl, rfl, rfl, rfl, rfl, rfl, ?_, rfl, trivial⟩
        show C.v (V.int .i64 (IntKind.i64.wrap ((j : Int) + 1))) = _
        rw [wi]
      · cases hv
  · conv => whnf
end Go.Proofs.Ytkflmicpifohhaa
