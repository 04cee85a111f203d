/- The law ViewFinds, walked without addresses. No claim of its own. -/
import Derived.Test.YtkflmicpifohhaaAFinds
namespace Go.Proofs.Ytkflmicpifohhaa
open Go.Am

theorem viewFinds_pc (nil n2 : Bool) (l : List Gw.Op.Op) (names : List (List UInt8)) (hi : ∀ o ∈ l, I64 o.node ∧ I64 o.parent) (hl : l.length ≤ 9223372036854775807) (hnl : names.length ≤ 9223372036854775807) :
    PC Try.prog 5 [.lst nil 7 (encOs l) .none, .lst n2 1 (encS1 names) .none] (.bool true) := by
  have haw := awake_pc
  have hfw := few05_pc nil l 60 hl
  have hfn := (few_pc true n2 [] names (by decide) hnl).args (args' := [.lst true 1 [] .none, .lst n2 1 (encS1 names) .none]) (.cons (.nil _ _ _) (.cons (.refl _) .nil))
  have hne := encS1_len names
  refine PC.of tabOk mixed (fn := Try.f5) (by kernel_rfl) rfl (by kernel_rfl) rfl rfl ?_
  conv => whnf
  refine AC.of_pc haw rfl ?_
  conv => whnf
  refine AC.of_pc hfw rfl ?_
  cases hfew : (Gw.Op.fewL l && decide ((l.length : Int) ≤ 60)) with
  | false =>
    conv => whnf
    repeat (first | refine ⟨fun _ => ?_, fun h => absurd h (by decide)⟩ | refine ⟨fun h => absurd h (by decide), fun _ => ?_⟩ | refine ⟨fun _ => ?_, fun h => absurd (show true = false from h) (by decide)⟩ | refine ⟨fun h => absurd (show false = true from h) (by decide), fun _ => ?_⟩
            (conv => whnf))
  | true =>
  simp only [Bool.and_eq_true, decide_eq_true_eq] at hfew
  obtain ⟨hf5, hlen⟩ := hfew
  obtain ⟨hfine, hnm⟩ := few_fine05 hf5 hi
  have hfo := foldG_pr nil l (by omega) hfine
  conv => whnf
  repeat (first | refine ⟨fun _ => ?_, fun h => absurd h (by decide)⟩ | refine ⟨fun h => absurd h (by decide), fun _ => ?_⟩ | refine ⟨fun _ => ?_, fun h => absurd (show true = false from h) (by decide)⟩ | refine ⟨fun h => absurd (show false = true from h) (by decide), fun _ => ?_⟩
          (conv => whnf))
  refine AC.of_pc hfn rfl ?_
  cases hfew2 : (fewT names && (fewN [] 100 && decide (names.length ≤ 100))) with
  | false =>
    conv => whnf
    repeat (first | refine ⟨fun _ => ?_, fun h => absurd h (by decide)⟩ | refine ⟨fun h => absurd h (by decide), fun _ => ?_⟩ | refine ⟨fun _ => ?_, fun h => absurd (show true = false from h) (by decide)⟩ | refine ⟨fun h => absurd (show false = true from h) (by decide), fun _ => ?_⟩
            (conv => whnf))
  | true =>
  simp only [Bool.and_eq_true, decide_eq_true_eq] at hfew2
  obtain ⟨hft, _, hn100⟩ := hfew2
  have hns : ∀ s ∈ names, s.length ≤ 1000 := fun s hs => of_decide_eq_true (List.all_eq_true.1 hft s hs)
  have hpm := pathN_most hns
  conv => whnf
  repeat (first | refine ⟨fun _ => ?_, fun h => absurd h (by decide)⟩ | refine ⟨fun h => absurd h (by decide), fun _ => ?_⟩ | refine ⟨fun _ => ?_, fun h => absurd (show true = false from h) (by decide)⟩ | refine ⟨fun h => absurd (show false = true from h) (by decide), fun _ => ?_⟩
          (conv => whnf))
  refine AC.of_pr hfo rfl ?_
  rintro res ⟨q, s, hs, hsl, rfl⟩
  have hg := grove_of hfine hnm (by omega) hs hsl
  have hl60 := hg.len
  have hit := vItems_pc q (foldN s) 0 hg.ids (by omega) (fun n hn => (hg.ok n hn).2)
  have hvf := vFind_pc q n2 (foldN s) names hg.ids (by omega) (by omega)
  have hvp := fun (q2 : Bool) (p : List (List UInt8)) (h : p.length ≤ 1048576) => vFind_pc q q2 (foldN s) p hg.ids (by omega) h
  have hse := hg.seen
  have hfd := hg.found
  have hbk := fun id => hg.back (names := names) (id := id)
  have htf := fun id => tFind_pc q (foldN s) id hg.ids (by omega)
  generalize Gw.View.items (foldN s) 0 = I at *
  rw [hg.check] at htf
  generalize foldN s = D at *
  generalize hF : Gw.View.find D names = F at *
  have hel := encIt_len I
  obtain ⟨e1, e2, e3, e4, e5⟩ := hse
  conv => whnf
  refine AC.of_pc hit rfl ?_
  conv => whnf
  refine AC.of_pc hvf rfl ?_
  conv => whnf
  generalize decide (I = []) = q2
  refine AW.loop (fun k : Nat => [(.tmp 1, .v (.lst n2 1 (encS1 names) .none)), (.tmp 5, .v (.bool true)), (.tmp 6, .v (.lst q 8 (encN D) .none)), (.tmp 7, .v (.lst q2 3 (encIt I) .none)), (.tmp 8, .v (.int .i64 F.1)), (.tmp 9, .v (.int .i64 F.2)), (.tmp 10, .v (.str (Gw.View.pathN (names.take k)))), (.tmp 11, .v (.int .i64 k))]) 0 (fun k => k ≤ names.length) (fun k => names.length - k) (by decide) 0 (Nat.zero_le _) ⟨rfl, rfl, rfl, rfl, rfl, rfl, rfl, rfl, rfl, rfl, rfl, rfl, rfl, rfl, rfl, rfl, trivial⟩ ?_
  rintro k hk
  refine ev_sound tabOk mixed _ _ _ _ ?_
  conv => whnf
  refine ⟨fun h => ?_, fun h => ?_⟩
  · have h := of_decide_eq_true h
    rw [hne] at h
    have hlt : k < names.length := by omega
    have hgk := encS1_get hlt
    have e6 : Gw.View.pathN (names.take (k + 1)) = Gw.View.pathN (names.take k) ++ [47] ++ names[k] := by rw [List.take_succ_eq_append_getElem hlt, pathN_snoc]
    have hpk := pathN_most (names := names.take k) (fun s hs => hns s (List.mem_of_mem_take hs))
    have hsk := hns names[k] (List.getElem_mem hlt)
    rw [List.length_take, Nat.min_eq_left (Nat.le_of_lt hlt)] at hpk
    generalize Gw.View.pathN (names.take k) = P at *
    have hpl : (P ++ (ByteArray.mk #[47]).data.toList).length = P.length + 1 := List.length_append
    conv => whnf
    refine ⟨by show P.length + 1 < _; omega, ?_⟩
    conv => whnf
    refine ⟨_, ⟨by omega, hgk⟩, ?_⟩
    conv => whnf
    refine ⟨by rw [hpl]; omega, ?_⟩
    conv => whnf
    refine ⟨k + 1, by omega, by show names.length - (k + 1) < names.length - k; omega, rfl, rfl, rfl, rfl, rfl, rfl, rfl, rfl, rfl, rfl, rfl, rfl, ?_, rfl, ?_, rfl, trivial⟩
    · rw [e6]; rfl
    · show C.v (V.int .i64 (IntKind.i64.wrap ((k : Int) + 1))) = _
      rw [w64 (by omega) (by omega)]; rfl
  have h := of_decide_eq_false h
  rw [hne] at h
  obtain rfl : k = names.length := by omega
  rw [List.take_length]
  generalize hP : Gw.View.pathN names = P at *
  clear hfn hft hnm hfine hf5

  have hsp := split_pc
  conv => whnf
  refine ⟨fun h => ?_, fun h => ?_⟩
  · conv => whnf
    refine AW.loop (X := Nat × V) (fun x => [(.tmp 5, .v (.bool true)), (.tmp 6, .v (.lst q 8 (encN D) .none)), (.tmp 7, .v (.lst q2 3 (encIt I) .none)), (.tmp 8, .v (.int .i64 F.1)), (.tmp 10, .v (.str P)), (.tmp 12, .v x.2), (.tmp 13, .v (.int .i64 x.1))]) 0
      (fun x => x.1 ≤ I.length ∧ HoldV x.2 (metF I P F.1 (true) x.1)) (fun x => I.length - x.1) (by decide) (0, .tt) ⟨Nat.zero_le _, .tt (by simp [metF])⟩ ⟨rfl, rfl, rfl, rfl, rfl, rfl, rfl, rfl, rfl, rfl, rfl, rfl, rfl, rfl, trivial⟩ ?_
    rintro ⟨k, v⟩ ⟨hk, hv⟩
    simp only at hk hv
    dsimp only
    refine ev_sound tabOk mixed _ _ _ _ ?_
    rcases Nat.lt_or_ge k I.length with hlt | hge
    · have hgk := encIt_get hlt
      obtain ⟨n, hn1, hn2, hn3, hn4, hn5, _⟩ := e5 k hlt
      have htn := htf I[k].id
      rw [if_pos rfl, hn2] at htn
      have hfk1 : (Gw.View.partsOf I[k].path).length ≤ 1048576 := by have h1 := (hfd _ (List.getElem_mem hlt)).1; have := e2 _ (List.getElem_mem hlt); omega
      have hfk2 := (hfd _ (List.getElem_mem hlt)).2
      have hnx := metF_next (p := P) (id := F.1) (b := true) hlt
      have wk : IntKind.i64.wrap ((k : Int) + 1) = ((k + 1 : Nat) : Int) := by rw [w64 (by omega) (by omega)]; rfl
      conv => whnf
      refine ⟨fun h => ?_, fun h => absurd (of_decide_eq_false h) (by rw [hel]; omega)⟩
      rcases hv with rfl | ⟨rfl, hv⟩ | ⟨rfl, hv⟩
      · conv => whnf
        refine ⟨fun hv => ?_, fun hv => ?_⟩
        · have hv : metF I P F.1 (true) k = true := hv
          rw [hv, Bool.true_or] at hnx
          conv => whnf
          refine ⟨_, ⟨by omega, hgk⟩, ?_⟩
          conv => whnf
          refine AC.of_pc (hsp I[k].path (by have := e2 _ (List.getElem_mem hlt); omega)).choose_spec rfl ?_
          conv => whnf
          refine AC.of_pc (hvp _ _ hfk1) rfl ?_
          rw [hfk2]
          conv => whnf
          refine AC.of_pc htn rfl ?_
          conv => whnf
          repeat (first | refine ⟨fun h => absurd (of_decide_eq_true h) (fun e => e rfl), fun _ => ?_⟩
                        | refine ⟨fun h => absurd h (by simp; first | done | fail "x"), fun _ => ?_⟩
                        | refine ⟨fun _ => ?_, fun h => absurd h (by simp; first | done | fail "x")⟩
                        | refine ⟨_, ⟨by omega, hgk⟩, ?_⟩
                        | fail "end"
                  (conv => whnf))
          refine ⟨by kernel_rfl, ?_⟩
          conv => whnf
          refine ⟨fun h => absurd h (by simp [hn5]; first | done | fail "x"), fun _ => ?_⟩
          conv => whnf
          refine ⟨(k + 1, .tt), ⟨by show k + 1 ≤ I.length; omega, .tt hnx⟩, by show I.length - (k + 1) < I.length - k; omega, rfl, rfl, rfl, rfl, rfl, rfl, rfl, rfl, rfl, rfl, rfl, rfl, ?_, rfl, trivial⟩
          show C.v (V.int .i64 (IntKind.i64.wrap ((k : Int) + 1))) = _
          rw [wk]
        · have hv : metF I P F.1 (true) k = false := hv
          rw [hv, Bool.false_or] at hnx
          conv => whnf
          refine ⟨_, ⟨by omega, hgk⟩, ?_⟩
          conv => whnf
          refine ⟨fun h => ?_, fun h => ?_⟩
          · have h : I[k].path = P := by simpa using h
            rw [decide_eq_true h, Bool.true_and] at hnx
            conv => whnf
            refine ⟨_, ⟨by omega, hgk⟩, ?_⟩
            conv => whnf
            refine ⟨_, ⟨by omega, hgk⟩, ?_⟩
            conv => whnf
            refine AC.of_pc (hsp I[k].path (by have := e2 _ (List.getElem_mem hlt); omega)).choose_spec rfl ?_
            conv => whnf
            refine AC.of_pc (hvp _ _ hfk1) rfl ?_
            rw [hfk2]
            conv => whnf
            refine AC.of_pc htn rfl ?_
            conv => whnf
            repeat (first | refine ⟨fun h => absurd (of_decide_eq_true h) (fun e => e rfl), fun _ => ?_⟩
                          | refine ⟨fun h => absurd h (by simp; first | done | fail "x"), fun _ => ?_⟩
                          | refine ⟨fun _ => ?_, fun h => absurd h (by simp; first | done | fail "x")⟩
                          | refine ⟨_, ⟨by omega, hgk⟩, ?_⟩
                          | fail "end"
                    (conv => whnf))
            refine ⟨by kernel_rfl, ?_⟩
            conv => whnf
            refine ⟨fun h => absurd h (by simp [hn5]; first | done | fail "x"), fun _ => ?_⟩
            conv => whnf
            refine ⟨(k + 1, .bool (decide (I[k].id = F.1))), ⟨by show k + 1 ≤ I.length; omega, .bool hnx⟩, by show I.length - (k + 1) < I.length - k; omega, rfl, rfl, rfl, rfl, rfl, rfl, rfl, rfl, rfl, rfl, rfl, rfl, ?_, rfl, trivial⟩
            show C.v (V.int .i64 (IntKind.i64.wrap ((k : Int) + 1))) = _
            rw [wk]
          · have h : I[k].path ≠ P := by simpa using h
            rw [decide_eq_false h, Bool.false_and] at hnx
            conv => whnf
            refine ⟨_, ⟨by omega, hgk⟩, ?_⟩
            conv => whnf
            refine AC.of_pc (hsp I[k].path (by have := e2 _ (List.getElem_mem hlt); omega)).choose_spec rfl ?_
            conv => whnf
            refine AC.of_pc (hvp _ _ hfk1) rfl ?_
            rw [hfk2]
            conv => whnf
            refine AC.of_pc htn rfl ?_
            conv => whnf
            repeat (first | refine ⟨fun h => absurd (of_decide_eq_true h) (fun e => e rfl), fun _ => ?_⟩
                          | refine ⟨fun h => absurd h (by simp; first | done | fail "x"), fun _ => ?_⟩
                          | refine ⟨fun _ => ?_, fun h => absurd h (by simp; first | done | fail "x")⟩
                          | refine ⟨_, ⟨by omega, hgk⟩, ?_⟩
                          | fail "end"
                    (conv => whnf))
            refine ⟨by kernel_rfl, ?_⟩
            conv => whnf
            refine ⟨fun h => absurd h (by simp [hn5]; first | done | fail "x"), fun _ => ?_⟩
            conv => whnf
            refine ⟨(k + 1, .ff), ⟨by show k + 1 ≤ I.length; omega, .ff hnx⟩, by show I.length - (k + 1) < I.length - k; omega, rfl, rfl, rfl, rfl, rfl, rfl, rfl, rfl, rfl, rfl, rfl, rfl, ?_, rfl, trivial⟩
            show C.v (V.int .i64 (IntKind.i64.wrap ((k : Int) + 1))) = _
            rw [wk]
      · rw [hv, Bool.true_or] at hnx
        conv => whnf
        refine ⟨_, ⟨by omega, hgk⟩, ?_⟩
        conv => whnf
        refine AC.of_pc (hsp I[k].path (by have := e2 _ (List.getElem_mem hlt); omega)).choose_spec rfl ?_
        conv => whnf
        refine AC.of_pc (hvp _ _ hfk1) rfl ?_
        rw [hfk2]
        conv => whnf
        refine AC.of_pc htn rfl ?_
        conv => whnf
        repeat (first | refine ⟨fun h => absurd (of_decide_eq_true h) (fun e => e rfl), fun _ => ?_⟩
                      | refine ⟨fun h => absurd h (by simp; first | done | fail "x"), fun _ => ?_⟩
                      | refine ⟨fun _ => ?_, fun h => absurd h (by simp; first | done | fail "x")⟩
                      | refine ⟨_, ⟨by omega, hgk⟩, ?_⟩
                      | fail "end"
                (conv => whnf))
        refine ⟨by kernel_rfl, ?_⟩
        conv => whnf
        refine ⟨fun h => absurd h (by simp [hn5]; first | done | fail "x"), fun _ => ?_⟩
        conv => whnf
        refine ⟨(k + 1, .tt), ⟨by show k + 1 ≤ I.length; omega, .tt hnx⟩, by show I.length - (k + 1) < I.length - k; omega, rfl, rfl, rfl, rfl, rfl, rfl, rfl, rfl, rfl, rfl, rfl, rfl, ?_, rfl, trivial⟩
        show C.v (V.int .i64 (IntKind.i64.wrap ((k : Int) + 1))) = _
        rw [wk]
      · rw [hv, Bool.false_or] at hnx
        conv => whnf
        refine ⟨_, ⟨by omega, hgk⟩, ?_⟩
        conv => whnf
        refine ⟨fun h => ?_, fun h => ?_⟩
        · have h : I[k].path = P := by simpa using h
          rw [decide_eq_true h, Bool.true_and] at hnx
          conv => whnf
          refine ⟨_, ⟨by omega, hgk⟩, ?_⟩
          conv => whnf
          refine ⟨_, ⟨by omega, hgk⟩, ?_⟩
          conv => whnf
          refine AC.of_pc (hsp I[k].path (by have := e2 _ (List.getElem_mem hlt); omega)).choose_spec rfl ?_
          conv => whnf
          refine AC.of_pc (hvp _ _ hfk1) rfl ?_
          rw [hfk2]
          conv => whnf
          refine AC.of_pc htn rfl ?_
          conv => whnf
          repeat (first | refine ⟨fun h => absurd (of_decide_eq_true h) (fun e => e rfl), fun _ => ?_⟩
                        | refine ⟨fun h => absurd h (by simp; first | done | fail "x"), fun _ => ?_⟩
                        | refine ⟨fun _ => ?_, fun h => absurd h (by simp; first | done | fail "x")⟩
                        | refine ⟨_, ⟨by omega, hgk⟩, ?_⟩
                        | fail "end"
                  (conv => whnf))
          refine ⟨by kernel_rfl, ?_⟩
          conv => whnf
          refine ⟨fun h => absurd h (by simp [hn5]; first | done | fail "x"), fun _ => ?_⟩
          conv => whnf
          refine ⟨(k + 1, .bool (decide (I[k].id = F.1))), ⟨by show k + 1 ≤ I.length; omega, .bool hnx⟩, by show I.length - (k + 1) < I.length - k; omega, rfl, rfl, rfl, rfl, rfl, rfl, rfl, rfl, rfl, rfl, rfl, rfl, ?_, rfl, trivial⟩
          show C.v (V.int .i64 (IntKind.i64.wrap ((k : Int) + 1))) = _
          rw [wk]
        · have h : I[k].path ≠ P := by simpa using h
          rw [decide_eq_false h, Bool.false_and] at hnx
          conv => whnf
          refine ⟨_, ⟨by omega, hgk⟩, ?_⟩
          conv => whnf
          refine AC.of_pc (hsp I[k].path (by have := e2 _ (List.getElem_mem hlt); omega)).choose_spec rfl ?_
          conv => whnf
          refine AC.of_pc (hvp _ _ hfk1) rfl ?_
          rw [hfk2]
          conv => whnf
          refine AC.of_pc htn rfl ?_
          conv => whnf
          repeat (first | refine ⟨fun h => absurd (of_decide_eq_true h) (fun e => e rfl), fun _ => ?_⟩
                        | refine ⟨fun h => absurd h (by simp; first | done | fail "x"), fun _ => ?_⟩
                        | refine ⟨fun _ => ?_, fun h => absurd h (by simp; first | done | fail "x")⟩
                        | refine ⟨_, ⟨by omega, hgk⟩, ?_⟩
                        | fail "end"
                  (conv => whnf))
          refine ⟨by kernel_rfl, ?_⟩
          conv => whnf
          refine ⟨fun h => absurd h (by simp [hn5]; first | done | fail "x"), fun _ => ?_⟩
          conv => whnf
          refine ⟨(k + 1, .ff), ⟨by show k + 1 ≤ I.length; omega, .ff hnx⟩, by show I.length - (k + 1) < I.length - k; omega, rfl, rfl, rfl, rfl, rfl, rfl, rfl, rfl, rfl, rfl, rfl, rfl, ?_, rfl, trivial⟩
          show C.v (V.int .i64 (IntKind.i64.wrap ((k : Int) + 1))) = _
          rw [wk]
    · obtain rfl : k = I.length := by omega
      conv => whnf
      refine ⟨fun h => absurd (of_decide_eq_true h) (by rw [hel]; omega), fun _ => ?_⟩
      have hend : metF I P F.1 (true) I.length = true := by
        unfold metF
        rw [List.take_length, Bool.or_eq_true]
        exact .inl rfl
      rw [hend] at hv
      rcases hv with rfl | ⟨rfl, _⟩ | ⟨_, hv⟩
      · conv => whnf
        repeat (first | refine ⟨fun _ => ?_, fun h => absurd h (by decide)⟩ | refine ⟨fun h => absurd h (by decide), fun _ => ?_⟩ | refine ⟨fun _ => ?_, fun h => absurd (show true = false from h) (by decide)⟩ | refine ⟨fun h => absurd (show false = true from h) (by decide), fun _ => ?_⟩
                (conv => whnf))
      · conv => whnf
        repeat (first | refine ⟨fun _ => ?_, fun h => absurd h (by decide)⟩ | refine ⟨fun h => absurd h (by decide), fun _ => ?_⟩ | refine ⟨fun _ => ?_, fun h => absurd (show true = false from h) (by decide)⟩ | refine ⟨fun h => absurd (show false = true from h) (by decide), fun _ => ?_⟩
                (conv => whnf))
      · cases hv
  · have hnn : names ≠ [] := fun e => by
      rw [e] at h
      exact absurd h (by decide)
    conv => whnf
    refine AW.loop (X := Nat × V) (fun x => [(.tmp 5, .v (.bool true)), (.tmp 6, .v (.lst q 8 (encN D) .none)), (.tmp 7, .v (.lst q2 3 (encIt I) .none)), (.tmp 8, .v (.int .i64 F.1)), (.tmp 10, .v (.str P)), (.tmp 12, .v x.2), (.tmp 13, .v (.int .i64 x.1))]) 0
      (fun x => x.1 ≤ I.length ∧ HoldV x.2 (metF I P F.1 (F.2 != 0) x.1)) (fun x => I.length - x.1) (by decide) (0, .bool (F.2 != 0)) ⟨Nat.zero_le _, .bool (by simp [metF])⟩ ⟨rfl, rfl, rfl, rfl, rfl, rfl, rfl, rfl, rfl, rfl, rfl, rfl, rfl, rfl, trivial⟩ ?_
    rintro ⟨k, v⟩ ⟨hk, hv⟩
    simp only at hk hv
    dsimp only
    refine ev_sound tabOk mixed _ _ _ _ ?_
    rcases Nat.lt_or_ge k I.length with hlt | hge
    · have hgk := encIt_get hlt
      obtain ⟨n, hn1, hn2, hn3, hn4, hn5, _⟩ := e5 k hlt
      have htn := htf I[k].id
      rw [if_pos rfl, hn2] at htn
      have hfk1 : (Gw.View.partsOf I[k].path).length ≤ 1048576 := by have h1 := (hfd _ (List.getElem_mem hlt)).1; have := e2 _ (List.getElem_mem hlt); omega
      have hfk2 := (hfd _ (List.getElem_mem hlt)).2
      have hnx := metF_next (p := P) (id := F.1) (b := F.2 != 0) hlt
      have wk : IntKind.i64.wrap ((k : Int) + 1) = ((k + 1 : Nat) : Int) := by rw [w64 (by omega) (by omega)]; rfl
      conv => whnf
      refine ⟨fun h => ?_, fun h => absurd (of_decide_eq_false h) (by rw [hel]; omega)⟩
      rcases hv with rfl | ⟨rfl, hv⟩ | ⟨rfl, hv⟩
      · conv => whnf
        refine ⟨fun hv => ?_, fun hv => ?_⟩
        · have hv : metF I P F.1 (F.2 != 0) k = true := hv
          rw [hv, Bool.true_or] at hnx
          conv => whnf
          refine ⟨_, ⟨by omega, hgk⟩, ?_⟩
          conv => whnf
          refine AC.of_pc (hsp I[k].path (by have := e2 _ (List.getElem_mem hlt); omega)).choose_spec rfl ?_
          conv => whnf
          refine AC.of_pc (hvp _ _ hfk1) rfl ?_
          rw [hfk2]
          conv => whnf
          refine AC.of_pc htn rfl ?_
          conv => whnf
          repeat (first | refine ⟨fun h => absurd (of_decide_eq_true h) (fun e => e rfl), fun _ => ?_⟩
                        | refine ⟨fun h => absurd h (by simp; first | done | fail "x"), fun _ => ?_⟩
                        | refine ⟨fun _ => ?_, fun h => absurd h (by simp; first | done | fail "x")⟩
                        | refine ⟨_, ⟨by omega, hgk⟩, ?_⟩
                        | fail "end"
                  (conv => whnf))
          refine ⟨by kernel_rfl, ?_⟩
          conv => whnf
          refine ⟨fun h => absurd h (by simp [hn5]; first | done | fail "x"), fun _ => ?_⟩
          conv => whnf
          refine ⟨(k + 1, .tt), ⟨by show k + 1 ≤ I.length; omega, .tt hnx⟩, by show I.length - (k + 1) < I.length - k; omega, rfl, rfl, rfl, rfl, rfl, rfl, rfl, rfl, rfl, rfl, rfl, rfl, ?_, rfl, trivial⟩
          show C.v (V.int .i64 (IntKind.i64.wrap ((k : Int) + 1))) = _
          rw [wk]
        · have hv : metF I P F.1 (F.2 != 0) k = false := hv
          rw [hv, Bool.false_or] at hnx
          conv => whnf
          refine ⟨_, ⟨by omega, hgk⟩, ?_⟩
          conv => whnf
          refine ⟨fun h => ?_, fun h => ?_⟩
          · have h : I[k].path = P := by simpa using h
            rw [decide_eq_true h, Bool.true_and] at hnx
            conv => whnf
            refine ⟨_, ⟨by omega, hgk⟩, ?_⟩
            conv => whnf
            refine ⟨_, ⟨by omega, hgk⟩, ?_⟩
            conv => whnf
            refine AC.of_pc (hsp I[k].path (by have := e2 _ (List.getElem_mem hlt); omega)).choose_spec rfl ?_
            conv => whnf
            refine AC.of_pc (hvp _ _ hfk1) rfl ?_
            rw [hfk2]
            conv => whnf
            refine AC.of_pc htn rfl ?_
            conv => whnf
            repeat (first | refine ⟨fun h => absurd (of_decide_eq_true h) (fun e => e rfl), fun _ => ?_⟩
                          | refine ⟨fun h => absurd h (by simp; first | done | fail "x"), fun _ => ?_⟩
                          | refine ⟨fun _ => ?_, fun h => absurd h (by simp; first | done | fail "x")⟩
                          | refine ⟨_, ⟨by omega, hgk⟩, ?_⟩
                          | fail "end"
                    (conv => whnf))
            refine ⟨by kernel_rfl, ?_⟩
            conv => whnf
            refine ⟨fun h => absurd h (by simp [hn5]; first | done | fail "x"), fun _ => ?_⟩
            conv => whnf
            refine ⟨(k + 1, .bool (decide (I[k].id = F.1))), ⟨by show k + 1 ≤ I.length; omega, .bool hnx⟩, by show I.length - (k + 1) < I.length - k; omega, rfl, rfl, rfl, rfl, rfl, rfl, rfl, rfl, rfl, rfl, rfl, rfl, ?_, rfl, trivial⟩
            show C.v (V.int .i64 (IntKind.i64.wrap ((k : Int) + 1))) = _
            rw [wk]
          · have h : I[k].path ≠ P := by simpa using h
            rw [decide_eq_false h, Bool.false_and] at hnx
            conv => whnf
            refine ⟨_, ⟨by omega, hgk⟩, ?_⟩
            conv => whnf
            refine AC.of_pc (hsp I[k].path (by have := e2 _ (List.getElem_mem hlt); omega)).choose_spec rfl ?_
            conv => whnf
            refine AC.of_pc (hvp _ _ hfk1) rfl ?_
            rw [hfk2]
            conv => whnf
            refine AC.of_pc htn rfl ?_
            conv => whnf
            repeat (first | refine ⟨fun h => absurd (of_decide_eq_true h) (fun e => e rfl), fun _ => ?_⟩
                          | refine ⟨fun h => absurd h (by simp; first | done | fail "x"), fun _ => ?_⟩
                          | refine ⟨fun _ => ?_, fun h => absurd h (by simp; first | done | fail "x")⟩
                          | refine ⟨_, ⟨by omega, hgk⟩, ?_⟩
                          | fail "end"
                    (conv => whnf))
            refine ⟨by kernel_rfl, ?_⟩
            conv => whnf
            refine ⟨fun h => absurd h (by simp [hn5]; first | done | fail "x"), fun _ => ?_⟩
            conv => whnf
            refine ⟨(k + 1, .ff), ⟨by show k + 1 ≤ I.length; omega, .ff hnx⟩, by show I.length - (k + 1) < I.length - k; omega, rfl, rfl, rfl, rfl, rfl, rfl, rfl, rfl, rfl, rfl, rfl, rfl, ?_, rfl, trivial⟩
            show C.v (V.int .i64 (IntKind.i64.wrap ((k : Int) + 1))) = _
            rw [wk]
      · rw [hv, Bool.true_or] at hnx
        conv => whnf
        refine ⟨_, ⟨by omega, hgk⟩, ?_⟩
        conv => whnf
        refine AC.of_pc (hsp I[k].path (by have := e2 _ (List.getElem_mem hlt); omega)).choose_spec rfl ?_
        conv => whnf
        refine AC.of_pc (hvp _ _ hfk1) rfl ?_
        rw [hfk2]
        conv => whnf
        refine AC.of_pc htn rfl ?_
        conv => whnf
        repeat (first | refine ⟨fun h => absurd (of_decide_eq_true h) (fun e => e rfl), fun _ => ?_⟩
                      | refine ⟨fun h => absurd h (by simp; first | done | fail "x"), fun _ => ?_⟩
                      | refine ⟨fun _ => ?_, fun h => absurd h (by simp; first | done | fail "x")⟩
                      | refine ⟨_, ⟨by omega, hgk⟩, ?_⟩
                      | fail "end"
                (conv => whnf))
        refine ⟨by kernel_rfl, ?_⟩
        conv => whnf
        refine ⟨fun h => absurd h (by simp [hn5]; first | done | fail "x"), fun _ => ?_⟩
        conv => whnf
        refine ⟨(k + 1, .tt), ⟨by show k + 1 ≤ I.length; omega, .tt hnx⟩, by show I.length - (k + 1) < I.length - k; omega, rfl, rfl, rfl, rfl, rfl, rfl, rfl, rfl, rfl, rfl, rfl, rfl, ?_, rfl, trivial⟩
        show C.v (V.int .i64 (IntKind.i64.wrap ((k : Int) + 1))) = _
        rw [wk]
      · rw [hv, Bool.false_or] at hnx
        conv => whnf
        refine ⟨_, ⟨by omega, hgk⟩, ?_⟩
        conv => whnf
        refine ⟨fun h => ?_, fun h => ?_⟩
        · have h : I[k].path = P := by simpa using h
          rw [decide_eq_true h, Bool.true_and] at hnx
          conv => whnf
          refine ⟨_, ⟨by omega, hgk⟩, ?_⟩
          conv => whnf
          refine ⟨_, ⟨by omega, hgk⟩, ?_⟩
          conv => whnf
          refine AC.of_pc (hsp I[k].path (by have := e2 _ (List.getElem_mem hlt); omega)).choose_spec rfl ?_
          conv => whnf
          refine AC.of_pc (hvp _ _ hfk1) rfl ?_
          rw [hfk2]
          conv => whnf
          refine AC.of_pc htn rfl ?_
          conv => whnf
          repeat (first | refine ⟨fun h => absurd (of_decide_eq_true h) (fun e => e rfl), fun _ => ?_⟩
                        | refine ⟨fun h => absurd h (by simp; first | done | fail "x"), fun _ => ?_⟩
                        | refine ⟨fun _ => ?_, fun h => absurd h (by simp; first | done | fail "x")⟩
                        | refine ⟨_, ⟨by omega, hgk⟩, ?_⟩
                        | fail "end"
                  (conv => whnf))
          refine ⟨by kernel_rfl, ?_⟩
          conv => whnf
          refine ⟨fun h => absurd h (by simp [hn5]; first | done | fail "x"), fun _ => ?_⟩
          conv => whnf
          refine ⟨(k + 1, .bool (decide (I[k].id = F.1))), ⟨by show k + 1 ≤ I.length; omega, .bool hnx⟩, by show I.length - (k + 1) < I.length - k; omega, rfl, rfl, rfl, rfl, rfl, rfl, rfl, rfl, rfl, rfl, rfl, rfl, ?_, rfl, trivial⟩
          show C.v (V.int .i64 (IntKind.i64.wrap ((k : Int) + 1))) = _
          rw [wk]
        · have h : I[k].path ≠ P := by simpa using h
          rw [decide_eq_false h, Bool.false_and] at hnx
          conv => whnf
          refine ⟨_, ⟨by omega, hgk⟩, ?_⟩
          conv => whnf
          refine AC.of_pc (hsp I[k].path (by have := e2 _ (List.getElem_mem hlt); omega)).choose_spec rfl ?_
          conv => whnf
          refine AC.of_pc (hvp _ _ hfk1) rfl ?_
          rw [hfk2]
          conv => whnf
          refine AC.of_pc htn rfl ?_
          conv => whnf
          repeat (first | refine ⟨fun h => absurd (of_decide_eq_true h) (fun e => e rfl), fun _ => ?_⟩
                        | refine ⟨fun h => absurd h (by simp; first | done | fail "x"), fun _ => ?_⟩
                        | refine ⟨fun _ => ?_, fun h => absurd h (by simp; first | done | fail "x")⟩
                        | refine ⟨_, ⟨by omega, hgk⟩, ?_⟩
                        | fail "end"
                  (conv => whnf))
          refine ⟨by kernel_rfl, ?_⟩
          conv => whnf
          refine ⟨fun h => absurd h (by simp [hn5]; first | done | fail "x"), fun _ => ?_⟩
          conv => whnf
          refine ⟨(k + 1, .ff), ⟨by show k + 1 ≤ I.length; omega, .ff hnx⟩, by show I.length - (k + 1) < I.length - k; omega, rfl, rfl, rfl, rfl, rfl, rfl, rfl, rfl, rfl, rfl, rfl, rfl, ?_, rfl, trivial⟩
          show C.v (V.int .i64 (IntKind.i64.wrap ((k : Int) + 1))) = _
          rw [wk]
    · obtain rfl : k = I.length := by omega
      conv => whnf
      refine ⟨fun h => absurd (of_decide_eq_true h) (by rw [hel]; omega), fun _ => ?_⟩
      have hend : metF I P F.1 (F.2 != 0) I.length = true := by
        unfold metF
        rw [List.take_length, Bool.or_eq_true]
        by_cases h0 : F.2 = 0
        · obtain ⟨it, h1, h2, h3⟩ := hbk F.1 hnn (by rw [← h0])
          exact .inr (List.any_eq_true.2 ⟨it, h1, by rw [decide_eq_true h2, decide_eq_true h3]; rfl⟩)
        · exact .inl (by simpa using h0)
      rw [hend] at hv
      rcases hv with rfl | ⟨rfl, _⟩ | ⟨_, hv⟩
      · conv => whnf
        repeat (first | refine ⟨fun _ => ?_, fun h => absurd h (by decide)⟩ | refine ⟨fun h => absurd h (by decide), fun _ => ?_⟩ | refine ⟨fun _ => ?_, fun h => absurd (show true = false from h) (by decide)⟩ | refine ⟨fun h => absurd (show false = true from h) (by decide), fun _ => ?_⟩
                (conv => whnf))
      · conv => whnf
        repeat (first | refine ⟨fun _ => ?_, fun h => absurd h (by decide)⟩ | refine ⟨fun h => absurd h (by decide), fun _ => ?_⟩ | refine ⟨fun _ => ?_, fun h => absurd (show true = false from h) (by decide)⟩ | refine ⟨fun h => absurd (show false = true from h) (by decide), fun _ => ?_⟩
                (conv => whnf))
      · cases hv
end Go.Proofs.Ytkflmicpifohhaa
