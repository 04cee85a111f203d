/- The law ViewBelow, walked without addresses. No claim of its own. -/
import Derived.Test.YtkflmicpifohhaaAFinds
import Derived.Test.YtkflmicpifohhaaBelowPl
namespace Go.Proofs.Ytkflmicpifohhaa
open Go.Am

/-- What is wanted of so many. -/
def wantB (I : List Gw.View.Item) (x : Gw.View.Item) (k : Nat) : List Gw.View.Item := ((I.take k).filter fun it => Gw.View.within x.path it.path).map (Gw.View.cutI x.path.length)
theorem wantB_next {I : List Gw.View.Item} {x : Gw.View.Item} {k : Nat} (h : k < I.length) : wantB I x (k + 1) = if Gw.View.within x.path I[k].path = true then wantB I x k ++ [Gw.View.cutI x.path.length I[k]] else wantB I x k := by
  unfold wantB
  rw [List.take_succ_eq_append_getElem h, List.filter_append, List.map_append]
  cases hw : Gw.View.within x.path I[k].path <;> simp [hw]
theorem viewBelow_pc (nil : Bool) (l : List Gw.Op.Op) (which : Nat) (hi : ∀ o ∈ l, I64 o.node ∧ I64 o.parent) (hl : l.length ≤ 9223372036854775807) (hw8 : which ≤ 255) :
    PC Try.prog 3 [.lst nil 7 (encOs l) .none, .int .u8 (which : Int)] (.bool true) := by
  have haw := awake_pc
  have hfw := few05_pc nil l 60 hl
  refine PC.of tabOk mixed (fn := Try.f3) (by kernel_rfl) rfl (by kernel_rfl) rfl rfl ?_
  conv => whnf
  refine AC.of_pc haw rfl ?_
  conv => whnf
  refine AC.of_pc hfw rfl ?_
  cases hfew : (Gw.Op.fewL l && decide ((l.length : Int) ≤ 60)) with
  | false =>
    conv => whnf
    repeat (first | refine ⟨fun _ => ?_, fun h => absurd h (by decide)⟩ | refine ⟨fun h => absurd h (by decide), fun _ => ?_⟩ | refine ⟨fun _ => ?_, fun h => absurd (show true = false from h) (by decide)⟩ | refine ⟨fun h => absurd (show false = true from h) (by decide), fun _ => ?_⟩
            (conv => whnf))
  | true =>
  simp only [Bool.and_eq_true, decide_eq_true_eq] at hfew
  obtain ⟨hf5, hlen⟩ := hfew
  obtain ⟨hfine, hnm⟩ := few_fine05 hf5 hi
  have hfo := foldG_pr nil l (by omega) hfine
  conv => whnf
  repeat (first | refine ⟨fun _ => ?_, fun h => absurd h (by decide)⟩ | refine ⟨fun h => absurd h (by decide), fun _ => ?_⟩ | refine ⟨fun _ => ?_, fun h => absurd (show true = false from h) (by decide)⟩ | refine ⟨fun h => absurd (show false = true from h) (by decide), fun _ => ?_⟩
          (conv => whnf))
  refine AC.of_pr hfo rfl ?_
  rintro res ⟨q, s, hs, hsl, rfl⟩
  have hg := grove_of hfine hnm (by omega) hs hsl
  have hl60 := hg.len
  have hit := fun id => vItems_pc q (foldN s) id hg.ids (by omega) (fun n hn => (hg.ok n hn).2)
  obtain ⟨q5, hli⟩ := vList_pc q (foldN s) 0 hg.ids (by omega) (fun n hn => by have := (hg.ok n hn).2; omega)
  have hse := hg.seen
  have hwt := fun x => Gw.View.items_within hg.check hg.ok hg.first hg.items0 (x := x)
  have hno := Gw.View.items_none hg.check (fun n hn => by have := ok_pos (((Gw.Tree.check_iff _).1 hg.check).1 n hn); omega) hg.items0
  have hit0 := hit 0
  generalize hI : Gw.View.items (foldN s) 0 = I at *
  generalize foldN s = D at *
  have hel := encIt_len I
  obtain ⟨e1, e2, e3, e4, e5⟩ := hse
  conv => whnf
  refine AC.of_pc hit0 rfl ?_
  conv => whnf
  generalize decide (I = []) = q2
  cases hIc : I with
  | nil =>
    subst hIc
    rw [hno rfl] at hli
    conv => whnf
    repeat (first | refine ⟨fun _ => ?_, fun h => absurd h (by decide)⟩ | refine ⟨fun h => absurd h (by decide), fun _ => ?_⟩ | refine ⟨fun _ => ?_, fun h => absurd (show true = false from h) (by decide)⟩ | refine ⟨fun h => absurd (show false = true from h) (by decide), fun _ => ?_⟩
            (conv => whnf))
    refine AC.of_pc hli rfl ?_
    conv => whnf
    rfl
  | cons a r =>
  subst hIc
  conv => whnf
  refine ⟨fun h => absurd (show (((a :: r).length : Nat) : Int) = 0 by rw [← hel]; simpa using h) (by rw [List.length_cons]; omega), fun _ => ?_⟩
  have hdx : (IntKind.i64.wrap (which : Int)).tmod ((encIt (a :: r)).length : Nat) = ((which % (a :: r).length : Nat) : Int) := by
    rw [w64 (by omega) (by omega), hel, tmodN]
  have hj : which % (a :: r).length < (a :: r).length := Nat.mod_lt _ (by rw [List.length_cons]; omega)
  have hgj := encIt_get hj
  conv => whnf
  refine ⟨_, ⟨by rw [hdx]; omega, by rw [hdx, Int.toNat_natCast]; exact hgj⟩, ?_⟩
  generalize a :: r = I at *
  generalize which % I.length = j at *
  obtain ⟨n0, hn1, hn2, _⟩ := e5 _ hj
  have hidx := (Gw.Tree.find_some hn2).2.1
  obtain ⟨hwx, hwd⟩ := hwt _ (List.getElem_mem hj)
  have hxp := e2 I[j] (List.getElem_mem hj)
  have hitx := hit I[j].id
  rw [hwx] at hitx
  have hwd2 : Gw.Stamp.dir I[j].id = true ∨ wantB I I[j] I.length = [] := hwd.imp id fun h => by unfold wantB; rw [List.take_length, ← hwx]; exact h
  have hwl : (wantB I I[j] I.length).length ≤ I.length := by
    unfold wantB
    rw [List.take_length, List.length_map]
    exact List.length_filter_le _ _
  have hwe : (I.filter fun it => Gw.View.within I[j].path it.path).map (Gw.View.cutI I[j].path.length) = wantB I I[j] I.length := by unfold wantB; rw [List.take_length]
  rw [hwe] at hitx
  have hdr := dir_pc I[j].id (by rw [← hidx]; exact hg.ids n0 hn1)
  have hex : cellsI I[j] = [.str I[j].path, .int .i64 I[j].id, .str I[j].data] := rfl
  rw [hex]
  generalize I[j] = x at *
  conv => whnf
  refine AW.rowT 9 32 3 rfl rfl ?_
  refine AW.loop (fun k : Nat => [(.tmp 5, .v (.bool true)), (.tmp 6, .v (.lst q 8 (encN D) .none)), (.tmp 7, .v (.lst q2 3 (encIt I) .none)), (.tmp 8, .v (.ptr 19 0)), (.tmp 9, .v (.lst (decide (wantB I x k = [])) 3 (encIt (wantB I x k)) (.brow 23))), (.tmp 10, .v (.int .i64 k)),
    (.blk 19, .box 32 [.str x.path, .int .i64 x.id, .str x.data]), (.row 23, .row 32 3 (wantB I x k).length)]) 24
    (fun k => k ≤ I.length) (fun k => I.length - k) (by decide) 0 (Nat.zero_le _) ⟨rfl, rfl, rfl, rfl, rfl, rfl, rfl, rfl, rfl, rfl, rfl, rfl, rfl, rfl, rfl, rfl, trivial⟩ ?_
  rintro k hk
  refine ev_sound tabOk mixed _ _ _ _ ?_
  conv => whnf
  refine ⟨fun h => ?_, fun h => ?_⟩
  · have h := of_decide_eq_true h
    rw [hel] at h
    have hlt : k < I.length := by omega
    have hgk := encIt_get hlt
    have hnx := wantB_next (x := x) hlt
    have hpk := e2 I[k] (List.getElem_mem hlt)
    have wk : IntKind.i64.wrap ((k : Int) + 1) = ((k + 1 : Nat) : Int) := by rw [w64 (by omega) (by omega)]; rfl
    have wn : IntKind.i64.wrap ((x.path.length : Int) + 1) = ((x.path.length + 1 : Nat) : Int) := by rw [w64 (by omega) (by omega)]; rfl
    have hWl : (wantB I x k).length ≤ 60 := by
      unfold wantB
      rw [List.length_map]
      have := List.length_filter_le (fun it => Gw.View.within x.path it.path) (I.take k)
      rw [List.length_take] at this
      omega
    generalize hW : wantB I x k = W at *
    generalize hW2 : wantB I x (k + 1) = W2 at *
    have hWe := encIt_len W
    generalize I[k] = it at *
    unfold Gw.View.within at hnx
    conv => whnf
    refine ⟨_, ⟨by omega, hgk⟩, ?_⟩
    conv => whnf
    refine ⟨fun h => ?_, fun h => ?_⟩
    · have h := of_decide_eq_true h
      rw [decide_eq_true (show x.path.length < it.path.length by omega), Bool.true_and] at hnx
      conv => whnf
      refine ⟨_, ⟨by omega, hgk⟩, ?_⟩
      conv => whnf
      refine ⟨⟨by omega, by omega⟩, ?_⟩
      conv => whnf
      refine ⟨by show x.path.length + 1 < _; omega, ?_⟩
      conv => whnf
      refine ⟨by kernel_rfl, ?_⟩
      have hsl : (it.path.take (IntKind.i64.wrap ((x.path.length : Int) + 1)).toNat).drop (0 : Int).toNat = it.path.take (x.path.length + 1) := by
        rw [wn]; rfl
      conv => whnf
      refine ⟨fun h => ?_, fun h => ?_⟩
      · have h : it.path.take (x.path.length + 1) = x.path ++ [47] := by
          rw [← hsl]; simpa using h
        rw [decide_eq_true h, if_pos rfl] at hnx
        conv => whnf
        refine ⟨_, ⟨by omega, hgk⟩, ?_⟩
        conv => whnf
        refine ⟨⟨by omega, by omega⟩, ?_⟩
        conv => whnf
        refine ⟨_, ⟨by omega, hgk⟩, ?_⟩
        conv => whnf
        refine ⟨_, ⟨by omega, hgk⟩, ?_⟩
        conv => whnf
        refine ⟨⟨hWe.symm, fits_small (by show (encIt W).length + 1 ≤ _; omega) (by decide)⟩, ?_⟩
        conv => whnf
        refine ⟨by kernel_rfl, ?_⟩
        conv => whnf
        refine ⟨k + 1, by omega, by show I.length - (k + 1) < I.length - k; omega, rfl, rfl, rfl, rfl, rfl, rfl, rfl, rfl, ?_, rfl, ?_, rfl, rfl, rfl, ?_, rfl, trivial⟩
        · rw [hW2, hnx]
          show C.v (V.lst (decide (W = []) && false) 3 (encIt W ++ [[V.str (it.path.drop ((x.path.length : Nat) : Int).toNat), V.int .i64 it.id, V.str it.data]]) _) = C.v (V.lst (decide (W ++ [Gw.View.cutI x.path.length it] = [])) 3 (encIt (W ++ [Gw.View.cutI x.path.length it])) _)
          rw [Bool.and_false, decide_eq_false (by simp)]
          unfold encIt
          rw [List.map_append]
          rfl
        · show C.v (V.int .i64 (IntKind.i64.wrap ((k : Int) + 1))) = _
          rw [wk]
        · rw [hW2, hnx]
          exact row_snoc _ W _
      · have h : it.path.take (x.path.length + 1) ≠ x.path ++ [47] := by
          rw [← hsl]; simpa using h
        rw [decide_eq_false h, if_neg (by decide)] at hnx
        conv => whnf
        refine ⟨k + 1, by omega, by show I.length - (k + 1) < I.length - k; omega, rfl, rfl, rfl, rfl, rfl, rfl, rfl, rfl, ?_, rfl, ?_, rfl, rfl, rfl, ?_, rfl, trivial⟩
        · rw [hW2, hnx]; rfl
        · show C.v (V.int .i64 (IntKind.i64.wrap ((k : Int) + 1))) = _
          rw [wk]
        · rw [hW2, hnx]; rfl
    · have h := of_decide_eq_false h
      rw [decide_eq_false (show ¬ x.path.length < it.path.length by omega), Bool.false_and, if_neg (by decide)] at hnx
      conv => whnf
      refine ⟨by kernel_rfl, ?_⟩
      conv => whnf
      refine ⟨k + 1, by omega, by show I.length - (k + 1) < I.length - k; omega, rfl, rfl, rfl, rfl, rfl, rfl, rfl, rfl, ?_, rfl, ?_, rfl, rfl, rfl, ?_, rfl, trivial⟩
      · rw [hW2, hnx]; rfl
      · show C.v (V.int .i64 (IntKind.i64.wrap ((k : Int) + 1))) = _
        rw [wk]
      · rw [hW2, hnx]; rfl
  have h := of_decide_eq_false h
  rw [hel] at h
  obtain rfl : k = I.length := by omega
  generalize wantB I x I.length = W at *
  have hWe := encIt_len W
  have hsI := fun q1 => sameI_pc q1 (decide (W = [])) W (by omega)
  conv => whnf
  repeat (first | refine ⟨fun _ => ?_, fun h => absurd h (by decide)⟩ | refine ⟨fun h => absurd h (by decide), fun _ => ?_⟩ | refine ⟨fun _ => ?_, fun h => absurd (show true = false from h) (by decide)⟩ | refine ⟨fun h => absurd (show false = true from h) (by decide), fun _ => ?_⟩
          (conv => whnf))
  refine AC.of_pc hitx rfl ?_
  conv => whnf
  refine AC.of_pc (hsI _) rfl ?_
  conv => whnf
  repeat (first | refine ⟨fun _ => ?_, fun h => absurd h (by decide)⟩ | refine ⟨fun h => absurd h (by decide), fun _ => ?_⟩ | refine ⟨fun _ => ?_, fun h => absurd (show true = false from h) (by decide)⟩ | refine ⟨fun h => absurd (show false = true from h) (by decide), fun _ => ?_⟩
          (conv => whnf))
  refine AC.of_pc hdr rfl ?_
  conv => whnf
  cases hd : Gw.Stamp.dir x.id with
  | true =>
    conv => whnf
    repeat (first | refine ⟨fun _ => ?_, fun h => absurd h (by decide)⟩ | refine ⟨fun h => absurd h (by decide), fun _ => ?_⟩ | refine ⟨fun _ => ?_, fun h => absurd (show true = false from h) (by decide)⟩ | refine ⟨fun h => absurd (show false = true from h) (by decide), fun _ => ?_⟩
            (conv => whnf))
  | false =>
    obtain rfl : W = [] := hwd2.resolve_left (by rw [hd]; decide)
    conv => whnf
    repeat (first | refine ⟨fun _ => ?_, fun h => absurd h (by decide)⟩ | refine ⟨fun h => absurd h (by decide), fun _ => ?_⟩ | refine ⟨fun _ => ?_, fun h => absurd (show true = false from h) (by decide)⟩ | refine ⟨fun h => absurd (show false = true from h) (by decide), fun _ => ?_⟩
            (conv => whnf))
    rfl
end Go.Proofs.Ytkflmicpifohhaa
