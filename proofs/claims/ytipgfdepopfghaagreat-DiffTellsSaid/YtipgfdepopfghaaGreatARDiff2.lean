/- The document's answer of what has changed: told without addresses. No claim of its own. -/
import Derived.Test.YtipgfdepopfghaaGreatARDiff1
import Derived.Test.YtipgfdepopfghaaGreatARItems
namespace Go.Proofs.YtipgfdepopfghaaGreat
open Go.Am

def zeroI : Gw.View.Item := ⟨[], 0, []⟩
theorem rfind_pc (q : Bool) (I : List Gw.View.Item) (p : List UInt8) (hl : I.length ≤ 1048576) : PC Tryz.prog 35 [.lst q 3 (encIt I) .none, .str p] (.tup [.agg (cellsI ((Gw.Diff.firstAt I p).getD zeroI)), .bool (Gw.Diff.firstAt I p).isSome]) := by
  have hel := encIt_len I
  refine PC.of tabOk mixed (fn := Tryz.f35) (by kernel_rfl) rfl (by kernel_rfl) rfl rfl ?_
  conv => whnf
  refine AW.loop (fun k : Nat => [(.tmp 0, .v (.lst q 3 (encIt I) .none)), (.tmp 1, .v (.str p)), (.tmp 4, .v (.ptr 0 0)), (.tmp 6, .v (.int .i64 k)), (.blk 0, .box 59 [.str [], .int .i64 0, .str []])]) 1
    (fun k => k ≤ I.length ∧ Gw.Diff.firstAt (I.take k) p = none) (fun k => I.length - k) (by decide) 0 ⟨Nat.zero_le _, rfl⟩ ⟨rfl, rfl, rfl, rfl, rfl, rfl, rfl, rfl, rfl, rfl, trivial⟩ ?_
  rintro k ⟨hk, hall⟩
  refine ev_sound tabOk mixed _ _ _ _ ?_
  conv => whnf
  refine ⟨fun h => ?_, fun h => ?_⟩
  · have h := of_decide_eq_true h
    rw [hel] at h
    have hlt : k < I.length := by omega
    have hg := encIt_get hlt
    conv => whnf
    refine ⟨_, ⟨by omega, hg⟩, ?_⟩
    conv => whnf
    refine ⟨fun h => ?_, fun h => ?_⟩
    · have h : I[k].path = p := by simpa using h
      have hf : Gw.Diff.firstAt I p = some I[k] := by
        unfold Gw.Diff.firstAt at *
        conv => lhs; rw [← List.take_append_drop k I, List.drop_eq_getElem_cons hlt]
        rw [List.find?_append, hall, Option.none_or, List.find?_cons_of_pos (by simpa using h)]
      rw [hf]
      conv => whnf
      refine ⟨_, ⟨by omega, hg⟩, ?_⟩
      conv => whnf
      rfl
    · have h : I[k].path ≠ p := by simpa using h
      conv => whnf
      refine ⟨k + 1, ⟨by omega, ?_⟩, by show I.length - (k + 1) < I.length - k; omega, rfl, rfl, rfl, rfl, rfl, rfl, ?_, rfl, rfl, rfl, trivial⟩
      · unfold Gw.Diff.firstAt at *
        rw [List.take_succ_eq_append_getElem hlt, List.find?_append, hall, Option.none_or]
        simp [h]
      · show C.v (V.int .i64 (IntKind.i64.wrap ((k : Int) + 1))) = _
        rw [w64 (by omega) (by omega)]; rfl
  · have h := of_decide_eq_false h
    rw [hel] at h
    obtain rfl : k = I.length := by omega
    rw [List.take_length] at hall
    rw [hall]
    conv => whnf
    rfl
theorem rsame_pc (q : Bool) {I : List Gw.View.Item} (hu : Gw.Diff.Unlike I) (t : Gw.View.Item) (hl : I.length ≤ 1048576) : PC Tryz.prog 34 [.lst q 3 (encIt I) .none, .agg (cellsI t)] (.bool (Gw.Diff.sameAt I t)) := by
  have hf := rfind_pc q I t.path hl
  rw [Gw.Diff.first_last hu] at hf
  unfold Gw.Diff.sameAt
  refine PC.of tabOk mixed (fn := Tryz.f34) (by kernel_rfl) rfl (by kernel_rfl) rfl rfl ?_
  cases hlk : Gw.Diff.lastAt I t.path with
  | none =>
    rw [hlk] at hf
    conv => whnf
    refine AC.of_pc hf rfl ?_
    conv => whnf
    repeat (first | refine ⟨fun _ => ?_, fun h => absurd h (by decide)⟩ | refine ⟨fun h => absurd h (by decide), fun _ => ?_⟩ | refine ⟨fun _ => ?_, fun h => absurd (show true = false from h) (by decide)⟩ | refine ⟨fun h => absurd (show false = true from h) (by decide), fun _ => ?_⟩
            (conv => whnf))
  | some x =>
    rw [hlk] at hf
    conv => whnf
    refine AC.of_pc hf rfl ?_
    conv => whnf
    repeat (first | refine ⟨fun _ => ?_, fun h => absurd h (by decide)⟩ | refine ⟨fun h => absurd h (by decide), fun _ => ?_⟩ | refine ⟨fun _ => ?_, fun h => absurd (show true = false from h) (by decide)⟩ | refine ⟨fun h => absurd (show false = true from h) (by decide), fun _ => ?_⟩
            (conv => whnf))
    exact congrArg V.bool (by rw [Bool.eq_iff_iff]; simp)
theorem snocE (tk : Tok) (A : List Gw.Diff.Event) (t : Gw.Diff.Event) : C.v (V.lst (decide (A = []) && false) 2 (encE A ++ [cellsE t]) tk) = C.v (V.lst (decide (A ++ [t] = [])) 2 (encE (A ++ [t])) tk) := by
  rw [Bool.and_false, decide_eq_false (by simp)]
  unfold encE
  rw [List.map_append]
  rfl
theorem rdiffOf_pc (n1 n2 : Bool) (a b : List Gw.Tree.Node) (dir : Int) (ha : ∀ n ∈ a, I64 n.id) (hb : ∀ n ∈ b, I64 n.id) (hal : a.length ≤ 1000) (hbl : b.length ≤ 1000) (has : ∀ n ∈ a, n.name.length ≤ 1000) (hbs : ∀ n ∈ b, n.name.length ≤ 1000)
    (hua : Gw.Diff.Unlike (Gw.View.items a dir)) (hub : Gw.Diff.Unlike (Gw.View.items b dir)) :
    ∃ q, PC Tryz.prog 16 [.lst n1 8 (encN a) .none, .lst n2 8 (encN b) .none, .int .i64 dir]
      (.lst q 2 (encE (Gw.Diff.ofI (Gw.View.items a dir) (Gw.View.items b dir))) .none) := by
  obtain ⟨qa, hia⟩ := rvItems_pc n1 a dir ha (by omega) has
  obtain ⟨qb, hib⟩ := rvItems_pc n2 b dir hb (by omega) hbs
  have hla := items_len a dir
  have hlb := items_len b dir
  refine ⟨decide (Gw.Diff.ofI (Gw.View.items a dir) (Gw.View.items b dir) = []), ?_⟩
  generalize Gw.View.items a dir = A at *
  generalize Gw.View.items b dir = B at *
  have hAe := encIt_len A
  have hBe := encIt_len B
  have hsA := fun t => rsame_pc qa hua t (by omega)
  have hsB := fun t => rsame_pc qb hub t (by omega)
  have hfA := fun p => rfind_pc qa A p (by omega)
  refine PC.ofS tabOk mixed (fn := Tryz.f16) (by kernel_rfl) rfl (by kernel_rfl) rfl rfl ?_
  conv => whnf
  refine AC.of_pc hia rfl ?_
  conv => whnf
  refine AC.of_pc hib rfl ?_
  conv => whnf
  refine AW.rowT 9 43 2 rfl rfl ?_
  have hwz : IntKind.i64.wrap ((A.length : Int) - 1) = ((A.length : Int) - 1 - (0 : Nat)) := by rw [w64 (by omega) (by omega)]; omega
  refine AW.loop (fun k : Nat => [(.tmp 7, .v (.lst qa 3 (encIt A) .none)), (.tmp 8, .v (.lst qb 3 (encIt B) .none)), (.tmp 9, .v (.lst (decide (goneK A B k = [])) 2 (encE (goneK A B k)) (.brow 12))), (.tmp 10, .v (.int .i64 ((A.length : Int) - 1 - k))), (.row 12, .row 43 2 (goneK A B k).length)]) 13
    (fun k => k ≤ A.length) (fun k => A.length - k) (by decide) 0 (Nat.zero_le _) ⟨rfl, rfl, rfl, rfl, rfl, rfl, ?_, rfl, rfl, rfl, trivial⟩ ?_
  · show C.v (V.int .i64 (IntKind.i64.wrap (((encIt A).length : Nat) - 1))) = _
    rw [hAe, hwz]
  rintro k hk
  refine ev_sound tabOk mixed _ _ _ _ ?_
  conv => whnf
  refine ⟨fun h => ?_, fun h => ?_⟩
  · have h := of_decide_eq_true h
    have hlt : k < A.length := by omega
    have hk2 : (((A.length : Int) - 1 - k)).toNat = A.length - 1 - k := by omega
    have hg : (encIt A)[A.length - 1 - k]? = _ := encIt_get (show A.length - 1 - k < A.length by omega)
    have hnx := goneK_next (B := B) hlt
    have hEl := goneK_len A B k
    have wk : IntKind.i64.wrap ((A.length : Int) - 1 - k - 1) = ((A.length : Int) - 1 - (k + 1 : Nat)) := by rw [w64 (by omega) (by omega)]; omega
    generalize hE : goneK A B k = E at *
    generalize hE' : goneK A B (k + 1) = E' at *
    have hEe := encE_len E
    have hsm := hsB A[A.length - 1 - k]
    generalize A[A.length - 1 - k] = it at *
    cases hs : Gw.Diff.sameAt B it with
    | true =>
      rw [hs] at hsm hnx
      conv => whnf
      refine ⟨_, ⟨by omega, by rw [hk2]; exact hg⟩, ?_⟩
      conv => whnf
      refine AC.of_pc hsm rfl ?_
      conv => whnf
      repeat (first | refine ⟨fun _ => ?_, fun h => absurd h (by decide)⟩ | refine ⟨fun h => absurd h (by decide), fun _ => ?_⟩ | refine ⟨fun _ => ?_, fun h => absurd (show true = false from h) (by decide)⟩ | refine ⟨fun h => absurd (show false = true from h) (by decide), fun _ => ?_⟩
              (conv => whnf))
      refine ⟨k + 1, hlt, by show A.length - (k + 1) < A.length - k; omega, rfl, rfl, rfl, rfl, ?_, rfl, ?_, rfl, ?_, rfl, trivial⟩
      · rw [hE', hnx]; rfl
      · show C.v (V.int .i64 (IntKind.i64.wrap ((A.length : Int) - 1 - k - 1))) = _
        rw [wk]
      · rw [hE', hnx]; rfl
    | false =>
      rw [hs] at hsm hnx
      simp only [Bool.false_eq_true, if_false] at hnx
      conv => whnf
      refine ⟨_, ⟨by omega, by rw [hk2]; exact hg⟩, ?_⟩
      conv => whnf
      refine AC.of_pc hsm rfl ?_
      conv => whnf
      repeat (first | refine ⟨fun _ => ?_, fun h => absurd h (by decide)⟩ | refine ⟨fun h => absurd h (by decide), fun _ => ?_⟩ | refine ⟨fun _ => ?_, fun h => absurd (show true = false from h) (by decide)⟩ | refine ⟨fun h => absurd (show false = true from h) (by decide), fun _ => ?_⟩
              (conv => whnf))
      refine ⟨_, ⟨by omega, by rw [hk2]; exact hg⟩, ?_⟩
      conv => whnf
      refine ⟨⟨hEe.symm, fits_small (by show (encE E).length + 1 ≤ _; omega) (by decide)⟩, ?_⟩
      conv => whnf
      refine ⟨k + 1, hlt, by show A.length - (k + 1) < A.length - k; omega, rfl, rfl, rfl, rfl, ?_, rfl, ?_, rfl, ?_, rfl, trivial⟩
      · rw [hE', hnx]
        exact snocE _ E ⟨1, it.path⟩
      · show C.v (V.int .i64 (IntKind.i64.wrap ((A.length : Int) - 1 - k - 1))) = _
        rw [wk]
      · rw [hE', hnx]
        exact row_snocE _ E ⟨1, it.path⟩
  have h := of_decide_eq_false h
  obtain rfl : k = A.length := by omega
  have hgone : goneK A B A.length = Gw.Diff.gone A B := by
    unfold goneK Gw.Diff.gone
    rw [List.take_of_length_le (by rw [List.length_reverse]; exact Nat.le_refl _)]
  rw [hgone]
  have hE1l := goneK_len A B A.length
  rw [hgone] at hE1l
  generalize hE1 : Gw.Diff.gone A B = E1 at *
  conv => whnf
  refine AW.loop (fun k : Nat => [(.tmp 7, .v (.lst qa 3 (encIt A) .none)), (.tmp 8, .v (.lst qb 3 (encIt B) .none)), (.tmp 9, .v (.lst (decide (E1 ++ cameK A B k = [])) 2 (encE (E1 ++ cameK A B k)) (.brow 12))), (.tmp 12, .v (.int .i64 k)), (.row 12, .row 43 2 (E1 ++ cameK A B k).length)]) 13
    (fun k => k ≤ B.length) (fun k => B.length - k) (by decide) 0 (Nat.zero_le _) ⟨rfl, rfl, rfl, rfl, ?_, rfl, rfl, rfl, ?_, rfl, trivial⟩ ?_
  · rw [show cameK A B 0 = [] from rfl, List.append_nil]; rfl
  · rw [show cameK A B 0 = [] from rfl, List.append_nil]; rfl
  rintro k hk
  refine ev_sound tabOk mixed _ _ _ _ ?_
  conv => whnf
  refine ⟨fun h => ?_, fun h => ?_⟩
  · have h := of_decide_eq_true h
    rw [hBe] at h
    have hlt : k < B.length := by omega
    have hg := encIt_get hlt
    have hnx := cameK_next (A := A) hlt
    have hEl := cameK_len A B k
    have w1 : IntKind.i64.wrap ((k : Int) + 1) = ((k + 1 : Nat) : Int) := by rw [w64 (by omega) (by omega)]; rfl
    generalize hE : cameK A B k = E at *
    generalize hE' : cameK A B (k + 1) = E' at *
    have hEe := encE_len (E1 ++ E)
    have hEb : (E1 ++ E).length ≤ 2000 := by rw [List.length_append]; omega
    have hsm := hsA B[k]
    generalize B[k] = it at *
    cases hs : Gw.Diff.sameAt A it with
    | true =>
      rw [hs] at hsm hnx
      conv => whnf
      refine ⟨_, ⟨by omega, hg⟩, ?_⟩
      conv => whnf
      refine AC.of_pc hsm rfl ?_
      conv => whnf
      repeat (first | refine ⟨fun _ => ?_, fun h => absurd h (by decide)⟩ | refine ⟨fun h => absurd h (by decide), fun _ => ?_⟩ | refine ⟨fun _ => ?_, fun h => absurd (show true = false from h) (by decide)⟩ | refine ⟨fun h => absurd (show false = true from h) (by decide), fun _ => ?_⟩
              (conv => whnf))
      refine ⟨k + 1, hlt, by show B.length - (k + 1) < B.length - k; omega, rfl, rfl, rfl, rfl, ?_, rfl, ?_, rfl, ?_, rfl, trivial⟩
      · rw [hE', hnx]; rfl
      · show C.v (V.int .i64 (IntKind.i64.wrap ((k : Int) + 1))) = _
        rw [w1]
      · rw [hE', hnx]; rfl
    | false =>
      rw [hs] at hsm hnx
      simp only [Bool.false_eq_true, if_false] at hnx
      conv => whnf
      refine ⟨_, ⟨by omega, hg⟩, ?_⟩
      conv => whnf
      refine AC.of_pc hsm rfl ?_
      conv => whnf
      repeat (first | refine ⟨fun _ => ?_, fun h => absurd h (by decide)⟩ | refine ⟨fun h => absurd h (by decide), fun _ => ?_⟩ | refine ⟨fun _ => ?_, fun h => absurd (show true = false from h) (by decide)⟩ | refine ⟨fun h => absurd (show false = true from h) (by decide), fun _ => ?_⟩
              (conv => whnf))
      refine ⟨_, ⟨by omega, hg⟩, ?_⟩
      conv => whnf
      refine ⟨⟨hEe.symm, fits_small (by show (encE (E1 ++ E)).length + 1 ≤ _; omega) (by decide)⟩, ?_⟩
      conv => whnf
      refine ⟨k + 1, hlt, by show B.length - (k + 1) < B.length - k; omega, rfl, rfl, rfl, rfl, ?_, rfl, ?_, rfl, ?_, rfl, trivial⟩
      · rw [hE', hnx, ← List.append_assoc]
        exact snocE _ (E1 ++ E) ⟨2, it.path⟩
      · show C.v (V.int .i64 (IntKind.i64.wrap ((k : Int) + 1))) = _
        rw [w1]
      · rw [hE', hnx, ← List.append_assoc]
        exact row_snocE _ (E1 ++ E) ⟨2, it.path⟩
  have h := of_decide_eq_false h
  rw [hBe] at h
  obtain rfl : k = B.length := by omega
  have hcame : cameK A B B.length = Gw.Diff.came A B := by unfold cameK Gw.Diff.came; rw [List.take_length]
  rw [hcame]
  have hcl : (E1 ++ Gw.Diff.came A B).length ≤ 2000 := by
    rw [List.length_append, ← hcame]
    have := cameK_len A B B.length
    omega
  unfold Gw.Diff.ofI
  rw [hE1]
  generalize E1 ++ Gw.Diff.came A B = E2 at *
  conv => whnf
  refine AW.loop (fun k : Nat => [(.tmp 7, .v (.lst qa 3 (encIt A) .none)), (.tmp 8, .v (.lst qb 3 (encIt B) .none)), (.tmp 9, .v (.lst (decide (E2 ++ wroteK A B k = [])) 2 (encE (E2 ++ wroteK A B k)) (.brow 12))), (.tmp 14, .v (.int .i64 k)), (.row 12, .row 43 2 (E2 ++ wroteK A B k).length)]) 13
    (fun k => k ≤ B.length) (fun k => B.length - k) (by decide) 0 (Nat.zero_le _) ⟨rfl, rfl, rfl, rfl, ?_, rfl, rfl, rfl, ?_, rfl, trivial⟩ ?_
  · rw [show wroteK A B 0 = [] from rfl, List.append_nil]; rfl
  · rw [show wroteK A B 0 = [] from rfl, List.append_nil]; rfl
  rintro k hk
  refine ev_sound tabOk mixed _ _ _ _ ?_
  conv => whnf
  refine ⟨fun h => ?_, fun h => ?_⟩
  · have h := of_decide_eq_true h
    rw [hBe] at h
    have hlt : k < B.length := by omega
    have hg := encIt_get hlt
    have hnx := wroteK_next (A := A) hlt
    have hEl := wroteK_len A B k
    have w1 : IntKind.i64.wrap ((k : Int) + 1) = ((k + 1 : Nat) : Int) := by rw [w64 (by omega) (by omega)]; rfl
    generalize hE : wroteK A B k = E at *
    generalize hE' : wroteK A B (k + 1) = E' at *
    have hEe := encE_len (E2 ++ E)
    have hEb : (E2 ++ E).length ≤ 3000 := by rw [List.length_append]; omega
    have hsm := hsA B[k]
    have hfm := hfA B[k].path
    rw [Gw.Diff.first_last hua] at hfm
    unfold Gw.Diff.wroteAt at hnx
    unfold Gw.Diff.sameAt at hsm
    generalize B[k] = it at *
    have wrap_up : True := trivial
    cases hlk : Gw.Diff.lastAt A it.path with
    | none =>
      rw [hlk] at hnx hsm hfm
      simp only [Bool.false_eq_true, if_false] at hnx
      simp only at hsm
      conv => whnf
      refine ⟨_, ⟨by omega, hg⟩, ?_⟩
      conv => whnf
      refine AC.of_pc hsm rfl ?_
      conv => whnf
      refine ⟨_, ⟨by omega, hg⟩, ?_⟩
      conv => whnf
      refine AC.of_pc hfm rfl ?_
      conv => whnf
      repeat (first | refine ⟨fun _ => ?_, fun h => absurd h (by decide)⟩ | refine ⟨fun h => absurd h (by decide), fun _ => ?_⟩ | refine ⟨fun _ => ?_, fun h => absurd (show true = false from h) (by decide)⟩ | refine ⟨fun h => absurd (show false = true from h) (by decide), fun _ => ?_⟩
              (conv => whnf))
      refine ⟨by kernel_rfl, ?_⟩
      conv => whnf
      refine ⟨k + 1, hlt, by show B.length - (k + 1) < B.length - k; omega, rfl, rfl, rfl, rfl, ?_, rfl, ?_, rfl, ?_, rfl, trivial⟩
      · rw [hE', hnx]; rfl
      · show C.v (V.int .i64 (IntKind.i64.wrap ((k : Int) + 1))) = _
        rw [w1]
      · rw [hE', hnx]; rfl
    | some x =>
      rw [hlk] at hnx hsm hfm
      simp only at hsm hnx
      by_cases hid : x.id = it.id
      · simp only [decide_eq_true hid, Bool.true_and] at hnx
        rw [decide_eq_true hid] at hsm
        conv => whnf
        refine ⟨_, ⟨by omega, hg⟩, ?_⟩
        conv => whnf
        refine AC.of_pc hsm rfl ?_
        conv => whnf
        refine ⟨_, ⟨by omega, hg⟩, ?_⟩
        conv => whnf
        refine AC.of_pc hfm rfl ?_
        conv => whnf
        repeat (first | refine ⟨fun _ => ?_, fun h => absurd h (by decide)⟩ | refine ⟨fun h => absurd h (by decide), fun _ => ?_⟩ | refine ⟨fun _ => ?_, fun h => absurd (show true = false from h) (by decide)⟩ | refine ⟨fun h => absurd (show false = true from h) (by decide), fun _ => ?_⟩
                (conv => whnf))
        refine ⟨_, ⟨by omega, hg⟩, ?_⟩
        conv => whnf
        refine ⟨by kernel_rfl, ?_⟩
        conv => whnf
        refine ⟨fun h => ?_, fun h => ?_⟩
        · have h : x.data ≠ it.data := by simpa using h
          simp only [decide_eq_false h, Bool.not_false, if_true] at hnx
          conv => whnf
          refine ⟨_, ⟨by omega, hg⟩, ?_⟩
          conv => whnf
          refine ⟨⟨hEe.symm, fits_small (by show (encE (E2 ++ E)).length + 1 ≤ _; omega) (by decide)⟩, ?_⟩
          conv => whnf
          refine ⟨k + 1, hlt, by show B.length - (k + 1) < B.length - k; omega, rfl, rfl, rfl, rfl, ?_, rfl, ?_, rfl, ?_, rfl, trivial⟩
          · rw [hE', hnx, ← List.append_assoc]
            exact snocE _ (E2 ++ E) ⟨3, it.path⟩
          · show C.v (V.int .i64 (IntKind.i64.wrap ((k : Int) + 1))) = _
            rw [w1]
          · rw [hE', hnx, ← List.append_assoc]
            exact row_snocE _ (E2 ++ E) ⟨3, it.path⟩
        · have h : x.data = it.data := by simpa using h
          simp only [decide_eq_true h, Bool.not_true, Bool.false_eq_true, if_false] at hnx
          conv => whnf
          refine ⟨k + 1, hlt, by show B.length - (k + 1) < B.length - k; omega, rfl, rfl, rfl, rfl, ?_, rfl, ?_, rfl, ?_, rfl, trivial⟩
          · rw [hE', hnx]; rfl
          · show C.v (V.int .i64 (IntKind.i64.wrap ((k : Int) + 1))) = _
            rw [w1]
          · rw [hE', hnx]; rfl
      · simp only [decide_eq_false hid, Bool.false_and, Bool.false_eq_true, if_false] at hnx
        rw [decide_eq_false hid] at hsm
        conv => whnf
        refine ⟨_, ⟨by omega, hg⟩, ?_⟩
        conv => whnf
        refine AC.of_pc hsm rfl ?_
        conv => whnf
        refine ⟨_, ⟨by omega, hg⟩, ?_⟩
        conv => whnf
        refine AC.of_pc hfm rfl ?_
        conv => whnf
        repeat (first | refine ⟨fun _ => ?_, fun h => absurd h (by decide)⟩ | refine ⟨fun h => absurd h (by decide), fun _ => ?_⟩ | refine ⟨fun _ => ?_, fun h => absurd (show true = false from h) (by decide)⟩ | refine ⟨fun h => absurd (show false = true from h) (by decide), fun _ => ?_⟩
                (conv => whnf))
        refine ⟨by kernel_rfl, ?_⟩
        conv => whnf
        refine ⟨k + 1, hlt, by show B.length - (k + 1) < B.length - k; omega, rfl, rfl, rfl, rfl, ?_, rfl, ?_, rfl, ?_, rfl, trivial⟩
        · rw [hE', hnx]; rfl
        · show C.v (V.int .i64 (IntKind.i64.wrap ((k : Int) + 1))) = _
          rw [w1]
        · rw [hE', hnx]; rfl
  have h := of_decide_eq_false h
  rw [hBe] at h
  obtain rfl : k = B.length := by omega
  have hwr : wroteK A B B.length = Gw.Diff.wrote A B := by unfold wroteK Gw.Diff.wrote; rw [List.take_length]
  rw [hwr]
  generalize E2 ++ Gw.Diff.wrote A B = E3 at *
  conv => whnf
  exact SubV.refl _
theorem fold_len (l x : List (List UInt8)) : (l.foldl Gw.Diff.withB x).length ≤ x.length + l.length := by
  induction l generalizing x with
  | nil => exact Nat.le_refl _
  | cons a l ih =>
    have h1 := ih (Gw.Diff.withB x a)
    have h2 := Gw.Diff.with_len x a
    rw [List.foldl_cons, List.length_cons]
    omega
theorem rstep_len (x : List (List UInt8)) (e : Gw.Diff.Event) : (Gw.Diff.rstep x e).length ≤ x.length + 1 := by
  have h1 : (Gw.Diff.withoutB x e.path).length ≤ x.length := List.length_filter_le _ _
  unfold Gw.Diff.rstep
  by_cases q : e.kind = 1
  · simp only [q, if_true]
    rw [if_neg (by decide)]
    omega
  · simp only [q, if_false]
    split
    · exact Gw.Diff.with_len x e.path
    · omega
theorem rfold_len (l : List Gw.Diff.Event) (x : List (List UInt8)) : (l.foldl Gw.Diff.rstep x).length ≤ x.length + l.length := by
  induction l generalizing x with
  | nil => exact Nat.le_refl _
  | cons a l ih =>
    have h1 := ih (Gw.Diff.rstep x a)
    have h2 := rstep_len x a
    rw [List.foldl_cons, List.length_cons]
    omega
def flagP (x : Bool × List (List UInt8)) (e : Gw.Diff.Event) : Bool × List (List UInt8) := ((if e.kind = 1 then decide (Gw.Diff.withoutB x.2 e.path = []) else if e.kind = 2 then false else x.1), Gw.Diff.rstep x.2 e)
theorem flag_fold (e : List Gw.Diff.Event) (x : Bool × List (List UInt8)) : (e.foldl flagP x).2 = e.foldl Gw.Diff.rstep x.2 := by
  induction e generalizing x with
  | nil => rfl
  | cons a e ih => rw [List.foldl_cons, List.foldl_cons, ih]; rfl
theorem rplay_pc (n1 n2 : Bool) (l : List (List UInt8)) (e : List Gw.Diff.Event) (hl : l.length ≤ 100) (he : e.length ≤ 100) :
    ∃ q, PC Tryz.prog 19 [.lst n1 1 (encS1 l) .none, .lst n2 2 (encE e) .none] (.lst q 1 (encS1 (Gw.Diff.play l e)) .none) := by
  rw [← Gw.Diff.rplay_eq]
  have hel := encS1_len l
  have hee := encE_len e
  have hL0 := fold_len l []
  refine ⟨(e.foldl flagP (decide (l.length = 0), l.foldl Gw.Diff.withB [])).1, ?_⟩
  have hrp : Gw.Diff.rplay l e = (e.foldl flagP (decide (l.length = 0), l.foldl Gw.Diff.withB [])).2 := (flag_fold e (decide (l.length = 0), l.foldl Gw.Diff.withB [])).symm
  rw [hrp]
  refine PC.ofS tabOk mixed (fn := Tryz.f19) (by kernel_rfl) rfl (by kernel_rfl) rfl rfl ?_
  conv => whnf
  refine AW.nilSlot 5 1 rfl ?_
  refine AW.loop (fun k : Nat => [(.tmp 0, .v (.lst n1 1 (encS1 l) .none)), (.tmp 1, .v (.lst n2 2 (encE e) .none)), (.tmp 6, .v (.int .i64 k)), (.tmp 5, .v (.lst (decide (k = 0)) 1 (encS1 ((l.take k).foldl Gw.Diff.withB [])) .none))]) 0
    (fun k => k ≤ l.length) (fun k => l.length - k) (by decide) 0 (Nat.zero_le _) ⟨rfl, rfl, rfl, rfl, rfl, rfl, rfl, rfl, trivial⟩ ?_
  rintro k hk
  refine ev_sound tabOk mixed _ _ _ _ ?_
  conv => whnf
  refine ⟨fun h => ?_, fun h => ?_⟩
  · have h := of_decide_eq_true h
    rw [hel] at h
    have hlt : k < l.length := by omega
    have hg := encS1_get hlt
    have hst : (l.take (k + 1)).foldl Gw.Diff.withB [] = Gw.Diff.withB ((l.take k).foldl Gw.Diff.withB []) l[k] := by
      rw [List.take_succ_eq_append_getElem hlt, List.foldl_append]
      rfl
    have hwl := fold_len (l.take k) []
    rw [List.length_take, List.length_nil] at hwl
    generalize hW : (l.take k).foldl Gw.Diff.withB [] = W at *
    generalize hW' : (l.take (k + 1)).foldl Gw.Diff.withB [] = W' at *
    have hwp := with_pc (decide (k = 0)) W l[k] (by omega)
    conv => whnf
    refine ⟨_, ⟨by omega, hg⟩, ?_⟩
    conv => whnf
    refine AC.of_pc hwp rfl ?_
    conv => whnf
    refine ⟨k + 1, by omega, by show l.length - (k + 1) < l.length - k; omega, rfl, rfl, rfl, rfl, ?_, rfl, ?_, rfl, trivial⟩
    · show C.v (V.int .i64 (IntKind.i64.wrap ((k : Int) + 1))) = _
      rw [w64 (by omega) (by omega)]; rfl
    · rw [hW', hst]; rfl
  have h := of_decide_eq_false h
  rw [hel] at h
  obtain rfl : k = l.length := by omega
  rw [List.take_length]
  generalize decide (l.length = 0) = q0
  rw [List.length_nil] at hL0
  generalize l.foldl Gw.Diff.withB [] = L0 at *
  conv => whnf
  refine AW.loop (fun k : Nat => [(.tmp 1, .v (.lst n2 2 (encE e) .none)), (.tmp 7, .v (.int .i64 k)), (.tmp 5, .v (.lst ((e.take k).foldl flagP (q0, L0)).1 1 (encS1 ((e.take k).foldl flagP (q0, L0)).2) .none))]) 0
    (fun k => k ≤ e.length) (fun k => e.length - k) (by decide) 0 (Nat.zero_le _) ⟨rfl, rfl, rfl, rfl, rfl, rfl, trivial⟩ ?_
  rintro k hk
  refine ev_sound tabOk mixed _ _ _ _ ?_
  conv => whnf
  refine ⟨fun h => ?_, fun h => ?_⟩
  · have h := of_decide_eq_true h
    rw [hee] at h
    have hlt : k < e.length := by omega
    have hg := encE_get hlt
    have hst : (e.take (k + 1)).foldl flagP (q0, L0) = flagP ((e.take k).foldl flagP (q0, L0)) e[k] := by
      rw [List.take_succ_eq_append_getElem hlt, List.foldl_append]
      rfl
    have hwl : ((e.take k).foldl flagP (q0, L0)).2.length ≤ 200 := by
      rw [flag_fold]
      have := rfold_len (e.take k) L0
      rw [List.length_take] at this
      show (List.foldl Gw.Diff.rstep L0 (List.take k e)).length ≤ 200
      omega
    have w1 : IntKind.i64.wrap ((k : Int) + 1) = ((k + 1 : Nat) : Int) := by rw [w64 (by omega) (by omega)]; rfl
    generalize hW : (e.take k).foldl flagP (q0, L0) = W at *
    generalize hW' : (e.take (k + 1)).foldl flagP (q0, L0) = W' at *
    obtain ⟨qw, W⟩ := W
    have hwl : W.length ≤ 200 := hwl
    have hwp := with_pc qw W e[k].path (by omega)
    have hwo := without_pc qw W e[k].path (by omega)
    unfold flagP Gw.Diff.rstep at hst
    generalize e[k] = ev at *
    conv => whnf
    refine ⟨_, ⟨by omega, hg⟩, ?_⟩
    conv => whnf
    refine ⟨fun h1 => ?_, fun h1 => ?_⟩
    · have h1 : ev.kind = 1 := by simpa using h1
      simp only [h1, if_true] at hst
      rw [if_neg (by decide)] at hst
      conv => whnf
      refine ⟨_, ⟨by omega, hg⟩, ?_⟩
      conv => whnf
      refine AC.of_pc hwo rfl ?_
      conv => whnf
      refine ⟨_, ⟨by omega, hg⟩, ?_⟩
      conv => whnf
      refine ⟨fun h2 => absurd (show ev.kind = 2 by simpa using h2) (by rw [h1]; decide), fun _ => ?_⟩
      conv => whnf
      refine ⟨k + 1, by omega, by show e.length - (k + 1) < e.length - k; omega, rfl, rfl, ?_, rfl, ?_, rfl, trivial⟩
      · show C.v (V.int .i64 (IntKind.i64.wrap ((k : Int) + 1))) = _
        rw [w1]
      · rw [hW', hst]; rfl
    · have h1 : ev.kind ≠ 1 := by simpa using h1
      simp only [h1, if_false] at hst
      conv => whnf
      refine ⟨_, ⟨by omega, hg⟩, ?_⟩
      conv => whnf
      refine ⟨fun h2 => ?_, fun h2 => ?_⟩
      · have h2 : ev.kind = 2 := by simpa using h2
        simp only [h2, if_true] at hst
        conv => whnf
        refine ⟨_, ⟨by omega, hg⟩, ?_⟩
        conv => whnf
        refine AC.of_pc hwp rfl ?_
        conv => whnf
        refine ⟨k + 1, by omega, by show e.length - (k + 1) < e.length - k; omega, rfl, rfl, ?_, rfl, ?_, rfl, trivial⟩
        · show C.v (V.int .i64 (IntKind.i64.wrap ((k : Int) + 1))) = _
          rw [w1]
        · rw [hW', hst]; rfl
      · have h2 : ev.kind ≠ 2 := by simpa using h2
        simp only [h2, if_false] at hst
        conv => whnf
        refine ⟨k + 1, by omega, by show e.length - (k + 1) < e.length - k; omega, rfl, rfl, ?_, rfl, ?_, rfl, trivial⟩
        · show C.v (V.int .i64 (IntKind.i64.wrap ((k : Int) + 1))) = _
          rw [w1]
        · rw [hW', hst]; rfl
  · have h := of_decide_eq_false h
    rw [hee] at h
    obtain rfl : k = e.length := by omega
    rw [List.take_length]
    generalize e.foldl flagP (q0, L0) = W
    conv => whnf
    exact SubV.refl _
end Go.Proofs.YtipgfdepopfghaaGreat
