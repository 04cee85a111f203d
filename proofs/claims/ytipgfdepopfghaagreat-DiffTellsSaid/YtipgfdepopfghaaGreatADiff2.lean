/- What has changed below a directory: told without addresses. No claim of its own. -/
import Derived.Test.YtipgfdepopfghaaGreatADiff1
import Derived.Test.YtipgfdepopfghaaGreatAItemsS
namespace Go.Proofs.YtipgfdepopfghaaGreat
open Go.Am
open Gw.Mp (M keys)

abbrev cellI : Gw.View.Item → V := fun t => .agg (cellsI t)
theorem box_snocE (T : TypeId) (r : Nat) (A : List Gw.Diff.Event) (t : Gw.Diff.Event) : C.box T [V.lst (decide (A = []) && false) 2 (encE A ++ [cellsE t]) (.brow r)] = C.box T [V.lst (decide (A ++ [t] = [])) 2 (encE (A ++ [t])) (.brow r)] := by
  rw [Bool.and_false, decide_eq_false (by simp)]
  unfold encE
  rw [List.map_append]
  rfl
theorem row_snocE (T : TypeId) (A : List Gw.Diff.Event) (t : Gw.Diff.Event) : C.row T 2 ((encE A).length + 1) = C.row T 2 (A ++ [t]).length := by
  rw [encE_len, List.length_append]
  rfl
/-- What stands while what has changed is put together. -/
abbrev heldD (qa qb : Bool) (A B : List Gw.View.Item) (E : List Gw.Diff.Event) (S : Nat × M Gw.View.Item) : List (Am.Loc × C) :=
  [(.tmp 7, .v (.lst qa 3 (encIt A) .none)), (.tmp 8, .v (.lst qb 3 (encIt B) .none)), (.tmp 9, .v (.ptr 7 0)), (.tmp 10, .v (.ptr 10 0)), (.tmp 11, .v (.ptr 13 0)),
    (.blk 7, .box 24 [.lst (decide (E = [])) 2 (encE E) (.brow 8)]), (.row 8, .row 43 2 E.length), (.blk 10, .box 65 [.func 31 [] [.ptr 7 0]]),
    (.blk 12, .obj (.mp S.1 (encMp cellI S.2))), (.blk 13, .box 66 [.mp 12])]
/-- What is gone among the last so many. -/
def goneK (A B : List Gw.View.Item) (k : Nat) : List Gw.Diff.Event := ((A.reverse.take k).filter fun t => !Gw.Diff.sameAt B t).map fun t => ⟨1, t.path⟩
theorem goneK_next {A B : List Gw.View.Item} {k : Nat} (h : k < A.length) : goneK A B (k + 1) = if Gw.Diff.sameAt B A[A.length - 1 - k] = true then goneK A B k else goneK A B k ++ [⟨1, A[A.length - 1 - k].path⟩] := by
  unfold goneK
  rw [List.take_succ_eq_append_getElem (by rw [List.length_reverse]; exact h), List.filter_append, List.map_append, List.getElem_reverse]
  cases hw : Gw.Diff.sameAt B A[A.length - 1 - k] <;> simp [hw]
theorem goneK_len (A B : List Gw.View.Item) (k : Nat) : (goneK A B k).length ≤ A.length := by
  unfold goneK
  rw [List.length_map]
  have := List.length_filter_le (fun t => !Gw.Diff.sameAt B t) (A.reverse.take k)
  rw [List.length_take, List.length_reverse] at this
  omega
/-- What came among the first so many; what was written among them. -/
def cameK (A B : List Gw.View.Item) (k : Nat) : List Gw.Diff.Event := ((B.take k).filter fun t => !Gw.Diff.sameAt A t).map fun t => ⟨2, t.path⟩
theorem cameK_next {A B : List Gw.View.Item} {k : Nat} (h : k < B.length) : cameK A B (k + 1) = if Gw.Diff.sameAt A B[k] = true then cameK A B k else cameK A B k ++ [⟨2, B[k].path⟩] := by
  unfold cameK
  rw [List.take_succ_eq_append_getElem h, List.filter_append, List.map_append]
  cases hw : Gw.Diff.sameAt A B[k] <;> simp [hw]
theorem cameK_len (A B : List Gw.View.Item) (k : Nat) : (cameK A B k).length ≤ B.length := by
  unfold cameK
  rw [List.length_map]
  have := List.length_filter_le (fun t => !Gw.Diff.sameAt A t) (B.take k)
  rw [List.length_take] at this
  omega
def wroteK (A B : List Gw.View.Item) (k : Nat) : List Gw.Diff.Event := ((B.take k).filter fun t => Gw.Diff.wroteAt A t).map fun t => ⟨3, t.path⟩
theorem wroteK_next {A B : List Gw.View.Item} {k : Nat} (h : k < B.length) : wroteK A B (k + 1) = if Gw.Diff.wroteAt A B[k] = true then wroteK A B k ++ [⟨3, B[k].path⟩] else wroteK A B k := by
  unfold wroteK
  rw [List.take_succ_eq_append_getElem h, List.filter_append, List.map_append]
  cases hw : Gw.Diff.wroteAt A B[k] <;> simp [hw]
theorem wroteK_len (A B : List Gw.View.Item) (k : Nat) : (wroteK A B k).length ≤ B.length := by
  unfold wroteK
  rw [List.length_map]
  have := List.length_filter_le (fun t => Gw.Diff.wroteAt A t) (B.take k)
  rw [List.length_take] at this
  omega
theorem diffOf_pc (n1 n2 : Bool) (a b : List Gw.Tree.Node) (dir : Int) (ha : ∀ n ∈ a, I64 n.id) (hb : ∀ n ∈ b, I64 n.id) (hal : a.length ≤ 1000) (hbl : b.length ≤ 1000) (has : ∀ n ∈ a, n.name.length ≤ 1000) (hbs : ∀ n ∈ b, n.name.length ≤ 1000) :
    PC Tryz.prog 15 [.lst n1 8 (encN a) .none, .lst n2 8 (encN b) .none, .int .i64 dir]
      (.lst (decide (Gw.Diff.ofI (Gw.View.items a dir) (Gw.View.items b dir) = [])) 2 (encE (Gw.Diff.ofI (Gw.View.items a dir) (Gw.View.items b dir))) .none) := by
  have hia := vItems_pc n1 a dir ha (by omega) has
  have hib := vItems_pc n2 b dir hb (by omega) hbs
  have hla := items_len a dir
  have hlb := items_len b dir
  generalize Gw.View.items a dir = A at *
  generalize Gw.View.items b dir = B at *
  have hAl : A.length ≤ 1000 := by omega
  have hBl : B.length ≤ 1000 := by omega
  have hAe := encIt_len A
  have hBe := encIt_len B
  refine PC.of_pr (PR.ofA tabOk (fn := Tryz.f15) (by kernel_rfl) rfl (by kernel_rfl) rfl rfl ?_)
  refine AW.seq (ev_sound tabOk mixed _ _ _ _ ?_)
  conv => whnf
  refine AW.seq (ev_sound tabOk mixed _ _ _ _ ?_)
  conv => whnf
  refine AC.of_pc hia rfl ?_
  conv => whnf
  refine AC.of_pc hib rfl ?_
  conv => whnf
  generalize decide (A = []) = qa
  generalize decide (B = []) = qb
  refine AW.seq (ev_sound tabOk mixed _ _ _ _ ?_)
  conv => whnf
  refine AW.rowC 7 43 2 rfl ?_
  refine AW.seq (ev_sound tabOk mixed _ _ _ _ ?_)
  conv => whnf
  refine AW.seq (ev_sound tabOk mixed _ _ _ _ ?_)
  conv => whnf
  refine AM.makeMap rfl ?_
  conv => whnf
  refine AW.seq (ev_sound tabOk mixed _ _ _ _ ?_)
  conv => whnf
  refine AW.loop (fun k : Nat => (.tmp 36, .v (.lst qb 3 (encIt B) .none)) :: (.tmp 37, .v (.int .i64 B.length)) :: (.tmp 38, .v (.int .i64 k)) :: heldD qa qb A B [] (Gw.Diff.byPath 0 (B.take k))) 14
    (fun k => k ≤ B.length) (fun k => B.length - k) (by decide) 0 (Nat.zero_le _) ⟨rfl, rfl, ?_, rfl, rfl, rfl, rfl, rfl, rfl, rfl, rfl, rfl, rfl, rfl, rfl, rfl, rfl, rfl, rfl, rfl, rfl, rfl, rfl, rfl, rfl, rfl, trivial⟩ ?_
  · show C.v (V.int .i64 (encIt B).length) = _
    rw [hBe]
  rintro k hk
  refine ev_sound tabOk mixed _ _ _ _ ?_
  conv => whnf
  refine ⟨fun h => ?_, fun h => ?_⟩
  · have h := of_decide_eq_true h
    have hlt : k < B.length := by omega
    have hg := encIt_get hlt
    have hst : Gw.Diff.byPath 0 (B.take (k + 1)) = Gw.Mp.set (Gw.Diff.byPath 0 (B.take k)) B[k].path B[k] := by rw [List.take_succ_eq_append_getElem hlt, Gw.Diff.byPath_snoc]
    generalize hS : Gw.Diff.byPath 0 (B.take k) = S at *
    generalize hS' : Gw.Diff.byPath 0 (B.take (k + 1)) = S' at *
    conv => whnf
    refine ⟨_, ⟨by omega, hg⟩, ?_⟩
    generalize B[k] = it at *
    conv => whnf
    refine AM.update (kt := 9) (et := 59) (d := .string) (by kernel_rfl) (by kernel_rfl) (.inl rfl) rfl rfl rfl rfl (encMp_kind cellI _) ((Gw.Mp.put it.path it S.2).map (encMp cellI)) (putE_mp cellI _ it _) ?_
    conv => whnf
    refine ⟨k + 1, hlt, by show B.length - (k + 1) < B.length - k; omega, rfl, rfl, rfl, rfl, ?_, rfl, rfl, rfl, rfl, rfl, rfl, rfl, rfl, rfl, rfl, rfl, rfl, rfl, rfl, rfl, rfl, rfl, ?_, rfl, rfl, rfl, trivial⟩
    · show C.v (V.int .i64 (IntKind.i64.wrap ((k : Int) + 1))) = _
      rw [w64 (by omega) (by omega)]; rfl
    · rw [hS', hst]
      exact congrArg C.obj (putR_mp cellI S it.path it)
  have h := of_decide_eq_false h
  obtain rfl : k = B.length := by omega
  rw [List.take_length]
  have hbf := Gw.Diff.byPath_find 0 B
  generalize Gw.Diff.byPath 0 B = S at *
  conv => whnf
  refine AW.seq (ev_sound tabOk mixed _ _ _ _ ?_)
  conv => whnf
  refine AC.of tabOk mixed (fn := Tryz.f32) (by kernel_rfl) rfl (by kernel_rfl) rfl rfl ?_
  conv => whnf
  refine AW.range [(7, .lst qa 3 (encIt A) .none), (8, .lst qb 3 (encIt B) .none), (9, .ptr 7 0), (10, .ptr 10 0), (11, .ptr 13 0)] ⟨rfl, rfl, rfl, rfl, rfl, rfl, rfl, rfl, rfl, rfl, trivial⟩ rfl rfl ?_
  refine AC.of tabOk mixed (fn := Tryz.f60) (by kernel_rfl) rfl (by kernel_rfl) rfl rfl ?_
  conv => whnf
  have hwz : IntKind.i64.wrap ((A.length : Int) - 1) = ((A.length : Int) - 1 - (0 : Nat)) := by rw [w64 (by omega) (by omega)]; omega
  refine AW.loop (fun k : Nat => [(.tmp 0, .v (.yield 20)), (.tmp 1, .v (.ptr 16 0)), (.tmp 3, .v (.int .i64 ((A.length : Int) - 1 - k))),
    (.blk 7, .box 24 [.lst (decide (goneK A B k = [])) 2 (encE (goneK A B k)) (.brow 8)]), (.row 8, .row 43 2 (goneK A B k).length), (.blk 10, .box 65 [.func 31 [] [.ptr 7 0]]),
    (.blk 12, .obj (.mp S.1 (encMp cellI S.2))), (.blk 13, .box 66 [.mp 12]), (.blk 16, .box 39 [.lst qa 3 (encIt A) .none]),
    (.blk 20, .loop .ready none 144 [(7, .lst qa 3 (encIt A) .none), (8, .lst qb 3 (encIt B) .none), (9, .ptr 7 0), (10, .ptr 10 0), (11, .ptr 13 0)] [49, 50] (rangeAt Tryz.f15 0).1 (rangeAt Tryz.f15 0).2)]) 21
    (fun k => k ≤ A.length) (fun k => A.length - k) (by decide) 0 (Nat.zero_le _) ⟨rfl, rfl, rfl, rfl, ?_, rfl, rfl, rfl, rfl, rfl, rfl, rfl, rfl, rfl, rfl, rfl, rfl, rfl, rfl, rfl, trivial⟩ ?_
  · show C.v (V.int .i64 (IntKind.i64.wrap (((encIt A).length : Nat) - 1))) = _
    rw [hAe, hwz]
  rintro k hk
  refine ev_sound tabOk mixed _ _ _ _ ?_
  conv => whnf
  refine ⟨fun h => ?_, fun h => ?_⟩
  · have h := of_decide_eq_true h
    have hlt : k < A.length := by omega
    have hk2 : (((A.length : Int) - 1 - k)).toNat = A.length - 1 - k := by omega
    have hg : (encIt A)[A.length - 1 - k]? = _ := encIt_get (show A.length - 1 - k < A.length by omega)
    have hnx := goneK_next (B := B) hlt
    have hEl := goneK_len A B k
    have wk : IntKind.i64.wrap ((A.length : Int) - 1 - k - 1) = ((A.length : Int) - 1 - (k + 1 : Nat)) := by rw [w64 (by omega) (by omega)]; omega
    generalize hE : goneK A B k = E at *
    generalize hE' : goneK A B (k + 1) = E' at *
    have hEe := encE_len E
    unfold Gw.Diff.sameAt at hnx
    have hbf1 := hbf A[A.length - 1 - k].path
    conv => whnf
    refine ⟨_, ⟨by omega, by rw [hk2]; exact hg⟩, ?_⟩
    generalize A[A.length - 1 - k] = it at *
    conv => whnf
    refine AY.of tabOk mixed rfl rfl rfl (fun lp => ?_)
    conv => whnf
    refine AM.lookup tabOk (kt := 9) (et := 59) (d := .string) (by kernel_rfl) (by kernel_rfl) rfl rfl (by kernel_rfl) rfl rfl (.inl rfl) rfl (encMp_kind cellI _) ((Gw.Mp.find it.path S.2).map cellI) (findE_mp cellI it.path S.2) ?_
    rw [hbf1]
    cases hlk : Gw.Diff.lastAt B it.path with
    | none =>
      rw [hlk] at hnx
      simp only [Bool.false_eq_true, if_false] at hnx
      rw [Option.map_none]
      conv => whnf
      repeat (first | refine ⟨fun _ => ?_, fun h => absurd h (by decide)⟩ | refine ⟨fun h => absurd h (by decide), fun _ => ?_⟩ | refine ⟨fun _ => ?_, fun h => absurd (show true = false from h) (by decide)⟩ | refine ⟨fun h => absurd (show false = true from h) (by decide), fun _ => ?_⟩
              (conv => whnf))
      refine AC.of tabOk mixed (fn := Tryz.f31) (by kernel_rfl) rfl (by kernel_rfl) rfl rfl ?_
      conv => whnf
      refine ⟨⟨hEe.symm, fits_small (by show (encE E).length + 1 ≤ _; omega) (by decide)⟩, ?_⟩
      conv => whnf
      refine ⟨k + 1, hlt, by show A.length - (k + 1) < A.length - k; omega, rfl, rfl, rfl, rfl, ?_, rfl, ?_, rfl, ?_, rfl, rfl, rfl, rfl, rfl, rfl, rfl, rfl, rfl, rfl, rfl, trivial⟩
      · show C.v (V.int .i64 (IntKind.i64.wrap ((A.length : Int) - 1 - k - 1))) = _
        rw [wk]
      · rw [hE', hnx]
        exact box_snocE _ _ E ⟨1, it.path⟩
      · rw [hE', hnx]
        exact row_snocE _ E ⟨1, it.path⟩
    | some x =>
      rw [hlk] at hnx
      rw [Option.map_some]
      conv => whnf
      repeat (first | refine ⟨fun _ => ?_, fun h => absurd h (by decide)⟩ | refine ⟨fun h => absurd h (by decide), fun _ => ?_⟩ | refine ⟨fun _ => ?_, fun h => absurd (show true = false from h) (by decide)⟩ | refine ⟨fun h => absurd (show false = true from h) (by decide), fun _ => ?_⟩
              (conv => whnf))
      refine ⟨fun h => ?_, fun h => ?_⟩
      · have h : x.id ≠ it.id := by simpa using h
        simp only [decide_eq_false h, Bool.false_eq_true, if_false] at hnx
        conv => whnf
        refine AC.of tabOk mixed (fn := Tryz.f31) (by kernel_rfl) rfl (by kernel_rfl) rfl rfl ?_
        conv => whnf
        refine ⟨⟨hEe.symm, fits_small (by show (encE E).length + 1 ≤ _; omega) (by decide)⟩, ?_⟩
        conv => whnf
        refine ⟨k + 1, hlt, by show A.length - (k + 1) < A.length - k; omega, rfl, rfl, rfl, rfl, ?_, rfl, ?_, rfl, ?_, rfl, rfl, rfl, rfl, rfl, rfl, rfl, rfl, rfl, rfl, rfl, trivial⟩
        · show C.v (V.int .i64 (IntKind.i64.wrap ((A.length : Int) - 1 - k - 1))) = _
          rw [wk]
        · rw [hE', hnx]
          exact box_snocE _ _ E ⟨1, it.path⟩
        · rw [hE', hnx]
          exact row_snocE _ E ⟨1, it.path⟩
      · have h : x.id = it.id := by simpa using h
        simp only [decide_eq_true h, if_true] at hnx
        conv => whnf
        refine ⟨k + 1, hlt, by show A.length - (k + 1) < A.length - k; omega, rfl, rfl, rfl, rfl, ?_, rfl, ?_, rfl, ?_, rfl, rfl, rfl, rfl, rfl, rfl, rfl, rfl, rfl, rfl, rfl, trivial⟩
        · show C.v (V.int .i64 (IntKind.i64.wrap ((A.length : Int) - 1 - k - 1))) = _
          rw [wk]
        · rw [hE', hnx]; rfl
        · rw [hE', hnx]; rfl
  have h := of_decide_eq_false h
  obtain rfl : k = A.length := by omega
  have hgone : goneK A B A.length = Gw.Diff.gone A B := by
    unfold goneK Gw.Diff.gone
    rw [List.take_of_length_le (by rw [List.length_reverse]; exact Nat.le_refl _)]
  rw [hgone]
  have hE1l := goneK_len A B A.length
  rw [hgone] at hE1l
  generalize hE1 : Gw.Diff.gone A B = E1 at *
  conv => whnf
  refine AW.seq (ev_sound tabOk mixed _ _ _ _ ?_)
  conv => whnf
  refine AM.clearMap (kt := 9) (et := 59) (by kernel_rfl) rfl rfl rfl rfl rfl rfl ?_
  conv => whnf
  refine AW.seq (ev_sound tabOk mixed _ _ _ _ ?_)
  conv => whnf
  clear hbf
  refine AW.loop (fun k : Nat => (.tmp 72, .v (.lst qa 3 (encIt A) .none)) :: (.tmp 73, .v (.int .i64 A.length)) :: (.tmp 74, .v (.int .i64 k)) :: heldD qa qb A B E1 (Gw.Diff.byPath S.1 (A.take k))) 14
    (fun k => k ≤ A.length) (fun k => A.length - k) (by decide) 0 (Nat.zero_le _) ⟨rfl, rfl, ?_, rfl, rfl, rfl, rfl, rfl, rfl, rfl, rfl, rfl, rfl, rfl, rfl, rfl, rfl, rfl, rfl, rfl, rfl, rfl, rfl, rfl, rfl, rfl, trivial⟩ ?_
  · show C.v (V.int .i64 (encIt A).length) = _
    rw [hAe]
  rintro k hk
  refine ev_sound tabOk mixed _ _ _ _ ?_
  conv => whnf
  refine ⟨fun h => ?_, fun h => ?_⟩
  · have h := of_decide_eq_true h
    have hlt : k < A.length := by omega
    have hg := encIt_get hlt
    have hst : Gw.Diff.byPath S.1 (A.take (k + 1)) = Gw.Mp.set (Gw.Diff.byPath S.1 (A.take k)) A[k].path A[k] := by rw [List.take_succ_eq_append_getElem hlt, Gw.Diff.byPath_snoc]
    generalize hR : Gw.Diff.byPath S.1 (A.take k) = R at *
    generalize hR' : Gw.Diff.byPath S.1 (A.take (k + 1)) = R' at *
    conv => whnf
    refine ⟨_, ⟨by omega, hg⟩, ?_⟩
    generalize A[k] = it at *
    conv => whnf
    refine AM.update (kt := 9) (et := 59) (d := .string) (by kernel_rfl) (by kernel_rfl) (.inl rfl) rfl rfl rfl rfl (encMp_kind cellI _) ((Gw.Mp.put it.path it R.2).map (encMp cellI)) (putE_mp cellI _ it _) ?_
    conv => whnf
    refine ⟨k + 1, hlt, by show A.length - (k + 1) < A.length - k; omega, rfl, rfl, rfl, rfl, ?_, rfl, rfl, rfl, rfl, rfl, rfl, rfl, rfl, rfl, rfl, rfl, rfl, rfl, rfl, rfl, rfl, rfl, ?_, rfl, rfl, rfl, trivial⟩
    · show C.v (V.int .i64 (IntKind.i64.wrap ((k : Int) + 1))) = _
      rw [w64 (by omega) (by omega)]; rfl
    · rw [hR', hst]
      exact congrArg C.obj (putR_mp cellI R it.path it)
  have h := of_decide_eq_false h
  obtain rfl : k = A.length := by omega
  rw [List.take_length]
  have hbf := Gw.Diff.byPath_find S.1 A
  generalize Gw.Diff.byPath S.1 A = R at *
  conv => whnf
  refine AW.seq (ev_sound tabOk mixed _ _ _ _ ?_)
  conv => whnf
  refine AW.loop (fun k : Nat => (.tmp 83, .v (.lst qb 3 (encIt B) .none)) :: (.tmp 84, .v (.int .i64 B.length)) :: (.tmp 85, .v (.int .i64 k)) :: heldD qa qb A B (E1 ++ cameK A B k) R) 14
    (fun k => k ≤ B.length) (fun k => B.length - k) (by decide) 0 (Nat.zero_le _) ⟨rfl, rfl, ?_, rfl, rfl, rfl, rfl, rfl, rfl, rfl, rfl, rfl, rfl, rfl, rfl, rfl, ?_, rfl, ?_, rfl, rfl, rfl, rfl, rfl, rfl, rfl, trivial⟩ ?_
  · show C.v (V.int .i64 (encIt B).length) = _
    rw [hBe]
  · rw [show cameK A B 0 = [] from rfl, List.append_nil]; rfl
  · rw [show cameK A B 0 = [] from rfl, List.append_nil]; rfl
  rintro k hk
  refine ev_sound tabOk mixed _ _ _ _ ?_
  conv => whnf
  refine ⟨fun h => ?_, fun h => ?_⟩
  · have h := of_decide_eq_true h
    have hlt : k < B.length := by omega
    have hg := encIt_get hlt
    have hnx := cameK_next (A := A) hlt
    have hEl := cameK_len A B k
    have w1 : IntKind.i64.wrap ((k : Int) + 1) = ((k + 1 : Nat) : Int) := by rw [w64 (by omega) (by omega)]; rfl
    generalize hE : cameK A B k = E at *
    generalize hE' : cameK A B (k + 1) = E' at *
    have hEe := encE_len (E1 ++ E)
    have hEb : (E1 ++ E).length ≤ 2000 := by rw [List.length_append]; omega
    unfold Gw.Diff.sameAt at hnx
    have hbf1 := hbf B[k].path
    conv => whnf
    refine ⟨_, ⟨by omega, hg⟩, ?_⟩
    generalize B[k] = it at *
    conv => whnf
    refine AM.lookup tabOk (kt := 9) (et := 59) (d := .string) (by kernel_rfl) (by kernel_rfl) rfl rfl (by kernel_rfl) rfl rfl (.inl rfl) rfl (encMp_kind cellI _) ((Gw.Mp.find it.path R.2).map cellI) (findE_mp cellI it.path R.2) ?_
    rw [hbf1]
    cases hlk : Gw.Diff.lastAt A it.path with
    | none =>
      rw [hlk] at hnx
      simp only [Bool.false_eq_true, if_false] at hnx
      rw [Option.map_none]
      conv => whnf
      repeat (first | refine ⟨fun _ => ?_, fun h => absurd h (by decide)⟩ | refine ⟨fun h => absurd h (by decide), fun _ => ?_⟩ | refine ⟨fun _ => ?_, fun h => absurd (show true = false from h) (by decide)⟩ | refine ⟨fun h => absurd (show false = true from h) (by decide), fun _ => ?_⟩
              (conv => whnf))
      refine AC.of tabOk mixed (fn := Tryz.f31) (by kernel_rfl) rfl (by kernel_rfl) rfl rfl ?_
      conv => whnf
      refine ⟨⟨hEe.symm, fits_small (by show (encE (E1 ++ E)).length + 1 ≤ _; omega) (by decide)⟩, ?_⟩
      conv => whnf
      refine ⟨k + 1, hlt, by show B.length - (k + 1) < B.length - k; omega, rfl, rfl, rfl, rfl, ?_, rfl, rfl, rfl, rfl, rfl, rfl, rfl, rfl, rfl, rfl, rfl, ?_, rfl, ?_, rfl, rfl, rfl, rfl, rfl, rfl, rfl, trivial⟩
      · show C.v (V.int .i64 (IntKind.i64.wrap ((k : Int) + 1))) = _
        rw [w1]
      · rw [hE', hnx, ← List.append_assoc]
        exact box_snocE _ _ (E1 ++ E) ⟨2, it.path⟩
      · rw [hE', hnx, ← List.append_assoc]
        exact row_snocE _ (E1 ++ E) ⟨2, it.path⟩
    | some x =>
      rw [hlk] at hnx
      rw [Option.map_some]
      conv => whnf
      repeat (first | refine ⟨fun _ => ?_, fun h => absurd h (by decide)⟩ | refine ⟨fun h => absurd h (by decide), fun _ => ?_⟩ | refine ⟨fun _ => ?_, fun h => absurd (show true = false from h) (by decide)⟩ | refine ⟨fun h => absurd (show false = true from h) (by decide), fun _ => ?_⟩
              (conv => whnf))
      refine ⟨fun h => ?_, fun h => ?_⟩
      · have h : x.id ≠ it.id := by simpa using h
        simp only [decide_eq_false h, Bool.false_eq_true, if_false] at hnx
        conv => whnf
        refine AC.of tabOk mixed (fn := Tryz.f31) (by kernel_rfl) rfl (by kernel_rfl) rfl rfl ?_
        conv => whnf
        refine ⟨⟨hEe.symm, fits_small (by show (encE (E1 ++ E)).length + 1 ≤ _; omega) (by decide)⟩, ?_⟩
        conv => whnf
        refine ⟨k + 1, hlt, by show B.length - (k + 1) < B.length - k; omega, rfl, rfl, rfl, rfl, ?_, rfl, rfl, rfl, rfl, rfl, rfl, rfl, rfl, rfl, rfl, rfl, ?_, rfl, ?_, rfl, rfl, rfl, rfl, rfl, rfl, rfl, trivial⟩
        · show C.v (V.int .i64 (IntKind.i64.wrap ((k : Int) + 1))) = _
          rw [w1]
        · rw [hE', hnx, ← List.append_assoc]
          exact box_snocE _ _ (E1 ++ E) ⟨2, it.path⟩
        · rw [hE', hnx, ← List.append_assoc]
          exact row_snocE _ (E1 ++ E) ⟨2, it.path⟩
      · have h : x.id = it.id := by simpa using h
        simp only [decide_eq_true h, if_true] at hnx
        conv => whnf
        refine ⟨k + 1, hlt, by show B.length - (k + 1) < B.length - k; omega, rfl, rfl, rfl, rfl, ?_, rfl, rfl, rfl, rfl, rfl, rfl, rfl, rfl, rfl, rfl, rfl, ?_, rfl, ?_, rfl, rfl, rfl, rfl, rfl, rfl, rfl, trivial⟩
        · show C.v (V.int .i64 (IntKind.i64.wrap ((k : Int) + 1))) = _
          rw [w1]
        · rw [hE', hnx]; rfl
        · rw [hE', hnx]; rfl
  have h := of_decide_eq_false h
  obtain rfl : k = B.length := by omega
  have hcame : cameK A B B.length = Gw.Diff.came A B := by unfold cameK Gw.Diff.came; rw [List.take_length]
  rw [hcame]
  have hcl : (E1 ++ Gw.Diff.came A B).length ≤ 2000 := by
    rw [List.length_append, ← hcame]
    have := cameK_len A B B.length
    omega
  unfold Gw.Diff.ofI
  rw [hE1]
  generalize E1 ++ Gw.Diff.came A B = E2 at *
  conv => whnf
  refine AW.seq (ev_sound tabOk mixed _ _ _ _ ?_)
  conv => whnf
  refine AW.loop (fun k : Nat => (.tmp 110, .v (.lst qb 3 (encIt B) .none)) :: (.tmp 111, .v (.int .i64 B.length)) :: (.tmp 112, .v (.int .i64 k)) :: heldD qa qb A B (E2 ++ wroteK A B k) R) 14
    (fun k => k ≤ B.length) (fun k => B.length - k) (by decide) 0 (Nat.zero_le _) ⟨rfl, rfl, ?_, rfl, rfl, rfl, rfl, rfl, rfl, rfl, rfl, rfl, rfl, rfl, rfl, rfl, ?_, rfl, ?_, rfl, rfl, rfl, rfl, rfl, rfl, rfl, trivial⟩ ?_
  · show C.v (V.int .i64 (encIt B).length) = _
    rw [hBe]
  · rw [show wroteK A B 0 = [] from rfl, List.append_nil]; rfl
  · rw [show wroteK A B 0 = [] from rfl, List.append_nil]; rfl
  rintro k hk
  refine ev_sound tabOk mixed _ _ _ _ ?_
  conv => whnf
  refine ⟨fun h => ?_, fun h => ?_⟩
  · have h := of_decide_eq_true h
    have hlt : k < B.length := by omega
    have hg := encIt_get hlt
    have hnx := wroteK_next (A := A) hlt
    have hEl := wroteK_len A B k
    have w1 : IntKind.i64.wrap ((k : Int) + 1) = ((k + 1 : Nat) : Int) := by rw [w64 (by omega) (by omega)]; rfl
    generalize hE : wroteK A B k = E at *
    generalize hE' : wroteK A B (k + 1) = E' at *
    have hEe := encE_len (E2 ++ E)
    have hEb : (E2 ++ E).length ≤ 3000 := by rw [List.length_append]; omega
    unfold Gw.Diff.wroteAt at hnx
    have hbf1 := hbf B[k].path
    conv => whnf
    refine ⟨_, ⟨by omega, hg⟩, ?_⟩
    generalize B[k] = it at *
    conv => whnf
    refine AM.lookup tabOk (kt := 9) (et := 59) (d := .string) (by kernel_rfl) (by kernel_rfl) rfl rfl (by kernel_rfl) rfl rfl (.inl rfl) rfl (encMp_kind cellI _) ((Gw.Mp.find it.path R.2).map cellI) (findE_mp cellI it.path R.2) ?_
    rw [hbf1]
    cases hlk : Gw.Diff.lastAt A it.path with
    | none =>
      rw [hlk] at hnx
      simp only [Bool.false_eq_true, if_false] at hnx
      rw [Option.map_none]
      conv => whnf
      repeat (first | refine ⟨fun _ => ?_, fun h => absurd h (by decide)⟩ | refine ⟨fun h => absurd h (by decide), fun _ => ?_⟩ | refine ⟨fun _ => ?_, fun h => absurd (show true = false from h) (by decide)⟩ | refine ⟨fun h => absurd (show false = true from h) (by decide), fun _ => ?_⟩
              (conv => whnf))
      refine ⟨k + 1, hlt, by show B.length - (k + 1) < B.length - k; omega, rfl, rfl, rfl, rfl, ?_, rfl, rfl, rfl, rfl, rfl, rfl, rfl, rfl, rfl, rfl, rfl, ?_, rfl, ?_, rfl, rfl, rfl, rfl, rfl, rfl, rfl, trivial⟩
      · show C.v (V.int .i64 (IntKind.i64.wrap ((k : Int) + 1))) = _
        rw [w1]
      · rw [hE', hnx]; rfl
      · rw [hE', hnx]; rfl
    | some x =>
      rw [hlk] at hnx
      rw [Option.map_some]
      conv => whnf
      repeat (first | refine ⟨fun _ => ?_, fun h => absurd h (by decide)⟩ | refine ⟨fun h => absurd h (by decide), fun _ => ?_⟩ | refine ⟨fun _ => ?_, fun h => absurd (show true = false from h) (by decide)⟩ | refine ⟨fun h => absurd (show false = true from h) (by decide), fun _ => ?_⟩
              (conv => whnf))
      refine ⟨fun h => ?_, fun h => ?_⟩
      · have h : x.id = it.id := by simpa using h
        simp only [decide_eq_true h, Bool.true_and] at hnx
        conv => whnf
        refine ⟨fun h => ?_, fun h => ?_⟩
        · have h : x.data ≠ it.data := by simpa using h
          simp only [decide_eq_false h, Bool.not_false, if_true] at hnx
          conv => whnf
          refine AC.of tabOk mixed (fn := Tryz.f31) (by kernel_rfl) rfl (by kernel_rfl) rfl rfl ?_
          conv => whnf
          refine ⟨⟨hEe.symm, fits_small (by show (encE (E2 ++ E)).length + 1 ≤ _; omega) (by decide)⟩, ?_⟩
          conv => whnf
          refine ⟨k + 1, hlt, by show B.length - (k + 1) < B.length - k; omega, rfl, rfl, rfl, rfl, ?_, rfl, rfl, rfl, rfl, rfl, rfl, rfl, rfl, rfl, rfl, rfl, ?_, rfl, ?_, rfl, rfl, rfl, rfl, rfl, rfl, rfl, trivial⟩
          · show C.v (V.int .i64 (IntKind.i64.wrap ((k : Int) + 1))) = _
            rw [w1]
          · rw [hE', hnx, ← List.append_assoc]
            exact box_snocE _ _ (E2 ++ E) ⟨3, it.path⟩
          · rw [hE', hnx, ← List.append_assoc]
            exact row_snocE _ (E2 ++ E) ⟨3, it.path⟩
        · have h : x.data = it.data := by simpa using h
          simp only [decide_eq_true h, Bool.not_true, Bool.false_eq_true, if_false] at hnx
          conv => whnf
          refine ⟨k + 1, hlt, by show B.length - (k + 1) < B.length - k; omega, rfl, rfl, rfl, rfl, ?_, rfl, rfl, rfl, rfl, rfl, rfl, rfl, rfl, rfl, rfl, rfl, ?_, rfl, ?_, rfl, rfl, rfl, rfl, rfl, rfl, rfl, trivial⟩
          · show C.v (V.int .i64 (IntKind.i64.wrap ((k : Int) + 1))) = _
            rw [w1]
          · rw [hE', hnx]; rfl
          · rw [hE', hnx]; rfl
      · have h : x.id ≠ it.id := by simpa using h
        simp only [decide_eq_false h, Bool.false_and, Bool.false_eq_true, if_false] at hnx
        conv => whnf
        repeat (first | refine ⟨fun _ => ?_, fun h => absurd h (by decide)⟩ | refine ⟨fun h => absurd h (by decide), fun _ => ?_⟩ | refine ⟨fun _ => ?_, fun h => absurd (show true = false from h) (by decide)⟩ | refine ⟨fun h => absurd (show false = true from h) (by decide), fun _ => ?_⟩
                (conv => whnf))
        refine ⟨k + 1, hlt, by show B.length - (k + 1) < B.length - k; omega, rfl, rfl, rfl, rfl, ?_, rfl, rfl, rfl, rfl, rfl, rfl, rfl, rfl, rfl, rfl, rfl, ?_, rfl, ?_, rfl, rfl, rfl, rfl, rfl, rfl, rfl, trivial⟩
        · show C.v (V.int .i64 (IntKind.i64.wrap ((k : Int) + 1))) = _
          rw [w1]
        · rw [hE', hnx]; rfl
        · rw [hE', hnx]; rfl
  have h := of_decide_eq_false h
  obtain rfl : k = B.length := by omega
  have hwr : wroteK A B B.length = Gw.Diff.wrote A B := by unfold wroteK Gw.Diff.wrote; rw [List.take_length]
  rw [hwr]
  generalize E2 ++ Gw.Diff.wrote A B = E3 at *
  conv => whnf
  refine ev_sound tabOk mixed _ _ _ _ ?_
  conv => whnf
  exact ⟨_, SubV.refl _, SubV.refl _⟩
end Go.Proofs.YtipgfdepopfghaaGreat
