/- The loops over functions in a text. No claim of its own. -/
import Derived.Test.YtipgfdepopfghaaGreatAmTab
import Derived.Test.YtipgfdepopfghaaGreatAmB
import Derived.Test.YtipgfdepopfghaaGreatATreeM
import Derived.Test.YtipgfdepopfghaaGreatViewPl
namespace Go.Proofs.YtipgfdepopfghaaGreat
open Go.RowKit Go.Am

/-- The loops over functions of a piece of code: what each assigns, and its body. -/
noncomputable def rangesOf (c : Code) : List (Code × Code) :=
  Code.rec (motive := fun _ => List (Code × Code)) [] (fun _ _ _ => []) (fun _ _ x y => x ++ y) (fun _ _ _ x y => x ++ y) (fun _ _ x => x) (fun _ x => x) (fun _ _ x y _ _ => [(x, y)]) (fun _ => []) (fun _ x => x) (fun _ => []) (fun _ => []) [] (fun _ => []) c
noncomputable def rangeAt (fn : Func) (i : Nat) : Code × Code := match fn.body with
  | some c => match nth (rangesOf c) i with | some x => x | none => (.skip, .skip)
  | none => (.skip, .skip)
/-- Texts, one a cell. -/
def encS1 (l : List (List UInt8)) : List (List V) := l.map fun t => [.str t]
theorem encS1_len (l : List (List UInt8)) : (encS1 l).length = l.length := by simp [encS1]
theorem encS1_get {l : List (List UInt8)} {k : Nat} (h : k < l.length) : (encS1 l)[k]? = some [.str l[k]] := by unfold encS1; rw [List.getElem?_map, List.getElem?_eq_getElem h]; rfl
end Go.Proofs.YtipgfdepopfghaaGreat


namespace Go.Proofs.YtipgfdepopfghaaGreat
open Go.Am

def encM (m : Gw.View.M) : Es := m.map fun e => (e.1, .str e.2.1, .agg (cellsN e.2.2))
theorem findE_enc (k : List UInt8) : ∀ m : Gw.View.M, findE (.str k) (encM m) = (Gw.View.findM k m).map fun n => .agg (cellsN n)
  | [] => rfl
  | e :: m => by
    show (match sameK (.str e.2.1) (.str k) with | true => some _ | false => findE (.str k) (encM m)) = _
    rw [Gw.View.findM, findE_enc k m]
    simp only [sameK]
    by_cases h : e.2.1 = k
    · rw [decide_eq_true h, if_pos h]; rfl
    · rw [decide_eq_false h, if_neg h]
theorem putE_enc (k : List UInt8) (n : Gw.Tree.Node) : ∀ m : Gw.View.M, putE (.str k) (.agg (cellsN n)) (encM m) = (Gw.View.putM k n m).map encM
  | [] => rfl
  | e :: m => by
    show (match sameK (.str e.2.1) (.str k) with | true => some _ | false => match putE (.str k) (.agg (cellsN n)) (encM m) with | some l => some _ | none => none) = _
    rw [Gw.View.putM, putE_enc k n m]
    simp only [sameK]
    by_cases h : e.2.1 = k
    · rw [decide_eq_true h, if_pos h]; rfl
    · rw [decide_eq_false h, if_neg h]
      cases Gw.View.putM k n m <;> rfl
theorem delE_enc (k : List UInt8) : ∀ m : Gw.View.M, delE (.str k) (encM m) = encM (Gw.View.delM k m)
  | [] => rfl
  | e :: m => by
    show (match sameK (.str e.2.1) (.str k) with | true => encM m | false => _ :: delE (.str k) (encM m)) = _
    rw [Gw.View.delM, delE_enc k m]
    simp only [sameK]
    by_cases h : e.2.1 = k
    · rw [decide_eq_true h, if_pos h]
    · rw [decide_eq_false h, if_neg h]; rfl
theorem encM_kind (m : Gw.View.M) : ∀ e ∈ encM m, kindIs .string e.2.1 := fun e h => by
  obtain ⟨x, _, rfl⟩ := List.mem_map.1 h
  rfl
theorem putR_enc (x : Nat × Gw.View.M) (n : Gw.Tree.Node) : putR x.1 (encM x.2) (.str n.name) (.agg (cellsN n)) ((Gw.View.putM n.name n x.2).map encM) = .mp (Gw.View.setM x n).1 (encM (Gw.View.setM x n).2) := by
  unfold Gw.View.setM
  cases Gw.View.putM n.name n x.2 with
  | some m => rfl
  | none =>
    show Ob.mp (x.1 + 1) (encM x.2 ++ [_]) = Ob.mp (x.1 + 1) (encM (x.2 ++ [_]))
    unfold encM
    rw [List.map_append]
    rfl
def idOf (r : Option Gw.Tree.Node) : Int := (r.map (·.id)).getD 0
theorem seen_ac (nil : Bool) (l : List Gw.Tree.Node) (dir : Int) (hl : l.length ≤ 1048576) :
    AC Tryz.prog 48 [.lst nil 8 (encN l) .none, .int .i64 dir] (ofL []) 0
      (givenK 0 fun x es => x = .map (Gw.View.seen l dir).1 (encM (Gw.View.seen l dir).2) ∧ es = []) := by
  have hel := encN_len l
  refine AC.of tabOk mixed (fn := Tryz.f48) (by kernel_rfl) rfl (by kernel_rfl) rfl rfl ?_
  conv => whnf
  refine AM.makeMap rfl ?_
  conv => whnf
  refine AC.of tabOk mixed (fn := Tryz.f70) (by kernel_rfl) rfl (by kernel_rfl) rfl rfl ?_
  conv => whnf
  refine AW.range [(5, .ptr 2 0)] ⟨rfl, rfl, trivial⟩ rfl rfl ?_
  refine AC.of tabOk mixed (fn := Tryz.f101) (by kernel_rfl) rfl (by kernel_rfl) rfl rfl ?_
  conv => whnf
  refine AW.loop (fun k : Nat => [(.tmp 0, .v (.yield 11)), (.tmp 1, .v (.ptr 6 0)), (.tmp 2, .v (.ptr 7 0)), (.tmp 6, .v (.lst nil 8 (encN l) .none)), (.tmp 7, .v (.int .i64 l.length)), (.tmp 8, .v (.int .i64 k)),
    (.blk 1, .obj (.mp (Gw.View.seen (l.take k) dir).1 (encM (Gw.View.seen (l.take k) dir).2))), (.blk 2, .box 84 [.mp 1]), (.blk 6, .box 22 [.lst nil 8 (encN l) .none]), (.blk 7, .box 3 [.int .i64 dir]),
    (.blk 11, .loop .ready none 36 [(5, .ptr 2 0)] [13] (rangeAt Tryz.f48 0).1 (rangeAt Tryz.f48 0).2)]) 12
    (fun k => k ≤ l.length) (fun k => l.length - k) (by decide) 0 (Nat.zero_le _) ⟨rfl, rfl, rfl, rfl, rfl, rfl, rfl, rfl, ?_, rfl, rfl, rfl, rfl, rfl, rfl, rfl, rfl, rfl, rfl, rfl, rfl, rfl, trivial⟩ ?_
  · show C.v (V.int .i64 (encN l).length) = _
    rw [hel]
  rintro k hk
  refine ev_sound tabOk mixed _ _ _ _ ?_
  conv => whnf
  refine ⟨fun h => ?_, fun h => ?_⟩
  · have h := of_decide_eq_true h
    have hlt : k < l.length := by omega
    have hg := encN_get hlt
    have hse : Gw.View.seen (l.take (k + 1)) dir = Gw.View.seenStep dir (Gw.View.seen (l.take k) dir) l[k] := by unfold Gw.View.seen; rw [List.take_succ_eq_append_getElem hlt, List.foldl_append]; rfl
    have w1 : IntKind.i64.wrap ((k : Int) + 1) = ((k + 1 : Nat) : Int) := by rw [w64 (by omega) (by omega)]; rfl
    unfold Gw.View.seenStep Gw.View.inDir at hse
    generalize hS : Gw.View.seen (l.take k) dir = S at *
    generalize hS' : Gw.View.seen (l.take (k + 1)) dir = S' at *
    conv => whnf
    refine ⟨_, ⟨by omega, hg⟩, ?_⟩
    generalize l[k] = nd at *
    have hck := stampCheck_pc nd.moved
    conv => whnf
    refine ⟨fun h => ?_, fun h => ?_⟩
    · have h : nd.parent = dir := by simpa using h
      rw [decide_eq_true h, Bool.true_and] at hse
      conv => whnf
      refine AC.of_pc hck rfl ?_
      conv => whnf
      refine ⟨fun h => ?_, fun h => ?_⟩
      · have h : Gw.Stamp.check nd.moved = true := h
        rw [h, if_pos rfl] at hse
        conv => whnf
        refine AY.of tabOk mixed rfl rfl rfl (fun lp => ?_)
        conv => whnf
        refine AM.lookup tabOk (kt := 9) (et := 53) (d := .string) (by kernel_rfl) (by kernel_rfl) rfl rfl (by kernel_rfl) rfl rfl (.inl rfl) rfl (encM_kind _) ((Gw.View.findM nd.name S.2).map fun n => .agg (cellsN n)) (findE_enc nd.name S.2) ?_
        cases hfm : Gw.View.findM nd.name S.2 with
        | none =>
          have hb : Gw.View.beats nd S.2 = true := by unfold Gw.View.beats; rw [hfm]
          rw [hb, if_pos rfl] at hse
          rw [Option.map_none]
          conv => whnf
          refine AM.update (kt := 9) (et := 53) (d := .string) (by kernel_rfl) (by kernel_rfl) (.inl rfl) rfl rfl rfl rfl (encM_kind _) ((Gw.View.putM nd.name nd S.2).map encM) (putE_enc nd.name nd S.2) ?_
          conv => whnf
          refine ⟨k + 1, by omega, by show l.length - (k + 1) < l.length - k; omega, rfl, rfl, rfl, rfl, rfl, rfl, rfl, rfl, rfl, rfl, ?_, rfl, ?_, rfl, rfl, rfl, rfl, rfl, rfl, rfl, rfl, rfl, trivial⟩
          · show C.v (V.int .i64 (IntKind.i64.wrap ((k : Int) + 1))) = _
            rw [w1]
          · rw [hS', hse]
            exact congrArg C.obj (putR_enc S nd)
        | some old =>
          have hb : Gw.View.beats nd S.2 = !Gw.Stamp.less nd.moved old.moved := by unfold Gw.View.beats; rw [hfm]
          have hls := less_pc nd.moved old.moved
          rw [Option.map_some]
          conv => whnf
          refine AC.of_pc hls rfl ?_
          conv => whnf
          refine ⟨fun h => ?_, fun h => ?_⟩
          · have h : (!Gw.Stamp.less nd.moved old.moved) = true := h
            rw [hb, h, if_pos rfl] at hse
            conv => whnf
            refine AM.update (kt := 9) (et := 53) (d := .string) (by kernel_rfl) (by kernel_rfl) (.inl rfl) rfl rfl rfl rfl (encM_kind _) ((Gw.View.putM nd.name nd S.2).map encM) (putE_enc nd.name nd S.2) ?_
            conv => whnf
            refine ⟨k + 1, by omega, by show l.length - (k + 1) < l.length - k; omega, rfl, rfl, rfl, rfl, rfl, rfl, rfl, rfl, rfl, rfl, ?_, rfl, ?_, rfl, rfl, rfl, rfl, rfl, rfl, rfl, rfl, rfl, trivial⟩
            · show C.v (V.int .i64 (IntKind.i64.wrap ((k : Int) + 1))) = _
              rw [w1]
            · rw [hS', hse]
              exact congrArg C.obj (putR_enc S nd)
          · have h : (!Gw.Stamp.less nd.moved old.moved) = false := h
            rw [hb, h, if_neg (by decide)] at hse
            subst hse
            conv => whnf
            refine ⟨k + 1, by omega, by show l.length - (k + 1) < l.length - k; omega, rfl, rfl, rfl, rfl, rfl, rfl, rfl, rfl, rfl, rfl, ?_, rfl, ?_, rfl, rfl, rfl, rfl, rfl, rfl, rfl, rfl, rfl, trivial⟩
            · show C.v (V.int .i64 (IntKind.i64.wrap ((k : Int) + 1))) = _
              rw [w1]
            · rw [hS']; rfl
      · have h : Gw.Stamp.check nd.moved = false := h
        rw [h, if_neg (by decide)] at hse
        subst hse
        conv => whnf
        refine ⟨k + 1, by omega, by show l.length - (k + 1) < l.length - k; omega, rfl, rfl, rfl, rfl, rfl, rfl, rfl, rfl, rfl, rfl, ?_, rfl, ?_, rfl, rfl, rfl, rfl, rfl, rfl, rfl, rfl, rfl, trivial⟩
        · show C.v (V.int .i64 (IntKind.i64.wrap ((k : Int) + 1))) = _
          rw [w1]
        · rw [hS']; rfl
    · have h : nd.parent ≠ dir := by simpa using h
      rw [decide_eq_false h, Bool.false_and, if_neg (by decide)] at hse
      subst hse
      conv => whnf
      refine ⟨k + 1, by omega, by show l.length - (k + 1) < l.length - k; omega, rfl, rfl, rfl, rfl, rfl, rfl, rfl, rfl, rfl, rfl, ?_, rfl, ?_, rfl, rfl, rfl, rfl, rfl, rfl, rfl, rfl, rfl, trivial⟩
      · show C.v (V.int .i64 (IntKind.i64.wrap ((k : Int) + 1))) = _
        rw [w1]
      · rw [hS']; rfl
  · have h := of_decide_eq_false h
    obtain rfl : k = l.length := by omega
    rw [List.take_length]
    conv => whnf
    exact ⟨_, _, ⟨rfl, rfl⟩, rfl, ⟨1, Nat.zero_le _, rfl, rfl⟩, trivial⟩
end Go.Proofs.YtipgfdepopfghaaGreat
