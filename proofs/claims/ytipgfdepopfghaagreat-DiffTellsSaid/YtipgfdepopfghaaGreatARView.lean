/- What the document's answer sees of nodes: told without addresses. No claim of its own. -/
import Derived.Test.YtipgfdepopfghaaGreatARTree
import Derived.Test.YtipgfdepopfghaaGreatARNameW
import Derived.Test.YtipgfdepopfghaaGreatRViewFn
namespace Go.Proofs.YtipgfdepopfghaaGreat
open Go.Am

theorem rin_pc (n : Gw.Tree.Node) (dir : Int) : PC Tryz.prog 109 [.agg (cellsN n), .int .i64 dir] (.bool (Gw.View.inDir n dir)) := by
  have hck := rstampCheck_pc n.moved
  unfold Gw.View.inDir
  refine PC.of tabOk mixed (fn := Tryz.f109) (by kernel_rfl) rfl (by kernel_rfl) rfl rfl ?_
  conv => whnf
  refine AC.of_pc hck rfl ?_
  cases Gw.Stamp.check n.moved with
  | false =>
    conv => whnf
    repeat (first | refine ⟨fun _ => ?_, fun h => absurd h (by decide)⟩ | refine ⟨fun h => absurd h (by decide), fun _ => ?_⟩ | refine ⟨fun _ => ?_, fun h => absurd (show true = false from h) (by decide)⟩ | refine ⟨fun h => absurd (show false = true from h) (by decide), fun _ => ?_⟩
            (conv => whnf))
    rw [Bool.and_false]
  | true =>
    conv => whnf
    repeat (first | refine ⟨fun _ => ?_, fun h => absurd h (by decide)⟩ | refine ⟨fun h => absurd h (by decide), fun _ => ?_⟩ | refine ⟨fun _ => ?_, fun h => absurd (show true = false from h) (by decide)⟩ | refine ⟨fun h => absurd (show false = true from h) (by decide), fun _ => ?_⟩
            (conv => whnf))
    rw [Bool.and_true]
    rfl
theorem rbehind_pc (a b : Gw.Tree.Node) : PC Tryz.prog 111 [.agg (cellsN a), .agg (cellsN b)] (.bool (Gw.View.behind a b)) := by
  have hls := rless_pc b.moved a.moved
  unfold Gw.View.behind
  refine PC.of tabOk mixed (fn := Tryz.f111) (by kernel_rfl) rfl (by kernel_rfl) rfl rfl ?_
  conv => whnf
  refine AC.of_pc hls rfl ?_
  cases Gw.Stamp.less b.moved a.moved with
  | true =>
    conv => whnf
    repeat (first | refine ⟨fun _ => ?_, fun h => absurd h (by decide)⟩ | refine ⟨fun h => absurd h (by decide), fun _ => ?_⟩ | refine ⟨fun _ => ?_, fun h => absurd (show true = false from h) (by decide)⟩ | refine ⟨fun h => absurd (show false = true from h) (by decide), fun _ => ?_⟩
            (conv => whnf))
    rfl
  | false =>
    conv => whnf
    repeat (first | refine ⟨fun _ => ?_, fun h => absurd h (by decide)⟩ | refine ⟨fun h => absurd h (by decide), fun _ => ?_⟩ | refine ⟨fun _ => ?_, fun h => absurd (show true = false from h) (by decide)⟩ | refine ⟨fun h => absurd (show false = true from h) (by decide), fun _ => ?_⟩
            (conv => whnf))
    refine ⟨by kernel_rfl, ?_⟩
    conv => whnf
    refine ⟨fun h => ?_, fun h => ?_⟩
    · have h : a.moved.c = b.moved.c ∧ a.moved.r = b.moved.r := by simpa using h
      rw [decide_eq_true h]
      conv => whnf
      rfl
    · have h : ¬ (a.moved.c = b.moved.c ∧ a.moved.r = b.moved.r) := by simpa using h
      rw [decide_eq_false h]
      conv => whnf
      rfl
def bestI (b : Option Nat) : Int := b.elim (-1) fun j => (j : Int)
theorem bestI_neg (b : Option Nat) : (bestI b < 0) ↔ b = none := by
  cases b with
  | none => exact ⟨fun _ => rfl, fun _ => by decide⟩
  | some j => exact ⟨fun h => by have h : (j : Int) < 0 := h; omega, fun h => by cases h⟩
theorem rchild_pc (nil : Bool) (l : List Gw.Tree.Node) (dir : Int) (s : List UInt8) (hi : ∀ n ∈ l, I64 n.id) (hl : l.length ≤ 1048576) :
    PC Tryz.prog 82 [.lst nil 8 (encN l) .none, .int .i64 dir, .str s] (.tup [.int .i64 (idOf (Gw.View.child l dir s)), .bool (Gw.View.child l dir s).isSome]) := by
  have hel := encN_len l
  have hck := rtreeCheck_pc nil l hi hl
  unfold Gw.View.child
  refine PC.of tabOk mixed (fn := Tryz.f82) (by kernel_rfl) rfl (by kernel_rfl) rfl rfl ?_
  conv => whnf
  refine AC.of_pc hck rfl ?_
  rw [Gw.View.seen_find]
  cases hc : Gw.Tree.check l with
  | false =>
    rw [if_neg (by decide)]
    conv => whnf
    refine AW.loop (fun k : Nat => [(.tmp 0, .v (.lst nil 8 (encN l) .none)), (.tmp 8, .v (.bool false)), (.tmp 9, .v (.int .i64 (-1))), (.tmp 10, .v (.int .i64 k))]) 0 (fun k => k = 0) (fun k => 0) (by decide) 0 rfl ⟨rfl, rfl, rfl, rfl, rfl, rfl, rfl, rfl, trivial⟩ ?_
    rintro k rfl
    refine ev_sound tabOk mixed _ _ _ _ ?_
    conv => whnf
    refine ⟨fun h1 => ?_, fun h1 => ?_⟩
    · conv => whnf
      repeat (first | refine ⟨fun _ => ?_, fun h => absurd h (by decide)⟩ | refine ⟨fun h => absurd h (by decide), fun _ => ?_⟩ | refine ⟨fun _ => ?_, fun h => absurd (show true = false from h) (by decide)⟩ | refine ⟨fun h => absurd (show false = true from h) (by decide), fun _ => ?_⟩
              (conv => whnf))
      rfl
    · conv => whnf
      repeat (first | refine ⟨fun _ => ?_, fun h => absurd h (by decide)⟩ | refine ⟨fun h => absurd h (by decide), fun _ => ?_⟩ | refine ⟨fun _ => ?_, fun h => absurd (show true = false from h) (by decide)⟩ | refine ⟨fun h => absurd (show false = true from h) (by decide), fun _ => ?_⟩
              (conv => whnf))
      rfl
  | true =>
    rw [if_pos rfl]
    conv => whnf
    refine AW.loop (X := Nat × Option Nat) (fun x => [(.tmp 0, .v (.lst nil 8 (encN l) .none)), (.tmp 1, .v (.int .i64 dir)), (.tmp 2, .v (.str s)), (.tmp 8, .v (.bool true)), (.tmp 9, .v (.int .i64 (bestI x.2))), (.tmp 10, .v (.int .i64 x.1))]) 0
      (fun x => x.1 ≤ l.length ∧ (∀ j, x.2 = some j → j < x.1) ∧ x.2.bind (fun j => l[j]?) = Gw.View.best (l.take x.1) dir s) (fun x => l.length - x.1) (by decide) (0, none) ⟨Nat.zero_le _, (fun j h => by cases h), rfl⟩ ⟨rfl, rfl, rfl, rfl, rfl, rfl, rfl, rfl, rfl, rfl, rfl, rfl, trivial⟩ ?_
    rintro ⟨k, b⟩ ⟨hk, hb, hbest⟩
    simp only at hk hb hbest
    dsimp only
    have hneg := bestI_neg b
    refine ev_sound tabOk mixed _ _ _ _ ?_
    conv => whnf
    rw [hel]
    refine ⟨fun h1 => ?_, fun h1 => ?_⟩
    · have h1 := of_decide_eq_true h1
      have hlt : k < l.length := by omega
      have hg := encN_get hlt
      obtain ⟨hs1, hs2⟩ := Gw.View.bestStep_better hc dir s hlt hb
      rw [hbest, show Gw.View.better dir s (Gw.View.best (l.take k) dir s) l[k] = Gw.View.best (l.take (k + 1)) dir s from by
        unfold Gw.View.best
        rw [List.take_succ_eq_append_getElem hlt, List.foldl_append]; rfl] at hs1
      have hwk : IntKind.i64.wrap ((k : Int) + 1) = ((k + 1 : Nat) : Int) := by rw [w64 (by omega) (by omega)]; rfl
      have hsame : Gw.View.bestStep l dir s b k = b → (∀ j, b = some j → j < k + 1) ∧ b.bind (fun j => l[j]?) = Gw.View.best (l.take (k + 1)) dir s := fun e => by
        rw [e] at hs1 hs2; exact ⟨hs2, hs1⟩
      have hnew : Gw.View.bestStep l dir s b k = some k → (∀ j, some k = some j → j < k + 1) ∧ (some k).bind (fun j => l[j]?) = Gw.View.best (l.take (k + 1)) dir s := fun e => by
        rw [e] at hs1 hs2; exact ⟨hs2, hs1⟩
      have hstep : Gw.View.bestStep l dir s b k = if (Gw.View.inDir l[k] dir && (decide (l[k].name = s) && (match b.bind (fun j => l[j]?) with | none => true | some old => Gw.View.behind l[k] old))) = true then some k else b := by
        unfold Gw.View.bestStep
        rw [List.getElem?_eq_getElem hlt]
        rfl
      have hin := rin_pc l[k] dir
      have hbe := fun m => rbehind_pc l[k] m
      conv => whnf
      repeat (first | refine ⟨fun _ => ?_, fun h => absurd h (by decide)⟩ | refine ⟨fun h => absurd h (by decide), fun _ => ?_⟩ | refine ⟨fun _ => ?_, fun h => absurd (show true = false from h) (by decide)⟩ | refine ⟨fun h => absurd (show false = true from h) (by decide), fun _ => ?_⟩
              (conv => whnf))
      refine ⟨_, ⟨by omega, hg⟩, ?_⟩
      generalize l[k] = nd at *
      conv => whnf
      refine AC.of_pc hin rfl ?_
      cases hq : Gw.View.inDir nd dir with
      | false =>
        rw [hq, Bool.false_and, if_neg (by decide)] at hstep
        obtain ⟨hs3, hs4⟩ := hsame hstep
        conv => whnf
        repeat (first | refine ⟨fun _ => ?_, fun h => absurd h (by decide)⟩ | refine ⟨fun h => absurd h (by decide), fun _ => ?_⟩ | refine ⟨fun _ => ?_, fun h => absurd (show true = false from h) (by decide)⟩ | refine ⟨fun h => absurd (show false = true from h) (by decide), fun _ => ?_⟩
                (conv => whnf))
        refine ⟨by kernel_rfl, ?_⟩
        conv => whnf
        refine ⟨(k + 1, b), ⟨hlt, hs3, hs4⟩, by show l.length - (k + 1) < l.length - k; omega, rfl, rfl, rfl, rfl, rfl, rfl, rfl, rfl, rfl, rfl, ?_, rfl, trivial⟩
        show C.v (V.int .i64 (IntKind.i64.wrap ((k : Int) + 1))) = _
        rw [hwk]
      | true =>
        rw [hq, Bool.true_and] at hstep
        conv => whnf
        repeat (first | refine ⟨fun _ => ?_, fun h => absurd h (by decide)⟩ | refine ⟨fun h => absurd h (by decide), fun _ => ?_⟩ | refine ⟨fun _ => ?_, fun h => absurd (show true = false from h) (by decide)⟩ | refine ⟨fun h => absurd (show false = true from h) (by decide), fun _ => ?_⟩
                (conv => whnf))
        refine ⟨_, ⟨by omega, hg⟩, ?_⟩
        conv => whnf
        refine ⟨fun h => ?_, fun h => ?_⟩
        · have h : nd.name = s := by simpa using h
          rw [decide_eq_true h, Bool.true_and] at hstep
          conv => whnf
          refine ⟨fun h => ?_, fun h => ?_⟩
          · have h : b = none := hneg.1 (of_decide_eq_true h)
            subst h
            have hstep : _ = some k := hstep
            obtain ⟨hs3, hs4⟩ := hnew hstep
            conv => whnf
            refine ⟨by kernel_rfl, ?_⟩
            conv => whnf
            refine ⟨(k + 1, some k), ⟨hlt, hs3, hs4⟩, by show l.length - (k + 1) < l.length - k; omega, rfl, rfl, rfl, rfl, rfl, rfl, rfl, rfl, rfl, rfl, ?_, rfl, trivial⟩
            show C.v (V.int .i64 (IntKind.i64.wrap ((k : Int) + 1))) = _
            rw [hwk]
          · have h : b ≠ none := fun e => absurd (hneg.2 e) (of_decide_eq_false h)
            obtain ⟨j, rfl⟩ := Option.ne_none_iff_exists'.1 h
            have hj := hb j rfl
            have hgj := encN_get (show j < l.length by omega)
            rw [show (some j).bind (fun j => l[j]?) = l[j]? from rfl, List.getElem?_eq_getElem (show j < l.length by omega)] at hstep
            have hbe := hbe l[j]
            generalize l[j] = od at *
            have hstep : Gw.View.bestStep l dir s (some j) k = if Gw.View.behind nd od = true then some k else some j := hstep
            rw [show bestI (some j) = (j : Int) from rfl]
            conv => whnf
            refine ⟨_, ⟨by omega, hg⟩, ?_⟩
            conv => whnf
            refine ⟨_, ⟨by omega, hgj⟩, ?_⟩
            conv => whnf
            refine ⟨_, rfl, hbe, ?_⟩
            conv => whnf
            refine ⟨by kernel_rfl, ?_⟩
            cases hbh : Gw.View.behind nd od with
            | true =>
              rw [hbh, if_pos rfl] at hstep
              obtain ⟨hs3, hs4⟩ := hnew hstep
              conv => whnf
              repeat (first | refine ⟨fun _ => ?_, fun h => absurd h (by decide)⟩ | refine ⟨fun h => absurd h (by decide), fun _ => ?_⟩ | refine ⟨fun _ => ?_, fun h => absurd (show true = false from h) (by decide)⟩ | refine ⟨fun h => absurd (show false = true from h) (by decide), fun _ => ?_⟩
                      (conv => whnf))
              refine ⟨(k + 1, some k), ⟨hlt, hs3, hs4⟩, by show l.length - (k + 1) < l.length - k; omega, rfl, rfl, rfl, rfl, rfl, rfl, rfl, rfl, rfl, rfl, ?_, rfl, trivial⟩
              show C.v (V.int .i64 (IntKind.i64.wrap ((k : Int) + 1))) = _
              rw [hwk]
            | false =>
              rw [hbh, if_neg (by decide)] at hstep
              obtain ⟨hs3, hs4⟩ := hsame hstep
              conv => whnf
              repeat (first | refine ⟨fun _ => ?_, fun h => absurd h (by decide)⟩ | refine ⟨fun h => absurd h (by decide), fun _ => ?_⟩ | refine ⟨fun _ => ?_, fun h => absurd (show true = false from h) (by decide)⟩ | refine ⟨fun h => absurd (show false = true from h) (by decide), fun _ => ?_⟩
                      (conv => whnf))
              refine ⟨(k + 1, some j), ⟨hlt, hs3, hs4⟩, by show l.length - (k + 1) < l.length - k; omega, rfl, rfl, rfl, rfl, rfl, rfl, rfl, rfl, rfl, rfl, ?_, rfl, trivial⟩
              show C.v (V.int .i64 (IntKind.i64.wrap ((k : Int) + 1))) = _
              rw [hwk]
        · have h : nd.name ≠ s := by simpa using h
          rw [decide_eq_false h, Bool.false_and, if_neg (by decide)] at hstep
          obtain ⟨hs3, hs4⟩ := hsame hstep
          conv => whnf
          refine ⟨by kernel_rfl, ?_⟩
          conv => whnf
          refine ⟨(k + 1, b), ⟨hlt, hs3, hs4⟩, by show l.length - (k + 1) < l.length - k; omega, rfl, rfl, rfl, rfl, rfl, rfl, rfl, rfl, rfl, rfl, ?_, rfl, trivial⟩
          show C.v (V.int .i64 (IntKind.i64.wrap ((k : Int) + 1))) = _
          rw [hwk]
    · have h1 := of_decide_eq_false h1
      rw [List.take_of_length_le (by omega)] at hbest
      rw [← hbest]
      conv => whnf
      repeat (first | refine ⟨fun _ => ?_, fun h => absurd h (by decide)⟩ | refine ⟨fun h => absurd h (by decide), fun _ => ?_⟩ | refine ⟨fun _ => ?_, fun h => absurd (show true = false from h) (by decide)⟩ | refine ⟨fun h => absurd (show false = true from h) (by decide), fun _ => ?_⟩
              (conv => whnf))
      cases b with
      | none =>
        conv => whnf
        repeat (first | refine ⟨fun _ => ?_, fun h => absurd h (by decide)⟩ | refine ⟨fun h => absurd h (by decide), fun _ => ?_⟩ | refine ⟨fun _ => ?_, fun h => absurd (show true = false from h) (by decide)⟩ | refine ⟨fun h => absurd (show false = true from h) (by decide), fun _ => ?_⟩
                (conv => whnf))
        rfl
      | some j =>
        have hj := hb j rfl
        have hgj := encN_get (show j < l.length by omega)
        rw [show (some j).bind (fun j => l[j]?) = l[j]? from rfl, List.getElem?_eq_getElem (show j < l.length by omega)]
        generalize l[j] = nd at *
        rw [show bestI (some j) = (j : Int) from rfl]
        conv => whnf
        refine ⟨fun h => absurd (of_decide_eq_true h) (by omega), fun _ => ?_⟩
        conv => whnf
        refine ⟨_, ⟨by omega, hgj⟩, ?_⟩
        conv => whnf
        rfl
theorem rput_pc (q : Bool) (l : List (List UInt8)) (s : List UInt8) (hl : l.length ≤ 1000000) (hn : ∀ t ∈ l, t.length ≤ 1048576) (hs : s.length ≤ 1048576) :
    ∃ q', PC Tryz.prog 110 [.lst q 1 (encS1 l) .none, .str s] (.lst q' 1 (encS1 (Gw.View.putT l s)) .none) := by
  have hel := encS1_len l
  refine ⟨if l[Gw.View.below l s]? = some s then q else false, ?_⟩
  refine PC.ofS tabOk mixed (fn := Tryz.f110) (by kernel_rfl) rfl (by kernel_rfl) rfl rfl ?_
  conv => whnf
  refine AW.loop (fun k : Nat => [(.tmp 0, .v (.lst q 1 (encS1 l) .none)), (.tmp 1, .v (.str s)), (.tmp 5, .v (.int .i64 k))]) 0
    (fun k => k ≤ l.length ∧ ∀ j (hj : j < l.length), j < k → Gw.Name.less l[j] s = true) (fun k => l.length - k) (by decide) 0 ⟨Nat.zero_le _, fun j _ h => by omega⟩ ⟨rfl, rfl, rfl, rfl, rfl, rfl, trivial⟩ ?_
  rintro k ⟨hk, hall⟩
  have hwk : k < l.length → IntKind.i64.wrap ((k : Int) + 1) = ((k + 1 : Nat) : Int) := fun h => by rw [w64 (by omega) (by omega)]; rfl
  refine ev_sound tabOk mixed _ _ _ _ ?_
  conv => whnf
  rw [hel]
  refine ⟨fun h => ?_, fun h => ?_⟩
  · have h := of_decide_eq_true h
    have hlt : k < l.length := by omega
    have hg := encS1_get hlt
    have hls := rnameLess_pc l[k] s (hn _ (List.getElem_mem hlt)) hs
    have hb : Gw.Name.less l[k] s = false → Gw.View.below l s = k := fun hf => Gw.View.below_of hk hall fun _ => hf
    have hget : l[k]? = some l[k] := List.getElem?_eq_getElem hlt
    have hnx : Gw.Name.less l[k] s = true → ∀ j (hj : j < l.length), j < k + 1 → Gw.Name.less l[j] s = true := fun ht j hj hjk => by
      by_cases e : j = k
      · subst e; exact ht
      · exact hall j hj (by omega)
    generalize l[k] = t at *
    conv => whnf
    refine ⟨_, ⟨by omega, hg⟩, ?_⟩
    conv => whnf
    refine AC.of_pc hls rfl ?_
    cases hf : Gw.Name.less t s with
    | true =>
      conv => whnf
      repeat (first | refine ⟨fun _ => ?_, fun h => absurd h (by decide)⟩ | refine ⟨fun h => absurd h (by decide), fun _ => ?_⟩ | refine ⟨fun _ => ?_, fun h => absurd (show true = false from h) (by decide)⟩ | refine ⟨fun h => absurd (show false = true from h) (by decide), fun _ => ?_⟩
              (conv => whnf))
      refine ⟨k + 1, ⟨hlt, hnx hf⟩, by show l.length - (k + 1) < l.length - k; omega, rfl, rfl, rfl, rfl, ?_, rfl, trivial⟩
      show C.v (V.int .i64 (IntKind.i64.wrap ((k : Int) + 1))) = _
      rw [hwk hlt]
    | false =>
      have hbl := hb hf
      unfold Gw.View.putT
      rw [hbl, hget]
      conv => whnf
      repeat (first | refine ⟨fun _ => ?_, fun h => absurd h (by decide)⟩ | refine ⟨fun h => absurd h (by decide), fun _ => ?_⟩ | refine ⟨fun _ => ?_, fun h => absurd (show true = false from h) (by decide)⟩ | refine ⟨fun h => absurd (show false = true from h) (by decide), fun _ => ?_⟩
              (conv => whnf))
      rw [hel]
      refine ⟨fun _ => ?_, fun h => absurd (of_decide_eq_false h) (by omega)⟩
      conv => whnf
      refine ⟨_, ⟨by omega, hg⟩, ?_⟩
      conv => whnf
      refine ⟨fun h => ?_, fun h => ?_⟩
      · have h : t = s := by simpa using h
        subst h
        rw [if_pos rfl, if_pos rfl]
        conv => whnf
        exact SubV.refl _
      · have h : t ≠ s := by simpa using h
        rw [if_neg (fun e => h (Option.some.inj e)), if_neg (fun e => h (Option.some.inj e))]
        conv => whnf
        refine ⟨⟨by omega, by rw [hel]; omega⟩, ?_⟩
        conv => whnf
        have hl1 : ((encS1 l).drop k).length ≤ 1000000 := by rw [List.length_drop, hel]; omega
        have hl2 : ((encS1 l).take k).length ≤ 1000000 := by rw [List.length_take, hel]; omega
        refine ⟨fits_small (by show 0 + ((encS1 l).drop k).length ≤ _; omega) (by decide), ?_⟩
        conv => whnf
        refine ⟨⟨by omega, by rw [hel]; omega⟩, ?_⟩
        conv => whnf
        refine ⟨fits_small (by show 0 + ((encS1 l).take k).length ≤ _; omega) (by decide), ?_⟩
        conv => whnf
        refine ⟨⟨Nat.zero_add _, fits_small (by show ((encS1 l).take k).length + 1 ≤ _; omega) (by decide)⟩, ?_⟩
        conv => whnf
        have e3 : ∀ x : V, ((encS1 l).take k ++ [[x]]).length + ((encS1 l).drop k).length ≤ 3000000 := fun x => by rw [List.length_append, List.length_singleton]; omega
        refine ⟨⟨List.length_append.symm, fits_small (Nat.le_trans (e3 _) (by decide)) (by decide)⟩, ?_⟩
        conv => whnf
        rw [show encS1 (l.take k ++ [s] ++ l.drop k) = (encS1 l).take k ++ [[V.str s]] ++ (encS1 l).drop k from by unfold encS1; rw [List.map_append, List.map_append, List.map_take, List.map_drop]; rfl]
        exact SubV.refl _
  · have h := of_decide_eq_false h
    have hbl : Gw.View.below l s = k := Gw.View.below_of hk hall fun h2 => absurd h2 (by omega)
    unfold Gw.View.putT
    rw [hbl, List.getElem?_eq_none (by omega), if_neg (by simp), if_neg (by simp)]
    conv => whnf
    repeat (first | refine ⟨fun _ => ?_, fun h => absurd h (by decide)⟩ | refine ⟨fun h => absurd h (by decide), fun _ => ?_⟩ | refine ⟨fun _ => ?_, fun h => absurd (show true = false from h) (by decide)⟩ | refine ⟨fun h => absurd (show false = true from h) (by decide), fun _ => ?_⟩
            (conv => whnf))
    rw [hel]
    refine ⟨fun h => absurd (of_decide_eq_true h) (by omega), fun _ => ?_⟩
    conv => whnf
    refine ⟨⟨by omega, by rw [hel]; omega⟩, ?_⟩
    conv => whnf
    have hl1 : ((encS1 l).drop k).length ≤ 1000000 := by rw [List.length_drop, hel]; omega
    have hl2 : ((encS1 l).take k).length ≤ 1000000 := by rw [List.length_take, hel]; omega
    refine ⟨fits_small (by show 0 + ((encS1 l).drop k).length ≤ _; omega) (by decide), ?_⟩
    conv => whnf
    refine ⟨⟨by omega, by rw [hel]; omega⟩, ?_⟩
    conv => whnf
    refine ⟨fits_small (by show 0 + ((encS1 l).take k).length ≤ _; omega) (by decide), ?_⟩
    conv => whnf
    refine ⟨⟨Nat.zero_add _, fits_small (by show ((encS1 l).take k).length + 1 ≤ _; omega) (by decide)⟩, ?_⟩
    conv => whnf
    have e3 : ∀ x : V, ((encS1 l).take k ++ [[x]]).length + ((encS1 l).drop k).length ≤ 3000000 := fun x => by rw [List.length_append, List.length_singleton]; omega
    refine ⟨⟨List.length_append.symm, fits_small (Nat.le_trans (e3 _) (by decide)) (by decide)⟩, ?_⟩
    conv => whnf
    rw [show encS1 (l.take k ++ [s] ++ l.drop k) = (encS1 l).take k ++ [[V.str s]] ++ (encS1 l).drop k from by unfold encS1; rw [List.map_append, List.map_append, List.map_take, List.map_drop]; rfl]
    exact SubV.refl _
theorem rlist_pc (nil : Bool) (l : List Gw.Tree.Node) (dir : Int) (hi : ∀ n ∈ l, I64 n.id) (hl : l.length ≤ 1000000) (hs : ∀ n ∈ l, n.name.length ≤ 1048576) :
    ∃ q, PC Tryz.prog 81 [.lst nil 8 (encN l) .none, .int .i64 dir] (.lst q 1 (encS1 (Gw.View.list l dir)) .none) := by
  have hel := encN_len l
  have hck := rtreeCheck_pc nil l hi (by omega)
  have hput : ∀ (q : Bool) (x : List (List UInt8)) (s : List UInt8), ∃ q', (x.length ≤ 1000000 ∧ (∀ t ∈ x, t.length ≤ 1048576) ∧ s.length ≤ 1048576 → PC Tryz.prog 110 [.lst q 1 (encS1 x) .none, .str s] (.lst q' 1 (encS1 (Gw.View.putT x s)) .none)) := fun q x s => by
    by_cases h : x.length ≤ 1000000 ∧ (∀ t ∈ x, t.length ≤ 1048576) ∧ s.length ≤ 1048576
    · obtain ⟨q', h2⟩ := rput_pc q x s h.1 h.2.1 h.2.2
      exact ⟨q', fun _ => h2⟩
    · exact ⟨false, fun q => absurd q h⟩
  obtain ⟨nf, hnf⟩ : ∃ nf : Bool → List (List UInt8) → List UInt8 → Bool, ∀ q x s, (x.length ≤ 1000000 ∧ (∀ t ∈ x, t.length ≤ 1048576) ∧ s.length ≤ 1048576 → PC Tryz.prog 110 [.lst q 1 (encS1 x) .none, .str s] (.lst (nf q x s) 1 (encS1 (Gw.View.putT x s)) .none)) :=
    ⟨fun q x s => (hput q x s).choose, fun q x s => (hput q x s).choose_spec⟩
  let step : Bool × List (List UInt8) → Gw.Tree.Node → Bool × List (List UInt8) := fun x n => if Gw.View.inDir n dir = true then (nf x.1 x.2 n.name, Gw.View.putT x.2 n.name) else x
  have hfst : ∀ (m : List Gw.Tree.Node) (x : Bool × List (List UInt8)), (m.foldl step x).2 = m.foldl (Gw.View.listStep dir) x.2 := fun m => by
    induction m with
    | nil => intro x; rfl
    | cons n m ih =>
      intro x
      rw [List.foldl_cons, List.foldl_cons, ih]
      show m.foldl _ (if Gw.View.inDir n dir = true then (nf x.1 x.2 n.name, Gw.View.putT x.2 n.name) else x).2 = m.foldl _ (if Gw.View.inDir n dir = true then Gw.View.putT x.2 n.name else x.2)
      split <;> rfl
  have hplen : ∀ x s, (Gw.View.putT x s).length ≤ x.length + 1 := fun x s => by
    unfold Gw.View.putT
    split
    · omega
    · rw [List.length_append, List.length_append, List.length_take, List.length_drop, List.length_singleton]
      omega
  have hpmem : ∀ x s t, t ∈ Gw.View.putT x s → t ∈ x ∨ t = s := fun x s t h => by
    unfold Gw.View.putT at h
    split at h
    · exact .inl h
    · rcases List.mem_append.1 h with h | h
      · rcases List.mem_append.1 h with h | h
        · exact .inl (List.mem_of_mem_take h)
        · rw [List.mem_singleton] at h; exact .inr h
      · exact .inl (List.mem_of_mem_drop h)
  cases hc : Gw.Tree.check l with
  | false =>
    have hz : Gw.View.list l dir = [] := by unfold Gw.View.list; rw [hc]; rfl
    rw [hz]
    rw [hc] at hck
    refine ⟨true, ?_⟩
    refine PC.ofS tabOk mixed (fn := Tryz.f81) (by kernel_rfl) rfl (by kernel_rfl) rfl rfl ?_
    conv => whnf
    refine AC.of_pc hck rfl ?_
    conv => whnf
    refine AW.nilSlot 6 1 rfl ?_
    refine AW.loop (fun k : Nat => [(.tmp 0, .v (.lst nil 8 (encN l) .none)), (.tmp 5, .v (.bool false)), (.tmp 6, .v (.lst true 1 [] .none)), (.tmp 7, .v (.int .i64 k))]) 0 (fun k => k = 0) (fun k => 0) (by decide) 0 rfl ⟨rfl, rfl, rfl, rfl, rfl, rfl, rfl, rfl, trivial⟩ ?_
    rintro k rfl
    refine ev_sound tabOk mixed _ _ _ _ ?_
    conv => whnf
    refine ⟨fun h1 => ?_, fun h1 => ?_⟩
    · conv => whnf
      repeat (first | refine ⟨fun _ => ?_, fun h => absurd h (by decide)⟩ | refine ⟨fun h => absurd h (by decide), fun _ => ?_⟩ | refine ⟨fun _ => ?_, fun h => absurd (show true = false from h) (by decide)⟩ | refine ⟨fun h => absurd (show false = true from h) (by decide), fun _ => ?_⟩
              (conv => whnf))
      exact SubV.nil _ _ _
    · conv => whnf
      repeat (first | refine ⟨fun _ => ?_, fun h => absurd h (by decide)⟩ | refine ⟨fun h => absurd h (by decide), fun _ => ?_⟩ | refine ⟨fun _ => ?_, fun h => absurd (show true = false from h) (by decide)⟩ | refine ⟨fun h => absurd (show false = true from h) (by decide), fun _ => ?_⟩
              (conv => whnf))
      exact SubV.nil _ _ _
  | true =>
  rw [← Gw.View.rlist_list hc]
  rw [hc] at hck
  have hfin := hfst l (true, [])
  refine ⟨(l.foldl step (true, [])).1, ?_⟩
  show PC Tryz.prog _ _ (.lst (l.foldl step (true, [])).1 1 (encS1 (l.foldl (Gw.View.listStep dir) [])) .none)
  rw [← hfin]
  refine PC.ofS tabOk mixed (fn := Tryz.f81) (by kernel_rfl) rfl (by kernel_rfl) rfl rfl ?_
  conv => whnf
  refine AC.of_pc hck rfl ?_
  conv => whnf
  refine AW.nilSlot 6 1 rfl ?_
  refine AW.loop (fun k : Nat => [(.tmp 0, .v (.lst nil 8 (encN l) .none)), (.tmp 1, .v (.int .i64 dir)), (.tmp 5, .v (.bool true)), (.tmp 6, .v (.lst ((l.take k).foldl step (true, [])).1 1 (encS1 ((l.take k).foldl step (true, [])).2) .none)), (.tmp 7, .v (.int .i64 k))]) 0
    (fun k => k ≤ l.length ∧ ((l.take k).foldl step (true, [])).2.length ≤ k ∧ ∀ t ∈ ((l.take k).foldl step (true, [])).2, t.length ≤ 1048576) (fun k => l.length - k) (by decide) 0 ⟨Nat.zero_le _, Nat.le_refl _, fun t h => by cases h⟩ ⟨rfl, rfl, rfl, rfl, rfl, rfl, rfl, rfl, rfl, rfl, trivial⟩ ?_
  rintro k ⟨hk, hxl, hxs⟩
  refine ev_sound tabOk mixed _ _ _ _ ?_
  conv => whnf
  rw [hel]
  refine ⟨fun h1 => ?_, fun h1 => ?_⟩
  · have h1 := of_decide_eq_true h1
    have hlt : k < l.length := by omega
    have hg := encN_get hlt
    have hwk : IntKind.i64.wrap ((k : Int) + 1) = ((k + 1 : Nat) : Int) := by rw [w64 (by omega) (by omega)]; rfl
    have hst : (l.take (k + 1)).foldl step (true, []) = step ((l.take k).foldl step (true, [])) l[k] := by
      rw [List.take_succ_eq_append_getElem hlt, List.foldl_append]; rfl
    have hst2 : step ((l.take k).foldl step (true, [])) l[k] = if Gw.View.inDir l[k] dir = true then (nf ((l.take k).foldl step (true, [])).1 ((l.take k).foldl step (true, [])).2 l[k].name, Gw.View.putT ((l.take k).foldl step (true, [])).2 l[k].name) else (l.take k).foldl step (true, []) := rfl
    rw [hst2] at hst
    have hin := rin_pc l[k] dir
    have hnm := hs l[k] (List.getElem_mem hlt)
    generalize (l.take k).foldl step (true, []) = x at *
    generalize l[k] = nd at *
    have hpc := hnf x.1 x.2 nd.name ⟨by omega, hxs, hnm⟩
    conv => whnf
    repeat (first | refine ⟨fun _ => ?_, fun h => absurd h (by decide)⟩ | refine ⟨fun h => absurd h (by decide), fun _ => ?_⟩ | refine ⟨fun _ => ?_, fun h => absurd (show true = false from h) (by decide)⟩ | refine ⟨fun h => absurd (show false = true from h) (by decide), fun _ => ?_⟩
            (conv => whnf))
    refine ⟨_, ⟨by omega, hg⟩, ?_⟩
    conv => whnf
    refine AC.of_pc hin rfl ?_
    cases hq : Gw.View.inDir nd dir with
    | false =>
      rw [hq, if_neg (by decide)] at hst
      conv => whnf
      repeat (first | refine ⟨fun _ => ?_, fun h => absurd h (by decide)⟩ | refine ⟨fun h => absurd h (by decide), fun _ => ?_⟩ | refine ⟨fun _ => ?_, fun h => absurd (show true = false from h) (by decide)⟩ | refine ⟨fun h => absurd (show false = true from h) (by decide), fun _ => ?_⟩
              (conv => whnf))
      refine ⟨k + 1, ⟨hlt, by rw [hst]; omega, by rw [hst]; exact hxs⟩, by show l.length - (k + 1) < l.length - k; omega, rfl, rfl, rfl, rfl, rfl, rfl, ?_, rfl, ?_, rfl, trivial⟩
      · rw [hst]; rfl
      · show C.v (V.int .i64 (IntKind.i64.wrap ((k : Int) + 1))) = _
        rw [hwk]
    | true =>
      rw [hq, if_pos rfl] at hst
      conv => whnf
      repeat (first | refine ⟨fun _ => ?_, fun h => absurd h (by decide)⟩ | refine ⟨fun h => absurd h (by decide), fun _ => ?_⟩ | refine ⟨fun _ => ?_, fun h => absurd (show true = false from h) (by decide)⟩ | refine ⟨fun h => absurd (show false = true from h) (by decide), fun _ => ?_⟩
              (conv => whnf))
      refine ⟨_, ⟨by omega, hg⟩, ?_⟩
      conv => whnf
      refine AC.of_pc hpc rfl ?_
      conv => whnf
      refine ⟨k + 1, ⟨hlt, by rw [hst]; have := hplen x.2 nd.name; show (Gw.View.putT x.2 nd.name).length ≤ _; omega, by rw [hst]; exact fun t h => (hpmem x.2 nd.name t h).elim (hxs t) fun e => by rw [e]; exact hnm⟩, by show l.length - (k + 1) < l.length - k; omega, rfl, rfl, rfl, rfl, rfl, rfl, ?_, rfl, ?_, rfl, trivial⟩
      · rw [hst]; rfl
      · show C.v (V.int .i64 (IntKind.i64.wrap ((k : Int) + 1))) = _
        rw [hwk]
  · have h1 := of_decide_eq_false h1
    rw [List.take_of_length_le (by omega)]
    conv => whnf
    repeat (first | refine ⟨fun _ => ?_, fun h => absurd h (by decide)⟩ | refine ⟨fun h => absurd h (by decide), fun _ => ?_⟩ | refine ⟨fun _ => ?_, fun h => absurd (show true = false from h) (by decide)⟩ | refine ⟨fun h => absurd (show false = true from h) (by decide), fun _ => ?_⟩
            (conv => whnf))
    exact SubV.refl _
end Go.Proofs.YtipgfdepopfghaaGreat
