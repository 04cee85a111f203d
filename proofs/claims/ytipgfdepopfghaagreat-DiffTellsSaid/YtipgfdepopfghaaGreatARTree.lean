/- What the document's answer for nodes computes: told without addresses. No claim of its own. -/
import Derived.Test.YtipgfdepopfghaaGreatARStampV
import Derived.Test.YtipgfdepopfghaaGreatAItemsS
namespace Gw.Tree
/-- The first place of a number, or -1. -/
def atI (l : List Node) (id : Int) : Int := (l.findIdx? fun n => decide (n.id = id)).elim (-1) (fun k => (k : Int))
theorem at_some {l : List Node} (hc : check l = true) {id : Int} {n : Node} (h : find l id = some n) : atI l id = (pos l id : Nat) := by
  obtain ⟨_, h2, hp, h3⟩ := find_some h
  unfold atI
  have e : l.findIdx? (fun n => decide (n.id = id)) = some (pos l id) := by
    rw [List.findIdx?_eq_some_iff_getElem]
    refine ⟨hp, by rw [h3]; exact decide_eq_true h2, fun j hj => ?_⟩
    have h4 := check_lt hc hj hp
    rw [h3, h2] at h4
    exact fun h => by have h := of_decide_eq_true h; omega
  rw [e]; rfl
theorem at_none {l : List Node} (hc : check l = true) {id : Int} (h : find l id = none) : atI l id = -1 := by
  unfold atI
  have e : l.findIdx? (fun n => decide (n.id = id)) = none := by
    rw [List.findIdx?_eq_none_iff]
    intro n hn
    refine decide_eq_false fun e => ?_
    have := find_mem hc hn
    rw [e, h] at this
    cases this
  rw [e]; rfl
end Gw.Tree
namespace Go.Proofs.YtipgfdepopfghaaGreat
open Go.Am

theorem rtreeCheck_pc (nil : Bool) (l : List Gw.Tree.Node) (hi : ∀ n ∈ l, I64 n.id) (hl : l.length ≤ 1048576) : PC Tryz.prog 86 [.lst nil 8 (encN l) .none] (.bool (Gw.Tree.check l)) := by
  have hel := encN_len l
  refine PC.of tabOk mixed (fn := Tryz.f86) (by kernel_rfl) rfl (by kernel_rfl) rfl rfl ?_
  conv => whnf
  refine AW.loop (fun k : Nat => [(.tmp 0, .v (.lst nil 8 (encN l) .none)), (.tmp 3, .v (.int .i64 k))]) 0 (fun k => k ≤ l.length ∧ ∀ j, j < k → Gw.Tree.mayAt l j = true) (fun k => l.length - k) (by decide) 0 ⟨Nat.zero_le _, fun j h => by omega⟩ ⟨rfl, rfl, rfl, rfl, trivial⟩ ?_
  rintro k ⟨hk, hall⟩
  refine ev_sound tabOk mixed _ _ _ _ ?_
  conv => whnf
  rw [hel]
  refine ⟨fun h1 => ?_, fun h1 => ?_⟩
  · have h1 := of_decide_eq_true h1
    have hlt : k < l.length := by omega
    have hg := encN_get hlt
    conv => whnf
    refine ⟨_, ⟨by omega, hg⟩, ?_⟩
    have hid := hi _ (List.getElem_mem hlt)
    conv => whnf
    refine AC.of_pc (rof_pc _ hid) rfl ?_
    have hmk : Gw.Tree.mayAt l k = (Gw.Stamp.ok l[k].id && Gw.Tree.prevOk l l[k].id k) := by unfold Gw.Tree.mayAt; rw [List.getElem?_eq_getElem hlt]
    have hbad : Gw.Tree.mayAt l k = false → Gw.Tree.check l = false := fun h => by
      rw [Bool.eq_false_iff]
      intro hc
      have := List.all_eq_true.1 hc k (List.mem_range.2 hlt)
      rw [h] at this; cases this
    have hwk : IntKind.i64.wrap ((k : Int) + 1) = ((k + 1 : Nat) : Int) := by rw [w64 (by omega) (by omega)]; rfl
    have hnext : Gw.Tree.mayAt l k = true → ∀ j, j < k + 1 → Gw.Tree.mayAt l j = true := fun h j hj => by
      by_cases e : j = k
      · subst e; exact h
      · exact hall j (by omega)
    generalize l[k] = nd at *
    generalize Gw.Stamp.ok nd.id = q at *
    generalize Gw.Stamp.of nd.id = st at *
    generalize Gw.Stamp.file nd.id = fl at *
    cases q with
    | false =>
      rw [hbad (by rw [hmk]; rfl)]
      conv => whnf
      repeat (first | refine ⟨fun _ => ?_, fun h => absurd h (by decide)⟩ | refine ⟨fun h => absurd h (by decide), fun _ => ?_⟩ | refine ⟨fun _ => ?_, fun h => absurd (show true = false from h) (by decide)⟩ | refine ⟨fun h => absurd (show false = true from h) (by decide), fun _ => ?_⟩
              (conv => whnf))
      refine ⟨by kernel_rfl, ?_⟩
      conv => whnf
    | true =>
    rw [Bool.true_and] at hmk
    cases k with
    | zero =>
      conv => whnf
      repeat (first | refine ⟨fun _ => ?_, fun h => absurd h (by decide)⟩ | refine ⟨fun h => absurd h (by decide), fun _ => ?_⟩ | refine ⟨fun _ => ?_, fun h => absurd (show true = false from h) (by decide)⟩ | refine ⟨fun h => absurd (show false = true from h) (by decide), fun _ => ?_⟩
              (conv => whnf))
      refine ⟨by kernel_rfl, ?_⟩
      conv => whnf
      refine ⟨1, ⟨hlt, hnext (by rw [hmk]; rfl)⟩, by show l.length - 1 < l.length - 0; omega, rfl, rfl, rfl, rfl, trivial⟩
    | succ j =>
      have hg2 := encN_get (show j < l.length by omega)
      have hpr : Gw.Tree.mayAt l (j + 1) = decide (l[j].id < nd.id) := by rw [hmk]; show (match l[j]? with | none => false | some p => decide (p.id < nd.id)) = _; rw [List.getElem?_eq_getElem (show j < l.length by omega)]
      have hwj : IntKind.i64.wrap (((j + 1 : Nat) : Int) - 1) = (j : Int) := by rw [w64 (by omega) (by omega)]; omega
      conv => whnf
      repeat (first | refine ⟨fun h => absurd h (by decide), fun _ => ?_⟩
                    | refine ⟨fun _ => ?_, fun h => absurd h (by decide)⟩
                    | refine ⟨fun _ => ?_, fun h => absurd h (by simp; first | done | omega | fail "x")⟩
                    | fail "end"
              (conv => whnf))
      refine ⟨_, ⟨by omega, hg⟩, ?_⟩
      conv => whnf
      rw [hwj]
      refine ⟨_, ⟨by omega, hg2⟩, ?_⟩
      generalize l[j] = pd at *
      conv => whnf
      refine ⟨by kernel_rfl, ?_⟩
      conv => whnf
      refine ⟨fun h => ?_, fun h => ?_⟩
      · have h := of_decide_eq_true h
        rw [hbad (by rw [hpr]; exact decide_eq_false (by omega))]
        conv => whnf
      · have h := of_decide_eq_false h
        conv => whnf
        refine ⟨j + 2, ⟨by omega, hnext (by rw [hpr]; exact decide_eq_true (by omega))⟩, by show l.length - (j + 2) < l.length - (j + 1); omega, rfl, rfl, ?_, rfl, trivial⟩
        show C.v (V.int .i64 (IntKind.i64.wrap (((j + 1 : Nat) : Int) + 1))) = _
        rw [hwk]
  · have h1 := of_decide_eq_false h1
    have hck : Gw.Tree.check l = true := List.all_eq_true.2 fun j hj => hall j (by have := List.mem_range.1 hj; omega)
    rw [hck]
    conv => whnf
theorem rat_pc (nil : Bool) (l : List Gw.Tree.Node) (id : Int) (hl : l.length ≤ 1048576) : PC Tryz.prog 87 [.lst nil 8 (encN l) .none, .int .i64 id] (.int .i64 (Gw.Tree.atI l id)) := by
  have hel := encN_len l
  unfold Gw.Tree.atI
  refine PC.of tabOk mixed (fn := Tryz.f87) (by kernel_rfl) rfl (by kernel_rfl) rfl rfl ?_
  conv => whnf
  refine AW.loop (fun k : Nat => [(.tmp 0, .v (.lst nil 8 (encN l) .none)), (.tmp 1, .v (.int .i64 id)), (.tmp 5, .v (.int .i64 k))]) 0 (fun k => k ≤ l.length ∧ ∀ j (hj : j < l.length), j < k → l[j].id ≠ id) (fun k => l.length - k) (by decide) 0 ⟨Nat.zero_le _, fun j _ h => by omega⟩ ⟨rfl, rfl, rfl, rfl, rfl, rfl, trivial⟩ ?_
  rintro k ⟨hk, hall⟩
  refine ev_sound tabOk mixed _ _ _ _ ?_
  conv => whnf
  rw [hel]
  refine ⟨fun h1 => ?_, fun h1 => ?_⟩
  · have h1 := of_decide_eq_true h1
    have hlt : k < l.length := by omega
    have hg := encN_get hlt
    conv => whnf
    refine ⟨_, ⟨by omega, hg⟩, ?_⟩
    conv => whnf
    refine ⟨fun h3 => ?_, fun h3 => ?_⟩
    · have h3 : l[k].id = id := by simpa using h3
      have e : l.findIdx? (fun n => decide (n.id = id)) = some k := by
        rw [List.findIdx?_eq_some_iff_getElem]
        exact ⟨hlt, by simpa using h3, fun j hj => by simpa using hall j (by omega) hj⟩
      rw [e]
      conv => whnf
      rfl
    · have h3 : l[k].id ≠ id := by simpa using h3
      conv => whnf
      refine ⟨k + 1, ⟨by omega, fun j hj hjk => ?_⟩, by show l.length - (k + 1) < l.length - k; omega, rfl, rfl, rfl, rfl, ?_, rfl, trivial⟩
      · by_cases e : j = k
        · subst e; exact h3
        · exact hall j hj (by omega)
      · show C.v (V.int .i64 (IntKind.i64.wrap ((k : Int) + 1))) = _
        rw [w64 (by omega) (by omega)]; rfl
  · have h := of_decide_eq_false h1
    have e : l.findIdx? (fun n => decide (n.id = id)) = none := by
      rw [List.findIdx?_eq_none_iff]
      intro x hx
      obtain ⟨j, hj, rfl⟩ := List.getElem_of_mem hx
      simpa using hall j hj (by omega)
    rw [e]
    conv => whnf
    rfl
theorem rtFind_pc (nil : Bool) (l : List Gw.Tree.Node) (id : Int) {n : Gw.Tree.Node} (hi : ∀ n ∈ l, I64 n.id) (hl : l.length ≤ 1048576) (hc : Gw.Tree.check l = true) (hf : Gw.Tree.find l id = some n) :
    PC Tryz.prog 83 [.lst nil 8 (encN l) .none, .int .i64 id] (.tup [.agg (cellsN n), .bool true]) := by
  have hck := rtreeCheck_pc nil l hi hl
  have hat := rat_pc nil l id hl
  obtain ⟨_, _, hp, hnd⟩ := Gw.Tree.find_some hf
  have hg := encN_get hp
  rw [hnd] at hg
  rw [hc] at hck
  rw [Gw.Tree.at_some hc hf] at hat
  refine PC.of tabOk mixed (fn := Tryz.f83) (by kernel_rfl) rfl (by kernel_rfl) rfl rfl ?_
  conv => whnf
  refine AC.of_pc hck rfl ?_
  conv => whnf
  refine AC.of_pc hat rfl ?_
  conv => whnf
  refine ⟨fun h => absurd h (by decide), fun _ => ?_⟩
  conv => whnf
  refine ⟨fun h => absurd (of_decide_eq_true h) (by omega), fun _ => ?_⟩
  conv => whnf
  refine ⟨_, ⟨by omega, hg⟩, ?_⟩
  conv => whnf
  rfl
theorem rtAbove_pc (nil : Bool) (l : List Gw.Tree.Node) (id : Int) (hi : ∀ n ∈ l, I64 n.id) (hl : l.length ≤ 1048576) :
    PC Tryz.prog 62 [.lst nil 8 (encN l) .none, .int .i64 id] (.lst (decide (Gw.Tree.above l id = [])) 1 (encZ (Gw.Tree.above l id)) .none) := by
  have hel := encN_len l
  have hck := rtreeCheck_pc nil l hi hl
  have hat := fun z => rat_pc nil l z hl
  unfold Gw.Tree.above
  refine PC.ofS tabOk mixed (fn := Tryz.f62) (by kernel_rfl) rfl (by kernel_rfl) rfl rfl ?_
  conv => whnf
  refine AC.of_pc hck rfl ?_
  cases hc : Gw.Tree.check l with
  | false =>
    conv => whnf
    repeat (first | refine ⟨fun _ => ?_, fun h => absurd h (by decide)⟩ | refine ⟨fun h => absurd h (by decide), fun _ => ?_⟩ | refine ⟨fun _ => ?_, fun h => absurd (show true = false from h) (by decide)⟩ | refine ⟨fun h => absurd (show false = true from h) (by decide), fun _ => ?_⟩
            (conv => whnf))
    exact SubV.nil _ _ _
  | true =>
  rw [if_pos rfl]
  conv => whnf
  repeat (first | refine ⟨fun _ => ?_, fun h => absurd h (by decide)⟩ | refine ⟨fun h => absurd h (by decide), fun _ => ?_⟩ | refine ⟨fun _ => ?_, fun h => absurd (show true = false from h) (by decide)⟩ | refine ⟨fun h => absurd (show false = true from h) (by decide), fun _ => ?_⟩
          (conv => whnf))
  refine AW.row 5 3 1 rfl rfl (.inr rfl) ?_
  refine AW.loop (X := List Int × Int) (fun x => [(.tmp 0, .v (.lst nil 8 (encN l) .none)), (.tmp 1, .v (.int .i64 x.2)), (.tmp 7, .v (.int .i64 x.1.length)), (.tmp 5, .v (.lst (decide (x.1 = [])) 1 (encZ x.1) (.row 7))), (.row 7, .row 3 1 x.1.length)]) 8
    (fun x => x.1.length ≤ l.length ∧ Gw.Tree.climb l l.length id = x.1 ++ Gw.Tree.climb l (l.length - x.1.length) x.2) (fun x => l.length - x.1.length) (by decide) ([], id) ⟨Nat.zero_le _, by rw [List.nil_append, List.length_nil, Nat.sub_zero]⟩ ⟨rfl, rfl, rfl, rfl, rfl, rfl, rfl, rfl, rfl, rfl, trivial⟩ ?_
  rintro ⟨acc, z⟩ ⟨h1, h2⟩
  simp only at h1 h2
  dsimp only
  have hal := encZ_len acc
  refine ev_sound tabOk mixed _ _ _ _ ?_
  conv => whnf
  rw [hel]
  refine ⟨fun h => ?_, fun h => ?_⟩
  · have h := of_decide_eq_true h
    have hlt : acc.length < l.length := by omega
    obtain ⟨f, hf⟩ : ∃ f, l.length - acc.length = f + 1 := ⟨l.length - acc.length - 1, by omega⟩
    rw [hf, Gw.Tree.climb] at h2
    conv => whnf
    refine AC.of_pc (hat z) rfl ?_
    cases hfd : Gw.Tree.find l z with
    | none =>
      rw [hfd] at h2
      simp only [List.append_nil] at h2
      rw [h2, Gw.Tree.at_none hc hfd]
      conv => whnf
      repeat (first | refine ⟨fun _ => ?_, fun h => absurd h (by decide)⟩ | refine ⟨fun h => absurd h (by decide), fun _ => ?_⟩ | refine ⟨fun _ => ?_, fun h => absurd (show true = false from h) (by decide)⟩ | refine ⟨fun h => absurd (show false = true from h) (by decide), fun _ => ?_⟩
              (conv => whnf))
      exact SubV.refl _
    | some nd =>
      rw [hfd] at h2
      simp only at h2
      obtain ⟨_, _, hp, hnd⟩ := Gw.Tree.find_some hfd
      have hg := encN_get hp
      rw [hnd] at hg
      rw [Gw.Tree.at_some hc hfd]
      generalize Gw.Tree.pos l z = p at *
      conv => whnf
      refine ⟨fun h => absurd (of_decide_eq_true h) (by omega), fun _ => ?_⟩
      conv => whnf
      refine ⟨_, ⟨by omega, hg⟩, ?_⟩
      conv => whnf
      refine ⟨fun h => ?_, fun h => ?_⟩
      · have h : nd.parent = -1 := by simpa using h
        rw [if_pos h, List.append_nil] at h2
        rw [h2]
        conv => whnf
        exact SubV.refl _
      · have h : nd.parent ≠ -1 := by simpa using h
        rw [if_neg h] at h2
        conv => whnf
        refine ⟨_, ⟨by omega, hg⟩, ?_⟩
        conv => whnf
        refine ⟨⟨hal.symm, fits_small (by show (encZ acc).length + 1 ≤ _; omega) (by decide)⟩, ?_⟩
        conv => whnf
        refine ⟨(acc ++ [nd.parent], nd.parent), ⟨by show (acc ++ [nd.parent]).length ≤ _; rw [List.length_append, List.length_singleton]; omega, ?_⟩, by show l.length - (acc ++ [nd.parent]).length < l.length - acc.length; rw [List.length_append, List.length_singleton]; omega, rfl, rfl, rfl, rfl, ?_, rfl, ?_, rfl, ?_, rfl, trivial⟩
        · show _ = (acc ++ [nd.parent]) ++ Gw.Tree.climb l (l.length - (acc ++ [nd.parent]).length) nd.parent
          rw [h2, List.append_assoc, List.length_append, List.length_singleton, show l.length - (acc.length + 1) = f by omega]
          rfl
        · show C.v (V.int .i64 (IntKind.i64.wrap ((acc.length : Int) + 1))) = C.v (V.int .i64 ((acc ++ [nd.parent]).length : Nat))
          rw [w64 (by omega) (by omega), List.length_append]; rfl
        · show C.v (V.lst (decide (acc = []) && false) 1 (encZ acc ++ [[V.int .i64 nd.parent]]) _) = C.v (V.lst (decide (acc ++ [nd.parent] = [])) 1 (encZ (acc ++ [nd.parent])) _)
          rw [Bool.and_false, decide_eq_false (by simp), encZ_add]
        · show C.row _ 1 ((encZ acc).length + 1) = C.row _ 1 (acc ++ [nd.parent]).length
          rw [hal, List.length_append]
          rfl
  · have h := of_decide_eq_false h
    rw [show l.length - acc.length = 0 by omega, Gw.Tree.climb, List.append_nil] at h2
    rw [h2]
    conv => whnf
    exact SubV.refl _
end Go.Proofs.YtipgfdepopfghaaGreat
