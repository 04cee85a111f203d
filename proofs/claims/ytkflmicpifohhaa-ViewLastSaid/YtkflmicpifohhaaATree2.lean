/- Where a node is: told without addresses. No claim of its own. -/
import Derived.Test.YtkflmicpifohhaaATree1
namespace Go.Proofs.Ytkflmicpifohhaa
open Go.Am

theorem isNaN_pc (x : Int) : PC Try.prog 66 [.int .i64 x] (.bool false) := by
  refine PC.of tabOk mixed (fn := Try.f66) (by kernel_rfl) rfl (by kernel_rfl) rfl rfl ?_
  conv => whnf
  simp
def cmpI (a b : Int) : Int := if a < b then -1 else if b < a then 1 else 0
theorem cmpInt_pc (a b : Int) : PC Try.prog 57 [.int .i64 a, .int .i64 b] (.int .i64 (cmpI a b)) := by
  unfold cmpI
  have hn := isNaN_pc
  refine PC.of tabOk mixed (fn := Try.f57) (by kernel_rfl) rfl (by kernel_rfl) rfl rfl ?_
  conv => whnf
  refine AC.of_pc (hn a) rfl ?_
  conv => whnf
  refine AC.of_pc (hn b) rfl ?_
  conv => whnf
  repeat (first | refine ⟨fun _ => ?_, fun h => absurd h (by decide)⟩ | refine ⟨fun h => absurd h (by decide), fun _ => ?_⟩ | refine ⟨fun _ => ?_, fun h => absurd (show true = false from h) (by decide)⟩ | refine ⟨fun h => absurd (show false = true from h) (by decide), fun _ => ?_⟩
          (conv => whnf))
  refine ⟨fun h => ?_, fun h => ?_⟩
  · rw [if_pos (of_decide_eq_true h)]
    conv => whnf
  · have h := of_decide_eq_false h
    rw [if_neg h]
    conv => whnf
    refine ⟨fun h2 => ?_, fun h2 => ?_⟩
    · rw [if_pos (of_decide_eq_true h2)]
      conv => whnf
    · rw [if_neg (of_decide_eq_false h2)]
      conv => whnf
theorem placeCmp_pc (n : Gw.Tree.Node) (id : Int) : PC Try.prog 56 [.agg (cellsN n), .int .i64 id] (.int .i64 (cmpI n.id id)) := by
  have hc := cmpInt_pc n.id id
  refine PC.of tabOk mixed (fn := Try.f56) (by kernel_rfl) rfl (by kernel_rfl) rfl rfl ?_
  conv => whnf
  refine AC.of_pc hc rfl ?_
  conv => whnf
theorem bsearch_pc (nil : Bool) (l : List Gw.Tree.Node) (id : Int) (hl : l.length ≤ 1048576) (hc : Gw.Tree.check l = true) :
    PC Try.prog 55 [.lst nil 8 (encN l) .none, .int .i64 id, .func 56 [] []] (.tup [.int .i64 (Gw.Tree.pos l id : Nat), .bool (Gw.Tree.had l id)]) := by
  have hel := encN_len l
  refine PC.of tabOk mixed (fn := Try.f55) (by kernel_rfl) rfl (by kernel_rfl) rfl rfl ?_
  conv => whnf
  refine AW.loop (X := Nat × Nat) (fun x => [(.tmp 0, .v (.lst nil 8 (encN l) .none)), (.tmp 1, .v (.int .i64 id)), (.tmp 2, .v (.func 56 [] [])), (.tmp 8, .v (.int .i64 l.length)), (.tmp 9, .v (.int .i64 x.1)), (.tmp 10, .v (.int .i64 x.2))]) 0
    (fun x => x.1 ≤ x.2 ∧ x.2 ≤ l.length ∧ (∀ k (hk : k < l.length), k < x.1 → l[k].id < id) ∧ (∀ k (hk : k < l.length), x.2 ≤ k → id ≤ l[k].id)) (fun x => x.2 - x.1) (by decide) (0, l.length) ⟨Nat.zero_le _, Nat.le_refl _, (fun k _ h => absurd h (Nat.not_lt_zero k)), (fun k h1 h2 => absurd h1 (by have : l.length ≤ k := h2; omega))⟩ ⟨rfl, rfl, rfl, rfl, rfl, rfl, ?_, rfl, rfl, rfl, ?_, rfl, trivial⟩ ?_
  · show C.v (V.int .i64 (encN l).length) = _
    rw [hel]
  · show C.v (V.int .i64 (encN l).length) = _
    rw [hel]
  rintro ⟨i, j⟩ ⟨h1, h2, h3, h4⟩
  simp only at h1 h2 h3 h4
  dsimp only
  refine ev_sound tabOk mixed _ _ _ _ ?_
  conv => whnf
  refine ⟨fun h => ?_, fun h => ?_⟩
  · have h := of_decide_eq_true h
    conv => whnf
    refine ⟨by decide, ?_⟩
    have e1 : IntKind.i64.wrap ((IntKind.u64.wrap (IntKind.i64.wrap ((i : Int) + j))).fdiv (2 ^ min (Int.toNat 1) IntKind.u64.bits)) = (((i + j) / 2 : Nat) : Int) := by
      have q1 : IntKind.i64.wrap ((i : Int) + j) = ((i + j : Nat) : Int) := by rw [w64 (by omega) (by omega)]; rfl
      have q2 : IntKind.u64.wrap ((i + j : Nat) : Int) = ((i + j : Nat) : Int) := by rw [IntKind.wrap_u64]; omega
      rw [q1, q2, show (2 : Int) ^ min (Int.toNat 1) IntKind.u64.bits = 2 from rfl, Int.fdiv_eq_ediv_of_nonneg _ (by decide), w64 (by omega) (by omega)]
      omega
    have hh : (i + j) / 2 < l.length := by omega
    have hg := encN_get hh
    conv => whnf
    rw [e1]
    generalize hm : (i + j) / 2 = q at *
    refine ⟨_, ⟨by omega, hg⟩, ?_⟩
    have hp := placeCmp_pc l[q] id
    have w1 : IntKind.i64.wrap ((q : Int) + 1) = ((q + 1 : Nat) : Int) := by rw [w64 (by omega) (by omega)]; rfl
    conv => whnf
    refine AC.of_pc hp rfl ?_
    conv => whnf
    refine ⟨fun h5 => ?_, fun h5 => ?_⟩
    · have h5 : l[q].id < id := by
        have h5 := of_decide_eq_true h5
        unfold cmpI at h5
        split at h5
        · assumption
        · split at h5 <;> omega
      conv => whnf
      refine ⟨(q + 1, j), ⟨by show q + 1 ≤ j; omega, h2, fun k hk h6 => ?_, h4⟩, by show j - (q + 1) < j - i; omega, rfl, rfl, rfl, rfl, rfl, rfl, rfl, rfl, ?_, rfl, rfl, rfl, trivial⟩
      · have h6 : k < q + 1 := h6
        by_cases e : k = q
        · subst e; exact h5
        · have := Gw.Tree.check_lt hc (show k < q by omega) hh; omega
      · show C.v (V.int .i64 (IntKind.i64.wrap ((q : Int) + 1))) = _
        rw [w1]
    · have h5 : id ≤ l[q].id := by
        have h5 := of_decide_eq_false h5
        unfold cmpI at h5
        split at h5
        · omega
        · omega
      conv => whnf
      refine ⟨(i, q), ⟨by show i ≤ q; omega, by show q ≤ l.length; omega, h3, fun k hk h6 => ?_⟩, by show q - i < j - i; omega, rfl, rfl, rfl, rfl, rfl, rfl, rfl, rfl, rfl, rfl, rfl, rfl, trivial⟩
      have h6 : q ≤ k := h6
      by_cases e : q = k
      · subst e; exact h5
      · have := Gw.Tree.check_lt hc (show q < k by omega) hk; omega
  · have h := of_decide_eq_false h
    have hij : i = j := by omega
    subst hij
    have hpos := Gw.Tree.pos_of h2 h3 h4
    conv => whnf
    refine ⟨fun h => ?_, fun h => ?_⟩
    · have h := of_decide_eq_true h
      have hlt : i < l.length := by omega
      have hg := encN_get hlt
      have hp := placeCmp_pc l[i] id
      have hd : Gw.Tree.had l id = decide (l[i].id = id) := by
        unfold Gw.Tree.had
        rw [← hpos, List.getElem?_eq_getElem hlt]
      conv => whnf
      refine ⟨_, ⟨by omega, hg⟩, ?_⟩
      conv => whnf
      refine AC.of_pc hp rfl ?_
      conv => whnf
      rw [hd, ← hpos]
      congr 3
      unfold cmpI
      rw [V.bool.injEq, Bool.eq_iff_iff, beq_iff_eq, decide_eq_true_eq]
      split
      · omega
      · split <;> omega
    · have h := of_decide_eq_false h
      conv => whnf
      have hd : Gw.Tree.had l id = false := by
        unfold Gw.Tree.had
        rw [← hpos, List.getElem?_eq_none (by omega)]
      rw [hd, ← hpos]
theorem place_pc (nil : Bool) (l : List Gw.Tree.Node) (id : Int) (hl : l.length ≤ 1048576) (hc : Gw.Tree.check l = true) : PC Try.prog 43 [.lst nil 8 (encN l) .none, .int .i64 id] (.tup [.int .i64 (Gw.Tree.pos l id : Nat), .bool (Gw.Tree.had l id)]) := by
  have hb := bsearch_pc nil l id hl hc
  refine PC.of tabOk mixed (fn := Try.f43) (by kernel_rfl) rfl (by kernel_rfl) rfl rfl ?_
  conv => whnf
  refine AC.of_pc hb rfl ?_
  conv => whnf
end Go.Proofs.Ytkflmicpifohhaa
