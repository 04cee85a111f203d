/- An operation on nodes: told without addresses. No claim of its own. -/
import Derived.Test.YtkflmicpifohhaaATree4
import Derived.Test.YtkflmicpifohhaaAOpV
import Derived.Test.YtkflmicpifohhaaTreeFn
namespace Go.Proofs.Ytkflmicpifohhaa
open Go.Am

def encU (u : Gw.Tree.Undo) : V := .agg (.bool u.did :: .bool u.had :: cellsN u.was)
theorem same_pc (nil : Bool) (l : List Gw.Tree.Node) (hl : l.length ≤ 1048576) : PC Try.prog 39 [.lst nil 8 (encN l) .none] (.lst false 8 (encN l) .none) := by
  have hel := encN_len l
  have hlay := lay_pc nil true l [] l.length l.length (Nat.le_refl _) (Nat.le_refl _) hl (Nat.zero_le _)
  rw [List.take_length, List.drop_length, List.append_nil, List.append_nil] at hlay
  have hlay := hlay.args (args' := [.lst nil 8 (encN l) .none, .int .i64 (l.length : Nat), .int .i64 (l.length : Nat), .lst true 1 [] .none]) (.cons (.refl _) (.cons (.refl _) (.cons (.refl _) (.cons (.nil _ _ _) .nil))))
  refine PC.of tabOk mixed (fn := Try.f39) (by kernel_rfl) rfl (by kernel_rfl) rfl rfl ?_
  conv => whnf
  rw [hel]
  refine AC.of_pc hlay rfl ?_
  conv => whnf
theorem do_pc (nil : Bool) (l : List Gw.Tree.Node) (o : Gw.Op.Op) (hi : ∀ n ∈ l, I64 n.id) (hl : l.length ≤ 1000000) (hf : Fine o) :
    PC Try.prog 18 [.lst nil 8 (encN l) .none, encO o] (.tup [.lst false 8 (encN (Gw.Tree.done l o)) .none, encU (Gw.Tree.undo l o)]) := by
  have hel := encN_len l
  have hck := treeCheck_pc nil l hi (by omega)
  have hoc := opCheck_pc o hf
  have hsm := same_pc nil l (by omega)
  refine PC.of tabOk mixed (fn := Try.f18) (by kernel_rfl) rfl (by kernel_rfl) rfl rfl ?_
  have hmd : Gw.Tree.may l o = (Gw.Tree.check l && (Gw.Op.check o && !(decide (o.kind = 1) && Gw.Tree.loops l o))) := rfl
  unfold Gw.Tree.done Gw.Tree.undo
  generalize Gw.Tree.may l o = m at *
  conv => whnf
  refine AC.of_pc hck rfl ?_
  cases hc : Gw.Tree.check l with
  | false =>
    rw [hc] at hmd
    subst hmd
    conv => whnf
    repeat (first | refine ⟨fun _ => ?_, fun h => absurd h (by decide)⟩ | refine ⟨fun h => absurd h (by decide), fun _ => ?_⟩ | refine ⟨fun _ => ?_, fun h => absurd (show true = false from h) (by decide)⟩ | refine ⟨fun h => absurd (show false = true from h) (by decide), fun _ => ?_⟩
            (conv => whnf))
    refine AC.of_pc hsm rfl ?_
    conv => whnf
    rfl
  | true =>
  have hab := fun id => tabove_pc nil l id (by omega) hc
  have hpl := fun z => place_pc nil l z (by omega) hc
  rw [hc, Bool.true_and] at hmd
  cases hq : Gw.Op.check o with
  | false =>
    rw [hq] at hmd
    subst hmd
    conv => whnf
    repeat (first | refine ⟨fun _ => ?_, fun h => absurd h (by decide)⟩ | refine ⟨fun h => absurd h (by decide), fun _ => ?_⟩ | refine ⟨fun _ => ?_, fun h => absurd (show true = false from h) (by decide)⟩ | refine ⟨fun h => absurd (show false = true from h) (by decide), fun _ => ?_⟩
            (conv => whnf))
    refine AC.of_pc hoc rfl ?_
    rw [hq]
    conv => whnf
    repeat (first | refine ⟨fun _ => ?_, fun h => absurd h (by decide)⟩ | refine ⟨fun h => absurd h (by decide), fun _ => ?_⟩ | refine ⟨fun _ => ?_, fun h => absurd (show true = false from h) (by decide)⟩ | refine ⟨fun h => absurd (show false = true from h) (by decide), fun _ => ?_⟩
            (conv => whnf))
    refine AC.of_pc hsm rfl ?_
    conv => whnf
    rfl
  | true =>
  rw [hq, Bool.true_and] at hmd
  conv => whnf
  repeat (first | refine ⟨fun _ => ?_, fun h => absurd h (by decide)⟩ | refine ⟨fun h => absurd h (by decide), fun _ => ?_⟩ | refine ⟨fun _ => ?_, fun h => absurd (show true = false from h) (by decide)⟩ | refine ⟨fun h => absurd (show false = true from h) (by decide), fun _ => ?_⟩
          (conv => whnf))
  refine AC.of_pc hoc rfl ?_
  rw [hq]
  conv => whnf
  repeat (first | refine ⟨fun _ => ?_, fun h => absurd h (by decide)⟩ | refine ⟨fun h => absurd h (by decide), fun _ => ?_⟩ | refine ⟨fun _ => ?_, fun h => absurd (show true = false from h) (by decide)⟩ | refine ⟨fun h => absurd (show false = true from h) (by decide), fun _ => ?_⟩
          (conv => whnf))
  have hlow := Gw.Tree.climb_len l l.length o.parent
  have hct := contains_pc (decide (Gw.Tree.climb l l.length o.parent = [])) (Gw.Tree.climb l l.length o.parent) o.node (by omega)
  refine ⟨fun h => ?_, fun h => ?_⟩
  · have hk : o.kind = 1 := by simpa using h
    rw [decide_eq_true hk, Bool.true_and] at hmd
    unfold Gw.Tree.loops at hmd
    conv => whnf
    refine AC.of tabOk mixed (fn := Try.f40) (by kernel_rfl) rfl (by kernel_rfl) rfl rfl ?_
    conv => whnf
    refine ⟨fun h => ?_, fun h => ?_⟩
    · have he : o.parent = o.node := by simpa using h
      rw [decide_eq_true he] at hmd
      have hmd : m = false := hmd
      subst hmd
      conv => whnf
      refine ⟨by kernel_rfl, ?_⟩
      conv => whnf
      repeat (first | refine ⟨fun _ => ?_, fun h => absurd h (by decide)⟩ | refine ⟨fun h => absurd h (by decide), fun _ => ?_⟩ | refine ⟨fun _ => ?_, fun h => absurd (show true = false from h) (by decide)⟩ | refine ⟨fun h => absurd (show false = true from h) (by decide), fun _ => ?_⟩
              (conv => whnf))
      refine AC.of_pc hsm rfl ?_
      conv => whnf
      rfl
    · have he : o.parent ≠ o.node := by simpa using h
      rw [decide_eq_false he, Bool.false_or] at hmd
      conv => whnf
      refine ⟨_, rfl, hab o.parent, ?_⟩
      conv => whnf
      refine ⟨_, rfl, hct, ?_⟩
      generalize (Gw.Tree.climb l l.length o.parent).contains o.node = lp at *
      conv => whnf
      refine ⟨by kernel_rfl, ?_⟩
      conv => whnf
      refine ⟨fun h => ?_, fun h => ?_⟩
      · have h : lp = true := h
        rw [h] at hmd
        have hmd : m = false := hmd
        subst hmd
        conv => whnf
        refine AC.of_pc hsm rfl ?_
        conv => whnf
        rfl
      · have h : lp = false := h
        rw [h] at hmd
        have hmd : m = true := hmd
        subst hmd
        rw [if_pos rfl, if_pos rfl]
        conv => whnf
        refine AC.of_pc (hpl o.node) rfl ?_
        have hpp := Gw.Tree.pos_le l o.node
        cases hfd : Gw.Tree.find l o.node with
        | none =>
          have hhd : Gw.Tree.had l o.node = false := by rw [Gw.Tree.had_find, hfd]; rfl
          have hup : Gw.Tree.upto l o.node = Gw.Tree.pos l o.node := by unfold Gw.Tree.upto; rw [hhd, if_neg (by decide)]
          have hlay := lay_pc nil false l [Gw.Tree.turned (Gw.Tree.freshN o.node) o] (Gw.Tree.pos l o.node) (Gw.Tree.pos l o.node) (Nat.le_refl _) hpp (by omega) (Nat.le_refl _)
          rw [hhd, hup]
          unfold Gw.Tree.turned at hlay ⊢
          rw [if_pos hk] at hlay ⊢
          conv => whnf
          repeat (first | refine ⟨fun _ => ?_, fun h => absurd h (by decide)⟩ | refine ⟨fun h => absurd h (by decide), fun _ => ?_⟩ | refine ⟨fun _ => ?_, fun h => absurd (show true = false from h) (by decide)⟩ | refine ⟨fun h => absurd (show false = true from h) (by decide), fun _ => ?_⟩
                  (conv => whnf))
          refine ⟨fun _ => ?_, fun h => absurd h (by rw [hk]; decide)⟩
          conv => whnf
          refine ⟨by kernel_rfl, ?_⟩
          conv => whnf
          refine ⟨_, rfl, hlay, ?_⟩
          conv => whnf
          refine ⟨by kernel_rfl, ?_⟩
          conv => whnf
          rfl
        | some nd =>
          obtain ⟨_, hid, hp, hnd⟩ := Gw.Tree.find_some hfd
          have hg := encN_get hp
          rw [hnd] at hg
          have hhd : Gw.Tree.had l o.node = true := by rw [Gw.Tree.had_find, hfd]; rfl
          have hup : Gw.Tree.upto l o.node = Gw.Tree.pos l o.node + 1 := by unfold Gw.Tree.upto; rw [hhd, if_pos rfl]
          have hw1 : IntKind.i64.wrap ((Gw.Tree.pos l o.node : Int) + 1) = ((Gw.Tree.pos l o.node + 1 : Nat) : Int) := by rw [w64 (by omega) (by omega)]; rfl
          have hlay := lay_pc nil false l [Gw.Tree.turned nd o] (Gw.Tree.pos l o.node) (Gw.Tree.pos l o.node + 1) (Nat.le_succ _) (by omega) (by omega) (Nat.le_refl _)
          rw [hhd, hup]
          unfold Gw.Tree.turned at hlay ⊢
          rw [if_pos hk] at hlay ⊢
          conv => whnf
          repeat (first | refine ⟨fun _ => ?_, fun h => absurd h (by decide)⟩ | refine ⟨fun h => absurd h (by decide), fun _ => ?_⟩ | refine ⟨fun _ => ?_, fun h => absurd (show true = false from h) (by decide)⟩ | refine ⟨fun h => absurd (show false = true from h) (by decide), fun _ => ?_⟩
                  (conv => whnf))
          refine ⟨_, ⟨by omega, hg⟩, ?_⟩
          conv => whnf
          rw [hw1]
          refine ⟨fun _ => ?_, fun h => absurd h (by rw [hk]; decide)⟩
          conv => whnf
          refine ⟨by kernel_rfl, ?_⟩
          conv => whnf
          refine ⟨_, rfl, hlay, ?_⟩
          conv => whnf
          refine ⟨by kernel_rfl, ?_⟩
          conv => whnf
          rfl
  · have hk : o.kind ≠ 1 := by simpa using h
    rw [decide_eq_false hk] at hmd
    have hmd : m = true := hmd
    subst hmd
    rw [if_pos rfl, if_pos rfl]
    conv => whnf
    refine AC.of_pc (hpl o.node) rfl ?_
    have hpp := Gw.Tree.pos_le l o.node
    cases hfd : Gw.Tree.find l o.node with
    | none =>
      have hhd : Gw.Tree.had l o.node = false := by rw [Gw.Tree.had_find, hfd]; rfl
      have hup : Gw.Tree.upto l o.node = Gw.Tree.pos l o.node := by unfold Gw.Tree.upto; rw [hhd, if_neg (by decide)]
      have hlay := lay_pc nil false l [Gw.Tree.turned (Gw.Tree.freshN o.node) o] (Gw.Tree.pos l o.node) (Gw.Tree.pos l o.node) (Nat.le_refl _) hpp (by omega) (Nat.le_refl _)
      rw [hhd, hup]
      unfold Gw.Tree.turned at hlay ⊢
      rw [if_neg hk] at hlay ⊢
      conv => whnf
      repeat (first | refine ⟨fun _ => ?_, fun h => absurd h (by decide)⟩ | refine ⟨fun h => absurd h (by decide), fun _ => ?_⟩ | refine ⟨fun _ => ?_, fun h => absurd (show true = false from h) (by decide)⟩ | refine ⟨fun h => absurd (show false = true from h) (by decide), fun _ => ?_⟩
              (conv => whnf))
      refine ⟨fun h => absurd h (by simpa using hk), fun _ => ?_⟩
      conv => whnf
      refine ⟨by kernel_rfl, ?_⟩
      conv => whnf
      refine ⟨_, rfl, hlay, ?_⟩
      conv => whnf
      refine ⟨by kernel_rfl, ?_⟩
      conv => whnf
      rfl
    | some nd =>
      obtain ⟨_, hid, hp, hnd⟩ := Gw.Tree.find_some hfd
      have hg := encN_get hp
      rw [hnd] at hg
      have hhd : Gw.Tree.had l o.node = true := by rw [Gw.Tree.had_find, hfd]; rfl
      have hup : Gw.Tree.upto l o.node = Gw.Tree.pos l o.node + 1 := by unfold Gw.Tree.upto; rw [hhd, if_pos rfl]
      have hw1 : IntKind.i64.wrap ((Gw.Tree.pos l o.node : Int) + 1) = ((Gw.Tree.pos l o.node + 1 : Nat) : Int) := by rw [w64 (by omega) (by omega)]; rfl
      have hlay := lay_pc nil false l [Gw.Tree.turned nd o] (Gw.Tree.pos l o.node) (Gw.Tree.pos l o.node + 1) (Nat.le_succ _) (by omega) (by omega) (Nat.le_refl _)
      rw [hhd, hup]
      unfold Gw.Tree.turned at hlay ⊢
      rw [if_neg hk] at hlay ⊢
      conv => whnf
      repeat (first | refine ⟨fun _ => ?_, fun h => absurd h (by decide)⟩ | refine ⟨fun h => absurd h (by decide), fun _ => ?_⟩ | refine ⟨fun _ => ?_, fun h => absurd (show true = false from h) (by decide)⟩ | refine ⟨fun h => absurd (show false = true from h) (by decide), fun _ => ?_⟩
              (conv => whnf))
      refine ⟨_, ⟨by omega, hg⟩, ?_⟩
      conv => whnf
      rw [hw1]
      refine ⟨fun h => absurd h (by simpa using hk), fun _ => ?_⟩
      conv => whnf
      refine ⟨by kernel_rfl, ?_⟩
      conv => whnf
      refine ⟨_, rfl, hlay, ?_⟩
      conv => whnf
      refine ⟨by kernel_rfl, ?_⟩
      conv => whnf
      rfl
end Go.Proofs.Ytkflmicpifohhaa
