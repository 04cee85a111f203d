/- NameOrder and NameBytes: told without addresses. No claim of its own. -/
import Derived.Test.YtgbahdoiogcpiaaDoorAName3
import Derived.Test.YtgbahdoiogcpiaaDoorRuneLaw2
namespace Go.Proofs.YtgbahdoiogcpiaaDoor
open Go.Am

theorem order_pc (a b c : List UInt8) : PC Tryd.prog 5 [.str a, .str b, .str c] (.bool true) := by
  refine PC.of tabOk mixed (fn := Tryd.f5) (by kernel_rfl) rfl (by kernel_rfl) rfl rfl ?_
  conv => whnf
  refine AC.of_pc awake_pc rfl ?_
  conv => whnf
  refine ⟨fun h => ?_, fun h => ?_⟩
  · conv => whnf
    repeat (first | refine ⟨fun _ => ?_, fun h => absurd h (by decide)⟩ | refine ⟨fun h => absurd h (by decide), fun _ => ?_⟩ | refine ⟨fun _ => ?_, fun h => absurd (show true = false from h) (by decide)⟩ | refine ⟨fun h => absurd (show false = true from h) (by decide), fun _ => ?_⟩
            (conv => whnf))
  have ha : a.length ≤ 1000 := by have := of_decide_eq_false h; omega
  conv => whnf
  refine ⟨fun h => ?_, fun h => ?_⟩
  · conv => whnf
    repeat (first | refine ⟨fun _ => ?_, fun h => absurd h (by decide)⟩ | refine ⟨fun h => absurd h (by decide), fun _ => ?_⟩ | refine ⟨fun _ => ?_, fun h => absurd (show true = false from h) (by decide)⟩ | refine ⟨fun h => absurd (show false = true from h) (by decide), fun _ => ?_⟩
            (conv => whnf))
  have hb : b.length ≤ 1000 := by have := of_decide_eq_false h; omega
  conv => whnf
  refine ⟨fun h => ?_, fun h => ?_⟩
  · conv => whnf
  have hc : c.length ≤ 1000 := by have := of_decide_eq_false h; omega
  have c1 := less_pc a b (by omega) (by omega)
  have c2 := less_pc b a (by omega) (by omega)
  have c3 := less_pc b c (by omega) (by omega)
  have c4 := less_pc a c (by omega) (by omega)
  have hord := Gw.Rune.order a b
  have htr := @Gw.Rune.less_trans a b c
  generalize Gw.Name.less a b = p at c1 hord htr
  generalize Gw.Name.less b a = q at c2 hord
  generalize Gw.Name.less b c = r at c3 htr
  generalize Gw.Name.less a c = s at c4 htr
  conv => whnf
  refine AC.of_pc c1 rfl ?_
  conv => whnf
  refine ⟨fun h => ?_, fun h => ?_⟩
  · conv => whnf
    repeat (first | refine ⟨fun _ => ?_, fun h => absurd h (by decide)⟩ | refine ⟨fun h => absurd h (by decide), fun _ => ?_⟩ | refine ⟨fun _ => ?_, fun h => absurd (show true = false from h) (by decide)⟩ | refine ⟨fun h => absurd (show false = true from h) (by decide), fun _ => ?_⟩
            (conv => whnf))
    refine AC.of_pc c1 rfl ?_
    conv => whnf
    refine AC.of_pc c2 rfl ?_
    conv => whnf
    refine ⟨fun _ => ?_, fun h => ?_⟩
    · conv => whnf
    · have h : ((p != q) == (!decide (a = b))) = false := h
      rw [hord] at h; simp at h
  have hp : p = true := by simpa using h
  conv => whnf
  refine AC.of_pc c3 rfl ?_
  conv => whnf
  refine ⟨fun h => ?_, fun h => ?_⟩
  · conv => whnf
    repeat (first | refine ⟨fun _ => ?_, fun h => absurd h (by decide)⟩ | refine ⟨fun h => absurd h (by decide), fun _ => ?_⟩ | refine ⟨fun _ => ?_, fun h => absurd (show true = false from h) (by decide)⟩ | refine ⟨fun h => absurd (show false = true from h) (by decide), fun _ => ?_⟩
            (conv => whnf))
    refine AC.of_pc c1 rfl ?_
    conv => whnf
    refine AC.of_pc c2 rfl ?_
    conv => whnf
    refine ⟨fun _ => ?_, fun h => ?_⟩
    · conv => whnf
    · have h : ((p != q) == (!decide (a = b))) = false := h
      rw [hord] at h; simp at h
  have hr : r = true := by simpa using h
  rw [htr hp hr] at c4
  conv => whnf
  refine AC.of_pc c4 rfl ?_
  conv => whnf
  repeat (first | refine ⟨fun _ => ?_, fun h => absurd h (by decide)⟩ | refine ⟨fun h => absurd h (by decide), fun _ => ?_⟩ | refine ⟨fun _ => ?_, fun h => absurd (show true = false from h) (by decide)⟩ | refine ⟨fun h => absurd (show false = true from h) (by decide), fun _ => ?_⟩
          (conv => whnf))
  refine AC.of_pc c1 rfl ?_
  conv => whnf
  refine AC.of_pc c2 rfl ?_
  conv => whnf
  refine ⟨fun _ => ?_, fun h => ?_⟩
  · conv => whnf
  · have h : ((p != q) == (!decide (a = b))) = false := h
    rw [hord] at h; simp at h
theorem bytes_pc (a b : List UInt8) : PC Tryd.prog 6 [.str a, .str b] (.bool true) := by
  refine PC.of tabOk mixed (fn := Tryd.f6) (by kernel_rfl) rfl (by kernel_rfl) rfl rfl ?_
  conv => whnf
  refine AC.of_pc awake_pc rfl ?_
  conv => whnf
  refine ⟨fun h => ?_, fun h => ?_⟩
  · conv => whnf
    repeat (first | refine ⟨fun _ => ?_, fun h => absurd h (by decide)⟩ | refine ⟨fun h => absurd h (by decide), fun _ => ?_⟩ | refine ⟨fun _ => ?_, fun h => absurd (show true = false from h) (by decide)⟩ | refine ⟨fun h => absurd (show false = true from h) (by decide), fun _ => ?_⟩
            (conv => whnf))
  have ha : a.length ≤ 1000 := by have := of_decide_eq_false h; omega
  conv => whnf
  refine ⟨fun h => ?_, fun h => ?_⟩
  · conv => whnf
  have hb : b.length ≤ 1000 := by have := of_decide_eq_false h; omega
  have c1 := runes_pc a (by omega)
  have c2 := runes_pc b (by omega)
  have c3 := less_pc a b (by omega) (by omega)
  have c4 := less_pc b a (by omega) (by omega)
  rw [runesV_eq] at c1 c2
  generalize ((Gw.Name.spell a).getD []).length = n1 at c1
  generalize ((Gw.Name.spell b).getD []).length = n2 at c2
  have hb := @Gw.Rune.less_bytes a b
  have hm := @Gw.Rune.mixed a b
  cases ha : Gw.Name.spell a with
  | some l =>
    rw [ha] at c1 hb
    have c1 : PC Tryd.prog 11 [.str a] (.tup [.int .i64 n1, .bool true]) := c1
    cases hbb : Gw.Name.spell b with
    | some l' =>
      rw [hbb] at c2 hb
      rw [hb rfl] at c3
      have c2 : PC Tryd.prog 11 [.str b] (.tup [.int .i64 n2, .bool true]) := c2
      conv => whnf
      refine AC.of_pc c1 rfl ?_
      conv => whnf
      refine AC.of_pc c2 rfl ?_
      conv => whnf
      repeat (first | refine ⟨fun _ => ?_, fun h => absurd h (by decide)⟩ | refine ⟨fun h => absurd h (by decide), fun _ => ?_⟩ | refine ⟨fun _ => ?_, fun h => absurd (show true = false from h) (by decide)⟩ | refine ⟨fun h => absurd (show false = true from h) (by decide), fun _ => ?_⟩
              (conv => whnf))
      refine AC.of_pc c3 rfl ?_
      conv => whnf
      simp
    | none =>
      rw [hbb] at c2
      rw [(hm ha hbb).1] at c3
      rw [(hm ha hbb).2] at c4
      have c2 : PC Tryd.prog 11 [.str b] (.tup [.int .i64 n2, .bool false]) := c2
      conv => whnf
      refine AC.of_pc c1 rfl ?_
      conv => whnf
      refine AC.of_pc c2 rfl ?_
      conv => whnf
      repeat (first | refine ⟨fun _ => ?_, fun h => absurd h (by decide)⟩ | refine ⟨fun h => absurd h (by decide), fun _ => ?_⟩ | refine ⟨fun _ => ?_, fun h => absurd (show true = false from h) (by decide)⟩ | refine ⟨fun h => absurd (show false = true from h) (by decide), fun _ => ?_⟩
              (conv => whnf))
      refine AC.of_pc c3 rfl ?_
      conv => whnf
      repeat (first | refine ⟨fun _ => ?_, fun h => absurd h (by decide)⟩ | refine ⟨fun h => absurd h (by decide), fun _ => ?_⟩ | refine ⟨fun _ => ?_, fun h => absurd (show true = false from h) (by decide)⟩ | refine ⟨fun h => absurd (show false = true from h) (by decide), fun _ => ?_⟩
              (conv => whnf))
      refine AC.of_pc c4 rfl ?_
      conv => whnf
      rfl
  | none =>
    rw [ha] at c1 hb
    have c1 : PC Tryd.prog 11 [.str a] (.tup [.int .i64 n1, .bool false]) := c1
    cases hbb : Gw.Name.spell b with
    | some l' =>
      rw [hbb] at c2
      have c2 : PC Tryd.prog 11 [.str b] (.tup [.int .i64 n2, .bool true]) := c2
      conv => whnf
      refine AC.of_pc c1 rfl ?_
      conv => whnf
      refine AC.of_pc c2 rfl ?_
      conv => whnf
      repeat (first | refine ⟨fun _ => ?_, fun h => absurd h (by decide)⟩ | refine ⟨fun h => absurd h (by decide), fun _ => ?_⟩ | refine ⟨fun _ => ?_, fun h => absurd (show true = false from h) (by decide)⟩ | refine ⟨fun h => absurd (show false = true from h) (by decide), fun _ => ?_⟩
              (conv => whnf))
    | none =>
      rw [hbb] at c2 hb
      rw [hb rfl] at c3
      have c2 : PC Tryd.prog 11 [.str b] (.tup [.int .i64 n2, .bool false]) := c2
      conv => whnf
      refine AC.of_pc c1 rfl ?_
      conv => whnf
      refine AC.of_pc c2 rfl ?_
      conv => whnf
      repeat (first | refine ⟨fun _ => ?_, fun h => absurd h (by decide)⟩ | refine ⟨fun h => absurd h (by decide), fun _ => ?_⟩ | refine ⟨fun _ => ?_, fun h => absurd (show true = false from h) (by decide)⟩ | refine ⟨fun h => absurd (show false = true from h) (by decide), fun _ => ?_⟩
              (conv => whnf))
      refine AC.of_pc c3 rfl ?_
      conv => whnf
      simp
end Go.Proofs.YtgbahdoiogcpiaaDoor
