/- NameBack and NameParts: told without addresses. No claim of its own. -/
import Derived.Test.YtgbahdoiogcpiaaDoorAName3
import Derived.Test.YtgbahdoiogcpiaaDoorNameLaw2
namespace Go.Proofs.YtgbahdoiogcpiaaDoor
open Go.Am

theorem back_pc (n : Bool) (l : List (List UInt8)) (p : List UInt8) (hl : l.length ≤ 9223372036854775807) : PC Tryd.prog 4 [.lst n 1 (encT l) .none, .str p] (.bool true) := by
  have hf := few_pc n l hl
  refine PC.of tabOk mixed (fn := Tryd.f4) (by kernel_rfl) rfl (by kernel_rfl) rfl rfl ?_
  conv => whnf
  refine AC.of_pc awake_pc rfl ?_
  conv => whnf
  refine AC.of_pc hf rfl ?_
  cases hq : fewT l with
  | false =>
    conv => whnf
    repeat (first | refine ⟨fun _ => ?_, fun h => absurd h (by decide)⟩ | refine ⟨fun h => absurd h (by decide), fun _ => ?_⟩ | refine ⟨fun _ => ?_, fun h => absurd (show true = false from h) (by decide)⟩ | refine ⟨fun h => absurd (show false = true from h) (by decide), fun _ => ?_⟩
            (conv => whnf))
  | true =>
    obtain ⟨q1, q2⟩ := fewT_spec hq
    conv => whnf
    refine ⟨fun h => absurd h (by decide), fun _ => ?_⟩
    conv => whnf
    refine ⟨fun h => ?_, fun h => ?_⟩
    · conv => whnf
    have hp : p.length ≤ 1000 := by have := of_decide_eq_false h; omega
    have c1 := nameJoin_pc n l (fun t ht => Nat.le_trans (q1 t ht) (by decide))
    have c3 := nameSplit_pc p (by omega)
    rw [joinV_eq] at c1
    rw [pathsV_eq] at c3
    cases hj : Gw.Name.join l with
    | none =>
      have c2 := nameSplit_pc [] (by decide)
      rw [show Gw.Name.paths [] = none from rfl] at c2
      rw [hj] at c1
      have c1 : PC Tryd.prog 15 [.lst n 1 (encT l) .none] (.tup [.str [], .int .i64 10]) := c1
      cases ho : Gw.Name.paths p with
      | none =>
        rw [ho] at c3
        have c3 : PC Tryd.prog 13 [.str p] (.tup [.lst true 1 [] .none, .int .i64 10]) := c3
        have c4 := nameJoin_pc true [] (by simp)
        rw [show Gw.Name.join [] = some [47] from rfl] at c4
        conv => whnf
        refine AC.of_pc c1 rfl ?_
        conv => whnf
        refine AC.of_pc c2 rfl ?_
        conv => whnf
        refine AC.of_pc c3 rfl ?_
        conv => whnf
        refine AC.of_pc c4 rfl ?_
        conv => whnf
        repeat (first | refine ⟨fun _ => ?_, fun h => absurd h (by decide)⟩ | refine ⟨fun h => absurd h (by decide), fun _ => ?_⟩ | refine ⟨fun _ => ?_, fun h => absurd (show true = false from h) (by decide)⟩ | refine ⟨fun h => absurd (show false = true from h) (by decide), fun _ => ?_⟩
                (conv => whnf))
        rfl
      | some y =>
        rw [ho] at c3
        have c4 := nameJoin_pc (decide (y = [])) y (fun t ht => Nat.le_trans (Gw.Name.paths_small ho t ht) (by omega))
        rw [Gw.Name.join_paths ho] at c4
        have c3 : PC Tryd.prog 13 [.str p] (.tup [.lst (decide (y = [])) 1 (encT y) .none, .int .i64 0]) := c3
        generalize decide (y = []) = dy at c3 c4
        conv => whnf
        refine AC.of_pc c1 rfl ?_
        conv => whnf
        refine AC.of_pc c2 rfl ?_
        conv => whnf
        refine AC.of_pc c3 rfl ?_
        conv => whnf
        refine AC.of_pc c4 rfl ?_
        conv => whnf
        repeat (first | refine ⟨fun _ => ?_, fun h => absurd h (by decide)⟩ | refine ⟨fun h => absurd h (by decide), fun _ => ?_⟩ | refine ⟨fun _ => ?_, fun h => absurd (show true = false from h) (by decide)⟩ | refine ⟨fun h => absurd (show false = true from h) (by decide), fun _ => ?_⟩
                (conv => whnf))
        refine ⟨fun _ => ?_, fun h => absurd h (by simp)⟩
        conv => whnf
        repeat (first | refine ⟨fun _ => ?_, fun h => absurd h (by decide)⟩ | refine ⟨fun h => absurd h (by decide), fun _ => ?_⟩ | refine ⟨fun _ => ?_, fun h => absurd (show true = false from h) (by decide)⟩ | refine ⟨fun h => absurd (show false = true from h) (by decide), fun _ => ?_⟩
                (conv => whnf))
        --E
    | some w =>
      have hw := Gw.Name.join_len hj q1
      have c2 := nameSplit_pc w (by omega)
      rw [Gw.Name.paths_join hj, pathsV_eq] at c2
      have c2 : PC Tryd.prog 13 [.str w] (.tup [.lst (decide (l = [])) 1 (encT l) .none, .int .i64 0]) := c2
      rw [hj] at c1
      have c1 : PC Tryd.prog 15 [.lst n 1 (encT l) .none] (.tup [.str w, .int .i64 0]) := c1
      have c5 := same_pc (decide (l = [])) n l l (by omega)
      rw [show decide (l = l) = true from decide_eq_true rfl] at c5
      generalize decide (l = []) = dl at c2 c5
      cases ho : Gw.Name.paths p with
      | none =>
        rw [ho] at c3
        have c3 : PC Tryd.prog 13 [.str p] (.tup [.lst true 1 [] .none, .int .i64 10]) := c3
        have c4 := nameJoin_pc true [] (by simp)
        rw [show Gw.Name.join [] = some [47] from rfl] at c4
        conv => whnf
        refine AC.of_pc c1 rfl ?_
        conv => whnf
        refine AC.of_pc c2 rfl ?_
        conv => whnf
        refine AC.of_pc c3 rfl ?_
        conv => whnf
        refine AC.of_pc c4 rfl ?_
        conv => whnf
        repeat (first | refine ⟨fun _ => ?_, fun h => absurd h (by decide)⟩ | refine ⟨fun h => absurd h (by decide), fun _ => ?_⟩ | refine ⟨fun _ => ?_, fun h => absurd (show true = false from h) (by decide)⟩ | refine ⟨fun h => absurd (show false = true from h) (by decide), fun _ => ?_⟩
                (conv => whnf))
        refine AC.of_pc c5 rfl ?_
        conv => whnf
        repeat (first | refine ⟨fun _ => ?_, fun h => absurd h (by decide)⟩ | refine ⟨fun h => absurd h (by decide), fun _ => ?_⟩ | refine ⟨fun _ => ?_, fun h => absurd (show true = false from h) (by decide)⟩ | refine ⟨fun h => absurd (show false = true from h) (by decide), fun _ => ?_⟩
                (conv => whnf))
        rfl
      | some y =>
        rw [ho] at c3
        have c4 := nameJoin_pc (decide (y = [])) y (fun t ht => Nat.le_trans (Gw.Name.paths_small ho t ht) (by omega))
        rw [Gw.Name.join_paths ho] at c4
        have c3 : PC Tryd.prog 13 [.str p] (.tup [.lst (decide (y = [])) 1 (encT y) .none, .int .i64 0]) := c3
        generalize decide (y = []) = dy at c3 c4
        conv => whnf
        refine AC.of_pc c1 rfl ?_
        conv => whnf
        refine AC.of_pc c2 rfl ?_
        conv => whnf
        refine AC.of_pc c3 rfl ?_
        conv => whnf
        refine AC.of_pc c4 rfl ?_
        conv => whnf
        repeat (first | refine ⟨fun _ => ?_, fun h => absurd h (by decide)⟩ | refine ⟨fun h => absurd h (by decide), fun _ => ?_⟩ | refine ⟨fun _ => ?_, fun h => absurd (show true = false from h) (by decide)⟩ | refine ⟨fun h => absurd (show false = true from h) (by decide), fun _ => ?_⟩
                (conv => whnf))
        refine AC.of_pc c5 rfl ?_
        conv => whnf
        repeat (first | refine ⟨fun _ => ?_, fun h => absurd h (by decide)⟩ | refine ⟨fun h => absurd h (by decide), fun _ => ?_⟩ | refine ⟨fun _ => ?_, fun h => absurd (show true = false from h) (by decide)⟩ | refine ⟨fun h => absurd (show false = true from h) (by decide), fun _ => ?_⟩
                (conv => whnf))
        refine ⟨fun _ => ?_, fun h => absurd h (by simp)⟩
        conv => whnf
        repeat (first | refine ⟨fun _ => ?_, fun h => absurd h (by decide)⟩ | refine ⟨fun h => absurd h (by decide), fun _ => ?_⟩ | refine ⟨fun _ => ?_, fun h => absurd (show true = false from h) (by decide)⟩ | refine ⟨fun h => absurd (show false = true from h) (by decide), fun _ => ?_⟩
                (conv => whnf))
        --E
theorem parts_pc (a b : List UInt8) : PC Tryd.prog 7 [.str a, .str b] (.bool true) := by
  refine PC.of tabOk mixed (fn := Tryd.f7) (by kernel_rfl) rfl (by kernel_rfl) rfl rfl ?_
  conv => whnf
  refine AC.of_pc awake_pc rfl ?_
  conv => whnf
  refine ⟨fun h => ?_, fun h => ?_⟩
  · conv => whnf
    repeat (first | refine ⟨fun _ => ?_, fun h => absurd h (by decide)⟩ | refine ⟨fun h => absurd h (by decide), fun _ => ?_⟩ | refine ⟨fun _ => ?_, fun h => absurd (show true = false from h) (by decide)⟩ | refine ⟨fun h => absurd (show false = true from h) (by decide), fun _ => ?_⟩
            (conv => whnf))
  have ha : a.length ≤ 1000 := by have := of_decide_eq_false h; omega
  conv => whnf
  refine ⟨fun h => ?_, fun h => ?_⟩
  · conv => whnf
  have hb : b.length ≤ 1000 := by have := of_decide_eq_false h; omega
  have c1 := runes_pc a (by omega)
  have c2 := runes_pc b (by omega)
  have c3 := runes_pc (a ++ b) (by rw [List.length_append]; omega)
  have c4 := nameSplit_pc (47 :: a ++ 47 :: b) (by simp only [List.cons_append, List.length_cons, List.length_append]; omega)
  have c5 := nameCheck_pc a (by omega)
  have c6 := nameCheck_pc b (by omega)
  have c7 := nameCheck_pc (a ++ 47 :: b) (by simp only [List.length_cons, List.length_append]; omega)
  have c8 := same_pc false false [a, b] [a, b] (by simp)
  rw [decide_eq_true rfl] at c8
  rw [Gw.Name.check_mark] at c7
  have hpp := @Gw.Name.paths_two a b
  have hap := @Gw.Rune.spell_append a b
  rw [runesV_eq] at c1 c2 c3
  rw [pathsV_eq] at c4
  have e4 : (([47] : List UInt8) ++ a ++ [47]) ++ b = 47 :: a ++ 47 :: b := by simp
  have e5 : (a ++ ([47] : List UInt8)) ++ b = a ++ 47 :: b := by simp
  rw [← e4] at c4
  rw [← e5] at c7
  have n1 : a.length + b.length < 9223372036854775808 := by omega
  have n2 : ([47] : List UInt8).length + a.length < 9223372036854775808 := by simp; omega
  have n3 : (([47] : List UInt8) ++ a).length + ([47] : List UInt8).length < 9223372036854775808 := by simp; omega
  have n4 : (([47] : List UInt8) ++ a ++ [47]).length + b.length < 9223372036854775808 := by simp; omega
  have n5 : a.length + ([47] : List UInt8).length < 9223372036854775808 := by simp; omega
  have n6 : (a ++ ([47] : List UInt8)).length + b.length < 9223372036854775808 := by simp; omega
  have f1 : (Gw.Name.spell a).isSome = true → (Gw.Name.spell b).isSome = true → (Gw.Name.spell (a ++ b)).isSome = true ∧ ((Gw.Name.spell (a ++ b)).getD []).length = ((Gw.Name.spell a).getD []).length + ((Gw.Name.spell b).getD []).length := by
    intro h1 h2
    obtain ⟨l, hl⟩ := Option.isSome_iff_exists.1 h1
    obtain ⟨m, hm⟩ := Option.isSome_iff_exists.1 h2
    rw [hap hl hm, hl, hm]
    exact ⟨rfl, by simp⟩
  have f2 : (Gw.Name.spell a).isSome = false → ((Gw.Name.spell a).getD []).length = 0 := by
    intro h; cases h1 : Gw.Name.spell a with | none => rfl | some l => rw [h1] at h; cases h
  have f3 : ((Gw.Name.spell a).getD []).length ≤ 1000 := by
    cases h1 : Gw.Name.spell a with | none => simp | some l => have := Gw.Name.spell_len h1; simp; omega
  have f4 : ((Gw.Name.spell b).getD []).length ≤ 1000 := by
    cases h1 : Gw.Name.spell b with | none => simp | some l => have := Gw.Name.spell_len h1; simp; omega
  rw [← e4] at hpp
  clear hap
  generalize (Gw.Name.spell a).isSome = x at c1 f1 f2
  generalize (Gw.Name.spell b).isSome = y at c2 f1
  generalize (Gw.Name.spell (a ++ b)).isSome = z at c3 f1
  generalize ((Gw.Name.spell a).getD []).length = na at c1 f1 f2 f3
  generalize ((Gw.Name.spell b).getD []).length = nb at c2 f1 f4
  generalize ((Gw.Name.spell (a ++ b)).getD []).length = nab at c3 f1
  generalize Gw.Name.check a = ca at c5 hpp
  generalize Gw.Name.check b = cb at c6 hpp
  conv => whnf
  refine AC.of_pc c1 rfl ?_
  conv => whnf
  refine AC.of_pc c2 rfl ?_
  conv => whnf
  refine ⟨n1, ?_⟩
  conv => whnf
  refine AC.of_pc c3 rfl ?_
  cases x with
  | false =>
    obtain rfl := f2 rfl
    cases y with
    | false =>
      conv => whnf
      repeat (first | refine ⟨fun _ => ?_, fun h => absurd h (by decide)⟩ | refine ⟨fun h => absurd h (by decide), fun _ => ?_⟩ | refine ⟨fun _ => ?_, fun h => absurd (show true = false from h) (by decide)⟩ | refine ⟨fun h => absurd (show false = true from h) (by decide), fun _ => ?_⟩
              (conv => whnf))
      refine ⟨n2, ?_⟩
      conv => whnf
      refine ⟨n3, ?_⟩
      conv => whnf
      refine ⟨n4, ?_⟩
      conv => whnf
      refine AC.of_pc c4 rfl ?_
      conv => whnf
      refine AC.of_pc c5 rfl ?_
      cases ca with
      | false =>
        conv => whnf
        repeat (first | refine ⟨fun _ => ?_, fun h => absurd h (by decide)⟩ | refine ⟨fun h => absurd h (by decide), fun _ => ?_⟩ | refine ⟨fun _ => ?_, fun h => absurd (show true = false from h) (by decide)⟩ | refine ⟨fun h => absurd (show false = true from h) (by decide), fun _ => ?_⟩
                (conv => whnf))
        repeat (first | refine ⟨fun _ => ?_, fun h => absurd h (by decide)⟩ | refine ⟨fun h => absurd h (by decide), fun _ => ?_⟩ | refine ⟨fun _ => ?_, fun h => absurd (show true = false from h) (by decide)⟩ | refine ⟨fun h => absurd (show false = true from h) (by decide), fun _ => ?_⟩
                (conv => whnf))
        refine ⟨n5, ?_⟩
        conv => whnf
        refine ⟨n6, ?_⟩
        conv => whnf
        refine AC.of_pc c7 rfl ?_
        conv => whnf
        repeat (first | refine ⟨fun _ => ?_, fun h => absurd h (by decide)⟩ | refine ⟨fun h => absurd h (by decide), fun _ => ?_⟩ | refine ⟨fun _ => ?_, fun h => absurd (show true = false from h) (by decide)⟩ | refine ⟨fun h => absurd (show false = true from h) (by decide), fun _ => ?_⟩
                (conv => whnf))
        rfl
      | true =>
        conv => whnf
        repeat (first | refine ⟨fun _ => ?_, fun h => absurd h (by decide)⟩ | refine ⟨fun h => absurd h (by decide), fun _ => ?_⟩ | refine ⟨fun _ => ?_, fun h => absurd (show true = false from h) (by decide)⟩ | refine ⟨fun h => absurd (show false = true from h) (by decide), fun _ => ?_⟩
                (conv => whnf))
        refine AC.of_pc c6 rfl ?_
        cases cb with
        | false =>
          conv => whnf
          repeat (first | refine ⟨fun _ => ?_, fun h => absurd h (by decide)⟩ | refine ⟨fun h => absurd h (by decide), fun _ => ?_⟩ | refine ⟨fun _ => ?_, fun h => absurd (show true = false from h) (by decide)⟩ | refine ⟨fun h => absurd (show false = true from h) (by decide), fun _ => ?_⟩
                  (conv => whnf))
          repeat (first | refine ⟨fun _ => ?_, fun h => absurd h (by decide)⟩ | refine ⟨fun h => absurd h (by decide), fun _ => ?_⟩ | refine ⟨fun _ => ?_, fun h => absurd (show true = false from h) (by decide)⟩ | refine ⟨fun h => absurd (show false = true from h) (by decide), fun _ => ?_⟩
                  (conv => whnf))
          refine ⟨n5, ?_⟩
          conv => whnf
          refine ⟨n6, ?_⟩
          conv => whnf
          refine AC.of_pc c7 rfl ?_
          conv => whnf
          repeat (first | refine ⟨fun _ => ?_, fun h => absurd h (by decide)⟩ | refine ⟨fun h => absurd h (by decide), fun _ => ?_⟩ | refine ⟨fun _ => ?_, fun h => absurd (show true = false from h) (by decide)⟩ | refine ⟨fun h => absurd (show false = true from h) (by decide), fun _ => ?_⟩
                  (conv => whnf))
          rfl
        | true =>
          have c4 := hpp rfl rfl
          have hE : (Gw.Name.paths (([47] : List UInt8) ++ a ++ [47] ++ b)) = some [a, b] := c4
          rw [hE]
          conv => whnf
          repeat (first | refine ⟨fun _ => ?_, fun h => absurd h (by decide)⟩ | refine ⟨fun h => absurd h (by decide), fun _ => ?_⟩ | refine ⟨fun _ => ?_, fun h => absurd (show true = false from h) (by decide)⟩ | refine ⟨fun h => absurd (show false = true from h) (by decide), fun _ => ?_⟩
                  (conv => whnf))
          repeat (first | refine ⟨fun _ => ?_, fun h => absurd h (by decide)⟩ | refine ⟨fun h => absurd h (by decide), fun _ => ?_⟩ | refine ⟨fun _ => ?_, fun h => absurd (show true = false from h) (by decide)⟩ | refine ⟨fun h => absurd (show false = true from h) (by decide), fun _ => ?_⟩
                  (conv => whnf))
          refine ⟨n5, ?_⟩
          conv => whnf
          refine ⟨n6, ?_⟩
          conv => whnf
          refine AC.of_pc c7 rfl ?_
          conv => whnf
          repeat (first | refine ⟨fun _ => ?_, fun h => absurd h (by decide)⟩ | refine ⟨fun h => absurd h (by decide), fun _ => ?_⟩ | refine ⟨fun _ => ?_, fun h => absurd (show true = false from h) (by decide)⟩ | refine ⟨fun h => absurd (show false = true from h) (by decide), fun _ => ?_⟩
                  (conv => whnf))
          refine AC.of_pc c8 rfl ?_
          conv => whnf
          repeat (first | refine ⟨fun _ => ?_, fun h => absurd h (by decide)⟩ | refine ⟨fun h => absurd h (by decide), fun _ => ?_⟩ | refine ⟨fun _ => ?_, fun h => absurd (show true = false from h) (by decide)⟩ | refine ⟨fun h => absurd (show false = true from h) (by decide), fun _ => ?_⟩
                  (conv => whnf))
          rfl
    | true =>
      conv => whnf
      repeat (first | refine ⟨fun _ => ?_, fun h => absurd h (by decide)⟩ | refine ⟨fun h => absurd h (by decide), fun _ => ?_⟩ | refine ⟨fun _ => ?_, fun h => absurd (show true = false from h) (by decide)⟩ | refine ⟨fun h => absurd (show false = true from h) (by decide), fun _ => ?_⟩
              (conv => whnf))
      refine ⟨n2, ?_⟩
      conv => whnf
      refine ⟨n3, ?_⟩
      conv => whnf
      refine ⟨n4, ?_⟩
      conv => whnf
      refine AC.of_pc c4 rfl ?_
      conv => whnf
      refine AC.of_pc c5 rfl ?_
      cases ca with
      | false =>
        conv => whnf
        repeat (first | refine ⟨fun _ => ?_, fun h => absurd h (by decide)⟩ | refine ⟨fun h => absurd h (by decide), fun _ => ?_⟩ | refine ⟨fun _ => ?_, fun h => absurd (show true = false from h) (by decide)⟩ | refine ⟨fun h => absurd (show false = true from h) (by decide), fun _ => ?_⟩
                (conv => whnf))
        repeat (first | refine ⟨fun _ => ?_, fun h => absurd h (by decide)⟩ | refine ⟨fun h => absurd h (by decide), fun _ => ?_⟩ | refine ⟨fun _ => ?_, fun h => absurd (show true = false from h) (by decide)⟩ | refine ⟨fun h => absurd (show false = true from h) (by decide), fun _ => ?_⟩
                (conv => whnf))
        refine ⟨n5, ?_⟩
        conv => whnf
        refine ⟨n6, ?_⟩
        conv => whnf
        refine AC.of_pc c7 rfl ?_
        conv => whnf
        repeat (first | refine ⟨fun _ => ?_, fun h => absurd h (by decide)⟩ | refine ⟨fun h => absurd h (by decide), fun _ => ?_⟩ | refine ⟨fun _ => ?_, fun h => absurd (show true = false from h) (by decide)⟩ | refine ⟨fun h => absurd (show false = true from h) (by decide), fun _ => ?_⟩
                (conv => whnf))
        rfl
      | true =>
        conv => whnf
        repeat (first | refine ⟨fun _ => ?_, fun h => absurd h (by decide)⟩ | refine ⟨fun h => absurd h (by decide), fun _ => ?_⟩ | refine ⟨fun _ => ?_, fun h => absurd (show true = false from h) (by decide)⟩ | refine ⟨fun h => absurd (show false = true from h) (by decide), fun _ => ?_⟩
                (conv => whnf))
        refine AC.of_pc c6 rfl ?_
        cases cb with
        | false =>
          conv => whnf
          repeat (first | refine ⟨fun _ => ?_, fun h => absurd h (by decide)⟩ | refine ⟨fun h => absurd h (by decide), fun _ => ?_⟩ | refine ⟨fun _ => ?_, fun h => absurd (show true = false from h) (by decide)⟩ | refine ⟨fun h => absurd (show false = true from h) (by decide), fun _ => ?_⟩
                  (conv => whnf))
          repeat (first | refine ⟨fun _ => ?_, fun h => absurd h (by decide)⟩ | refine ⟨fun h => absurd h (by decide), fun _ => ?_⟩ | refine ⟨fun _ => ?_, fun h => absurd (show true = false from h) (by decide)⟩ | refine ⟨fun h => absurd (show false = true from h) (by decide), fun _ => ?_⟩
                  (conv => whnf))
          refine ⟨n5, ?_⟩
          conv => whnf
          refine ⟨n6, ?_⟩
          conv => whnf
          refine AC.of_pc c7 rfl ?_
          conv => whnf
          repeat (first | refine ⟨fun _ => ?_, fun h => absurd h (by decide)⟩ | refine ⟨fun h => absurd h (by decide), fun _ => ?_⟩ | refine ⟨fun _ => ?_, fun h => absurd (show true = false from h) (by decide)⟩ | refine ⟨fun h => absurd (show false = true from h) (by decide), fun _ => ?_⟩
                  (conv => whnf))
          rfl
        | true =>
          have c4 := hpp rfl rfl
          have hE : (Gw.Name.paths (([47] : List UInt8) ++ a ++ [47] ++ b)) = some [a, b] := c4
          rw [hE]
          conv => whnf
          repeat (first | refine ⟨fun _ => ?_, fun h => absurd h (by decide)⟩ | refine ⟨fun h => absurd h (by decide), fun _ => ?_⟩ | refine ⟨fun _ => ?_, fun h => absurd (show true = false from h) (by decide)⟩ | refine ⟨fun h => absurd (show false = true from h) (by decide), fun _ => ?_⟩
                  (conv => whnf))
          repeat (first | refine ⟨fun _ => ?_, fun h => absurd h (by decide)⟩ | refine ⟨fun h => absurd h (by decide), fun _ => ?_⟩ | refine ⟨fun _ => ?_, fun h => absurd (show true = false from h) (by decide)⟩ | refine ⟨fun h => absurd (show false = true from h) (by decide), fun _ => ?_⟩
                  (conv => whnf))
          refine ⟨n5, ?_⟩
          conv => whnf
          refine ⟨n6, ?_⟩
          conv => whnf
          refine AC.of_pc c7 rfl ?_
          conv => whnf
          repeat (first | refine ⟨fun _ => ?_, fun h => absurd h (by decide)⟩ | refine ⟨fun h => absurd h (by decide), fun _ => ?_⟩ | refine ⟨fun _ => ?_, fun h => absurd (show true = false from h) (by decide)⟩ | refine ⟨fun h => absurd (show false = true from h) (by decide), fun _ => ?_⟩
                  (conv => whnf))
          refine AC.of_pc c8 rfl ?_
          conv => whnf
          repeat (first | refine ⟨fun _ => ?_, fun h => absurd h (by decide)⟩ | refine ⟨fun h => absurd h (by decide), fun _ => ?_⟩ | refine ⟨fun _ => ?_, fun h => absurd (show true = false from h) (by decide)⟩ | refine ⟨fun h => absurd (show false = true from h) (by decide), fun _ => ?_⟩
                  (conv => whnf))
          rfl
  | true =>
    cases y with
    | false =>
      conv => whnf
      repeat (first | refine ⟨fun _ => ?_, fun h => absurd h (by decide)⟩ | refine ⟨fun h => absurd h (by decide), fun _ => ?_⟩ | refine ⟨fun _ => ?_, fun h => absurd (show true = false from h) (by decide)⟩ | refine ⟨fun h => absurd (show false = true from h) (by decide), fun _ => ?_⟩
              (conv => whnf))
      refine ⟨n2, ?_⟩
      conv => whnf
      refine ⟨n3, ?_⟩
      conv => whnf
      refine ⟨n4, ?_⟩
      conv => whnf
      refine AC.of_pc c4 rfl ?_
      conv => whnf
      refine AC.of_pc c5 rfl ?_
      cases ca with
      | false =>
        conv => whnf
        repeat (first | refine ⟨fun _ => ?_, fun h => absurd h (by decide)⟩ | refine ⟨fun h => absurd h (by decide), fun _ => ?_⟩ | refine ⟨fun _ => ?_, fun h => absurd (show true = false from h) (by decide)⟩ | refine ⟨fun h => absurd (show false = true from h) (by decide), fun _ => ?_⟩
                (conv => whnf))
        repeat (first | refine ⟨fun _ => ?_, fun h => absurd h (by decide)⟩ | refine ⟨fun h => absurd h (by decide), fun _ => ?_⟩ | refine ⟨fun _ => ?_, fun h => absurd (show true = false from h) (by decide)⟩ | refine ⟨fun h => absurd (show false = true from h) (by decide), fun _ => ?_⟩
                (conv => whnf))
        refine ⟨n5, ?_⟩
        conv => whnf
        refine ⟨n6, ?_⟩
        conv => whnf
        refine AC.of_pc c7 rfl ?_
        conv => whnf
        repeat (first | refine ⟨fun _ => ?_, fun h => absurd h (by decide)⟩ | refine ⟨fun h => absurd h (by decide), fun _ => ?_⟩ | refine ⟨fun _ => ?_, fun h => absurd (show true = false from h) (by decide)⟩ | refine ⟨fun h => absurd (show false = true from h) (by decide), fun _ => ?_⟩
                (conv => whnf))
      | true =>
        conv => whnf
        repeat (first | refine ⟨fun _ => ?_, fun h => absurd h (by decide)⟩ | refine ⟨fun h => absurd h (by decide), fun _ => ?_⟩ | refine ⟨fun _ => ?_, fun h => absurd (show true = false from h) (by decide)⟩ | refine ⟨fun h => absurd (show false = true from h) (by decide), fun _ => ?_⟩
                (conv => whnf))
        refine AC.of_pc c6 rfl ?_
        cases cb with
        | false =>
          conv => whnf
          repeat (first | refine ⟨fun _ => ?_, fun h => absurd h (by decide)⟩ | refine ⟨fun h => absurd h (by decide), fun _ => ?_⟩ | refine ⟨fun _ => ?_, fun h => absurd (show true = false from h) (by decide)⟩ | refine ⟨fun h => absurd (show false = true from h) (by decide), fun _ => ?_⟩
                  (conv => whnf))
          repeat (first | refine ⟨fun _ => ?_, fun h => absurd h (by decide)⟩ | refine ⟨fun h => absurd h (by decide), fun _ => ?_⟩ | refine ⟨fun _ => ?_, fun h => absurd (show true = false from h) (by decide)⟩ | refine ⟨fun h => absurd (show false = true from h) (by decide), fun _ => ?_⟩
                  (conv => whnf))
          refine ⟨n5, ?_⟩
          conv => whnf
          refine ⟨n6, ?_⟩
          conv => whnf
          refine AC.of_pc c7 rfl ?_
          conv => whnf
          repeat (first | refine ⟨fun _ => ?_, fun h => absurd h (by decide)⟩ | refine ⟨fun h => absurd h (by decide), fun _ => ?_⟩ | refine ⟨fun _ => ?_, fun h => absurd (show true = false from h) (by decide)⟩ | refine ⟨fun h => absurd (show false = true from h) (by decide), fun _ => ?_⟩
                  (conv => whnf))
        | true =>
          have c4 := hpp rfl rfl
          have hE : (Gw.Name.paths (([47] : List UInt8) ++ a ++ [47] ++ b)) = some [a, b] := c4
          rw [hE]
          conv => whnf
          repeat (first | refine ⟨fun _ => ?_, fun h => absurd h (by decide)⟩ | refine ⟨fun h => absurd h (by decide), fun _ => ?_⟩ | refine ⟨fun _ => ?_, fun h => absurd (show true = false from h) (by decide)⟩ | refine ⟨fun h => absurd (show false = true from h) (by decide), fun _ => ?_⟩
                  (conv => whnf))
          repeat (first | refine ⟨fun _ => ?_, fun h => absurd h (by decide)⟩ | refine ⟨fun h => absurd h (by decide), fun _ => ?_⟩ | refine ⟨fun _ => ?_, fun h => absurd (show true = false from h) (by decide)⟩ | refine ⟨fun h => absurd (show false = true from h) (by decide), fun _ => ?_⟩
                  (conv => whnf))
          refine ⟨n5, ?_⟩
          conv => whnf
          refine ⟨n6, ?_⟩
          conv => whnf
          refine AC.of_pc c7 rfl ?_
          conv => whnf
          repeat (first | refine ⟨fun _ => ?_, fun h => absurd h (by decide)⟩ | refine ⟨fun h => absurd h (by decide), fun _ => ?_⟩ | refine ⟨fun _ => ?_, fun h => absurd (show true = false from h) (by decide)⟩ | refine ⟨fun h => absurd (show false = true from h) (by decide), fun _ => ?_⟩
                  (conv => whnf))
          refine AC.of_pc c8 rfl ?_
          conv => whnf
          repeat (first | refine ⟨fun _ => ?_, fun h => absurd h (by decide)⟩ | refine ⟨fun h => absurd h (by decide), fun _ => ?_⟩ | refine ⟨fun _ => ?_, fun h => absurd (show true = false from h) (by decide)⟩ | refine ⟨fun h => absurd (show false = true from h) (by decide), fun _ => ?_⟩
                  (conv => whnf))
    | true =>
      obtain ⟨rfl, rfl⟩ := f1 rfl rfl
      conv => whnf
      repeat (first | refine ⟨fun _ => ?_, fun h => absurd h (by decide)⟩ | refine ⟨fun h => absurd h (by decide), fun _ => ?_⟩ | refine ⟨fun _ => ?_, fun h => absurd (show true = false from h) (by decide)⟩ | refine ⟨fun h => absurd (show false = true from h) (by decide), fun _ => ?_⟩
              (conv => whnf))
      refine ⟨n2, ?_⟩
      conv => whnf
      refine ⟨n3, ?_⟩
      conv => whnf
      refine ⟨n4, ?_⟩
      conv => whnf
      refine AC.of_pc c4 rfl ?_
      conv => whnf
      refine AC.of_pc c5 rfl ?_
      cases ca with
      | false =>
        conv => whnf
        repeat (first | refine ⟨fun _ => ?_, fun h => absurd h (by decide)⟩ | refine ⟨fun h => absurd h (by decide), fun _ => ?_⟩ | refine ⟨fun _ => ?_, fun h => absurd (show true = false from h) (by decide)⟩ | refine ⟨fun h => absurd (show false = true from h) (by decide), fun _ => ?_⟩
                (conv => whnf))
        refine ⟨fun _ => ?_, fun h => absurd h (by rw [w64 (by omega) (by omega)]; simp)⟩
        conv => whnf
        repeat (first | refine ⟨fun _ => ?_, fun h => absurd h (by decide)⟩ | refine ⟨fun h => absurd h (by decide), fun _ => ?_⟩ | refine ⟨fun _ => ?_, fun h => absurd (show true = false from h) (by decide)⟩ | refine ⟨fun h => absurd (show false = true from h) (by decide), fun _ => ?_⟩
                (conv => whnf))
        refine ⟨n5, ?_⟩
        conv => whnf
        refine ⟨n6, ?_⟩
        conv => whnf
        refine AC.of_pc c7 rfl ?_
        conv => whnf
        repeat (first | refine ⟨fun _ => ?_, fun h => absurd h (by decide)⟩ | refine ⟨fun h => absurd h (by decide), fun _ => ?_⟩ | refine ⟨fun _ => ?_, fun h => absurd (show true = false from h) (by decide)⟩ | refine ⟨fun h => absurd (show false = true from h) (by decide), fun _ => ?_⟩
                (conv => whnf))
      | true =>
        conv => whnf
        repeat (first | refine ⟨fun _ => ?_, fun h => absurd h (by decide)⟩ | refine ⟨fun h => absurd h (by decide), fun _ => ?_⟩ | refine ⟨fun _ => ?_, fun h => absurd (show true = false from h) (by decide)⟩ | refine ⟨fun h => absurd (show false = true from h) (by decide), fun _ => ?_⟩
                (conv => whnf))
        refine AC.of_pc c6 rfl ?_
        cases cb with
        | false =>
          conv => whnf
          repeat (first | refine ⟨fun _ => ?_, fun h => absurd h (by decide)⟩ | refine ⟨fun h => absurd h (by decide), fun _ => ?_⟩ | refine ⟨fun _ => ?_, fun h => absurd (show true = false from h) (by decide)⟩ | refine ⟨fun h => absurd (show false = true from h) (by decide), fun _ => ?_⟩
                  (conv => whnf))
          refine ⟨fun _ => ?_, fun h => absurd h (by rw [w64 (by omega) (by omega)]; simp)⟩
          conv => whnf
          repeat (first | refine ⟨fun _ => ?_, fun h => absurd h (by decide)⟩ | refine ⟨fun h => absurd h (by decide), fun _ => ?_⟩ | refine ⟨fun _ => ?_, fun h => absurd (show true = false from h) (by decide)⟩ | refine ⟨fun h => absurd (show false = true from h) (by decide), fun _ => ?_⟩
                  (conv => whnf))
          refine ⟨n5, ?_⟩
          conv => whnf
          refine ⟨n6, ?_⟩
          conv => whnf
          refine AC.of_pc c7 rfl ?_
          conv => whnf
          repeat (first | refine ⟨fun _ => ?_, fun h => absurd h (by decide)⟩ | refine ⟨fun h => absurd h (by decide), fun _ => ?_⟩ | refine ⟨fun _ => ?_, fun h => absurd (show true = false from h) (by decide)⟩ | refine ⟨fun h => absurd (show false = true from h) (by decide), fun _ => ?_⟩
                  (conv => whnf))
        | true =>
          have c4 := hpp rfl rfl
          have hE : (Gw.Name.paths (([47] : List UInt8) ++ a ++ [47] ++ b)) = some [a, b] := c4
          rw [hE]
          conv => whnf
          repeat (first | refine ⟨fun _ => ?_, fun h => absurd h (by decide)⟩ | refine ⟨fun h => absurd h (by decide), fun _ => ?_⟩ | refine ⟨fun _ => ?_, fun h => absurd (show true = false from h) (by decide)⟩ | refine ⟨fun h => absurd (show false = true from h) (by decide), fun _ => ?_⟩
                  (conv => whnf))
          refine ⟨fun _ => ?_, fun h => absurd h (by rw [w64 (by omega) (by omega)]; simp)⟩
          conv => whnf
          repeat (first | refine ⟨fun _ => ?_, fun h => absurd h (by decide)⟩ | refine ⟨fun h => absurd h (by decide), fun _ => ?_⟩ | refine ⟨fun _ => ?_, fun h => absurd (show true = false from h) (by decide)⟩ | refine ⟨fun h => absurd (show false = true from h) (by decide), fun _ => ?_⟩
                  (conv => whnf))
          refine ⟨n5, ?_⟩
          conv => whnf
          refine ⟨n6, ?_⟩
          conv => whnf
          refine AC.of_pc c7 rfl ?_
          conv => whnf
          repeat (first | refine ⟨fun _ => ?_, fun h => absurd h (by decide)⟩ | refine ⟨fun h => absurd h (by decide), fun _ => ?_⟩ | refine ⟨fun _ => ?_, fun h => absurd (show true = false from h) (by decide)⟩ | refine ⟨fun h => absurd (show false = true from h) (by decide), fun _ => ?_⟩
                  (conv => whnf))
          refine AC.of_pc c8 rfl ?_
          conv => whnf
          repeat (first | refine ⟨fun _ => ?_, fun h => absurd h (by decide)⟩ | refine ⟨fun h => absurd h (by decide), fun _ => ?_⟩ | refine ⟨fun _ => ?_, fun h => absurd (show true = false from h) (by decide)⟩ | refine ⟨fun h => absurd (show false = true from h) (by decide), fun _ => ?_⟩
                  (conv => whnf))
end Go.Proofs.YtgbahdoiogcpiaaDoor
