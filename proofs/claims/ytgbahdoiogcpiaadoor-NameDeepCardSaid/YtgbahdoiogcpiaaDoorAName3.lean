/- The laws' first line, and their guards: told without addresses. No claim of its own. -/
import Derived.Test.YtgbahdoiogcpiaaDoorARName2
namespace Go.Proofs.YtgbahdoiogcpiaaDoor
open Go.Am

theorem awake_pc : PC Tryd.prog 9 [] (.bool true) := by
  have c1 := runes_pc [195, 164, 98] (by decide)
  rw [show Gw.Name.spell [195, 164, 98] = some [228, 98] by kernel_rfl] at c1
  have c2 := runes_pc [255] (by decide)
  rw [show Gw.Name.spell [255] = none by kernel_rfl] at c2
  have c3 := nameSplit_pc [47, 97, 47, 98, 99] (by decide)
  rw [show Gw.Name.paths [47, 97, 47, 98, 99] = some [[97], [98, 99]] by kernel_rfl] at c3
  have c4 := nameJoin_pc false [[120], [121]] (by decide)
  rw [show Gw.Name.join [[120], [121]] = some [47, 120, 47, 121] by kernel_rfl] at c4
  have c5 := nameSplit_pc [47, 97, 47] (by decide)
  rw [show Gw.Name.paths [47, 97, 47] = none by kernel_rfl] at c5
  have c6 := nameJoin_pc false [[]] (by decide)
  rw [show Gw.Name.join [[]] = none by kernel_rfl] at c6
  have c7 := nameSplit_pc [47] (by decide)
  rw [show Gw.Name.paths [47] = some [] by kernel_rfl] at c7
  have c8 := same_pc false false [[97], [98, 99]] [[97], [98, 99]] (by decide)
  rw [decide_eq_true rfl] at c8
  have c9 := nameCheck_pc [97, 32, 98] (by decide)
  rw [show Gw.Name.check [97, 32, 98] = true by kernel_rfl] at c9
  have c10 := nameCheck_pc [46, 46] (by decide)
  rw [show Gw.Name.check [46, 46] = false by kernel_rfl] at c10
  have c11 := nameCheck_pc [97, 47, 98] (by decide)
  rw [show Gw.Name.check [97, 47, 98] = false by kernel_rfl] at c11
  have c12 := less_pc [97] [97, 98] (by decide) (by decide)
  rw [show Gw.Name.less [97] [97, 98] = true by kernel_rfl] at c12
  have c13 := less_pc [122] [255] (by decide) (by decide)
  rw [show Gw.Name.less [122] [255] = true by kernel_rfl] at c13
  have c14 := less_pc [98] [97] (by decide) (by decide)
  rw [show Gw.Name.less [98] [97] = false by kernel_rfl] at c14
  refine PC.of tabOk mixed (fn := Tryd.f9) (by kernel_rfl) rfl (by kernel_rfl) rfl rfl ?_
  conv => whnf
  refine AC.of_pc c1 rfl ?_
  conv => whnf
  refine AC.of_pc c2 rfl ?_
  conv => whnf
  refine AC.of_pc c3 rfl ?_
  conv => whnf
  refine AC.of_pc c4 rfl ?_
  conv => whnf
  refine AC.of_pc c5 rfl ?_
  conv => whnf
  refine AC.of_pc c6 rfl ?_
  conv => whnf
  refine AC.of_pc c7 rfl ?_
  conv => whnf
  repeat (first | refine ⟨fun _ => ?_, fun h => absurd h (by decide)⟩ | refine ⟨fun h => absurd h (by decide), fun _ => ?_⟩ | refine ⟨fun _ => ?_, fun h => absurd (show true = false from h) (by decide)⟩ | refine ⟨fun h => absurd (show false = true from h) (by decide), fun _ => ?_⟩
          (conv => whnf))
  refine AC.of_pc c8 rfl ?_
  conv => whnf
  repeat (first | refine ⟨fun _ => ?_, fun h => absurd h (by decide)⟩ | refine ⟨fun h => absurd h (by decide), fun _ => ?_⟩ | refine ⟨fun _ => ?_, fun h => absurd (show true = false from h) (by decide)⟩ | refine ⟨fun h => absurd (show false = true from h) (by decide), fun _ => ?_⟩
          (conv => whnf))
  refine AC.of_pc c9 rfl ?_
  conv => whnf
  repeat (first | refine ⟨fun _ => ?_, fun h => absurd h (by decide)⟩ | refine ⟨fun h => absurd h (by decide), fun _ => ?_⟩ | refine ⟨fun _ => ?_, fun h => absurd (show true = false from h) (by decide)⟩ | refine ⟨fun h => absurd (show false = true from h) (by decide), fun _ => ?_⟩
          (conv => whnf))
  refine AC.of_pc c10 rfl ?_
  conv => whnf
  repeat (first | refine ⟨fun _ => ?_, fun h => absurd h (by decide)⟩ | refine ⟨fun h => absurd h (by decide), fun _ => ?_⟩ | refine ⟨fun _ => ?_, fun h => absurd (show true = false from h) (by decide)⟩ | refine ⟨fun h => absurd (show false = true from h) (by decide), fun _ => ?_⟩
          (conv => whnf))
  refine AC.of_pc c11 rfl ?_
  conv => whnf
  repeat (first | refine ⟨fun _ => ?_, fun h => absurd h (by decide)⟩ | refine ⟨fun h => absurd h (by decide), fun _ => ?_⟩ | refine ⟨fun _ => ?_, fun h => absurd (show true = false from h) (by decide)⟩ | refine ⟨fun h => absurd (show false = true from h) (by decide), fun _ => ?_⟩
          (conv => whnf))
  refine AC.of_pc c12 rfl ?_
  conv => whnf
  repeat (first | refine ⟨fun _ => ?_, fun h => absurd h (by decide)⟩ | refine ⟨fun h => absurd h (by decide), fun _ => ?_⟩ | refine ⟨fun _ => ?_, fun h => absurd (show true = false from h) (by decide)⟩ | refine ⟨fun h => absurd (show false = true from h) (by decide), fun _ => ?_⟩
          (conv => whnf))
  refine AC.of_pc c13 rfl ?_
  conv => whnf
  repeat (first | refine ⟨fun _ => ?_, fun h => absurd h (by decide)⟩ | refine ⟨fun h => absurd h (by decide), fun _ => ?_⟩ | refine ⟨fun _ => ?_, fun h => absurd (show true = false from h) (by decide)⟩ | refine ⟨fun h => absurd (show false = true from h) (by decide), fun _ => ?_⟩
          (conv => whnf))
  refine AC.of_pc c14 rfl ?_
  conv => whnf
  repeat (first | refine ⟨fun _ => ?_, fun h => absurd h (by decide)⟩ | refine ⟨fun h => absurd h (by decide), fun _ => ?_⟩ | refine ⟨fun _ => ?_, fun h => absurd (show true = false from h) (by decide)⟩ | refine ⟨fun h => absurd (show false = true from h) (by decide), fun _ => ?_⟩
          (conv => whnf))
  rfl
def fewT (l : List (List UInt8)) : Bool := l.all (fun t => decide (t.length ≤ 1000)) && decide (l.length ≤ 100)
theorem few_pc (n : Bool) (l : List (List UInt8)) (hl : l.length ≤ 9223372036854775807) : PC Tryd.prog 10 [.lst n 1 (encT l) .none] (.bool (fewT l)) := by
  have hel := encT_len l
  unfold fewT
  refine PC.of tabOk mixed (fn := Tryd.f10) (by kernel_rfl) rfl (by kernel_rfl) rfl rfl ?_
  conv => whnf
  refine AW.loop (fun k : Nat => [(.tmp 0, .v (.lst n 1 (encT l) .none)), (.tmp 3, .v (.int .i64 k))])
    0 (fun k => k ≤ l.length ∧ (l.take k).all (fun t => decide (t.length ≤ 1000)) = true) (fun k => l.length - k) (by decide) 0 ⟨Nat.zero_le _, rfl⟩ ⟨rfl, rfl, rfl, rfl, trivial⟩ ?_
  rintro k ⟨hk, hall⟩
  refine ev_sound tabOk mixed _ _ _ _ ?_
  conv => whnf
  refine ⟨fun h => ?_, fun h => ?_⟩
  · have h : (k : Int) < ((encT l).length : Int) := of_decide_eq_true h
    have hlt : k < l.length := by omega
    conv => whnf
    refine ⟨_, ⟨by omega, encT_get hlt⟩, ?_⟩
    conv => whnf
    refine ⟨fun h2 => ?_, fun h2 => ?_⟩
    · have h2 := of_decide_eq_true h2
      have e : l.all (fun t => decide (t.length ≤ 1000)) = false := by
        rw [Bool.eq_false_iff]; intro h3
        have := of_decide_eq_true (List.all_eq_true.1 h3 _ (List.getElem_mem hlt))
        omega
      rw [e, Bool.false_and]
      conv => whnf
    · have h2 := of_decide_eq_false h2
      conv => whnf
      refine ⟨k + 1, ⟨by omega, by rw [List.take_succ_eq_append_getElem hlt, List.all_append, hall]; simp; omega⟩, by show l.length - (k + 1) < l.length - k; omega, rfl, rfl, ?_, rfl, trivial⟩
      show C.v (V.int .i64 (IntKind.i64.wrap ((k : Int) + 1))) = C.v (V.int .i64 ((k + 1 : Nat) : Int))
      rw [w64 (by omega) (by omega)]; rfl
  · have h : ¬ (k : Int) < ((encT l).length : Int) := of_decide_eq_false h
    obtain rfl : k = l.length := by omega
    rw [List.take_length] at hall
    rw [hall, Bool.true_and]
    conv => whnf
    rw [hel]
    congr 1
    rw [Bool.eq_iff_iff]; simp; omega
theorem fewT_spec {l : List (List UInt8)} (h : fewT l = true) : (∀ t ∈ l, t.length ≤ 1000) ∧ l.length ≤ 100 := by
  unfold fewT at h
  simp only [Bool.and_eq_true, List.all_eq_true, decide_eq_true_eq] at h
  exact h
theorem runesV_eq (s : Option (List Int)) : runesV s = .tup [.int .i64 ((s.getD []).length : Nat), .bool s.isSome] := by cases s <;> rfl
theorem joinV_eq (s : Option (List UInt8)) : joinV s = .tup [.str (s.getD []), .int .i64 (if s.isSome = true then 0 else 10)] := by cases s <;> rfl
theorem pathsV_eq (s : Option (List (List UInt8))) : pathsV s = .tup [.lst (decide (s.getD [] = [])) 1 (encT (s.getD [])) .none, .int .i64 (if s.isSome = true then 0 else 10)] := by
  match s with
  | none => rfl
  | some [] => rfl
  | some (x :: l) => rfl
theorem paths_len {p : List UInt8} : ((Gw.Name.paths p).getD []).length ≤ 16 := by
  unfold Gw.Name.paths
  split
  · simp
  · split
    · simp
    · split
      · split
        · rename_i h
          unfold Gw.Name.fit at h
          simp at h
          simpa using h.1
        · simp
      · simp
theorem tells_pc (n : Bool) (a b : List UInt8) (l : List (List UInt8)) (hl : l.length ≤ 9223372036854775807) : PC Tryd.prog 3 [.str a, .str b, .lst n 1 (encT l) .none] (.bool true) := by
  have hf := few_pc n l hl
  refine PC.of tabOk mixed (fn := Tryd.f3) (by kernel_rfl) rfl (by kernel_rfl) rfl rfl ?_
  conv => whnf
  refine AC.of_pc awake_pc rfl ?_
  conv => whnf
  refine AC.of_pc hf rfl ?_
  cases hq : fewT l with
  | false =>
    conv => whnf
    repeat (first | refine ⟨fun _ => ?_, fun h => absurd h (by decide)⟩ | refine ⟨fun h => absurd h (by decide), fun _ => ?_⟩ | refine ⟨fun _ => ?_, fun h => absurd (show true = false from h) (by decide)⟩ | refine ⟨fun h => absurd (show false = true from h) (by decide), fun _ => ?_⟩
            (conv => whnf))
  | true =>
    obtain ⟨q1, q2⟩ := fewT_spec hq
    conv => whnf
    refine ⟨fun h => absurd h (by decide), fun _ => ?_⟩
    conv => whnf
    refine ⟨fun h => ?_, fun h => ?_⟩
    · conv => whnf
      repeat (first | refine ⟨fun _ => ?_, fun h => absurd h (by decide)⟩ | refine ⟨fun h => absurd h (by decide), fun _ => ?_⟩ | refine ⟨fun _ => ?_, fun h => absurd (show true = false from h) (by decide)⟩ | refine ⟨fun h => absurd (show false = true from h) (by decide), fun _ => ?_⟩
              (conv => whnf))
    have ha : a.length ≤ 1000 := by have := of_decide_eq_false h; omega
    conv => whnf
    refine ⟨fun h => ?_, fun h => ?_⟩
    · conv => whnf
    have hb : b.length ≤ 1000 := by have := of_decide_eq_false h; omega
    have c1 := runes_pc a (by omega)
    have c2 := rrunes_pc a (by omega)
    have c3 := nameSplit_pc a (by omega)
    have c4 := rsplit_pc a (by omega)
    have c5 := nameJoin_pc n l (fun t ht => Nat.le_trans (q1 t ht) (by decide))
    have c6 := rjoin_pc n l q1 (by omega)
    have c7 := nameCheck_pc a (by omega)
    have c8 := rcheck_pc a (by omega)
    have c9 := less_pc a b (by omega) (by omega)
    have c10 := rless_pc a b (by omega) (by omega)
    have c11 := same_pc (decide ((Gw.Name.paths a).getD [] = [])) (decide ((Gw.Name.paths a).getD [] = [])) ((Gw.Name.paths a).getD []) ((Gw.Name.paths a).getD []) (by have := paths_len (p := a); omega)
    rw [decide_eq_true rfl] at c11
    rw [runesV_eq] at c1 c2
    rw [pathsV_eq] at c3 c4
    rw [joinV_eq] at c5 c6
    generalize (Gw.Name.spell a).isSome = s1 at c1 c2
    generalize ((Gw.Name.spell a).getD []).length = s2 at c1 c2
    generalize Gw.Name.check a = q at c7 c8
    generalize Gw.Name.less a b = r at c9 c10
    generalize decide ((Gw.Name.paths a).getD [] = []) = d1 at c3 c4 c11
    generalize (if (Gw.Name.paths a).isSome = true then (0 : Int) else 10) = d2 at c3 c4
    generalize (Gw.Name.paths a).getD [] = d3 at c3 c4 c11
    generalize (if (Gw.Name.join l).isSome = true then (0 : Int) else 10) = j1 at c5 c6
    generalize (Gw.Name.join l).getD [] = j2 at c5 c6
    conv => whnf
    refine AC.of_pc c1 rfl ?_
    conv => whnf
    refine AC.of_pc c2 rfl ?_
    conv => whnf
    refine AC.of_pc c3 rfl ?_
    conv => whnf
    refine AC.of_pc c4 rfl ?_
    conv => whnf
    refine AC.of_pc c5 rfl ?_
    conv => whnf
    refine AC.of_pc c6 rfl ?_
    conv => whnf
    refine ⟨fun _ => ?_, fun h => absurd h (by decide)⟩
    conv => whnf
    refine ⟨fun _ => ?_, fun h => absurd h (by simp)⟩
    conv => whnf
    refine ⟨fun _ => ?_, fun h => absurd h (by simp)⟩
    conv => whnf
    refine AC.of_pc c7 rfl ?_
    conv => whnf
    refine AC.of_pc c8 rfl ?_
    conv => whnf
    refine ⟨fun _ => ?_, fun h => absurd h (by simp)⟩
    conv => whnf
    refine AC.of_pc c9 rfl ?_
    conv => whnf
    refine AC.of_pc c10 rfl ?_
    conv => whnf
    refine ⟨fun _ => ?_, fun h => absurd h (by simp)⟩
    conv => whnf
    refine AC.of_pc c11 rfl ?_
    conv => whnf
    refine ⟨fun _ => ?_, fun h => absurd h (by decide)⟩
    conv => whnf
    refine ⟨fun _ => ?_, fun h => absurd h (by simp)⟩
    conv => whnf
    refine ⟨fun _ => ?_, fun h => absurd h (by simp)⟩
    conv => whnf
    simp
end Go.Proofs.YtgbahdoiogcpiaaDoor
