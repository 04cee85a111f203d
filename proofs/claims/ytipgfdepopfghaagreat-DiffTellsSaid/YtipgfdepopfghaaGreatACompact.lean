/- A list made compact, any: what it leaves was there. Told without addresses. No claim of its own. -/
import Derived.Test.YtipgfdepopfghaaGreatAmC
import Derived.Test.YtipgfdepopfghaaGreatAStable
namespace Go.Proofs.YtipgfdepopfghaaGreat
open Go.Am

/-- What is left is some of what was there, ahead of what is of no matter. -/
abbrev Keeps (l : List Gw.Op.Op) : Out → List (Am.Loc × C) → Prop := fun x es => ∃ l' rest full, (∀ o ∈ l', o ∈ l) ∧ l'.length ≤ l.length ∧ x = .val (.own 0 0 7 l'.length full) ∧ es = [(.blk 0, .mem 51 (flatO l' ++ rest))]
theorem flatO_split2 (l : List Gw.Op.Op) (k : Nat) (hk : k ≤ l.length) : List.take (k * 7) (flatO l) = flatO (l.take k) := by
  have hl := flatO_len (l.take k)
  rw [List.length_take, Nat.min_eq_left hk] at hl
  have e : flatO l = flatO (l.take k) ++ flatO (l.drop k) := by rw [← flatO_app, List.take_append_drop]
  rw [e, List.take_left' hl]
theorem flatO_getOff {l : List Gw.Op.Op} {q z : Nat} (h : q + z < l.length) : List.take 7 (List.drop (q * 7 + (z : Int).toNat * 7) (flatO l)) = cellsO l[q + z] := by
  rw [Int.toNat_natCast, ← Nat.add_mul]
  exact flatO_get h
theorem compactG_ac (l : List Gw.Op.Op) (n : Nat) (hn : n = l.length) (hl : l.length ≤ 1048576) :
    AC Tryz.prog 43 [.own 0 0 7 n true, .func 44 [] []] (ofL (opsAt l)) 1 (givenK 1 (Keeps l)) := by
  refine AC.of tabOk mixed (fn := Tryz.f43) (by kernel_rfl) rfl (by kernel_rfl) rfl rfl ?_
  conv => whnf
  refine ⟨fun h => ?_, fun h => ?_⟩
  · have h := of_decide_eq_true h
    subst hn
    conv => whnf
    exact ⟨_, [(.blk 0, .mem 51 (flatO l))], ⟨l, [], true, fun o h => h, Nat.le_refl _, rfl, by rw [List.append_nil]⟩, rfl, ⟨rfl, rfl⟩, rfl, rfl, trivial⟩
  have h := of_decide_eq_false h
  conv => whnf
  refine AW.loop (fun k : Nat => [(.tmp 0, .v (.own 0 0 7 n true)), (.tmp 1, .v (.func 44 [] [])), (.tmp 5, .v (.int .i64 k)), (.blk 0, .mem 51 (flatO l))]) 1
    (fun k => 1 ≤ k ∧ k ≤ n) (fun k => n - k) (by decide) 1 ⟨Nat.le_refl _, by omega⟩ ⟨rfl, rfl, rfl, rfl, rfl, rfl, rfl, rfl, trivial⟩ ?_
  rintro k ⟨h1, h2⟩
  refine ev_sound tabOk mixed _ _ _ _ ?_
  have hfl := flatO_len l
  conv => whnf
  refine ⟨fun h => ?_, fun h => ?_⟩
  · have h := of_decide_eq_true h
    obtain ⟨j, rfl⟩ : ∃ j, k = j + 1 := ⟨k - 1, by omega⟩
    have hj1 : j + 1 < l.length := by omega
    have hj0 : j < l.length := by omega
    have hL1 := flatO_get hj1
    have hL0 := flatO_get hj0
    have heq := foldEq_pc l[j + 1] l[j]
    have hwj : IntKind.i64.wrap (((j + 1 : Nat) : Int) - 1) = (j : Int) := by rw [w64 (by omega) (by omega)]; omega
    have o1 : 0 + ((j + 1 : Nat) : Int).toNat * 7 = (j + 1) * 7 := by rw [Int.toNat_natCast, Nat.zero_add]
    have o0 : 0 + (j : Int).toNat * 7 = j * 7 := by rw [Int.toNat_natCast, Nat.zero_add]
    generalize sameAt l[j + 1] l[j] = q at *
    conv => whnf
    refine ⟨by omega, ?_⟩
    conv => whnf
    rw [o1]
    refine ⟨_, ⟨by omega, hL1⟩, ?_⟩
    conv => whnf
    rw [hwj]
    refine ⟨by omega, ?_⟩
    conv => whnf
    rw [o0]
    refine ⟨_, ⟨by omega, hL0⟩, ?_⟩
    conv => whnf
    refine ⟨_, rfl, heq, ?_⟩
    conv => whnf
    refine ⟨by kernel_rfl, ?_⟩
    cases q with
    | false =>
      conv => whnf
      repeat (first | refine ⟨fun _ => ?_, fun h => absurd h (by decide)⟩ | refine ⟨fun h => absurd h (by decide), fun _ => ?_⟩ | refine ⟨fun _ => ?_, fun h => absurd (show true = false from h) (by decide)⟩ | refine ⟨fun h => absurd (show false = true from h) (by decide), fun _ => ?_⟩
              (conv => whnf))
      refine ⟨j + 2, ⟨by omega, by omega⟩, by show n - (j + 2) < n - (j + 1); omega, rfl, rfl, rfl, rfl, ?_, rfl, rfl, rfl, trivial⟩
      show C.v (V.int .i64 (IntKind.i64.wrap (((j + 1 : Nat) : Int) + 1))) = _
      rw [w64 (by omega) (by omega)]; rfl
    | true =>
      conv => whnf
      repeat (first | refine ⟨fun _ => ?_, fun h => absurd h (by decide)⟩ | refine ⟨fun h => absurd h (by decide), fun _ => ?_⟩ | refine ⟨fun _ => ?_, fun h => absurd (show true = false from h) (by decide)⟩ | refine ⟨fun h => absurd (show false = true from h) (by decide), fun _ => ?_⟩
              (conv => whnf))
      refine ⟨⟨by omega, by omega⟩, ?_⟩
      conv => whnf
      refine AW.loop (X := Nat × Nat × List Gw.Op.Op) (fun x => [(.tmp 0, .v (.own 0 0 7 n true)), (.tmp 1, .v (.func 44 [] [])), (.tmp 5, .v (.int .i64 x.1)), (.tmp 6, .v (.own 0 ((j + 1) * 7) 7 (n - (j + 1)) false)), (.tmp 7, .v (.int .i64 x.2.1)), (.blk 0, .mem 51 (flatO x.2.2))]) 1
        (fun x => 1 ≤ x.2.1 ∧ x.1 < j + 1 + x.2.1 ∧ j + 1 + x.2.1 ≤ n ∧ x.2.2.length = n ∧ ∀ o ∈ x.2.2, o ∈ l) (fun x => n - x.2.1) (by decide) (j + 1, 1, l) ⟨Nat.le_refl _, Nat.lt_succ_self _, by show j + 1 + 1 ≤ n; omega, hn.symm, fun o h => h⟩ ⟨rfl, rfl, rfl, rfl, rfl, rfl, ?_, rfl, rfl, rfl, rfl, rfl, trivial⟩ ?_
      · show C.v (V.own 0 (0 + ((j + 1 : Nat) : Int).toNat * 7) 7 _ false) = _
        rw [o1]; rfl
      rintro ⟨k, z, u⟩ ⟨g1, g2, g3, g4, g5⟩
      simp only at g1 g2 g3 g4 g5
      dsimp only
      refine ev_sound tabOk mixed _ _ _ _ ?_
      have hful := flatO_len u
      conv => whnf
      refine ⟨fun h => ?_, fun h => ?_⟩
      · have h := of_decide_eq_true h
        obtain ⟨y, rfl⟩ : ∃ y, z = y + 1 := ⟨z - 1, by omega⟩
        have hp1 : j + 1 + (y + 1) < u.length := by omega
        have hp0 : j + 1 + y < u.length := by omega
        have heq := foldEq_pc u[j + 1 + (y + 1)] u[j + 1 + y]
        have hwy : IntKind.i64.wrap (((y + 1 : Nat) : Int) - 1) = (y : Int) := by rw [w64 (by omega) (by omega)]; omega
        have hwy2 : IntKind.i64.wrap (((y + 1 : Nat) : Int) + 1) = ((y + 1 + 1 : Nat) : Int) := by rw [w64 (by omega) (by omega)]; rfl
        have hwk : IntKind.i64.wrap ((k : Int) + 1) = ((k + 1 : Nat) : Int) := by rw [w64 (by omega) (by omega)]; rfl
        generalize sameAt u[j + 1 + (y + 1)] u[j + 1 + y] = q at heq
        conv => whnf
        refine ⟨by omega, ?_⟩
        conv => whnf
        refine ⟨_, ⟨by omega, flatO_getOff hp1⟩, ?_⟩
        conv => whnf
        rw [hwy]
        refine ⟨by omega, ?_⟩
        conv => whnf
        refine ⟨_, ⟨by omega, flatO_getOff hp0⟩, ?_⟩
        conv => whnf
        refine ⟨_, rfl, heq, ?_⟩
        conv => whnf
        refine ⟨by kernel_rfl, ?_⟩
        cases q with
        | true =>
          conv => whnf
          repeat (first | refine ⟨fun _ => ?_, fun h => absurd h (by decide)⟩ | refine ⟨fun h => absurd h (by decide), fun _ => ?_⟩ | refine ⟨fun _ => ?_, fun h => absurd (show true = false from h) (by decide)⟩ | refine ⟨fun h => absurd (show false = true from h) (by decide), fun _ => ?_⟩
                  (conv => whnf))
          refine ⟨(k, y + 1 + 1, u), ⟨by show 1 ≤ y + 1 + 1; omega, by show k < j + 1 + (y + 1 + 1); omega, by show j + 1 + (y + 1 + 1) ≤ n; omega, g4, g5⟩, by show n - (y + 1 + 1) < n - (y + 1); omega, rfl, rfl, rfl, rfl, rfl, rfl, rfl, rfl, ?_, rfl, rfl, rfl, trivial⟩
          show C.v (V.int .i64 (IntKind.i64.wrap (((y + 1 : Nat) : Int) + 1))) = _
          rw [hwy2]
        | false =>
          have hk : k < u.length := by omega
          have hs1 := flatO_set hk u[j + 1 + (y + 1)]
          have ok : 0 + (k : Int).toNat * 7 = k * 7 := by rw [Int.toNat_natCast, Nat.zero_add]
          conv => whnf
          repeat (first | refine ⟨fun _ => ?_, fun h => absurd h (by decide)⟩ | refine ⟨fun h => absurd h (by decide), fun _ => ?_⟩ | refine ⟨fun _ => ?_, fun h => absurd (show true = false from h) (by decide)⟩ | refine ⟨fun h => absurd (show false = true from h) (by decide), fun _ => ?_⟩
                  (conv => whnf))
          refine ⟨by omega, ?_⟩
          conv => whnf
          refine ⟨_, ⟨by omega, flatO_getOff hp1⟩, ?_⟩
          conv => whnf
          refine ⟨by omega, ?_⟩
          conv => whnf
          rw [ok]
          refine ⟨by omega, ?_⟩
          conv => whnf
          rw [hs1]
          refine ⟨(k + 1, y + 1 + 1, u.set k u[j + 1 + (y + 1)]), ⟨by show 1 ≤ y + 1 + 1; omega, by show k + 1 < j + 1 + (y + 1 + 1); omega, by show j + 1 + (y + 1 + 1) ≤ n; omega, by show (u.set k _).length = n; rw [List.length_set]; exact g4, fun o ho => (List.mem_or_eq_of_mem_set ho).elim (g5 o) fun e => by rw [e]; exact g5 _ (List.getElem_mem hp1)⟩, by show n - (y + 1 + 1) < n - (y + 1); omega, rfl, rfl, rfl, rfl, ?_, rfl, rfl, rfl, ?_, rfl, rfl, rfl, trivial⟩
          · show C.v (V.int .i64 (IntKind.i64.wrap ((k : Int) + 1))) = _
            rw [hwk]
          · show C.v (V.int .i64 (IntKind.i64.wrap (((y + 1 : Nat) : Int) + 1))) = _
            rw [hwy2]
      · have hkn : k < n := by omega
        conv => whnf
        refine ⟨⟨by omega, by omega⟩, ?_⟩
        conv => whnf
        refine AM.clearOwn tabOk (t0 := 35) (e := 51) (by kernel_rfl) rfl rfl rfl rfl rfl rfl rfl rfl (by kernel_rfl) (by rw [hful, g4, Int.toNat_natCast]; omega) (fun cells' hc => ?_)
        rw [Int.toNat_natCast, Nat.zero_add, flatO_split2 u k (by omega)] at hc
        have hcs : cells' = flatO (u.take k) ++ cells'.drop (k * 7) := by
          conv => lhs; rw [← List.take_append_drop (k * 7) cells', hc]
        conv => whnf
        refine ⟨⟨by omega, by omega⟩, ?_⟩
        conv => whnf
        exact ⟨.val (.own 0 0 7 k false), [(.blk 0, .mem 51 cells')], ⟨u.take k, cells'.drop (k * 7), false, fun o ho => g5 o (List.mem_of_mem_take ho), by rw [List.length_take]; omega, by rw [List.length_take, Nat.min_eq_left (by omega)], by rw [← hcs]⟩, rfl, ⟨rfl, rfl⟩, rfl, rfl, trivial⟩
  · subst hn
    conv => whnf
    exact ⟨_, [(.blk 0, .mem 51 (flatO l))], ⟨l, [], true, fun o h => h, Nat.le_refl _, rfl, by rw [List.append_nil]⟩, rfl, ⟨rfl, rfl⟩, rfl, rfl, trivial⟩
end Go.Proofs.YtipgfdepopfghaaGreat
