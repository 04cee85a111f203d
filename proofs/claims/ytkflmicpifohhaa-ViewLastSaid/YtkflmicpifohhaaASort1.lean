/- A short sort in place: told without addresses. No claim of its own. -/
import Derived.Test.YtkflmicpifohhaaAOpV
import Derived.Test.YtkflmicpifohhaaSortFn
namespace Go.Proofs.Ytkflmicpifohhaa
open Go.Am

def lessO (a b : Gw.Op.Op) : Bool := Gw.Stamp.less a.at_ b.at_
def cmpO (a b : Gw.Op.Op) : Int := if lessO a b = true then -1 else if lessO b a = true then 1 else 0
theorem cmpO_neg (a b : Gw.Op.Op) : decide (cmpO a b < 0) = lessO a b := by
  unfold cmpO
  cases lessO a b <;> cases lessO b a <;> rfl
theorem foldCmp_pc (a b : Gw.Op.Op) : PC Try.prog 30 [encO a, encO b] (.int .i64 (cmpO a b)) := by
  have h1 := opLess_pc a b
  have h2 := opLess_pc b a
  refine PC.of tabOk mixed (fn := Try.f30) (by kernel_rfl) rfl (by kernel_rfl) rfl rfl ?_
  unfold cmpO lessO
  conv => whnf
  refine AC.of_pc h1 rfl ?_
  cases Gw.Stamp.less a.at_ b.at_ with
  | true =>
    conv => whnf
    repeat (first | refine ⟨fun _ => ?_, fun h => absurd h (by decide)⟩ | refine ⟨fun h => absurd h (by decide), fun _ => ?_⟩ | refine ⟨fun _ => ?_, fun h => absurd (show true = false from h) (by decide)⟩ | refine ⟨fun h => absurd (show false = true from h) (by decide), fun _ => ?_⟩
            (conv => whnf))
    rfl
  | false =>
    conv => whnf
    repeat (first | refine ⟨fun _ => ?_, fun h => absurd h (by decide)⟩ | refine ⟨fun h => absurd h (by decide), fun _ => ?_⟩ | refine ⟨fun _ => ?_, fun h => absurd (show true = false from h) (by decide)⟩ | refine ⟨fun h => absurd (show false = true from h) (by decide), fun _ => ?_⟩
            (conv => whnf))
    refine AC.of_pc h2 rfl ?_
    cases Gw.Stamp.less b.at_ a.at_ with
    | true =>
      conv => whnf
      repeat (first | refine ⟨fun _ => ?_, fun h => absurd h (by decide)⟩ | refine ⟨fun h => absurd h (by decide), fun _ => ?_⟩ | refine ⟨fun _ => ?_, fun h => absurd (show true = false from h) (by decide)⟩ | refine ⟨fun h => absurd (show false = true from h) (by decide), fun _ => ?_⟩
              (conv => whnf))
      rfl
    | false =>
      conv => whnf
      repeat (first | refine ⟨fun _ => ?_, fun h => absurd h (by decide)⟩ | refine ⟨fun h => absurd h (by decide), fun _ => ?_⟩ | refine ⟨fun _ => ?_, fun h => absurd (show true = false from h) (by decide)⟩ | refine ⟨fun h => absurd (show false = true from h) (by decide), fun _ => ?_⟩
              (conv => whnf))
      rfl
def flatO (l : List Gw.Op.Op) : List V := (encOs l).flatten
theorem flatO_len (l : List Gw.Op.Op) : (flatO l).length = l.length * 7 := by
  induction l with
  | nil => rfl
  | cons n l ih => show (cellsO n ++ flatO l).length = _; rw [List.length_append, ih, List.length_cons]; show 7 + _ = _; omega
theorem flatO_app (l m : List Gw.Op.Op) : flatO (l ++ m) = flatO l ++ flatO m := by unfold flatO encOs; rw [List.map_append, List.flatten_append]
theorem flatO_split {l : List Gw.Op.Op} {j : Nat} (h : j < l.length) : flatO l = flatO (l.take j) ++ (cellsO l[j] ++ flatO (l.drop (j + 1))) := by
  have e : l = l.take j ++ (l[j] :: l.drop (j + 1)) := by rw [← List.drop_eq_getElem_cons h, List.take_append_drop]
  conv => lhs; rw [e, flatO_app]
  rfl
theorem flatO_get {l : List Gw.Op.Op} {j : Nat} (h : j < l.length) : List.take 7 (List.drop (j * 7) (flatO l)) = cellsO l[j] := by
  have hl := flatO_len (l.take j)
  rw [List.length_take, Nat.min_eq_left (Nat.le_of_lt h)] at hl
  rw [flatO_split h, List.drop_left' hl]
  rfl
theorem flatO_set {l : List Gw.Op.Op} {j : Nat} (h : j < l.length) (x : Gw.Op.Op) : List.take (j * 7) (flatO l) ++ forgetAll (cellsO x) ++ List.drop (j * 7 + 7) (flatO l) = flatO (l.set j x) := by
  show List.take (j * 7) (flatO l) ++ cellsO x ++ List.drop (j * 7 + 7) (flatO l) = _
  have hl := flatO_len (l.take j)
  rw [List.length_take, Nat.min_eq_left (Nat.le_of_lt h)] at hl
  have h' : j < (l.set j x).length := by simpa using h
  rw [flatO_split h', List.getElem_set_self, List.take_set_of_le (Nat.le_refl _), List.drop_set_of_lt (Nat.lt_succ_self _)]
  conv => lhs; rw [flatO_split h]
  rw [List.take_left' hl, List.append_assoc]
  congr 2
  rw [← List.append_assoc, List.drop_left' (by rw [List.length_append, hl]; rfl)]
/-- What the blocks are: a row of operations, and nothing else. -/
abbrev opsAt (l : List Gw.Op.Op) : List (Am.Loc × C) := [(.blk 0, .mem 39 (flatO l))]
theorem insert_ac (l : List Gw.Op.Op) (a b n : Nat) (hn : n = l.length) (hb : b ≤ l.length) (ha : a ≤ b) (hl : l.length ≤ 1048576) :
    AC Try.prog 60 [.own 0 0 7 n true, .int .i64 a, .int .i64 b, .func 30 [] []] (ofL (opsAt l)) 1
      (givenK 1 fun x es => x = .val (.tup []) ∧ es = opsAt (Gw.Sort.isort lessO a b l)) := by
  refine AC.of tabOk mixed (fn := Try.f60) (by kernel_rfl) rfl (by kernel_rfl) rfl rfl ?_
  have e1 : IntKind.i64.wrap ((a : Int) + 1) = ((a + 1 : Nat) : Int) := by rw [w64 (by omega) (by omega)]; rfl
  conv => whnf
  rw [e1]
  refine AW.loop (X := Nat × List Gw.Op.Op) (fun x => [(.tmp 0, .v (.own 0 0 7 n true)), (.tmp 1, .v (.int .i64 a)), (.tmp 2, .v (.int .i64 b)), (.tmp 3, .v (.func 30 [] [])), (.tmp 8, .v (.int .i64 x.1)), (.blk 0, .mem 39 (flatO x.2))]) 1
    (fun x => a + 1 ≤ x.1 ∧ x.2.length = l.length ∧ Gw.Sort.isort lessO a b l = Gw.Sort.insF lessO a (b - x.1) x.1 x.2) (fun x => b - x.1) (by decide) (a + 1, l) ⟨Nat.le_refl _, rfl, rfl⟩ ⟨rfl, rfl, rfl, rfl, rfl, rfl, rfl, rfl, rfl, rfl, rfl, rfl, trivial⟩ ?_
  rintro ⟨i, s⟩ ⟨h1, h2, h3⟩
  simp only at h1 h2 h3
  dsimp only
  refine ev_sound tabOk mixed _ _ _ _ ?_
  conv => whnf
  refine ⟨fun h => ?_, fun h => ?_⟩
  · have h := of_decide_eq_true h
    obtain ⟨f, hf⟩ : ∃ f, b - i = f + 1 := ⟨b - i - 1, by omega⟩
    rw [hf, Gw.Sort.insF] at h3
    conv => whnf
    refine AW.loop (X := Nat × List Gw.Op.Op) (fun x => [(.tmp 0, .v (.own 0 0 7 n true)), (.tmp 1, .v (.int .i64 a)), (.tmp 2, .v (.int .i64 b)), (.tmp 3, .v (.func 30 [] [])), (.tmp 8, .v (.int .i64 i)), (.tmp 9, .v (.int .i64 x.1)), (.blk 0, .mem 39 (flatO x.2))]) 1
      (fun x => a ≤ x.1 ∧ x.1 ≤ i ∧ x.2.length = l.length ∧ Gw.Sort.sink lessO a i s = Gw.Sort.sink lessO a x.1 x.2) (fun x => x.1) (by decide) (i, s) ⟨by show a ≤ i; omega, Nat.le_refl _, h2, rfl⟩ ⟨rfl, rfl, rfl, rfl, rfl, rfl, rfl, rfl, rfl, rfl, rfl, rfl, rfl, rfl, trivial⟩ ?_
    rintro ⟨j, u⟩ ⟨g0, g1, g2, g3⟩
    simp only at g0 g1 g2 g3
    dsimp only
    refine ev_sound tabOk mixed _ _ _ _ ?_
    have hfl := flatO_len u
    by_cases hj : a < j
    · obtain ⟨j, rfl⟩ : ∃ k, j = k + 1 := ⟨j - 1, by omega⟩
      rw [Gw.Sort.sink, decide_eq_true hj, Bool.true_and] at g3
      have hj1 : j + 1 < u.length := by omega
      have hj0 : j < u.length := by omega
      have hL1 := flatO_get hj1
      have hL0 := flatO_get hj0
      have hcm := foldCmp_pc u[j + 1] u[j]
      have hng := cmpO_neg u[j + 1] u[j]
      have hwj : IntKind.i64.wrap (((j + 1 : Nat) : Int) - 1) = (j : Int) := by rw [w64 (by omega) (by omega)]; omega
      rw [Gw.Sort.lessAt_eq lessO hj1 hj0] at g3
      have hts : decide ((a : Int) < ((j + 1 : Nat) : Int)) = true := decide_eq_true (by omega)
      conv => whnf
      refine ⟨fun _ => ?_, fun h => absurd (hts.symm.trans h) (by decide)⟩
      have o1 : 0 + ((j + 1 : Nat) : Int).toNat * 7 = (j + 1) * 7 := by rw [Int.toNat_natCast, Nat.zero_add]
      have o0 : 0 + (j : Int).toNat * 7 = j * 7 := by rw [Int.toNat_natCast, Nat.zero_add]
      conv => whnf
      refine ⟨by omega, ?_⟩
      conv => whnf
      rw [o1]
      refine ⟨_, ⟨by omega, hL1⟩, ?_⟩
      conv => whnf
      rw [hwj]
      refine ⟨by omega, ?_⟩
      conv => whnf
      rw [o0]
      refine ⟨_, ⟨by omega, hL0⟩, ?_⟩
      conv => whnf
      refine ⟨_, rfl, hcm, ?_⟩
      conv => whnf
      refine ⟨by kernel_rfl, ?_⟩
      conv => whnf
      refine ⟨fun h => ?_, fun h => ?_⟩
      · have h : decide (cmpO u[j + 1] u[j] < 0) = true := h
        rw [hng] at h
        rw [h, if_pos rfl] at g3
        conv => whnf
        rw [hwj]
        refine ⟨by omega, ?_⟩
        conv => whnf
        rw [o0]
        refine ⟨_, ⟨by omega, hL0⟩, ?_⟩
        conv => whnf
        refine ⟨by omega, ?_⟩
        conv => whnf
        rw [o1]
        refine ⟨_, ⟨by omega, hL1⟩, ?_⟩
        conv => whnf
        refine ⟨by omega, ?_⟩
        conv => whnf
        rw [o1]
        refine ⟨by omega, ?_⟩
        have hs1 := flatO_set hj1 u[j]
        have hjs : j < (u.set (j + 1) u[j]).length := by simpa using hj0
        have hs0 := flatO_set hjs u[j + 1]
        have hsw := Gw.Sort.swap_eq hj1 hj0
        conv => whnf
        rw [hs1]
        refine ⟨by omega, ?_⟩
        conv => whnf
        rw [o0]
        refine ⟨by rw [flatO_len, List.length_set]; omega, ?_⟩
        conv => whnf
        rw [hs0, ← hsw]
        refine ⟨by kernel_rfl, ?_⟩
        conv => whnf
        refine ⟨(j, Gw.Sort.swap u (j + 1) j), ⟨by show a ≤ j; omega, by show j ≤ i; omega, by rw [Gw.Sort.swap_len]; exact g2, g3⟩, Nat.lt_succ_self j, rfl, rfl, rfl, rfl, rfl, rfl, rfl, rfl, rfl, rfl, ?_, rfl, rfl, rfl, trivial⟩
        show C.v (V.int .i64 (IntKind.i64.wrap (((j + 1 : Nat) : Int) - 1))) = _
        rw [hwj]
      · have h : decide (cmpO u[j + 1] u[j] < 0) = false := h
        rw [hng] at h
        rw [h, if_neg (by decide)] at g3
        conv => whnf
        refine ⟨(i + 1, u), ⟨by show a + 1 ≤ i + 1; omega, g2, by rw [h3, g3]; congr 1; show f = b - (i + 1); omega⟩, by show b - (i + 1) < b - i; omega, rfl, rfl, rfl, rfl, rfl, rfl, rfl, rfl, ?_, rfl, rfl, rfl, trivial⟩
        show C.v (V.int .i64 (IntKind.i64.wrap ((i : Int) + 1))) = _
        rw [w64 (by omega) (by omega)]; rfl
    · have hts : decide ((a : Int) < (j : Int)) = false := decide_eq_false (by omega)
      have hes : Gw.Sort.sink lessO a j u = u := by
        cases j with
        | zero => rfl
        | succ k => rw [Gw.Sort.sink, decide_eq_false hj, Bool.false_and, if_neg (by decide)]
      rw [hes] at g3
      conv => whnf
      refine ⟨fun h => absurd (hts.symm.trans h) (by decide), fun _ => ?_⟩
      conv => whnf
      refine ⟨by kernel_rfl, ?_⟩
      conv => whnf
      refine ⟨(i + 1, u), ⟨by show a + 1 ≤ i + 1; omega, g2, by rw [h3, g3]; congr 1; show f = b - (i + 1); omega⟩, by show b - (i + 1) < b - i; omega, rfl, rfl, rfl, rfl, rfl, rfl, rfl, rfl, ?_, rfl, rfl, rfl, trivial⟩
      show C.v (V.int .i64 (IntKind.i64.wrap ((i : Int) + 1))) = _
      rw [w64 (by omega) (by omega)]; rfl
  · have h := of_decide_eq_false h
    rw [show b - i = 0 by omega, Gw.Sort.insF] at h3
    rw [h3]
    conv => whnf
    exact ⟨_, _, ⟨rfl, rfl⟩, rfl, ⟨rfl, rfl⟩, rfl, rfl, trivial⟩
end Go.Proofs.Ytkflmicpifohhaa
