/- A short sort in place: told without addresses. No claim of its own. -/
import Derived.Test.YtipgfdepopfghaaGreatATreeM
import Derived.Test.YtipgfdepopfghaaGreatTreePl
import Derived.Test.YtipgfdepopfghaaGreatAmB
namespace Go.Proofs.YtipgfdepopfghaaGreat
open Go.Am

def lessO (a b : Gw.Op.Op) : Bool := Gw.Stamp.less a.at_ b.at_
def cmpO (a b : Gw.Op.Op) : Int := if lessO a b = true then -1 else if lessO b a = true then 1 else 0
theorem cmpO_neg (a b : Gw.Op.Op) : decide (cmpO a b < 0) = lessO a b := by
  unfold cmpO
  cases lessO a b <;> cases lessO b a <;> rfl
theorem foldCmp_pc (a b : Gw.Op.Op) : PC Tryz.prog 41 [encO a, encO b] (.int .i64 (cmpO a b)) := by
  have h1 := opLess_pc a b
  have h2 := opLess_pc b a
  refine PC.of tabOk mixed (fn := Tryz.f41) (by kernel_rfl) rfl (by kernel_rfl) rfl rfl ?_
  unfold cmpO lessO
  conv => whnf
  refine AC.of_pc h1 rfl ?_
  cases Gw.Stamp.less a.at_ b.at_ with
  | true =>
    conv => whnf
    repeat (first | refine ⟨fun _ => ?_, fun h => absurd h (by decide)⟩ | refine ⟨fun h => absurd h (by decide), fun _ => ?_⟩ | refine ⟨fun _ => ?_, fun h => absurd (show true = false from h) (by decide)⟩ | refine ⟨fun h => absurd (show false = true from h) (by decide), fun _ => ?_⟩
            (conv => whnf))
    rfl
  | false =>
    conv => whnf
    repeat (first | refine ⟨fun _ => ?_, fun h => absurd h (by decide)⟩ | refine ⟨fun h => absurd h (by decide), fun _ => ?_⟩ | refine ⟨fun _ => ?_, fun h => absurd (show true = false from h) (by decide)⟩ | refine ⟨fun h => absurd (show false = true from h) (by decide), fun _ => ?_⟩
            (conv => whnf))
    refine AC.of_pc h2 rfl ?_
    cases Gw.Stamp.less b.at_ a.at_ with
    | true =>
      conv => whnf
      repeat (first | refine ⟨fun _ => ?_, fun h => absurd h (by decide)⟩ | refine ⟨fun h => absurd h (by decide), fun _ => ?_⟩ | refine ⟨fun _ => ?_, fun h => absurd (show true = false from h) (by decide)⟩ | refine ⟨fun h => absurd (show false = true from h) (by decide), fun _ => ?_⟩
              (conv => whnf))
      rfl
    | false =>
      conv => whnf
      repeat (first | refine ⟨fun _ => ?_, fun h => absurd h (by decide)⟩ | refine ⟨fun h => absurd h (by decide), fun _ => ?_⟩ | refine ⟨fun _ => ?_, fun h => absurd (show true = false from h) (by decide)⟩ | refine ⟨fun h => absurd (show false = true from h) (by decide), fun _ => ?_⟩
              (conv => whnf))
      rfl
def flatO (l : List Gw.Op.Op) : List V := (encOs l).flatten
theorem flatO_len (l : List Gw.Op.Op) : (flatO l).length = l.length * 7 := by
  induction l with
  | nil => rfl
  | cons n l ih => show (cellsO n ++ flatO l).length = _; rw [List.length_append, ih, List.length_cons]; show 7 + _ = _; omega
theorem flatO_app (l m : List Gw.Op.Op) : flatO (l ++ m) = flatO l ++ flatO m := by unfold flatO encOs; rw [List.map_append, List.flatten_append]
theorem flatO_split {l : List Gw.Op.Op} {j : Nat} (h : j < l.length) : flatO l = flatO (l.take j) ++ (cellsO l[j] ++ flatO (l.drop (j + 1))) := by
  have e : l = l.take j ++ (l[j] :: l.drop (j + 1)) := by rw [← List.drop_eq_getElem_cons h, List.take_append_drop]
  conv => lhs; rw [e, flatO_app]
  rfl
theorem flatO_get {l : List Gw.Op.Op} {j : Nat} (h : j < l.length) : List.take 7 (List.drop (j * 7) (flatO l)) = cellsO l[j] := by
  have hl := flatO_len (l.take j)
  rw [List.length_take, Nat.min_eq_left (Nat.le_of_lt h)] at hl
  rw [flatO_split h, List.drop_left' hl]
  rfl
theorem flatO_set {l : List Gw.Op.Op} {j : Nat} (h : j < l.length) (x : Gw.Op.Op) : List.take (j * 7) (flatO l) ++ forgetAll (cellsO x) ++ List.drop (j * 7 + 7) (flatO l) = flatO (l.set j x) := by
  show List.take (j * 7) (flatO l) ++ cellsO x ++ List.drop (j * 7 + 7) (flatO l) = _
  have hl := flatO_len (l.take j)
  rw [List.length_take, Nat.min_eq_left (Nat.le_of_lt h)] at hl
  have h' : j < (l.set j x).length := by simpa using h
  rw [flatO_split h', List.getElem_set_self, List.take_set_of_le (Nat.le_refl _), List.drop_set_of_lt (Nat.lt_succ_self _)]
  conv => lhs; rw [flatO_split h]
  rw [List.take_left' hl, List.append_assoc]
  congr 2
  rw [← List.append_assoc, List.drop_left' (by rw [List.length_append, hl]; rfl)]
/-- What the blocks are: a row of operations, and nothing else. -/
abbrev opsAt (l : List Gw.Op.Op) : List (Am.Loc × C) := [(.blk 0, .mem 51 (flatO l))]
theorem insert_ac (l : List Gw.Op.Op) (a b n : Nat) (hn : n = l.length) (hb : b ≤ l.length) (ha : a ≤ b) (hl : l.length ≤ 1048576) :
    AC Tryz.prog 99 [.own 0 0 7 n true, .int .i64 a, .int .i64 b, .func 41 [] []] (ofL (opsAt l)) 1
      (givenK 1 fun x es => x = .val (.tup []) ∧ es = opsAt (Gw.Sort.isort lessO a b l)) := by
  refine AC.of tabOk mixed (fn := Tryz.f99) (by kernel_rfl) rfl (by kernel_rfl) rfl rfl ?_
  have e1 : IntKind.i64.wrap ((a : Int) + 1) = ((a + 1 : Nat) : Int) := by rw [w64 (by omega) (by omega)]; rfl
  conv => whnf
  rw [e1]
  refine AW.loop (X := Nat × List Gw.Op.Op) (fun x => [(.tmp 0, .v (.own 0 0 7 n true)), (.tmp 1, .v (.int .i64 a)), (.tmp 2, .v (.int .i64 b)), (.tmp 3, .v (.func 41 [] [])), (.tmp 8, .v (.int .i64 x.1)), (.blk 0, .mem 51 (flatO x.2))]) 1
    (fun x => a + 1 ≤ x.1 ∧ x.2.length = l.length ∧ Gw.Sort.isort lessO a b l = Gw.Sort.insF lessO a (b - x.1) x.1 x.2) (fun x => b - x.1) (by decide) (a + 1, l) ⟨Nat.le_refl _, rfl, rfl⟩ ⟨rfl, rfl, rfl, rfl, rfl, rfl, rfl, rfl, rfl, rfl, rfl, rfl, trivial⟩ ?_
  rintro ⟨i, s⟩ ⟨h1, h2, h3⟩
  simp only at h1 h2 h3
  dsimp only
  refine ev_sound tabOk mixed _ _ _ _ ?_
  conv => whnf
  refine ⟨fun h => ?_, fun h => ?_⟩
  · have h := of_decide_eq_true h
    obtain ⟨f, hf⟩ : ∃ f, b - i = f + 1 := ⟨b - i - 1, by omega⟩
    rw [hf, Gw.Sort.insF] at h3
    conv => whnf
    refine AW.loop (X := Nat × List Gw.Op.Op) (fun x => [(.tmp 0, .v (.own 0 0 7 n true)), (.tmp 1, .v (.int .i64 a)), (.tmp 2, .v (.int .i64 b)), (.tmp 3, .v (.func 41 [] [])), (.tmp 8, .v (.int .i64 i)), (.tmp 9, .v (.int .i64 x.1)), (.blk 0, .mem 51 (flatO x.2))]) 1
      (fun x => a ≤ x.1 ∧ x.1 ≤ i ∧ x.2.length = l.length ∧ Gw.Sort.sink lessO a i s = Gw.Sort.sink lessO a x.1 x.2) (fun x => x.1) (by decide) (i, s) ⟨by show a ≤ i; omega, Nat.le_refl _, h2, rfl⟩ ⟨rfl, rfl, rfl, rfl, rfl, rfl, rfl, rfl, rfl, rfl, rfl, rfl, rfl, rfl, trivial⟩ ?_
    rintro ⟨j, u⟩ ⟨g0, g1, g2, g3⟩
    simp only at g0 g1 g2 g3
    dsimp only
    refine ev_sound tabOk mixed _ _ _ _ ?_
    have hfl := flatO_len u
    by_cases hj : a < j
    · obtain ⟨j, rfl⟩ : ∃ k, j = k + 1 := ⟨j - 1, by omega⟩
      rw [Gw.Sort.sink, decide_eq_true hj, Bool.true_and] at g3
      have hj1 : j + 1 < u.length := by omega
      have hj0 : j < u.length := by omega
      have hL1 := flatO_get hj1
      have hL0 := flatO_get hj0
      have hcm := foldCmp_pc u[j + 1] u[j]
      have hng := cmpO_neg u[j + 1] u[j]
      have hwj : IntKind.i64.wrap (((j + 1 : Nat) : Int) - 1) = (j : Int) := by rw [w64 (by omega) (by omega)]; omega
      rw [Gw.Sort.lessAt_eq lessO hj1 hj0] at g3
      have hts : decide ((a : Int) < ((j + 1 : Nat) : Int)) = true := decide_eq_true (by omega)
      conv => whnf
      refine ⟨fun _ => ?_, fun h => absurd (hts.symm.trans h) (by decide)⟩
      have o1 : 0 + ((j + 1 : Nat) : Int).toNat * 7 = (j + 1) * 7 := by rw [Int.toNat_natCast, Nat.zero_add]
      have o0 : 0 + (j : Int).toNat * 7 = j * 7 := by rw [Int.toNat_natCast, Nat.zero_add]
      conv => whnf
      refine ⟨by omega, ?_⟩
      conv => whnf
      rw [o1]
      refine ⟨_, ⟨by omega, hL1⟩, ?_⟩
      conv => whnf
      rw [hwj]
      refine ⟨by omega, ?_⟩
      conv => whnf
      rw [o0]
      refine ⟨_, ⟨by omega, hL0⟩, ?_⟩
      conv => whnf
      refine ⟨_, rfl, hcm, ?_⟩
      conv => whnf
      refine ⟨by kernel_rfl, ?_⟩
      conv => whnf
      refine ⟨fun h => ?_, fun h => ?_⟩
      · have h : decide (cmpO u[j + 1] u[j] < 0) = true := h
        rw [hng] at h
        rw [h, if_pos rfl] at g3
        conv => whnf
        rw [hwj]
        refine ⟨by omega, ?_⟩
        conv => whnf
        rw [o0]
        refine ⟨_, ⟨by omega, hL0⟩, ?_⟩
        conv => whnf
        refine ⟨by omega, ?_⟩
        conv => whnf
        rw [o1]
        refine ⟨_, ⟨by omega, hL1⟩, ?_⟩
        conv => whnf
        refine ⟨by omega, ?_⟩
        conv => whnf
        rw [o1]
        refine ⟨by omega, ?_⟩
        have hs1 := flatO_set hj1 u[j]
        have hjs : j < (u.set (j + 1) u[j]).length := by simpa using hj0
        have hs0 := flatO_set hjs u[j + 1]
        have hsw := Gw.Sort.swap_eq hj1 hj0
        conv => whnf
        rw [hs1]
        refine ⟨by omega, ?_⟩
        conv => whnf
        rw [o0]
        refine ⟨by rw [flatO_len, List.length_set]; omega, ?_⟩
        conv => whnf
        rw [hs0, ← hsw]
        refine ⟨by kernel_rfl, ?_⟩
        conv => whnf
        refine ⟨(j, Gw.Sort.swap u (j + 1) j), ⟨by show a ≤ j; omega, by show j ≤ i; omega, by rw [Gw.Sort.swap_len]; exact g2, g3⟩, Nat.lt_succ_self j, rfl, rfl, rfl, rfl, rfl, rfl, rfl, rfl, rfl, rfl, ?_, rfl, rfl, rfl, trivial⟩
        show C.v (V.int .i64 (IntKind.i64.wrap (((j + 1 : Nat) : Int) - 1))) = _
        rw [hwj]
      · have h : decide (cmpO u[j + 1] u[j] < 0) = false := h
        rw [hng] at h
        rw [h, if_neg (by decide)] at g3
        conv => whnf
        refine ⟨(i + 1, u), ⟨by show a + 1 ≤ i + 1; omega, g2, by rw [h3, g3]; congr 1; show f = b - (i + 1); omega⟩, by show b - (i + 1) < b - i; omega, rfl, rfl, rfl, rfl, rfl, rfl, rfl, rfl, ?_, rfl, rfl, rfl, trivial⟩
        show C.v (V.int .i64 (IntKind.i64.wrap ((i : Int) + 1))) = _
        rw [w64 (by omega) (by omega)]; rfl
    · have hts : decide ((a : Int) < (j : Int)) = false := decide_eq_false (by omega)
      have hes : Gw.Sort.sink lessO a j u = u := by
        cases j with
        | zero => rfl
        | succ k => rw [Gw.Sort.sink, decide_eq_false hj, Bool.false_and, if_neg (by decide)]
      rw [hes] at g3
      conv => whnf
      refine ⟨fun h => absurd (hts.symm.trans h) (by decide), fun _ => ?_⟩
      conv => whnf
      refine ⟨by kernel_rfl, ?_⟩
      conv => whnf
      refine ⟨(i + 1, u), ⟨by show a + 1 ≤ i + 1; omega, g2, by rw [h3, g3]; congr 1; show f = b - (i + 1); omega⟩, by show b - (i + 1) < b - i; omega, rfl, rfl, rfl, rfl, rfl, rfl, rfl, rfl, ?_, rfl, rfl, rfl, trivial⟩
      show C.v (V.int .i64 (IntKind.i64.wrap ((i : Int) + 1))) = _
      rw [w64 (by omega) (by omega)]; rfl
  · have h := of_decide_eq_false h
    rw [show b - i = 0 by omega, Gw.Sort.insF] at h3
    rw [h3]
    conv => whnf
    exact ⟨_, _, ⟨rfl, rfl⟩, rfl, ⟨rfl, rfl⟩, rfl, rfl, trivial⟩
end Go.Proofs.YtipgfdepopfghaaGreat


namespace Go.Proofs.YtipgfdepopfghaaGreat
open Go.Am

theorem stableS_ac (l : List Gw.Op.Op) (n : Nat) (hn : n = l.length) (hl : l.length < 20) :
    AC Tryz.prog 67 [.own 0 0 7 n true, .int .i64 n, .func 41 [] []] (ofL (opsAt l)) 1
      (givenK 1 fun x es => x = .val (.tup []) ∧ es = opsAt (Gw.Sort.isort lessO 0 n l)) := by
  have hins := insert_ac l 0 n n hn (by omega) (Nat.zero_le _) (by omega)
  refine AC.of tabOk mixed (fn := Tryz.f67) (by kernel_rfl) rfl (by kernel_rfl) rfl rfl ?_
  conv => whnf
  refine AW.loop (X := Unit) (fun _ => [(.tmp 0, .v (.own 0 0 7 n true)), (.tmp 1, .v (.int .i64 n)), (.tmp 2, .v (.func 41 [] [])), (.tmp 6, .v (.int .i64 20)), (.tmp 7, .v (.int .i64 0)), (.tmp 8, .v (.int .i64 20)), (.blk 0, .mem 51 (flatO l))]) 1
    (fun _ => True) (fun _ => 0) (by decide) () trivial ⟨rfl, rfl, rfl, rfl, rfl, rfl, rfl, rfl, rfl, rfl, rfl, rfl, rfl, rfl, trivial⟩ ?_
  rintro _ _
  dsimp only
  refine ev_sound tabOk mixed _ _ _ _ ?_
  have hts : decide ((20 : Int) ≤ (n : Int)) = false := decide_eq_false (by omega)
  have hts2 : decide ((20 : Int) < (n : Int)) = false := decide_eq_false (by omega)
  conv => whnf
  refine ⟨fun h => absurd (hts.symm.trans h) (by decide), fun _ => ?_⟩
  conv => whnf
  refine AC.frame (es := opsAt l) ⟨rfl, rfl, trivial⟩ rfl (by decide) rfl hins ?_
  rintro x es ⟨rfl, rfl⟩
  conv => whnf
  refine AW.loop (X := Unit) (fun _ => [(.tmp 1, .v (.int .i64 n)), (.tmp 6, .v (.int .i64 20)), (.blk 0, .mem 51 (flatO (Gw.Sort.isort lessO 0 n l)))]) 1
    (fun _ => True) (fun _ => 0) (by decide) () trivial ⟨rfl, rfl, rfl, rfl, rfl, rfl, trivial⟩ ?_
  rintro _ _
  refine ev_sound tabOk mixed _ _ _ _ ?_
  conv => whnf
  refine ⟨fun h => absurd (hts2.symm.trans h) (by decide), fun _ => ?_⟩
  conv => whnf
  exact ⟨_, _, ⟨rfl, rfl⟩, rfl, ⟨rfl, rfl⟩, rfl, rfl, trivial⟩
theorem sortS_ac (l : List Gw.Op.Op) (n : Nat) (hn : n = l.length) (hl : l.length < 20) :
    AC Tryz.prog 40 [.own 0 0 7 n true, .func 41 [] []] (ofL (opsAt l)) 1
      (givenK 1 fun x es => x = .val (.tup []) ∧ es = opsAt (Gw.Sort.isort lessO 0 n l)) := by
  have hst := stableS_ac l n hn hl
  refine AC.of tabOk mixed (fn := Tryz.f40) (by kernel_rfl) rfl (by kernel_rfl) rfl rfl ?_
  conv => whnf
  refine AC.frame (es := opsAt l) ⟨rfl, rfl, trivial⟩ rfl (by decide) rfl hst ?_
  rintro x es ⟨rfl, rfl⟩
  conv => whnf
  exact ⟨_, _, ⟨rfl, rfl⟩, rfl, ⟨rfl, rfl⟩, rfl, rfl, trivial⟩
def sameAt (a b : Gw.Op.Op) : Bool := a.at_.c == b.at_.c && a.at_.r == b.at_.r
theorem foldEq_pc (a b : Gw.Op.Op) : PC Tryz.prog 44 [encO a, encO b] (.bool (sameAt a b)) := by
  refine PC.of tabOk mixed (fn := Tryz.f44) (by kernel_rfl) rfl (by kernel_rfl) rfl rfl ?_
  conv => whnf
  refine ⟨by kernel_rfl, ?_⟩
  conv => whnf
  rfl
theorem compactS_ac (l : List Gw.Op.Op) (n : Nat) (hn : n = l.length) (hl : l.length ≤ 1048576) (hne : ∀ i (h : i + 1 < l.length), sameAt l[i + 1] l[i] = false) :
    AC Tryz.prog 43 [.own 0 0 7 n true, .func 44 [] []] (ofL (opsAt l)) 1
      (givenK 1 fun x es => x = .val (.own 0 0 7 n true) ∧ es = opsAt l) := by
  refine AC.of tabOk mixed (fn := Tryz.f43) (by kernel_rfl) rfl (by kernel_rfl) rfl rfl ?_
  conv => whnf
  refine ⟨fun h => ?_, fun h => ?_⟩
  · have h := of_decide_eq_true h
    conv => whnf
    exact ⟨_, _, ⟨rfl, rfl⟩, rfl, ⟨rfl, rfl⟩, rfl, rfl, trivial⟩
  have h := of_decide_eq_false h
  conv => whnf
  refine AW.loop (fun k : Nat => [(.tmp 0, .v (.own 0 0 7 n true)), (.tmp 1, .v (.func 44 [] [])), (.tmp 5, .v (.int .i64 k)), (.blk 0, .mem 51 (flatO l))]) 1
    (fun k => 1 ≤ k ∧ k ≤ n) (fun k => n - k) (by decide) 1 ⟨Nat.le_refl _, by omega⟩ ⟨rfl, rfl, rfl, rfl, rfl, rfl, rfl, rfl, trivial⟩ ?_
  rintro k ⟨h1, h2⟩
  refine ev_sound tabOk mixed _ _ _ _ ?_
  have hfl := flatO_len l
  conv => whnf
  refine ⟨fun h => ?_, fun h => ?_⟩
  · have h := of_decide_eq_true h
    obtain ⟨j, rfl⟩ : ∃ j, k = j + 1 := ⟨k - 1, by omega⟩
    have hj1 : j + 1 < l.length := by omega
    have hj0 : j < l.length := by omega
    have hL1 := flatO_get hj1
    have hL0 := flatO_get hj0
    have heq := foldEq_pc l[j + 1] l[j]
    rw [hne j hj1] at heq
    have hwj : IntKind.i64.wrap (((j + 1 : Nat) : Int) - 1) = (j : Int) := by rw [w64 (by omega) (by omega)]; omega
    have o1 : 0 + ((j + 1 : Nat) : Int).toNat * 7 = (j + 1) * 7 := by rw [Int.toNat_natCast, Nat.zero_add]
    have o0 : 0 + (j : Int).toNat * 7 = j * 7 := by rw [Int.toNat_natCast, Nat.zero_add]
    conv => whnf
    refine ⟨by omega, ?_⟩
    conv => whnf
    rw [o1]
    refine ⟨_, ⟨by omega, hL1⟩, ?_⟩
    conv => whnf
    rw [hwj]
    refine ⟨by omega, ?_⟩
    conv => whnf
    rw [o0]
    refine ⟨_, ⟨by omega, hL0⟩, ?_⟩
    conv => whnf
    refine ⟨_, rfl, heq, ?_⟩
    conv => whnf
    refine ⟨by kernel_rfl, ?_⟩
    conv => whnf
    repeat (first | refine ⟨fun _ => ?_, fun h => absurd h (by decide)⟩ | refine ⟨fun h => absurd h (by decide), fun _ => ?_⟩ | refine ⟨fun _ => ?_, fun h => absurd (show true = false from h) (by decide)⟩ | refine ⟨fun h => absurd (show false = true from h) (by decide), fun _ => ?_⟩
            (conv => whnf))
    refine ⟨j + 2, ⟨by omega, by omega⟩, by show n - (j + 2) < n - (j + 1); omega, rfl, rfl, rfl, rfl, ?_, rfl, rfl, rfl, trivial⟩
    show C.v (V.int .i64 (IntKind.i64.wrap (((j + 1 : Nat) : Int) + 1))) = _
    rw [w64 (by omega) (by omega)]; rfl
  · conv => whnf
    exact ⟨_, _, ⟨rfl, rfl⟩, rfl, ⟨rfl, rfl⟩, rfl, rfl, trivial⟩
end Go.Proofs.YtipgfdepopfghaaGreat


namespace Go.Proofs.YtipgfdepopfghaaGreat
open Go.Am

theorem safe_ops (l : List Gw.Op.Op) : ∀ el ∈ encOs l, ∀ x ∈ el, safeV x = true := fun el h x hx => by
  obtain ⟨o, _, rfl⟩ := List.mem_map.1 h
  simp only [cellsO, List.mem_cons, List.not_mem_nil, or_false] at hx
  rcases hx with rfl | rfl | rfl | rfl | rfl | rfl | rfl <;> rfl
/-- Nodes behind operations. -/
def foldN (l : List Gw.Op.Op) : List Gw.Tree.Node := l.foldl Gw.Tree.done []
theorem foldN_take (l : List Gw.Op.Op) {k : Nat} (h : k < l.length) : foldN (l.take (k + 1)) = Gw.Tree.done (foldN (l.take k)) l[k] := by
  unfold foldN
  rw [List.take_succ_eq_append_getElem h, List.foldl_append]
  rfl
theorem foldN_snoc (l : List Gw.Op.Op) (o : Gw.Op.Op) : foldN (l ++ [o]) = Gw.Tree.done (foldN l) o := by
  unfold foldN
  rw [List.foldl_append]
  rfl
theorem fold_fine : ∀ (l : List Gw.Op.Op) (acc : List Gw.Tree.Node), (∀ n ∈ acc, I64 n.id) → (∀ o ∈ l, I64 o.node) → (∀ n ∈ l.foldl Gw.Tree.done acc, I64 n.id) ∧ (l.foldl Gw.Tree.done acc).length ≤ acc.length + l.length
  | [], acc, h, _ => ⟨h, Nat.le_refl _⟩
  | o :: l, acc, h, h' => by
    have h1 : ∀ n ∈ Gw.Tree.done acc o, I64 n.id := fun n hn => by
      rcases Gw.Tree.done_mem hn with hn | ⟨_, _, hn⟩
      · exact h n hn
      · rw [hn]; exact h' o (by simp)
    obtain ⟨q1, q2⟩ := fold_fine l (Gw.Tree.done acc o) h1 (fun p hp => h' p (by simp [hp]))
    have := Gw.Tree.done_len acc o
    exact ⟨q1, by rw [List.foldl_cons, List.length_cons]; omega⟩
theorem foldN_fine (l : List Gw.Op.Op) (h : ∀ o ∈ l, I64 o.node) : (∀ n ∈ foldN l, I64 n.id) ∧ (foldN l).length ≤ l.length := by
  obtain ⟨h1, h2⟩ := fold_fine l [] (fun n h => by cases h) h
  exact ⟨h1, by rw [List.length_nil, Nat.zero_add] at h2; exact h2⟩
theorem foldS_pc (nil : Bool) (l s : List Gw.Op.Op) (hl : l.length ≤ 1000) (hf : ∀ o ∈ l, Fine o) (hs : s = Gw.Sort.isort lessO 0 (l.filter Gw.Op.check).length (l.filter Gw.Op.check))
    (h0 : l.filter Gw.Op.check ≠ []) (hlt : (l.filter Gw.Op.check).length < 20) (hne : ∀ i (h : i + 1 < s.length), sameAt s[i + 1] s[i] = false) :
    PC Tryz.prog 21 [.lst nil 7 (encOs l) .none] (.lst false 8 (encN (foldN s)) .none) := by
  have hel := encOs_len l
  refine PC.of_pr (PR.ofA tabOk (fn := Tryz.f21) (by kernel_rfl) rfl (by kernel_rfl) rfl rfl ?_)
  refine AW.seq (ev_sound tabOk mixed _ _ _ _ ?_)
  conv => whnf
  refine AW.seq (ev_sound tabOk mixed _ _ _ _ ?_)
  conv => whnf
  refine AW.seq (ev_sound tabOk mixed _ _ _ _ ?_)
  conv => whnf
  refine AW.rowT 3 51 7 rfl rfl ?_
  refine AW.loop (fun k : Nat => [(.tmp 9, .v (.lst nil 7 (encOs l) .none)), (.tmp 10, .v (.int .i64 l.length)), (.tmp 11, .v (.int .i64 k)), (.tmp 3, .v (.lst (decide ((l.take k).filter Gw.Op.check = [])) 7 (encOs ((l.take k).filter Gw.Op.check)) (.brow 5))), (.row 5, .row 51 7 ((l.take k).filter Gw.Op.check).length)]) 6
    (fun k => k ≤ l.length) (fun k => l.length - k) (by decide) 0 (Nat.zero_le _) ⟨rfl, rfl, ?_, rfl, rfl, rfl, rfl, rfl, rfl, rfl, trivial⟩ ?_
  · show C.v (V.int .i64 (encOs l).length) = _
    rw [hel]
  rintro k hk
  refine ev_sound tabOk mixed _ _ _ _ ?_
  conv => whnf
  refine ⟨fun h => ?_, fun h => ?_⟩
  · have h := of_decide_eq_true h
    have hlt : k < l.length := by omega
    have hg := encOs_get hlt
    have hoc := opCheck_pc l[k] (hf _ (List.getElem_mem hlt))
    have e1 : l.take (k + 1) = l.take k ++ [l[k]] := List.take_succ_eq_append_getElem hlt
    have w1 : IntKind.i64.wrap ((k : Int) + 1) = ((k + 1 : Nat) : Int) := by rw [w64 (by omega) (by omega)]; rfl
    have hal : ((l.take k).filter Gw.Op.check).length ≤ k := by have := List.length_filter_le Gw.Op.check (l.take k); rw [List.length_take] at this; omega
    conv => whnf
    refine ⟨_, ⟨by omega, hg⟩, ?_⟩
    conv => whnf
    refine AC.of_pc hoc rfl ?_
    cases hq : Gw.Op.check l[k] with
    | false =>
      have e2 : (l.take (k + 1)).filter Gw.Op.check = (l.take k).filter Gw.Op.check := by rw [e1, List.filter_append, List.filter_cons_of_neg (by simp [hq]), List.filter_nil, List.append_nil]
      conv => whnf
      repeat (first | refine ⟨fun _ => ?_, fun h => absurd h (by decide)⟩ | refine ⟨fun h => absurd h (by decide), fun _ => ?_⟩ | refine ⟨fun _ => ?_, fun h => absurd (show true = false from h) (by decide)⟩ | refine ⟨fun h => absurd (show false = true from h) (by decide), fun _ => ?_⟩
              (conv => whnf))
      refine ⟨k + 1, by omega, by show l.length - (k + 1) < l.length - k; omega, rfl, rfl, rfl, rfl, ?_, rfl, ?_, rfl, ?_, rfl, trivial⟩
      · show C.v (V.int .i64 (IntKind.i64.wrap ((k : Int) + 1))) = _
        rw [w1]
      · rw [e2]; rfl
      · rw [e2]; rfl
    | true =>
      have e2 : (l.take (k + 1)).filter Gw.Op.check = (l.take k).filter Gw.Op.check ++ [l[k]] := by rw [e1, List.filter_append, List.filter_cons_of_pos hq, List.filter_nil]
      generalize (l.take k).filter Gw.Op.check = acc at *
      have hac := encOs_len acc
      conv => whnf
      repeat (first | refine ⟨fun _ => ?_, fun h => absurd h (by decide)⟩ | refine ⟨fun h => absurd h (by decide), fun _ => ?_⟩ | refine ⟨fun _ => ?_, fun h => absurd (show true = false from h) (by decide)⟩ | refine ⟨fun h => absurd (show false = true from h) (by decide), fun _ => ?_⟩
              (conv => whnf))
      refine ⟨⟨hac.symm, fits_small (by show (encOs acc).length + 1 ≤ _; omega) (by decide)⟩, ?_⟩
      conv => whnf
      refine ⟨k + 1, by omega, by show l.length - (k + 1) < l.length - k; omega, rfl, rfl, rfl, rfl, ?_, rfl, ?_, rfl, ?_, rfl, trivial⟩
      · show C.v (V.int .i64 (IntKind.i64.wrap ((k : Int) + 1))) = _
        rw [w1]
      · rw [e2]
        show C.v (V.lst (decide (acc = []) && false) 7 (encOs acc ++ [cellsO l[k]]) _) = C.v (V.lst (decide (acc ++ [l[k]] = [])) 7 (encOs (acc ++ [l[k]])) _)
        rw [Bool.and_false, decide_eq_false (by simp), encOs, encOs, List.map_append]
        rfl
      · rw [e2]
        show C.row _ 7 ((encOs acc).length + 1) = C.row _ 7 (acc ++ [l[k]]).length
        rw [hac, List.length_append]
        rfl
  · have h := of_decide_eq_false h
    obtain rfl : k = l.length := by omega
    rw [List.take_length]
    conv => whnf
    have hn : (encOs (l.filter Gw.Op.check)).length = (l.filter Gw.Op.check).length := encOs_len _
    have hne' : encOs (l.filter Gw.Op.check) ≠ [] := fun e => h0 (by cases hx : l.filter Gw.Op.check with | nil => rfl | cons a b => rw [hx] at e; cases e)
    refine AW.thaw (m := 0) (es := []) 3 5 trivial (Nat.zero_le _) rfl (by decide) rfl (by rw [hn]; rfl) (Nat.zero_le _) hne' (safe_ops _) ?_
    have hsl : s.length = (l.filter Gw.Op.check).length := by rw [hs]; exact (Gw.Sort.isort_perm lessO _ _ _).length_eq
    have hsf : ∀ o ∈ s, Fine o ∧ I64 o.node := fun o ho => by
      rw [hs] at ho
      have := hf o (List.mem_filter.1 ((Gw.Sort.isort_perm lessO _ _ _).mem_iff.1 ho)).1
      exact ⟨this, this.node⟩
    have hso := sortS_ac (l.filter Gw.Op.check) (l.filter Gw.Op.check).length rfl hlt
    have hco := compactS_ac s s.length rfl (by omega) hne
    rw [← hs] at hso
    rw [hn, ← hsl]
    rw [← hsl] at hso
    refine ev_sound tabOk mixed _ _ _ _ ?_
    conv => whnf
    refine AC.frame (es := opsAt (l.filter Gw.Op.check)) ⟨rfl, rfl, trivial⟩ rfl (by decide) rfl hso ?_
    rintro x es ⟨rfl, rfl⟩
    conv => whnf
    refine AC.frame (es := opsAt s) ⟨rfl, rfl, trivial⟩ rfl (by decide) rfl hco ?_
    rintro x es ⟨rfl, rfl⟩
    conv => whnf
    refine AW.nilSlot 6 8 rfl ?_
    refine AW.loop (fun k : Nat => [(.tmp 26, .v (.own 0 0 7 s.length true)), (.tmp 27, .v (.int .i64 s.length)), (.tmp 28, .v (.int .i64 k)), (.tmp 6, .v (.lst (decide (k = 0)) 8 (encN (foldN (s.take k))) .none)), (.blk 0, .mem 51 (flatO s))]) 1
      (fun k => k ≤ s.length) (fun k => s.length - k) (by decide) 0 (Nat.zero_le _) ⟨rfl, rfl, rfl, rfl, rfl, rfl, rfl, rfl, rfl, rfl, trivial⟩ ?_
    rintro k hk
    refine ev_sound tabOk mixed _ _ _ _ ?_
    have hfl := flatO_len s
    conv => whnf
    refine ⟨fun h => ?_, fun h => ?_⟩
    · have h := of_decide_eq_true h
      have hlt : k < s.length := by omega
      have hL := flatO_get hlt
      have o1 : 0 + (k : Int).toNat * 7 = k * 7 := by rw [Int.toNat_natCast, Nat.zero_add]
      obtain ⟨f1, f2⟩ := foldN_fine (s.take k) fun o ho => (hsf o (List.mem_of_mem_take ho)).2
      rw [List.length_take] at f2
      have hdo := do_pc (decide (k = 0)) (foldN (s.take k)) s[k] f1 (by omega) (hsf _ (List.getElem_mem hlt)).1
      rw [← foldN_take s hlt] at hdo
      conv => whnf
      refine ⟨by omega, ?_⟩
      conv => whnf
      rw [o1]
      refine ⟨_, ⟨by omega, hL⟩, ?_⟩
      conv => whnf
      refine AC.of_pc hdo rfl ?_
      conv => whnf
      refine ⟨k + 1, by omega, by show s.length - (k + 1) < s.length - k; omega, rfl, rfl, rfl, rfl, ?_, rfl, ?_, rfl, rfl, rfl, trivial⟩
      · show C.v (V.int .i64 (IntKind.i64.wrap ((k : Int) + 1))) = _
        rw [w64 (by omega) (by omega)]; rfl
      · rfl
    · have h := of_decide_eq_false h
      obtain rfl : k = s.length := by omega
      rw [List.take_length]
      conv => whnf
      have hs0 : s.length ≠ 0 := fun e => h0 (List.eq_nil_of_length_eq_zero (by omega))
      rw [decide_eq_false hs0]
      exact ⟨_, SubV.refl _, SubV.refl _⟩
end Go.Proofs.YtipgfdepopfghaaGreat
