/- A short list sorted in place, and one of unlike neighbours made compact: told without addresses. No claim of its own. -/
import Derived.Test.YtkflmicpifohhaaASort1
namespace Go.Proofs.Ytkflmicpifohhaa
open Go.Am

theorem stableS_ac (l : List Gw.Op.Op) (n : Nat) (hn : n = l.length) (hl : l.length < 20) :
    AC Try.prog 49 [.own 0 0 7 n true, .int .i64 n, .func 30 [] []] (ofL (opsAt l)) 1
      (givenK 1 fun x es => x = .val (.tup []) ∧ es = opsAt (Gw.Sort.isort lessO 0 n l)) := by
  have hins := insert_ac l 0 n n hn (by omega) (Nat.zero_le _) (by omega)
  refine AC.of tabOk mixed (fn := Try.f49) (by kernel_rfl) rfl (by kernel_rfl) rfl rfl ?_
  conv => whnf
  refine AW.loop (X := Unit) (fun _ => [(.tmp 0, .v (.own 0 0 7 n true)), (.tmp 1, .v (.int .i64 n)), (.tmp 2, .v (.func 30 [] [])), (.tmp 6, .v (.int .i64 20)), (.tmp 7, .v (.int .i64 0)), (.tmp 8, .v (.int .i64 20)), (.blk 0, .mem 39 (flatO l))]) 1
    (fun _ => True) (fun _ => 0) (by decide) () trivial ⟨rfl, rfl, rfl, rfl, rfl, rfl, rfl, rfl, rfl, rfl, rfl, rfl, rfl, rfl, trivial⟩ ?_
  rintro _ _
  dsimp only
  refine ev_sound tabOk mixed _ _ _ _ ?_
  have hts : decide ((20 : Int) ≤ (n : Int)) = false := decide_eq_false (by omega)
  have hts2 : decide ((20 : Int) < (n : Int)) = false := decide_eq_false (by omega)
  conv => whnf
  refine ⟨fun h => absurd (hts.symm.trans h) (by decide), fun _ => ?_⟩
  conv => whnf
  refine AC.frame (es := opsAt l) ⟨rfl, rfl, trivial⟩ rfl (by decide) rfl hins ?_
  rintro x es ⟨rfl, rfl⟩
  conv => whnf
  refine AW.loop (X := Unit) (fun _ => [(.tmp 1, .v (.int .i64 n)), (.tmp 6, .v (.int .i64 20)), (.blk 0, .mem 39 (flatO (Gw.Sort.isort lessO 0 n l)))]) 1
    (fun _ => True) (fun _ => 0) (by decide) () trivial ⟨rfl, rfl, rfl, rfl, rfl, rfl, trivial⟩ ?_
  rintro _ _
  refine ev_sound tabOk mixed _ _ _ _ ?_
  conv => whnf
  refine ⟨fun h => absurd (hts2.symm.trans h) (by decide), fun _ => ?_⟩
  conv => whnf
  exact ⟨_, _, ⟨rfl, rfl⟩, rfl, ⟨rfl, rfl⟩, rfl, rfl, trivial⟩
theorem sortS_ac (l : List Gw.Op.Op) (n : Nat) (hn : n = l.length) (hl : l.length < 20) :
    AC Try.prog 29 [.own 0 0 7 n true, .func 30 [] []] (ofL (opsAt l)) 1
      (givenK 1 fun x es => x = .val (.tup []) ∧ es = opsAt (Gw.Sort.isort lessO 0 n l)) := by
  have hst := stableS_ac l n hn hl
  refine AC.of tabOk mixed (fn := Try.f29) (by kernel_rfl) rfl (by kernel_rfl) rfl rfl ?_
  conv => whnf
  refine AC.frame (es := opsAt l) ⟨rfl, rfl, trivial⟩ rfl (by decide) rfl hst ?_
  rintro x es ⟨rfl, rfl⟩
  conv => whnf
  exact ⟨_, _, ⟨rfl, rfl⟩, rfl, ⟨rfl, rfl⟩, rfl, rfl, trivial⟩
def sameAt (a b : Gw.Op.Op) : Bool := a.at_.c == b.at_.c && a.at_.r == b.at_.r
theorem foldEq_pc (a b : Gw.Op.Op) : PC Try.prog 33 [encO a, encO b] (.bool (sameAt a b)) := by
  refine PC.of tabOk mixed (fn := Try.f33) (by kernel_rfl) rfl (by kernel_rfl) rfl rfl ?_
  conv => whnf
  refine ⟨by kernel_rfl, ?_⟩
  conv => whnf
  rfl
theorem compactS_ac (l : List Gw.Op.Op) (n : Nat) (hn : n = l.length) (hl : l.length ≤ 1048576) (hne : ∀ i (h : i + 1 < l.length), sameAt l[i + 1] l[i] = false) :
    AC Try.prog 32 [.own 0 0 7 n true, .func 33 [] []] (ofL (opsAt l)) 1
      (givenK 1 fun x es => x = .val (.own 0 0 7 n true) ∧ es = opsAt l) := by
  refine AC.of tabOk mixed (fn := Try.f32) (by kernel_rfl) rfl (by kernel_rfl) rfl rfl ?_
  conv => whnf
  refine ⟨fun h => ?_, fun h => ?_⟩
  · have h := of_decide_eq_true h
    conv => whnf
    exact ⟨_, _, ⟨rfl, rfl⟩, rfl, ⟨rfl, rfl⟩, rfl, rfl, trivial⟩
  have h := of_decide_eq_false h
  conv => whnf
  refine AW.loop (fun k : Nat => [(.tmp 0, .v (.own 0 0 7 n true)), (.tmp 1, .v (.func 33 [] [])), (.tmp 5, .v (.int .i64 k)), (.blk 0, .mem 39 (flatO l))]) 1
    (fun k => 1 ≤ k ∧ k ≤ n) (fun k => n - k) (by decide) 1 ⟨Nat.le_refl _, by omega⟩ ⟨rfl, rfl, rfl, rfl, rfl, rfl, rfl, rfl, trivial⟩ ?_
  rintro k ⟨h1, h2⟩
  refine ev_sound tabOk mixed _ _ _ _ ?_
  have hfl := flatO_len l
  conv => whnf
  refine ⟨fun h => ?_, fun h => ?_⟩
  · have h := of_decide_eq_true h
    obtain ⟨j, rfl⟩ : ∃ j, k = j + 1 := ⟨k - 1, by omega⟩
    have hj1 : j + 1 < l.length := by omega
    have hj0 : j < l.length := by omega
    have hL1 := flatO_get hj1
    have hL0 := flatO_get hj0
    have heq := foldEq_pc l[j + 1] l[j]
    rw [hne j hj1] at heq
    have hwj : IntKind.i64.wrap (((j + 1 : Nat) : Int) - 1) = (j : Int) := by rw [w64 (by omega) (by omega)]; omega
    have o1 : 0 + ((j + 1 : Nat) : Int).toNat * 7 = (j + 1) * 7 := by rw [Int.toNat_natCast, Nat.zero_add]
    have o0 : 0 + (j : Int).toNat * 7 = j * 7 := by rw [Int.toNat_natCast, Nat.zero_add]
    conv => whnf
    refine ⟨by omega, ?_⟩
    conv => whnf
    rw [o1]
    refine ⟨_, ⟨by omega, hL1⟩, ?_⟩
    conv => whnf
    rw [hwj]
    refine ⟨by omega, ?_⟩
    conv => whnf
    rw [o0]
    refine ⟨_, ⟨by omega, hL0⟩, ?_⟩
    conv => whnf
    refine ⟨_, rfl, heq, ?_⟩
    conv => whnf
    refine ⟨by kernel_rfl, ?_⟩
    conv => whnf
    repeat (first | refine ⟨fun _ => ?_, fun h => absurd h (by decide)⟩ | refine ⟨fun h => absurd h (by decide), fun _ => ?_⟩ | refine ⟨fun _ => ?_, fun h => absurd (show true = false from h) (by decide)⟩ | refine ⟨fun h => absurd (show false = true from h) (by decide), fun _ => ?_⟩
            (conv => whnf))
    refine ⟨j + 2, ⟨by omega, by omega⟩, by show n - (j + 2) < n - (j + 1); omega, rfl, rfl, rfl, rfl, ?_, rfl, rfl, rfl, trivial⟩
    show C.v (V.int .i64 (IntKind.i64.wrap (((j + 1 : Nat) : Int) + 1))) = _
    rw [w64 (by omega) (by omega)]; rfl
  · conv => whnf
    exact ⟨_, _, ⟨rfl, rfl⟩, rfl, ⟨rfl, rfl⟩, rfl, rfl, trivial⟩
end Go.Proofs.Ytkflmicpifohhaa
