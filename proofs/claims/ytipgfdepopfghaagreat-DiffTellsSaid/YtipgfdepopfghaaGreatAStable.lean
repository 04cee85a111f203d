/- A stable sort in place, of any length: what it leaves is a permutation; and a list made compact: what it leaves was there. Told without addresses. No claim of its own. -/
import Derived.Test.YtipgfdepopfghaaGreatASymM2
namespace Go.Proofs.YtipgfdepopfghaaGreat
open Go.Am

theorem stableG_ac (l : List Gw.Op.Op) (n : Nat) (hn : n = l.length) (hl : l.length ≤ 1048576) :
    AC Tryz.prog 67 [.own 0 0 7 n true, .int .i64 n, cmpV] (ofL (opsAt l)) 1 (givenK 1 (Mixes l)) := by
  refine AC.of tabOk mixed (fn := Tryz.f67) (by kernel_rfl) rfl (by kernel_rfl) rfl rfl ?_
  conv => whnf
  refine AW.loop (X := Nat × List Gw.Op.Op) (fun x => [(.tmp 0, .v (.own 0 0 7 n true)), (.tmp 1, .v (.int .i64 n)), (.tmp 2, .v cmpV), (.tmp 6, .v (.int .i64 (20 : Nat))), (.tmp 7, .v (.int .i64 x.1)), (.tmp 8, .v (.int .i64 (x.1 + 20 : Nat))), (.blk 0, .mem 51 (flatO x.2))]) 1
    (fun x => x.1 ≤ n ∧ x.2.Perm l) (fun x => n - x.1) (by decide) (0, l) ⟨Nat.zero_le _, .refl _⟩ ⟨rfl, rfl, rfl, rfl, rfl, rfl, rfl, rfl, rfl, rfl, rfl, rfl, rfl, rfl, trivial⟩ ?_
  rintro ⟨a, u⟩ ⟨h1, h2⟩
  simp only at h1 h2
  dsimp only
  refine ev_sound tabOk mixed _ _ _ _ ?_
  have hul := h2.length_eq
  conv => whnf
  refine ⟨fun h => ?_, fun h => ?_⟩
  · have h := of_decide_eq_true h
    have hins := insert_ac u a (a + 20) n (by omega) (by omega) (by omega) (by omega)
    have w1 : IntKind.i64.wrap (((a + 20 : Nat) : Int) + (20 : Nat)) = ((a + 20 + 20 : Nat) : Int) := by rw [w64 (by omega) (by omega)]; rfl
    conv => whnf
    refine AC.frame (es := opsAt u) ⟨rfl, rfl, trivial⟩ rfl (by decide) rfl hins ?_
    rintro x es ⟨rfl, rfl⟩
    conv => whnf
    refine ⟨(a + 20, Gw.Sort.isort lessO a (a + 20) u), ⟨by show a + 20 ≤ n; omega, (Gw.Sort.isort_perm lessO _ _ _).trans h2⟩, by show n - (a + 20) < n - a; omega, rfl, rfl, rfl, rfl, rfl, rfl, rfl, rfl, rfl, rfl, ?_, rfl, rfl, rfl, trivial⟩
    show C.v (V.int .i64 (IntKind.i64.wrap (((a + 20 : Nat) : Int) + (20 : Nat)))) = _
    rw [w1]
  · have h := of_decide_eq_false h
    have hins := insert_ac u a n n (by omega) (by omega) (by omega) (by omega)
    conv => whnf
    refine AC.frame (es := opsAt u) ⟨rfl, rfl, trivial⟩ rfl (by decide) rfl hins ?_
    rintro x es ⟨rfl, rfl⟩
    have h3 := (Gw.Sort.isort_perm lessO a n u).trans h2
    generalize Gw.Sort.isort lessO a n u = s at *
    conv => whnf
    refine AW.loop (X := Nat × List Gw.Op.Op) (fun x => [(.tmp 0, .v (.own 0 0 7 n true)), (.tmp 1, .v (.int .i64 n)), (.tmp 2, .v cmpV), (.tmp 6, .v (.int .i64 x.1)), (.blk 0, .mem 51 (flatO x.2))]) 1
      (fun x => 1 ≤ x.1 ∧ x.2.Perm l) (fun x => n - x.1) (by decide) (20, s) ⟨show 1 ≤ 20 by decide, h3⟩ ⟨rfl, rfl, rfl, rfl, rfl, rfl, rfl, rfl, rfl, rfl, trivial⟩ ?_
    rintro ⟨z, u⟩ ⟨h1, h2⟩
    simp only at h1 h2
    dsimp only
    refine ev_sound tabOk mixed _ _ _ _ ?_
    conv => whnf
    refine ⟨fun h => ?_, fun h => ?_⟩
    · have h := of_decide_eq_true h
      have hz : z < n := by omega
      clear h
      have w2 : IntKind.i64.wrap (2 * (z : Int)) = ((0 + 2 * z : Nat) : Int) := by rw [w64 (by omega) (by omega)]; omega
      have w3 : IntKind.i64.wrap ((z : Int) * 2) = ((2 * z : Nat) : Int) := by rw [w64 (by omega) (by omega)]; omega
      conv => whnf
      rw [w2]
      refine AW.loop (X := Nat × List Gw.Op.Op) (fun x => [(.tmp 0, .v (.own 0 0 7 n true)), (.tmp 1, .v (.int .i64 n)), (.tmp 2, .v cmpV), (.tmp 6, .v (.int .i64 z)), (.tmp 7, .v (.int .i64 x.1)), (.tmp 8, .v (.int .i64 (x.1 + 2 * z : Nat))), (.blk 0, .mem 51 (flatO x.2))]) 1
        (fun x => x.1 ≤ n ∧ x.2.Perm l) (fun x => n - x.1) (by decide) (0, u) ⟨Nat.zero_le _, h2⟩ ⟨rfl, rfl, rfl, rfl, rfl, rfl, rfl, rfl, rfl, rfl, rfl, rfl, rfl, rfl, trivial⟩ ?_
      rintro ⟨a, q⟩ ⟨g1, g2⟩
      simp only at g1 g2
      dsimp only
      refine ev_sound tabOk mixed _ _ _ _ ?_
      have hql := g2.length_eq
      have w4 : IntKind.i64.wrap ((a : Int) + z) = ((a + z : Nat) : Int) := by rw [w64 (by omega) (by omega)]; rfl
      conv => whnf
      refine ⟨fun h => ?_, fun h => ?_⟩
      · have h := of_decide_eq_true h
        have hsy := symM_ac n n q a (a + z) (a + 2 * z) (by omega) (by omega) (by omega) (by omega) (by omega) (by omega)
        have w5 : IntKind.i64.wrap (((a + 2 * z : Nat) : Int) + ((0 + 2 * z : Nat) : Int)) = ((a + 2 * z + 2 * z : Nat) : Int) := by rw [w64 (by omega) (by omega)]; omega
        conv => whnf
        rw [w4]
        refine AC.frame (es := opsAt q) ⟨rfl, rfl, trivial⟩ rfl (by decide) rfl hsy ?_
        rintro x es ⟨rfl, q', hq', rfl⟩
        conv => whnf
        refine ⟨(a + 2 * z, q'), ⟨by show a + 2 * z ≤ n; omega, hq'.trans g2⟩, by show n - (a + 2 * z) < n - a; omega, rfl, rfl, rfl, rfl, rfl, rfl, rfl, rfl, rfl, rfl, ?_, rfl, rfl, rfl, trivial⟩
        show C.v (V.int .i64 (IntKind.i64.wrap (((a + 2 * z : Nat) : Int) + IntKind.i64.wrap (2 * (z : Int))))) = _
        rw [w2, w5]
      · have h := of_decide_eq_false h
        conv => whnf
        rw [w4]
        refine ⟨fun h => ?_, fun h => ?_⟩
        · have h := of_decide_eq_true h
          have hsy := symM_ac n n q a (a + z) n (by omega) (by omega) (by omega) (by omega) (by omega) (by omega)
          conv => whnf
          refine AC.frame (es := opsAt q) ⟨rfl, rfl, trivial⟩ rfl (by decide) rfl hsy ?_
          rintro x es ⟨rfl, q', hq', rfl⟩
          conv => whnf
          refine ⟨(2 * z, q'), ⟨by show 1 ≤ 2 * z; omega, hq'.trans g2⟩, by show n - 2 * z < n - z; omega, rfl, rfl, rfl, rfl, rfl, rfl, ?_, rfl, rfl, rfl, trivial⟩
          show C.v (V.int .i64 (IntKind.i64.wrap ((z : Int) * 2))) = _
          rw [w3]
        · conv => whnf
          refine ⟨(2 * z, q), ⟨by show 1 ≤ 2 * z; omega, g2⟩, by show n - 2 * z < n - z; omega, rfl, rfl, rfl, rfl, rfl, rfl, ?_, rfl, rfl, rfl, trivial⟩
          show C.v (V.int .i64 (IntKind.i64.wrap ((z : Int) * 2))) = _
          rw [w3]
    · conv => whnf
      exact ⟨_, _, ⟨rfl, u, h2, rfl⟩, rfl, ⟨rfl, rfl⟩, rfl, rfl, trivial⟩
theorem sortG_ac (l : List Gw.Op.Op) (n : Nat) (hn : n = l.length) (hl : l.length ≤ 1048576) :
    AC Tryz.prog 40 [.own 0 0 7 n true, cmpV] (ofL (opsAt l)) 1 (givenK 1 (Mixes l)) := by
  have hst := stableG_ac l n hn hl
  refine AC.of tabOk mixed (fn := Tryz.f40) (by kernel_rfl) rfl (by kernel_rfl) rfl rfl ?_
  conv => whnf
  refine AC.frame (es := opsAt l) ⟨rfl, rfl, trivial⟩ rfl (by decide) rfl hst ?_
  rintro x es ⟨rfl, l', hl', rfl⟩
  conv => whnf
  exact ⟨_, _, ⟨rfl, l', hl', rfl⟩, rfl, ⟨rfl, rfl⟩, rfl, rfl, trivial⟩
end Go.Proofs.YtipgfdepopfghaaGreat
