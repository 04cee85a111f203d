/- A longer sort in place, by symmetric merges: what it leaves is a permutation. Told without addresses. No claim of its own. -/
import Derived.Test.YtipgfdepopfghaaGreatASortM
namespace Go.Proofs.YtipgfdepopfghaaGreat
open Go.Am

/-- What it leaves is a permutation of what was there. -/
abbrev Mixes (l : List Gw.Op.Op) : Out → List (Am.Loc × C) → Prop := fun x es => x = .val (.tup []) ∧ ∃ l', l'.Perm l ∧ es = opsAt l'
abbrev cmpV : V := .func 41 [] []
theorem swapR_ac (l : List Gw.Op.Op) (a b c n : Nat) (hn : n = l.length) (ha : a + c ≤ n) (hb : b + c ≤ n) (hl : l.length ≤ 1048576) :
    AC Tryz.prog 127 [.own 0 0 7 n true, .int .i64 a, .int .i64 b, .int .i64 c, cmpV] (ofL (opsAt l)) 1 (givenK 1 (Mixes l)) := by
  refine AC.of tabOk mixed (fn := Tryz.f127) (by kernel_rfl) rfl (by kernel_rfl) rfl rfl ?_
  conv => whnf
  refine AW.loop (X := Nat × List Gw.Op.Op) (fun x => [(.tmp 0, .v (.own 0 0 7 n true)), (.tmp 1, .v (.int .i64 a)), (.tmp 2, .v (.int .i64 b)), (.tmp 3, .v (.int .i64 c)), (.tmp 10, .v (.int .i64 x.1)), (.blk 0, .mem 51 (flatO x.2))]) 1
    (fun x => x.1 ≤ c ∧ x.2.Perm l) (fun x => c - x.1) (by decide) (0, l) ⟨Nat.zero_le _, .refl _⟩ ⟨rfl, rfl, rfl, rfl, rfl, rfl, rfl, rfl, rfl, rfl, rfl, rfl, trivial⟩ ?_
  rintro ⟨i, u⟩ ⟨h1, h2⟩
  simp only at h1 h2
  dsimp only
  refine ev_sound tabOk mixed _ _ _ _ ?_
  have hul := h2.length_eq
  have hfl := flatO_len u
  conv => whnf
  refine ⟨fun h => ?_, fun h => ?_⟩
  · have h := of_decide_eq_true h
    have hp : a + i < u.length := by omega
    have hq : b + i < u.length := by omega
    have hLp := flatO_get hp
    have hLq := flatO_get hq
    have wa : IntKind.i64.wrap ((a : Int) + i) = ((a + i : Nat) : Int) := by rw [w64 (by omega) (by omega)]; rfl
    have wb : IntKind.i64.wrap ((b : Int) + i) = ((b + i : Nat) : Int) := by rw [w64 (by omega) (by omega)]; rfl
    have wi : IntKind.i64.wrap ((i : Int) + 1) = ((i + 1 : Nat) : Int) := by rw [w64 (by omega) (by omega)]; rfl
    have oa : 0 + ((a + i : Nat) : Int).toNat * 7 = (a + i) * 7 := by rw [Int.toNat_natCast, Nat.zero_add]
    have ob : 0 + ((b + i : Nat) : Int).toNat * 7 = (b + i) * 7 := by rw [Int.toNat_natCast, Nat.zero_add]
    have hs1 := flatO_set hp u[b + i]
    have hjs : b + i < (u.set (a + i) u[b + i]).length := by simpa using hq
    have hs0 := flatO_set hjs u[a + i]
    have hsw := Gw.Sort.swap_eq hp hq
    have hpe := (Gw.Sort.swap_perm u (a + i) (b + i)).trans h2
    conv => whnf
    rw [wb]
    refine ⟨by omega, ?_⟩
    conv => whnf
    rw [ob]
    refine ⟨_, ⟨by omega, hLq⟩, ?_⟩
    conv => whnf
    rw [wa]
    refine ⟨by omega, ?_⟩
    conv => whnf
    rw [oa]
    refine ⟨_, ⟨by omega, hLp⟩, ?_⟩
    conv => whnf
    refine ⟨by omega, ?_⟩
    conv => whnf
    rw [oa]
    refine ⟨by omega, ?_⟩
    conv => whnf
    rw [hs1]
    refine ⟨by omega, ?_⟩
    conv => whnf
    rw [ob]
    refine ⟨by rw [flatO_len, List.length_set]; omega, ?_⟩
    conv => whnf
    rw [hs0, ← hsw]
    refine ⟨by kernel_rfl, ?_⟩
    conv => whnf
    refine ⟨(i + 1, Gw.Sort.swap u (a + i) (b + i)), ⟨by show i + 1 ≤ c; omega, hpe⟩, by show c - (i + 1) < c - i; omega, rfl, rfl, rfl, rfl, rfl, rfl, rfl, rfl, ?_, rfl, rfl, rfl, trivial⟩
    show C.v (V.int .i64 (IntKind.i64.wrap ((i : Int) + 1))) = _
    rw [wi]
  · conv => whnf
    exact ⟨_, _, ⟨rfl, u, h2, rfl⟩, rfl, ⟨rfl, rfl⟩, rfl, rfl, trivial⟩
/-- How often a rotation turns. -/
theorem rotate_ac (l : List Gw.Op.Op) (a m b n : Nat) (hn : n = l.length) (ha : a < m) (hm : m < b) (hb : b ≤ n) (hl : l.length ≤ 1048576) :
    AC Tryz.prog 119 [.own 0 0 7 n true, .int .i64 a, .int .i64 m, .int .i64 b, cmpV] (ofL (opsAt l)) 1 (givenK 1 (Mixes l)) := by
  refine AC.of tabOk mixed (fn := Tryz.f119) (by kernel_rfl) rfl (by kernel_rfl) rfl rfl ?_
  have w1 : IntKind.i64.wrap ((m : Int) - a) = ((m - a : Nat) : Int) := by rw [w64 (by omega) (by omega)]; omega
  have w2 : IntKind.i64.wrap ((b : Int) - m) = ((b - m : Nat) : Int) := by rw [w64 (by omega) (by omega)]; omega
  conv => whnf
  rw [w1, w2]
  refine AW.loop (X := Nat × Nat × List Gw.Op.Op) (fun x => [(.tmp 0, .v (.own 0 0 7 n true)), (.tmp 2, .v (.int .i64 m)), (.tmp 4, .v cmpV), (.tmp 10, .v (.int .i64 x.1)), (.tmp 11, .v (.int .i64 x.2.1)), (.blk 0, .mem 51 (flatO x.2.2))]) 1
    (fun x => 1 ≤ x.1 ∧ 1 ≤ x.2.1 ∧ x.1 ≤ m ∧ m + x.2.1 ≤ n ∧ x.2.2.Perm l) (fun x => x.1 + x.2.1) (by decide) (m - a, b - m, l) ⟨by show 1 ≤ m - a; omega, by show 1 ≤ b - m; omega, by show m - a ≤ m; omega, by show m + (b - m) ≤ n; omega, .refl _⟩ ⟨rfl, rfl, rfl, rfl, rfl, rfl, rfl, rfl, rfl, rfl, rfl, rfl, trivial⟩ ?_
  rintro ⟨i, j, u⟩ ⟨h1, h2, h3, h4, h5⟩
  simp only at h1 h2 h3 h4 h5
  dsimp only
  refine ev_sound tabOk mixed _ _ _ _ ?_
  have hul := h5.length_eq
  have wmi : IntKind.i64.wrap ((m : Int) - i) = ((m - i : Nat) : Int) := by rw [w64 (by omega) (by omega)]; omega
  conv => whnf
  refine ⟨fun h => ?_, fun h => ?_⟩
  · have h : i ≠ j := by
      intro e; subst e; simp at h
    conv => whnf
    refine ⟨fun h => ?_, fun h => ?_⟩
    · have h := of_decide_eq_true h
      have hsr := swapR_ac u (m - i) m j n (by omega) (by omega) (by omega) (by omega)
      have wij : IntKind.i64.wrap ((i : Int) - j) = ((i - j : Nat) : Int) := by rw [w64 (by omega) (by omega)]; omega
      conv => whnf
      rw [wmi]
      refine AC.frame (es := opsAt u) ⟨rfl, rfl, trivial⟩ rfl (by decide) rfl hsr ?_
      rintro x es ⟨rfl, u', hu', rfl⟩
      conv => whnf
      refine ⟨(i - j, j, u'), ⟨by show 1 ≤ i - j; omega, h2, by show i - j ≤ m; omega, h4, hu'.trans h5⟩, by show i - j + j < i + j; omega, rfl, rfl, rfl, rfl, rfl, rfl, ?_, rfl, rfl, rfl, rfl, rfl, trivial⟩
      show C.v (V.int .i64 (IntKind.i64.wrap ((i : Int) - j))) = _
      rw [wij]
    · have h := of_decide_eq_false h
      have hsr := swapR_ac u (m - i) (m + j - i) i n (by omega) (by omega) (by omega) (by omega)
      have wji : IntKind.i64.wrap ((j : Int) - i) = ((j - i : Nat) : Int) := by rw [w64 (by omega) (by omega)]; omega
      have wmj : IntKind.i64.wrap ((m : Int) + j) = ((m + j : Nat) : Int) := by rw [w64 (by omega) (by omega)]; rfl
      have wmji : IntKind.i64.wrap (((m + j : Nat) : Int) - i) = ((m + j - i : Nat) : Int) := by rw [w64 (by omega) (by omega)]; omega
      conv => whnf
      rw [wmi, wmj, wmji]
      refine AC.frame (es := opsAt u) ⟨rfl, rfl, trivial⟩ rfl (by decide) rfl hsr ?_
      rintro x es ⟨rfl, u', hu', rfl⟩
      conv => whnf
      refine ⟨(i, j - i, u'), ⟨h1, by show 1 ≤ j - i; omega, h3, by show m + (j - i) ≤ n; omega, hu'.trans h5⟩, by show i + (j - i) < i + j; omega, rfl, rfl, rfl, rfl, rfl, rfl, rfl, rfl, ?_, rfl, rfl, rfl, trivial⟩
      show C.v (V.int .i64 (IntKind.i64.wrap ((j : Int) - i))) = _
      rw [wji]
  · have h : i = j := by
      by_cases e : i = j
      · exact e
      · exact absurd (show decide ((i : Int) = j) = false from decide_eq_false (by omega)) (by simpa using h)
    subst h
    have hsr := swapR_ac u (m - i) m i n (by omega) (by omega) (by omega) (by omega)
    conv => whnf
    rw [wmi]
    refine AC.frame (es := opsAt u) ⟨rfl, rfl, trivial⟩ rfl (by decide) rfl hsr ?_
    rintro x es ⟨rfl, u', hu', rfl⟩
    conv => whnf
    exact ⟨_, _, ⟨rfl, u', hu'.trans h5, rfl⟩, rfl, ⟨rfl, rfl⟩, rfl, rfl, trivial⟩
end Go.Proofs.YtipgfdepopfghaaGreat
