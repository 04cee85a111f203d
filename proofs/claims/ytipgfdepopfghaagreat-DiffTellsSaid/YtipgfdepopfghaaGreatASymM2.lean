/- Two neighbouring runs merged in place: what is left is a permutation. Told without addresses. Printed by mksym.py. No claim of its own. -/
import Derived.Test.YtipgfdepopfghaaGreatASymM
namespace Go.Proofs.YtipgfdepopfghaaGreat
open Go.Am

theorem flatO_get0 {l : List Gw.Op.Op} {j : Nat} (h : j < l.length) : List.take 7 (List.drop (0 + (j : Int).toNat * 7) (flatO l)) = cellsO l[j] := by
  rw [Int.toNat_natCast, Nat.zero_add]
  exact flatO_get h
theorem half_eq (i j : Nat) (h : i + j ≤ 4000000) : IntKind.i64.wrap ((IntKind.u64.wrap (IntKind.i64.wrap ((i : Int) + j))).fdiv (2 ^ min (Int.toNat 1) IntKind.u64.bits)) = (((i + j) / 2 : Nat) : Int) := by
  have q1 : IntKind.i64.wrap ((i : Int) + j) = ((i + j : Nat) : Int) := by rw [w64 (by omega) (by omega)]; rfl
  have q2 : IntKind.u64.wrap ((i + j : Nat) : Int) = ((i + j : Nat) : Int) := by rw [IntKind.wrap_u64]; omega
  rw [q1, q2, show (2 : Int) ^ min (Int.toNat 1) IntKind.u64.bits = 2 from rfl, Int.fdiv_eq_ediv_of_nonneg _ (by decide), w64 (by omega) (by omega)]
  omega
abbrev SymDoes (n : Nat) (l : List Gw.Op.Op) (a m b : Nat) : Prop :=
  AC Tryz.prog 100 [.own 0 0 7 n true, .int .i64 a, .int .i64 m, .int .i64 b, cmpV] (ofL (opsAt l)) 1 (givenK 1 (Mixes l))
set_option maxHeartbeats 4000000 in
theorem symL_ac (n : Nat) (l : List Gw.Op.Op) (a m b : Nat) (hn : n = l.length) (ham : a < m) (hmb : m < b) (hb : b ≤ n) (hl : l.length ≤ 1048576) (h1m : m = a + 1) : SymDoes n l a m b := by
  subst h1m
  refine AC.ofA tabOk (fn := Tryz.f100) (by kernel_rfl) rfl (by kernel_rfl) rfl rfl ?_
  have w1 : IntKind.i64.wrap (((a + 1 : Nat) : Int) - a) = 1 := by rw [w64 (by omega) (by omega)]; omega
  have hfl := flatO_len l
  refine AW.seq (ev_sound tabOk mixed _ _ _ _ ?_)
  conv => whnf
  rw [w1]
  clear w1
  repeat (first | refine ⟨fun _ => ?_, fun h => absurd h (by decide)⟩ | refine ⟨fun h => absurd h (by decide), fun _ => ?_⟩ | refine ⟨fun _ => ?_, fun h => absurd (show true = false from h) (by decide)⟩ | refine ⟨fun h => absurd (show false = true from h) (by decide), fun _ => ?_⟩
          (conv => whnf))
  refine AW.loop (X := Nat × Nat) (fun x => [(.tmp 0, .v (.own 0 0 7 n true)), (.tmp 1, .v (.int .i64 a)), (.tmp 4, .v cmpV), (.tmp 10, .v (.int .i64 x.1)), (.tmp 11, .v (.int .i64 x.2)), (.blk 0, .mem 51 (flatO l))]) 1
    (fun x => (a + 1) ≤ x.1 ∧ x.1 ≤ x.2 ∧ x.2 ≤ b) (fun x => x.2 - x.1) (by decide) (a + 1, b) ⟨by show (a + 1) ≤ a + 1; omega, by show a + 1 ≤ b; omega, by show b ≤ b; omega⟩ ⟨rfl, rfl, rfl, rfl, rfl, rfl, rfl, rfl, rfl, rfl, rfl, rfl, trivial⟩ ?_
  rintro ⟨i, j⟩ ⟨h1, h2, h3⟩
  simp only at h1 h2 h3
  dsimp only
  refine ev_sound tabOk mixed _ _ _ _ ?_
  conv => whnf
  refine ⟨fun h => ?_, fun h => ?_⟩
  · have h := of_decide_eq_true h
    have hh := half_eq i j (by omega)
    obtain ⟨c, hc⟩ : ∃ c, c = (i + j) / 2 := ⟨_, rfl⟩
    rw [← hc] at hh
    have hc1 : i ≤ c := by omega
    have hc2 : c < j := by omega
    have hcl : c < l.length := by omega
    have wc : IntKind.i64.wrap ((c : Int) + 1) = ((c + 1 : Nat) : Int) := by rw [w64 (by omega) (by omega)]; rfl
    have hcm := foldCmp_pc (l[c]'(by omega)) (l[a]'(by omega))
    conv => whnf
    refine ⟨by decide, ?_⟩
    conv => whnf
    rw [hh]
    refine ⟨by omega, ?_⟩
    conv => whnf
    refine ⟨_, ⟨by omega, flatO_get0 (show c < l.length by omega)⟩, ?_⟩
    conv => whnf
    refine ⟨by omega, ?_⟩
    conv => whnf
    refine ⟨_, ⟨by omega, flatO_get0 (show a < l.length by omega)⟩, ?_⟩
    conv => whnf
    refine ⟨_, rfl, hcm, ?_⟩
    conv => whnf
    refine ⟨by kernel_rfl, ?_⟩
    generalize cmpO _ _ = z
    conv => whnf
    refine ⟨fun h => ?_, fun h => ?_⟩
    · conv => whnf
      refine ⟨(c + 1, j), ⟨by show (a + 1) ≤ c + 1; omega, by show c + 1 ≤ j; omega, h3⟩, by show j - (c + 1) < j - i; omega, rfl, rfl, rfl, rfl, rfl, rfl, ?_, rfl, rfl, rfl, rfl, rfl, trivial⟩
      show C.v (V.int .i64 (IntKind.i64.wrap ((c : Int) + 1))) = _
      rw [wc]
    · conv => whnf
      refine ⟨(i, c), ⟨h1, hc1, by show c ≤ b; omega⟩, by show c - i < j - i; omega, rfl, rfl, rfl, rfl, rfl, rfl, rfl, rfl, rfl, rfl, rfl, rfl, trivial⟩
  · have h := of_decide_eq_false h
    have hij : i = j := by clear hfl; omega
    subst hij
    conv => whnf
    refine AW.loop (X := Nat × List Gw.Op.Op) (fun x => [(.tmp 0, .v (.own 0 0 7 n true)), (.tmp 10, .v (.int .i64 i)), (.tmp 13, .v (.int .i64 x.1)), (.blk 0, .mem 51 (flatO x.2))]) 1
      (fun x => (a ≤ x.1) ∧ x.2.Perm l) (fun x => i - x.1) (by decide) (a, l) ⟨by omega, .refl _⟩ ⟨rfl, rfl, rfl, rfl, rfl, rfl, rfl, rfl, trivial⟩ ?_
    rintro ⟨k, u⟩ ⟨g1, g2⟩
    simp only at g1 g2
    dsimp only
    refine ev_sound tabOk mixed _ _ _ _ ?_
    have hul := g2.length_eq
    have hfl := flatO_len u
    have wi1 : IntKind.i64.wrap ((i : Int) - 1) = ((i - 1 : Nat) : Int) := by rw [w64 (by omega) (by omega)]; omega
    conv => whnf
    refine ⟨fun h => ?_, fun h => ?_⟩
    · have h := of_decide_eq_true h
      rw [wi1] at h
      have wq : IntKind.i64.wrap ((k : Int) + 1) = ((k + 1 : Nat) : Int) := by rw [w64 (by omega) (by omega)]; rfl
      have hp : k < u.length := by omega
      have hq : k + 1 < u.length := by omega
      have hLp := flatO_get hp
      have hLq := flatO_get hq
      have hs1 := flatO_set hp u[k + 1]
      have hjs : k + 1 < (u.set (k) u[k + 1]).length := by simpa using hq
      have hs0 := flatO_set hjs u[k]
      have hsw := Gw.Sort.swap_eq hp hq
      have hpe := (Gw.Sort.swap_perm u (k) (k + 1)).trans g2
      have op : 0 + ((k : Nat) : Int).toNat * 7 = (k) * 7 := by rw [Int.toNat_natCast, Nat.zero_add]
      have oq : 0 + ((k + 1 : Nat) : Int).toNat * 7 = (k + 1) * 7 := by rw [Int.toNat_natCast, Nat.zero_add]
      conv => whnf
      rw [wq]
      refine ⟨by omega, ?_⟩
      conv => whnf
      rw [oq]
      refine ⟨_, ⟨by omega, hLq⟩, ?_⟩
      conv => whnf
      refine ⟨by omega, ?_⟩
      conv => whnf
      rw [op]
      refine ⟨_, ⟨by omega, hLp⟩, ?_⟩
      conv => whnf
      refine ⟨by omega, ?_⟩
      conv => whnf
      rw [op]
      refine ⟨by omega, ?_⟩
      conv => whnf
      rw [hs1]
      refine ⟨by omega, ?_⟩
      conv => whnf
      rw [oq]
      refine ⟨by rw [flatO_len, List.length_set]; omega, ?_⟩
      conv => whnf
      rw [hs0, ← hsw]
      refine ⟨by kernel_rfl, ?_⟩
      conv => whnf
      refine ⟨(k + 1, Gw.Sort.swap u (k) (k + 1)), ⟨by omega, hpe⟩, by show i - (k + 1) < i - k; omega, rfl, rfl, rfl, rfl, ?_, rfl, rfl, rfl, trivial⟩
      show C.v (V.int .i64 (IntKind.i64.wrap ((k : Int) + 1))) = _
      rw [wq]
    · conv => whnf
      exact ⟨_, _, ⟨rfl, u, g2, rfl⟩, rfl, ⟨rfl, rfl⟩, rfl, rfl, trivial⟩
set_option maxHeartbeats 4000000 in
theorem symR_ac (n : Nat) (l : List Gw.Op.Op) (a m b : Nat) (hn : n = l.length) (ham : a < m) (hmb : m < b) (hb : b ≤ n) (hl : l.length ≤ 1048576) (h1m : b = m + 1) (h2m : m ≠ a + 1) : SymDoes n l a m b := by
  subst h1m
  refine AC.of tabOk mixed (fn := Tryz.f100) (by kernel_rfl) rfl (by kernel_rfl) rfl rfl ?_
  have w1 : IntKind.i64.wrap ((m : Int) - a) = ((m - a : Nat) : Int) := by rw [w64 (by omega) (by omega)]; omega
  have w2 : IntKind.i64.wrap (((m + 1 : Nat) : Int) - m) = 1 := by rw [w64 (by omega) (by omega)]; omega
  have hfl := flatO_len l
  have ht : (((m - a : Nat) : Int) == 1) = false := by simp; omega
  conv => whnf
  rw [w1]
  refine ⟨fun h => absurd (ht.symm.trans h) (by decide), fun _ => ?_⟩
  conv => whnf
  rw [w2]
  clear w1 w2
  repeat (first | refine ⟨fun _ => ?_, fun h => absurd h (by decide)⟩ | refine ⟨fun h => absurd h (by decide), fun _ => ?_⟩ | refine ⟨fun _ => ?_, fun h => absurd (show true = false from h) (by decide)⟩ | refine ⟨fun h => absurd (show false = true from h) (by decide), fun _ => ?_⟩
          (conv => whnf))
  refine AW.loop (X := Nat × Nat) (fun x => [(.tmp 0, .v (.own 0 0 7 n true)), (.tmp 2, .v (.int .i64 m)), (.tmp 4, .v cmpV), (.tmp 14, .v (.int .i64 x.1)), (.tmp 15, .v (.int .i64 x.2)), (.blk 0, .mem 51 (flatO l))]) 1
    (fun x => a ≤ x.1 ∧ x.1 ≤ x.2 ∧ x.2 ≤ m) (fun x => x.2 - x.1) (by decide) (a, m) ⟨by show a ≤ a; omega, by show a ≤ m; omega, by show m ≤ m; omega⟩ ⟨rfl, rfl, rfl, rfl, rfl, rfl, rfl, rfl, rfl, rfl, rfl, rfl, trivial⟩ ?_
  rintro ⟨i, j⟩ ⟨h1, h2, h3⟩
  simp only at h1 h2 h3
  dsimp only
  refine ev_sound tabOk mixed _ _ _ _ ?_
  conv => whnf
  refine ⟨fun h => ?_, fun h => ?_⟩
  · have h := of_decide_eq_true h
    have hh := half_eq i j (by omega)
    obtain ⟨c, hc⟩ : ∃ c, c = (i + j) / 2 := ⟨_, rfl⟩
    rw [← hc] at hh
    have hc1 : i ≤ c := by omega
    have hc2 : c < j := by omega
    have hcl : c < l.length := by omega
    have wc : IntKind.i64.wrap ((c : Int) + 1) = ((c + 1 : Nat) : Int) := by rw [w64 (by omega) (by omega)]; rfl
    have hcm := foldCmp_pc (l[m]'(by omega)) (l[c]'(by omega))
    conv => whnf
    refine ⟨by decide, ?_⟩
    conv => whnf
    rw [hh]
    refine ⟨by omega, ?_⟩
    conv => whnf
    refine ⟨_, ⟨by omega, flatO_get0 (show m < l.length by omega)⟩, ?_⟩
    conv => whnf
    refine ⟨by omega, ?_⟩
    conv => whnf
    refine ⟨_, ⟨by omega, flatO_get0 (show c < l.length by omega)⟩, ?_⟩
    conv => whnf
    refine ⟨_, rfl, hcm, ?_⟩
    conv => whnf
    refine ⟨by kernel_rfl, ?_⟩
    generalize cmpO _ _ = z
    conv => whnf
    refine ⟨fun h => ?_, fun h => ?_⟩
    · conv => whnf
      refine ⟨(c + 1, j), ⟨by show a ≤ c + 1; omega, by show c + 1 ≤ j; omega, h3⟩, by show j - (c + 1) < j - i; omega, rfl, rfl, rfl, rfl, rfl, rfl, ?_, rfl, rfl, rfl, rfl, rfl, trivial⟩
      show C.v (V.int .i64 (IntKind.i64.wrap ((c : Int) + 1))) = _
      rw [wc]
    · conv => whnf
      refine ⟨(i, c), ⟨h1, hc1, by show c ≤ m; omega⟩, by show c - i < j - i; omega, rfl, rfl, rfl, rfl, rfl, rfl, rfl, rfl, rfl, rfl, rfl, rfl, trivial⟩
  · have h := of_decide_eq_false h
    have hij : i = j := by clear hfl; omega
    subst hij
    conv => whnf
    refine AW.loop (X := Nat × List Gw.Op.Op) (fun x => [(.tmp 0, .v (.own 0 0 7 n true)), (.tmp 2, .v (.int .i64 m)), (.tmp 14, .v (.int .i64 i)), (.tmp 17, .v (.int .i64 x.1)), (.blk 0, .mem 51 (flatO x.2))]) 1
      (fun x => (i ≤ x.1 ∧ x.1 ≤ m) ∧ x.2.Perm l) (fun x => x.1 - i) (by decide) (m, l) ⟨by omega, .refl _⟩ ⟨rfl, rfl, rfl, rfl, rfl, rfl, rfl, rfl, rfl, rfl, trivial⟩ ?_
    rintro ⟨k, u⟩ ⟨g1, g2⟩
    simp only at g1 g2
    dsimp only
    refine ev_sound tabOk mixed _ _ _ _ ?_
    have hul := g2.length_eq
    have hfl := flatO_len u
    conv => whnf
    refine ⟨fun h => ?_, fun h => ?_⟩
    · have h := of_decide_eq_true h
      obtain ⟨q, rfl⟩ : ∃ q, k = q + 1 := ⟨k - 1, by omega⟩
      have wq : IntKind.i64.wrap (((q + 1 : Nat) : Int) - 1) = (q : Int) := by rw [w64 (by omega) (by omega)]; omega
      have hp : q + 1 < u.length := by omega
      have hq : q < u.length := by omega
      have hLp := flatO_get hp
      have hLq := flatO_get hq
      have hs1 := flatO_set hp u[q]
      have hjs : q < (u.set (q + 1) u[q]).length := by simpa using hq
      have hs0 := flatO_set hjs u[q + 1]
      have hsw := Gw.Sort.swap_eq hp hq
      have hpe := (Gw.Sort.swap_perm u (q + 1) (q)).trans g2
      have op : 0 + ((q + 1 : Nat) : Int).toNat * 7 = (q + 1) * 7 := by rw [Int.toNat_natCast, Nat.zero_add]
      have oq : 0 + ((q : Nat) : Int).toNat * 7 = (q) * 7 := by rw [Int.toNat_natCast, Nat.zero_add]
      conv => whnf
      rw [wq]
      refine ⟨by omega, ?_⟩
      conv => whnf
      rw [oq]
      refine ⟨_, ⟨by omega, hLq⟩, ?_⟩
      conv => whnf
      refine ⟨by omega, ?_⟩
      conv => whnf
      rw [op]
      refine ⟨_, ⟨by omega, hLp⟩, ?_⟩
      conv => whnf
      refine ⟨by omega, ?_⟩
      conv => whnf
      rw [op]
      refine ⟨by omega, ?_⟩
      conv => whnf
      rw [hs1]
      refine ⟨by omega, ?_⟩
      conv => whnf
      rw [oq]
      refine ⟨by rw [flatO_len, List.length_set]; omega, ?_⟩
      conv => whnf
      rw [hs0, ← hsw]
      refine ⟨by kernel_rfl, ?_⟩
      conv => whnf
      refine ⟨(q, Gw.Sort.swap u (q + 1) (q)), ⟨by omega, hpe⟩, by show q - i < q + 1 - i; omega, rfl, rfl, rfl, rfl, rfl, rfl, ?_, rfl, rfl, rfl, trivial⟩
      show C.v (V.int .i64 (IntKind.i64.wrap (((q + 1 : Nat) : Int) - 1))) = _
      rw [wq]
    · conv => whnf
      exact ⟨_, _, ⟨rfl, u, g2, rfl⟩, rfl, ⟨rfl, rfl⟩, rfl, rfl, trivial⟩
set_option maxHeartbeats 4000000 in
theorem symG_ac (n : Nat) (l : List Gw.Op.Op) (a m b : Nat) (hn : n = l.length) (ham : a < m) (hmb : m < b) (hb : b ≤ n) (hl : l.length ≤ 1048576) (h1m : m ≠ a + 1) (h2m : b ≠ m + 1)
    (ih : ∀ (l : List Gw.Op.Op) (a' m' b' : Nat), n = l.length → a' < m' → m' < b' → b' ≤ n → l.length ≤ 1048576 → b' - a' < b - a → SymDoes n l a' m' b') : SymDoes n l a m b := by
  refine AC.of tabOk mixed (fn := Tryz.f100) (by kernel_rfl) rfl (by kernel_rfl) rfl rfl ?_
  have w1 : IntKind.i64.wrap ((m : Int) - a) = ((m - a : Nat) : Int) := by rw [w64 (by omega) (by omega)]; omega
  have w2 : IntKind.i64.wrap ((b : Int) - m) = ((b - m : Nat) : Int) := by rw [w64 (by omega) (by omega)]; omega
  have hfl := flatO_len l
  have ht : (((m - a : Nat) : Int) == 1) = false := by simp; omega
  have ht2 : (((b - m : Nat) : Int) == 1) = false := by simp; omega
  have hmid := half_eq a b (by omega)
  obtain ⟨mid, hm⟩ : ∃ c, c = (a + b) / 2 := ⟨_, rfl⟩
  rw [← hm] at hmid
  have wn : IntKind.i64.wrap ((mid : Int) + m) = ((mid + m : Nat) : Int) := by rw [w64 (by omega) (by omega)]; rfl
  have wp : IntKind.i64.wrap (((mid + m : Nat) : Int) - 1) = ((mid + m - 1 : Nat) : Int) := by rw [w64 (by omega) (by omega)]; omega
  conv => whnf
  rw [w1]
  refine ⟨fun h => absurd (ht.symm.trans h) (by decide), fun _ => ?_⟩
  conv => whnf
  rw [w2]
  refine ⟨fun h => absurd (ht2.symm.trans h) (by decide), fun _ => ?_⟩
  conv => whnf
  refine ⟨by decide, ?_⟩
  conv => whnf
  rw [hmid, wn]
  refine ⟨fun h => ?_, fun h => ?_⟩
  · have h := of_decide_eq_true h
    have wl : IntKind.i64.wrap (((mid + m : Nat) : Int) - b) = ((mid + m - b : Nat) : Int) := by rw [w64 (by omega) (by omega)]; omega
    conv => whnf
    rw [wl, wp]
    refine AW.loop (X := Nat × Nat) (fun x => [(.tmp 0, .v (.own 0 0 7 n true)), (.tmp 1, .v (.int .i64 a)), (.tmp 2, .v (.int .i64 m)), (.tmp 3, .v (.int .i64 b)), (.tmp 18, .v (.int .i64 mid)), (.tmp 19, .v (.int .i64 ((mid + m : Nat) : Int))), (.tmp 22, .v (.int .i64 ((mid + m - 1 : Nat) : Int))), (.tmp 4, .v cmpV), (.tmp 20, .v (.int .i64 x.1)), (.tmp 21, .v (.int .i64 x.2)), (.blk 0, .mem 51 (flatO l))]) 1
      (fun x => (mid + m - b) ≤ x.1 ∧ x.1 ≤ x.2 ∧ x.2 ≤ mid) (fun x => x.2 - x.1) (by decide) (mid + m - b, mid) ⟨by show (mid + m - b) ≤ mid + m - b; omega, by show mid + m - b ≤ mid; omega, by show mid ≤ mid; omega⟩ ⟨rfl, rfl, rfl, rfl, rfl, rfl, rfl, rfl, rfl, rfl, rfl, rfl, rfl, rfl, rfl, rfl, rfl, rfl, rfl, rfl, rfl, rfl, trivial⟩ ?_
    rintro ⟨i, j⟩ ⟨h1, h2, h3⟩
    simp only at h1 h2 h3
    dsimp only
    refine ev_sound tabOk mixed _ _ _ _ ?_
    conv => whnf
    refine ⟨fun h => ?_, fun h => ?_⟩
    · have h := of_decide_eq_true h
      have hh := half_eq i j (by omega)
      obtain ⟨c, hc⟩ : ∃ c, c = (i + j) / 2 := ⟨_, rfl⟩
      rw [← hc] at hh
      have hc1 : i ≤ c := by omega
      have hc2 : c < j := by omega
      have hcl : c < l.length := by omega
      have wc : IntKind.i64.wrap ((c : Int) + 1) = ((c + 1 : Nat) : Int) := by rw [w64 (by omega) (by omega)]; rfl
      have wpc : IntKind.i64.wrap (((mid + m - 1 : Nat) : Int) - c) = ((mid + m - 1 - c : Nat) : Int) := by rw [w64 (by omega) (by omega)]; omega
      have hcm := foldCmp_pc (l[(mid + m - 1 - c)]'(by omega)) (l[c]'(by omega))
      conv => whnf
      refine ⟨by decide, ?_⟩
      conv => whnf
      rw [hh]
      rw [wpc]
      refine ⟨by omega, ?_⟩
      conv => whnf
      refine ⟨_, ⟨by omega, flatO_get0 (show (mid + m - 1 - c) < l.length by omega)⟩, ?_⟩
      conv => whnf
      refine ⟨by omega, ?_⟩
      conv => whnf
      refine ⟨_, ⟨by omega, flatO_get0 (show c < l.length by omega)⟩, ?_⟩
      conv => whnf
      refine ⟨_, rfl, hcm, ?_⟩
      conv => whnf
      refine ⟨by kernel_rfl, ?_⟩
      generalize cmpO _ _ = z
      conv => whnf
      refine ⟨fun h => ?_, fun h => ?_⟩
      · conv => whnf
        refine ⟨(c + 1, j), ⟨by show (mid + m - b) ≤ c + 1; omega, by show c + 1 ≤ j; omega, h3⟩, by show j - (c + 1) < j - i; omega, rfl, rfl, rfl, rfl, rfl, rfl, rfl, rfl, rfl, rfl, rfl, rfl, rfl, rfl, rfl, rfl, ?_, rfl, rfl, rfl, rfl, rfl, trivial⟩
        show C.v (V.int .i64 (IntKind.i64.wrap ((c : Int) + 1))) = _
        rw [wc]
      · conv => whnf
        refine ⟨(i, c), ⟨h1, hc1, by show c ≤ mid; omega⟩, by show c - i < j - i; omega, rfl, rfl, rfl, rfl, rfl, rfl, rfl, rfl, rfl, rfl, rfl, rfl, rfl, rfl, rfl, rfl, rfl, rfl, rfl, rfl, rfl, rfl, trivial⟩
    · have h := of_decide_eq_false h
      have hij : i = j := by clear hfl; omega
      subst hij
      obtain ⟨s, hsd⟩ : ∃ s, s = i := ⟨_, rfl⟩
      obtain ⟨e, he⟩ : ∃ e, e = mid + m - i := ⟨_, rfl⟩
      have we : IntKind.i64.wrap (((mid + m : Nat) : Int) - i) = (e : Int) := by rw [w64 (by omega) (by omega)]; omega
      subst hsd
      have hu : l.Perm l := .refl _
      conv => whnf
      rw [we]
      refine ⟨fun h => ?_, fun h => ?_⟩
      · have c1 := of_decide_eq_true h
        conv => whnf
        refine ⟨fun h => ?_, fun h => ?_⟩
        · have c2 := of_decide_eq_true h
          have hq := rotate_ac l s m e n (by have := hu.length_eq; omega) (by omega) (by omega) (by omega) (by have := hu.length_eq; omega)
          conv => whnf
          refine AC.frame (es := opsAt l) ⟨rfl, rfl, trivial⟩ rfl (by decide) rfl hq ?_
          rintro x es ⟨rfl, u1, hu1, rfl⟩
          have hu1 := hu1.trans hu
          conv => whnf
          refine ⟨fun h => ?_, fun h => ?_⟩
          · have c1 := of_decide_eq_true h
            conv => whnf
            refine ⟨fun h => ?_, fun h => ?_⟩
            · have c2 := of_decide_eq_true h
              have hq := ih u1 a s mid (by have := hu1.length_eq; omega) (by omega) (by omega) (by omega) (by have := hu1.length_eq; omega) (by omega)
              conv => whnf
              refine AC.frame (es := opsAt u1) ⟨rfl, rfl, trivial⟩ rfl (by decide) rfl hq ?_
              rintro x es ⟨rfl, u2, hu2, rfl⟩
              have hu2 := hu2.trans hu1
              conv => whnf
              refine ⟨fun h => ?_, fun h => ?_⟩
              · have c1 := of_decide_eq_true h
                conv => whnf
                refine ⟨fun h => ?_, fun h => ?_⟩
                · have c2 := of_decide_eq_true h
                  have hq := ih u2 mid e b (by have := hu2.length_eq; omega) (by omega) (by omega) hb (by have := hu2.length_eq; omega) (by omega)
                  conv => whnf
                  refine AC.frame (es := opsAt u2) ⟨rfl, rfl, trivial⟩ rfl (by decide) rfl hq ?_
                  rintro x es ⟨rfl, u3, hu3, rfl⟩
                  have hu3 := hu3.trans hu2
                  conv => whnf
                  exact ⟨_, _, ⟨rfl, u3, hu3, rfl⟩, rfl, ⟨rfl, rfl⟩, rfl, rfl, trivial⟩
                · conv => whnf
                  exact ⟨_, _, ⟨rfl, u2, hu2, rfl⟩, rfl, ⟨rfl, rfl⟩, rfl, rfl, trivial⟩
              · conv => whnf
                exact ⟨_, _, ⟨rfl, u2, hu2, rfl⟩, rfl, ⟨rfl, rfl⟩, rfl, rfl, trivial⟩
            · conv => whnf
              refine ⟨fun h => ?_, fun h => ?_⟩
              · have c1 := of_decide_eq_true h
                conv => whnf
                refine ⟨fun h => ?_, fun h => ?_⟩
                · have c2 := of_decide_eq_true h
                  have hq := ih u1 mid e b (by have := hu1.length_eq; omega) (by omega) (by omega) hb (by have := hu1.length_eq; omega) (by omega)
                  conv => whnf
                  refine AC.frame (es := opsAt u1) ⟨rfl, rfl, trivial⟩ rfl (by decide) rfl hq ?_
                  rintro x es ⟨rfl, u3, hu3, rfl⟩
                  have hu3 := hu3.trans hu1
                  conv => whnf
                  exact ⟨_, _, ⟨rfl, u3, hu3, rfl⟩, rfl, ⟨rfl, rfl⟩, rfl, rfl, trivial⟩
                · conv => whnf
                  exact ⟨_, _, ⟨rfl, u1, hu1, rfl⟩, rfl, ⟨rfl, rfl⟩, rfl, rfl, trivial⟩
              · conv => whnf
                exact ⟨_, _, ⟨rfl, u1, hu1, rfl⟩, rfl, ⟨rfl, rfl⟩, rfl, rfl, trivial⟩
          · conv => whnf
            refine ⟨fun h => ?_, fun h => ?_⟩
            · have c1 := of_decide_eq_true h
              conv => whnf
              refine ⟨fun h => ?_, fun h => ?_⟩
              · have c2 := of_decide_eq_true h
                have hq := ih u1 mid e b (by have := hu1.length_eq; omega) (by omega) (by omega) hb (by have := hu1.length_eq; omega) (by omega)
                conv => whnf
                refine AC.frame (es := opsAt u1) ⟨rfl, rfl, trivial⟩ rfl (by decide) rfl hq ?_
                rintro x es ⟨rfl, u3, hu3, rfl⟩
                have hu3 := hu3.trans hu1
                conv => whnf
                exact ⟨_, _, ⟨rfl, u3, hu3, rfl⟩, rfl, ⟨rfl, rfl⟩, rfl, rfl, trivial⟩
              · conv => whnf
                exact ⟨_, _, ⟨rfl, u1, hu1, rfl⟩, rfl, ⟨rfl, rfl⟩, rfl, rfl, trivial⟩
            · conv => whnf
              exact ⟨_, _, ⟨rfl, u1, hu1, rfl⟩, rfl, ⟨rfl, rfl⟩, rfl, rfl, trivial⟩
        · conv => whnf
          refine ⟨fun h => ?_, fun h => ?_⟩
          · have c1 := of_decide_eq_true h
            conv => whnf
            refine ⟨fun h => ?_, fun h => ?_⟩
            · have c2 := of_decide_eq_true h
              have hq := ih l a s mid (by have := hu.length_eq; omega) (by omega) (by omega) (by omega) (by have := hu.length_eq; omega) (by omega)
              conv => whnf
              refine AC.frame (es := opsAt l) ⟨rfl, rfl, trivial⟩ rfl (by decide) rfl hq ?_
              rintro x es ⟨rfl, u2, hu2, rfl⟩
              have hu2 := hu2.trans hu
              conv => whnf
              refine ⟨fun h => ?_, fun h => ?_⟩
              · have c1 := of_decide_eq_true h
                conv => whnf
                refine ⟨fun h => ?_, fun h => ?_⟩
                · have c2 := of_decide_eq_true h
                  have hq := ih u2 mid e b (by have := hu2.length_eq; omega) (by omega) (by omega) hb (by have := hu2.length_eq; omega) (by omega)
                  conv => whnf
                  refine AC.frame (es := opsAt u2) ⟨rfl, rfl, trivial⟩ rfl (by decide) rfl hq ?_
                  rintro x es ⟨rfl, u3, hu3, rfl⟩
                  have hu3 := hu3.trans hu2
                  conv => whnf
                  exact ⟨_, _, ⟨rfl, u3, hu3, rfl⟩, rfl, ⟨rfl, rfl⟩, rfl, rfl, trivial⟩
                · conv => whnf
                  exact ⟨_, _, ⟨rfl, u2, hu2, rfl⟩, rfl, ⟨rfl, rfl⟩, rfl, rfl, trivial⟩
              · conv => whnf
                exact ⟨_, _, ⟨rfl, u2, hu2, rfl⟩, rfl, ⟨rfl, rfl⟩, rfl, rfl, trivial⟩
            · conv => whnf
              refine ⟨fun h => ?_, fun h => ?_⟩
              · have c1 := of_decide_eq_true h
                conv => whnf
                refine ⟨fun h => ?_, fun h => ?_⟩
                · have c2 := of_decide_eq_true h
                  have hq := ih l mid e b (by have := hu.length_eq; omega) (by omega) (by omega) hb (by have := hu.length_eq; omega) (by omega)
                  conv => whnf
                  refine AC.frame (es := opsAt l) ⟨rfl, rfl, trivial⟩ rfl (by decide) rfl hq ?_
                  rintro x es ⟨rfl, u3, hu3, rfl⟩
                  have hu3 := hu3.trans hu
                  conv => whnf
                  exact ⟨_, _, ⟨rfl, u3, hu3, rfl⟩, rfl, ⟨rfl, rfl⟩, rfl, rfl, trivial⟩
                · conv => whnf
                  exact ⟨_, _, ⟨rfl, l, hu, rfl⟩, rfl, ⟨rfl, rfl⟩, rfl, rfl, trivial⟩
              · conv => whnf
                exact ⟨_, _, ⟨rfl, l, hu, rfl⟩, rfl, ⟨rfl, rfl⟩, rfl, rfl, trivial⟩
          · conv => whnf
            refine ⟨fun h => ?_, fun h => ?_⟩
            · have c1 := of_decide_eq_true h
              conv => whnf
              refine ⟨fun h => ?_, fun h => ?_⟩
              · have c2 := of_decide_eq_true h
                have hq := ih l mid e b (by have := hu.length_eq; omega) (by omega) (by omega) hb (by have := hu.length_eq; omega) (by omega)
                conv => whnf
                refine AC.frame (es := opsAt l) ⟨rfl, rfl, trivial⟩ rfl (by decide) rfl hq ?_
                rintro x es ⟨rfl, u3, hu3, rfl⟩
                have hu3 := hu3.trans hu
                conv => whnf
                exact ⟨_, _, ⟨rfl, u3, hu3, rfl⟩, rfl, ⟨rfl, rfl⟩, rfl, rfl, trivial⟩
              · conv => whnf
                exact ⟨_, _, ⟨rfl, l, hu, rfl⟩, rfl, ⟨rfl, rfl⟩, rfl, rfl, trivial⟩
            · conv => whnf
              exact ⟨_, _, ⟨rfl, l, hu, rfl⟩, rfl, ⟨rfl, rfl⟩, rfl, rfl, trivial⟩
      · conv => whnf
        refine ⟨fun h => ?_, fun h => ?_⟩
        · have c1 := of_decide_eq_true h
          conv => whnf
          refine ⟨fun h => ?_, fun h => ?_⟩
          · have c2 := of_decide_eq_true h
            have hq := ih l a s mid (by have := hu.length_eq; omega) (by omega) (by omega) (by omega) (by have := hu.length_eq; omega) (by omega)
            conv => whnf
            refine AC.frame (es := opsAt l) ⟨rfl, rfl, trivial⟩ rfl (by decide) rfl hq ?_
            rintro x es ⟨rfl, u2, hu2, rfl⟩
            have hu2 := hu2.trans hu
            conv => whnf
            refine ⟨fun h => ?_, fun h => ?_⟩
            · have c1 := of_decide_eq_true h
              conv => whnf
              refine ⟨fun h => ?_, fun h => ?_⟩
              · have c2 := of_decide_eq_true h
                have hq := ih u2 mid e b (by have := hu2.length_eq; omega) (by omega) (by omega) hb (by have := hu2.length_eq; omega) (by omega)
                conv => whnf
                refine AC.frame (es := opsAt u2) ⟨rfl, rfl, trivial⟩ rfl (by decide) rfl hq ?_
                rintro x es ⟨rfl, u3, hu3, rfl⟩
                have hu3 := hu3.trans hu2
                conv => whnf
                exact ⟨_, _, ⟨rfl, u3, hu3, rfl⟩, rfl, ⟨rfl, rfl⟩, rfl, rfl, trivial⟩
              · conv => whnf
                exact ⟨_, _, ⟨rfl, u2, hu2, rfl⟩, rfl, ⟨rfl, rfl⟩, rfl, rfl, trivial⟩
            · conv => whnf
              exact ⟨_, _, ⟨rfl, u2, hu2, rfl⟩, rfl, ⟨rfl, rfl⟩, rfl, rfl, trivial⟩
          · conv => whnf
            refine ⟨fun h => ?_, fun h => ?_⟩
            · have c1 := of_decide_eq_true h
              conv => whnf
              refine ⟨fun h => ?_, fun h => ?_⟩
              · have c2 := of_decide_eq_true h
                have hq := ih l mid e b (by have := hu.length_eq; omega) (by omega) (by omega) hb (by have := hu.length_eq; omega) (by omega)
                conv => whnf
                refine AC.frame (es := opsAt l) ⟨rfl, rfl, trivial⟩ rfl (by decide) rfl hq ?_
                rintro x es ⟨rfl, u3, hu3, rfl⟩
                have hu3 := hu3.trans hu
                conv => whnf
                exact ⟨_, _, ⟨rfl, u3, hu3, rfl⟩, rfl, ⟨rfl, rfl⟩, rfl, rfl, trivial⟩
              · conv => whnf
                exact ⟨_, _, ⟨rfl, l, hu, rfl⟩, rfl, ⟨rfl, rfl⟩, rfl, rfl, trivial⟩
            · conv => whnf
              exact ⟨_, _, ⟨rfl, l, hu, rfl⟩, rfl, ⟨rfl, rfl⟩, rfl, rfl, trivial⟩
        · conv => whnf
          refine ⟨fun h => ?_, fun h => ?_⟩
          · have c1 := of_decide_eq_true h
            conv => whnf
            refine ⟨fun h => ?_, fun h => ?_⟩
            · have c2 := of_decide_eq_true h
              have hq := ih l mid e b (by have := hu.length_eq; omega) (by omega) (by omega) hb (by have := hu.length_eq; omega) (by omega)
              conv => whnf
              refine AC.frame (es := opsAt l) ⟨rfl, rfl, trivial⟩ rfl (by decide) rfl hq ?_
              rintro x es ⟨rfl, u3, hu3, rfl⟩
              have hu3 := hu3.trans hu
              conv => whnf
              exact ⟨_, _, ⟨rfl, u3, hu3, rfl⟩, rfl, ⟨rfl, rfl⟩, rfl, rfl, trivial⟩
            · conv => whnf
              exact ⟨_, _, ⟨rfl, l, hu, rfl⟩, rfl, ⟨rfl, rfl⟩, rfl, rfl, trivial⟩
          · conv => whnf
            exact ⟨_, _, ⟨rfl, l, hu, rfl⟩, rfl, ⟨rfl, rfl⟩, rfl, rfl, trivial⟩
  · have h := of_decide_eq_false h
    conv => whnf
    rw [wp]
    refine AW.loop (X := Nat × Nat) (fun x => [(.tmp 0, .v (.own 0 0 7 n true)), (.tmp 1, .v (.int .i64 a)), (.tmp 2, .v (.int .i64 m)), (.tmp 3, .v (.int .i64 b)), (.tmp 18, .v (.int .i64 mid)), (.tmp 19, .v (.int .i64 ((mid + m : Nat) : Int))), (.tmp 22, .v (.int .i64 ((mid + m - 1 : Nat) : Int))), (.tmp 4, .v cmpV), (.tmp 20, .v (.int .i64 x.1)), (.tmp 21, .v (.int .i64 x.2)), (.blk 0, .mem 51 (flatO l))]) 1
      (fun x => a ≤ x.1 ∧ x.1 ≤ x.2 ∧ x.2 ≤ m) (fun x => x.2 - x.1) (by decide) (a, m) ⟨by show a ≤ a; omega, by show a ≤ m; omega, by show m ≤ m; omega⟩ ⟨rfl, rfl, rfl, rfl, rfl, rfl, rfl, rfl, rfl, rfl, rfl, rfl, rfl, rfl, rfl, rfl, rfl, rfl, rfl, rfl, rfl, rfl, trivial⟩ ?_
    rintro ⟨i, j⟩ ⟨h1, h2, h3⟩
    simp only at h1 h2 h3
    dsimp only
    refine ev_sound tabOk mixed _ _ _ _ ?_
    conv => whnf
    refine ⟨fun h => ?_, fun h => ?_⟩
    · have h := of_decide_eq_true h
      have hh := half_eq i j (by omega)
      obtain ⟨c, hc⟩ : ∃ c, c = (i + j) / 2 := ⟨_, rfl⟩
      rw [← hc] at hh
      have hc1 : i ≤ c := by omega
      have hc2 : c < j := by omega
      have hcl : c < l.length := by omega
      have wc : IntKind.i64.wrap ((c : Int) + 1) = ((c + 1 : Nat) : Int) := by rw [w64 (by omega) (by omega)]; rfl
      have wpc : IntKind.i64.wrap (((mid + m - 1 : Nat) : Int) - c) = ((mid + m - 1 - c : Nat) : Int) := by rw [w64 (by omega) (by omega)]; omega
      have hcm := foldCmp_pc (l[(mid + m - 1 - c)]'(by omega)) (l[c]'(by omega))
      conv => whnf
      refine ⟨by decide, ?_⟩
      conv => whnf
      rw [hh]
      rw [wpc]
      refine ⟨by omega, ?_⟩
      conv => whnf
      refine ⟨_, ⟨by omega, flatO_get0 (show (mid + m - 1 - c) < l.length by omega)⟩, ?_⟩
      conv => whnf
      refine ⟨by omega, ?_⟩
      conv => whnf
      refine ⟨_, ⟨by omega, flatO_get0 (show c < l.length by omega)⟩, ?_⟩
      conv => whnf
      refine ⟨_, rfl, hcm, ?_⟩
      conv => whnf
      refine ⟨by kernel_rfl, ?_⟩
      generalize cmpO _ _ = z
      conv => whnf
      refine ⟨fun h => ?_, fun h => ?_⟩
      · conv => whnf
        refine ⟨(c + 1, j), ⟨by show a ≤ c + 1; omega, by show c + 1 ≤ j; omega, h3⟩, by show j - (c + 1) < j - i; omega, rfl, rfl, rfl, rfl, rfl, rfl, rfl, rfl, rfl, rfl, rfl, rfl, rfl, rfl, rfl, rfl, ?_, rfl, rfl, rfl, rfl, rfl, trivial⟩
        show C.v (V.int .i64 (IntKind.i64.wrap ((c : Int) + 1))) = _
        rw [wc]
      · conv => whnf
        refine ⟨(i, c), ⟨h1, hc1, by show c ≤ m; omega⟩, by show c - i < j - i; omega, rfl, rfl, rfl, rfl, rfl, rfl, rfl, rfl, rfl, rfl, rfl, rfl, rfl, rfl, rfl, rfl, rfl, rfl, rfl, rfl, rfl, rfl, trivial⟩
    · have h := of_decide_eq_false h
      have hij : i = j := by clear hfl; omega
      subst hij
      obtain ⟨s, hsd⟩ : ∃ s, s = i := ⟨_, rfl⟩
      obtain ⟨e, he⟩ : ∃ e, e = mid + m - i := ⟨_, rfl⟩
      have we : IntKind.i64.wrap (((mid + m : Nat) : Int) - i) = (e : Int) := by rw [w64 (by omega) (by omega)]; omega
      subst hsd
      have hu : l.Perm l := .refl _
      conv => whnf
      rw [we]
      refine ⟨fun h => ?_, fun h => ?_⟩
      · have c1 := of_decide_eq_true h
        conv => whnf
        refine ⟨fun h => ?_, fun h => ?_⟩
        · have c2 := of_decide_eq_true h
          have hq := rotate_ac l s m e n (by have := hu.length_eq; omega) (by omega) (by omega) (by omega) (by have := hu.length_eq; omega)
          conv => whnf
          refine AC.frame (es := opsAt l) ⟨rfl, rfl, trivial⟩ rfl (by decide) rfl hq ?_
          rintro x es ⟨rfl, u1, hu1, rfl⟩
          have hu1 := hu1.trans hu
          conv => whnf
          refine ⟨fun h => ?_, fun h => ?_⟩
          · have c1 := of_decide_eq_true h
            conv => whnf
            refine ⟨fun h => ?_, fun h => ?_⟩
            · have c2 := of_decide_eq_true h
              have hq := ih u1 a s mid (by have := hu1.length_eq; omega) (by omega) (by omega) (by omega) (by have := hu1.length_eq; omega) (by omega)
              conv => whnf
              refine AC.frame (es := opsAt u1) ⟨rfl, rfl, trivial⟩ rfl (by decide) rfl hq ?_
              rintro x es ⟨rfl, u2, hu2, rfl⟩
              have hu2 := hu2.trans hu1
              conv => whnf
              refine ⟨fun h => ?_, fun h => ?_⟩
              · have c1 := of_decide_eq_true h
                conv => whnf
                refine ⟨fun h => ?_, fun h => ?_⟩
                · have c2 := of_decide_eq_true h
                  have hq := ih u2 mid e b (by have := hu2.length_eq; omega) (by omega) (by omega) hb (by have := hu2.length_eq; omega) (by omega)
                  conv => whnf
                  refine AC.frame (es := opsAt u2) ⟨rfl, rfl, trivial⟩ rfl (by decide) rfl hq ?_
                  rintro x es ⟨rfl, u3, hu3, rfl⟩
                  have hu3 := hu3.trans hu2
                  conv => whnf
                  exact ⟨_, _, ⟨rfl, u3, hu3, rfl⟩, rfl, ⟨rfl, rfl⟩, rfl, rfl, trivial⟩
                · conv => whnf
                  exact ⟨_, _, ⟨rfl, u2, hu2, rfl⟩, rfl, ⟨rfl, rfl⟩, rfl, rfl, trivial⟩
              · conv => whnf
                exact ⟨_, _, ⟨rfl, u2, hu2, rfl⟩, rfl, ⟨rfl, rfl⟩, rfl, rfl, trivial⟩
            · conv => whnf
              refine ⟨fun h => ?_, fun h => ?_⟩
              · have c1 := of_decide_eq_true h
                conv => whnf
                refine ⟨fun h => ?_, fun h => ?_⟩
                · have c2 := of_decide_eq_true h
                  have hq := ih u1 mid e b (by have := hu1.length_eq; omega) (by omega) (by omega) hb (by have := hu1.length_eq; omega) (by omega)
                  conv => whnf
                  refine AC.frame (es := opsAt u1) ⟨rfl, rfl, trivial⟩ rfl (by decide) rfl hq ?_
                  rintro x es ⟨rfl, u3, hu3, rfl⟩
                  have hu3 := hu3.trans hu1
                  conv => whnf
                  exact ⟨_, _, ⟨rfl, u3, hu3, rfl⟩, rfl, ⟨rfl, rfl⟩, rfl, rfl, trivial⟩
                · conv => whnf
                  exact ⟨_, _, ⟨rfl, u1, hu1, rfl⟩, rfl, ⟨rfl, rfl⟩, rfl, rfl, trivial⟩
              · conv => whnf
                exact ⟨_, _, ⟨rfl, u1, hu1, rfl⟩, rfl, ⟨rfl, rfl⟩, rfl, rfl, trivial⟩
          · conv => whnf
            refine ⟨fun h => ?_, fun h => ?_⟩
            · have c1 := of_decide_eq_true h
              conv => whnf
              refine ⟨fun h => ?_, fun h => ?_⟩
              · have c2 := of_decide_eq_true h
                have hq := ih u1 mid e b (by have := hu1.length_eq; omega) (by omega) (by omega) hb (by have := hu1.length_eq; omega) (by omega)
                conv => whnf
                refine AC.frame (es := opsAt u1) ⟨rfl, rfl, trivial⟩ rfl (by decide) rfl hq ?_
                rintro x es ⟨rfl, u3, hu3, rfl⟩
                have hu3 := hu3.trans hu1
                conv => whnf
                exact ⟨_, _, ⟨rfl, u3, hu3, rfl⟩, rfl, ⟨rfl, rfl⟩, rfl, rfl, trivial⟩
              · conv => whnf
                exact ⟨_, _, ⟨rfl, u1, hu1, rfl⟩, rfl, ⟨rfl, rfl⟩, rfl, rfl, trivial⟩
            · conv => whnf
              exact ⟨_, _, ⟨rfl, u1, hu1, rfl⟩, rfl, ⟨rfl, rfl⟩, rfl, rfl, trivial⟩
        · conv => whnf
          refine ⟨fun h => ?_, fun h => ?_⟩
          · have c1 := of_decide_eq_true h
            conv => whnf
            refine ⟨fun h => ?_, fun h => ?_⟩
            · have c2 := of_decide_eq_true h
              have hq := ih l a s mid (by have := hu.length_eq; omega) (by omega) (by omega) (by omega) (by have := hu.length_eq; omega) (by omega)
              conv => whnf
              refine AC.frame (es := opsAt l) ⟨rfl, rfl, trivial⟩ rfl (by decide) rfl hq ?_
              rintro x es ⟨rfl, u2, hu2, rfl⟩
              have hu2 := hu2.trans hu
              conv => whnf
              refine ⟨fun h => ?_, fun h => ?_⟩
              · have c1 := of_decide_eq_true h
                conv => whnf
                refine ⟨fun h => ?_, fun h => ?_⟩
                · have c2 := of_decide_eq_true h
                  have hq := ih u2 mid e b (by have := hu2.length_eq; omega) (by omega) (by omega) hb (by have := hu2.length_eq; omega) (by omega)
                  conv => whnf
                  refine AC.frame (es := opsAt u2) ⟨rfl, rfl, trivial⟩ rfl (by decide) rfl hq ?_
                  rintro x es ⟨rfl, u3, hu3, rfl⟩
                  have hu3 := hu3.trans hu2
                  conv => whnf
                  exact ⟨_, _, ⟨rfl, u3, hu3, rfl⟩, rfl, ⟨rfl, rfl⟩, rfl, rfl, trivial⟩
                · conv => whnf
                  exact ⟨_, _, ⟨rfl, u2, hu2, rfl⟩, rfl, ⟨rfl, rfl⟩, rfl, rfl, trivial⟩
              · conv => whnf
                exact ⟨_, _, ⟨rfl, u2, hu2, rfl⟩, rfl, ⟨rfl, rfl⟩, rfl, rfl, trivial⟩
            · conv => whnf
              refine ⟨fun h => ?_, fun h => ?_⟩
              · have c1 := of_decide_eq_true h
                conv => whnf
                refine ⟨fun h => ?_, fun h => ?_⟩
                · have c2 := of_decide_eq_true h
                  have hq := ih l mid e b (by have := hu.length_eq; omega) (by omega) (by omega) hb (by have := hu.length_eq; omega) (by omega)
                  conv => whnf
                  refine AC.frame (es := opsAt l) ⟨rfl, rfl, trivial⟩ rfl (by decide) rfl hq ?_
                  rintro x es ⟨rfl, u3, hu3, rfl⟩
                  have hu3 := hu3.trans hu
                  conv => whnf
                  exact ⟨_, _, ⟨rfl, u3, hu3, rfl⟩, rfl, ⟨rfl, rfl⟩, rfl, rfl, trivial⟩
                · conv => whnf
                  exact ⟨_, _, ⟨rfl, l, hu, rfl⟩, rfl, ⟨rfl, rfl⟩, rfl, rfl, trivial⟩
              · conv => whnf
                exact ⟨_, _, ⟨rfl, l, hu, rfl⟩, rfl, ⟨rfl, rfl⟩, rfl, rfl, trivial⟩
          · conv => whnf
            refine ⟨fun h => ?_, fun h => ?_⟩
            · have c1 := of_decide_eq_true h
              conv => whnf
              refine ⟨fun h => ?_, fun h => ?_⟩
              · have c2 := of_decide_eq_true h
                have hq := ih l mid e b (by have := hu.length_eq; omega) (by omega) (by omega) hb (by have := hu.length_eq; omega) (by omega)
                conv => whnf
                refine AC.frame (es := opsAt l) ⟨rfl, rfl, trivial⟩ rfl (by decide) rfl hq ?_
                rintro x es ⟨rfl, u3, hu3, rfl⟩
                have hu3 := hu3.trans hu
                conv => whnf
                exact ⟨_, _, ⟨rfl, u3, hu3, rfl⟩, rfl, ⟨rfl, rfl⟩, rfl, rfl, trivial⟩
              · conv => whnf
                exact ⟨_, _, ⟨rfl, l, hu, rfl⟩, rfl, ⟨rfl, rfl⟩, rfl, rfl, trivial⟩
            · conv => whnf
              exact ⟨_, _, ⟨rfl, l, hu, rfl⟩, rfl, ⟨rfl, rfl⟩, rfl, rfl, trivial⟩
      · conv => whnf
        refine ⟨fun h => ?_, fun h => ?_⟩
        · have c1 := of_decide_eq_true h
          conv => whnf
          refine ⟨fun h => ?_, fun h => ?_⟩
          · have c2 := of_decide_eq_true h
            have hq := ih l a s mid (by have := hu.length_eq; omega) (by omega) (by omega) (by omega) (by have := hu.length_eq; omega) (by omega)
            conv => whnf
            refine AC.frame (es := opsAt l) ⟨rfl, rfl, trivial⟩ rfl (by decide) rfl hq ?_
            rintro x es ⟨rfl, u2, hu2, rfl⟩
            have hu2 := hu2.trans hu
            conv => whnf
            refine ⟨fun h => ?_, fun h => ?_⟩
            · have c1 := of_decide_eq_true h
              conv => whnf
              refine ⟨fun h => ?_, fun h => ?_⟩
              · have c2 := of_decide_eq_true h
                have hq := ih u2 mid e b (by have := hu2.length_eq; omega) (by omega) (by omega) hb (by have := hu2.length_eq; omega) (by omega)
                conv => whnf
                refine AC.frame (es := opsAt u2) ⟨rfl, rfl, trivial⟩ rfl (by decide) rfl hq ?_
                rintro x es ⟨rfl, u3, hu3, rfl⟩
                have hu3 := hu3.trans hu2
                conv => whnf
                exact ⟨_, _, ⟨rfl, u3, hu3, rfl⟩, rfl, ⟨rfl, rfl⟩, rfl, rfl, trivial⟩
              · conv => whnf
                exact ⟨_, _, ⟨rfl, u2, hu2, rfl⟩, rfl, ⟨rfl, rfl⟩, rfl, rfl, trivial⟩
            · conv => whnf
              exact ⟨_, _, ⟨rfl, u2, hu2, rfl⟩, rfl, ⟨rfl, rfl⟩, rfl, rfl, trivial⟩
          · conv => whnf
            refine ⟨fun h => ?_, fun h => ?_⟩
            · have c1 := of_decide_eq_true h
              conv => whnf
              refine ⟨fun h => ?_, fun h => ?_⟩
              · have c2 := of_decide_eq_true h
                have hq := ih l mid e b (by have := hu.length_eq; omega) (by omega) (by omega) hb (by have := hu.length_eq; omega) (by omega)
                conv => whnf
                refine AC.frame (es := opsAt l) ⟨rfl, rfl, trivial⟩ rfl (by decide) rfl hq ?_
                rintro x es ⟨rfl, u3, hu3, rfl⟩
                have hu3 := hu3.trans hu
                conv => whnf
                exact ⟨_, _, ⟨rfl, u3, hu3, rfl⟩, rfl, ⟨rfl, rfl⟩, rfl, rfl, trivial⟩
              · conv => whnf
                exact ⟨_, _, ⟨rfl, l, hu, rfl⟩, rfl, ⟨rfl, rfl⟩, rfl, rfl, trivial⟩
            · conv => whnf
              exact ⟨_, _, ⟨rfl, l, hu, rfl⟩, rfl, ⟨rfl, rfl⟩, rfl, rfl, trivial⟩
        · conv => whnf
          refine ⟨fun h => ?_, fun h => ?_⟩
          · have c1 := of_decide_eq_true h
            conv => whnf
            refine ⟨fun h => ?_, fun h => ?_⟩
            · have c2 := of_decide_eq_true h
              have hq := ih l mid e b (by have := hu.length_eq; omega) (by omega) (by omega) hb (by have := hu.length_eq; omega) (by omega)
              conv => whnf
              refine AC.frame (es := opsAt l) ⟨rfl, rfl, trivial⟩ rfl (by decide) rfl hq ?_
              rintro x es ⟨rfl, u3, hu3, rfl⟩
              have hu3 := hu3.trans hu
              conv => whnf
              exact ⟨_, _, ⟨rfl, u3, hu3, rfl⟩, rfl, ⟨rfl, rfl⟩, rfl, rfl, trivial⟩
            · conv => whnf
              exact ⟨_, _, ⟨rfl, l, hu, rfl⟩, rfl, ⟨rfl, rfl⟩, rfl, rfl, trivial⟩
          · conv => whnf
            exact ⟨_, _, ⟨rfl, l, hu, rfl⟩, rfl, ⟨rfl, rfl⟩, rfl, rfl, trivial⟩
theorem symM_ac (n : Nat) : ∀ (f : Nat) (l : List Gw.Op.Op) (a m b : Nat), n = l.length → a < m → m < b → b ≤ n → l.length ≤ 1048576 → b - a ≤ f → SymDoes n l a m b
  | 0, l, a, m, b, _, h1, h2, _, _, hf => by omega
  | f + 1, l, a, m, b, hn, h1, h2, hb, hl, hf => by
    by_cases e1 : m = a + 1
    · exact symL_ac n l a m b hn h1 h2 hb hl e1
    · by_cases e2 : b = m + 1
      · exact symR_ac n l a m b hn h1 h2 hb hl e2 e1
      · exact symG_ac n l a m b hn h1 h2 hb hl e1 e2 fun l' a' m' b' q1 q2 q3 q4 q5 q6 => symM_ac n f l' a' m' b' q1 q2 q3 q4 q5 (by omega)
end Go.Proofs.YtipgfdepopfghaaGreat
