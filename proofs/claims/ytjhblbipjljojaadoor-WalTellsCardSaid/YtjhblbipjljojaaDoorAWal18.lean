/- What the reference's Open of the package wal computes: told without addresses. No claim of its own. -/
import Derived.Test.YtjhblbipjljojaaDoorAWal17
namespace Go.Proofs.YtjhblbipjljojaaDoor
open Go.Am

set_option maxHeartbeats 4000000 in
theorem rwopen_pc (nl : Bool) (d : Gw.Disk.Disk) (hsz : I64 d.size) (hsz2 : d.size ≤ 65536) (hl : d.loose.length ≤ 900000) : PC Tryd.prog 13 [encD nl d] (openedV d) := by
  have hck := rcheck_pc nl d hsz (by omega) hsz2
  have hR1 : Gw.Disk.check d = false → openedV d = .tup [encW true true Gw.Wal.nowal, .str [], .lst true 1 [] .none, .int .i64 140] := fun h => by
    unfold openedV Gw.Wal.open_; rw [if_pos h]; rfl
  have hR2 : Gw.Disk.check d = true → Gw.Wal.best d = none → openedV d = .tup [encW true true Gw.Wal.nowal, .str [], .lst true 1 [] .none, .int .i64 140] := fun h h2 => by
    unfold openedV Gw.Wal.open_; rw [if_neg (by rw [h]; simp), h2]; rfl
  have hR3 : ∀ q b st, Gw.Disk.check d = true → Gw.Wal.best d = some (q, b, st) → openedV d = .tup [encW false true (Gw.Wal.openAt d q b st).wal, .str st, .lst (decide ((Gw.Rec.all (Gw.Wal.region d) b).1 = [])) 1 (encSL (Gw.Rec.all (Gw.Wal.region d) b).1) .none, .int .i64 0] := fun q b st h h2 => by
    unfold openedV Gw.Wal.open_; rw [if_neg (by rw [h]; simp), h2]; rfl
  generalize openedV d = RV at *
  have hs0 := fun hc => rslot_pc nl d hc (by omega) 0 (by decide)
  have hs1 := fun hc => rslot_pc nl d hc (by omega) 1 (by decide)
  have hbb := fun q b st => best_bounds (d := d) (q := q) (b := b) (st := st)
  rw [Nat.zero_mul] at hs0
  rw [Nat.one_mul] at hs1
  have hbe : Gw.Wal.best d = Gw.Wal.better (Gw.Wal.slotIn (Gw.Disk.read d ((0 : Nat) : Int) (Gw.Wal.slotSz d)) 0) (Gw.Wal.slotIn (Gw.Disk.read d (Gw.Wal.slotSz d) (Gw.Wal.slotSz d)) 1) := rfl
  have hi1 : ∀ q b st, Gw.Wal.slotIn (Gw.Disk.read d (Gw.Wal.slotSz d) (Gw.Wal.slotSz d)) 1 = some (q, b, st) → 1 ≤ q := fun q b st h => (Gw.Wal.slotIn_iff.1 h).1
  generalize Gw.Wal.slotIn (Gw.Disk.read d ((0 : Nat) : Int) (Gw.Wal.slotSz d)) 0 = o0 at *
  generalize Gw.Wal.slotIn (Gw.Disk.read d (Gw.Wal.slotSz d) (Gw.Wal.slotSz d)) 1 = o1 at *
  have hB1 : bQ o0 < bQ o1 → Gw.Wal.best d = o1 := fun h => by
    rw [hbe]
    rcases o0 with _ | x
    · rfl
    · rcases o1 with _ | y
      · exact absurd h (Nat.not_lt_zero _)
      · show (if x.1 < y.1 then some y else some x) = some y
        rw [if_pos (show x.1 < y.1 from h)]
  have hB2 : ¬ bQ o0 < bQ o1 → Gw.Wal.best d = o0 := fun h => by
    rw [hbe]
    rcases o0 with _ | x
    · rcases o1 with _ | ⟨q, b, st⟩
      · rfl
      · exact absurd (hi1 q b st rfl) (by have : ¬ 0 < q := h; omega)
    · rcases o1 with _ | y
      · rfl
      · show (if x.1 < y.1 then some y else some x) = some x
        rw [if_neg (show ¬ x.1 < y.1 from h)]
  clear hbe
  unfold slotV at hs0 hs1
  refine PC.ofS tabOk mixed (fn := Tryd.f13) (by kernel_rfl) rfl (by kernel_rfl) rfl rfl ?_
  conv => whnf
  refine AC.of_pc hck rfl ?_
  cases hc : Gw.Disk.check d with
  | false =>
    rw [hR1 hc]
    conv => whnf
    repeat (first | refine ⟨fun _ => ?_, fun h => absurd h (by decide)⟩ | refine ⟨fun h => absurd h (by decide), fun _ => ?_⟩ | refine ⟨fun _ => ?_, fun h => absurd (show true = false from h) (by decide)⟩ | refine ⟨fun h => absurd (show false = true from h) (by decide), fun _ => ?_⟩
            (conv => whnf))
    exact SubV.tup (.cons (subW (.nil _ _ _) (.nil _ _ _)) (.cons (.refl _) (.cons (.refl _) (.cons (.refl _) .nil))))
  | true =>
  have hs0 := hs0 hc
  have hs1 := hs1 hc
  conv => whnf
  repeat (first | refine ⟨fun _ => ?_, fun h => absurd h (by decide)⟩ | refine ⟨fun h => absurd h (by decide), fun _ => ?_⟩ | refine ⟨fun _ => ?_, fun h => absurd (show true = false from h) (by decide)⟩ | refine ⟨fun h => absurd (show false = true from h) (by decide), fun _ => ?_⟩
          (conv => whnf))
  refine AC.of_pc hs0 rfl ?_
  conv => whnf
  refine AC.of_pc hs1 rfl ?_
  conv => whnf
  refine ⟨fun h => ?_, fun h => ?_⟩
  · have h := of_decide_eq_true h
    have hb := hB1 (by omega)
    rcases o1 with _ | ⟨q, b, st⟩
    · exfalso
      have : (bQ (none : Option (Nat × Nat × List UInt8)) : Int) = 0 := rfl
      omega
    obtain ⟨q1, q2, b1, b2⟩ := hbb q b st hb
    rw [hR3 q b st hc hb]
    obtain ⟨z1, z2, _, _⟩ := Gw.Disk.check_spec hc
    have hsl := Gw.Wal.start_size d
    have hrd := rread_pc nl d (Gw.Wal.start d) (d.size - Gw.Wal.start d) hsz hsz2 (by unfold I64; omega) (by unfold I64; omega) (by omega)
    have hreg : Gw.Disk.read d (Gw.Wal.start d) (d.size - Gw.Wal.start d) = Gw.Wal.region d := rfl
    have hrl := Gw.Wal.region_len hc
    have hall := rAll_pc (Gw.Wal.region d) (b : Int) (by rw [hrl]; omega) (by omega) (by omega)
    obtain ⟨ab1, ab2⟩ := alls_bound (Gw.Rec.all_alls (Gw.Wal.region d) (b : Int))
    rw [hrl] at ab1
    rw [hreg] at hrd
    have hend : Gw.Wal.start d + (Gw.Rec.all (Gw.Wal.region d) b).2 ≤ d.size.toNat := by omega
    have hz1 := rzeros_pc (d.size.toNat - (Gw.Wal.start d + (Gw.Rec.all (Gw.Wal.region d) b).2)) (by omega)
    have hz2 := rzeros_pc (Gw.Wal.slotSz d) (by unfold Gw.Wal.slotSz; omega)
    have hw1 := rwwrite_pc nl d hc (by omega) (Gw.Wal.start d + (Gw.Rec.all (Gw.Wal.region d) b).2) (d.size.toNat - (Gw.Wal.start d + (Gw.Rec.all (Gw.Wal.region d) b).2)) _ (Gw.Wal.zeros_len _) (by omega)
    obtain ⟨v1, v2, v3, v4, _, _⟩ := Gw.Wal.write_spec hc (Gw.Wal.start d + (Gw.Rec.all (Gw.Wal.region d) b).2) (d.size.toNat - (Gw.Wal.start d + (Gw.Rec.all (Gw.Wal.region d) b).2)) _ (Gw.Wal.zeros_len _) (by omega)
    have hrm := Gw.Wal.slots_room d (q + 1)
    have hw2 := rwwrite_pc false _ v3 (by rw [v4]; omega) (Gw.Wal.slotOf d (q + 1)) (Gw.Wal.slotSz d) _ (Gw.Wal.zeros_len _) (by rw [v2]; omega)
    have hss2 : Gw.Wal.slotSz d = d.size.toNat / 4 := rfl
    have hst2 : Gw.Wal.start d = 2 * Gw.Wal.slotSz d := rfl
    have hso2 : Gw.Wal.slotOf d (q + 1) = if (q + 1) % 2 = 1 then Gw.Wal.slotSz d else 0 := rfl
    have ws : IntKind.i64.wrap (d.size.tdiv 4) = ((Gw.Wal.slotSz d : Nat) : Int) := by rw [tdiv_pos (by omega), w64 (by omega) (by omega), hss2]; omega
    have wt : IntKind.i64.wrap (2 * IntKind.i64.wrap (d.size.tdiv 4)) = ((Gw.Wal.start d : Nat) : Int) := by rw [ws, w64 (by omega) (by omega), hst2]; omega
    have hwq : IntKind.i64.wrap ((q : Int) + 1) = ((q + 1 : Nat) : Int) := by rw [w64 (by omega) (by omega)]; omega
    have wo : IntKind.i64.wrap ((IntKind.i64.wrap ((q : Int) + 1)).tmod 2 * IntKind.i64.wrap (d.size.tdiv 4)) = ((Gw.Wal.slotOf d (q + 1) : Nat) : Int) := by
      rw [hwq, ws, hso2, tmod_pos (by omega)]
      rcases Nat.mod_two_eq_zero_or_one (q + 1) with e | e
      · rw [if_neg (by omega), show ((q + 1 : Nat) : Int) % 2 = 0 by omega, Int.zero_mul]; rfl
      · rw [if_pos e, show ((q + 1 : Nat) : Int) % 2 = 1 by omega, Int.one_mul, w64 (by omega) (by omega)]
    unfold Gw.Wal.openAt
    generalize Gw.Rec.all (Gw.Wal.region d) b = AL at *
    obtain ⟨recs, sec⟩ := AL
    simp only at ab1 ab2 hend hz1 hw1 hw2 hall ⊢
    generalize Gw.Wal.start d = sta at *
    generalize Gw.Wal.slotOf d (q + 1) = so at *
    generalize Gw.Wal.slotSz d = ss at *
    generalize Gw.Wal.region d = reg at *
    generalize Gw.Disk.readErr d _ _ = re at *
    have hwb : IntKind.i64.wrap ((b : Int) + ((encSL recs).length : Int)) = ((b + recs.length : Nat) : Int) := by rw [encSL_len, w64 (by omega) (by omega)]; omega
    have hwe : IntKind.i64.wrap (IntKind.i64.wrap (2 * IntKind.i64.wrap (d.size.tdiv 4)) + (sec : Int)) = ((sta + sec : Nat) : Int) := by rw [wt, w64 (by omega) (by omega)]; omega
    have hwn : IntKind.i64.wrap (IntKind.i64.wrap ((b : Int) + ((encSL recs).length : Int)) - 1) = ((b + recs.length - 1 : Nat) : Int) := by rw [hwb, w64 (by omega) (by omega)]; omega
    have hws : IntKind.i64.wrap (d.size - IntKind.i64.wrap (2 * IntKind.i64.wrap (d.size.tdiv 4))) = d.size - (sta : Int) := by rw [wt, w64 (by omega) (by omega)]
    have hwz : IntKind.i64.wrap (IntKind.i64.wrap (d.size - IntKind.i64.wrap (2 * IntKind.i64.wrap (d.size.tdiv 4))) - (sec : Int)) = ((d.size.toNat - (sta + sec) : Nat) : Int) := by rw [hws, w64 (by omega) (by omega)]; omega
    generalize hX1 : Gw.Disk.write d _ _ = X1 at *
    generalize hX2 : Gw.Disk.write X1 _ _ = X2 at *
    rw [← hws, ← wt] at hrd
    rw [← hwz] at hz1
    rw [← hwe] at hw1
    rw [← ws] at hz2
    rw [← wo] at hw2
    conv => whnf
    refine ⟨fun h => ?_, fun _ => ?_⟩
    · exfalso
      have : (q : Int) = 0 := by simpa [bQ] using h
      omega
    conv => whnf
    refine AC.of_pc hrd rfl ?_
    conv => whnf
    refine AC.of_pc hall rfl ?_
    simp only [allV]
    conv => whnf
    refine ⟨_, rfl, hz1, ?_⟩
    conv => whnf
    refine ⟨_, rfl, hw1, ?_⟩
    conv => whnf
    refine ⟨by kernel_rfl, ?_⟩
    conv => whnf
    refine ⟨_, rfl, hz2, ?_⟩
    conv => whnf
    refine ⟨_, rfl, hw2, ?_⟩
    conv => whnf
    refine ⟨by kernel_rfl, ?_⟩
    conv => whnf
    refine ⟨by kernel_rfl, ?_⟩
    conv => whnf
    simp only [bB, bQ, bS]
    rw [hwn, hwe, hwb]
    exact SubV.tup (.cons (subW (.refl _) (.nil _ _ _)) (.cons (.refl _) (.cons (.refl _) (.cons (.refl _) .nil))))
  · have h := of_decide_eq_false h
    have hb := hB2 (by omega)
    rcases o0 with _ | ⟨q, b, st⟩
    · rw [hR2 hc hb]
      conv => whnf
      repeat (first | refine ⟨fun _ => ?_, fun h => absurd h (by decide)⟩ | refine ⟨fun h => absurd h (by decide), fun _ => ?_⟩ | refine ⟨fun _ => ?_, fun h => absurd (show true = false from h) (by decide)⟩ | refine ⟨fun h => absurd (show false = true from h) (by decide), fun _ => ?_⟩
              (conv => whnf))
      exact SubV.tup (.cons (subW (.nil _ _ _) (.nil _ _ _)) (.cons (.refl _) (.cons (.refl _) (.cons (.refl _) .nil))))
    obtain ⟨q1, q2, b1, b2⟩ := hbb q b st hb
    rw [hR3 q b st hc hb]
    obtain ⟨z1, z2, _, _⟩ := Gw.Disk.check_spec hc
    have hsl := Gw.Wal.start_size d
    have hrd := rread_pc nl d (Gw.Wal.start d) (d.size - Gw.Wal.start d) hsz hsz2 (by unfold I64; omega) (by unfold I64; omega) (by omega)
    have hreg : Gw.Disk.read d (Gw.Wal.start d) (d.size - Gw.Wal.start d) = Gw.Wal.region d := rfl
    have hrl := Gw.Wal.region_len hc
    have hall := rAll_pc (Gw.Wal.region d) (b : Int) (by rw [hrl]; omega) (by omega) (by omega)
    obtain ⟨ab1, ab2⟩ := alls_bound (Gw.Rec.all_alls (Gw.Wal.region d) (b : Int))
    rw [hrl] at ab1
    rw [hreg] at hrd
    have hend : Gw.Wal.start d + (Gw.Rec.all (Gw.Wal.region d) b).2 ≤ d.size.toNat := by omega
    have hz1 := rzeros_pc (d.size.toNat - (Gw.Wal.start d + (Gw.Rec.all (Gw.Wal.region d) b).2)) (by omega)
    have hz2 := rzeros_pc (Gw.Wal.slotSz d) (by unfold Gw.Wal.slotSz; omega)
    have hw1 := rwwrite_pc nl d hc (by omega) (Gw.Wal.start d + (Gw.Rec.all (Gw.Wal.region d) b).2) (d.size.toNat - (Gw.Wal.start d + (Gw.Rec.all (Gw.Wal.region d) b).2)) _ (Gw.Wal.zeros_len _) (by omega)
    obtain ⟨v1, v2, v3, v4, _, _⟩ := Gw.Wal.write_spec hc (Gw.Wal.start d + (Gw.Rec.all (Gw.Wal.region d) b).2) (d.size.toNat - (Gw.Wal.start d + (Gw.Rec.all (Gw.Wal.region d) b).2)) _ (Gw.Wal.zeros_len _) (by omega)
    have hrm := Gw.Wal.slots_room d (q + 1)
    have hw2 := rwwrite_pc false _ v3 (by rw [v4]; omega) (Gw.Wal.slotOf d (q + 1)) (Gw.Wal.slotSz d) _ (Gw.Wal.zeros_len _) (by rw [v2]; omega)
    have hss2 : Gw.Wal.slotSz d = d.size.toNat / 4 := rfl
    have hst2 : Gw.Wal.start d = 2 * Gw.Wal.slotSz d := rfl
    have hso2 : Gw.Wal.slotOf d (q + 1) = if (q + 1) % 2 = 1 then Gw.Wal.slotSz d else 0 := rfl
    have ws : IntKind.i64.wrap (d.size.tdiv 4) = ((Gw.Wal.slotSz d : Nat) : Int) := by rw [tdiv_pos (by omega), w64 (by omega) (by omega), hss2]; omega
    have wt : IntKind.i64.wrap (2 * IntKind.i64.wrap (d.size.tdiv 4)) = ((Gw.Wal.start d : Nat) : Int) := by rw [ws, w64 (by omega) (by omega), hst2]; omega
    have hwq : IntKind.i64.wrap ((q : Int) + 1) = ((q + 1 : Nat) : Int) := by rw [w64 (by omega) (by omega)]; omega
    have wo : IntKind.i64.wrap ((IntKind.i64.wrap ((q : Int) + 1)).tmod 2 * IntKind.i64.wrap (d.size.tdiv 4)) = ((Gw.Wal.slotOf d (q + 1) : Nat) : Int) := by
      rw [hwq, ws, hso2, tmod_pos (by omega)]
      rcases Nat.mod_two_eq_zero_or_one (q + 1) with e | e
      · rw [if_neg (by omega), show ((q + 1 : Nat) : Int) % 2 = 0 by omega, Int.zero_mul]; rfl
      · rw [if_pos e, show ((q + 1 : Nat) : Int) % 2 = 1 by omega, Int.one_mul, w64 (by omega) (by omega)]
    unfold Gw.Wal.openAt
    generalize Gw.Rec.all (Gw.Wal.region d) b = AL at *
    obtain ⟨recs, sec⟩ := AL
    simp only at ab1 ab2 hend hz1 hw1 hw2 hall ⊢
    generalize Gw.Wal.start d = sta at *
    generalize Gw.Wal.slotOf d (q + 1) = so at *
    generalize Gw.Wal.slotSz d = ss at *
    generalize Gw.Wal.region d = reg at *
    generalize Gw.Disk.readErr d _ _ = re at *
    have hwb : IntKind.i64.wrap ((b : Int) + ((encSL recs).length : Int)) = ((b + recs.length : Nat) : Int) := by rw [encSL_len, w64 (by omega) (by omega)]; omega
    have hwe : IntKind.i64.wrap (IntKind.i64.wrap (2 * IntKind.i64.wrap (d.size.tdiv 4)) + (sec : Int)) = ((sta + sec : Nat) : Int) := by rw [wt, w64 (by omega) (by omega)]; omega
    have hwn : IntKind.i64.wrap (IntKind.i64.wrap ((b : Int) + ((encSL recs).length : Int)) - 1) = ((b + recs.length - 1 : Nat) : Int) := by rw [hwb, w64 (by omega) (by omega)]; omega
    have hws : IntKind.i64.wrap (d.size - IntKind.i64.wrap (2 * IntKind.i64.wrap (d.size.tdiv 4))) = d.size - (sta : Int) := by rw [wt, w64 (by omega) (by omega)]
    have hwz : IntKind.i64.wrap (IntKind.i64.wrap (d.size - IntKind.i64.wrap (2 * IntKind.i64.wrap (d.size.tdiv 4))) - (sec : Int)) = ((d.size.toNat - (sta + sec) : Nat) : Int) := by rw [hws, w64 (by omega) (by omega)]; omega
    generalize hX1 : Gw.Disk.write d _ _ = X1 at *
    generalize hX2 : Gw.Disk.write X1 _ _ = X2 at *
    rw [← hws, ← wt] at hrd
    rw [← hwz] at hz1
    rw [← hwe] at hw1
    rw [← ws] at hz2
    rw [← wo] at hw2
    conv => whnf
    refine ⟨fun h => ?_, fun _ => ?_⟩
    · exfalso
      have : (q : Int) = 0 := by simpa [bQ] using h
      omega
    conv => whnf
    refine AC.of_pc hrd rfl ?_
    conv => whnf
    refine AC.of_pc hall rfl ?_
    simp only [allV]
    conv => whnf
    refine ⟨_, rfl, hz1, ?_⟩
    conv => whnf
    refine ⟨_, rfl, hw1, ?_⟩
    conv => whnf
    refine ⟨by kernel_rfl, ?_⟩
    conv => whnf
    refine ⟨_, rfl, hz2, ?_⟩
    conv => whnf
    refine ⟨_, rfl, hw2, ?_⟩
    conv => whnf
    refine ⟨by kernel_rfl, ?_⟩
    conv => whnf
    refine ⟨by kernel_rfl, ?_⟩
    conv => whnf
    simp only [bB, bQ, bS]
    rw [hwn, hwe, hwb]
    exact SubV.tup (.cons (subW (.refl _) (.nil _ _ _)) (.cons (.refl _) (.cons (.refl _) (.cons (.refl _) .nil))))
end Go.Proofs.YtjhblbipjljojaaDoor
