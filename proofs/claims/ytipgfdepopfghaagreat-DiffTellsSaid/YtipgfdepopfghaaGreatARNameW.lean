/- The document's answer for the order of names: told without addresses. No claim of its own. -/
import Derived.Test.YtipgfdepopfghaaGreatANameM
import Derived.Test.YtipgfdepopfghaaGreatNamePl
namespace Go.Proofs.YtipgfdepopfghaaGreat
open Go.Am

def encI (zs : List Int) : List (List V) := zs.map fun z => [.int .i64 z]
theorem rsize_pc (c : Nat) : PC Tryz.prog 144 [.int .u8 c] (.int .i64 (Gw.RName.size c)) := by
  refine PC.of tabOk mixed (fn := Tryz.f144) (by kernel_rfl) rfl (by kernel_rfl) rfl rfl ?_
  unfold Gw.RName.size
  conv => whnf
  refine ⟨fun h1 => ?_, fun h1 => ?_⟩
  · have h1 := of_decide_eq_true h1
    conv => whnf
    rw [if_pos (by omega)]; rfl
  have h1 := of_decide_eq_false h1
  rw [if_neg (by omega)]
  conv => whnf
  refine ⟨fun h2 => ?_, fun h2 => ?_⟩
  · have h2 := of_decide_eq_true h2
    conv => whnf
    refine ⟨fun h3 => ?_, fun h3 => ?_⟩
    · have h3 := of_decide_eq_true h3
      conv => whnf
      rw [if_pos (by omega)]; rfl
    have h3 := of_decide_eq_false h3
    rw [if_neg (by omega)]
    conv => whnf
    refine ⟨fun h4 => ?_, fun h4 => absurd (of_decide_eq_false h4) (by omega)⟩
    conv => whnf
    refine ⟨fun h5 => ?_, fun h5 => ?_⟩
    · have h5 := of_decide_eq_true h5
      conv => whnf
      rw [if_pos (by omega)]; rfl
    have h5 := of_decide_eq_false h5
    rw [if_neg (by omega)]
    conv => whnf
    refine ⟨fun h6 => ?_, fun h6 => absurd (of_decide_eq_false h6) (by omega)⟩
    conv => whnf
    refine ⟨fun h7 => ?_, fun h7 => ?_⟩
    · have h7 := of_decide_eq_true h7
      conv => whnf
      rw [if_pos (by omega)]; rfl
    · have h7 := of_decide_eq_false h7
      conv => whnf
      rw [if_neg (by omega)]; rfl
  · have h2 := of_decide_eq_false h2
    rw [if_neg (by omega)]
    conv => whnf
    refine ⟨fun h4 => absurd (of_decide_eq_true h4) (by omega), fun h4 => ?_⟩
    rw [if_neg (by omega)]
    conv => whnf
    refine ⟨fun h6 => absurd (of_decide_eq_true h6) (by omega), fun h6 => ?_⟩
    rw [if_neg (by omega)]
    conv => whnf
    rfl

theorem least_pc (n : Nat) : PC Tryz.prog 145 [.int .i64 n] (.int .i64 (Gw.RName.least n)) := by
  refine PC.of tabOk mixed (fn := Tryz.f145) (by kernel_rfl) rfl (by kernel_rfl) rfl rfl ?_
  unfold Gw.RName.least
  conv => whnf
  refine ⟨fun h1 => ?_, fun h1 => ?_⟩
  · have h1 : (n : Int) = 1 := by simpa using h1
    conv => whnf
    rw [if_pos (by omega)]; rfl
  have h1 : ¬ (n : Int) = 1 := by simpa using h1
  rw [if_neg (by omega)]
  conv => whnf
  refine ⟨fun h2 => ?_, fun h2 => ?_⟩
  · have h2 : (n : Int) = 2 := by simpa using h2
    conv => whnf
    rw [if_pos (by omega)]; rfl
  have h2 : ¬ (n : Int) = 2 := by simpa using h2
  rw [if_neg (by omega)]
  conv => whnf
  refine ⟨fun h3 => ?_, fun h3 => ?_⟩
  · have h3 : (n : Int) = 3 := by simpa using h3
    conv => whnf
    rw [if_pos (by omega)]; rfl
  have h3 : ¬ (n : Int) = 3 := by simpa using h3
  rw [if_neg (by omega)]
  conv => whnf
  rfl

theorem rtakeRune_pc (s : List UInt8) (p : Nat) (hp : p < s.length) (hs : s.length ≤ 1048576) : PC Tryz.prog 143 [.str s, .int .i64 p] (.tup [.int .i64 (Gw.RName.take s p).1, .int .i64 (Gw.RName.take s p).2]) := by
  have hc : s[p]? = some (s.getD p 0) := by rw [List.getD_eq_getElem?_getD, List.getElem?_eq_getElem hp]; rfl
  have hsz := rsize_pc (s.getD p 0).toNat
  have hle := Gw.RName.size_le (s.getD p 0).toNat
  have hlt := (s.getD p 0).toNat_lt
  unfold Gw.RName.take
  generalize s.getD p 0 = c at hc hsz hle hlt ⊢
  generalize hn : Gw.RName.size c.toNat = n at hsz hle ⊢
  have hwc : IntKind.i64.wrap ((c.toNat : Nat) : Int) = (c.toNat : Int) := w64 (by omega) (by omega)
  refine PC.of tabOk mixed (fn := Tryz.f143) (by kernel_rfl) rfl (by kernel_rfl) rfl rfl ?_
  conv => whnf
  refine ⟨c, ⟨by omega, hc⟩, ?_⟩
  conv => whnf
  refine AC.of_pc hsz rfl ?_
  conv => whnf
  refine ⟨fun h1 => ?_, fun h1 => ?_⟩
  · have h1 : (n : Int) = 0 := by simpa using h1
    conv => whnf
    rw [if_pos (.inl (by omega))]; rfl
  have h1 : ¬ (n : Int) = 0 := by simpa using h1
  have w1 : IntKind.i64.wrap ((p : Int) + (n : Int)) = (p : Int) + (n : Int) := w64 (by omega) (by omega)
  conv => whnf
  refine ⟨fun h2 => ?_, fun h2 => ?_⟩
  · rw [w1] at h2
    have h2 := of_decide_eq_true h2
    conv => whnf
    rw [if_pos (.inr (by omega))]; rfl
  rw [w1] at h2
  have h2 := of_decide_eq_false h2
  rw [if_neg (by omega)]
  conv => whnf
  refine ⟨fun h3 => ?_, fun h3 => ?_⟩
  · have h3 : (n : Int) = 1 := by simpa using h3
    conv => whnf
    refine ⟨c, ⟨by omega, hc⟩, ?_⟩
    conv => whnf
    rw [hwc, if_pos (by omega)]; rfl
  have h3 : ¬ (n : Int) = 1 := by simpa using h3
  rw [if_neg (by omega)]
  conv => whnf
  refine ⟨c, ⟨by omega, hc⟩, ?_⟩
  --LOOPS
  conv => whnf
  refine ⟨fun h4 => ?_, fun h4 => ?_⟩
  · have h4 : (n : Int) = 3 := by simpa using h4
    obtain rfl : n = 3 := by omega
    conv => whnf
    refine ⟨c, ⟨by omega, hc⟩, ?_⟩
    conv => whnf
    refine ⟨fun h => absurd h (by decide), fun _ => ?_⟩
    conv => whnf
    have hfirst : Gw.RName.first c.toNat 3 = c.toNat % 16 := rfl
    rw [hfirst]
    generalize hA : Gw.RName.contF s p 3 4 1 (c.toNat % 16) = ans
    have hls := least_pc 3
    have hr0 : ((c.toNat : Nat) : Int).tmod 16 = ((c.toNat % 16 : Nat) : Int) := by rw [tmod_pos (by omega)]; rfl
    refine AW.loop (X := Nat × Nat) (fun x => [(.tmp 0, .v (.str s)), (.tmp 1, .v (.int .i64 p)), (.tmp 6, .v (.int .i64 (3 : Nat))), (.tmp 7, .v (.int .i64 x.2)), (.tmp 8, .v (.int .i64 x.1))]) 0
      (fun x => 1 ≤ x.1 ∧ x.1 ≤ 3 ∧ x.2 < 64 ^ x.1 ∧ ∃ f, 3 ≤ x.1 + f ∧ ans = Gw.RName.contF s p 3 f x.1 x.2) (fun x => 4 - x.1) (by decide) (1, c.toNat % 16) ⟨Nat.le_refl _, by show 1 ≤ 3; omega, by show c.toNat % 16 < 64; omega, 4, by show 3 ≤ 1 + 4; omega, hA.symm⟩
      ⟨rfl, rfl, rfl, rfl, rfl, rfl, ?_, rfl, rfl, rfl, trivial⟩ ?_
    · show C.v (V.int .i64 ((IntKind.i64.wrap ((c.toNat : Nat) : Int)).tmod 16)) = _
      rw [hwc, hr0]
    rintro ⟨i, r⟩ ⟨hi1, hi2, hr, f, hf, hco⟩
    simp only at hi1 hi2 hr hf hco
    have hrb : r < 16777216 := Nat.lt_of_lt_of_le hr (Nat.pow_le_pow_right (by decide) (by omega : i ≤ 4))
    refine ev_sound tabOk mixed _ _ _ _ ?_
    conv => whnf
    refine ⟨fun h4 => ?_, fun h4 => ?_⟩
    · have h4 := of_decide_eq_true h4
      have w2 : IntKind.i64.wrap ((p : Int) + (i : Int)) = (p : Int) + (i : Int) := w64 (by omega) (by omega)
      have hx : s[p + i]? = some (s.getD (p + i) 0) := by rw [List.getD_eq_getElem?_getD, List.getElem?_eq_getElem (by omega)]; rfl
      obtain ⟨f, rfl⟩ : ∃ g, f = g + 1 := ⟨f - 1, by omega⟩
      rw [Gw.RName.contF, if_pos (by omega)] at hco
      have hxl := (s.getD (p + i) 0).toNat_lt
      generalize s.getD (p + i) 0 = y at hx hxl hco
      have hwy : IntKind.i64.wrap ((y.toNat : Nat) : Int) = (y.toNat : Int) := w64 (by omega) (by omega)
      conv => whnf
      rw [w2]
      refine ⟨y, ⟨by omega, by rw [show ((p : Int) + (i : Int)).toNat = p + i by omega]; exact hx⟩, ?_⟩
      conv => whnf
      refine ⟨fun h5 => ?_, fun h5 => ?_⟩
      · have h5 := of_decide_eq_true h5
        conv => whnf
        rw [if_pos (.inl (by omega))] at hco
        rw [hco]; rfl
      have h5 := of_decide_eq_false h5
      conv => whnf
      rw [w2]
      refine ⟨y, ⟨by omega, by rw [show ((p : Int) + (i : Int)).toNat = p + i by omega]; exact hx⟩, ?_⟩
      conv => whnf
      refine ⟨fun h6 => ?_, fun h6 => ?_⟩
      · have h6 := of_decide_eq_true h6
        conv => whnf
        rw [if_pos (.inr (by omega))] at hco
        rw [hco]; rfl
      have h6 := of_decide_eq_false h6
      rw [if_neg (by omega)] at hco
      conv => whnf
      rw [w2]
      refine ⟨y, ⟨by omega, by rw [show ((p : Int) + (i : Int)).toNat = p + i by omega]; exact hx⟩, ?_⟩
      conv => whnf
      refine ⟨(i + 1, r * 64 + y.toNat % 64), ⟨by show 1 ≤ i + 1; omega, by show i + 1 ≤ _; omega, by show r * 64 + y.toNat % 64 < 64 ^ (i + 1); rw [Nat.pow_succ]; omega, f, by show _ ≤ i + 1 + f; omega, hco⟩, by show 4 - (i + 1) < 4 - i; omega, rfl, rfl, rfl, rfl, rfl, rfl, ?_, rfl, ?_, rfl, trivial⟩
      · show C.v (V.int .i64 (IntKind.i64.wrap (IntKind.i64.wrap ((r : Int) * 64) + (IntKind.i64.wrap ((y.toNat : Nat) : Int)).tmod 64))) = C.v (V.int .i64 ((r * 64 + y.toNat % 64 : Nat) : Int))
        rw [hwy, tmod_pos (by omega), w64 (x := (r : Int) * 64) (by omega) (by omega), w64 (by omega) (by omega)]
        rfl
      · show C.v (V.int .i64 (IntKind.i64.wrap ((i : Int) + 1))) = C.v (V.int .i64 ((i + 1 : Nat) : Int))
        rw [w64 (by omega) (by omega)]; rfl
    · have h4 := of_decide_eq_false h4
      have hfin : Gw.RName.contF s p 3 f i r = some r := by
        cases f with
        | zero => rfl
        | succ f => rw [Gw.RName.contF, if_neg (by omega)]
      rw [hco, hfin, show Gw.RName.finO 3 (some r) = Gw.RName.fin 3 r from rfl]
      conv => whnf
      refine AC.of_pc hls rfl ?_
      unfold Gw.RName.fin
      conv => whnf
      refine ⟨fun h5 => ?_, fun h5 => ?_⟩
      · have h5 := of_decide_eq_true h5
        conv => whnf
        rw [if_pos (.inl (by omega))]; rfl
      have h5 := of_decide_eq_false h5
      conv => whnf
      refine ⟨fun h6 => ?_, fun h6 => ?_⟩
      · have h6 := of_decide_eq_true h6
        conv => whnf
        refine ⟨fun h7 => ?_, fun h7 => ?_⟩
        · have h7 := of_decide_eq_true h7
          conv => whnf
          rw [if_pos (.inr (.inl ⟨by omega, by omega⟩))]; rfl
        have h7 := of_decide_eq_false h7
        conv => whnf
        refine ⟨fun h8 => ?_, fun h8 => ?_⟩
        · have h8 := of_decide_eq_true h8
          conv => whnf
          rw [if_pos (.inr (.inr (by omega)))]; rfl
        have h8 := of_decide_eq_false h8
        rw [if_neg (by omega)]
        conv => whnf
      have h6 := of_decide_eq_false h6
      conv => whnf
      refine ⟨fun h8 => ?_, fun h8 => ?_⟩
      · have h8 := of_decide_eq_true h8
        conv => whnf
        rw [if_pos (.inr (.inr (by omega)))]; rfl
      have h8 := of_decide_eq_false h8
      rw [if_neg (by omega)]
      conv => whnf
  have h4 : ¬ (n : Int) = 3 := by simpa using h4
  conv => whnf
  refine ⟨fun h5 => ?_, fun h5 => ?_⟩
  · have h5 : (n : Int) = 4 := by simpa using h5
    obtain rfl : n = 4 := by omega
    conv => whnf
    refine ⟨c, ⟨by omega, hc⟩, ?_⟩
    conv => whnf
    have hfirst : Gw.RName.first c.toNat 4 = c.toNat % 8 := rfl
    rw [hfirst]
    generalize hA : Gw.RName.contF s p 4 4 1 (c.toNat % 8) = ans
    have hls := least_pc 4
    have hr0 : ((c.toNat : Nat) : Int).tmod 8 = ((c.toNat % 8 : Nat) : Int) := by rw [tmod_pos (by omega)]; rfl
    refine AW.loop (X := Nat × Nat) (fun x => [(.tmp 0, .v (.str s)), (.tmp 1, .v (.int .i64 p)), (.tmp 6, .v (.int .i64 (4 : Nat))), (.tmp 7, .v (.int .i64 x.2)), (.tmp 8, .v (.int .i64 x.1))]) 0
      (fun x => 1 ≤ x.1 ∧ x.1 ≤ 4 ∧ x.2 < 64 ^ x.1 ∧ ∃ f, 4 ≤ x.1 + f ∧ ans = Gw.RName.contF s p 4 f x.1 x.2) (fun x => 4 - x.1) (by decide) (1, c.toNat % 8) ⟨Nat.le_refl _, by show 1 ≤ 4; omega, by show c.toNat % 8 < 64; omega, 4, by show 4 ≤ 1 + 4; omega, hA.symm⟩
      ⟨rfl, rfl, rfl, rfl, rfl, rfl, ?_, rfl, rfl, rfl, trivial⟩ ?_
    · show C.v (V.int .i64 ((IntKind.i64.wrap ((c.toNat : Nat) : Int)).tmod 8)) = _
      rw [hwc, hr0]
    rintro ⟨i, r⟩ ⟨hi1, hi2, hr, f, hf, hco⟩
    simp only at hi1 hi2 hr hf hco
    have hrb : r < 16777216 := Nat.lt_of_lt_of_le hr (Nat.pow_le_pow_right (by decide) (by omega : i ≤ 4))
    refine ev_sound tabOk mixed _ _ _ _ ?_
    conv => whnf
    refine ⟨fun h4 => ?_, fun h4 => ?_⟩
    · have h4 := of_decide_eq_true h4
      have w2 : IntKind.i64.wrap ((p : Int) + (i : Int)) = (p : Int) + (i : Int) := w64 (by omega) (by omega)
      have hx : s[p + i]? = some (s.getD (p + i) 0) := by rw [List.getD_eq_getElem?_getD, List.getElem?_eq_getElem (by omega)]; rfl
      obtain ⟨f, rfl⟩ : ∃ g, f = g + 1 := ⟨f - 1, by omega⟩
      rw [Gw.RName.contF, if_pos (by omega)] at hco
      have hxl := (s.getD (p + i) 0).toNat_lt
      generalize s.getD (p + i) 0 = y at hx hxl hco
      have hwy : IntKind.i64.wrap ((y.toNat : Nat) : Int) = (y.toNat : Int) := w64 (by omega) (by omega)
      conv => whnf
      rw [w2]
      refine ⟨y, ⟨by omega, by rw [show ((p : Int) + (i : Int)).toNat = p + i by omega]; exact hx⟩, ?_⟩
      conv => whnf
      refine ⟨fun h5 => ?_, fun h5 => ?_⟩
      · have h5 := of_decide_eq_true h5
        conv => whnf
        rw [if_pos (.inl (by omega))] at hco
        rw [hco]; rfl
      have h5 := of_decide_eq_false h5
      conv => whnf
      rw [w2]
      refine ⟨y, ⟨by omega, by rw [show ((p : Int) + (i : Int)).toNat = p + i by omega]; exact hx⟩, ?_⟩
      conv => whnf
      refine ⟨fun h6 => ?_, fun h6 => ?_⟩
      · have h6 := of_decide_eq_true h6
        conv => whnf
        rw [if_pos (.inr (by omega))] at hco
        rw [hco]; rfl
      have h6 := of_decide_eq_false h6
      rw [if_neg (by omega)] at hco
      conv => whnf
      rw [w2]
      refine ⟨y, ⟨by omega, by rw [show ((p : Int) + (i : Int)).toNat = p + i by omega]; exact hx⟩, ?_⟩
      conv => whnf
      refine ⟨(i + 1, r * 64 + y.toNat % 64), ⟨by show 1 ≤ i + 1; omega, by show i + 1 ≤ _; omega, by show r * 64 + y.toNat % 64 < 64 ^ (i + 1); rw [Nat.pow_succ]; omega, f, by show _ ≤ i + 1 + f; omega, hco⟩, by show 4 - (i + 1) < 4 - i; omega, rfl, rfl, rfl, rfl, rfl, rfl, ?_, rfl, ?_, rfl, trivial⟩
      · show C.v (V.int .i64 (IntKind.i64.wrap (IntKind.i64.wrap ((r : Int) * 64) + (IntKind.i64.wrap ((y.toNat : Nat) : Int)).tmod 64))) = C.v (V.int .i64 ((r * 64 + y.toNat % 64 : Nat) : Int))
        rw [hwy, tmod_pos (by omega), w64 (x := (r : Int) * 64) (by omega) (by omega), w64 (by omega) (by omega)]
        rfl
      · show C.v (V.int .i64 (IntKind.i64.wrap ((i : Int) + 1))) = C.v (V.int .i64 ((i + 1 : Nat) : Int))
        rw [w64 (by omega) (by omega)]; rfl
    · have h4 := of_decide_eq_false h4
      have hfin : Gw.RName.contF s p 4 f i r = some r := by
        cases f with
        | zero => rfl
        | succ f => rw [Gw.RName.contF, if_neg (by omega)]
      rw [hco, hfin, show Gw.RName.finO 4 (some r) = Gw.RName.fin 4 r from rfl]
      conv => whnf
      refine AC.of_pc hls rfl ?_
      unfold Gw.RName.fin
      conv => whnf
      refine ⟨fun h5 => ?_, fun h5 => ?_⟩
      · have h5 := of_decide_eq_true h5
        conv => whnf
        rw [if_pos (.inl (by omega))]; rfl
      have h5 := of_decide_eq_false h5
      conv => whnf
      refine ⟨fun h6 => ?_, fun h6 => ?_⟩
      · have h6 := of_decide_eq_true h6
        conv => whnf
        refine ⟨fun h7 => ?_, fun h7 => ?_⟩
        · have h7 := of_decide_eq_true h7
          conv => whnf
          rw [if_pos (.inr (.inl ⟨by omega, by omega⟩))]; rfl
        have h7 := of_decide_eq_false h7
        conv => whnf
        refine ⟨fun h8 => ?_, fun h8 => ?_⟩
        · have h8 := of_decide_eq_true h8
          conv => whnf
          rw [if_pos (.inr (.inr (by omega)))]; rfl
        have h8 := of_decide_eq_false h8
        rw [if_neg (by omega)]
        conv => whnf
      have h6 := of_decide_eq_false h6
      conv => whnf
      refine ⟨fun h8 => ?_, fun h8 => ?_⟩
      · have h8 := of_decide_eq_true h8
        conv => whnf
        rw [if_pos (.inr (.inr (by omega)))]; rfl
      have h8 := of_decide_eq_false h8
      rw [if_neg (by omega)]
      conv => whnf
  have h5 : ¬ (n : Int) = 4 := by simpa using h5
  obtain rfl : n = 2 := by omega
  conv => whnf
  have hfirst : Gw.RName.first c.toNat 2 = c.toNat % 64 := rfl
  rw [hfirst]
  generalize hA : Gw.RName.contF s p 2 4 1 (c.toNat % 64) = ans
  have hls := least_pc 2
  have hr0 : ((c.toNat : Nat) : Int).tmod 64 = ((c.toNat % 64 : Nat) : Int) := by rw [tmod_pos (by omega)]; rfl
  refine AW.loop (X := Nat × Nat) (fun x => [(.tmp 0, .v (.str s)), (.tmp 1, .v (.int .i64 p)), (.tmp 6, .v (.int .i64 (2 : Nat))), (.tmp 7, .v (.int .i64 x.2)), (.tmp 8, .v (.int .i64 x.1))]) 0
    (fun x => 1 ≤ x.1 ∧ x.1 ≤ 2 ∧ x.2 < 64 ^ x.1 ∧ ∃ f, 2 ≤ x.1 + f ∧ ans = Gw.RName.contF s p 2 f x.1 x.2) (fun x => 4 - x.1) (by decide) (1, c.toNat % 64) ⟨Nat.le_refl _, by show 1 ≤ 2; omega, by show c.toNat % 64 < 64; omega, 4, by show 2 ≤ 1 + 4; omega, hA.symm⟩
    ⟨rfl, rfl, rfl, rfl, rfl, rfl, ?_, rfl, rfl, rfl, trivial⟩ ?_
  · show C.v (V.int .i64 ((IntKind.i64.wrap ((c.toNat : Nat) : Int)).tmod 64)) = _
    rw [hwc, hr0]
  rintro ⟨i, r⟩ ⟨hi1, hi2, hr, f, hf, hco⟩
  simp only at hi1 hi2 hr hf hco
  have hrb : r < 16777216 := Nat.lt_of_lt_of_le hr (Nat.pow_le_pow_right (by decide) (by omega : i ≤ 4))
  refine ev_sound tabOk mixed _ _ _ _ ?_
  conv => whnf
  refine ⟨fun h4 => ?_, fun h4 => ?_⟩
  · have h4 := of_decide_eq_true h4
    have w2 : IntKind.i64.wrap ((p : Int) + (i : Int)) = (p : Int) + (i : Int) := w64 (by omega) (by omega)
    have hx : s[p + i]? = some (s.getD (p + i) 0) := by rw [List.getD_eq_getElem?_getD, List.getElem?_eq_getElem (by omega)]; rfl
    obtain ⟨f, rfl⟩ : ∃ g, f = g + 1 := ⟨f - 1, by omega⟩
    rw [Gw.RName.contF, if_pos (by omega)] at hco
    have hxl := (s.getD (p + i) 0).toNat_lt
    generalize s.getD (p + i) 0 = y at hx hxl hco
    have hwy : IntKind.i64.wrap ((y.toNat : Nat) : Int) = (y.toNat : Int) := w64 (by omega) (by omega)
    conv => whnf
    rw [w2]
    refine ⟨y, ⟨by omega, by rw [show ((p : Int) + (i : Int)).toNat = p + i by omega]; exact hx⟩, ?_⟩
    conv => whnf
    refine ⟨fun h5 => ?_, fun h5 => ?_⟩
    · have h5 := of_decide_eq_true h5
      conv => whnf
      rw [if_pos (.inl (by omega))] at hco
      rw [hco]; rfl
    have h5 := of_decide_eq_false h5
    conv => whnf
    rw [w2]
    refine ⟨y, ⟨by omega, by rw [show ((p : Int) + (i : Int)).toNat = p + i by omega]; exact hx⟩, ?_⟩
    conv => whnf
    refine ⟨fun h6 => ?_, fun h6 => ?_⟩
    · have h6 := of_decide_eq_true h6
      conv => whnf
      rw [if_pos (.inr (by omega))] at hco
      rw [hco]; rfl
    have h6 := of_decide_eq_false h6
    rw [if_neg (by omega)] at hco
    conv => whnf
    rw [w2]
    refine ⟨y, ⟨by omega, by rw [show ((p : Int) + (i : Int)).toNat = p + i by omega]; exact hx⟩, ?_⟩
    conv => whnf
    refine ⟨(i + 1, r * 64 + y.toNat % 64), ⟨by show 1 ≤ i + 1; omega, by show i + 1 ≤ _; omega, by show r * 64 + y.toNat % 64 < 64 ^ (i + 1); rw [Nat.pow_succ]; omega, f, by show _ ≤ i + 1 + f; omega, hco⟩, by show 4 - (i + 1) < 4 - i; omega, rfl, rfl, rfl, rfl, rfl, rfl, ?_, rfl, ?_, rfl, trivial⟩
    · show C.v (V.int .i64 (IntKind.i64.wrap (IntKind.i64.wrap ((r : Int) * 64) + (IntKind.i64.wrap ((y.toNat : Nat) : Int)).tmod 64))) = C.v (V.int .i64 ((r * 64 + y.toNat % 64 : Nat) : Int))
      rw [hwy, tmod_pos (by omega), w64 (x := (r : Int) * 64) (by omega) (by omega), w64 (by omega) (by omega)]
      rfl
    · show C.v (V.int .i64 (IntKind.i64.wrap ((i : Int) + 1))) = C.v (V.int .i64 ((i + 1 : Nat) : Int))
      rw [w64 (by omega) (by omega)]; rfl
  · have h4 := of_decide_eq_false h4
    have hfin : Gw.RName.contF s p 2 f i r = some r := by
      cases f with
      | zero => rfl
      | succ f => rw [Gw.RName.contF, if_neg (by omega)]
    rw [hco, hfin, show Gw.RName.finO 2 (some r) = Gw.RName.fin 2 r from rfl]
    conv => whnf
    refine AC.of_pc hls rfl ?_
    unfold Gw.RName.fin
    conv => whnf
    refine ⟨fun h5 => ?_, fun h5 => ?_⟩
    · have h5 := of_decide_eq_true h5
      conv => whnf
      rw [if_pos (.inl (by omega))]; rfl
    have h5 := of_decide_eq_false h5
    conv => whnf
    refine ⟨fun h6 => ?_, fun h6 => ?_⟩
    · have h6 := of_decide_eq_true h6
      conv => whnf
      refine ⟨fun h7 => ?_, fun h7 => ?_⟩
      · have h7 := of_decide_eq_true h7
        conv => whnf
        rw [if_pos (.inr (.inl ⟨by omega, by omega⟩))]; rfl
      have h7 := of_decide_eq_false h7
      conv => whnf
      refine ⟨fun h8 => ?_, fun h8 => ?_⟩
      · have h8 := of_decide_eq_true h8
        conv => whnf
        rw [if_pos (.inr (.inr (by omega)))]; rfl
      have h8 := of_decide_eq_false h8
      rw [if_neg (by omega)]
      conv => whnf
    have h6 := of_decide_eq_false h6
    conv => whnf
    refine ⟨fun h8 => ?_, fun h8 => ?_⟩
    · have h8 := of_decide_eq_true h8
      conv => whnf
      rw [if_pos (.inr (.inr (by omega)))]; rfl
    have h8 := of_decide_eq_false h8
    rw [if_neg (by omega)]
    conv => whnf

def rallV (o : Option (List Int)) : V := match o with
  | none => .tup [.lst true 1 [] .none, .bool false]
  | some l => .tup [.lst (decide (l = [])) 1 (encI l) .none, .bool true]
theorem encI_len (l : List Int) : (encI l).length = l.length := by simp [encI]
theorem rall_pc (s : List UInt8) (hs : s.length ≤ 1048576) : PC Tryz.prog 141 [.str s] (rallV (Gw.RName.all s)) := by
  refine PC.of tabOk mixed (fn := Tryz.f141) (by kernel_rfl) rfl (by kernel_rfl) rfl rfl ?_
  conv => whnf
  refine AW.row 4 3 1 rfl rfl (.inr rfl) ?_
  refine AW.loop (X := Nat × List Int) (fun x => [(.tmp 0, .v (.str s)), (.tmp 4, .v (.lst (decide (x.2 = [])) 1 (encI x.2) (.row 4))), (.tmp 5, .v (.int .i64 x.1)), (.row 4, .row 3 1 x.2.length)]) 5
    (fun x => x.1 ≤ s.length + 4 ∧ x.2.length ≤ x.1 ∧ ∃ f, s.length < f + x.1 ∧ Gw.RName.all s = Gw.RName.allF s f x.1 x.2) (fun x => s.length - x.1) (by decide) (0, []) ⟨by omega, Nat.le_refl _, s.length + 1, by omega, rfl⟩
    ⟨rfl, rfl, rfl, rfl, rfl, rfl, rfl, rfl, trivial⟩ ?_
  rintro ⟨p, acc⟩ ⟨h1, h2, f, hf, hr⟩
  simp only at h1 h2 hf hr
  have hal := encI_len acc
  refine ev_sound tabOk mixed _ _ _ _ ?_
  conv => whnf
  refine ⟨fun h => ?_, fun h => ?_⟩
  · have h : p < s.length := by have := of_decide_eq_true h; omega
    obtain ⟨f, rfl⟩ : ∃ g, f = g + 1 := ⟨f - 1, by omega⟩
    rw [Gw.RName.allF, if_pos h] at hr
    have htk := rtakeRune_pc s p h hs
    have hle : (Gw.RName.take s p).2 ≤ 4 := by
      unfold Gw.RName.take
      have := Gw.RName.size_le (s.getD p 0).toNat
      split
      · simp
      · split
        · simp
        · generalize Gw.RName.contF _ _ _ _ _ _ = o
          cases o with
          | none => simp [Gw.RName.finO]
          | some r => simp only [Gw.RName.finO, Gw.RName.fin]; split; (exact Nat.zero_le _); (exact this)
    generalize Gw.RName.take s p = rn at htk hr hle
    obtain ⟨r, n⟩ := rn
    simp only at htk hr hle
    conv => whnf
    refine AC.of_pc htk rfl ?_
    conv => whnf
    refine ⟨fun h3 => ?_, fun h3 => ?_⟩
    · have h3 : (n : Int) = 0 := by simpa using h3
      rw [if_pos (by omega)] at hr
      rw [hr]
      conv => whnf
      rfl
    · have h3 : ¬ (n : Int) = 0 := by simpa using h3
      rw [if_neg (by omega)] at hr
      conv => whnf
      refine ⟨⟨hal.symm, fits_small (by show (encI acc).length + 1 ≤ _; omega) (by decide)⟩, ?_⟩
      conv => whnf
      refine ⟨(p + n, acc ++ [(r : Int)]), ⟨by show p + n ≤ _; omega, by show (acc ++ [_]).length ≤ p + n; rw [List.length_append, List.length_singleton]; omega, f, by show _ < f + (p + n); omega, hr⟩, by show s.length - (p + n) < s.length - p; omega, rfl, rfl, ?_, rfl, ?_, rfl, ?_, rfl, trivial⟩
      · show C.v (V.lst (decide (acc = []) && false) 1 (encI acc ++ [[V.int .i64 (r : Int)]]) _) = C.v (V.lst (decide (acc ++ [(r : Int)] = [])) 1 (encI (acc ++ [(r : Int)])) _)
        rw [Bool.and_false, decide_eq_false (by simp), encI, encI, List.map_append]
        rfl
      · show C.v (V.int .i64 (IntKind.i64.wrap ((p : Int) + (n : Int)))) = C.v (V.int .i64 ((p + n : Nat) : Int))
        rw [w64 (by omega) (by omega)]; rfl
      · show C.row _ 1 ((encI acc).length + 1) = C.row _ 1 (acc ++ [_]).length
        rw [hal, List.length_append]
        rfl
  · have h : ¬ p < s.length := by have := of_decide_eq_false h; omega
    have e : Gw.RName.allF s f p acc = some acc := by
      cases f with
      | zero => rfl
      | succ f => rw [Gw.RName.allF, if_neg h]
    rw [e] at hr
    rw [hr]
    conv => whnf
    rfl

theorem keys_pc (s : List UInt8) (hs : s.length ≤ 1048576) : ∃ q : Bool, PC Tryz.prog 137 [.str s] (.lst q 1 (encI (Gw.Name.ranks s)) .none) := by
  have h1 := rall_pc s hs
  rw [← Gw.RName.spell_all] at h1
  unfold Gw.Name.ranks
  cases ho : Gw.Name.spell s with
  | some l =>
    rw [ho] at h1
    refine ⟨decide (l = []), ?_⟩
    refine PC.of tabOk mixed (fn := Tryz.f137) (by kernel_rfl) rfl (by kernel_rfl) rfl rfl ?_
    conv => whnf
    refine AC.of_pc h1 rfl ?_
    conv => whnf
    refine ⟨fun _ => ?_, fun h => absurd h (by decide)⟩
    conv => whnf
  | none =>
    rw [ho] at h1
    refine ⟨decide (s.take s.length = []), ?_⟩
    refine PC.of tabOk mixed (fn := Tryz.f137) (by kernel_rfl) rfl (by kernel_rfl) rfl rfl ?_
    conv => whnf
    refine AC.of_pc h1 rfl ?_
    conv => whnf
    refine ⟨fun h => absurd h (by decide), fun _ => ?_⟩
    conv => whnf
    refine AW.row 5 3 1 rfl rfl (.inr rfl) ?_
    refine AW.loop (fun k : Nat => [(.tmp 0, .v (.str s)), (.tmp 5, .v (.lst (decide (s.take k = [])) 1 (encI ((s.take k).map fun b => (1114112 + b.toNat : Int))) (.row 10))), (.tmp 6, .v (.int .i64 k)), (.row 10, .row 3 1 k)])
      11 (fun k => k ≤ s.length) (fun k => s.length - k) (by decide) 0 (Nat.zero_le _) ⟨rfl, rfl, rfl, rfl, rfl, rfl, rfl, rfl, trivial⟩ ?_
    rintro k hk
    have hel : (encI ((s.take k).map fun b => (1114112 + b.toNat : Int))).length = k := by rw [encI_len, List.length_map, List.length_take]; omega
    refine ev_sound tabOk mixed _ _ _ _ ?_
    conv => whnf
    refine ⟨fun h => ?_, fun h => ?_⟩
    · have h := of_decide_eq_true h
      have hlt : k < s.length := by omega
      have hb := s[k].toNat_lt
      conv => whnf
      refine ⟨s[k], ⟨by omega, List.getElem?_eq_getElem hlt⟩, ?_⟩
      conv => whnf
      refine ⟨⟨hel.symm, fits_small (by show (encI _).length + 1 ≤ _; rw [hel]; omega) (by decide)⟩, ?_⟩
      conv => whnf
      refine ⟨k + 1, by show k + 1 ≤ _; omega, by show s.length - (k + 1) < s.length - k; omega, rfl, rfl, ?_, rfl, ?_, rfl, ?_, rfl, trivial⟩
      · show C.v (V.lst (decide (s.take k = []) && false) 1 (encI ((s.take k).map fun b => (1114112 + b.toNat : Int)) ++ [[V.int .i64 (IntKind.i64.wrap (1114112 + IntKind.i64.wrap (s[k].toNat : Int)))]]) _) = C.v (V.lst (decide (s.take (k + 1) = [])) 1 (encI ((s.take (k + 1)).map fun b => (1114112 + b.toNat : Int))) _)
        rw [List.take_succ_eq_append_getElem hlt, List.map_append, encI, encI, List.map_append, Bool.and_false, decide_eq_false (fun e => by have := congrArg List.length e; rw [List.length_append] at this; simp at this)]
        rw [w64 (x := (s[k].toNat : Int)) (by omega) (by omega), w64 (by omega) (by omega)]; rfl
      · show C.v (V.int .i64 (IntKind.i64.wrap ((k : Int) + 1))) = C.v (V.int .i64 ((k + 1 : Nat) : Int))
        rw [w64 (by omega) (by omega)]; rfl
      · show C.row _ 1 ((encI _).length + 1) = C.row _ 1 (k + 1)
        rw [hel]
    · have h := of_decide_eq_false h
      obtain rfl : k = s.length := by omega
      conv => whnf
      rw [List.take_length]
theorem encI_get {l : List Int} {k : Nat} (h : k < l.length) : (encI l)[k]? = some [.int .i64 l[k]] := by unfold encI; rw [List.getElem?_map, List.getElem?_eq_getElem h]; rfl
theorem rnameLess_pc (a b : List UInt8) (ha : a.length ≤ 1048576) (hb : b.length ≤ 1048576) : PC Tryz.prog 124 [.str a, .str b] (.bool (Gw.Name.less a b)) := by
  obtain ⟨q1, h1⟩ := keys_pc a ha
  obtain ⟨q2, h2⟩ := keys_pc b hb
  have hx := ranks_len a
  have hy := ranks_len b
  unfold Gw.Name.less
  generalize Gw.Name.ranks a = x at h1 hx
  generalize Gw.Name.ranks b = y at h2 hy
  have hlx := encI_len x
  have hly := encI_len y
  refine PC.of tabOk mixed (fn := Tryz.f124) (by kernel_rfl) rfl (by kernel_rfl) rfl rfl ?_
  conv => whnf
  refine AC.of_pc h1 rfl ?_
  conv => whnf
  refine AC.of_pc h2 rfl ?_
  conv => whnf
  refine AW.loop (fun k : Nat => [(.tmp 5, .v (.lst q1 1 (encI x) .none)), (.tmp 6, .v (.lst q2 1 (encI y) .none)), (.tmp 7, .v (.int .i64 k))])
    0 (fun k => k ≤ x.length ∧ k ≤ y.length ∧ Gw.Name.cmpL x y = Gw.Name.cmpL (x.drop k) (y.drop k)) (fun k => x.length - k) (by decide) 0 ⟨Nat.zero_le _, Nat.zero_le _, rfl⟩ ⟨rfl, rfl, rfl, rfl, rfl, rfl, trivial⟩ ?_
  rintro k ⟨hk, hkb, hcm⟩
  refine ev_sound tabOk mixed _ _ _ _ ?_
  conv => whnf
  refine ⟨fun h => ?_, fun h => ?_⟩
  · have h := of_decide_eq_true h
    have hlt : k < x.length := by omega
    conv => whnf
    refine ⟨fun h3 => ?_, fun h3 => ?_⟩
    · have h3 := of_decide_eq_true h3
      have hlt2 : k < y.length := by omega
      rw [List.drop_eq_getElem_cons hlt, List.drop_eq_getElem_cons hlt2, Gw.Name.cmpL] at hcm
      conv => whnf
      refine ⟨_, ⟨by omega, encI_get hlt⟩, ?_⟩
      conv => whnf
      refine ⟨_, ⟨by omega, encI_get hlt2⟩, ?_⟩
      conv => whnf
      refine ⟨by kernel_rfl, ?_⟩
      conv => whnf
      refine ⟨fun h4 => ?_, fun h4 => ?_⟩
      · have h4 : x[k] ≠ y[k] := by simpa using h4
        conv => whnf
        refine ⟨_, ⟨by omega, encI_get hlt⟩, ?_⟩
        conv => whnf
        refine ⟨_, ⟨by omega, encI_get hlt2⟩, ?_⟩
        conv => whnf
        refine ⟨by kernel_rfl, ?_⟩
        conv => whnf
        rw [hcm]
        by_cases c : x[k] < y[k]
        · rw [if_pos c, decide_eq_true c]; rfl
        · rw [if_neg c, decide_eq_false c, if_pos (by omega)]; rfl
      · have h4 : x[k] = y[k] := by simpa using h4
        rw [if_neg (by omega), if_neg (by omega)] at hcm
        conv => whnf
        refine ⟨k + 1, ⟨by omega, by omega, hcm⟩, by show x.length - (k + 1) < x.length - k; omega, rfl, rfl, rfl, rfl, ?_, rfl, trivial⟩
        show C.v (V.int .i64 (IntKind.i64.wrap ((k : Int) + 1))) = C.v (V.int .i64 ((k + 1 : Nat) : Int))
        rw [w64 (by omega) (by omega)]; rfl
    · have h3 := of_decide_eq_false h3
      rw [List.drop_eq_getElem_cons hlt, show y.drop k = [] from List.drop_of_length_le (by omega), Gw.Name.cmpL] at hcm
      rw [hcm]
      conv => whnf
      rw [hlx, hly, decide_eq_false (by omega)]; rfl
  · have h := of_decide_eq_false h
    rw [show x.drop k = [] from List.drop_of_length_le (by omega)] at hcm
    rw [hcm]
    conv => whnf
    rw [hlx, hly]
    by_cases c : k < y.length
    · rw [List.drop_eq_getElem_cons c, Gw.Name.cmpL, decide_eq_true (by omega)]; rfl
    · rw [show y.drop k = [] from List.drop_of_length_le (by omega), Gw.Name.cmpL, decide_eq_false (by omega)]; rfl
end Go.Proofs.YtipgfdepopfghaaGreat
