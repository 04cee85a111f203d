/- What the document's answer for names computes: told without addresses. No claim of its own. -/
import Derived.Test.YtfmhkfijnflalaaDoorAName
import Derived.Test.YtfmhkfijnflalaaDoorAVlq
import Derived.Test.YtfmhkfijnflalaaDoorRNameFn
namespace Go.Proofs.YtfmhkfijnflalaaDoor
open Go.Am

theorem rsize_pc (c : Nat) : PC Tryd.prog 69 [.int .u8 c] (.int .i64 (Gw.RName.size c)) := by
  refine PC.of tabOk mixed (fn := Tryd.f69) (by kernel_rfl) rfl (by kernel_rfl) rfl rfl ?_
  unfold Gw.RName.size
  conv => whnf
  refine ⟨fun h1 => ?_, fun h1 => ?_⟩
  · have h1 := of_decide_eq_true h1
    conv => whnf
    rw [if_pos (by omega)]; rfl
  have h1 := of_decide_eq_false h1
  rw [if_neg (by omega)]
  conv => whnf
  refine ⟨fun h2 => ?_, fun h2 => ?_⟩
  · have h2 := of_decide_eq_true h2
    conv => whnf
    refine ⟨fun h3 => ?_, fun h3 => ?_⟩
    · have h3 := of_decide_eq_true h3
      conv => whnf
      rw [if_pos (by omega)]; rfl
    have h3 := of_decide_eq_false h3
    rw [if_neg (by omega)]
    conv => whnf
    refine ⟨fun h4 => ?_, fun h4 => absurd (of_decide_eq_false h4) (by omega)⟩
    conv => whnf
    refine ⟨fun h5 => ?_, fun h5 => ?_⟩
    · have h5 := of_decide_eq_true h5
      conv => whnf
      rw [if_pos (by omega)]; rfl
    have h5 := of_decide_eq_false h5
    rw [if_neg (by omega)]
    conv => whnf
    refine ⟨fun h6 => ?_, fun h6 => absurd (of_decide_eq_false h6) (by omega)⟩
    conv => whnf
    refine ⟨fun h7 => ?_, fun h7 => ?_⟩
    · have h7 := of_decide_eq_true h7
      conv => whnf
      rw [if_pos (by omega)]; rfl
    · have h7 := of_decide_eq_false h7
      conv => whnf
      rw [if_neg (by omega)]; rfl
  · have h2 := of_decide_eq_false h2
    rw [if_neg (by omega)]
    conv => whnf
    refine ⟨fun h4 => absurd (of_decide_eq_true h4) (by omega), fun h4 => ?_⟩
    rw [if_neg (by omega)]
    conv => whnf
    refine ⟨fun h6 => absurd (of_decide_eq_true h6) (by omega), fun h6 => ?_⟩
    rw [if_neg (by omega)]
    conv => whnf
    rfl

theorem least_pc (n : Nat) : PC Tryd.prog 70 [.int .i64 n] (.int .i64 (Gw.RName.least n)) := by
  refine PC.of tabOk mixed (fn := Tryd.f70) (by kernel_rfl) rfl (by kernel_rfl) rfl rfl ?_
  unfold Gw.RName.least
  conv => whnf
  refine ⟨fun h1 => ?_, fun h1 => ?_⟩
  · have h1 : (n : Int) = 1 := by simpa using h1
    conv => whnf
    rw [if_pos (by omega)]; rfl
  have h1 : ¬ (n : Int) = 1 := by simpa using h1
  rw [if_neg (by omega)]
  conv => whnf
  refine ⟨fun h2 => ?_, fun h2 => ?_⟩
  · have h2 : (n : Int) = 2 := by simpa using h2
    conv => whnf
    rw [if_pos (by omega)]; rfl
  have h2 : ¬ (n : Int) = 2 := by simpa using h2
  rw [if_neg (by omega)]
  conv => whnf
  refine ⟨fun h3 => ?_, fun h3 => ?_⟩
  · have h3 : (n : Int) = 3 := by simpa using h3
    conv => whnf
    rw [if_pos (by omega)]; rfl
  have h3 : ¬ (n : Int) = 3 := by simpa using h3
  rw [if_neg (by omega)]
  conv => whnf
  rfl

theorem rtakeRune_pc (s : List UInt8) (p : Nat) (hp : p < s.length) (hs : s.length ≤ 1048576) : PC Tryd.prog 62 [.str s, .int .i64 p] (.tup [.int .i64 (Gw.RName.take s p).1, .int .i64 (Gw.RName.take s p).2]) := by
  have hc : s[p]? = some (s.getD p 0) := by rw [List.getD_eq_getElem?_getD, List.getElem?_eq_getElem hp]; rfl
  have hsz := rsize_pc (s.getD p 0).toNat
  have hle := Gw.RName.size_le (s.getD p 0).toNat
  have hlt := (s.getD p 0).toNat_lt
  unfold Gw.RName.take
  generalize s.getD p 0 = c at hc hsz hle hlt ⊢
  generalize hn : Gw.RName.size c.toNat = n at hsz hle ⊢
  have hwc : IntKind.i64.wrap ((c.toNat : Nat) : Int) = (c.toNat : Int) := w64 (by omega) (by omega)
  refine PC.of tabOk mixed (fn := Tryd.f62) (by kernel_rfl) rfl (by kernel_rfl) rfl rfl ?_
  conv => whnf
  refine ⟨c, ⟨by omega, hc⟩, ?_⟩
  conv => whnf
  refine AC.of_pc hsz rfl ?_
  conv => whnf
  refine ⟨fun h1 => ?_, fun h1 => ?_⟩
  · have h1 : (n : Int) = 0 := by simpa using h1
    conv => whnf
    rw [if_pos (.inl (by omega))]; rfl
  have h1 : ¬ (n : Int) = 0 := by simpa using h1
  have w1 : IntKind.i64.wrap ((p : Int) + (n : Int)) = (p : Int) + (n : Int) := w64 (by omega) (by omega)
  conv => whnf
  refine ⟨fun h2 => ?_, fun h2 => ?_⟩
  · rw [w1] at h2
    have h2 := of_decide_eq_true h2
    conv => whnf
    rw [if_pos (.inr (by omega))]; rfl
  rw [w1] at h2
  have h2 := of_decide_eq_false h2
  rw [if_neg (by omega)]
  conv => whnf
  refine ⟨fun h3 => ?_, fun h3 => ?_⟩
  · have h3 : (n : Int) = 1 := by simpa using h3
    conv => whnf
    refine ⟨c, ⟨by omega, hc⟩, ?_⟩
    conv => whnf
    rw [hwc, if_pos (by omega)]; rfl
  have h3 : ¬ (n : Int) = 1 := by simpa using h3
  rw [if_neg (by omega)]
  conv => whnf
  refine ⟨c, ⟨by omega, hc⟩, ?_⟩
  --LOOPS
  conv => whnf
  refine ⟨fun h4 => ?_, fun h4 => ?_⟩
  · have h4 : (n : Int) = 3 := by simpa using h4
    obtain rfl : n = 3 := by omega
    conv => whnf
    refine ⟨c, ⟨by omega, hc⟩, ?_⟩
    conv => whnf
    refine ⟨fun h => absurd h (by decide), fun _ => ?_⟩
    conv => whnf
    have hfirst : Gw.RName.first c.toNat 3 = c.toNat % 16 := rfl
    rw [hfirst]
    generalize hA : Gw.RName.contF s p 3 4 1 (c.toNat % 16) = ans
    have hls := least_pc 3
    have hr0 : ((c.toNat : Nat) : Int).tmod 16 = ((c.toNat % 16 : Nat) : Int) := by rw [tmod_pos (by omega)]; rfl
    refine AW.loop (X := Nat × Nat) (fun x => [(.tmp 0, .v (.str s)), (.tmp 1, .v (.int .i64 p)), (.tmp 6, .v (.int .i64 (3 : Nat))), (.tmp 7, .v (.int .i64 x.2)), (.tmp 8, .v (.int .i64 x.1))]) 0
      (fun x => 1 ≤ x.1 ∧ x.1 ≤ 3 ∧ x.2 < 64 ^ x.1 ∧ ∃ f, 3 ≤ x.1 + f ∧ ans = Gw.RName.contF s p 3 f x.1 x.2) (fun x => 4 - x.1) (by decide) (1, c.toNat % 16) ⟨Nat.le_refl _, by show 1 ≤ 3; omega, by show c.toNat % 16 < 64; omega, 4, by show 3 ≤ 1 + 4; omega, hA.symm⟩
      ⟨rfl, rfl, rfl, rfl, rfl, rfl, ?_, rfl, rfl, rfl, trivial⟩ ?_
    · show C.v (V.int .i64 ((IntKind.i64.wrap ((c.toNat : Nat) : Int)).tmod 16)) = _
      rw [hwc, hr0]
    rintro ⟨i, r⟩ ⟨hi1, hi2, hr, f, hf, hco⟩
    simp only at hi1 hi2 hr hf hco
    have hrb : r < 16777216 := Nat.lt_of_lt_of_le hr (Nat.pow_le_pow_right (by decide) (by omega : i ≤ 4))
    refine ev_sound tabOk mixed _ _ _ _ ?_
    conv => whnf
    refine ⟨fun h4 => ?_, fun h4 => ?_⟩
    · have h4 := of_decide_eq_true h4
      have w2 : IntKind.i64.wrap ((p : Int) + (i : Int)) = (p : Int) + (i : Int) := w64 (by omega) (by omega)
      have hx : s[p + i]? = some (s.getD (p + i) 0) := by rw [List.getD_eq_getElem?_getD, List.getElem?_eq_getElem (by omega)]; rfl
      obtain ⟨f, rfl⟩ : ∃ g, f = g + 1 := ⟨f - 1, by omega⟩
      rw [Gw.RName.contF, if_pos (by omega)] at hco
      have hxl := (s.getD (p + i) 0).toNat_lt
      generalize s.getD (p + i) 0 = y at hx hxl hco
      have hwy : IntKind.i64.wrap ((y.toNat : Nat) : Int) = (y.toNat : Int) := w64 (by omega) (by omega)
      conv => whnf
      rw [w2]
      refine ⟨y, ⟨by omega, by rw [show ((p : Int) + (i : Int)).toNat = p + i by omega]; exact hx⟩, ?_⟩
      conv => whnf
      refine ⟨fun h5 => ?_, fun h5 => ?_⟩
      · have h5 := of_decide_eq_true h5
        conv => whnf
        rw [if_pos (.inl (by omega))] at hco
        rw [hco]; rfl
      have h5 := of_decide_eq_false h5
      conv => whnf
      rw [w2]
      refine ⟨y, ⟨by omega, by rw [show ((p : Int) + (i : Int)).toNat = p + i by omega]; exact hx⟩, ?_⟩
      conv => whnf
      refine ⟨fun h6 => ?_, fun h6 => ?_⟩
      · have h6 := of_decide_eq_true h6
        conv => whnf
        rw [if_pos (.inr (by omega))] at hco
        rw [hco]; rfl
      have h6 := of_decide_eq_false h6
      rw [if_neg (by omega)] at hco
      conv => whnf
      rw [w2]
      refine ⟨y, ⟨by omega, by rw [show ((p : Int) + (i : Int)).toNat = p + i by omega]; exact hx⟩, ?_⟩
      conv => whnf
      refine ⟨(i + 1, r * 64 + y.toNat % 64), ⟨by show 1 ≤ i + 1; omega, by show i + 1 ≤ _; omega, by show r * 64 + y.toNat % 64 < 64 ^ (i + 1); rw [Nat.pow_succ]; omega, f, by show _ ≤ i + 1 + f; omega, hco⟩, by show 4 - (i + 1) < 4 - i; omega, rfl, rfl, rfl, rfl, rfl, rfl, ?_, rfl, ?_, rfl, trivial⟩
      · show C.v (V.int .i64 (IntKind.i64.wrap (IntKind.i64.wrap ((r : Int) * 64) + (IntKind.i64.wrap ((y.toNat : Nat) : Int)).tmod 64))) = C.v (V.int .i64 ((r * 64 + y.toNat % 64 : Nat) : Int))
        rw [hwy, tmod_pos (by omega), w64 (x := (r : Int) * 64) (by omega) (by omega), w64 (by omega) (by omega)]
        rfl
      · show C.v (V.int .i64 (IntKind.i64.wrap ((i : Int) + 1))) = C.v (V.int .i64 ((i + 1 : Nat) : Int))
        rw [w64 (by omega) (by omega)]; rfl
    · have h4 := of_decide_eq_false h4
      have hfin : Gw.RName.contF s p 3 f i r = some r := by
        cases f with
        | zero => rfl
        | succ f => rw [Gw.RName.contF, if_neg (by omega)]
      rw [hco, hfin, show Gw.RName.finO 3 (some r) = Gw.RName.fin 3 r from rfl]
      conv => whnf
      refine AC.of_pc hls rfl ?_
      unfold Gw.RName.fin
      conv => whnf
      refine ⟨fun h5 => ?_, fun h5 => ?_⟩
      · have h5 := of_decide_eq_true h5
        conv => whnf
        rw [if_pos (.inl (by omega))]; rfl
      have h5 := of_decide_eq_false h5
      conv => whnf
      refine ⟨fun h6 => ?_, fun h6 => ?_⟩
      · have h6 := of_decide_eq_true h6
        conv => whnf
        refine ⟨fun h7 => ?_, fun h7 => ?_⟩
        · have h7 := of_decide_eq_true h7
          conv => whnf
          rw [if_pos (.inr (.inl ⟨by omega, by omega⟩))]; rfl
        have h7 := of_decide_eq_false h7
        conv => whnf
        refine ⟨fun h8 => ?_, fun h8 => ?_⟩
        · have h8 := of_decide_eq_true h8
          conv => whnf
          rw [if_pos (.inr (.inr (by omega)))]; rfl
        have h8 := of_decide_eq_false h8
        rw [if_neg (by omega)]
        conv => whnf
      have h6 := of_decide_eq_false h6
      conv => whnf
      refine ⟨fun h8 => ?_, fun h8 => ?_⟩
      · have h8 := of_decide_eq_true h8
        conv => whnf
        rw [if_pos (.inr (.inr (by omega)))]; rfl
      have h8 := of_decide_eq_false h8
      rw [if_neg (by omega)]
      conv => whnf
  have h4 : ¬ (n : Int) = 3 := by simpa using h4
  conv => whnf
  refine ⟨fun h5 => ?_, fun h5 => ?_⟩
  · have h5 : (n : Int) = 4 := by simpa using h5
    obtain rfl : n = 4 := by omega
    conv => whnf
    refine ⟨c, ⟨by omega, hc⟩, ?_⟩
    conv => whnf
    have hfirst : Gw.RName.first c.toNat 4 = c.toNat % 8 := rfl
    rw [hfirst]
    generalize hA : Gw.RName.contF s p 4 4 1 (c.toNat % 8) = ans
    have hls := least_pc 4
    have hr0 : ((c.toNat : Nat) : Int).tmod 8 = ((c.toNat % 8 : Nat) : Int) := by rw [tmod_pos (by omega)]; rfl
    refine AW.loop (X := Nat × Nat) (fun x => [(.tmp 0, .v (.str s)), (.tmp 1, .v (.int .i64 p)), (.tmp 6, .v (.int .i64 (4 : Nat))), (.tmp 7, .v (.int .i64 x.2)), (.tmp 8, .v (.int .i64 x.1))]) 0
      (fun x => 1 ≤ x.1 ∧ x.1 ≤ 4 ∧ x.2 < 64 ^ x.1 ∧ ∃ f, 4 ≤ x.1 + f ∧ ans = Gw.RName.contF s p 4 f x.1 x.2) (fun x => 4 - x.1) (by decide) (1, c.toNat % 8) ⟨Nat.le_refl _, by show 1 ≤ 4; omega, by show c.toNat % 8 < 64; omega, 4, by show 4 ≤ 1 + 4; omega, hA.symm⟩
      ⟨rfl, rfl, rfl, rfl, rfl, rfl, ?_, rfl, rfl, rfl, trivial⟩ ?_
    · show C.v (V.int .i64 ((IntKind.i64.wrap ((c.toNat : Nat) : Int)).tmod 8)) = _
      rw [hwc, hr0]
    rintro ⟨i, r⟩ ⟨hi1, hi2, hr, f, hf, hco⟩
    simp only at hi1 hi2 hr hf hco
    have hrb : r < 16777216 := Nat.lt_of_lt_of_le hr (Nat.pow_le_pow_right (by decide) (by omega : i ≤ 4))
    refine ev_sound tabOk mixed _ _ _ _ ?_
    conv => whnf
    refine ⟨fun h4 => ?_, fun h4 => ?_⟩
    · have h4 := of_decide_eq_true h4
      have w2 : IntKind.i64.wrap ((p : Int) + (i : Int)) = (p : Int) + (i : Int) := w64 (by omega) (by omega)
      have hx : s[p + i]? = some (s.getD (p + i) 0) := by rw [List.getD_eq_getElem?_getD, List.getElem?_eq_getElem (by omega)]; rfl
      obtain ⟨f, rfl⟩ : ∃ g, f = g + 1 := ⟨f - 1, by omega⟩
      rw [Gw.RName.contF, if_pos (by omega)] at hco
      have hxl := (s.getD (p + i) 0).toNat_lt
      generalize s.getD (p + i) 0 = y at hx hxl hco
      have hwy : IntKind.i64.wrap ((y.toNat : Nat) : Int) = (y.toNat : Int) := w64 (by omega) (by omega)
      conv => whnf
      rw [w2]
      refine ⟨y, ⟨by omega, by rw [show ((p : Int) + (i : Int)).toNat = p + i by omega]; exact hx⟩, ?_⟩
      conv => whnf
      refine ⟨fun h5 => ?_, fun h5 => ?_⟩
      · have h5 := of_decide_eq_true h5
        conv => whnf
        rw [if_pos (.inl (by omega))] at hco
        rw [hco]; rfl
      have h5 := of_decide_eq_false h5
      conv => whnf
      rw [w2]
      refine ⟨y, ⟨by omega, by rw [show ((p : Int) + (i : Int)).toNat = p + i by omega]; exact hx⟩, ?_⟩
      conv => whnf
      refine ⟨fun h6 => ?_, fun h6 => ?_⟩
      · have h6 := of_decide_eq_true h6
        conv => whnf
        rw [if_pos (.inr (by omega))] at hco
        rw [hco]; rfl
      have h6 := of_decide_eq_false h6
      rw [if_neg (by omega)] at hco
      conv => whnf
      rw [w2]
      refine ⟨y, ⟨by omega, by rw [show ((p : Int) + (i : Int)).toNat = p + i by omega]; exact hx⟩, ?_⟩
      conv => whnf
      refine ⟨(i + 1, r * 64 + y.toNat % 64), ⟨by show 1 ≤ i + 1; omega, by show i + 1 ≤ _; omega, by show r * 64 + y.toNat % 64 < 64 ^ (i + 1); rw [Nat.pow_succ]; omega, f, by show _ ≤ i + 1 + f; omega, hco⟩, by show 4 - (i + 1) < 4 - i; omega, rfl, rfl, rfl, rfl, rfl, rfl, ?_, rfl, ?_, rfl, trivial⟩
      · show C.v (V.int .i64 (IntKind.i64.wrap (IntKind.i64.wrap ((r : Int) * 64) + (IntKind.i64.wrap ((y.toNat : Nat) : Int)).tmod 64))) = C.v (V.int .i64 ((r * 64 + y.toNat % 64 : Nat) : Int))
        rw [hwy, tmod_pos (by omega), w64 (x := (r : Int) * 64) (by omega) (by omega), w64 (by omega) (by omega)]
        rfl
      · show C.v (V.int .i64 (IntKind.i64.wrap ((i : Int) + 1))) = C.v (V.int .i64 ((i + 1 : Nat) : Int))
        rw [w64 (by omega) (by omega)]; rfl
    · have h4 := of_decide_eq_false h4
      have hfin : Gw.RName.contF s p 4 f i r = some r := by
        cases f with
        | zero => rfl
        | succ f => rw [Gw.RName.contF, if_neg (by omega)]
      rw [hco, hfin, show Gw.RName.finO 4 (some r) = Gw.RName.fin 4 r from rfl]
      conv => whnf
      refine AC.of_pc hls rfl ?_
      unfold Gw.RName.fin
      conv => whnf
      refine ⟨fun h5 => ?_, fun h5 => ?_⟩
      · have h5 := of_decide_eq_true h5
        conv => whnf
        rw [if_pos (.inl (by omega))]; rfl
      have h5 := of_decide_eq_false h5
      conv => whnf
      refine ⟨fun h6 => ?_, fun h6 => ?_⟩
      · have h6 := of_decide_eq_true h6
        conv => whnf
        refine ⟨fun h7 => ?_, fun h7 => ?_⟩
        · have h7 := of_decide_eq_true h7
          conv => whnf
          rw [if_pos (.inr (.inl ⟨by omega, by omega⟩))]; rfl
        have h7 := of_decide_eq_false h7
        conv => whnf
        refine ⟨fun h8 => ?_, fun h8 => ?_⟩
        · have h8 := of_decide_eq_true h8
          conv => whnf
          rw [if_pos (.inr (.inr (by omega)))]; rfl
        have h8 := of_decide_eq_false h8
        rw [if_neg (by omega)]
        conv => whnf
      have h6 := of_decide_eq_false h6
      conv => whnf
      refine ⟨fun h8 => ?_, fun h8 => ?_⟩
      · have h8 := of_decide_eq_true h8
        conv => whnf
        rw [if_pos (.inr (.inr (by omega)))]; rfl
      have h8 := of_decide_eq_false h8
      rw [if_neg (by omega)]
      conv => whnf
  have h5 : ¬ (n : Int) = 4 := by simpa using h5
  obtain rfl : n = 2 := by omega
  conv => whnf
  have hfirst : Gw.RName.first c.toNat 2 = c.toNat % 64 := rfl
  rw [hfirst]
  generalize hA : Gw.RName.contF s p 2 4 1 (c.toNat % 64) = ans
  have hls := least_pc 2
  have hr0 : ((c.toNat : Nat) : Int).tmod 64 = ((c.toNat % 64 : Nat) : Int) := by rw [tmod_pos (by omega)]; rfl
  refine AW.loop (X := Nat × Nat) (fun x => [(.tmp 0, .v (.str s)), (.tmp 1, .v (.int .i64 p)), (.tmp 6, .v (.int .i64 (2 : Nat))), (.tmp 7, .v (.int .i64 x.2)), (.tmp 8, .v (.int .i64 x.1))]) 0
    (fun x => 1 ≤ x.1 ∧ x.1 ≤ 2 ∧ x.2 < 64 ^ x.1 ∧ ∃ f, 2 ≤ x.1 + f ∧ ans = Gw.RName.contF s p 2 f x.1 x.2) (fun x => 4 - x.1) (by decide) (1, c.toNat % 64) ⟨Nat.le_refl _, by show 1 ≤ 2; omega, by show c.toNat % 64 < 64; omega, 4, by show 2 ≤ 1 + 4; omega, hA.symm⟩
    ⟨rfl, rfl, rfl, rfl, rfl, rfl, ?_, rfl, rfl, rfl, trivial⟩ ?_
  · show C.v (V.int .i64 ((IntKind.i64.wrap ((c.toNat : Nat) : Int)).tmod 64)) = _
    rw [hwc, hr0]
  rintro ⟨i, r⟩ ⟨hi1, hi2, hr, f, hf, hco⟩
  simp only at hi1 hi2 hr hf hco
  have hrb : r < 16777216 := Nat.lt_of_lt_of_le hr (Nat.pow_le_pow_right (by decide) (by omega : i ≤ 4))
  refine ev_sound tabOk mixed _ _ _ _ ?_
  conv => whnf
  refine ⟨fun h4 => ?_, fun h4 => ?_⟩
  · have h4 := of_decide_eq_true h4
    have w2 : IntKind.i64.wrap ((p : Int) + (i : Int)) = (p : Int) + (i : Int) := w64 (by omega) (by omega)
    have hx : s[p + i]? = some (s.getD (p + i) 0) := by rw [List.getD_eq_getElem?_getD, List.getElem?_eq_getElem (by omega)]; rfl
    obtain ⟨f, rfl⟩ : ∃ g, f = g + 1 := ⟨f - 1, by omega⟩
    rw [Gw.RName.contF, if_pos (by omega)] at hco
    have hxl := (s.getD (p + i) 0).toNat_lt
    generalize s.getD (p + i) 0 = y at hx hxl hco
    have hwy : IntKind.i64.wrap ((y.toNat : Nat) : Int) = (y.toNat : Int) := w64 (by omega) (by omega)
    conv => whnf
    rw [w2]
    refine ⟨y, ⟨by omega, by rw [show ((p : Int) + (i : Int)).toNat = p + i by omega]; exact hx⟩, ?_⟩
    conv => whnf
    refine ⟨fun h5 => ?_, fun h5 => ?_⟩
    · have h5 := of_decide_eq_true h5
      conv => whnf
      rw [if_pos (.inl (by omega))] at hco
      rw [hco]; rfl
    have h5 := of_decide_eq_false h5
    conv => whnf
    rw [w2]
    refine ⟨y, ⟨by omega, by rw [show ((p : Int) + (i : Int)).toNat = p + i by omega]; exact hx⟩, ?_⟩
    conv => whnf
    refine ⟨fun h6 => ?_, fun h6 => ?_⟩
    · have h6 := of_decide_eq_true h6
      conv => whnf
      rw [if_pos (.inr (by omega))] at hco
      rw [hco]; rfl
    have h6 := of_decide_eq_false h6
    rw [if_neg (by omega)] at hco
    conv => whnf
    rw [w2]
    refine ⟨y, ⟨by omega, by rw [show ((p : Int) + (i : Int)).toNat = p + i by omega]; exact hx⟩, ?_⟩
    conv => whnf
    refine ⟨(i + 1, r * 64 + y.toNat % 64), ⟨by show 1 ≤ i + 1; omega, by show i + 1 ≤ _; omega, by show r * 64 + y.toNat % 64 < 64 ^ (i + 1); rw [Nat.pow_succ]; omega, f, by show _ ≤ i + 1 + f; omega, hco⟩, by show 4 - (i + 1) < 4 - i; omega, rfl, rfl, rfl, rfl, rfl, rfl, ?_, rfl, ?_, rfl, trivial⟩
    · show C.v (V.int .i64 (IntKind.i64.wrap (IntKind.i64.wrap ((r : Int) * 64) + (IntKind.i64.wrap ((y.toNat : Nat) : Int)).tmod 64))) = C.v (V.int .i64 ((r * 64 + y.toNat % 64 : Nat) : Int))
      rw [hwy, tmod_pos (by omega), w64 (x := (r : Int) * 64) (by omega) (by omega), w64 (by omega) (by omega)]
      rfl
    · show C.v (V.int .i64 (IntKind.i64.wrap ((i : Int) + 1))) = C.v (V.int .i64 ((i + 1 : Nat) : Int))
      rw [w64 (by omega) (by omega)]; rfl
  · have h4 := of_decide_eq_false h4
    have hfin : Gw.RName.contF s p 2 f i r = some r := by
      cases f with
      | zero => rfl
      | succ f => rw [Gw.RName.contF, if_neg (by omega)]
    rw [hco, hfin, show Gw.RName.finO 2 (some r) = Gw.RName.fin 2 r from rfl]
    conv => whnf
    refine AC.of_pc hls rfl ?_
    unfold Gw.RName.fin
    conv => whnf
    refine ⟨fun h5 => ?_, fun h5 => ?_⟩
    · have h5 := of_decide_eq_true h5
      conv => whnf
      rw [if_pos (.inl (by omega))]; rfl
    have h5 := of_decide_eq_false h5
    conv => whnf
    refine ⟨fun h6 => ?_, fun h6 => ?_⟩
    · have h6 := of_decide_eq_true h6
      conv => whnf
      refine ⟨fun h7 => ?_, fun h7 => ?_⟩
      · have h7 := of_decide_eq_true h7
        conv => whnf
        rw [if_pos (.inr (.inl ⟨by omega, by omega⟩))]; rfl
      have h7 := of_decide_eq_false h7
      conv => whnf
      refine ⟨fun h8 => ?_, fun h8 => ?_⟩
      · have h8 := of_decide_eq_true h8
        conv => whnf
        rw [if_pos (.inr (.inr (by omega)))]; rfl
      have h8 := of_decide_eq_false h8
      rw [if_neg (by omega)]
      conv => whnf
    have h6 := of_decide_eq_false h6
    conv => whnf
    refine ⟨fun h8 => ?_, fun h8 => ?_⟩
    · have h8 := of_decide_eq_true h8
      conv => whnf
      rw [if_pos (.inr (.inr (by omega)))]; rfl
    have h8 := of_decide_eq_false h8
    rw [if_neg (by omega)]
    conv => whnf

def rallV (o : Option (List Int)) : V := match o with
  | none => .tup [.lst true 1 [] .none, .bool false]
  | some l => .tup [.lst (decide (l = [])) 1 (encI l) .none, .bool true]
theorem encI_len (l : List Int) : (encI l).length = l.length := by simp [encI]
theorem rall_pc (s : List UInt8) (hs : s.length ≤ 1048576) : PC Tryd.prog 54 [.str s] (rallV (Gw.RName.all s)) := by
  refine PC.of tabOk mixed (fn := Tryd.f54) (by kernel_rfl) rfl (by kernel_rfl) rfl rfl ?_
  conv => whnf
  refine AW.row 4 3 1 rfl rfl (.inr rfl) ?_
  refine AW.loop (X := Nat × List Int) (fun x => [(.tmp 0, .v (.str s)), (.tmp 4, .v (.lst (decide (x.2 = [])) 1 (encI x.2) (.row 4))), (.tmp 5, .v (.int .i64 x.1)), (.row 4, .row 3 1 x.2.length)]) 5
    (fun x => x.1 ≤ s.length + 4 ∧ x.2.length ≤ x.1 ∧ ∃ f, s.length < f + x.1 ∧ Gw.RName.all s = Gw.RName.allF s f x.1 x.2) (fun x => s.length - x.1) (by decide) (0, []) ⟨by omega, Nat.le_refl _, s.length + 1, by omega, rfl⟩
    ⟨rfl, rfl, rfl, rfl, rfl, rfl, rfl, rfl, trivial⟩ ?_
  rintro ⟨p, acc⟩ ⟨h1, h2, f, hf, hr⟩
  simp only at h1 h2 hf hr
  have hal := encI_len acc
  refine ev_sound tabOk mixed _ _ _ _ ?_
  conv => whnf
  refine ⟨fun h => ?_, fun h => ?_⟩
  · have h : p < s.length := by have := of_decide_eq_true h; omega
    obtain ⟨f, rfl⟩ : ∃ g, f = g + 1 := ⟨f - 1, by omega⟩
    rw [Gw.RName.allF, if_pos h] at hr
    have htk := rtakeRune_pc s p h hs
    have hle : (Gw.RName.take s p).2 ≤ 4 := by
      unfold Gw.RName.take
      have := Gw.RName.size_le (s.getD p 0).toNat
      split
      · simp
      · split
        · simp
        · generalize Gw.RName.contF _ _ _ _ _ _ = o
          cases o with
          | none => simp [Gw.RName.finO]
          | some r => simp only [Gw.RName.finO, Gw.RName.fin]; split; (exact Nat.zero_le _); (exact this)
    generalize Gw.RName.take s p = rn at htk hr hle
    obtain ⟨r, n⟩ := rn
    simp only at htk hr hle
    conv => whnf
    refine AC.of_pc htk rfl ?_
    conv => whnf
    refine ⟨fun h3 => ?_, fun h3 => ?_⟩
    · have h3 : (n : Int) = 0 := by simpa using h3
      rw [if_pos (by omega)] at hr
      rw [hr]
      conv => whnf
      rfl
    · have h3 : ¬ (n : Int) = 0 := by simpa using h3
      rw [if_neg (by omega)] at hr
      conv => whnf
      refine ⟨⟨hal.symm, fits_small (by show (encI acc).length + 1 ≤ _; omega) (by decide)⟩, ?_⟩
      conv => whnf
      refine ⟨(p + n, acc ++ [(r : Int)]), ⟨by show p + n ≤ _; omega, by show (acc ++ [_]).length ≤ p + n; rw [List.length_append, List.length_singleton]; omega, f, by show _ < f + (p + n); omega, hr⟩, by show s.length - (p + n) < s.length - p; omega, rfl, rfl, ?_, rfl, ?_, rfl, ?_, rfl, trivial⟩
      · show C.v (V.lst (decide (acc = []) && false) 1 (encI acc ++ [[V.int .i64 (r : Int)]]) _) = C.v (V.lst (decide (acc ++ [(r : Int)] = [])) 1 (encI (acc ++ [(r : Int)])) _)
        rw [Bool.and_false, decide_eq_false (by simp), encI, encI, List.map_append]
        rfl
      · show C.v (V.int .i64 (IntKind.i64.wrap ((p : Int) + (n : Int)))) = C.v (V.int .i64 ((p + n : Nat) : Int))
        rw [w64 (by omega) (by omega)]; rfl
      · show C.row _ 1 ((encI acc).length + 1) = C.row _ 1 (acc ++ [_]).length
        rw [hal, List.length_append]
        rfl
  · have h : ¬ p < s.length := by have := of_decide_eq_false h; omega
    have e : Gw.RName.allF s f p acc = some acc := by
      cases f with
      | zero => rfl
      | succ f => rw [Gw.RName.allF, if_neg h]
    rw [e] at hr
    rw [hr]
    conv => whnf
    rfl

theorem rnameCheck_pc (s : List UInt8) (hs : s.length ≤ 1048576) (hlen : ∀ l, Gw.RName.all s = some l → l.length ≤ 1048576) : PC Tryd.prog 50 [.str s] (.bool (Gw.RName.check s)) := by
  have h1 := rall_pc s hs
  cases ho : Gw.RName.all s with
  | none =>
    have e : Gw.RName.check s = false := by unfold Gw.RName.check; rw [ho]
    rw [ho] at h1
    rw [e]
    refine PC.of tabOk mixed (fn := Tryd.f50) (by kernel_rfl) rfl (by kernel_rfl) rfl rfl ?_
    conv => whnf
    refine AC.of_pc h1 rfl ?_
    conv => whnf
    refine ⟨fun _ => ?_, fun h => absurd h (by decide)⟩
    conv => whnf
  | some l =>
    have hl := hlen l ho
    have hel := encI_len l
    have e : Gw.RName.check s = Gw.Name.okL s l := by unfold Gw.RName.check; rw [ho]
    rw [ho] at h1
    rw [e]
    unfold Gw.Name.okL
    refine PC.of tabOk mixed (fn := Tryd.f50) (by kernel_rfl) rfl (by kernel_rfl) rfl rfl ?_
    conv => whnf
    refine AC.of_pc h1 rfl ?_
    conv => whnf
    refine ⟨fun h => absurd h (by decide), fun _ => ?_⟩
    conv => whnf
    refine ⟨fun h2 => ?_, fun h2 => ?_⟩
    · have h2 := of_decide_eq_true h2
      conv => whnf
      rw [decide_eq_true (by omega : l.length < 1)]; rfl
    have h2 := of_decide_eq_false h2
    rw [decide_eq_false (by omega : ¬ l.length < 1)]
    conv => whnf
    refine ⟨fun h3 => ?_, fun h3 => ?_⟩
    · have h3 := of_decide_eq_true h3
      conv => whnf
      rw [decide_eq_true (by omega : 20 < l.length)]; rfl
    have h3 := of_decide_eq_false h3
    rw [decide_eq_false (by omega : ¬ 20 < l.length)]
    conv => whnf
    refine ⟨fun h4 => ?_, fun h4 => ?_⟩
    · have h4 : s = [46] := of_decide_eq_true h4
      conv => whnf
      rw [decide_eq_true h4]; rfl
    have h4 : ¬ s = [46] := of_decide_eq_false h4
    rw [decide_eq_false h4]
    conv => whnf
    refine ⟨fun h5 => ?_, fun h5 => ?_⟩
    · have h5 : s = [46, 46] := of_decide_eq_true h5
      conv => whnf
      rw [decide_eq_true h5]; rfl
    have h5 : ¬ s = [46, 46] := of_decide_eq_false h5
    rw [decide_eq_false h5]
    conv => whnf
    refine AW.loop (fun k : Nat => [(.tmp 3, .v (.lst (decide (l = [])) 1 (encI l) .none)), (.tmp 5, .v (.int .i64 k))]) 0
      (fun k => k ≤ l.length ∧ (l.take k).any Gw.Name.barred = false) (fun k => l.length - k) (by decide) 0 ⟨Nat.zero_le _, rfl⟩ ⟨rfl, rfl, rfl, rfl, trivial⟩ ?_
    rintro k ⟨hk, hno⟩
    refine ev_sound tabOk mixed _ _ _ _ ?_
    conv => whnf
    refine ⟨fun h => ?_, fun h => ?_⟩
    · have h := of_decide_eq_true h
      rw [hel] at h
      have hlt : k < l.length := by omega
      have hx : (encI l)[k]? = some [.int .i64 l[k]] := by unfold encI; rw [List.getElem?_map, List.getElem?_eq_getElem hlt]; rfl
      have htk : l.take (k + 1) = l.take k ++ [l[k]] := List.take_succ_eq_append_getElem hlt
      have hyes : Gw.Name.barred l[k] = true → l.any Gw.Name.barred = true := fun h => List.any_eq_true.2 ⟨_, List.getElem_mem hlt, h⟩
      generalize l[k] = y at hx htk hyes
      conv => whnf
      refine ⟨_, ⟨by omega, hx⟩, ?_⟩
      conv => whnf
      refine ⟨fun q1 => ?_, fun q1 => ?_⟩
      · conv => whnf
        rw [hyes (by unfold Gw.Name.barred; rw [q1]; rfl)]; rfl
      conv => whnf
      refine ⟨_, ⟨by omega, hx⟩, ?_⟩
      conv => whnf
      refine ⟨fun q2 => ?_, fun q2 => ?_⟩
      · have q2 : y = 47 := by simpa using q2
        conv => whnf
        rw [hyes (by rw [q2]; decide)]; rfl
      have q2 : ¬ y = 47 := by simpa using q2
      conv => whnf
      refine ⟨_, ⟨by omega, hx⟩, ?_⟩
      conv => whnf
      refine ⟨fun q3 => ?_, fun q3 => ?_⟩
      · have q3 : y = 127 := by simpa using q3
        conv => whnf
        rw [hyes (by rw [q3]; decide)]; rfl
      have q3 : ¬ y = 127 := by simpa using q3
      conv => whnf
      refine ⟨k + 1, ⟨by omega, ?_⟩, by show _ - (k + 1) < _ - k; omega, rfl, rfl, ?_, rfl, trivial⟩
      · rw [htk, List.any_append, hno]
        simp only [List.any_cons, List.any_nil, Bool.or_false, Bool.false_or]
        unfold Gw.Name.barred
        rw [q1, decide_eq_false q2, decide_eq_false q3]; rfl
      · show C.v (V.int .i64 (IntKind.i64.wrap ((k : Int) + 1))) = _
        rw [w64 (by omega) (by omega)]; rfl
    · have h := of_decide_eq_false h
      rw [hel] at h
      obtain rfl : k = l.length := by omega
      rw [List.take_length] at hno
      rw [hno]
      conv => whnf
      rfl
end Go.Proofs.YtfmhkfijnflalaaDoor
