/- What the law of torn records computes: told without addresses. No claim of its own. -/
import Derived.Test.YtkempcjemeipnaaDoorARec8
namespace Go.Proofs.YtkempcjemeipnaaDoor
open Go.Am

def tvB (w : Bool) : V := match w with
  | true => .tt
  | false => .ff
/-- What is known of a record's bytes behind some tears: none yet, or a first one. -/
def TornB (S b : List UInt8) (w : Bool) (i : Nat) : Prop := b.length = S.length ∧ (w = true → b = S) ∧ (w = false → ∃ i0, i0 < i ∧ 16 * i0 + 16 ≤ S.length ∧ b.getD (16 * i0 + 15) 0 = 0 ∧ b.take (16 * i0) = S.take (16 * i0))
theorem torn_pc (p : List UInt8) (n : Nat) (picks : List UInt8) (hn : n ≤ 65535) : PC Tryd.prog 5 [.str p, .int .u16 n, .str picks] (.bool true) := by
  have e1 := from_wrap hn
  refine PC.of tabOk mixed (fn := Tryd.f5) (by kernel_rfl) rfl (by kernel_rfl) rfl rfl ?_
  conv => whnf
  refine AC.of_pc awake_pc rfl ?_
  conv => whnf
  refine ⟨fun h1 => ?_, fun h1 => ?_⟩
  · conv => whnf
    try rfl
  have h1 : p.length ≤ 300 := by have := of_decide_eq_false h1; omega
  have hm := may_from hn h1
  have c1 := pack_from hn h1
  have hsm := packed_small (n := n + 1) (p := p) (by omega) h1
  have hpl := Gw.Rec.packed_len (n + 1) p
  rw [← e1] at c1
  conv => whnf
  refine AC.of_pc c1 rfl ?_
  conv => whnf
  have hlen : (Gw.Rec.packed ((n + 1 : Nat) : Int).toNat p).length = 16 * Gw.Rec.many (Gw.Rec.bytes (n + 1) p) := by rw [Int.toNat_natCast]; exact hpl
  have fin0 := fun b i h1 h2 h3 => Gw.Rec.take_torn hm (b := b) (i := i) h1 h2 h3
  have t0 := Gw.Rec.take_pack hm []
  rw [List.append_nil] at t0
  rw [Int.toNat_natCast] at fin0 t0 hlen
  rw [e1]
  generalize Gw.Rec.many (Gw.Rec.bytes (n + 1) p) = M at *
  generalize Gw.Rec.packed (n + 1) p = S at *
  clear c1 e1 hpl
  refine AW.loop (X := Nat × List UInt8 × Bool) (fun x => [(.tmp 0, .v (.str p)), (.tmp 2, .v (.str picks)), (.tmp 7, .v (.bool true)), (.tmp 8, .v (.int .i64 ((n + 1 : Nat) : Int))), (.tmp 9, .v (.str S)), (.tmp 10, .v (.int .i64 0)),
    (.tmp 11, .v (.own 17 0 1 S.length true)), (.tmp 12, .v (tvB x.2.2)), (.tmp 13, .v (.int .i64 (x.1 : Nat))), (.blk 17, .mem 5 (bytesV x.2.1))]) 18
    (fun x => 16 * x.1 ≤ S.length ∧ TornB S x.2.1 x.2.2 x.1) (fun x => S.length - x.1) (by decide) (0, S, true) ⟨Nat.zero_le _, rfl, fun _ => rfl, fun h => by cases h⟩ ⟨rfl, rfl, rfl, rfl, rfl, rfl, rfl, rfl, rfl, rfl, rfl, rfl, rfl, rfl, rfl, rfl, rfl, rfl, rfl, rfl, trivial⟩ ?_
  rintro ⟨i, b, w⟩ ⟨hi, hT⟩
  simp only at hi hT
  have e7 : IntKind.i64.wrap (16 * (i : Int)) = ((16 * i : Nat) : Int) := by rw [w64 (by omega) (by omega)]; omega
  have e8 : IntKind.i64.wrap (((16 * i : Nat) : Int) + 16) = ((16 * i + 16 : Nat) : Int) := by rw [w64 (by omega) (by omega)]; omega
  refine ev_sound tabOk mixed _ _ _ _ ?_
  conv => whnf
  rw [e7, e8]
  refine ⟨fun h => ?_, fun h => ?_⟩
  · have h : 16 * i + 16 ≤ S.length := by have := of_decide_eq_true h; omega
    conv => whnf
    refine ⟨fun h2 => ?_, fun h2 => ?_⟩
    · have h2 : i < picks.length := by have := of_decide_eq_true h2; omega
      obtain ⟨x, hx⟩ : ∃ x, picks[((i : Nat) : Int).toNat]? = some x := ⟨_, by rw [Int.toNat_natCast]; exact List.getElem?_eq_getElem h2⟩
      have e3 : (((x.toNat : Nat) : Int)).tmod 3 = ((x.toNat % 3 : Nat) : Int) := tmodN _ 3
      have hr : x.toNat % 3 = 0 ∨ x.toNat % 3 = 1 ∨ x.toNat % 3 = 2 := by omega
      rcases hr with hr | hr | hr
      · have q0 : ((((x.toNat : Nat) : Int)).tmod 3 == 0) = true := by rw [e3, hr]; rfl
        have q2 : ((((x.toNat : Nat) : Int)).tmod 3 == 2) = false := by rw [e3, hr]; rfl
        conv => whnf
        refine ⟨x, ?_⟩
        conv => whnf
        refine ⟨⟨by omega, hx⟩, ?_⟩
        conv => whnf
        refine ⟨fun _ => ?_, fun h => absurd (q0.symm.trans h) (by decide)⟩
        conv => whnf
        refine ⟨x, ?_⟩
        conv => whnf
        refine ⟨⟨by omega, hx⟩, ?_⟩
        conv => whnf
        refine ⟨fun h => absurd (q2.symm.trans h) (by decide), fun _ => ?_⟩
        conv => whnf
        refine AW.loop (X := Nat × List UInt8 × Bool) (fun x => [(.tmp 0, .v (.str p)), (.tmp 2, .v (.str picks)), (.tmp 7, .v (.bool true)), (.tmp 8, .v (.int .i64 ((n + 1 : Nat) : Int))), (.tmp 9, .v (.str S)), (.tmp 10, .v (.int .i64 0)),
          (.tmp 11, .v (.own 17 0 1 S.length true)), (.tmp 12, .v (tvB x.2.2)), (.tmp 13, .v (.int .i64 (i : Nat))), (.tmp 15, .v (.int .i64 (x.1 : Nat))), (.blk 17, .mem 5 (bytesV x.2.1))]) 18
          (fun x => 0 ≤ x.1 ∧ x.1 ≤ 16 ∧ x.2.1.length = S.length ∧ x.2.1.take (16 * i) = b.take (16 * i) ∧ (x.1 = 0 → x.2.1 = b ∧ x.2.2 = w) ∧ (0 < x.1 → x.2.2 = false ∧ x.2.1.getD (16 * i + x.1 - 1) 0 = 0)) (fun x => 16 - x.1) (by decide) (0, b, w) ⟨Nat.le_refl _, by simp only; omega, hT.1, rfl, fun _ => ⟨rfl, rfl⟩, fun h => absurd h (by simp)⟩ ⟨rfl, rfl, rfl, rfl, rfl, rfl, rfl, rfl, rfl, rfl, rfl, rfl, rfl, rfl, rfl, by cases w <;> rfl, rfl, rfl, rfl, rfl, rfl, rfl, trivial⟩ ?_
        rintro ⟨k, c, v⟩ ⟨k1, k2, k3, k4, k5, k6⟩
        simp only at k1 k2 k3 k4 k5 k6
        have e9 : IntKind.i64.wrap (((16 * i : Nat) : Int) + (k : Int)) = ((16 * i + k : Nat) : Int) := by rw [w64 (by omega) (by omega)]; omega
        refine ev_sound tabOk mixed _ _ _ _ ?_
        conv => whnf
        refine ⟨fun h4 => ?_, fun h4 => ?_⟩
        · have h4 : k < 16 := by have := of_decide_eq_true h4; omega
          conv => whnf
          rw [e7, e9]
          refine ⟨⟨by omega, by rw [Int.toNat_natCast]; omega⟩, ?_⟩
          rw [Int.toNat_natCast]
          have hbc := bytesV_len c
          refine ⟨by show 0 + (16 * i + k) * 1 + 1 ≤ (bytesV c).length; omega, ?_⟩
          conv => whnf
          have hg : 16 * i + k < c.length → (c.set (16 * i + k) 0).getD (16 * i + (k + 1) - 1) 0 = (0 : UInt8) := fun hj => by
            rw [show 16 * i + (k + 1) - 1 = 16 * i + k by omega, List.getD_eq_getElem?_getD, List.getElem?_set_self hj]; rfl
          have hts : (c.set (16 * i + k) 0).take (16 * i) = c.take (16 * i) := by rw [List.take_set_of_le (by omega)]
          refine ⟨(k + 1, c.set (16 * i + k) 0, false), ⟨by simp only; omega, by simp only; omega, by simp only [List.length_set]; exact k3, hts.trans k4, fun h => absurd h (by simp only; omega), fun _ => ⟨rfl, hg (by omega)⟩⟩, by show 16 - (k + 1) < 16 - k; omega, rfl, rfl, rfl, rfl, rfl, rfl, rfl, rfl, rfl, rfl, rfl, rfl, rfl, rfl, rfl, rfl, rfl, rfl, ?_, rfl, ?_, rfl, trivial⟩
          · show C.v (V.int .i64 (IntKind.i64.wrap ((k : Int) + 1))) = C.v (V.int .i64 ((k + 1 : Nat) : Int))
            rw [w64 (by omega) (by omega)]; rfl
          · show C.mem 5 (List.take (0 + (16 * i + k) * 1) (bytesV c) ++ [.int .u8 0] ++ List.drop (0 + (16 * i + k) * 1 + 1) (bytesV c)) = C.mem 5 (bytesV (c.set (16 * i + k) 0))
            rw [show 0 + (16 * i + k) * 1 = 16 * i + k by omega, bytesV, bytesV, List.map_set, List.set_eq_take_append_cons_drop, if_pos (by rw [List.length_map]; omega), List.append_assoc]
            rfl
        · have h4 : k = 16 := by have := of_decide_eq_false h4; omega
          subst h4
          have hT2 : TornB S c v (i + 1) := by
            by_cases hz : 0 < 16
            · obtain ⟨rfl, k7⟩ := k6 hz
              refine ⟨k3, fun h => (by cases h), fun _ => ?_⟩
              cases w with
              | true =>
                have hb := hT.2.1 rfl
                subst hb
                exact ⟨i, Nat.lt_succ_self _, h, k7, k4⟩
              | false =>
                obtain ⟨i0, q1, q2, q3, q4⟩ := hT.2.2 rfl
                have k8 := congrArg (fun l => l.getD (16 * i0 + 15) (0 : UInt8)) k4
                simp only [List.getD_eq_getElem?_getD, List.getElem?_take] at k8
                rw [if_pos (by omega)] at k8
                have k9 := congrArg (List.take (16 * i0)) k4
                rw [List.take_take, List.take_take, show min (16 * i0) (16 * i) = 16 * i0 by omega] at k9
                refine ⟨i0, by omega, q2, ?_, k9.trans q4⟩
                rw [List.getD_eq_getElem?_getD, k8, if_pos (show 16 * i0 + 15 < 16 * i by omega), ← List.getD_eq_getElem?_getD, q3]
            · obtain ⟨rfl, rfl⟩ := k5 (by omega)
              refine ⟨k3, hT.2.1, fun hv => ?_⟩
              obtain ⟨i0, q1, q2, q3, q4⟩ := hT.2.2 hv
              exact ⟨i0, by omega, q2, q3, q4⟩
          conv => whnf
          refine ⟨(i + 1, c, v), ⟨by simp only; omega, hT2⟩, by show _ - (i + 1) < _ - i; omega, rfl, rfl, rfl, rfl, rfl, rfl, rfl, rfl, rfl, rfl, rfl, rfl, rfl, rfl, rfl, by cases v <;> rfl, ?_, rfl, rfl, rfl, trivial⟩
          show C.v (V.int .i64 (IntKind.i64.wrap ((i : Int) + 1))) = C.v (V.int .i64 ((i + 1 : Nat) : Int))
          rw [w64 (by omega) (by omega)]; rfl
      · have q0 : ((((x.toNat : Nat) : Int)).tmod 3 == 0) = false := by rw [e3, hr]; rfl
        have q2 : ((((x.toNat : Nat) : Int)).tmod 3 == 2) = false := by rw [e3, hr]; rfl
        conv => whnf
        refine ⟨x, ?_⟩
        conv => whnf
        refine ⟨⟨by omega, hx⟩, ?_⟩
        conv => whnf
        refine ⟨fun h => absurd (q0.symm.trans h) (by decide), fun _ => ?_⟩
        conv => whnf
        refine ⟨x, ?_⟩
        conv => whnf
        refine ⟨⟨by omega, hx⟩, ?_⟩
        conv => whnf
        refine ⟨fun h => absurd (q2.symm.trans h) (by decide), fun _ => ?_⟩
        conv => whnf
        refine AW.loop (X := Nat × List UInt8 × Bool) (fun x => [(.tmp 0, .v (.str p)), (.tmp 2, .v (.str picks)), (.tmp 7, .v (.bool true)), (.tmp 8, .v (.int .i64 ((n + 1 : Nat) : Int))), (.tmp 9, .v (.str S)), (.tmp 10, .v (.int .i64 0)),
          (.tmp 11, .v (.own 17 0 1 S.length true)), (.tmp 12, .v (tvB x.2.2)), (.tmp 13, .v (.int .i64 (i : Nat))), (.tmp 15, .v (.int .i64 (x.1 : Nat))), (.blk 17, .mem 5 (bytesV x.2.1))]) 18
          (fun x => 16 ≤ x.1 ∧ x.1 ≤ 16 ∧ x.2.1.length = S.length ∧ x.2.1.take (16 * i) = b.take (16 * i) ∧ (x.1 = 16 → x.2.1 = b ∧ x.2.2 = w) ∧ (16 < x.1 → x.2.2 = false ∧ x.2.1.getD (16 * i + x.1 - 1) 0 = 0)) (fun x => 16 - x.1) (by decide) (16, b, w) ⟨Nat.le_refl _, by simp only; omega, hT.1, rfl, fun _ => ⟨rfl, rfl⟩, fun h => absurd h (by simp)⟩ ⟨rfl, rfl, rfl, rfl, rfl, rfl, rfl, rfl, rfl, rfl, rfl, rfl, rfl, rfl, rfl, by cases w <;> rfl, rfl, rfl, rfl, rfl, rfl, rfl, trivial⟩ ?_
        rintro ⟨k, c, v⟩ ⟨k1, k2, k3, k4, k5, k6⟩
        simp only at k1 k2 k3 k4 k5 k6
        have e9 : IntKind.i64.wrap (((16 * i : Nat) : Int) + (k : Int)) = ((16 * i + k : Nat) : Int) := by rw [w64 (by omega) (by omega)]; omega
        refine ev_sound tabOk mixed _ _ _ _ ?_
        conv => whnf
        refine ⟨fun h4 => ?_, fun h4 => ?_⟩
        · have h4 : k < 16 := by have := of_decide_eq_true h4; omega
          conv => whnf
          rw [e7, e9]
          refine ⟨⟨by omega, by rw [Int.toNat_natCast]; omega⟩, ?_⟩
          rw [Int.toNat_natCast]
          have hbc := bytesV_len c
          refine ⟨by show 0 + (16 * i + k) * 1 + 1 ≤ (bytesV c).length; omega, ?_⟩
          conv => whnf
          have hg : 16 * i + k < c.length → (c.set (16 * i + k) 0).getD (16 * i + (k + 1) - 1) 0 = (0 : UInt8) := fun hj => by
            rw [show 16 * i + (k + 1) - 1 = 16 * i + k by omega, List.getD_eq_getElem?_getD, List.getElem?_set_self hj]; rfl
          have hts : (c.set (16 * i + k) 0).take (16 * i) = c.take (16 * i) := by rw [List.take_set_of_le (by omega)]
          refine ⟨(k + 1, c.set (16 * i + k) 0, false), ⟨by simp only; omega, by simp only; omega, by simp only [List.length_set]; exact k3, hts.trans k4, fun h => absurd h (by simp only; omega), fun _ => ⟨rfl, hg (by omega)⟩⟩, by show 16 - (k + 1) < 16 - k; omega, rfl, rfl, rfl, rfl, rfl, rfl, rfl, rfl, rfl, rfl, rfl, rfl, rfl, rfl, rfl, rfl, rfl, rfl, ?_, rfl, ?_, rfl, trivial⟩
          · show C.v (V.int .i64 (IntKind.i64.wrap ((k : Int) + 1))) = C.v (V.int .i64 ((k + 1 : Nat) : Int))
            rw [w64 (by omega) (by omega)]; rfl
          · show C.mem 5 (List.take (0 + (16 * i + k) * 1) (bytesV c) ++ [.int .u8 0] ++ List.drop (0 + (16 * i + k) * 1 + 1) (bytesV c)) = C.mem 5 (bytesV (c.set (16 * i + k) 0))
            rw [show 0 + (16 * i + k) * 1 = 16 * i + k by omega, bytesV, bytesV, List.map_set, List.set_eq_take_append_cons_drop, if_pos (by rw [List.length_map]; omega), List.append_assoc]
            rfl
        · have h4 : k = 16 := by have := of_decide_eq_false h4; omega
          subst h4
          have hT2 : TornB S c v (i + 1) := by
            by_cases hz : 16 < 16
            · obtain ⟨rfl, k7⟩ := k6 hz
              refine ⟨k3, fun h => (by cases h), fun _ => ?_⟩
              cases w with
              | true =>
                have hb := hT.2.1 rfl
                subst hb
                exact ⟨i, Nat.lt_succ_self _, h, k7, k4⟩
              | false =>
                obtain ⟨i0, q1, q2, q3, q4⟩ := hT.2.2 rfl
                have k8 := congrArg (fun l => l.getD (16 * i0 + 15) (0 : UInt8)) k4
                simp only [List.getD_eq_getElem?_getD, List.getElem?_take] at k8
                rw [if_pos (by omega)] at k8
                have k9 := congrArg (List.take (16 * i0)) k4
                rw [List.take_take, List.take_take, show min (16 * i0) (16 * i) = 16 * i0 by omega] at k9
                refine ⟨i0, by omega, q2, ?_, k9.trans q4⟩
                rw [List.getD_eq_getElem?_getD, k8, if_pos (show 16 * i0 + 15 < 16 * i by omega), ← List.getD_eq_getElem?_getD, q3]
            · obtain ⟨rfl, rfl⟩ := k5 (by omega)
              refine ⟨k3, hT.2.1, fun hv => ?_⟩
              obtain ⟨i0, q1, q2, q3, q4⟩ := hT.2.2 hv
              exact ⟨i0, by omega, q2, q3, q4⟩
          conv => whnf
          refine ⟨(i + 1, c, v), ⟨by simp only; omega, hT2⟩, by show _ - (i + 1) < _ - i; omega, rfl, rfl, rfl, rfl, rfl, rfl, rfl, rfl, rfl, rfl, rfl, rfl, rfl, rfl, rfl, by cases v <;> rfl, ?_, rfl, rfl, rfl, trivial⟩
          show C.v (V.int .i64 (IntKind.i64.wrap ((i : Int) + 1))) = C.v (V.int .i64 ((i + 1 : Nat) : Int))
          rw [w64 (by omega) (by omega)]; rfl
      · have q0 : ((((x.toNat : Nat) : Int)).tmod 3 == 0) = false := by rw [e3, hr]; rfl
        have q2 : ((((x.toNat : Nat) : Int)).tmod 3 == 2) = true := by rw [e3, hr]; rfl
        conv => whnf
        refine ⟨x, ?_⟩
        conv => whnf
        refine ⟨⟨by omega, hx⟩, ?_⟩
        conv => whnf
        refine ⟨fun h => absurd (q0.symm.trans h) (by decide), fun _ => ?_⟩
        conv => whnf
        refine ⟨x, ?_⟩
        conv => whnf
        refine ⟨⟨by omega, hx⟩, ?_⟩
        conv => whnf
        refine ⟨fun _ => ?_, fun h => absurd (q2.symm.trans h) (by decide)⟩
        conv => whnf
        refine AW.loop (X := Nat × List UInt8 × Bool) (fun x => [(.tmp 0, .v (.str p)), (.tmp 2, .v (.str picks)), (.tmp 7, .v (.bool true)), (.tmp 8, .v (.int .i64 ((n + 1 : Nat) : Int))), (.tmp 9, .v (.str S)), (.tmp 10, .v (.int .i64 0)),
          (.tmp 11, .v (.own 17 0 1 S.length true)), (.tmp 12, .v (tvB x.2.2)), (.tmp 13, .v (.int .i64 (i : Nat))), (.tmp 15, .v (.int .i64 (x.1 : Nat))), (.blk 17, .mem 5 (bytesV x.2.1))]) 18
          (fun x => 8 ≤ x.1 ∧ x.1 ≤ 16 ∧ x.2.1.length = S.length ∧ x.2.1.take (16 * i) = b.take (16 * i) ∧ (x.1 = 8 → x.2.1 = b ∧ x.2.2 = w) ∧ (8 < x.1 → x.2.2 = false ∧ x.2.1.getD (16 * i + x.1 - 1) 0 = 0)) (fun x => 16 - x.1) (by decide) (8, b, w) ⟨Nat.le_refl _, by simp only; omega, hT.1, rfl, fun _ => ⟨rfl, rfl⟩, fun h => absurd h (by simp)⟩ ⟨rfl, rfl, rfl, rfl, rfl, rfl, rfl, rfl, rfl, rfl, rfl, rfl, rfl, rfl, rfl, by cases w <;> rfl, rfl, rfl, rfl, rfl, rfl, rfl, trivial⟩ ?_
        rintro ⟨k, c, v⟩ ⟨k1, k2, k3, k4, k5, k6⟩
        simp only at k1 k2 k3 k4 k5 k6
        have e9 : IntKind.i64.wrap (((16 * i : Nat) : Int) + (k : Int)) = ((16 * i + k : Nat) : Int) := by rw [w64 (by omega) (by omega)]; omega
        refine ev_sound tabOk mixed _ _ _ _ ?_
        conv => whnf
        refine ⟨fun h4 => ?_, fun h4 => ?_⟩
        · have h4 : k < 16 := by have := of_decide_eq_true h4; omega
          conv => whnf
          rw [e7, e9]
          refine ⟨⟨by omega, by rw [Int.toNat_natCast]; omega⟩, ?_⟩
          rw [Int.toNat_natCast]
          have hbc := bytesV_len c
          refine ⟨by show 0 + (16 * i + k) * 1 + 1 ≤ (bytesV c).length; omega, ?_⟩
          conv => whnf
          have hg : 16 * i + k < c.length → (c.set (16 * i + k) 0).getD (16 * i + (k + 1) - 1) 0 = (0 : UInt8) := fun hj => by
            rw [show 16 * i + (k + 1) - 1 = 16 * i + k by omega, List.getD_eq_getElem?_getD, List.getElem?_set_self hj]; rfl
          have hts : (c.set (16 * i + k) 0).take (16 * i) = c.take (16 * i) := by rw [List.take_set_of_le (by omega)]
          refine ⟨(k + 1, c.set (16 * i + k) 0, false), ⟨by simp only; omega, by simp only; omega, by simp only [List.length_set]; exact k3, hts.trans k4, fun h => absurd h (by simp only; omega), fun _ => ⟨rfl, hg (by omega)⟩⟩, by show 16 - (k + 1) < 16 - k; omega, rfl, rfl, rfl, rfl, rfl, rfl, rfl, rfl, rfl, rfl, rfl, rfl, rfl, rfl, rfl, rfl, rfl, rfl, ?_, rfl, ?_, rfl, trivial⟩
          · show C.v (V.int .i64 (IntKind.i64.wrap ((k : Int) + 1))) = C.v (V.int .i64 ((k + 1 : Nat) : Int))
            rw [w64 (by omega) (by omega)]; rfl
          · show C.mem 5 (List.take (0 + (16 * i + k) * 1) (bytesV c) ++ [.int .u8 0] ++ List.drop (0 + (16 * i + k) * 1 + 1) (bytesV c)) = C.mem 5 (bytesV (c.set (16 * i + k) 0))
            rw [show 0 + (16 * i + k) * 1 = 16 * i + k by omega, bytesV, bytesV, List.map_set, List.set_eq_take_append_cons_drop, if_pos (by rw [List.length_map]; omega), List.append_assoc]
            rfl
        · have h4 : k = 16 := by have := of_decide_eq_false h4; omega
          subst h4
          have hT2 : TornB S c v (i + 1) := by
            by_cases hz : 8 < 16
            · obtain ⟨rfl, k7⟩ := k6 hz
              refine ⟨k3, fun h => (by cases h), fun _ => ?_⟩
              cases w with
              | true =>
                have hb := hT.2.1 rfl
                subst hb
                exact ⟨i, Nat.lt_succ_self _, h, k7, k4⟩
              | false =>
                obtain ⟨i0, q1, q2, q3, q4⟩ := hT.2.2 rfl
                have k8 := congrArg (fun l => l.getD (16 * i0 + 15) (0 : UInt8)) k4
                simp only [List.getD_eq_getElem?_getD, List.getElem?_take] at k8
                rw [if_pos (by omega)] at k8
                have k9 := congrArg (List.take (16 * i0)) k4
                rw [List.take_take, List.take_take, show min (16 * i0) (16 * i) = 16 * i0 by omega] at k9
                refine ⟨i0, by omega, q2, ?_, k9.trans q4⟩
                rw [List.getD_eq_getElem?_getD, k8, if_pos (show 16 * i0 + 15 < 16 * i by omega), ← List.getD_eq_getElem?_getD, q3]
            · obtain ⟨rfl, rfl⟩ := k5 (by omega)
              refine ⟨k3, hT.2.1, fun hv => ?_⟩
              obtain ⟨i0, q1, q2, q3, q4⟩ := hT.2.2 hv
              exact ⟨i0, by omega, q2, q3, q4⟩
          conv => whnf
          refine ⟨(i + 1, c, v), ⟨by simp only; omega, hT2⟩, by show _ - (i + 1) < _ - i; omega, rfl, rfl, rfl, rfl, rfl, rfl, rfl, rfl, rfl, rfl, rfl, rfl, rfl, rfl, rfl, by cases v <;> rfl, ?_, rfl, rfl, rfl, trivial⟩
          show C.v (V.int .i64 (IntKind.i64.wrap ((i : Int) + 1))) = C.v (V.int .i64 ((i + 1 : Nat) : Int))
          rw [w64 (by omega) (by omega)]; rfl
    · have hbl := hT.1
      have ct := recTake_pc b ((n + 1 : Nat) : Int) (by omega)
      have ca := recAll_pc b ((n + 1 : Nat) : Int) (by omega)
      cases w with
      | true =>
        obtain rfl : S = b := (hT.2.1 rfl).symm
        have ta : Gw.Rec.all S ((n + 1 : Nat) : Int) = ([p], M) := Gw.Rec.all_of (.cons t0 (.nil (by rw [List.drop_of_length_le (by omega)]; exact Gw.Rec.take_nil _)))
        rw [ta] at ca
        rw [t0] at ct
        have em : IntKind.i64.wrap (16 * (M : Int)) = ((16 * M : Nat) : Int) := by rw [w64 (by omega) (by omega)]; omega
        have hs2 : (IntKind.i64.wrap (16 * (M : Int)) == (S.length : Int)) = true := by rw [em, hlen]; simp
        conv => whnf
        refine ⟨S, ?_⟩
        conv => whnf
        refine ⟨⟨by show 0 + S.length ≤ (bytesV S).length; rw [bytesV_len]; omega, by show List.take S.length (List.drop 0 (bytesV S)) = _; rw [List.drop_zero, List.take_of_length_le (by rw [bytesV_len]; omega)]⟩, ?_⟩
        conv => whnf
        refine AC.of_pc ct rfl ?_
        conv => whnf
        refine ⟨S, ?_⟩
        conv => whnf
        refine ⟨⟨by show 0 + S.length ≤ (bytesV S).length; rw [bytesV_len]; omega, by show List.take S.length (List.drop 0 (bytesV S)) = _; rw [List.drop_zero, List.take_of_length_le (by rw [bytesV_len]; omega)]⟩, ?_⟩
        conv => whnf
        refine AC.of_pc ca rfl ?_
        conv => whnf
        repeat (first | refine ⟨fun _ => ?_, fun h => absurd h (by decide)⟩ | refine ⟨fun h => absurd h (by decide), fun _ => ?_⟩ | refine ⟨fun _ => ?_, fun h => absurd (show true = false from h) (by decide)⟩ | refine ⟨fun h => absurd (show false = true from h) (by decide), fun _ => ?_⟩
                (conv => whnf))
        refine ⟨fun _ => ?_, fun h => absurd h (by simp)⟩
        conv => whnf
        repeat (first | refine ⟨fun _ => ?_, fun h => absurd h (by decide)⟩ | refine ⟨fun h => absurd h (by decide), fun _ => ?_⟩ | refine ⟨fun _ => ?_, fun h => absurd (show true = false from h) (by decide)⟩ | refine ⟨fun h => absurd (show false = true from h) (by decide), fun _ => ?_⟩
                (conv => whnf))
        refine ⟨fun _ => ?_, fun h => absurd (hs2.symm.trans h) (by decide)⟩
        conv => whnf
        repeat (first | refine ⟨fun _ => ?_, fun h => absurd h (by decide)⟩ | refine ⟨fun h => absurd h (by decide), fun _ => ?_⟩ | refine ⟨fun _ => ?_, fun h => absurd (show true = false from h) (by decide)⟩ | refine ⟨fun h => absurd (show false = true from h) (by decide), fun _ => ?_⟩
                (conv => whnf))
        rw [beq_self_eq_true]
      | false =>
        obtain ⟨i0, q1, q2, q3, q4⟩ := hT.2.2 rfl
        have tn := fin0 b i0 (by omega) q3 q4
        have ta : Gw.Rec.all b ((n + 1 : Nat) : Int) = ([], 0) := Gw.Rec.all_of (.nil tn)
        rw [ta] at ca
        rw [tn] at ct
        conv => whnf
        refine ⟨b, ?_⟩
        conv => whnf
        refine ⟨⟨by show 0 + S.length ≤ (bytesV b).length; rw [bytesV_len]; omega, by show List.take S.length (List.drop 0 (bytesV b)) = _; rw [List.drop_zero, List.take_of_length_le (by rw [bytesV_len]; omega)]⟩, ?_⟩
        conv => whnf
        refine AC.of_pc ct rfl ?_
        conv => whnf
        refine ⟨b, ?_⟩
        conv => whnf
        refine ⟨⟨by show 0 + S.length ≤ (bytesV b).length; rw [bytesV_len]; omega, by show List.take S.length (List.drop 0 (bytesV b)) = _; rw [List.drop_zero, List.take_of_length_le (by rw [bytesV_len]; omega)]⟩, ?_⟩
        conv => whnf
        refine AC.of_pc ca rfl ?_
        conv => whnf
        repeat (first | refine ⟨fun _ => ?_, fun h => absurd h (by decide)⟩ | refine ⟨fun h => absurd h (by decide), fun _ => ?_⟩ | refine ⟨fun _ => ?_, fun h => absurd (show true = false from h) (by decide)⟩ | refine ⟨fun h => absurd (show false = true from h) (by decide), fun _ => ?_⟩
                (conv => whnf))
        rfl
  · have hbl := hT.1
    have ct := recTake_pc b ((n + 1 : Nat) : Int) (by omega)
    have ca := recAll_pc b ((n + 1 : Nat) : Int) (by omega)
    cases w with
    | true =>
      obtain rfl : S = b := (hT.2.1 rfl).symm
      have ta : Gw.Rec.all S ((n + 1 : Nat) : Int) = ([p], M) := Gw.Rec.all_of (.cons t0 (.nil (by rw [List.drop_of_length_le (by omega)]; exact Gw.Rec.take_nil _)))
      rw [ta] at ca
      rw [t0] at ct
      have em : IntKind.i64.wrap (16 * (M : Int)) = ((16 * M : Nat) : Int) := by rw [w64 (by omega) (by omega)]; omega
      have hs2 : (IntKind.i64.wrap (16 * (M : Int)) == (S.length : Int)) = true := by rw [em, hlen]; simp
      conv => whnf
      refine ⟨S, ?_⟩
      conv => whnf
      refine ⟨⟨by show 0 + S.length ≤ (bytesV S).length; rw [bytesV_len]; omega, by show List.take S.length (List.drop 0 (bytesV S)) = _; rw [List.drop_zero, List.take_of_length_le (by rw [bytesV_len]; omega)]⟩, ?_⟩
      conv => whnf
      refine AC.of_pc ct rfl ?_
      conv => whnf
      refine ⟨S, ?_⟩
      conv => whnf
      refine ⟨⟨by show 0 + S.length ≤ (bytesV S).length; rw [bytesV_len]; omega, by show List.take S.length (List.drop 0 (bytesV S)) = _; rw [List.drop_zero, List.take_of_length_le (by rw [bytesV_len]; omega)]⟩, ?_⟩
      conv => whnf
      refine AC.of_pc ca rfl ?_
      conv => whnf
      repeat (first | refine ⟨fun _ => ?_, fun h => absurd h (by decide)⟩ | refine ⟨fun h => absurd h (by decide), fun _ => ?_⟩ | refine ⟨fun _ => ?_, fun h => absurd (show true = false from h) (by decide)⟩ | refine ⟨fun h => absurd (show false = true from h) (by decide), fun _ => ?_⟩
              (conv => whnf))
      refine ⟨fun _ => ?_, fun h => absurd h (by simp)⟩
      conv => whnf
      repeat (first | refine ⟨fun _ => ?_, fun h => absurd h (by decide)⟩ | refine ⟨fun h => absurd h (by decide), fun _ => ?_⟩ | refine ⟨fun _ => ?_, fun h => absurd (show true = false from h) (by decide)⟩ | refine ⟨fun h => absurd (show false = true from h) (by decide), fun _ => ?_⟩
              (conv => whnf))
      refine ⟨fun _ => ?_, fun h => absurd (hs2.symm.trans h) (by decide)⟩
      conv => whnf
      repeat (first | refine ⟨fun _ => ?_, fun h => absurd h (by decide)⟩ | refine ⟨fun h => absurd h (by decide), fun _ => ?_⟩ | refine ⟨fun _ => ?_, fun h => absurd (show true = false from h) (by decide)⟩ | refine ⟨fun h => absurd (show false = true from h) (by decide), fun _ => ?_⟩
              (conv => whnf))
      rw [beq_self_eq_true]
    | false =>
      obtain ⟨i0, q1, q2, q3, q4⟩ := hT.2.2 rfl
      have tn := fin0 b i0 (by omega) q3 q4
      have ta : Gw.Rec.all b ((n + 1 : Nat) : Int) = ([], 0) := Gw.Rec.all_of (.nil tn)
      rw [ta] at ca
      rw [tn] at ct
      conv => whnf
      refine ⟨b, ?_⟩
      conv => whnf
      refine ⟨⟨by show 0 + S.length ≤ (bytesV b).length; rw [bytesV_len]; omega, by show List.take S.length (List.drop 0 (bytesV b)) = _; rw [List.drop_zero, List.take_of_length_le (by rw [bytesV_len]; omega)]⟩, ?_⟩
      conv => whnf
      refine AC.of_pc ct rfl ?_
      conv => whnf
      refine ⟨b, ?_⟩
      conv => whnf
      refine ⟨⟨by show 0 + S.length ≤ (bytesV b).length; rw [bytesV_len]; omega, by show List.take S.length (List.drop 0 (bytesV b)) = _; rw [List.drop_zero, List.take_of_length_le (by rw [bytesV_len]; omega)]⟩, ?_⟩
      conv => whnf
      refine AC.of_pc ca rfl ?_
      conv => whnf
      repeat (first | refine ⟨fun _ => ?_, fun h => absurd h (by decide)⟩ | refine ⟨fun h => absurd h (by decide), fun _ => ?_⟩ | refine ⟨fun _ => ?_, fun h => absurd (show true = false from h) (by decide)⟩ | refine ⟨fun h => absurd (show false = true from h) (by decide), fun _ => ?_⟩
              (conv => whnf))
      rfl
end Go.Proofs.YtkempcjemeipnaaDoor
