/- What rec.whole computes: told without addresses. No claim of its own. -/
import Derived.Test.YtkempcjemeipnaaDoorARec1
namespace Go.Proofs.YtkempcjemeipnaaDoor
open Go.Am

theorem whole_pc (s : List UInt8) (m : Nat) (hs : s.length ≤ 1048576) : PC Tryd.prog 27 [.str s, .int .u8 m] (.str (Gw.Rec.whole s m)) := by
  refine PC.of tabOk mixed (fn := Tryd.f27) (by kernel_rfl) rfl (by kernel_rfl) rfl rfl ?_
  conv => whnf
  refine AC.of tabOk mixed (fn := Tryd.f37) (by kernel_rfl) rfl (by kernel_rfl) rfl rfl ?_
  conv => whnf
  refine AW.rowC 2 5 1 rfl ?_
  refine AW.range [(2, .ptr 0 0), (5, .ptr 2 0), (6, .ptr 3 0)] ⟨rfl, rfl, rfl, rfl, rfl, rfl, trivial⟩ rfl rfl ?_
  refine AC.of tabOk mixed (fn := Tryd.f45) (by kernel_rfl) rfl (by kernel_rfl) rfl rfl ?_
  conv => whnf
  refine AW.loop (X := Nat × List UInt8 × Nat) (fun x => [(.tmp 0, .v (.yield 13)), (.tmp 1, .v (.ptr 7 0)), (.tmp 2, .v (.ptr 8 0)), (.tmp 4, .v (.int .i64 (16 * x.1 : Nat))), (.blk 0, .box 9 [.str s]),
    (.blk 2, .box 35 [.lst (decide (x.1 = 0)) 1 (bytesL x.2.1) (.brow 12)]), (.row 12, .row 5 1 (14 * x.1)), (.blk 3, .box 3 [.int .i64 (x.2.2 : Nat)]), (.blk 7, .box 9 [.str s]), (.blk 8, .box 5 [.int .u8 m]),
    (.blk 13, .loop .ready none 55 [(2, .ptr 0 0), (5, .ptr 2 0), (6, .ptr 3 0)] [14] (rangeAt Tryd.f27 0).1 (rangeAt Tryd.f27 0).2)]) 14
    (fun x => x.1 ≤ s.length ∧ x.2.1.length = 14 * x.1 ∧ x.2.2 ≤ 2097152 ∧ ∃ f, s.length < f + x.1 ∧ Gw.Rec.whole s m = Gw.Rec.wholeE (Gw.Rec.wholeF s m f x.1 x.2.1 x.2.2)) (fun x => s.length - x.1) (by decide) (0, [], 0) ⟨Nat.zero_le _, rfl, by decide, s.length + 1, by omega, rfl⟩ ?_ ?_
  · exact ⟨rfl, rfl, rfl, rfl, rfl, rfl, rfl, rfl, rfl, rfl, rfl, rfl, rfl, rfl, rfl, rfl, rfl, rfl, rfl, rfl, rfl, rfl, trivial⟩
  rintro ⟨k, b, need⟩ ⟨hk, hb, hnd, f, hf, hw⟩
  simp only at hk hb hnd hf hw
  refine ev_sound tabOk mixed _ _ _ _ ?_
  have e0 : IntKind.i64.wrap (((16 * k : Nat) : Int) + 16) = ((16 * k + 16 : Nat) : Int) := by rw [w64 (by omega) (by omega)]; rfl
  conv => whnf
  rw [e0]
  have eapp : C.box 35 [V.lst (decide (k = 0) && false) 1 (bytesL b ++ bytesL (((Gw.Rec.sect s k).take 15).drop 1)) (.brow 12)] = C.box 35 [V.lst (decide (k + 1 = 0)) 1 (bytesL (b ++ ((Gw.Rec.sect s k).take 15).drop 1)) (.brow 12)] := by
    rw [Bool.and_false, decide_eq_false (Nat.succ_ne_zero k), bytesL, bytesL, bytesL, List.map_append]
  have e16 : ((16 * k + 16 : Nat) : Int) = ((16 * (k + 1) : Nat) : Int) := by omega
  have eapp : C.box 35 [V.lst (decide (k = 0) && false) 1 (bytesL b ++ bytesL (((Gw.Rec.sect s k).take 15).drop 1)) (.brow 12)] = C.box 35 [V.lst (decide (k + 1 = 0)) 1 (bytesL (b ++ ((Gw.Rec.sect s k).take 15).drop 1)) (.brow 12)] := by
    rw [Bool.and_false, decide_eq_false (Nat.succ_ne_zero k), bytesL, bytesL, bytesL, List.map_append]
  have e16 : ((16 * k + 16 : Nat) : Int) = ((16 * (k + 1) : Nat) : Int) := by omega
  have eapp : C.box 35 [V.lst (decide (k = 0) && false) 1 (bytesL b ++ bytesL (((Gw.Rec.sect s k).take 15).drop 1)) (.brow 12)] = C.box 35 [V.lst (decide (k + 1 = 0)) 1 (bytesL (b ++ ((Gw.Rec.sect s k).take 15).drop 1)) (.brow 12)] := by
    rw [Bool.and_false, decide_eq_false (Nat.succ_ne_zero k), bytesL, bytesL, bytesL, List.map_append]
  have e16 : ((16 * k + 16 : Nat) : Int) = ((16 * (k + 1) : Nat) : Int) := by omega
  have eapp : C.box 35 [V.lst (decide (k = 0) && false) 1 (bytesL b ++ bytesL (((Gw.Rec.sect s k).take 15).drop 1)) (.brow 12)] = C.box 35 [V.lst (decide (k + 1 = 0)) 1 (bytesL (b ++ ((Gw.Rec.sect s k).take 15).drop 1)) (.brow 12)] := by
    rw [Bool.and_false, decide_eq_false (Nat.succ_ne_zero k), bytesL, bytesL, bytesL, List.map_append]
  have e16 : ((16 * k + 16 : Nat) : Int) = ((16 * (k + 1) : Nat) : Int) := by omega
  have eapp : C.box 35 [V.lst (decide (k = 0) && false) 1 (bytesL b ++ bytesL (((Gw.Rec.sect s k).take 15).drop 1)) (.brow 12)] = C.box 35 [V.lst (decide (k + 1 = 0)) 1 (bytesL (b ++ ((Gw.Rec.sect s k).take 15).drop 1)) (.brow 12)] := by
    rw [Bool.and_false, decide_eq_false (Nat.succ_ne_zero k), bytesL, bytesL, bytesL, List.map_append]
  have e16 : ((16 * k + 16 : Nat) : Int) = ((16 * (k + 1) : Nat) : Int) := by omega
  have eapp : C.box 35 [V.lst (decide (k = 0) && false) 1 (bytesL b ++ bytesL (((Gw.Rec.sect s k).take 15).drop 1)) (.brow 12)] = C.box 35 [V.lst (decide (k + 1 = 0)) 1 (bytesL (b ++ ((Gw.Rec.sect s k).take 15).drop 1)) (.brow 12)] := by
    rw [Bool.and_false, decide_eq_false (Nat.succ_ne_zero k), bytesL, bytesL, bytesL, List.map_append]
  have e16 : ((16 * k + 16 : Nat) : Int) = ((16 * (k + 1) : Nat) : Int) := by omega
  have eapp : C.box 35 [V.lst (decide (k = 0) && false) 1 (bytesL b ++ bytesL (((Gw.Rec.sect s k).take 15).drop 1)) (.brow 12)] = C.box 35 [V.lst (decide (k + 1 = 0)) 1 (bytesL (b ++ ((Gw.Rec.sect s k).take 15).drop 1)) (.brow 12)] := by
    rw [Bool.and_false, decide_eq_false (Nat.succ_ne_zero k), bytesL, bytesL, bytesL, List.map_append]
  have e16 : ((16 * k + 16 : Nat) : Int) = ((16 * (k + 1) : Nat) : Int) := by omega
  have eapp : C.box 35 [V.lst (decide (k = 0) && false) 1 (bytesL b ++ bytesL (((Gw.Rec.sect s k).take 15).drop 1)) (.brow 12)] = C.box 35 [V.lst (decide (k + 1 = 0)) 1 (bytesL (b ++ ((Gw.Rec.sect s k).take 15).drop 1)) (.brow 12)] := by
    rw [Bool.and_false, decide_eq_false (Nat.succ_ne_zero k), bytesL, bytesL, bytesL, List.map_append]
  have e16 : ((16 * k + 16 : Nat) : Int) = ((16 * (k + 1) : Nat) : Int) := by omega
  have eapp : C.box 35 [V.lst (decide (k = 0) && false) 1 (bytesL b ++ bytesL (((Gw.Rec.sect s k).take 15).drop 1)) (.brow 12)] = C.box 35 [V.lst (decide (k + 1 = 0)) 1 (bytesL (b ++ ((Gw.Rec.sect s k).take 15).drop 1)) (.brow 12)] := by
    rw [Bool.and_false, decide_eq_false (Nat.succ_ne_zero k), bytesL, bytesL, bytesL, List.map_append]
  have e16 : ((16 * k + 16 : Nat) : Int) = ((16 * (k + 1) : Nat) : Int) := by omega
  have eapp : C.box 35 [V.lst (decide (k = 0) && false) 1 (bytesL b ++ bytesL (((Gw.Rec.sect s k).take 15).drop 1)) (.brow 12)] = C.box 35 [V.lst (decide (k + 1 = 0)) 1 (bytesL (b ++ ((Gw.Rec.sect s k).take 15).drop 1)) (.brow 12)] := by
    rw [Bool.and_false, decide_eq_false (Nat.succ_ne_zero k), bytesL, bytesL, bytesL, List.map_append]
  have e16 : ((16 * k + 16 : Nat) : Int) = ((16 * (k + 1) : Nat) : Int) := by omega
  have eapp : C.box 35 [V.lst (decide (k = 0) && false) 1 (bytesL b ++ bytesL (((Gw.Rec.sect s k).take 15).drop 1)) (.brow 12)] = C.box 35 [V.lst (decide (k + 1 = 0)) 1 (bytesL (b ++ ((Gw.Rec.sect s k).take 15).drop 1)) (.brow 12)] := by
    rw [Bool.and_false, decide_eq_false (Nat.succ_ne_zero k), bytesL, bytesL, bytesL, List.map_append]
  have e16 : ((16 * k + 16 : Nat) : Int) = ((16 * (k + 1) : Nat) : Int) := by omega
  have e16 : ((16 * k + 16 : Nat) : Int) = ((16 * (k + 1) : Nat) : Int) := by omega
  have e16 : ((16 * k + 16 : Nat) : Int) = ((16 * (k + 1) : Nat) : Int) := by omega
  by_cases hfit : 16 * k + 16 ≤ s.length
  · have hts : decide (((16 * k + 16 : Nat) : Int) ≤ (s.length : Int)) = true := decide_eq_true (by omega)
    obtain ⟨f, rfl⟩ : ∃ g, f = g + 1 := ⟨f - 1, by omega⟩
    rw [Gw.Rec.wholeF, if_pos hfit] at hw
    have hsl := Gw.Rec.sect_len hfit
    have hil := Gw.Rec.inn_len hsl
    have e1 := e0
    refine ⟨fun _ => ?_, fun h => absurd (hts.symm.trans h) (by decide)⟩
    conv => whnf
    rw [e0]
    refine ⟨⟨by omega, by omega, by omega⟩, ?_⟩
    rw [Int.toNat_natCast, Int.toNat_natCast]
    rw [show (s.take (16 * k + 16)).drop (16 * k) = Gw.Rec.sect s k from rfl]
    unfold Gw.Rec.inn at hw hil
    generalize Gw.Rec.sect s k = c at *
    have g0 : c[(0 : Int).toNat]? = some (c.getD 0 0) := by rw [List.getD_eq_getElem?_getD, show (0 : Int).toNat = 0 from rfl, List.getElem?_eq_getElem (by omega)]; rfl
    have g15 : c[(15 : Int).toNat]? = some (c.getD 15 0) := by rw [List.getD_eq_getElem?_getD, show (15 : Int).toNat = 15 from rfl, List.getElem?_eq_getElem (by omega)]; rfl
    generalize c.getD 0 0 = c0 at *
    generalize c.getD 15 0 = c15 at *
    conv => whnf
    refine ⟨c0, ?_⟩
    conv => whnf
    refine ⟨⟨by decide, g0⟩, ?_⟩
    conv => whnf
    refine ⟨fun q0 => ?_, fun q0 => ?_⟩
    · have q0 : c0.toNat ≠ m := by
        have q : (((c0.toNat : Nat) : Int) != ((m : Nat) : Int)) = true := q0
        intro e; rw [e] at q; simp at q
      rw [if_pos (.inl q0)] at hw
      conv => whnf
      repeat (first | refine ⟨fun _ => ?_, fun h => absurd h (by decide)⟩ | refine ⟨fun h => absurd h (by decide), fun _ => ?_⟩ | refine ⟨by kernel_rfl, ?_⟩
              (conv => whnf))
      rw [hw]
      unfold Gw.Rec.wholeE
      by_cases hz : need = 0
      · rw [if_pos (.inl hz)]
        have ht : (((need : Nat) : Int) == 0) = true := by rw [hz]; rfl
        refine ⟨fun _ => ?_, fun h => absurd (ht.symm.trans h) (by decide)⟩
        conv => whnf
      · have ht : (((need : Nat) : Int) == 0) = false := by simp; omega
        refine ⟨fun h => absurd (ht.symm.trans h) (by decide), fun _ => ?_⟩
        conv => whnf
        refine ⟨fun q => ?_, fun q => ?_⟩
        · have q := of_decide_eq_true (show decide ((((bytesL b).length : Nat) : Int) < ((need : Nat) : Int)) = true from q)
          rw [bytesL_len] at q
          rw [if_pos (.inr (by simp only; omega))]
          conv => whnf
        · have q := of_decide_eq_false (show decide ((((bytesL b).length : Nat) : Int) < ((need : Nat) : Int)) = false from q)
          rw [bytesL_len] at q
          rw [if_neg (fun h => h.elim hz (by simp only; omega))]
          conv => whnf
          refine ⟨b, ?_⟩
          conv => whnf
          refine ⟨⟨.inl rfl, rfl⟩, ?_⟩
          conv => whnf
    have q0 : c0.toNat = m := by
      have q : (((c0.toNat : Nat) : Int) != ((m : Nat) : Int)) = false := q0
      have q : ((c0.toNat : Nat) : Int) = ((m : Nat) : Int) := by simpa using q
      omega
    conv => whnf
    refine ⟨c15, ?_⟩
    conv => whnf
    refine ⟨⟨by decide, g15⟩, ?_⟩
    conv => whnf
    refine ⟨fun q1 => ?_, fun q1 => ?_⟩
    · have q1 : c15.toNat ≠ m := by
        have q : (((c15.toNat : Nat) : Int) != ((m : Nat) : Int)) = true := q1
        intro e; rw [e] at q; simp at q
      rw [if_pos (.inr q1)] at hw
      conv => whnf
      repeat (first | refine ⟨fun _ => ?_, fun h => absurd h (by decide)⟩ | refine ⟨fun h => absurd h (by decide), fun _ => ?_⟩ | refine ⟨by kernel_rfl, ?_⟩
              (conv => whnf))
      rw [hw]
      unfold Gw.Rec.wholeE
      by_cases hz : need = 0
      · rw [if_pos (.inl hz)]
        have ht : (((need : Nat) : Int) == 0) = true := by rw [hz]; rfl
        refine ⟨fun _ => ?_, fun h => absurd (ht.symm.trans h) (by decide)⟩
        conv => whnf
      · have ht : (((need : Nat) : Int) == 0) = false := by simp; omega
        refine ⟨fun h => absurd (ht.symm.trans h) (by decide), fun _ => ?_⟩
        conv => whnf
        refine ⟨fun q => ?_, fun q => ?_⟩
        · have q := of_decide_eq_true (show decide ((((bytesL b).length : Nat) : Int) < ((need : Nat) : Int)) = true from q)
          rw [bytesL_len] at q
          rw [if_pos (.inr (by simp only; omega))]
          conv => whnf
        · have q := of_decide_eq_false (show decide ((((bytesL b).length : Nat) : Int) < ((need : Nat) : Int)) = false from q)
          rw [bytesL_len] at q
          rw [if_neg (fun h => h.elim hz (by simp only; omega))]
          conv => whnf
          refine ⟨b, ?_⟩
          conv => whnf
          refine ⟨⟨.inl rfl, rfl⟩, ?_⟩
          conv => whnf
    have q1 : c15.toNat = m := by
      have q : (((c15.toNat : Nat) : Int) != ((m : Nat) : Int)) = false := q1
      have q : ((c15.toNat : Nat) : Int) = ((m : Nat) : Int) := by simpa using q
      omega
    rw [if_neg (fun h => h.elim (fun h => h q0) (fun h => h q1))] at hw
    conv => whnf
    refine ⟨⟨by decide, by decide, by show 15 ≤ c.length; omega⟩, ?_⟩
    rw [show (15 : Int).toNat = 15 from rfl, show (1 : Int).toNat = 1 from rfl]
    have htk := vtake_pc ((c.take 15).drop 1) (by omega)
    have hbl := bytesL_len b
    rw [hb] at hbl
    conv => whnf
    refine ⟨by kernel_rfl, by kernel_rfl, ?_⟩
    refine AY.of tabOk mixed rfl rfl rfl (fun l => ?_)
    conv => whnf
    refine ⟨⟨hbl.symm, fits_small (by show (bytesL b).length + (((c.take 15).drop 1).map fun c => [V.int .u8 c.toNat]).length ≤ _; rw [hbl, List.length_map, hil]; omega) (by decide)⟩, ?_⟩
    conv => whnf
    have hsp : ((c.take 15).drop 1).length = 14 := hil
    have hB : (b ++ (c.take 15).drop 1).length = 14 * k + 14 := by rw [List.length_append, hb, hsp]
    refine ⟨fun hn0 => ?_, fun hn0 => ?_⟩
    · obtain rfl : need = 0 := by
        have q : (((need : Nat) : Int) == 0) = true := hn0
        simpa using q
      conv => whnf
      rcases htk0 : Gw.Vlq.take ((c.take 15).drop 1) with _ | ⟨n, u⟩
      · rw [show tookV ((c.take 15).drop 1) = .tup [.int .i64 0, .str [], .int .i64 40] from by unfold tookV; rw [htk0]] at htk
        refine AC.of_pc htk rfl ?_
        conv => whnf
        repeat (first | refine ⟨fun _ => ?_, fun h => absurd h (by decide)⟩ | refine ⟨fun h => absurd h (by decide), fun _ => ?_⟩ | refine ⟨by kernel_rfl, ?_⟩
                (conv => whnf))
        have hst : Gw.Rec.wStep s (b ++ (c.take 15).drop 1) ((c.take 15).drop 1) 0 = (true, 0) := by unfold Gw.Rec.wStep; rw [htk0]; rfl
        rw [hst, if_pos rfl] at hw
        have hz : (0 : Nat) = 0 := rfl
        rw [hw]
        unfold Gw.Rec.wholeE
        rw [if_pos (.inl rfl)]
        refine ⟨fun _ => ?_, fun h => absurd (show true = false from h) (by decide)⟩
        conv => whnf
      · have hu := Gw.Vlq.take_le _ htk0
        rw [hsp] at hu
        rw [show tookV ((c.take 15).drop 1) = .tup [.int .i64 (n : Int), .str (((c.take 15).drop 1).drop u), .int .i64 0] from by unfold tookV; rw [htk0]] at htk
        have e5 : IntKind.i64.wrap ((((c.take 15).drop 1).length : Int) - ((((c.take 15).drop 1).drop u).length : Int)) = (u : Int) := by rw [List.length_drop (i := u), hsp, w64 (by omega) (by omega)]; omega
        refine AC.of_pc htk rfl ?_
        conv => whnf
        repeat (first | refine ⟨fun _ => ?_, fun h => absurd h (by decide)⟩ | refine ⟨fun h => absurd h (by decide), fun _ => ?_⟩ | refine ⟨by kernel_rfl, ?_⟩
                (conv => whnf))
        refine ⟨fun h5 => ?_, fun h5 => ?_⟩
        · have h5 := of_decide_eq_true h5
          have hst : Gw.Rec.wStep s (b ++ (c.take 15).drop 1) ((c.take 15).drop 1) 0 = (true, 0) := by
            unfold Gw.Rec.wStep; rw [htk0, if_pos rfl]; simp only; rw [if_pos (by omega)]
          rw [hst, if_pos rfl] at hw
          have hz : (0 : Nat) = 0 := rfl
          conv => whnf
          repeat (first | refine ⟨fun _ => ?_, fun h => absurd h (by decide)⟩ | refine ⟨fun h => absurd h (by decide), fun _ => ?_⟩ | refine ⟨by kernel_rfl, ?_⟩
                  (conv => whnf))
          rw [hw]
          unfold Gw.Rec.wholeE
          rw [if_pos (.inl rfl)]
          refine ⟨fun _ => ?_, fun h => absurd (show true = false from h) (by decide)⟩
          conv => whnf
        · have h5 := of_decide_eq_false h5
          have e6 : IntKind.i64.wrap (IntKind.i64.wrap ((((c.take 15).drop 1).length : Int) - ((((c.take 15).drop 1).drop u).length : Int)) + (n : Int)) = ((u + n : Nat) : Int) := by rw [e5, w64 (by omega) (by omega)]; rfl
          have hst : Gw.Rec.wStep s (b ++ (c.take 15).drop 1) ((c.take 15).drop 1) 0 = (decide (u + n ≤ 14 * k + 14), u + n) := by
            unfold Gw.Rec.wStep; rw [htk0, if_pos rfl]; simp only; rw [if_neg (by omega), hB]
          rw [hst] at hw
          conv => whnf
          try rw [e6]
          have hlb : (bytesL b ++ ((c.take 15).drop 1).map fun c => [V.int .u8 c.toNat]).length = 14 * k + 14 := by rw [List.length_append, hbl, List.length_map, hsp]
          have hem : (((c.take 15).drop 1).map fun c : UInt8 => [V.int .u8 (c.toNat : Int)]).isEmpty = false := by
            rw [Bool.eq_false_iff]
            intro h
            have h := congrArg List.length (List.isEmpty_iff.1 h)
            rw [List.length_map, hsp] at h
            exact absurd h (by decide)
          have eapp : C.box 35 [V.lst (decide (k = 0) && (((c.take 15).drop 1).map fun c : UInt8 => [V.int .u8 (c.toNat : Int)]).isEmpty) 1 (bytesL b ++ (((c.take 15).drop 1).map fun c : UInt8 => [V.int .u8 (c.toNat : Int)])) (.brow 12)] = C.box 35 [V.lst (decide (k + 1 = 0)) 1 (bytesL (b ++ (c.take 15).drop 1)) (.brow 12)] := by
            rw [hem, Bool.and_false, decide_eq_false (Nat.succ_ne_zero k), bytesL, bytesL, List.map_append]
          have erow : C.row 5 1 ((bytesL b).length + (((c.take 15).drop 1).map fun c => [V.int .u8 c.toNat]).length) = C.row 5 1 (14 * (k + 1)) := by rw [hbl, List.length_map, hsp, Nat.mul_succ]
          refine ⟨fun h6 => ?_, fun h6 => ?_⟩
          · have h6 : (u + n) ≤ 14 * k + 14 := by
              have q : decide ((((u + n) : Nat) : Int) ≤ (((bytesL b ++ ((c.take 15).drop 1).map fun c => [V.int .u8 c.toNat]).length : Nat) : Int)) = true := h6
              rw [hlb] at q
              have q := of_decide_eq_true q
              omega
            rw [decide_eq_true h6, if_pos rfl] at hw
            conv => whnf
            repeat (first | refine ⟨fun _ => ?_, fun h => absurd h (by decide)⟩ | refine ⟨fun h => absurd h (by decide), fun _ => ?_⟩ | refine ⟨by kernel_rfl, ?_⟩
                    (conv => whnf))
            have hz : u + n ≠ 0 := by omega
            rw [hw]
            unfold Gw.Rec.wholeE
            have ht : ((((u + n) : Nat) : Int) == 0) = false := by simp; omega
            refine ⟨fun h => absurd (ht.symm.trans h) (by decide), fun _ => ?_⟩
            conv => whnf
            refine ⟨fun q => ?_, fun q => ?_⟩
            · have q := of_decide_eq_true (show decide ((((bytesL b ++ ((c.take 15).drop 1).map fun c => [V.int .u8 c.toNat]).length : Nat) : Int) < (((u + n) : Nat) : Int)) = true from q)
              rw [hlb] at q
              rw [if_pos (.inr (by simp only; rw [hB]; omega))]
              conv => whnf
            · have q := of_decide_eq_false (show decide ((((bytesL b ++ ((c.take 15).drop 1).map fun c => [V.int .u8 c.toNat]).length : Nat) : Int) < (((u + n) : Nat) : Int)) = false from q)
              rw [hlb] at q
              rw [if_neg (fun h => h.elim hz (by simp only; rw [hB]; omega))]
              conv => whnf
              refine ⟨(b ++ (c.take 15).drop 1), ?_⟩
              conv => whnf
              refine ⟨⟨.inl rfl, (List.map_append (f := fun c : UInt8 => [V.int .u8 c.toNat])).symm⟩, ?_⟩
              conv => whnf
          · have h6 : ¬ (u + n) ≤ 14 * k + 14 := by
              have q : decide ((((u + n) : Nat) : Int) ≤ (((bytesL b ++ ((c.take 15).drop 1).map fun c => [V.int .u8 c.toNat]).length : Nat) : Int)) = false := h6
              rw [hlb] at q
              have q := of_decide_eq_false q
              omega
            rw [decide_eq_false h6, if_neg Bool.false_ne_true] at hw
            conv => whnf
            repeat (first | refine ⟨fun _ => ?_, fun h => absurd h (by decide)⟩ | refine ⟨fun h => absurd h (by decide), fun _ => ?_⟩ | refine ⟨by kernel_rfl, ?_⟩
                    (conv => whnf))
            exact ⟨(k + 1, b ++ (c.take 15).drop 1, (u + n)), ⟨by simp only; omega, by simp only [List.length_append]; omega, by simp only; omega, f, by simp only; omega, hw⟩, by show _ - (k + 1) < _ - k; omega, rfl, rfl, rfl, rfl, rfl, rfl, by rw [← e16]; exact congrArg _ (congrArg _ e1), rfl, rfl, rfl, eapp, rfl, erow, rfl, rfl, rfl, rfl, rfl, rfl, rfl, rfl, rfl, trivial⟩
    · have hnz : need ≠ 0 := by
        have q : (((need : Nat) : Int) == 0) = false := hn0
        intro e; rw [e] at q; exact absurd q (by decide)
      have e6 : True := trivial
      have hst : Gw.Rec.wStep s (b ++ (c.take 15).drop 1) ((c.take 15).drop 1) need = (decide (need ≤ 14 * k + 14), need) := by
        unfold Gw.Rec.wStep; rw [if_neg hnz, hB]
      rw [hst] at hw
      conv => whnf
      have hlb : (bytesL b ++ ((c.take 15).drop 1).map fun c => [V.int .u8 c.toNat]).length = 14 * k + 14 := by rw [List.length_append, hbl, List.length_map, hsp]
      have hem : (((c.take 15).drop 1).map fun c : UInt8 => [V.int .u8 (c.toNat : Int)]).isEmpty = false := by
        rw [Bool.eq_false_iff]
        intro h
        have h := congrArg List.length (List.isEmpty_iff.1 h)
        rw [List.length_map, hsp] at h
        exact absurd h (by decide)
      have eapp : C.box 35 [V.lst (decide (k = 0) && (((c.take 15).drop 1).map fun c : UInt8 => [V.int .u8 (c.toNat : Int)]).isEmpty) 1 (bytesL b ++ (((c.take 15).drop 1).map fun c : UInt8 => [V.int .u8 (c.toNat : Int)])) (.brow 12)] = C.box 35 [V.lst (decide (k + 1 = 0)) 1 (bytesL (b ++ (c.take 15).drop 1)) (.brow 12)] := by
        rw [hem, Bool.and_false, decide_eq_false (Nat.succ_ne_zero k), bytesL, bytesL, List.map_append]
      have erow : C.row 5 1 ((bytesL b).length + (((c.take 15).drop 1).map fun c => [V.int .u8 c.toNat]).length) = C.row 5 1 (14 * (k + 1)) := by rw [hbl, List.length_map, hsp, Nat.mul_succ]
      refine ⟨fun h6 => ?_, fun h6 => ?_⟩
      · have h6 : need ≤ 14 * k + 14 := by
          have q : decide (((need : Nat) : Int) ≤ (((bytesL b ++ ((c.take 15).drop 1).map fun c => [V.int .u8 c.toNat]).length : Nat) : Int)) = true := h6
          rw [hlb] at q
          have q := of_decide_eq_true q
          omega
        rw [decide_eq_true h6, if_pos rfl] at hw
        conv => whnf
        repeat (first | refine ⟨fun _ => ?_, fun h => absurd h (by decide)⟩ | refine ⟨fun h => absurd h (by decide), fun _ => ?_⟩ | refine ⟨by kernel_rfl, ?_⟩
                (conv => whnf))
        rw [hw]
        unfold Gw.Rec.wholeE
        by_cases hz : need = 0
        · rw [if_pos (.inl hz)]
          have ht : (((need : Nat) : Int) == 0) = true := by rw [hz]; rfl
          refine ⟨fun _ => ?_, fun h => absurd (ht.symm.trans h) (by decide)⟩
          conv => whnf
        · have ht : (((need : Nat) : Int) == 0) = false := by simp; omega
          refine ⟨fun h => absurd (ht.symm.trans h) (by decide), fun _ => ?_⟩
          conv => whnf
          refine ⟨fun q => ?_, fun q => ?_⟩
          · have q := of_decide_eq_true (show decide ((((bytesL b ++ ((c.take 15).drop 1).map fun c => [V.int .u8 c.toNat]).length : Nat) : Int) < ((need : Nat) : Int)) = true from q)
            rw [hlb] at q
            rw [if_pos (.inr (by simp only; rw [hB]; omega))]
            conv => whnf
          · have q := of_decide_eq_false (show decide ((((bytesL b ++ ((c.take 15).drop 1).map fun c => [V.int .u8 c.toNat]).length : Nat) : Int) < ((need : Nat) : Int)) = false from q)
            rw [hlb] at q
            rw [if_neg (fun h => h.elim hz (by simp only; rw [hB]; omega))]
            conv => whnf
            refine ⟨(b ++ (c.take 15).drop 1), ?_⟩
            conv => whnf
            refine ⟨⟨.inl rfl, (List.map_append (f := fun c : UInt8 => [V.int .u8 c.toNat])).symm⟩, ?_⟩
            conv => whnf
      · have h6 : ¬ need ≤ 14 * k + 14 := by
          have q : decide (((need : Nat) : Int) ≤ (((bytesL b ++ ((c.take 15).drop 1).map fun c => [V.int .u8 c.toNat]).length : Nat) : Int)) = false := h6
          rw [hlb] at q
          have q := of_decide_eq_false q
          omega
        rw [decide_eq_false h6, if_neg Bool.false_ne_true] at hw
        conv => whnf
        repeat (first | refine ⟨fun _ => ?_, fun h => absurd h (by decide)⟩ | refine ⟨fun h => absurd h (by decide), fun _ => ?_⟩ | refine ⟨by kernel_rfl, ?_⟩
                (conv => whnf))
        exact ⟨(k + 1, b ++ (c.take 15).drop 1, need), ⟨by simp only; omega, by simp only [List.length_append]; omega, by simp only; omega, f, by simp only; omega, hw⟩, by show _ - (k + 1) < _ - k; omega, rfl, rfl, rfl, rfl, rfl, rfl, by rw [← e16]; exact congrArg _ (congrArg _ e1), rfl, rfl, rfl, eapp, rfl, erow, rfl, rfl, rfl, rfl, rfl, rfl, rfl, rfl, rfl, trivial⟩
  · have hts : decide (((16 * k + 16 : Nat) : Int) ≤ (s.length : Int)) = false := decide_eq_false (by omega)
    obtain ⟨f, rfl⟩ : ∃ g, f = g + 1 := ⟨f - 1, by omega⟩
    rw [Gw.Rec.wholeF, if_neg hfit] at hw
    refine ⟨fun h => absurd (hts.symm.trans h) (by decide), fun _ => ?_⟩
    conv => whnf
    repeat (first | refine ⟨fun _ => ?_, fun h => absurd h (by decide)⟩ | refine ⟨fun h => absurd h (by decide), fun _ => ?_⟩ | refine ⟨by kernel_rfl, ?_⟩
            (conv => whnf))
    rw [hw]
    unfold Gw.Rec.wholeE
    by_cases hz : need = 0
    · rw [if_pos (.inl hz)]
      have ht : (((need : Nat) : Int) == 0) = true := by rw [hz]; rfl
      refine ⟨fun _ => ?_, fun h => absurd (ht.symm.trans h) (by decide)⟩
      conv => whnf
    · have ht : (((need : Nat) : Int) == 0) = false := by simp; omega
      refine ⟨fun h => absurd (ht.symm.trans h) (by decide), fun _ => ?_⟩
      conv => whnf
      refine ⟨fun q => ?_, fun q => ?_⟩
      · have q := of_decide_eq_true (show decide ((((bytesL b).length : Nat) : Int) < ((need : Nat) : Int)) = true from q)
        rw [bytesL_len] at q
        rw [if_pos (.inr (by simp only; omega))]
        conv => whnf
      · have q := of_decide_eq_false (show decide ((((bytesL b).length : Nat) : Int) < ((need : Nat) : Int)) = false from q)
        rw [bytesL_len] at q
        rw [if_neg (fun h => h.elim hz (by simp only; omega))]
        conv => whnf
        refine ⟨b, ?_⟩
        conv => whnf
        refine ⟨⟨.inl rfl, rfl⟩, ?_⟩
        conv => whnf
end Go.Proofs.YtkempcjemeipnaaDoor
