/- The walks of the reference of the package vlq (gunwaleref04): Take, TakeText. -/
import Derived.Test.YtjhblbipjljojaaDoorVlqRefN
namespace Gw.Vlq
def refF (W : List UInt8) : Nat → Nat → List UInt8 → Option (Nat × Nat)
  | _, _, [] => none
  | n, i, c :: l => if 9 ≤ i then none else if 128 ≤ c.toNat then refF W (n * 128 + c.toNat % 128) (i + 1) l else if one (n * 128 + c.toNat) = W.take (i + 1) then some (n * 128 + c.toNat, i + 1) else none
theorem refF_more (W : List UInt8) (n i : Nat) (c : UInt8) (l : List UInt8) (hi : i < 9) (hc : 128 ≤ c.toNat) : refF W n i (c :: l) = refF W (n * 128 + c.toNat % 128) (i + 1) l := by
  conv => lhs; unfold refF
  rw [if_neg (by omega), if_pos hc]
theorem refF_last (W : List UInt8) (n i : Nat) (c : UInt8) (l : List UInt8) (hi : i < 9) (hc : c.toNat < 128) (h : one (n * 128 + c.toNat) = W.take (i + 1)) : refF W n i (c :: l) = some (n * 128 + c.toNat, i + 1) := by
  unfold refF
  rw [if_neg (by omega), if_neg (by omega), if_pos h]
theorem refF_no (W : List UInt8) (n i : Nat) (c : UInt8) (l : List UInt8) (hi : i < 9) (hc : c.toNat < 128) (h : ¬ one (n * 128 + c.toNat) = W.take (i + 1)) : refF W n i (c :: l) = none := by
  unfold refF
  rw [if_neg (by omega), if_neg (by omega), if_neg h]
theorem refF_long (W : List UInt8) (n i : Nat) (l : List UInt8) (hi : 9 ≤ i) : refF W n i l = none := by
  cases l with
  | nil => rfl
  | cons c l => unfold refF; rw [if_pos hi]
theorem refF_high (W : List UInt8) : ∀ (f q : Nat) (l : List UInt8), q < 128 ^ f → (high f q).length ≤ 9 → refF W 0 0 (high f q ++ l) = refF W q (high f q).length l
  | 0, q, l, h, _ => by
    have : q = 0 := by simpa using h
    subst this
    rfl
  | f + 1, q, l, h, h9 => by
    unfold high at h9 ⊢
    by_cases hq : q = 0
    · rw [if_pos hq, hq]
      rfl
    · rw [if_neg hq] at h9 ⊢
      rw [List.length_append, List.length_singleton] at h9
      rw [List.append_assoc, refF_high W f (q / 128) _ (by rw [Nat.pow_succ] at h; omega) (by omega)]
      have hc : (UInt8.ofNat (q % 128 + 128)).toNat = q % 128 + 128 := by rw [UInt8.toNat_ofNat']; omega
      rw [List.singleton_append, refF_more _ _ _ _ _ (by omega) (by rw [hc]; omega), hc, List.length_append, List.length_singleton]
      congr 1
      omega
theorem refF_some (W : List UInt8) : ∀ (l : List UInt8) (n i m u : Nat), n < 128 ^ i → refF W n i l = some (m, u) → one m = W.take u ∧ m < 128 ^ 9 ∧ u ≤ i + l.length
  | [], _, _, _, _, _, h => by simp [refF] at h
  | c :: l, n, i, m, u, hn, h => by
    have hcl := UInt8.toNat_lt c
    by_cases hi : 9 ≤ i
    · rw [refF_long _ _ _ _ hi] at h
      cases h
    · have hpow : 128 ^ (i + 1) ≤ 128 ^ 9 := Nat.pow_le_pow_right (by omega) (by omega)
      have hp2 : 128 ^ (i + 1) = 128 ^ i * 128 := by rw [Nat.pow_succ]
      by_cases hc : 128 ≤ c.toNat
      · rw [refF_more _ _ _ _ _ (by omega) hc] at h
        have ih := refF_some W l _ (i + 1) m u (by rw [hp2]; omega) h
        rw [List.length_cons]
        exact ⟨ih.1, ih.2.1, by omega⟩
      · by_cases ho : one (n * 128 + c.toNat) = W.take (i + 1)
        · rw [refF_last _ _ _ _ _ (by omega) (by omega) ho] at h
          simp only [Option.some.injEq, Prod.mk.injEq] at h
          obtain ⟨rfl, rfl⟩ := h
          rw [List.length_cons]
          exact ⟨ho, by omega, by omega⟩
        · rw [refF_no _ _ _ _ _ (by omega) (by omega) ho] at h
          cases h
/-- The reference takes what the program takes. -/
theorem ref_take (b : List UInt8) : refF b 0 0 b = take b := by
  cases ht : take b with
  | some p =>
    obtain ⟨m, u⟩ := p
    have hb := takeF_some _ _ _ _ _ (by omega) ht
    have ho := take_own b m u ht
    have hl := one_length m (by omega)
    have h9 := size_le9 m hb.2.2
    have hlen : (one m).length = u := by rw [ho, List.length_take]; omega
    have hsplit : b = high 10 (m / 128) ++ (UInt8.ofNat (m % 128) :: b.drop u) := by
      rw [show high 10 (m / 128) ++ (UInt8.ofNat (m % 128) :: b.drop u) = one m ++ b.drop u from by unfold one; rw [List.append_assoc]; rfl, ho, List.take_append_drop]
    have hk : (high 10 (m / 128)).length + 1 = u := by rw [← hlen]; unfold one; simp
    have hc : (UInt8.ofNat (m % 128)).toNat = m % 128 := by rw [UInt8.toNat_ofNat']; omega
    have e1 : refF b 0 0 b = refF b 0 0 (high 10 (m / 128) ++ (UInt8.ofNat (m % 128) :: b.drop u)) := by rw [← hsplit]
    rw [e1, refF_high b 10 (m / 128) _ (by omega) (by omega)]
    have hm : m / 128 * 128 + m % 128 = m := by omega
    rw [refF_last _ _ _ _ _ (by omega) (by rw [hc]; omega) (by rw [hc, hm, hk]; exact ho), hc, hm, hk]
  | none =>
    cases hr : refF b 0 0 b with
    | none => rfl
    | some p =>
      obtain ⟨m, u⟩ := p
      have h := refF_some b b 0 0 m u (by omega) hr
      have : take b = some (m, (one m).length) := by
        have e : b = one m ++ b.drop u := by rw [h.1, List.take_append_drop]
        rw [e]
        exact take_one m (by omega) _
      rw [ht] at this
      cases this
end Gw.Vlq

namespace Go.Proofs.YtjhblbipjljojaaDoor
open Go.RowKit

theorem refRes {s : ByteArray} {x : Option (Nat × Nat)} (h : Gw.Vlq.refF s.data.toList 0 0 s.data.toList = x) : Gw.Vlq.take s.data.toList = x := by rw [← Gw.Vlq.ref_take, h]

set_option maxRecDepth 1000000 in
set_option maxHeartbeats 1600000 in
theorem rtake_any (s : ByteArray) (w : World) :
    Calls Tryd.prog 69 #[.string s] w fun e w' => e = .returned (takeRes s) ∧ Below w.heap.size w w' := by
  go_enter Tryd.func69, Tryd.ntmps69
  go_wp2_with fail
  go_loop [5, 6] (fun x i => ∃ k n : Nat, k ≤ s.size ∧ k ≤ 9 ∧ x = .int .i64 n ∧ i = .int .i64 k ∧ n < 128 ^ k ∧ Gw.Vlq.refF s.data.toList 0 0 s.data.toList = Gw.Vlq.refF s.data.toList n k (s.data.toList.drop k)) (fun _ i => s.size - (intOf i).toNat)
  case atStart => exact ⟨0, 0, Nat.zero_le _, by omega, rfl, rfl, by omega, rfl⟩
  case round =>
    obtain ⟨k, n, hk, hk9, rfl, rfl, hn, ht⟩ := hrel
    have HT := Lib.hid ht
    have HN := Lib.hid hn
    clear ht hn
    by_cases hlt : k < s.size
    · have hd1 : decide ((k : Int) < (s.size : Int)) = true := decide_eq_true (by omega)
      by_cases h9 : k < 9
      · have hd2 : decide ((k : Int) < 9) = true := decide_eq_true (by omega)
        have HD := Lib.hid (drop_cons s k hlt)
        have hcl := UInt8.toNat_lt s[k]
        have hp8 : 128 ^ k ≤ 128 ^ 8 := Nat.pow_le_pow_right (by omega) (by omega)
        have hn56 : n ≤ 72057594037927935 := by have := HN.out; omega
        clear hp8
        by_cases hc : 128 ≤ s[k].toNat
        · have hd3 : decide ((128 : Int) ≤ (s[k].toNat : Int)) = true := decide_eq_true (by omega)
          have hstep := Gw.Vlq.refF_more s.data.toList n k s[k] (s.data.toList.drop (k + 1)) h9 hc
          have HS := Lib.hid hstep
          clear hstep
          go_wp2_with fail
          go_round
          case rel =>
            refine ⟨k + 1, n * 128 + s[k].toNat % 128, by omega, by omega, by go_num, by go_num, ?_, by rw [HT.out, HD.out, HS.out]⟩
            have := HN.out
            rw [Nat.pow_succ]
            omega
          case measure => simp [intOf]; omega
        · have hd3 : decide ((128 : Int) ≤ (s[k].toNat : Int)) = false := decide_eq_false (by omega)
          have H1 : Hid (∀ w, Calls Tryd.prog 80 #[.int .i64 ((n : Int) * 128 + (s[k].toNat : Int))] w fun e w' => e = .returned (.string (oneS (n * 128 + s[k].toNat))) ∧ Below w.heap.size w w') := Lib.hid (fun w => by
            have h := one_any (n * 128 + s[k].toNat) (by omega) w
            rwa [show ((n * 128 + s[k].toNat : Nat) : Int) = (n : Int) * 128 + (s[k].toNat : Int) from by omega] at h)
          have hmodI : (s[k].toNat : Int) % 128 = (s[k].toNat : Int) := by omega
          have hwr : IntKind.i64.wrap ((k : Int) + 1) = (k : Int) + 1 := IntWalk.i64_in _ (by omega)
          have hlo : (0 : Int) ≤ (k : Int) + 1 := by omega
          have hhi : (k : Int) + 1 ≤ (s.size : Int) := by omega
          have htn : ((k : Int) + 1).toNat = k + 1 := by omega
          obtain ⟨q, hq⟩ : ∃ q, ((oneS (n * 128 + s[k].toNat)).toList == (s.extract 0 (k + 1)).toList) = q := ⟨_, rfl⟩
          have hq2 : (Gw.Vlq.one (n * 128 + s[k].toNat) = s.data.toList.take (k + 1)) ↔ q = true := by
            rw [← hq, ba_eq, Lib.extract_data, List.drop_zero, Nat.sub_zero]
            exact Iff.rfl
          have hyes : q = true → takeRes s = .tuple #[.int .i64 ((n : Int) * 128 + (s[k].toNat : Int)), .string (s.extract (k + 1) s.size), .int .i64 0] := by
            intro h
            rw [takeRes_some (refRes (by rw [HT.out, HD.out]; exact Gw.Vlq.refF_last _ _ _ _ _ h9 (by omega) (hq2.2 h)))]
            rw [show ((n * 128 + s[k].toNat : Nat) : Int) = (n : Int) * 128 + (s[k].toNat : Int) from by omega]
          have hno : q = false → takeRes s = .tuple #[.int .i64 0, .string ⟨#[]⟩, .int .i64 40] := by
            intro h
            rw [takeRes_none (refRes (by rw [HT.out, HD.out]; exact Gw.Vlq.refF_no _ _ _ _ _ h9 (by omega) (fun h2 => by rw [hq2.1 h2] at h; cases h)))]
          have HY := Lib.hid hyes
          have HNO := Lib.hid hno
          clear hq2 hyes hno
          generalize oneS (n * 128 + s[k].toNat) = B at *
          go_wp2_with fail
          go_region_with (go_at_call 80; refine (H1.out _).mono ?_; rintro e w1 ⟨rfl, hb1⟩)
          all_goals
            cases q
            · have HR := Lib.hid (HNO.out rfl)
              go_wp2_with fail
              go_ret3
              exact ⟨by rw [HR.out]; rfl, ((Below.refl _ _).drew).step hb1⟩
            · have HR := Lib.hid (HY.out rfl)
              go_wp2_with fail
              go_quiet (fail)
              go_wp2_with fail
              go_ret3
              exact ⟨by rw [HR.out]; rfl, below_drewN (((Below.refl _ _).drew).step hb1) _⟩
      · have hd2 : decide ((k : Int) < 9) = false := decide_eq_false (by omega)
        have hres : takeRes s = .tuple #[.int .i64 0, .string ⟨#[]⟩, .int .i64 40] := by
          rw [takeRes_none (refRes (by rw [HT.out]; exact Gw.Vlq.refF_long _ _ _ _ (by omega)))]
        have HR := Lib.hid hres
        clear hres
        go_wp2_with fail
        go_ret3
        exact ⟨by rw [HR.out]; rfl, Below.refl _ _⟩
    · have hd1 : decide ((k : Int) < (s.size : Int)) = false := decide_eq_false (by omega)
      have hres : takeRes s = .tuple #[.int .i64 0, .string ⟨#[]⟩, .int .i64 40] := by
        rw [takeRes_none (refRes (by rw [HT.out, List.drop_eq_nil_of_le (by simp; omega)]; rfl))]
      have HR := Lib.hid hres
      clear hres
      go_wp2_with fail
      go_ret3
      exact ⟨by rw [HR.out]; rfl, Below.refl _ _⟩
set_option maxRecDepth 1000000 in
set_option maxHeartbeats 1000000 in
theorem rtakeText_any (s : ByteArray) (w : World) :
    Calls Tryd.prog 70 #[.string s] w fun e w' => e = .returned (takeTextRes s) ∧ Below w.heap.size w w' := by
  have H1 := Lib.hid (rtake_any s w)
  cases ht : Gw.Vlq.take s.data.toList with
  | none =>
    have hres : takeTextRes s = .tuple #[.string ⟨#[]⟩, .string ⟨#[]⟩, .int .i64 40] := by
      unfold takeTextRes takeText
      rw [ht]
    have HR := Lib.hid hres
    rw [takeRes_none ht] at H1
    clear hres ht
    go_enter Tryd.func70, Tryd.ntmps70
    go_wp2_with fail
    refine H1.out.mono ?_
    rintro e w1 ⟨rfl, hb1⟩
    go_wp2_with fail
    go_ret3
    exact ⟨by rw [HR.out]; rfl, hb1⟩
  | some p =>
    obtain ⟨n, u⟩ := p
    have hb := Gw.Vlq.takeF_some _ _ _ _ _ (by omega) ht
    have hlen : s.data.toList.length = s.size := rfl
    rw [hlen] at hb
    have hxs : (s.extract u s.size).size = s.size - u := by rw [ByteArray.size_extract]; omega
    rw [takeRes_some ht] at H1
    by_cases hfit : n + u ≤ s.size
    · have hres : takeTextRes s = .tuple #[.string (s.extract u (u + n)), .string (s.extract (u + n) s.size), .int .i64 0] := by
        unfold takeTextRes takeText
        rw [ht]
        simp only
        rw [hlen, if_pos hfit]
      have HR := Lib.hid hres
      clear hres ht hlen
      have HX := Lib.hid hxs
      generalize hX : s.extract u s.size = X at *
      have HXX := Lib.hid hX
      have hn : n ≤ X.size := by rw [HX.out]; omega
      have hni : (n : Int) ≤ (X.size : Int) := by omega
      have hn0 : (0 : Int) ≤ (n : Int) := by omega
      clear hX hxs
      go_enter Tryd.func70, Tryd.ntmps70
      go_wp2_with fail
      refine H1.out.mono ?_
      rintro e w1 ⟨rfl, hb1⟩
      go_wp2_with fail
      go_quiet (fail)
      go_wp2_with fail
      go_ret3
      refine ⟨?_, below_drewN hb1 _⟩
      rw [HR.out]
      have hsz : u + X.size = s.size := by rw [HX.out]; omega
      have hXX := HXX.out
      subst hXX
      have e1 := ext_ext s u 0 n
      have e2 := ext_ext s u n (s.extract u s.size).size
      rw [hsz] at e2
      rw [Nat.add_zero] at e1
      rw [← e1, ← e2]
      rfl
    · have hres : takeTextRes s = .tuple #[.string ⟨#[]⟩, .string ⟨#[]⟩, .int .i64 40] := by
        unfold takeTextRes takeText
        rw [ht]
        simp only
        rw [hlen, if_neg hfit]
      have HR := Lib.hid hres
      have hlt : s.size - u < n := by omega
      clear hres ht hlen
      generalize s.extract u s.size = X at *
      go_enter Tryd.func70, Tryd.ntmps70
      go_wp2_with fail
      refine H1.out.mono ?_
      rintro e w1 ⟨rfl, hb1⟩
      go_wp2_with fail
      go_ret3
      exact ⟨by rw [HR.out]; rfl, hb1⟩

end Go.Proofs.YtjhblbipjljojaaDoor
