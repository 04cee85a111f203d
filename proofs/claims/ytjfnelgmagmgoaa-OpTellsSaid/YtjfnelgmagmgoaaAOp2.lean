/- What op.Take computes: told without addresses. No claim of its own. -/
import Derived.Test.YtjfnelgmagmgoaaAOp1
import Derived.Test.YtjfnelgmagmgoaaOpTakeFn
namespace Go.Proofs.Ytjfnelgmagmgoaa
open Go.Am

def opTakeV (x : Option (Gw.Op.Op × List UInt8)) : V := match x with
  | none => .tup [.agg [.int .i64 0, .int .i64 0, .int .i64 0, .int .i64 0, .int .i64 0, .str [], .str []], .str [], .int .i64 50]
  | some (o, rest) => .tup [encO o, .str rest, .int .i64 0]
theorem kindV_one (o : Gw.Op.Op) (h : o.kind = 1) : kindV o = .iface 62 (encO o) := by unfold kindV; rw [if_pos h]
theorem kindV_two (o : Gw.Op.Op) (h1 : ¬ o.kind = 1) (h2 : o.kind = 2) : kindV o = .iface 83 (encO o) := by unfold kindV; rw [if_neg h1, if_pos h2]
theorem kindV_no (o : Gw.Op.Op) (h1 : ¬ o.kind = 1) (h2 : ¬ o.kind = 2) : kindV o = .nili := by unfold kindV; rw [if_neg h1, if_neg h2]
theorem tookV_none {s : List UInt8} (h : Gw.Vlq.take s = none) : tookV s = .tup [.int .i64 0, .str [], .int .i64 40] := by unfold tookV; rw [h]
theorem tookV_some {s : List UInt8} {n u : Nat} (h : Gw.Vlq.take s = some (n, u)) : tookV s = .tup [.int .i64 (n : Int), .str (s.drop u), .int .i64 0] := by unfold tookV; rw [h]
theorem take_lt {s : List UInt8} {n u : Nat} (h : Gw.Vlq.take s = some (n, u)) : n < 9223372036854775808 := (Gw.Vlq.takeF_some s 0 0 n u (by omega) h).2.2

def stepI (b : List UInt8) (x : List Nat × List UInt8) : Prop := x.2.length ≤ 1048576 ∧ (∀ n ∈ x.1, n < 9223372036854775808) ∧ match x.1 with
  | [] => Gw.Op.take b = Gw.Op.take x.2
  | [c] => Gw.Op.take b = Gw.Op.f1 c x.2
  | [c, r] => Gw.Op.take b = Gw.Op.f2 c r x.2
  | [c, r, k] => Gw.Op.take b = Gw.Op.f3 c r k x.2
  | [c, r, k, n] => Gw.Op.take b = Gw.Op.f4 c r k n x.2
  | _ => False

def stepP (c r n : Nat) (ans : Option (Gw.Op.Op × List UInt8)) (x : List Nat × List UInt8) : Prop := x.2.length ≤ 1048576 ∧ (∀ n ∈ x.1, n < 9223372036854775808) ∧ match x.1 with
  | [] => ans = Gw.Op.f45 c r n x.2
  | [p] => ans = Gw.Op.f5 c r n p x.2
  | _ => False

theorem opTake_pc (b : List UInt8) (hb : b.length ≤ 1048576) : PC Try.prog 13 [.str b] (opTakeV (Gw.Op.take b)) := by
  refine PC.of tabOk mixed (fn := Try.f13) (by kernel_rfl) rfl (by kernel_rfl) rfl rfl ?_
  conv => whnf
  refine AC.of tabOk mixed (fn := Try.f31) (by kernel_rfl) rfl (by kernel_rfl) rfl rfl ?_
  conv => whnf
  refine AW.loop (X := List Nat × List UInt8) (fun x => [(.tmp 0, .v (.str x.2)), (.tmp 11, .v (.own 11 0 1 4 false)), (.tmp 12, .v (.int .i64 4)), (.tmp 13, .v (.int .i64 x.1.length)),
    (.blk 0, .box 25 [.int .i64 0, .int .i64 0, .int .i64 0, .int .i64 0, .int .i64 0, .str [], .str []]),
    (.blk 3, .box 25 [.int .i64 (x.1.getD 0 0 : Nat), .int .i64 (x.1.getD 1 0 : Nat), .int .i64 (x.1.getD 2 0 : Nat), .int .i64 (x.1.getD 3 0 : Nat), .int .i64 0, .str [], .str []]),
    (.blk 11, .box 59 [.ptr 3 0, .ptr 3 1, .ptr 3 2, .ptr 3 3])]) 12 (stepI b) (fun x => 4 - x.1.length) (by decide) ([], b) ⟨hb, (fun n hn => by cases hn), rfl⟩
    ⟨rfl, rfl, rfl, rfl, rfl, rfl, rfl, rfl, rfl, rfl, rfl, rfl, rfl, rfl, trivial⟩ ?_
  rintro ⟨nums, rest⟩ ⟨hl, hn, hI⟩
  simp only at hl hn hI
  have hv := vtake_pc rest (by omega)
  refine ev_sound tabOk mixed _ _ _ _ ?_
  match nums, hn, hI with
  | [], hn, hI =>
    conv => whnf
    refine ⟨fun _ => ?_, fun h => absurd h (by simp)⟩
    conv => whnf
    refine ⟨by simp, ?_⟩
    conv => whnf
    cases ht : Gw.Vlq.take rest with
    | none =>
      have e : Gw.Op.take b = none := by rw [hI]; unfold Gw.Op.take; rw [ht]
      rw [tookV_none ht] at hv
      rw [e]
      refine AC.of_pc hv rfl ?_
      conv => whnf
      refine ⟨fun _ => ?_, fun h => absurd h (by decide)⟩
      conv => whnf
      rfl
    | some nu =>
      obtain ⟨y, u⟩ := nu
      have hy := take_lt ht
      rw [tookV_some ht] at hv
      refine AC.of_pc hv rfl ?_
      conv => whnf
      refine ⟨fun h => absurd h (by decide), fun _ => ?_⟩
      conv => whnf
      refine ⟨([y], rest.drop u), ⟨by show (rest.drop u).length ≤ _; rw [List.length_drop]; omega, fun z hz => ?_, ?_⟩, by show 4 - _ < 4 - _; simp, rfl, rfl, rfl, rfl, rfl, rfl, ?_, rfl, rfl, rfl, rfl, rfl, rfl, rfl, trivial⟩
      · have hz : z ∈ [y] := hz
        simp only [List.mem_cons, List.not_mem_nil, or_false] at hz
        rcases hz with rfl
        exact hy
      · show Gw.Op.take b = Gw.Op.f1 y (rest.drop u)
        rw [hI]; unfold Gw.Op.take; rw [ht]
      · show C.v (V.int .i64 (IntKind.i64.wrap ((([] : List Nat).length : Int) + 1))) = _
        rw [w64 (by simp) (by simp)]
        rfl
  | [c], hn, hI =>
    conv => whnf
    refine ⟨fun _ => ?_, fun h => absurd h (by simp)⟩
    conv => whnf
    refine ⟨by simp, ?_⟩
    conv => whnf
    cases ht : Gw.Vlq.take rest with
    | none =>
      have e : Gw.Op.take b = none := by rw [hI]; unfold Gw.Op.f1; rw [ht]
      rw [tookV_none ht] at hv
      rw [e]
      refine AC.of_pc hv rfl ?_
      conv => whnf
      refine ⟨fun _ => ?_, fun h => absurd h (by decide)⟩
      conv => whnf
      rfl
    | some nu =>
      obtain ⟨y, u⟩ := nu
      have hy := take_lt ht
      rw [tookV_some ht] at hv
      refine AC.of_pc hv rfl ?_
      conv => whnf
      refine ⟨fun h => absurd h (by decide), fun _ => ?_⟩
      conv => whnf
      refine ⟨([c, y], rest.drop u), ⟨by show (rest.drop u).length ≤ _; rw [List.length_drop]; omega, fun z hz => ?_, ?_⟩, by show 4 - _ < 4 - _; simp, rfl, rfl, rfl, rfl, rfl, rfl, ?_, rfl, rfl, rfl, rfl, rfl, rfl, rfl, trivial⟩
      · have hz : z ∈ [c, y] := hz
        simp only [List.mem_cons, List.not_mem_nil, or_false] at hz
        rcases hz with rfl | rfl
        · exact hn _ (by simp)
        · exact hy
      · show Gw.Op.take b = Gw.Op.f2 c y (rest.drop u)
        rw [hI]; unfold Gw.Op.f1; rw [ht]
      · show C.v (V.int .i64 (IntKind.i64.wrap ((([c] : List Nat).length : Int) + 1))) = _
        rw [w64 (by simp) (by simp)]
        rfl
  | [c, r], hn, hI =>
    conv => whnf
    refine ⟨fun _ => ?_, fun h => absurd h (by simp)⟩
    conv => whnf
    refine ⟨by simp, ?_⟩
    conv => whnf
    cases ht : Gw.Vlq.take rest with
    | none =>
      have e : Gw.Op.take b = none := by rw [hI]; unfold Gw.Op.f2; rw [ht]
      rw [tookV_none ht] at hv
      rw [e]
      refine AC.of_pc hv rfl ?_
      conv => whnf
      refine ⟨fun _ => ?_, fun h => absurd h (by decide)⟩
      conv => whnf
      rfl
    | some nu =>
      obtain ⟨y, u⟩ := nu
      have hy := take_lt ht
      rw [tookV_some ht] at hv
      refine AC.of_pc hv rfl ?_
      conv => whnf
      refine ⟨fun h => absurd h (by decide), fun _ => ?_⟩
      conv => whnf
      refine ⟨([c, r, y], rest.drop u), ⟨by show (rest.drop u).length ≤ _; rw [List.length_drop]; omega, fun z hz => ?_, ?_⟩, by show 4 - _ < 4 - _; simp, rfl, rfl, rfl, rfl, rfl, rfl, ?_, rfl, rfl, rfl, rfl, rfl, rfl, rfl, trivial⟩
      · have hz : z ∈ [c, r, y] := hz
        simp only [List.mem_cons, List.not_mem_nil, or_false] at hz
        rcases hz with rfl | rfl | rfl
        · exact hn _ (by simp)
        · exact hn _ (by simp)
        · exact hy
      · show Gw.Op.take b = Gw.Op.f3 c r y (rest.drop u)
        rw [hI]; unfold Gw.Op.f2; rw [ht]
      · show C.v (V.int .i64 (IntKind.i64.wrap ((([c, r] : List Nat).length : Int) + 1))) = _
        rw [w64 (by simp) (by simp)]
        rfl
  | [c, r, k], hn, hI =>
    conv => whnf
    refine ⟨fun _ => ?_, fun h => absurd h (by simp)⟩
    conv => whnf
    refine ⟨by simp, ?_⟩
    conv => whnf
    cases ht : Gw.Vlq.take rest with
    | none =>
      have e : Gw.Op.take b = none := by rw [hI]; unfold Gw.Op.f3; rw [ht]
      rw [tookV_none ht] at hv
      rw [e]
      refine AC.of_pc hv rfl ?_
      conv => whnf
      refine ⟨fun _ => ?_, fun h => absurd h (by decide)⟩
      conv => whnf
      rfl
    | some nu =>
      obtain ⟨y, u⟩ := nu
      have hy := take_lt ht
      rw [tookV_some ht] at hv
      refine AC.of_pc hv rfl ?_
      conv => whnf
      refine ⟨fun h => absurd h (by decide), fun _ => ?_⟩
      conv => whnf
      refine ⟨([c, r, k, y], rest.drop u), ⟨by show (rest.drop u).length ≤ _; rw [List.length_drop]; omega, fun z hz => ?_, ?_⟩, by show 4 - _ < 4 - _; simp, rfl, rfl, rfl, rfl, rfl, rfl, ?_, rfl, rfl, rfl, rfl, rfl, rfl, rfl, trivial⟩
      · have hz : z ∈ [c, r, k, y] := hz
        simp only [List.mem_cons, List.not_mem_nil, or_false] at hz
        rcases hz with rfl | rfl | rfl | rfl
        · exact hn _ (by simp)
        · exact hn _ (by simp)
        · exact hn _ (by simp)
        · exact hy
      · show Gw.Op.take b = Gw.Op.f4 c r k y (rest.drop u)
        rw [hI]; unfold Gw.Op.f3; rw [ht]
      · show C.v (V.int .i64 (IntKind.i64.wrap ((([c, r, k] : List Nat).length : Int) + 1))) = _
        rw [w64 (by simp) (by simp)]
        rfl
  | [c, r, k, n], hn, hI =>
    have hcb := hn c (by simp)
    have hrb := hn r (by simp)
    have hkb := hn k (by simp)
    have hnb := hn n (by simp)
    conv => whnf
    refine ⟨fun h => absurd h (by simp), fun _ => ?_⟩
    have hk0 := kindOf_pc ⟨⟨c, r⟩, k, n, 0, [], []⟩
    have hI : Gw.Op.take b = Gw.Op.f4 c r k n rest := hI
    rw [hI]
    by_cases k1 : k = 1
    · subst k1
      rw [kindV_one _ (show ((1 : Nat) : Int) = 1 from rfl)] at hk0
      unfold Gw.Op.f4
      rw [if_pos rfl]
      conv => whnf
      refine AC.of_pc hk0 rfl ?_
      conv => whnf
      refine AC.of tabOk mixed (fn := Try.f31) (by kernel_rfl) rfl (by kernel_rfl) rfl rfl ?_
      conv => whnf
      refine AW.loop (X := List Nat × List UInt8) (fun x => [(.tmp 0, .v (.str x.2)), (.tmp 11, .v (.own 38 0 1 1 false)), (.tmp 12, .v (.int .i64 1)), (.tmp 13, .v (.int .i64 x.1.length)),
        (.blk 0, .box 25 [.int .i64 0, .int .i64 0, .int .i64 0, .int .i64 0, .int .i64 0, .str [], .str []]),
        (.blk 3, .box 25 [.int .i64 c, .int .i64 r, .int .i64 (1 : Nat), .int .i64 n, .int .i64 (x.1.getD 0 0 : Nat), .str [], .str []]),
        (.blk 38, .box 59 [.ptr 3 4])]) 39 (stepP c r n (Gw.Op.f45 c r n rest)) (fun x => 1 - x.1.length) (by decide) ([], rest) ⟨hl, (fun n hn => by cases hn), rfl⟩
        ⟨rfl, rfl, rfl, rfl, rfl, rfl, rfl, rfl, rfl, rfl, rfl, rfl, rfl, rfl, trivial⟩ ?_
      generalize Gw.Op.f45 c r n rest = ans
      rintro ⟨ps, rs⟩ ⟨hl2, hn2, hI2⟩
      simp only at hl2 hn2 hI2
      have hv2 := vtake_pc rs (by omega)
      refine ev_sound tabOk mixed _ _ _ _ ?_
      match ps, hn2, hI2 with
      | [], hn2, hI2 =>
        have hI2 : ans = Gw.Op.f45 c r n rs := hI2
        conv => whnf
        refine ⟨fun _ => ?_, fun h => absurd h (by simp)⟩
        conv => whnf
        refine ⟨by simp, ?_⟩
        conv => whnf
        cases ht : Gw.Vlq.take rs with
        | none =>
          have e : ans = none := by rw [hI2]; unfold Gw.Op.f45; rw [ht]
          rw [tookV_none ht] at hv2
          rw [e]
          refine AC.of_pc hv2 rfl ?_
          conv => whnf
          refine ⟨fun _ => ?_, fun h => absurd h (by decide)⟩
          conv => whnf
          rfl
        | some nu =>
          obtain ⟨y, u⟩ := nu
          have hy := take_lt ht
          rw [tookV_some ht] at hv2
          refine AC.of_pc hv2 rfl ?_
          conv => whnf
          refine ⟨fun h => absurd h (by decide), fun _ => ?_⟩
          conv => whnf
          refine ⟨([y], rs.drop u), ⟨by show (rs.drop u).length ≤ _; rw [List.length_drop]; omega, fun z hz => ?_, ?_⟩, by show 1 - _ < 1 - _; simp, rfl, rfl, rfl, rfl, rfl, rfl, ?_, rfl, rfl, rfl, rfl, rfl, rfl, rfl, trivial⟩
          · have hz : z ∈ [y] := hz
            rw [List.mem_singleton.1 hz]; exact hy
          · show ans = Gw.Op.f5 c r n y (rs.drop u)
            rw [hI2]; unfold Gw.Op.f45; rw [ht]
          · show C.v (V.int .i64 (IntKind.i64.wrap ((([] : List Nat).length : Int) + 1))) = _
            rw [w64 (by simp) (by simp)]
            rfl
      | [p], hn2, hI2 =>
        have hpb := hn2 p (by simp)
        have hI2 : ans = Gw.Op.f5 c r n p rs := hI2
        rw [hI2]
        unfold Gw.Op.f5
        conv => whnf
        refine ⟨fun h => absurd h (by simp), fun _ => ?_⟩
        conv => whnf
        have htx := vtakeText_pc rs (by omega)
        cases hx : takeText rs with
        | none =>
          have e : Gw.Op.fText (fun t => ⟨⟨c, r⟩, 1, n, p, t, []⟩) rs = none := by unfold Gw.Op.fText; rw [hx]
          have ev : tookTextV rs = .tup [.str [], .str [], .int .i64 40] := by unfold tookTextV; rw [hx]
          rw [ev] at htx
          rw [e]
          refine AC.of_pc htx rfl ?_
          conv => whnf
          refine ⟨fun _ => ?_, fun h => absurd h (by decide)⟩
          conv => whnf
          rfl
        | some mu =>
          obtain ⟨m, u⟩ := mu
          have ev : tookTextV rs = .tup [.str ((rs.drop u).take m), .str (rs.drop (u + m)), .int .i64 0] := by unfold tookTextV; rw [hx]
          have htl : ((rs.drop u).take m).length ≤ 1048576 := by rw [List.length_take, List.length_drop]; omega
          have e : Gw.Op.fText (fun t => ⟨⟨c, r⟩, 1, n, p, t, []⟩) rs = Gw.Op.done ⟨⟨c, r⟩, 1, n, p, ((rs.drop u).take m), []⟩ (rs.drop (u + m)) := by unfold Gw.Op.fText; rw [hx]
          rw [ev] at htx
          rw [e]
          have hck := opCheck_pc ⟨⟨c, r⟩, 1, n, p, ((rs.drop u).take m), []⟩ ⟨by unfold I64; simp only; omega, by unfold I64; simp only; omega, htl, by simp⟩
          refine AC.of_pc htx rfl ?_
          conv => whnf
          refine ⟨fun h => absurd h (by decide), fun _ => ?_⟩
          unfold Gw.Op.done
          cases hc : Gw.Op.check ⟨⟨c, r⟩, 1, n, p, ((rs.drop u).take m), []⟩ with
          | false =>
            rw [hc] at hck
            rw [if_neg (by decide)]
            conv => whnf
            refine AC.of_pc hck rfl ?_
            conv => whnf
            refine ⟨fun _ => ?_, fun h => absurd h (by decide)⟩
            conv => whnf
            rfl
          | true =>
            rw [hc] at hck
            rw [if_pos rfl]
            conv => whnf
            refine AC.of_pc hck rfl ?_
            conv => whnf
            refine ⟨fun h => absurd h (by decide), fun _ => ?_⟩
            conv => whnf
            rfl
      | _ :: _ :: _, hn2, hI2 => exact hI2.elim
    · have k1' : ¬ (k : Int) = 1 := by omega
      unfold Gw.Op.f4
      rw [if_neg k1]
      by_cases k2 : (k : Int) = 2
      · rw [kindV_two _ k1' k2] at hk0
        conv => whnf
        refine AC.of_pc hk0 rfl ?_
        conv => whnf
        refine ⟨by kernel_rfl, ?_⟩
        conv => whnf
        have htx := vtakeText_pc rest (by omega)
        cases hx : takeText rest with
        | none =>
          have e : Gw.Op.fText (fun t => ⟨⟨c, r⟩, k, n, 0, [], t⟩) rest = none := by unfold Gw.Op.fText; rw [hx]
          have ev : tookTextV rest = .tup [.str [], .str [], .int .i64 40] := by unfold tookTextV; rw [hx]
          rw [ev] at htx
          rw [e]
          refine AC.of_pc htx rfl ?_
          conv => whnf
          refine ⟨fun _ => ?_, fun h => absurd h (by decide)⟩
          conv => whnf
          rfl
        | some mu =>
          obtain ⟨m, u⟩ := mu
          have ev : tookTextV rest = .tup [.str ((rest.drop u).take m), .str (rest.drop (u + m)), .int .i64 0] := by unfold tookTextV; rw [hx]
          have htl : ((rest.drop u).take m).length ≤ 1048576 := by rw [List.length_take, List.length_drop]; omega
          have e : Gw.Op.fText (fun t => ⟨⟨c, r⟩, k, n, 0, [], t⟩) rest = Gw.Op.done ⟨⟨c, r⟩, k, n, 0, [], ((rest.drop u).take m)⟩ (rest.drop (u + m)) := by unfold Gw.Op.fText; rw [hx]
          rw [ev] at htx
          rw [e]
          have hck := opCheck_pc ⟨⟨c, r⟩, k, n, 0, [], ((rest.drop u).take m)⟩ ⟨by unfold I64; simp only; omega, by unfold I64; simp only; omega, by simp, htl⟩
          refine AC.of_pc htx rfl ?_
          conv => whnf
          refine ⟨fun h => absurd h (by decide), fun _ => ?_⟩
          unfold Gw.Op.done
          cases hc : Gw.Op.check ⟨⟨c, r⟩, k, n, 0, [], ((rest.drop u).take m)⟩ with
          | false =>
            rw [hc] at hck
            rw [if_neg (by decide)]
            conv => whnf
            refine AC.of_pc hck rfl ?_
            conv => whnf
            refine ⟨fun _ => ?_, fun h => absurd h (by decide)⟩
            conv => whnf
            rfl
          | true =>
            rw [hc] at hck
            rw [if_pos rfl]
            conv => whnf
            refine AC.of_pc hck rfl ?_
            conv => whnf
            refine ⟨fun h => absurd h (by decide), fun _ => ?_⟩
            conv => whnf
            rfl
      · rw [kindV_no _ k1' k2] at hk0
        conv => whnf
        refine AC.of_pc hk0 rfl ?_
        conv => whnf
        refine ⟨by kernel_rfl, ?_⟩
        conv => whnf
        have htx := vtakeText_pc rest (by omega)
        cases hx : takeText rest with
        | none =>
          have e : Gw.Op.fText (fun t => ⟨⟨c, r⟩, k, n, 0, [], t⟩) rest = none := by unfold Gw.Op.fText; rw [hx]
          have ev : tookTextV rest = .tup [.str [], .str [], .int .i64 40] := by unfold tookTextV; rw [hx]
          rw [ev] at htx
          rw [e]
          refine AC.of_pc htx rfl ?_
          conv => whnf
          refine ⟨fun _ => ?_, fun h => absurd h (by decide)⟩
          conv => whnf
          rfl
        | some mu =>
          obtain ⟨m, u⟩ := mu
          have ev : tookTextV rest = .tup [.str ((rest.drop u).take m), .str (rest.drop (u + m)), .int .i64 0] := by unfold tookTextV; rw [hx]
          have htl : ((rest.drop u).take m).length ≤ 1048576 := by rw [List.length_take, List.length_drop]; omega
          have e : Gw.Op.fText (fun t => ⟨⟨c, r⟩, k, n, 0, [], t⟩) rest = Gw.Op.done ⟨⟨c, r⟩, k, n, 0, [], ((rest.drop u).take m)⟩ (rest.drop (u + m)) := by unfold Gw.Op.fText; rw [hx]
          rw [ev] at htx
          rw [e]
          have hck := opCheck_pc ⟨⟨c, r⟩, k, n, 0, [], ((rest.drop u).take m)⟩ ⟨by unfold I64; simp only; omega, by unfold I64; simp only; omega, by simp, htl⟩
          refine AC.of_pc htx rfl ?_
          conv => whnf
          refine ⟨fun h => absurd h (by decide), fun _ => ?_⟩
          unfold Gw.Op.done
          cases hc : Gw.Op.check ⟨⟨c, r⟩, k, n, 0, [], ((rest.drop u).take m)⟩ with
          | false =>
            rw [hc] at hck
            rw [if_neg (by decide)]
            conv => whnf
            refine AC.of_pc hck rfl ?_
            conv => whnf
            refine ⟨fun _ => ?_, fun h => absurd h (by decide)⟩
            conv => whnf
            rfl
          | true =>
            rw [hc] at hck
            rw [if_pos rfl]
            conv => whnf
            refine AC.of_pc hck rfl ?_
            conv => whnf
            refine ⟨fun h => absurd h (by decide), fun _ => ?_⟩
            conv => whnf
            rfl
  | _ :: _ :: _ :: _ :: _ :: _, hn, hI => exact hI.elim
end Go.Proofs.Ytjfnelgmagmgoaa
