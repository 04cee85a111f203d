/- The law CallApart: told without addresses. No claim of its own. -/
import Derived.Test.YtfmhkfijnflalaaDoorACall7
namespace Go.Proofs.YtfmhkfijnflalaaDoor
open Go.Am

theorem putV_some {b : List UInt8} {c : Gw.Call.Call} (h : Gw.Call.check c = true) : putV (Gw.Call.put b c) = .tup [.str (b ++ Gw.Call.bytes c), .int .i64 0] := by unfold Gw.Call.put; rw [h]; rfl
theorem putV_none {b : List UInt8} {c : Gw.Call.Call} (h : Gw.Call.check c = false) : putV (Gw.Call.put b c) = .tup [.str [], .int .i64 180] := by unfold Gw.Call.put; rw [h]; rfl
theorem call_eq (a b : Gw.Call.Call) : a = b ↔ (a.kind == b.kind && (decide (a.path = b.path) && (decide (a.to = b.to) && (decide (a.data = b.data) && a.n == b.n)))) = true := by
  obtain ⟨k, p, t, d, n⟩ := a
  obtain ⟨k', p', t', d', n'⟩ := b
  simp
set_option maxHeartbeats 1000000 in
theorem apart_pc (a b : Gw.Call.Call) (na : Gw.Call.Nn a) (nb : Gw.Call.Nn b) (cut : Nat) (hc : cut < 65536) : PC Tryd.prog 6 [encK a, encK b, .int .u16 cut] (.bool true) := by
  have hfew := few_pc false [a, b] 2 (by simp)
  refine PC.of tabOk mixed (fn := Tryd.f6) (by kernel_rfl) rfl (by kernel_rfl) rfl rfl ?_
  conv => whnf
  refine AC.of_pc awake_pc rfl ?_
  conv => whnf
  refine AC.of_pc hfew rfl ?_
  conv => whnf
  refine ⟨fun _ => ?_, fun h => ?_⟩
  · conv => whnf
  obtain ⟨h1, -⟩ := few_one h
  obtain ⟨l1, l2, l3⟩ := few_len h1 (List.mem_cons.2 (.inl rfl) : a ∈ [a, b])
  obtain ⟨m1, m2, m3⟩ := few_len h1 (List.mem_cons.2 (.inr (List.mem_singleton.2 rfl)) : b ∈ [a, b])
  have cka := check_pc a (by omega) (by omega)
  have ckb := check_pc b (by omega) (by omega)
  have pa := put_pc [] a (by decide) (by omega) (by omega) na
  have pb := put_pc [] b (by decide) (by omega) (by omega) nb
  conv => whnf
  cases ha : Gw.Call.check a with
  | false =>
    rw [ha] at cka
    rw [putV_none ha] at pa
    cases hb : Gw.Call.check b with
    | false =>
      rw [hb] at ckb
      rw [putV_none hb] at pb
      refine AC.of_pc pa rfl ?_
      conv => whnf
      refine AC.of_pc pb rfl ?_
      conv => whnf
      repeat (first | (first | refine ⟨fun _ => ?_, fun h => absurd h (by decide)⟩ | refine ⟨fun h => absurd h (by decide), fun _ => ?_⟩ | refine ⟨fun _ => ?_, fun h => absurd (show true = false from h) (by decide)⟩ | refine ⟨fun h => absurd (show false = true from h) (by decide), fun _ => ?_⟩) | refine AC.of_pc cka rfl ?_ | refine AC.of_pc ckb rfl ?_
              (conv => whnf))
      all_goals rfl
    | true =>
      rw [hb] at ckb
      rw [putV_some hb, List.nil_append] at pb
      refine AC.of_pc pa rfl ?_
      conv => whnf
      refine AC.of_pc pb rfl ?_
      conv => whnf
      repeat (first | (first | refine ⟨fun _ => ?_, fun h => absurd h (by decide)⟩ | refine ⟨fun h => absurd h (by decide), fun _ => ?_⟩ | refine ⟨fun _ => ?_, fun h => absurd (show true = false from h) (by decide)⟩ | refine ⟨fun h => absurd (show false = true from h) (by decide), fun _ => ?_⟩) | refine AC.of_pc cka rfl ?_ | refine AC.of_pc ckb rfl ?_
              (conv => whnf))
      all_goals rfl
  | true =>
    rw [ha] at cka
    rw [putV_some ha, List.nil_append] at pa
    cases hb : Gw.Call.check b with
    | false =>
      rw [hb] at ckb
      rw [putV_none hb] at pb
      refine AC.of_pc pa rfl ?_
      conv => whnf
      refine AC.of_pc pb rfl ?_
      conv => whnf
      repeat (first | (first | refine ⟨fun _ => ?_, fun h => absurd h (by decide)⟩ | refine ⟨fun h => absurd h (by decide), fun _ => ?_⟩ | refine ⟨fun _ => ?_, fun h => absurd (show true = false from h) (by decide)⟩ | refine ⟨fun h => absurd (show false = true from h) (by decide), fun _ => ?_⟩) | refine AC.of_pc cka rfl ?_ | refine AC.of_pc ckb rfl ?_
              (conv => whnf))
      all_goals rfl
    | true =>
      rw [putV_some hb, List.nil_append] at pb
      refine AC.of_pc pa rfl ?_
      conv => whnf
      refine AC.of_pc pb rfl ?_
      conv => whnf
      repeat (first | (first | refine ⟨fun _ => ?_, fun h => absurd h (by decide)⟩ | refine ⟨fun h => absurd h (by decide), fun _ => ?_⟩ | refine ⟨fun _ => ?_, fun h => absurd (show true = false from h) (by decide)⟩ | refine ⟨fun h => absurd (show false = true from h) (by decide), fun _ => ?_⟩)
              (conv => whnf))
      refine ⟨fun h => absurd (of_decide_eq_true h) (Gw.Call.bytes_ne ha), fun _ => ?_⟩
      clear pa pb
      have hap := Gw.Call.apart ha hb na nb
      have hij := Gw.Call.bytes_inj ha hb na nb
      have hp : 0 < (Gw.Call.bytes a).length := List.length_pos_iff.2 (Gw.Call.bytes_ne ha)
      have hs := Gw.Call.bytes_small ha na
      have hj : cut % (Gw.Call.bytes a).length < (Gw.Call.bytes a).length := Nat.mod_lt _ hp
      have htk := calltake_pc ((Gw.Call.bytes a).take (cut % (Gw.Call.bytes a).length)) (by rw [List.length_take]; omega)
      rw [Gw.Call.take_cut' ha na hj] at htk
      have hx : ∃ c0 B, Gw.Call.bytes a = c0 :: B := ⟨_, _, (List.exists_cons_of_ne_nil (Gw.Call.bytes_ne ha)).choose_spec.choose_spec⟩
      have hne := Gw.Call.bytes_ne ha
      have hback : a = b → Gw.Call.bytes a = Gw.Call.bytes b := fun h => by rw [h]
      generalize Gw.Call.bytes a = X at *
      obtain ⟨c0, B, rfl⟩ := hx
      have em : ((cut : Int)).tmod ((c0 :: B).length : Int) = ((cut % (c0 :: B).length : Nat) : Int) := tmodN _ _
      have w1 : IntKind.i64.wrap (cut : Int) = cut := w64 (by omega) (by omega)
      conv => whnf
      rw [w1, em, Int.toNat_natCast]
      refine ⟨⟨by omega, by omega⟩, ?_⟩
      conv => whnf
      refine AC.of_pc htk rfl ?_
      conv => whnf
      repeat (first | (first | refine ⟨fun _ => ?_, fun h => absurd h (by decide)⟩ | refine ⟨fun h => absurd h (by decide), fun _ => ?_⟩ | refine ⟨fun _ => ?_, fun h => absurd (show true = false from h) (by decide)⟩ | refine ⟨fun h => absurd (show false = true from h) (by decide), fun _ => ?_⟩)
              (conv => whnf))
      refine ⟨⟨by show (0 : Int) ≤ min _ _; omega, by show (min _ _ : Int).toNat ≤ _; omega⟩, ?_⟩
      conv => whnf
      refine ⟨⟨by show (0 : Int) ≤ min _ _; omega, by show (min _ _ : Int).toNat ≤ _; omega⟩, ?_⟩
      conv => whnf
      refine ⟨by kernel_rfl, ?_⟩
      conv => whnf
      refine And.intro (fun q => ?_) (fun q => ?_) <;> conv => whnf
      · refine ⟨by kernel_rfl, ?_⟩
        conv => whnf
        rfl
      · refine ⟨by kernel_rfl, ?_⟩
        conv => whnf
        exfalso
        have q2 : (decide ((c0 :: B).take (min ((c0 :: B).length : Int) ((Gw.Call.bytes b).length : Int)).toNat = (Gw.Call.bytes b).take (min ((c0 :: B).length : Int) ((Gw.Call.bytes b).length : Int)).toNat) == (a.kind == b.kind && (decide (a.path = b.path) && (decide (a.to = b.to) && (decide (a.data = b.data) && a.n == b.n))))) = false := q
        have et : (min ((c0 :: B).length : Int) ((Gw.Call.bytes b).length : Int)).toNat = min (c0 :: B).length (Gw.Call.bytes b).length := by omega
        rw [et] at q2
        have e2 : decide ((c0 :: B).take (min (c0 :: B).length (Gw.Call.bytes b).length) = (Gw.Call.bytes b).take (min (c0 :: B).length (Gw.Call.bytes b).length)) = (a.kind == b.kind && (decide (a.path = b.path) && (decide (a.to = b.to) && (decide (a.data = b.data) && a.n == b.n)))) := by
          rw [Bool.eq_iff_iff, decide_eq_true_eq, hap]
          rw [← call_eq a b]
          exact ⟨hij, hback⟩
        rw [e2] at q2
        simp at q2
end Go.Proofs.YtfmhkfijnflalaaDoor
