/- The order of names: told without addresses. No claim of its own. -/
import Derived.Test.YtkflmicpifohhaaAName
import Derived.Test.YtkflmicpifohhaaNameLaw
namespace Go.Proofs.Ytkflmicpifohhaa
open Go.Am

theorem cmpR_pc (a b : Int) : PC Try.prog 58 [.int .i32 a, .int .i32 b] (.int .i64 (if a < b then -1 else if b < a then 1 else 0)) := by
  have hn : ∀ x : Int, PC Try.prog 67 [.int .i32 x] (.bool false) := fun x => by
    refine PC.of tabOk mixed (fn := Try.f67) (by kernel_rfl) rfl (by kernel_rfl) rfl rfl ?_
    conv => whnf
    show V.bool (x != x) = V.bool false
    simp
  refine PC.of tabOk mixed (fn := Try.f58) (by kernel_rfl) rfl (by kernel_rfl) rfl rfl ?_
  conv => whnf
  refine AC.of_pc (hn a) rfl ?_
  conv => whnf
  refine AC.of_pc (hn b) rfl ?_
  conv => whnf
  refine ⟨fun h => absurd h (by decide), fun _ => ?_⟩
  conv => whnf
  refine ⟨fun h => absurd h (by decide), fun _ => ?_⟩
  conv => whnf
  refine ⟨fun h => ?_, fun h => ?_⟩
  · rw [if_pos (of_decide_eq_true h)]
    conv => whnf
  rw [if_neg (of_decide_eq_false h)]
  conv => whnf
  refine ⟨fun h => ?_, fun h => ?_⟩
  · rw [if_pos (of_decide_eq_true h)]
    conv => whnf
  rw [if_neg (of_decide_eq_false h)]
  conv => whnf
theorem encR_len (l : List Int) : (encR l).length = l.length := by simp [encR]
theorem encR_get {l : List Int} {k : Nat} (h : k < l.length) : (encR l)[k]? = some [.int .i32 l[k]] := by unfold encR; rw [List.getElem?_map, List.getElem?_eq_getElem h]; rfl
theorem compare_pc (n1 n2 : Bool) (a b : List Int) (ha : a.length ≤ 4611686018427387904) : PC Try.prog 45 [.lst n1 1 (encR a) .none, .lst n2 1 (encR b) .none] (.int .i64 (Gw.Name.cmpL a b)) := by
  refine PC.of tabOk mixed (fn := Try.f45) (by kernel_rfl) rfl (by kernel_rfl) rfl rfl ?_
  have hla := encR_len a
  have hlb := encR_len b
  conv => whnf
  refine AW.loop (fun k : Nat => [(.tmp 0, .v (.lst n1 1 (encR a) .none)), (.tmp 1, .v (.lst n2 1 (encR b) .none)), (.tmp 9, .v (.lst n1 1 (encR a) .none)), (.tmp 10, .v (.int .i64 (a.length : Nat))), (.tmp 11, .v (.int .i64 k))])
    0 (fun k => k ≤ a.length ∧ k ≤ b.length ∧ Gw.Name.cmpL a b = Gw.Name.cmpL (a.drop k) (b.drop k)) (fun k => a.length - k) (by decide) 0 ⟨Nat.zero_le _, Nat.zero_le _, rfl⟩ ⟨rfl, rfl, rfl, rfl, rfl, rfl, ?_, rfl, rfl, rfl, trivial⟩ ?_
  · show C.v (V.int .i64 ((encR a).length : Nat)) = _
    rw [hla]
  rintro k ⟨hk, hkb, hcm⟩
  refine ev_sound tabOk mixed _ _ _ _ ?_
  conv => whnf
  refine ⟨fun h => ?_, fun h => ?_⟩
  · have h := of_decide_eq_true h
    have hlt : k < a.length := by omega
    have hg := encR_get hlt
    rw [List.drop_eq_getElem_cons hlt] at hcm
    conv => whnf
    refine ⟨_, ⟨by omega, hg⟩, ?_⟩
    conv => whnf
    refine ⟨fun h => ?_, fun h => ?_⟩
    · have h := of_decide_eq_true h
      rw [show b.drop k = [] from List.drop_of_length_le (by omega), Gw.Name.cmpL] at hcm
      rw [hcm]
      conv => whnf
    have h := of_decide_eq_false h
    have hlt2 : k < b.length := by omega
    have hg2 := encR_get hlt2
    have hc := cmpR_pc a[k] b[k]
    rw [List.drop_eq_getElem_cons hlt2, Gw.Name.cmpL] at hcm
    conv => whnf
    refine ⟨_, ⟨by omega, hg2⟩, ?_⟩
    conv => whnf
    refine AC.of_pc hc rfl ?_
    by_cases c1 : a[k] < b[k]
    · rw [if_pos c1] at hcm ⊢
      rw [hcm]
      conv => whnf
      refine ⟨fun _ => ?_, fun h => absurd h (by decide)⟩
      conv => whnf
    by_cases c2 : b[k] < a[k]
    · rw [if_neg c1, if_pos c2] at hcm ⊢
      rw [hcm]
      conv => whnf
      refine ⟨fun _ => ?_, fun h => absurd h (by decide)⟩
      conv => whnf
    rw [if_neg c1, if_neg c2] at hcm ⊢
    conv => whnf
    refine ⟨fun h => absurd h (by decide), fun _ => ?_⟩
    conv => whnf
    refine ⟨k + 1, ⟨by omega, by omega, hcm⟩, by show a.length - (k + 1) < a.length - k; omega, rfl, rfl, rfl, rfl, rfl, rfl, rfl, rfl, ?_, rfl, trivial⟩
    show C.v (V.int .i64 (IntKind.i64.wrap ((k : Int) + 1))) = C.v (V.int .i64 ((k + 1 : Nat) : Int))
    rw [w64 (by omega) (by omega)]; rfl
  · have h := of_decide_eq_false h
    have hke : k = a.length := by omega
    rw [hke, List.drop_length] at hcm
    conv => whnf
    refine ⟨fun h => ?_, fun h => ?_⟩
    · have h := of_decide_eq_true h
      have hlt2 : a.length < b.length := by omega
      rw [List.drop_eq_getElem_cons hlt2, Gw.Name.cmpL] at hcm
      rw [hcm]
      conv => whnf
    · have h := of_decide_eq_false h
      rw [List.drop_of_length_le (by omega), Gw.Name.cmpL] at hcm
      rw [hcm]
      conv => whnf
theorem ranks_len (s : List UInt8) : (Gw.Name.ranks s).length ≤ s.length := by
  unfold Gw.Name.ranks
  cases h : Gw.Name.spell s with
  | none => simp
  | some l => exact Gw.Name.spell_len h
theorem ranks_pc (s : List UInt8) (hs : s.length ≤ 1048576) : PC Try.prog 46 [.str s] (.lst false 1 (encR (Gw.Name.ranks s)) .none) := by
  have h1 := spell_pc s hs
  unfold Gw.Name.ranks
  cases ho : Gw.Name.spell s with
  | some l =>
    rw [ho] at h1
    refine PC.of tabOk mixed (fn := Try.f46) (by kernel_rfl) rfl (by kernel_rfl) rfl rfl ?_
    conv => whnf
    refine AC.of_pc h1 rfl ?_
    conv => whnf
    refine ⟨fun _ => ?_, fun h => absurd h (by decide)⟩
    conv => whnf
  | none =>
    rw [ho] at h1
    refine PC.of tabOk mixed (fn := Try.f46) (by kernel_rfl) rfl (by kernel_rfl) rfl rfl ?_
    conv => whnf
    refine AC.of_pc h1 rfl ?_
    conv => whnf
    refine ⟨fun h => absurd h (by decide), fun _ => ?_⟩
    conv => whnf
    refine ⟨⟨by omega, fits_small (by rw [Int.toNat_natCast]; omega) (by decide)⟩, ?_⟩
    conv => whnf
    refine AW.loop (fun k : Nat => [(.tmp 0, .v (.str s)), (.tmp 3, .v (.lst false 1 (encR ((s.take k).map fun b => (1114112 + b.toNat : Int))) (.row 10))), (.tmp 17, .v (.int .i64 (s.length : Nat))), (.tmp 18, .v (.int .i64 k)), (.row 10, .row 21 1 k)])
      11 (fun k => k ≤ s.length) (fun k => s.length - k) (by decide) 0 (Nat.zero_le _) ⟨rfl, rfl, rfl, rfl, rfl, rfl, rfl, rfl, rfl, rfl, trivial⟩ ?_
    rintro k hk
    have hel : (encR ((s.take k).map fun b => (1114112 + b.toNat : Int))).length = k := by rw [encR_len, List.length_map, List.length_take]; omega
    refine ev_sound tabOk mixed _ _ _ _ ?_
    conv => whnf
    refine ⟨fun h => ?_, fun h => ?_⟩
    · have h := of_decide_eq_true h
      have hlt : k < s.length := by omega
      have hb := s[k].toNat_lt
      conv => whnf
      refine ⟨s[k], ⟨by omega, List.getElem?_eq_getElem hlt⟩, ?_⟩
      conv => whnf
      refine ⟨⟨hel.symm, fits_small (by show (encR _).length + 1 ≤ _; rw [hel]; omega) (by decide)⟩, ?_⟩
      conv => whnf
      refine ⟨k + 1, by show k + 1 ≤ _; omega, by show s.length - (k + 1) < s.length - k; omega, rfl, rfl, ?_, rfl, rfl, rfl, ?_, rfl, ?_, rfl, trivial⟩
      · show C.v (V.lst false 1 (encR ((s.take k).map fun b => (1114112 + b.toNat : Int)) ++ [[V.int .i32 (IntKind.i32.wrap (IntKind.i32.wrap (1114111 + IntKind.i32.wrap (s[k].toNat : Int)) + 1))]]) _) = C.v (V.lst false 1 (encR ((s.take (k + 1)).map fun b => (1114112 + b.toNat : Int))) _)
        rw [List.take_succ_eq_append_getElem hlt, List.map_append, encR, encR, List.map_append]
        have e : IntKind.i32.wrap (IntKind.i32.wrap (1114111 + IntKind.i32.wrap (s[k].toNat : Int)) + 1) = 1114112 + (s[k].toNat : Int) := by
          simp only [IntKind.wrap_i32]; omega
        rw [e]; rfl
      · show C.v (V.int .i64 (IntKind.i64.wrap ((k : Int) + 1))) = C.v (V.int .i64 ((k + 1 : Nat) : Int))
        rw [w64 (by omega) (by omega)]; rfl
      · show C.row _ 1 ((encR _).length + 1) = C.row _ 1 (k + 1)
        rw [hel]
    · have h := of_decide_eq_false h
      obtain rfl : k = s.length := by omega
      rw [List.take_length]
      conv => whnf
theorem nameLess_pc (a b : List UInt8) (ha : a.length ≤ 1048576) (hb : b.length ≤ 1048576) : PC Try.prog 24 [.str a, .str b] (.bool (Gw.Name.less a b)) := by
  have hc := compare_pc false false (Gw.Name.ranks a) (Gw.Name.ranks b) (by have := ranks_len a; omega)
  refine PC.of tabOk mixed (fn := Try.f24) (by kernel_rfl) rfl (by kernel_rfl) rfl rfl ?_
  conv => whnf
  refine AC.of_pc (ranks_pc a ha) rfl ?_
  conv => whnf
  refine AC.of_pc (ranks_pc b hb) rfl ?_
  conv => whnf
  refine AC.of_pc hc rfl ?_
  conv => whnf
  rfl
end Go.Proofs.Ytkflmicpifohhaa
