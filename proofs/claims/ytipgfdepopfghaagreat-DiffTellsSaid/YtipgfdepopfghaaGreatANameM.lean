/- What the functions of the package name that tell whether a text is a name compute: told without addresses. No claim of its own. -/
import Derived.Test.YtipgfdepopfghaaGreatAmTab
import Derived.Test.YtipgfdepopfghaaGreatNamePl
namespace Go.Proofs.YtipgfdepopfghaaGreat
open Go.Am

def encR (l : List Int) : List (List V) := l.map fun r => [.int .i32 r]

theorem hasPrefix0_pc (s p : List UInt8) : PC Tryz.prog 108 [.str s, .str p] (.bool (Gw.Name.isPrefix p s)) := by
  unfold Gw.Name.isPrefix
  refine PC.of tabOk mixed (fn := Tryz.f108) (by kernel_rfl) rfl (by kernel_rfl) rfl rfl ?_
  conv => whnf
  refine ⟨fun h => ?_, fun h => ?_⟩
  · have h := of_decide_eq_true h
    conv => whnf
    refine ⟨by omega, ?_⟩
    conv => whnf
    rw [Int.toNat_natCast, decide_eq_true (by omega : p.length ≤ s.length), Bool.true_and]
  · have h := of_decide_eq_false h
    conv => whnf
    rw [decide_eq_false (by omega : ¬ p.length ≤ s.length)]; rfl
theorem hasPrefix_pc (s p : List UInt8) : PC Tryz.prog 79 [.str s, .str p] (.bool (Gw.Name.isPrefix p s)) := by
  refine PC.of tabOk mixed (fn := Tryz.f79) (by kernel_rfl) rfl (by kernel_rfl) rfl rfl ?_
  conv => whnf
  refine AC.of_pc (hasPrefix0_pc s p) rfl ?_
  conv => whnf
theorem barred_pc (r : Int) : PC Tryz.prog 59 [.int .i32 r] (.bool (Gw.Name.barred r)) := by
  unfold Gw.Name.barred
  refine PC.of tabOk mixed (fn := Tryz.f59) (by kernel_rfl) rfl (by kernel_rfl) rfl rfl ?_
  conv => whnf
  refine ⟨fun h => ?_, fun h => ?_⟩
  · conv => whnf
    rw [h]; rfl
  · rw [h]
    conv => whnf
    refine ⟨fun h2 => ?_, fun h2 => ?_⟩
    · have h2 : r = 47 := by simpa using h2
      conv => whnf
      rw [decide_eq_true h2]; rfl
    · have h2 : ¬ r = 47 := by simpa using h2
      conv => whnf
      rw [decide_eq_false h2]; rfl

theorem indexFunc_pc (nil : Bool) (l : List Int) (hl : l.length ≤ 4611686018427387904) : PC Tryz.prog 80 [.lst nil 1 (encR l) .none, .func 59 [] []] (.int .i64 (Gw.Name.idx l)) := by
  have hlen : (encR l).length = l.length := by simp [encR]
  refine PC.of tabOk mixed (fn := Tryz.f80) (by kernel_rfl) rfl (by kernel_rfl) rfl rfl ?_
  conv => whnf
  refine AW.loop (fun k : Nat => [(.tmp 0, .v (.lst nil 1 (encR l) .none)), (.tmp 1, .v (.func 59 [] [])), (.tmp 7, .v (.int .i64 l.length)), (.tmp 8, .v (.int .i64 k))]) 0
    (fun k => k ≤ l.length ∧ (l.take k).findIdx? Gw.Name.barred = none) (fun k => l.length - k) (by decide) 0 ⟨Nat.zero_le _, rfl⟩ ⟨rfl, rfl, rfl, rfl, ?_, rfl, rfl, rfl, trivial⟩ ?_
  · show C.v (V.int .i64 ((encR l).length : Nat)) = _
    rw [hlen]
  rintro k ⟨hk, hno⟩
  refine ev_sound tabOk mixed _ _ _ _ ?_
  conv => whnf
  refine ⟨fun h => ?_, fun h => ?_⟩
  · have h := of_decide_eq_true h
    have hlt : k < l.length := by omega
    have hel : (encR l)[k]? = some [.int .i32 l[k]] := by unfold encR; rw [List.getElem?_map, List.getElem?_eq_getElem hlt]; rfl
    have hb := barred_pc l[k]
    conv => whnf
    refine ⟨_, ⟨by omega, hel⟩, ?_⟩
    conv => whnf
    refine AC.of_pc hb rfl ?_
    conv => whnf
    refine ⟨fun h2 => ?_, fun h2 => ?_⟩
    · conv => whnf
      congr 1
      have e : l.findIdx? Gw.Name.barred = some k := by
        rw [List.findIdx?_eq_some_iff_getElem]
        refine ⟨hlt, h2, fun j hj => ?_⟩
        have := List.findIdx?_eq_none_iff.1 hno (l[j]) (by rw [List.mem_take_iff_getElem]; exact ⟨j, by omega, rfl⟩)
        simpa using this
      unfold Gw.Name.idx
      rw [e]
    · conv => whnf
      refine ⟨k + 1, ⟨by omega, ?_⟩, by show _ - (k + 1) < _ - k; omega, rfl, rfl, rfl, rfl, rfl, rfl, ?_, rfl, trivial⟩
      · rw [List.take_succ_eq_append_getElem hlt, List.findIdx?_eq_none_iff]
        intro x hx
        rcases List.mem_append.1 hx with hx | hx
        · exact List.findIdx?_eq_none_iff.1 hno x hx
        · rw [List.mem_singleton.1 hx]; exact h2
      · show C.v (V.int .i64 (IntKind.i64.wrap ((k : Int) + 1))) = _
        rw [w64 (by omega) (by omega)]; rfl
  · have h := of_decide_eq_false h
    obtain rfl : k = l.length := by omega
    rw [List.take_length] at hno
    conv => whnf
    congr 1
    unfold Gw.Name.idx
    rw [hno]

theorem containsFunc_pc (nil : Bool) (l : List Int) (hl : l.length ≤ 4611686018427387904) : PC Tryz.prog 58 [.lst nil 1 (encR l) .none, .func 59 [] []] (.bool (l.any Gw.Name.barred)) := by
  refine PC.of tabOk mixed (fn := Tryz.f58) (by kernel_rfl) rfl (by kernel_rfl) rfl rfl ?_
  conv => whnf
  refine AC.of_pc (indexFunc_pc nil l hl) rfl ?_
  conv => whnf
  congr 1
  unfold Gw.Name.idx
  cases h : l.findIdx? Gw.Name.barred with
  | none =>
    have e : l.any Gw.Name.barred = false := by
      rw [List.any_eq_false]
      intro x hx
      have := List.findIdx?_eq_none_iff.1 h x hx
      simp [this]
    rw [e]; rfl
  | some i =>
    have e : l.any Gw.Name.barred = true := by
      obtain ⟨h1, h2, _⟩ := List.findIdx?_eq_some_iff_getElem.1 h
      rw [List.any_eq_true]
      exact ⟨_, List.getElem_mem h1, h2⟩
    rw [e]
    exact decide_eq_true (by omega : (0 : Int) ≤ (i : Int))

def spellV (o : Option (List Int)) : V := match o with
  | none => .tup [.lst true 1 [] .none, .bool false]
  | some l => .tup [.lst false 1 (encR l) .none, .bool true]

theorem spell_pc (s : List UInt8) (hs : s.length ≤ 1048576) : PC Tryz.prog 57 [.str s] (spellV (Gw.Name.spell s)) := by
  refine PC.of tabOk mixed (fn := Tryz.f57) (by kernel_rfl) rfl (by kernel_rfl) rfl rfl ?_
  conv => whnf
  refine ⟨⟨by omega, fits_small (by rw [Int.toNat_natCast]; omega) (by decide)⟩, ?_⟩
  conv => whnf
  refine AW.loop (X := Nat × List Int) (fun x => [(.tmp 0, .v (.str s)), (.tmp 4, .v (.lst false 1 (encR x.2) (.row 4))), (.tmp 5, .v .tt), (.tmp 12, .v (.it 8)), (.row 4, .row 21 1 x.2.length), (.blk 8, .it s x.1)]) 9
    (fun x => x.1 ≤ s.length + 4 ∧ x.2.length ≤ x.1 ∧ ∃ f, s.length < f + x.1 ∧ Gw.Name.spell s = Gw.Name.spellF s f x.1 x.2) (fun x => s.length - x.1) (by decide) (0, []) ⟨by omega, Nat.le_refl _, s.length + 1, by omega, rfl⟩
    ⟨rfl, rfl, rfl, rfl, rfl, rfl, rfl, rfl, rfl, rfl, rfl, rfl, trivial⟩ ?_
  rintro ⟨p, acc⟩ ⟨h1, h2, f, hf, hsp⟩
  simp only at h1 h2 hf hsp
  have hal : (encR acc).length = acc.length := by simp [encR]
  refine ev_sound tabOk mixed _ _ _ _ ?_
  conv => whnf
  by_cases hp : p < s.length
  · obtain ⟨f, rfl⟩ : ∃ g, f = g + 1 := ⟨f - 1, by omega⟩
    rw [Gw.Name.spellF, if_pos hp] at hsp
    refine ⟨true, (decide_eq_true hp).symm, ?_⟩
    have d1 := Gw.Name.dec_pos s p
    have d2 := Gw.Name.dec_le s p
    conv => whnf
    refine ⟨fun h3 => ?_, fun h3 => ?_⟩
    · have h3 : ((Gw.Name.dec s p).1 : Int) ≠ 65533 := by
        have h3 : (((Gw.Name.dec s p).1 : Int) != 65533) = true := h3
        simpa using h3
      rw [if_pos (.inl h3)] at hsp
      conv => whnf
      refine ⟨⟨hal.symm, fits_small (by show (encR acc).length + 1 ≤ _; omega) (by decide)⟩, ?_⟩
      conv => whnf
      refine ⟨(p + (Gw.Name.dec s p).2, acc ++ [((Gw.Name.dec s p).1 : Int)]), ⟨by show p + _ ≤ _; omega, by show (acc ++ [_]).length ≤ p + _; rw [List.length_append, List.length_singleton]; omega, f, by show _ < f + (p + _); omega, hsp⟩, by show s.length - (p + _) < s.length - p; omega, rfl, rfl, ?_, rfl, rfl, rfl, rfl, rfl, ?_, rfl, rfl, rfl, trivial⟩
      · show C.v (V.lst false 1 (encR acc ++ [[V.int .i32 ((Gw.Name.dec s p).1 : Int)]]) _) = C.v (V.lst false 1 (encR (acc ++ [((Gw.Name.dec s p).1 : Int)])) _)
        unfold encR
        rw [List.map_append]
        rfl
      · show C.row _ 1 ((encR acc).length + 1) = C.row _ 1 (acc ++ [_]).length
        rw [hal, List.length_append]
        rfl
    · have h3 : ((Gw.Name.dec s p).1 : Int) = 65533 := by
        have h3 : (((Gw.Name.dec s p).1 : Int) != 65533) = false := h3
        simpa using h3
      have hpre := hasPrefix_pc (s.drop p) [239, 191, 189]
      conv => whnf
      refine ⟨by show 0 ≤ (p : Int) ∧ (p : Int).toNat ≤ s.length; omega, ?_⟩
      conv => whnf
      refine AC.of_pc hpre rfl ?_
      conv => whnf
      refine ⟨fun h4 => ?_, fun h4 => ?_⟩
      · rw [if_pos (.inr h4)] at hsp
        conv => whnf
        refine ⟨⟨hal.symm, fits_small (by show (encR acc).length + 1 ≤ _; omega) (by decide)⟩, ?_⟩
        conv => whnf
        refine ⟨(p + (Gw.Name.dec s p).2, acc ++ [((Gw.Name.dec s p).1 : Int)]), ⟨by show p + _ ≤ _; omega, by show (acc ++ [_]).length ≤ p + _; rw [List.length_append, List.length_singleton]; omega, f, by show _ < f + (p + _); omega, hsp⟩, by show s.length - (p + _) < s.length - p; omega, rfl, rfl, ?_, rfl, rfl, rfl, rfl, rfl, ?_, rfl, rfl, rfl, trivial⟩
        · show C.v (V.lst false 1 (encR acc ++ [[V.int .i32 ((Gw.Name.dec s p).1 : Int)]]) _) = C.v (V.lst false 1 (encR (acc ++ [((Gw.Name.dec s p).1 : Int)])) _)
          unfold encR
          rw [List.map_append]
          rfl
        · show C.row _ 1 ((encR acc).length + 1) = C.row _ 1 (acc ++ [_]).length
          rw [hal, List.length_append]
          rfl
      · rw [if_neg (by rw [h3, h4]; simp)] at hsp
        conv => whnf
        rw [hsp]
        rfl
  · refine ⟨false, (decide_eq_false hp).symm, ?_⟩
    have e : Gw.Name.spellF s f p acc = some acc := by
      cases f with
      | zero => rfl
      | succ f => rw [Gw.Name.spellF, if_neg hp]
    rw [e] at hsp
    rw [hsp]
    conv => whnf
    rfl

theorem nameCheck_pc (s : List UInt8) (hs : s.length ≤ 1048576) : PC Tryz.prog 30 [.str s] (.bool (Gw.Name.check s)) := by
  have h1 := spell_pc s hs
  have hlen : ∀ l, Gw.Name.spell s = some l → l.length ≤ 1048576 := fun l h => Nat.le_trans (Gw.Name.spell_len h) hs
  cases ho : Gw.Name.spell s with
  | none =>
    have e : Gw.Name.check s = false := by unfold Gw.Name.check; rw [ho]
    rw [ho] at h1
    rw [e]
    refine PC.of tabOk mixed (fn := Tryz.f30) (by kernel_rfl) rfl (by kernel_rfl) rfl rfl ?_
    conv => whnf
    refine AC.of_pc h1 rfl ?_
    conv => whnf
    refine ⟨fun _ => ?_, fun h => absurd h (by decide)⟩
    conv => whnf
  | some l =>
    have hl := hlen l ho
    have hel : (encR l).length = l.length := by simp [encR]
    have hb := containsFunc_pc false l (by omega)
    have e : Gw.Name.check s = Gw.Name.okL s l := by unfold Gw.Name.check; rw [ho]
    rw [ho] at h1
    rw [e]
    unfold Gw.Name.okL
    refine PC.of tabOk mixed (fn := Tryz.f30) (by kernel_rfl) rfl (by kernel_rfl) rfl rfl ?_
    conv => whnf
    refine AC.of_pc h1 rfl ?_
    conv => whnf
    refine ⟨fun h => absurd h (by decide), fun _ => ?_⟩
    conv => whnf
    refine ⟨fun h2 => ?_, fun h2 => ?_⟩
    · have h2 := of_decide_eq_true h2
      conv => whnf
      rw [decide_eq_true (by omega : l.length < 1)]; rfl
    have h2 := of_decide_eq_false h2
    rw [decide_eq_false (by omega : ¬ l.length < 1)]
    conv => whnf
    refine ⟨fun h3 => ?_, fun h3 => ?_⟩
    · have h3 := of_decide_eq_true h3
      conv => whnf
      rw [decide_eq_true (by omega : 20 < l.length)]; rfl
    have h3 := of_decide_eq_false h3
    rw [decide_eq_false (by omega : ¬ 20 < l.length)]
    conv => whnf
    refine ⟨fun h4 => ?_, fun h4 => ?_⟩
    · have h4 : s = [46] := of_decide_eq_true h4
      conv => whnf
      rw [decide_eq_true h4]; rfl
    have h4 : ¬ s = [46] := of_decide_eq_false h4
    rw [decide_eq_false h4]
    conv => whnf
    refine ⟨fun h5 => ?_, fun h5 => ?_⟩
    · have h5 : s = [46, 46] := of_decide_eq_true h5
      conv => whnf
      rw [decide_eq_true h5]; rfl
    have h5 : ¬ s = [46, 46] := of_decide_eq_false h5
    rw [decide_eq_false h5]
    conv => whnf
    refine AC.of_pc hb rfl ?_
    conv => whnf
    rfl
end Go.Proofs.YtipgfdepopfghaaGreat


namespace Go.Proofs.YtipgfdepopfghaaGreat
open Go.Am

theorem cmpR_pc (a b : Int) : PC Tryz.prog 122 [.int .i32 a, .int .i32 b] (.int .i64 (if a < b then -1 else if b < a then 1 else 0)) := by
  have hn : ∀ x : Int, PC Tryz.prog 136 [.int .i32 x] (.bool false) := fun x => by
    refine PC.of tabOk mixed (fn := Tryz.f136) (by kernel_rfl) rfl (by kernel_rfl) rfl rfl ?_
    conv => whnf
    show V.bool (x != x) = V.bool false
    simp
  refine PC.of tabOk mixed (fn := Tryz.f122) (by kernel_rfl) rfl (by kernel_rfl) rfl rfl ?_
  conv => whnf
  refine AC.of_pc (hn a) rfl ?_
  conv => whnf
  refine AC.of_pc (hn b) rfl ?_
  conv => whnf
  refine ⟨fun h => absurd h (by decide), fun _ => ?_⟩
  conv => whnf
  refine ⟨fun h => absurd h (by decide), fun _ => ?_⟩
  conv => whnf
  refine ⟨fun h => ?_, fun h => ?_⟩
  · rw [if_pos (of_decide_eq_true h)]
    conv => whnf
  rw [if_neg (of_decide_eq_false h)]
  conv => whnf
  refine ⟨fun h => ?_, fun h => ?_⟩
  · rw [if_pos (of_decide_eq_true h)]
    conv => whnf
  rw [if_neg (of_decide_eq_false h)]
  conv => whnf
theorem encR_len (l : List Int) : (encR l).length = l.length := by simp [encR]
theorem encR_get {l : List Int} {k : Nat} (h : k < l.length) : (encR l)[k]? = some [.int .i32 l[k]] := by unfold encR; rw [List.getElem?_map, List.getElem?_eq_getElem h]; rfl
theorem compare_pc (n1 n2 : Bool) (a b : List Int) (ha : a.length ≤ 4611686018427387904) : PC Tryz.prog 105 [.lst n1 1 (encR a) .none, .lst n2 1 (encR b) .none] (.int .i64 (Gw.Name.cmpL a b)) := by
  refine PC.of tabOk mixed (fn := Tryz.f105) (by kernel_rfl) rfl (by kernel_rfl) rfl rfl ?_
  have hla := encR_len a
  have hlb := encR_len b
  conv => whnf
  refine AW.loop (fun k : Nat => [(.tmp 0, .v (.lst n1 1 (encR a) .none)), (.tmp 1, .v (.lst n2 1 (encR b) .none)), (.tmp 9, .v (.lst n1 1 (encR a) .none)), (.tmp 10, .v (.int .i64 (a.length : Nat))), (.tmp 11, .v (.int .i64 k))])
    0 (fun k => k ≤ a.length ∧ k ≤ b.length ∧ Gw.Name.cmpL a b = Gw.Name.cmpL (a.drop k) (b.drop k)) (fun k => a.length - k) (by decide) 0 ⟨Nat.zero_le _, Nat.zero_le _, rfl⟩ ⟨rfl, rfl, rfl, rfl, rfl, rfl, ?_, rfl, rfl, rfl, trivial⟩ ?_
  · show C.v (V.int .i64 ((encR a).length : Nat)) = _
    rw [hla]
  rintro k ⟨hk, hkb, hcm⟩
  refine ev_sound tabOk mixed _ _ _ _ ?_
  conv => whnf
  refine ⟨fun h => ?_, fun h => ?_⟩
  · have h := of_decide_eq_true h
    have hlt : k < a.length := by omega
    have hg := encR_get hlt
    rw [List.drop_eq_getElem_cons hlt] at hcm
    conv => whnf
    refine ⟨_, ⟨by omega, hg⟩, ?_⟩
    conv => whnf
    refine ⟨fun h => ?_, fun h => ?_⟩
    · have h := of_decide_eq_true h
      rw [show b.drop k = [] from List.drop_of_length_le (by omega), Gw.Name.cmpL] at hcm
      rw [hcm]
      conv => whnf
    have h := of_decide_eq_false h
    have hlt2 : k < b.length := by omega
    have hg2 := encR_get hlt2
    have hc := cmpR_pc a[k] b[k]
    rw [List.drop_eq_getElem_cons hlt2, Gw.Name.cmpL] at hcm
    conv => whnf
    refine ⟨_, ⟨by omega, hg2⟩, ?_⟩
    conv => whnf
    refine AC.of_pc hc rfl ?_
    by_cases c1 : a[k] < b[k]
    · rw [if_pos c1] at hcm ⊢
      rw [hcm]
      conv => whnf
      refine ⟨fun _ => ?_, fun h => absurd h (by decide)⟩
      conv => whnf
    by_cases c2 : b[k] < a[k]
    · rw [if_neg c1, if_pos c2] at hcm ⊢
      rw [hcm]
      conv => whnf
      refine ⟨fun _ => ?_, fun h => absurd h (by decide)⟩
      conv => whnf
    rw [if_neg c1, if_neg c2] at hcm ⊢
    conv => whnf
    refine ⟨fun h => absurd h (by decide), fun _ => ?_⟩
    conv => whnf
    refine ⟨k + 1, ⟨by omega, by omega, hcm⟩, by show a.length - (k + 1) < a.length - k; omega, rfl, rfl, rfl, rfl, rfl, rfl, rfl, rfl, ?_, rfl, trivial⟩
    show C.v (V.int .i64 (IntKind.i64.wrap ((k : Int) + 1))) = C.v (V.int .i64 ((k + 1 : Nat) : Int))
    rw [w64 (by omega) (by omega)]; rfl
  · have h := of_decide_eq_false h
    have hke : k = a.length := by omega
    rw [hke, List.drop_length] at hcm
    conv => whnf
    refine ⟨fun h => ?_, fun h => ?_⟩
    · have h := of_decide_eq_true h
      have hlt2 : a.length < b.length := by omega
      rw [List.drop_eq_getElem_cons hlt2, Gw.Name.cmpL] at hcm
      rw [hcm]
      conv => whnf
    · have h := of_decide_eq_false h
      rw [List.drop_of_length_le (by omega), Gw.Name.cmpL] at hcm
      rw [hcm]
      conv => whnf
theorem ranks_len (s : List UInt8) : (Gw.Name.ranks s).length ≤ s.length := by
  unfold Gw.Name.ranks
  cases h : Gw.Name.spell s with
  | none => simp
  | some l => exact Gw.Name.spell_len h
theorem ranks_pc (s : List UInt8) (hs : s.length ≤ 1048576) : PC Tryz.prog 106 [.str s] (.lst false 1 (encR (Gw.Name.ranks s)) .none) := by
  have h1 := spell_pc s hs
  unfold Gw.Name.ranks
  cases ho : Gw.Name.spell s with
  | some l =>
    rw [ho] at h1
    refine PC.of tabOk mixed (fn := Tryz.f106) (by kernel_rfl) rfl (by kernel_rfl) rfl rfl ?_
    conv => whnf
    refine AC.of_pc h1 rfl ?_
    conv => whnf
    refine ⟨fun _ => ?_, fun h => absurd h (by decide)⟩
    conv => whnf
  | none =>
    rw [ho] at h1
    refine PC.of tabOk mixed (fn := Tryz.f106) (by kernel_rfl) rfl (by kernel_rfl) rfl rfl ?_
    conv => whnf
    refine AC.of_pc h1 rfl ?_
    conv => whnf
    refine ⟨fun h => absurd h (by decide), fun _ => ?_⟩
    conv => whnf
    refine ⟨⟨by omega, fits_small (by rw [Int.toNat_natCast]; omega) (by decide)⟩, ?_⟩
    conv => whnf
    refine AW.loop (fun k : Nat => [(.tmp 0, .v (.str s)), (.tmp 3, .v (.lst false 1 (encR ((s.take k).map fun b => (1114112 + b.toNat : Int))) (.row 10))), (.tmp 17, .v (.int .i64 (s.length : Nat))), (.tmp 18, .v (.int .i64 k)), (.row 10, .row 21 1 k)])
      11 (fun k => k ≤ s.length) (fun k => s.length - k) (by decide) 0 (Nat.zero_le _) ⟨rfl, rfl, rfl, rfl, rfl, rfl, rfl, rfl, rfl, rfl, trivial⟩ ?_
    rintro k hk
    have hel : (encR ((s.take k).map fun b => (1114112 + b.toNat : Int))).length = k := by rw [encR_len, List.length_map, List.length_take]; omega
    refine ev_sound tabOk mixed _ _ _ _ ?_
    conv => whnf
    refine ⟨fun h => ?_, fun h => ?_⟩
    · have h := of_decide_eq_true h
      have hlt : k < s.length := by omega
      have hb := s[k].toNat_lt
      conv => whnf
      refine ⟨s[k], ⟨by omega, List.getElem?_eq_getElem hlt⟩, ?_⟩
      conv => whnf
      refine ⟨⟨hel.symm, fits_small (by show (encR _).length + 1 ≤ _; rw [hel]; omega) (by decide)⟩, ?_⟩
      conv => whnf
      refine ⟨k + 1, by show k + 1 ≤ _; omega, by show s.length - (k + 1) < s.length - k; omega, rfl, rfl, ?_, rfl, rfl, rfl, ?_, rfl, ?_, rfl, trivial⟩
      · show C.v (V.lst false 1 (encR ((s.take k).map fun b => (1114112 + b.toNat : Int)) ++ [[V.int .i32 (IntKind.i32.wrap (IntKind.i32.wrap (1114111 + IntKind.i32.wrap (s[k].toNat : Int)) + 1))]]) _) = C.v (V.lst false 1 (encR ((s.take (k + 1)).map fun b => (1114112 + b.toNat : Int))) _)
        rw [List.take_succ_eq_append_getElem hlt, List.map_append, encR, encR, List.map_append]
        have e : IntKind.i32.wrap (IntKind.i32.wrap (1114111 + IntKind.i32.wrap (s[k].toNat : Int)) + 1) = 1114112 + (s[k].toNat : Int) := by
          simp only [IntKind.wrap_i32]; omega
        rw [e]; rfl
      · show C.v (V.int .i64 (IntKind.i64.wrap ((k : Int) + 1))) = C.v (V.int .i64 ((k + 1 : Nat) : Int))
        rw [w64 (by omega) (by omega)]; rfl
      · show C.row _ 1 ((encR _).length + 1) = C.row _ 1 (k + 1)
        rw [hel]
    · have h := of_decide_eq_false h
      obtain rfl : k = s.length := by omega
      rw [List.take_length]
      conv => whnf
theorem nameLess_pc (a b : List UInt8) (ha : a.length ≤ 1048576) (hb : b.length ≤ 1048576) : PC Tryz.prog 74 [.str a, .str b] (.bool (Gw.Name.less a b)) := by
  have hc := compare_pc false false (Gw.Name.ranks a) (Gw.Name.ranks b) (by have := ranks_len a; omega)
  refine PC.of tabOk mixed (fn := Tryz.f74) (by kernel_rfl) rfl (by kernel_rfl) rfl rfl ?_
  conv => whnf
  refine AC.of_pc (ranks_pc a ha) rfl ?_
  conv => whnf
  refine AC.of_pc (ranks_pc b hb) rfl ?_
  conv => whnf
  refine AC.of_pc hc rfl ?_
  conv => whnf
  rfl
end Go.Proofs.YtipgfdepopfghaaGreat
