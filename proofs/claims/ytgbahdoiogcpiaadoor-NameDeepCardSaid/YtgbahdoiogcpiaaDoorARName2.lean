/- What the document's answer for paths and the order of texts computes: told without addresses. No claim of its own. -/
import Derived.Test.YtgbahdoiogcpiaaDoorARName0
import Derived.Test.YtgbahdoiogcpiaaDoorAName2
import Derived.Test.YtgbahdoiogcpiaaDoorRNameLaw
namespace Go.Proofs.YtgbahdoiogcpiaaDoor
open Go.Am

theorem rcheck_pc (s : List UInt8) (hs : s.length ≤ 1048576) : PC Tryd.prog 18 [.str s] (.bool (Gw.Name.check s)) := by
  rw [← Gw.RName.check_same]
  exact rnameCheck_pc s hs (fun l h => Nat.le_trans (Gw.RName.all_len h) hs)
theorem rrunes_pc (s : List UInt8) (hs : s.length ≤ 1048576) : PC Tryd.prog 12 [.str s] (runesV (Gw.Name.spell s)) := by
  have h1 := rall_pc s hs
  rw [← Gw.RName.spell_all] at h1
  cases ho : Gw.Name.spell s with
  | none =>
    rw [ho] at h1
    refine PC.of tabOk mixed (fn := Tryd.f12) (by kernel_rfl) rfl (by kernel_rfl) rfl rfl ?_
    conv => whnf
    refine AC.of_pc h1 rfl ?_
    conv => whnf
    rfl
  | some l =>
    rw [ho] at h1
    refine PC.of tabOk mixed (fn := Tryd.f12) (by kernel_rfl) rfl (by kernel_rfl) rfl rfl ?_
    conv => whnf
    refine AC.of_pc h1 rfl ?_
    conv => whnf
    show V.tup [.int .i64 ((encI l).length : Nat), .bool true] = _
    simp [encI, runesV]
theorem keys_pc (s : List UInt8) (hs : s.length ≤ 1048576) : ∃ q : Bool, PC Tryd.prog 32 [.str s] (.lst q 1 (encI (Gw.Name.ranks s)) .none) := by
  have h1 := rall_pc s hs
  rw [← Gw.RName.spell_all] at h1
  unfold Gw.Name.ranks
  cases ho : Gw.Name.spell s with
  | some l =>
    rw [ho] at h1
    refine ⟨decide (l = []), ?_⟩
    refine PC.of tabOk mixed (fn := Tryd.f32) (by kernel_rfl) rfl (by kernel_rfl) rfl rfl ?_
    conv => whnf
    refine AC.of_pc h1 rfl ?_
    conv => whnf
    refine ⟨fun _ => ?_, fun h => absurd h (by decide)⟩
    conv => whnf
  | none =>
    rw [ho] at h1
    refine ⟨decide (s.take s.length = []), ?_⟩
    refine PC.of tabOk mixed (fn := Tryd.f32) (by kernel_rfl) rfl (by kernel_rfl) rfl rfl ?_
    conv => whnf
    refine AC.of_pc h1 rfl ?_
    conv => whnf
    refine ⟨fun h => absurd h (by decide), fun _ => ?_⟩
    conv => whnf
    refine AW.row 5 3 1 rfl rfl (.inr rfl) ?_
    refine AW.loop (fun k : Nat => [(.tmp 0, .v (.str s)), (.tmp 5, .v (.lst (decide (s.take k = [])) 1 (encI ((s.take k).map fun b => (1114112 + b.toNat : Int))) (.row 10))), (.tmp 6, .v (.int .i64 k)), (.row 10, .row 3 1 k)])
      11 (fun k => k ≤ s.length) (fun k => s.length - k) (by decide) 0 (Nat.zero_le _) ⟨rfl, rfl, rfl, rfl, rfl, rfl, rfl, rfl, trivial⟩ ?_
    rintro k hk
    have hel : (encI ((s.take k).map fun b => (1114112 + b.toNat : Int))).length = k := by rw [encI_len, List.length_map, List.length_take]; omega
    refine ev_sound tabOk mixed _ _ _ _ ?_
    conv => whnf
    refine ⟨fun h => ?_, fun h => ?_⟩
    · have h := of_decide_eq_true h
      have hlt : k < s.length := by omega
      have hb := s[k].toNat_lt
      conv => whnf
      refine ⟨s[k], ⟨by omega, List.getElem?_eq_getElem hlt⟩, ?_⟩
      conv => whnf
      refine ⟨⟨hel.symm, fits_small (by show (encI _).length + 1 ≤ _; rw [hel]; omega) (by decide)⟩, ?_⟩
      conv => whnf
      refine ⟨k + 1, by show k + 1 ≤ _; omega, by show s.length - (k + 1) < s.length - k; omega, rfl, rfl, ?_, rfl, ?_, rfl, ?_, rfl, trivial⟩
      · show C.v (V.lst (decide (s.take k = []) && false) 1 (encI ((s.take k).map fun b => (1114112 + b.toNat : Int)) ++ [[V.int .i64 (IntKind.i64.wrap (1114112 + IntKind.i64.wrap (s[k].toNat : Int)))]]) _) = C.v (V.lst (decide (s.take (k + 1) = [])) 1 (encI ((s.take (k + 1)).map fun b => (1114112 + b.toNat : Int))) _)
        rw [List.take_succ_eq_append_getElem hlt, List.map_append, encI, encI, List.map_append, Bool.and_false, decide_eq_false (fun e => by have := congrArg List.length e; rw [List.length_append] at this; simp at this)]
        rw [w64 (x := (s[k].toNat : Int)) (by omega) (by omega), w64 (by omega) (by omega)]; rfl
      · show C.v (V.int .i64 (IntKind.i64.wrap ((k : Int) + 1))) = C.v (V.int .i64 ((k + 1 : Nat) : Int))
        rw [w64 (by omega) (by omega)]; rfl
      · show C.row _ 1 ((encI _).length + 1) = C.row _ 1 (k + 1)
        rw [hel]
    · have h := of_decide_eq_false h
      obtain rfl : k = s.length := by omega
      conv => whnf
      rw [List.take_length]
theorem encI_get {l : List Int} {k : Nat} (h : k < l.length) : (encI l)[k]? = some [.int .i64 l[k]] := by unfold encI; rw [List.getElem?_map, List.getElem?_eq_getElem h]; rfl
theorem rless_pc (a b : List UInt8) (ha : a.length ≤ 1048576) (hb : b.length ≤ 1048576) : PC Tryd.prog 20 [.str a, .str b] (.bool (Gw.Name.less a b)) := by
  obtain ⟨q1, h1⟩ := keys_pc a ha
  obtain ⟨q2, h2⟩ := keys_pc b hb
  have hx := ranks_len a
  have hy := ranks_len b
  unfold Gw.Name.less
  generalize Gw.Name.ranks a = x at h1 hx
  generalize Gw.Name.ranks b = y at h2 hy
  have hlx := encI_len x
  have hly := encI_len y
  refine PC.of tabOk mixed (fn := Tryd.f20) (by kernel_rfl) rfl (by kernel_rfl) rfl rfl ?_
  conv => whnf
  refine AC.of_pc h1 rfl ?_
  conv => whnf
  refine AC.of_pc h2 rfl ?_
  conv => whnf
  refine AW.loop (fun k : Nat => [(.tmp 5, .v (.lst q1 1 (encI x) .none)), (.tmp 6, .v (.lst q2 1 (encI y) .none)), (.tmp 7, .v (.int .i64 k))])
    0 (fun k => k ≤ x.length ∧ k ≤ y.length ∧ Gw.Name.cmpL x y = Gw.Name.cmpL (x.drop k) (y.drop k)) (fun k => x.length - k) (by decide) 0 ⟨Nat.zero_le _, Nat.zero_le _, rfl⟩ ⟨rfl, rfl, rfl, rfl, rfl, rfl, trivial⟩ ?_
  rintro k ⟨hk, hkb, hcm⟩
  refine ev_sound tabOk mixed _ _ _ _ ?_
  conv => whnf
  refine ⟨fun h => ?_, fun h => ?_⟩
  · have h := of_decide_eq_true h
    have hlt : k < x.length := by omega
    conv => whnf
    refine ⟨fun h3 => ?_, fun h3 => ?_⟩
    · have h3 := of_decide_eq_true h3
      have hlt2 : k < y.length := by omega
      rw [List.drop_eq_getElem_cons hlt, List.drop_eq_getElem_cons hlt2, Gw.Name.cmpL] at hcm
      conv => whnf
      refine ⟨_, ⟨by omega, encI_get hlt⟩, ?_⟩
      conv => whnf
      refine ⟨_, ⟨by omega, encI_get hlt2⟩, ?_⟩
      conv => whnf
      refine ⟨by kernel_rfl, ?_⟩
      conv => whnf
      refine ⟨fun h4 => ?_, fun h4 => ?_⟩
      · have h4 : x[k] ≠ y[k] := by simpa using h4
        conv => whnf
        refine ⟨_, ⟨by omega, encI_get hlt⟩, ?_⟩
        conv => whnf
        refine ⟨_, ⟨by omega, encI_get hlt2⟩, ?_⟩
        conv => whnf
        refine ⟨by kernel_rfl, ?_⟩
        conv => whnf
        rw [hcm]
        by_cases c : x[k] < y[k]
        · rw [if_pos c, decide_eq_true c]; rfl
        · rw [if_neg c, decide_eq_false c, if_pos (by omega)]; rfl
      · have h4 : x[k] = y[k] := by simpa using h4
        rw [if_neg (by omega), if_neg (by omega)] at hcm
        conv => whnf
        refine ⟨k + 1, ⟨by omega, by omega, hcm⟩, by show x.length - (k + 1) < x.length - k; omega, rfl, rfl, rfl, rfl, ?_, rfl, trivial⟩
        show C.v (V.int .i64 (IntKind.i64.wrap ((k : Int) + 1))) = C.v (V.int .i64 ((k + 1 : Nat) : Int))
        rw [w64 (by omega) (by omega)]; rfl
    · have h3 := of_decide_eq_false h3
      rw [List.drop_eq_getElem_cons hlt, show y.drop k = [] from List.drop_of_length_le (by omega), Gw.Name.cmpL] at hcm
      rw [hcm]
      conv => whnf
      rw [hlx, hly, decide_eq_false (by omega)]; rfl
  · have h := of_decide_eq_false h
    rw [show x.drop k = [] from List.drop_of_length_le (by omega)] at hcm
    rw [hcm]
    conv => whnf
    rw [hlx, hly]
    by_cases c : k < y.length
    · rw [List.drop_eq_getElem_cons c, Gw.Name.cmpL, decide_eq_true (by omega)]; rfl
    · rw [show y.drop k = [] from List.drop_of_length_le (by omega), Gw.Name.cmpL, decide_eq_false (by omega)]; rfl
theorem same_pc (n1 n2 : Bool) (a b : List (List UInt8)) (ha : a.length ≤ 4611686018427387904) : PC Tryd.prog 21 [.lst n1 1 (encT a) .none, .lst n2 1 (encT b) .none] (.bool (decide (a = b))) := by
  have hla := encT_len a
  have hlb := encT_len b
  refine PC.of tabOk mixed (fn := Tryd.f21) (by kernel_rfl) rfl (by kernel_rfl) rfl rfl ?_
  conv => whnf
  refine ⟨fun h => ?_, fun h => ?_⟩
  · have h : ((encT a).length : Int) ≠ ((encT b).length : Int) := by simpa using h
    rw [decide_eq_false (fun e => h (by rw [e]))]
    conv => whnf
  have h : ((encT a).length : Int) = ((encT b).length : Int) := by
    have h : (((encT a).length : Int) != ((encT b).length : Int)) = false := h
    simpa using h
  conv => whnf
  refine AW.loop (fun k : Nat => [(.tmp 0, .v (.lst n1 1 (encT a) .none)), (.tmp 1, .v (.lst n2 1 (encT b) .none)), (.tmp 5, .v (.int .i64 k))])
    0 (fun k => k ≤ a.length ∧ a.take k = b.take k) (fun k => a.length - k) (by decide) 0 ⟨Nat.zero_le _, rfl⟩ ⟨rfl, rfl, rfl, rfl, rfl, rfl, trivial⟩ ?_
  rintro k ⟨hk, he⟩
  refine ev_sound tabOk mixed _ _ _ _ ?_
  conv => whnf
  refine ⟨fun h => ?_, fun h => ?_⟩
  · have h := of_decide_eq_true h
    have hlt : k < a.length := by omega
    have hlt2 : k < b.length := by omega
    conv => whnf
    refine ⟨_, ⟨by omega, encT_get hlt⟩, ?_⟩
    conv => whnf
    refine ⟨_, ⟨by omega, encT_get hlt2⟩, ?_⟩
    conv => whnf
    refine ⟨by kernel_rfl, ?_⟩
    conv => whnf
    refine ⟨fun h4 => ?_, fun h4 => ?_⟩
    · have h4 : ¬ a[k] = b[k] := by simpa using h4
      rw [show decide (a = b) = false from decide_eq_false (fun e => h4 (by subst e; rfl))]
      conv => whnf
    · have h4 : a[k] = b[k] := by simpa using h4
      conv => whnf
      refine ⟨k + 1, ⟨by omega, by rw [List.take_succ_eq_append_getElem hlt, List.take_succ_eq_append_getElem hlt2, he, h4]⟩, by show a.length - (k + 1) < a.length - k; omega, rfl, rfl, rfl, rfl, ?_, rfl, trivial⟩
      show C.v (V.int .i64 (IntKind.i64.wrap ((k : Int) + 1))) = C.v (V.int .i64 ((k + 1 : Nat) : Int))
      rw [w64 (by omega) (by omega)]; rfl
  · have h := of_decide_eq_false h
    have e : a = b := by
      rw [List.take_of_length_le (by omega), List.take_of_length_le (by omega)] at he
      exact he
    rw [decide_eq_true e]
    conv => whnf
theorem rjoin_pc (n : Bool) (l : List (List UInt8)) (hl : ∀ t ∈ l, t.length ≤ 1000) (hn : l.length ≤ 1048576) : PC Tryd.prog 16 [.lst n 1 (encT l) .none] (joinV (Gw.Name.join l)) := by
  have hel := encT_len l
  by_cases h0 : l = []
  · subst h0
    refine PC.of tabOk mixed (fn := Tryd.f16) (by kernel_rfl) rfl (by kernel_rfl) rfl rfl ?_
    conv => whnf
    refine ⟨fun _ => ?_, fun h => absurd h (by decide)⟩
    conv => whnf
    rfl
  have hpos := List.length_pos_iff.2 h0
  have hglue : 47 :: Gw.Name.glue l = glT l := by
    cases l with
    | nil => exact absurd rfl h0
    | cons x r => rfl
  unfold Gw.Name.join
  rw [hglue]
  unfold Gw.Name.fit
  refine PC.of tabOk mixed (fn := Tryd.f16) (by kernel_rfl) rfl (by kernel_rfl) rfl rfl ?_
  conv => whnf
  refine ⟨fun h => ?_, fun h => ?_⟩
  · have h : ((encT l).length : Int) = 0 := by simpa using h
    omega
  conv => whnf
  refine AW.loop (fun k : Nat => [(.tmp 0, .v (.lst n 1 (encT l) .none)), (.tmp 4, .v (.str (glT (l.take k)))), (.tmp 5, .v (.int .i64 k))])
    0 (fun k => k ≤ l.length ∧ k ≤ 16 ∧ (l.take k).all Gw.Name.check = true ∧ (glT (l.take k)).length ≤ k * 1001) (fun k => l.length - k) (by decide) 0 ⟨Nat.zero_le _, Nat.zero_le _, rfl, Nat.le_refl _⟩ ⟨rfl, rfl, rfl, rfl, rfl, rfl, trivial⟩ ?_
  rintro k ⟨hk, hk16, hall, hgl⟩
  refine ev_sound tabOk mixed _ _ _ _ ?_
  conv => whnf
  refine ⟨fun h => ?_, fun h => ?_⟩
  · have h := of_decide_eq_true h
    have hlt : k < l.length := by omega
    have hle := hl _ (List.getElem_mem hlt)
    have hc := rcheck_pc l[k] (by omega)
    have hsu := glT_succ hlt
    conv => whnf
    refine ⟨_, ⟨by omega, encT_get hlt⟩, ?_⟩
    conv => whnf
    refine AC.of_pc hc rfl ?_
    cases hq : Gw.Name.check l[k] with
    | false =>
      have e : l.all Gw.Name.check = false := by
        rw [Bool.eq_false_iff]; intro h2
        rw [List.all_eq_true.1 h2 _ (List.getElem_mem hlt)] at hq; cases hq
      rw [e, Bool.and_false, if_neg (by decide)]
      conv => whnf
      refine ⟨fun _ => ?_, fun h => absurd h (by decide)⟩
      conv => whnf
      rfl
    | true =>
      conv => whnf
      refine ⟨fun h => absurd h (by decide), fun _ => ?_⟩
      conv => whnf
      refine ⟨fun h2 => ?_, fun h2 => ?_⟩
      · have h2 : (k : Int) = 16 := by simpa using h2
        rw [show decide (l.length ≤ 16) = false from decide_eq_false (by omega), Bool.false_and, if_neg (by decide)]
        conv => whnf
        rfl
      · have h2 : ¬ (k : Int) = 16 := by simpa using h2
        conv => whnf
        refine ⟨by show (glT (l.take k)).length + ([47] : List UInt8).length < _; simp only [List.length_cons, List.length_nil]; omega, ?_⟩
        conv => whnf
        refine ⟨_, ⟨by omega, encT_get hlt⟩, ?_⟩
        conv => whnf
        refine ⟨by show (glT (l.take k) ++ ([47] : List UInt8)).length + l[k].length < _; simp only [List.length_append, List.length_cons, List.length_nil]; omega, ?_⟩
        conv => whnf
        refine ⟨k + 1, ⟨by omega, by omega, by rw [List.take_succ_eq_append_getElem hlt, List.all_append, hall]; simp [hq], by rw [hsu]; simp only [List.length_append, List.length_cons, List.length_nil]; omega⟩, by show l.length - (k + 1) < l.length - k; omega, rfl, rfl, ?_, rfl, ?_, rfl, trivial⟩
        · show C.v (V.str _) = C.v (V.str (glT (l.take (k + 1))))
          rw [hsu]
        · show C.v (V.int .i64 (IntKind.i64.wrap ((k : Int) + 1))) = C.v (V.int .i64 ((k + 1 : Nat) : Int))
          rw [w64 (by omega) (by omega)]; rfl
  · have h := of_decide_eq_false h
    obtain rfl : k = l.length := by omega
    rw [List.take_length] at hall
    rw [hall, show decide (l.length ≤ 16) = true from decide_eq_true hk16, Bool.true_and, if_pos rfl, List.take_length]
    conv => whnf
    rfl
theorem split_at {s : List UInt8} {m : Nat} (h : (s.take m).count 47 = 0) (hm : m < s.length) (h47 : s[m] = 47) : Gw.Name.split s = s.take m :: Gw.Name.split (s.drop (m + 1)) := by
  induction s generalizing m with
  | nil => simp at hm
  | cons b l ih =>
    cases m with
    | zero =>
      have hb : b = 47 := h47
      rw [Gw.Name.split, if_pos hb]; rfl
    | succ m =>
      rw [List.take_succ_cons, List.count_cons] at h
      have hb : b ≠ 47 := fun e => by rw [if_pos (by simp [e])] at h; omega
      rw [if_neg (by simp [hb])] at h
      rw [Gw.Name.split, if_neg hb, ih (by omega) (by simp at hm; omega) (by simpa using h47)]
      rfl
/-- What is left from a place on. -/
def remT (p : List UInt8) (k : Nat) : List (List UInt8) := if k ≤ p.length then Gw.Name.split (p.drop k) else []
set_option maxHeartbeats 1000000 in
theorem rsplit1_pc (p : List UInt8) (hp : p.length ≤ 100000) (hl2 : 2 ≤ p.length) (h00 : p[0]? = some 47) : PC Tryd.prog 14 [.str p] (pathsV (if Gw.Name.fit (Gw.Name.split (p.drop 1)) = true then some (Gw.Name.split (p.drop 1)) else none)) := by
      have hzero : ¬ ((p.length : Int) == 0) = true := by simp only [beq_iff_eq]; omega
      generalize hS : Gw.Name.split (p.drop 1) = S
      refine PC.of tabOk mixed (fn := Tryd.f14) (by kernel_rfl) rfl (by kernel_rfl) rfl rfl ?_
      conv => whnf
      refine ⟨fun h => absurd h hzero, fun _ => ?_⟩
      conv => whnf
      refine ⟨47, ⟨by decide, h00⟩, ?_⟩
      conv => whnf
      refine ⟨fun h => absurd h (by decide), fun _ => ?_⟩
      conv => whnf
      refine ⟨fun h => ?_, fun _ => ?_⟩
      · have h : (p.length : Int) = 1 := by simpa using h
        omega
      conv => whnf
      refine AW.row 4 9 1 rfl rfl (.inr rfl) ?_
      refine AW.loop (X := List (List UInt8) × Nat × Nat) (fun x => [(.tmp 0, .v (.str p)), (.tmp 4, .v (.lst (decide (x.1 = [])) 1 (encT x.1) (.row 16))), (.tmp 5, .v (.int .i64 x.2.1)), (.tmp 6, .v (.int .i64 x.2.2)), (.row 16, .row 9 1 x.1.length)])
        17 (fun x => 1 ≤ x.2.1 ∧ x.2.1 ≤ x.2.2 ∧ x.2.2 ≤ p.length + 1 ∧ (x.2.2 ≤ p.length ∨ x.2.1 = p.length + 1) ∧ ((p.drop x.2.1).take (x.2.2 - x.2.1)).count 47 = 0 ∧ x.1.length ≤ 16 ∧ x.1.all Gw.Name.check = true ∧ S = x.1 ++ remT p x.2.1) (fun x => p.length + 1 - x.2.2) (by decide) ([], 1, 1)
        ⟨Nat.le_refl _, Nat.le_refl _, by show 1 ≤ _; omega, .inl (by show 1 ≤ _; omega), by simp, by simp, rfl, by unfold remT; rw [if_pos (by show 1 ≤ _; omega)]; exact hS.symm⟩ ⟨rfl, rfl, rfl, rfl, rfl, rfl, rfl, rfl, ?_, rfl, trivial⟩ ?_
      · rfl
      rintro ⟨out, fr, i⟩ ⟨h1, h2, h3, h4, h5, h6, h7, h8⟩
      simp only at h1 h2 h3 h4 h5 h6 h7 h8
      have hol := encT_len out
      refine ev_sound tabOk mixed _ _ _ _ ?_
      conv => whnf
      refine ⟨fun h => ?_, fun h => ?_⟩
      · have h : i ≤ p.length := by
          have h : (i : Int) ≤ (p.length : Int) := of_decide_eq_true h
          omega
        have hfr : fr ≤ p.length := by omega
        -- the part that ends here
        have cut : (i = p.length ∨ ∃ h : i < p.length, p[i] = 47) → remT p fr = (p.take i).drop fr :: remT p (i + 1) := by
          intro hc
          have e1 : (p.take i).drop fr = (p.drop fr).take (i - fr) := by rw [List.drop_take]
          rw [e1]
          unfold remT
          rw [if_pos hfr]
          rcases hc with hc | ⟨hc, h47⟩
          · rw [if_neg (by omega)]
            have e2 : (p.drop fr).take (i - fr) = p.drop fr := List.take_of_length_le (by rw [List.length_drop]; omega)
            rw [e2] at h5 ⊢
            exact Gw.Name.idx_none h5
          · rw [if_pos (by omega), split_at h5 (by rw [List.length_drop]; omega) (by rw [List.getElem_drop]; simp only [show fr + (i - fr) = i by omega]; exact h47), List.drop_drop]
            congr 3; omega
        have hpl : ((p.take i).drop fr).length ≤ 1048576 := by rw [List.length_drop, List.length_take]; omega
        have hck := rcheck_pc _ hpl
        conv => whnf
        refine ⟨fun h9 => ?_, fun h9 => ?_⟩
        · have h9 : i < p.length := by
            have h9 : (i : Int) < (p.length : Int) := of_decide_eq_true h9
            omega
          conv => whnf
          refine ⟨p[i], ⟨by omega, List.getElem?_eq_getElem h9⟩, ?_⟩
          conv => whnf
          refine ⟨fun h10 => ?_, fun h10 => ?_⟩
          · have h10 : p[i] ≠ 47 := fun e => by
              have h10 : ((p[i].toNat : Int) != 47) = true := h10
              rw [e] at h10; exact absurd h10 (by decide)
            conv => whnf
            refine ⟨(out, fr, i + 1), ⟨h1, by show fr ≤ i + 1; omega, by show i + 1 ≤ _; omega, .inl (by show i + 1 ≤ _; omega), ?_, h6, h7, h8⟩, by show p.length + 1 - (i + 1) < p.length + 1 - i; omega, rfl, rfl, rfl, rfl, rfl, rfl, ?_, rfl, rfl, rfl, trivial⟩
            · show ((p.drop fr).take (i + 1 - fr)).count 47 = 0
              rw [show i + 1 - fr = (i - fr) + 1 by omega, List.take_succ_eq_append_getElem (by rw [List.length_drop]; omega), List.count_append, h5, List.getElem_drop]
              simp only [show fr + (i - fr) = i by omega]
              rw [List.count_singleton, if_neg (by simpa using h10)]
            · show C.v (V.int .i64 (IntKind.i64.wrap ((i : Int) + 1))) = C.v (V.int .i64 ((i + 1 : Nat) : Int))
              rw [w64 (by omega) (by omega)]; rfl
          · have h10 : p[i] = 47 := by
              have h10 : ((p[i].toNat : Int) != 47) = false := h10
              have h10 : p[i].toNat = 47 := by simp at h10; omega
              exact UInt8.toNat_inj.1 h10
            have hcut := cut (.inr ⟨h9, h10⟩)
            have h8 : S = out ++ (p.take i).drop fr :: remT p (i + 1) := h8.trans (congrArg (out ++ ·) hcut)
            generalize hpc : (p.take i).drop fr = piece at hck h8
            conv => whnf
            refine ⟨by show 0 ≤ (fr : Int) ∧ (fr : Int) ≤ (i : Int) ∧ (i : Int).toNat ≤ p.length; omega, ?_⟩
            conv => whnf
            refine AC.of_pc (show PC _ _ [.str ((p.take (i : Int).toNat).drop (fr : Int).toNat)] _ by rw [Int.toNat_natCast, Int.toNat_natCast, hpc]; exact hck) rfl ?_
            cases hq : Gw.Name.check piece with
            | false =>
              have e : Gw.Name.fit S = false := by
                unfold Gw.Name.fit
                rw [h8, List.all_append, List.all_cons, hq, Bool.false_and, Bool.and_false, Bool.and_false]
              rw [e, if_neg (by decide)]
              conv => whnf
              refine ⟨fun _ => ?_, fun h => absurd h (by decide)⟩
              conv => whnf
              rfl
            | true =>
              conv => whnf
              refine ⟨fun h => absurd h (by decide), fun _ => ?_⟩
              conv => whnf
              refine ⟨fun h2 => ?_, fun h2 => ?_⟩
              · have h2 : ((encT out).length : Int) = 16 := by
                  have h2 : (((encT out).length : Int) == 16) = true := h2
                  simpa using h2
                have e : Gw.Name.fit S = false := by
                  unfold Gw.Name.fit
                  rw [show decide (S.length ≤ 16) = false from decide_eq_false (by rw [h8, List.length_append, List.length_cons]; omega), Bool.false_and]
                rw [e, if_neg (by decide)]
                conv => whnf
                rfl
              · have h2 : ¬ ((encT out).length : Int) = 16 := by
                  have h2 : (((encT out).length : Int) == 16) = false := h2
                  simpa using h2
                conv => whnf
                refine ⟨by show 0 ≤ (fr : Int) ∧ (fr : Int) ≤ (i : Int) ∧ (i : Int).toNat ≤ p.length; omega, ?_⟩
                conv => whnf
                refine ⟨⟨hol.symm, fits_small (by show (encT out).length + 1 ≤ _; omega) (by decide)⟩, ?_⟩
                conv => whnf
                refine ⟨(out ++ [piece], i + 1, i + 1), ⟨by show 1 ≤ i + 1; omega, Nat.le_refl _, by show i + 1 ≤ _; omega, by show i + 1 ≤ p.length ∨ i + 1 = p.length + 1; omega, by show ((p.drop (i + 1)).take (i + 1 - (i + 1))).count 47 = 0; rw [Nat.sub_self]; rfl, by show (out ++ [piece]).length ≤ 16; rw [List.length_append, List.length_singleton]; omega, by show (out ++ [piece]).all _ = true; rw [List.all_append, h7]; simp [hq], by show S = (out ++ [piece]) ++ _; rw [h8, List.append_assoc]; rfl⟩, by show p.length + 1 - (i + 1) < p.length + 1 - i; omega, rfl, rfl, ?_, rfl, ?_, rfl, ?_, rfl, ?_, rfl, trivial⟩
                · show C.v (V.lst (decide (out = []) && false) 1 (encT out ++ [[V.str ((p.take (i : Int).toNat).drop (fr : Int).toNat)]]) _) = C.v (V.lst (decide (out ++ [piece] = [])) 1 (encT (out ++ [piece])) _)
                  rw [Bool.and_false, show decide (out ++ [piece] = []) = false from decide_eq_false (by simp), Int.toNat_natCast, Int.toNat_natCast, hpc, encT, encT, List.map_append]
                  rfl
                · show C.v (V.int .i64 (IntKind.i64.wrap ((i : Int) + 1))) = C.v (V.int .i64 ((i + 1 : Nat) : Int))
                  rw [w64 (by omega) (by omega)]; rfl
                · show C.v (V.int .i64 (IntKind.i64.wrap ((i : Int) + 1))) = C.v (V.int .i64 ((i + 1 : Nat) : Int))
                  rw [w64 (by omega) (by omega)]; rfl
                · show C.row _ 1 ((encT out).length + 1) = C.row _ 1 (out ++ [piece]).length
                  rw [hol, List.length_append]; rfl
        · have h9 : i = p.length := by
            have h9 : ¬ (i : Int) < (p.length : Int) := of_decide_eq_false h9
            omega
          have hcut := cut (.inl h9)
          have h8 : S = out ++ (p.take i).drop fr :: remT p (i + 1) := h8.trans (congrArg (out ++ ·) hcut)
          generalize hpc : (p.take i).drop fr = piece at hck h8
          conv => whnf
          refine ⟨by show 0 ≤ (fr : Int) ∧ (fr : Int) ≤ (i : Int) ∧ (i : Int).toNat ≤ p.length; omega, ?_⟩
          conv => whnf
          refine AC.of_pc (show PC _ _ [.str ((p.take (i : Int).toNat).drop (fr : Int).toNat)] _ by rw [Int.toNat_natCast, Int.toNat_natCast, hpc]; exact hck) rfl ?_
          cases hq : Gw.Name.check piece with
          | false =>
            have e : Gw.Name.fit S = false := by
              unfold Gw.Name.fit
              rw [h8, List.all_append, List.all_cons, hq, Bool.false_and, Bool.and_false, Bool.and_false]
            rw [e, if_neg (by decide)]
            conv => whnf
            refine ⟨fun _ => ?_, fun h => absurd h (by decide)⟩
            conv => whnf
            rfl
          | true =>
            conv => whnf
            refine ⟨fun h => absurd h (by decide), fun _ => ?_⟩
            conv => whnf
            refine ⟨fun h2 => ?_, fun h2 => ?_⟩
            · have h2 : ((encT out).length : Int) = 16 := by
                have h2 : (((encT out).length : Int) == 16) = true := h2
                simpa using h2
              have e : Gw.Name.fit S = false := by
                unfold Gw.Name.fit
                rw [show decide (S.length ≤ 16) = false from decide_eq_false (by rw [h8, List.length_append, List.length_cons]; omega), Bool.false_and]
              rw [e, if_neg (by decide)]
              conv => whnf
              rfl
            · have h2 : ¬ ((encT out).length : Int) = 16 := by
                have h2 : (((encT out).length : Int) == 16) = false := h2
                simpa using h2
              conv => whnf
              refine ⟨by show 0 ≤ (fr : Int) ∧ (fr : Int) ≤ (i : Int) ∧ (i : Int).toNat ≤ p.length; omega, ?_⟩
              conv => whnf
              refine ⟨⟨hol.symm, fits_small (by show (encT out).length + 1 ≤ _; omega) (by decide)⟩, ?_⟩
              conv => whnf
              refine ⟨(out ++ [piece], i + 1, i + 1), ⟨by show 1 ≤ i + 1; omega, Nat.le_refl _, by show i + 1 ≤ _; omega, by show i + 1 ≤ p.length ∨ i + 1 = p.length + 1; omega, by show ((p.drop (i + 1)).take (i + 1 - (i + 1))).count 47 = 0; rw [Nat.sub_self]; rfl, by show (out ++ [piece]).length ≤ 16; rw [List.length_append, List.length_singleton]; omega, by show (out ++ [piece]).all _ = true; rw [List.all_append, h7]; simp [hq], by show S = (out ++ [piece]) ++ _; rw [h8, List.append_assoc]; rfl⟩, by show p.length + 1 - (i + 1) < p.length + 1 - i; omega, rfl, rfl, ?_, rfl, ?_, rfl, ?_, rfl, ?_, rfl, trivial⟩
              · show C.v (V.lst (decide (out = []) && false) 1 (encT out ++ [[V.str ((p.take (i : Int).toNat).drop (fr : Int).toNat)]]) _) = C.v (V.lst (decide (out ++ [piece] = [])) 1 (encT (out ++ [piece])) _)
                rw [Bool.and_false, show decide (out ++ [piece] = []) = false from decide_eq_false (by simp), Int.toNat_natCast, Int.toNat_natCast, hpc, encT, encT, List.map_append]
                rfl
              · show C.v (V.int .i64 (IntKind.i64.wrap ((i : Int) + 1))) = C.v (V.int .i64 ((i + 1 : Nat) : Int))
                rw [w64 (by omega) (by omega)]; rfl
              · show C.v (V.int .i64 (IntKind.i64.wrap ((i : Int) + 1))) = C.v (V.int .i64 ((i + 1 : Nat) : Int))
                rw [w64 (by omega) (by omega)]; rfl
              · show C.row _ 1 ((encT out).length + 1) = C.row _ 1 (out ++ [piece]).length
                rw [hol, List.length_append]; rfl
      · have h : ¬ i ≤ p.length := by
          have h : ¬ (i : Int) ≤ (p.length : Int) := of_decide_eq_false h
          omega
        have hfr : fr = p.length + 1 := by omega
        have hr : remT p fr = [] := by unfold remT; rw [if_neg (by omega)]
        rw [hr, List.append_nil] at h8
        have e : Gw.Name.fit S = true := by
          unfold Gw.Name.fit
          rw [h8, h7, decide_eq_true h6]; rfl
        have hne : S ≠ [] := by rw [← hS]; exact Gw.Name.split_ne _
        rw [e, if_pos rfl, h8]
        rw [h8] at hne
        cases out with
        | nil => exact absurd rfl hne
        | cons x l =>
          conv => whnf
          rfl
set_option maxHeartbeats 1000000 in
theorem rsplit_pc (p : List UInt8) (hp : p.length ≤ 100000) : PC Tryd.prog 14 [.str p] (pathsV (Gw.Name.paths p)) := by
  match p, hp with
  | [], _ =>
    refine PC.of tabOk mixed (fn := Tryd.f14) (by kernel_rfl) rfl (by kernel_rfl) rfl rfl ?_
    conv => whnf
    refine ⟨fun _ => ?_, fun h => absurd h (by decide)⟩
    conv => whnf
    rfl
  | b :: r, hp =>
  have hzero : ¬ (((b :: r).length : Int) == 0) = true := by simp only [List.length_cons, beq_iff_eq]; omega
  by_cases hb : b = 47
  · subst hb
    cases r with
    | nil =>
      refine PC.of tabOk mixed (fn := Tryd.f14) (by kernel_rfl) rfl (by kernel_rfl) rfl rfl ?_
      conv => whnf
      refine ⟨fun h => absurd h (by decide), fun _ => ?_⟩
      conv => whnf
      refine ⟨47, ⟨by decide, rfl⟩, ?_⟩
      conv => whnf
      refine ⟨fun h => absurd h (by decide), fun _ => ?_⟩
      conv => whnf
      refine ⟨fun _ => ?_, fun h => absurd h (by decide)⟩
      conv => whnf
      rfl
    | cons c r =>
      have hpa : Gw.Name.paths (47 :: c :: r) = if Gw.Name.fit (Gw.Name.split (c :: r)) = true then some (Gw.Name.split (c :: r)) else none := by
        unfold Gw.Name.paths
        rw [if_neg (by simp)]
        exact if_pos rfl
      rw [hpa]
      exact rsplit1_pc (47 :: c :: r) hp (by simp) rfl
  · have e : Gw.Name.paths (b :: r) = none := by
      unfold Gw.Name.paths
      rw [if_neg (fun e => hb (by cases e; rfl))]
      exact if_neg hb
    rw [e]
    refine PC.of tabOk mixed (fn := Tryd.f14) (by kernel_rfl) rfl (by kernel_rfl) rfl rfl ?_
    conv => whnf
    refine ⟨fun h => absurd h hzero, fun _ => ?_⟩
    conv => whnf
    refine ⟨b, ⟨by decide, rfl⟩, ?_⟩
    conv => whnf
    refine ⟨fun _ => ?_, fun h => ?_⟩
    · conv => whnf
      rfl
    · have h : ((b.toNat : Int) != 47) = false := h
      have h : b.toNat = 47 := by simp at h; omega
      exact absurd (UInt8.toNat_inj.1 h) hb
end Go.Proofs.YtgbahdoiogcpiaaDoor
