/- What the document's answer for paths computes: told without addresses. No claim of its own. -/
import Derived.Test.YtfmhkfijnflalaaDoorARNameV
import Derived.Test.YtfmhkfijnflalaaDoorASplit
import Derived.Test.YtfmhkfijnflalaaDoorRNameLaw
namespace Go.Proofs.YtfmhkfijnflalaaDoor
open Go.Am

theorem rcheck_pc (s : List UInt8) (hs : s.length ≤ 1048576) : PC Tryd.prog 50 [.str s] (.bool (Gw.Name.check s)) := by
  rw [← Gw.RName.check_same]
  exact rnameCheck_pc s hs (fun l h => Nat.le_trans (Gw.RName.all_len h) hs)
theorem split_at {s : List UInt8} {m : Nat} (h : (s.take m).count 47 = 0) (hm : m < s.length) (h47 : s[m] = 47) : Gw.Name.split s = s.take m :: Gw.Name.split (s.drop (m + 1)) := by
  induction s generalizing m with
  | nil => simp at hm
  | cons b l ih =>
    cases m with
    | zero =>
      have hb : b = 47 := h47
      rw [Gw.Name.split, if_pos hb]; rfl
    | succ m =>
      rw [List.take_succ_cons, List.count_cons] at h
      have hb : b ≠ 47 := fun e => by rw [if_pos (by simp [e])] at h; omega
      rw [if_neg (by simp [hb])] at h
      rw [Gw.Name.split, if_neg hb, ih (by omega) (by simp at hm; omega) (by simpa using h47)]
      rfl
/-- What is left from a place on. -/
def remT (p : List UInt8) (k : Nat) : List (List UInt8) := if k ≤ p.length then Gw.Name.split (p.drop k) else []
set_option maxHeartbeats 1000000 in
theorem rsplit1_pc (p : List UInt8) (hp : p.length ≤ 100000) (hl2 : 2 ≤ p.length) (h00 : p[0]? = some 47) : PC Tryd.prog 42 [.str p] (pathsV (if Gw.Name.fit (Gw.Name.split (p.drop 1)) = true then some (Gw.Name.split (p.drop 1)) else none)) := by
      have hzero : ¬ ((p.length : Int) == 0) = true := by simp only [beq_iff_eq]; omega
      generalize hS : Gw.Name.split (p.drop 1) = S
      refine PC.of tabOk mixed (fn := Tryd.f42) (by kernel_rfl) rfl (by kernel_rfl) rfl rfl ?_
      conv => whnf
      refine ⟨fun h => absurd h hzero, fun _ => ?_⟩
      conv => whnf
      refine ⟨47, ⟨by decide, h00⟩, ?_⟩
      conv => whnf
      refine ⟨fun h => absurd h (by decide), fun _ => ?_⟩
      conv => whnf
      refine ⟨fun h => ?_, fun _ => ?_⟩
      · have h : (p.length : Int) = 1 := by simpa using h
        omega
      conv => whnf
      refine AW.row 4 9 1 rfl rfl (.inr rfl) ?_
      refine AW.loop (X := List (List UInt8) × Nat × Nat) (fun x => [(.tmp 0, .v (.str p)), (.tmp 4, .v (.lst (decide (x.1 = [])) 1 (encT x.1) (.row 16))), (.tmp 5, .v (.int .i64 x.2.1)), (.tmp 6, .v (.int .i64 x.2.2)), (.row 16, .row 9 1 x.1.length)])
        17 (fun x => 1 ≤ x.2.1 ∧ x.2.1 ≤ x.2.2 ∧ x.2.2 ≤ p.length + 1 ∧ (x.2.2 ≤ p.length ∨ x.2.1 = p.length + 1) ∧ ((p.drop x.2.1).take (x.2.2 - x.2.1)).count 47 = 0 ∧ x.1.length ≤ 16 ∧ x.1.all Gw.Name.check = true ∧ S = x.1 ++ remT p x.2.1) (fun x => p.length + 1 - x.2.2) (by decide) ([], 1, 1)
        ⟨Nat.le_refl _, Nat.le_refl _, by show 1 ≤ _; omega, .inl (by show 1 ≤ _; omega), by simp, by simp, rfl, by unfold remT; rw [if_pos (by show 1 ≤ _; omega)]; exact hS.symm⟩ ⟨rfl, rfl, rfl, rfl, rfl, rfl, rfl, rfl, ?_, rfl, trivial⟩ ?_
      · rfl
      rintro ⟨out, fr, i⟩ ⟨h1, h2, h3, h4, h5, h6, h7, h8⟩
      simp only at h1 h2 h3 h4 h5 h6 h7 h8
      have hol := encT_len out
      refine ev_sound tabOk mixed _ _ _ _ ?_
      conv => whnf
      refine ⟨fun h => ?_, fun h => ?_⟩
      · have h : i ≤ p.length := by
          have h : (i : Int) ≤ (p.length : Int) := of_decide_eq_true h
          omega
        have hfr : fr ≤ p.length := by omega
        -- the part that ends here
        have cut : (i = p.length ∨ ∃ h : i < p.length, p[i] = 47) → remT p fr = (p.take i).drop fr :: remT p (i + 1) := by
          intro hc
          have e1 : (p.take i).drop fr = (p.drop fr).take (i - fr) := by rw [List.drop_take]
          rw [e1]
          unfold remT
          rw [if_pos hfr]
          rcases hc with hc | ⟨hc, h47⟩
          · rw [if_neg (by omega)]
            have e2 : (p.drop fr).take (i - fr) = p.drop fr := List.take_of_length_le (by rw [List.length_drop]; omega)
            rw [e2] at h5 ⊢
            exact Gw.Name.idx_none h5
          · rw [if_pos (by omega), split_at h5 (by rw [List.length_drop]; omega) (by rw [List.getElem_drop]; simp only [show fr + (i - fr) = i by omega]; exact h47), List.drop_drop]
            congr 3; omega
        have hpl : ((p.take i).drop fr).length ≤ 1048576 := by rw [List.length_drop, List.length_take]; omega
        have hck := rcheck_pc _ hpl
        conv => whnf
        refine ⟨fun h9 => ?_, fun h9 => ?_⟩
        · have h9 : i < p.length := by
            have h9 : (i : Int) < (p.length : Int) := of_decide_eq_true h9
            omega
          conv => whnf
          refine ⟨p[i], ⟨by omega, List.getElem?_eq_getElem h9⟩, ?_⟩
          conv => whnf
          refine ⟨fun h10 => ?_, fun h10 => ?_⟩
          · have h10 : p[i] ≠ 47 := fun e => by
              have h10 : ((p[i].toNat : Int) != 47) = true := h10
              rw [e] at h10; exact absurd h10 (by decide)
            conv => whnf
            refine ⟨(out, fr, i + 1), ⟨h1, by show fr ≤ i + 1; omega, by show i + 1 ≤ _; omega, .inl (by show i + 1 ≤ _; omega), ?_, h6, h7, h8⟩, by show p.length + 1 - (i + 1) < p.length + 1 - i; omega, rfl, rfl, rfl, rfl, rfl, rfl, ?_, rfl, rfl, rfl, trivial⟩
            · show ((p.drop fr).take (i + 1 - fr)).count 47 = 0
              rw [show i + 1 - fr = (i - fr) + 1 by omega, List.take_succ_eq_append_getElem (by rw [List.length_drop]; omega), List.count_append, h5, List.getElem_drop]
              simp only [show fr + (i - fr) = i by omega]
              rw [List.count_singleton, if_neg (by simpa using h10)]
            · show C.v (V.int .i64 (IntKind.i64.wrap ((i : Int) + 1))) = C.v (V.int .i64 ((i + 1 : Nat) : Int))
              rw [w64 (by omega) (by omega)]; rfl
          · have h10 : p[i] = 47 := by
              have h10 : ((p[i].toNat : Int) != 47) = false := h10
              have h10 : p[i].toNat = 47 := by simp at h10; omega
              exact UInt8.toNat_inj.1 h10
            have hcut := cut (.inr ⟨h9, h10⟩)
            have h8 : S = out ++ (p.take i).drop fr :: remT p (i + 1) := h8.trans (congrArg (out ++ ·) hcut)
            generalize hpc : (p.take i).drop fr = piece at hck h8
            conv => whnf
            refine ⟨by show 0 ≤ (fr : Int) ∧ (fr : Int) ≤ (i : Int) ∧ (i : Int).toNat ≤ p.length; omega, ?_⟩
            conv => whnf
            refine AC.of_pc (show PC _ _ [.str ((p.take (i : Int).toNat).drop (fr : Int).toNat)] _ by rw [Int.toNat_natCast, Int.toNat_natCast, hpc]; exact hck) rfl ?_
            cases hq : Gw.Name.check piece with
            | false =>
              have e : Gw.Name.fit S = false := by
                unfold Gw.Name.fit
                rw [h8, List.all_append, List.all_cons, hq, Bool.false_and, Bool.and_false, Bool.and_false]
              rw [e, if_neg (by decide)]
              conv => whnf
              refine ⟨fun _ => ?_, fun h => absurd h (by decide)⟩
              conv => whnf
              rfl
            | true =>
              conv => whnf
              refine ⟨fun h => absurd h (by decide), fun _ => ?_⟩
              conv => whnf
              refine ⟨fun h2 => ?_, fun h2 => ?_⟩
              · have h2 : ((encT out).length : Int) = 16 := by
                  have h2 : (((encT out).length : Int) == 16) = true := h2
                  simpa using h2
                have e : Gw.Name.fit S = false := by
                  unfold Gw.Name.fit
                  rw [show decide (S.length ≤ 16) = false from decide_eq_false (by rw [h8, List.length_append, List.length_cons]; omega), Bool.false_and]
                rw [e, if_neg (by decide)]
                conv => whnf
                rfl
              · have h2 : ¬ ((encT out).length : Int) = 16 := by
                  have h2 : (((encT out).length : Int) == 16) = false := h2
                  simpa using h2
                conv => whnf
                refine ⟨by show 0 ≤ (fr : Int) ∧ (fr : Int) ≤ (i : Int) ∧ (i : Int).toNat ≤ p.length; omega, ?_⟩
                conv => whnf
                refine ⟨⟨hol.symm, fits_small (by show (encT out).length + 1 ≤ _; omega) (by decide)⟩, ?_⟩
                conv => whnf
                refine ⟨(out ++ [piece], i + 1, i + 1), ⟨by show 1 ≤ i + 1; omega, Nat.le_refl _, by show i + 1 ≤ _; omega, by show i + 1 ≤ p.length ∨ i + 1 = p.length + 1; omega, by show ((p.drop (i + 1)).take (i + 1 - (i + 1))).count 47 = 0; rw [Nat.sub_self]; rfl, by show (out ++ [piece]).length ≤ 16; rw [List.length_append, List.length_singleton]; omega, by show (out ++ [piece]).all _ = true; rw [List.all_append, h7]; simp [hq], by show S = (out ++ [piece]) ++ _; rw [h8, List.append_assoc]; rfl⟩, by show p.length + 1 - (i + 1) < p.length + 1 - i; omega, rfl, rfl, ?_, rfl, ?_, rfl, ?_, rfl, ?_, rfl, trivial⟩
                · show C.v (V.lst (decide (out = []) && false) 1 (encT out ++ [[V.str ((p.take (i : Int).toNat).drop (fr : Int).toNat)]]) _) = C.v (V.lst (decide (out ++ [piece] = [])) 1 (encT (out ++ [piece])) _)
                  rw [Bool.and_false, show decide (out ++ [piece] = []) = false from decide_eq_false (by simp), Int.toNat_natCast, Int.toNat_natCast, hpc, encT, encT, List.map_append]
                  rfl
                · show C.v (V.int .i64 (IntKind.i64.wrap ((i : Int) + 1))) = C.v (V.int .i64 ((i + 1 : Nat) : Int))
                  rw [w64 (by omega) (by omega)]; rfl
                · show C.v (V.int .i64 (IntKind.i64.wrap ((i : Int) + 1))) = C.v (V.int .i64 ((i + 1 : Nat) : Int))
                  rw [w64 (by omega) (by omega)]; rfl
                · show C.row _ 1 ((encT out).length + 1) = C.row _ 1 (out ++ [piece]).length
                  rw [hol, List.length_append]; rfl
        · have h9 : i = p.length := by
            have h9 : ¬ (i : Int) < (p.length : Int) := of_decide_eq_false h9
            omega
          have hcut := cut (.inl h9)
          have h8 : S = out ++ (p.take i).drop fr :: remT p (i + 1) := h8.trans (congrArg (out ++ ·) hcut)
          generalize hpc : (p.take i).drop fr = piece at hck h8
          conv => whnf
          refine ⟨by show 0 ≤ (fr : Int) ∧ (fr : Int) ≤ (i : Int) ∧ (i : Int).toNat ≤ p.length; omega, ?_⟩
          conv => whnf
          refine AC.of_pc (show PC _ _ [.str ((p.take (i : Int).toNat).drop (fr : Int).toNat)] _ by rw [Int.toNat_natCast, Int.toNat_natCast, hpc]; exact hck) rfl ?_
          cases hq : Gw.Name.check piece with
          | false =>
            have e : Gw.Name.fit S = false := by
              unfold Gw.Name.fit
              rw [h8, List.all_append, List.all_cons, hq, Bool.false_and, Bool.and_false, Bool.and_false]
            rw [e, if_neg (by decide)]
            conv => whnf
            refine ⟨fun _ => ?_, fun h => absurd h (by decide)⟩
            conv => whnf
            rfl
          | true =>
            conv => whnf
            refine ⟨fun h => absurd h (by decide), fun _ => ?_⟩
            conv => whnf
            refine ⟨fun h2 => ?_, fun h2 => ?_⟩
            · have h2 : ((encT out).length : Int) = 16 := by
                have h2 : (((encT out).length : Int) == 16) = true := h2
                simpa using h2
              have e : Gw.Name.fit S = false := by
                unfold Gw.Name.fit
                rw [show decide (S.length ≤ 16) = false from decide_eq_false (by rw [h8, List.length_append, List.length_cons]; omega), Bool.false_and]
              rw [e, if_neg (by decide)]
              conv => whnf
              rfl
            · have h2 : ¬ ((encT out).length : Int) = 16 := by
                have h2 : (((encT out).length : Int) == 16) = false := h2
                simpa using h2
              conv => whnf
              refine ⟨by show 0 ≤ (fr : Int) ∧ (fr : Int) ≤ (i : Int) ∧ (i : Int).toNat ≤ p.length; omega, ?_⟩
              conv => whnf
              refine ⟨⟨hol.symm, fits_small (by show (encT out).length + 1 ≤ _; omega) (by decide)⟩, ?_⟩
              conv => whnf
              refine ⟨(out ++ [piece], i + 1, i + 1), ⟨by show 1 ≤ i + 1; omega, Nat.le_refl _, by show i + 1 ≤ _; omega, by show i + 1 ≤ p.length ∨ i + 1 = p.length + 1; omega, by show ((p.drop (i + 1)).take (i + 1 - (i + 1))).count 47 = 0; rw [Nat.sub_self]; rfl, by show (out ++ [piece]).length ≤ 16; rw [List.length_append, List.length_singleton]; omega, by show (out ++ [piece]).all _ = true; rw [List.all_append, h7]; simp [hq], by show S = (out ++ [piece]) ++ _; rw [h8, List.append_assoc]; rfl⟩, by show p.length + 1 - (i + 1) < p.length + 1 - i; omega, rfl, rfl, ?_, rfl, ?_, rfl, ?_, rfl, ?_, rfl, trivial⟩
              · show C.v (V.lst (decide (out = []) && false) 1 (encT out ++ [[V.str ((p.take (i : Int).toNat).drop (fr : Int).toNat)]]) _) = C.v (V.lst (decide (out ++ [piece] = [])) 1 (encT (out ++ [piece])) _)
                rw [Bool.and_false, show decide (out ++ [piece] = []) = false from decide_eq_false (by simp), Int.toNat_natCast, Int.toNat_natCast, hpc, encT, encT, List.map_append]
                rfl
              · show C.v (V.int .i64 (IntKind.i64.wrap ((i : Int) + 1))) = C.v (V.int .i64 ((i + 1 : Nat) : Int))
                rw [w64 (by omega) (by omega)]; rfl
              · show C.v (V.int .i64 (IntKind.i64.wrap ((i : Int) + 1))) = C.v (V.int .i64 ((i + 1 : Nat) : Int))
                rw [w64 (by omega) (by omega)]; rfl
              · show C.row _ 1 ((encT out).length + 1) = C.row _ 1 (out ++ [piece]).length
                rw [hol, List.length_append]; rfl
      · have h : ¬ i ≤ p.length := by
          have h : ¬ (i : Int) ≤ (p.length : Int) := of_decide_eq_false h
          omega
        have hfr : fr = p.length + 1 := by omega
        have hr : remT p fr = [] := by unfold remT; rw [if_neg (by omega)]
        rw [hr, List.append_nil] at h8
        have e : Gw.Name.fit S = true := by
          unfold Gw.Name.fit
          rw [h8, h7, decide_eq_true h6]; rfl
        have hne : S ≠ [] := by rw [← hS]; exact Gw.Name.split_ne _
        rw [e, if_pos rfl, h8]
        rw [h8] at hne
        cases out with
        | nil => exact absurd rfl hne
        | cons x l =>
          conv => whnf
          rfl
set_option maxHeartbeats 1000000 in
theorem rsplit_pc (p : List UInt8) (hp : p.length ≤ 100000) : PC Tryd.prog 42 [.str p] (pathsV (Gw.Name.paths p)) := by
  match p, hp with
  | [], _ =>
    refine PC.of tabOk mixed (fn := Tryd.f42) (by kernel_rfl) rfl (by kernel_rfl) rfl rfl ?_
    conv => whnf
    refine ⟨fun _ => ?_, fun h => absurd h (by decide)⟩
    conv => whnf
    rfl
  | b :: r, hp =>
  have hzero : ¬ (((b :: r).length : Int) == 0) = true := by simp only [List.length_cons, beq_iff_eq]; omega
  by_cases hb : b = 47
  · subst hb
    cases r with
    | nil =>
      refine PC.of tabOk mixed (fn := Tryd.f42) (by kernel_rfl) rfl (by kernel_rfl) rfl rfl ?_
      conv => whnf
      refine ⟨fun h => absurd h (by decide), fun _ => ?_⟩
      conv => whnf
      refine ⟨47, ⟨by decide, rfl⟩, ?_⟩
      conv => whnf
      refine ⟨fun h => absurd h (by decide), fun _ => ?_⟩
      conv => whnf
      refine ⟨fun _ => ?_, fun h => absurd h (by decide)⟩
      conv => whnf
      rfl
    | cons c r =>
      have hpa : Gw.Name.paths (47 :: c :: r) = if Gw.Name.fit (Gw.Name.split (c :: r)) = true then some (Gw.Name.split (c :: r)) else none := by
        unfold Gw.Name.paths
        rw [if_neg (by simp)]
        exact if_pos rfl
      rw [hpa]
      exact rsplit1_pc (47 :: c :: r) hp (by simp) rfl
  · have e : Gw.Name.paths (b :: r) = none := by
      unfold Gw.Name.paths
      rw [if_neg (fun e => hb (by cases e; rfl))]
      exact if_neg hb
    rw [e]
    refine PC.of tabOk mixed (fn := Tryd.f42) (by kernel_rfl) rfl (by kernel_rfl) rfl rfl ?_
    conv => whnf
    refine ⟨fun h => absurd h hzero, fun _ => ?_⟩
    conv => whnf
    refine ⟨b, ⟨by decide, rfl⟩, ?_⟩
    conv => whnf
    refine ⟨fun _ => ?_, fun h => ?_⟩
    · conv => whnf
      rfl
    · have h : ((b.toNat : Int) != 47) = false := h
      have h : b.toNat = 47 := by simp at h; omega
      exact absurd (UInt8.toNat_inj.1 h) hb
end Go.Proofs.YtfmhkfijnflalaaDoor
