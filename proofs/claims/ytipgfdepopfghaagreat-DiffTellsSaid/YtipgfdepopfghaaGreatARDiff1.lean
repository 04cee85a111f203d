/- The document's paths behind events: told without addresses. No claim of its own. -/
import Derived.Test.YtipgfdepopfghaaGreatADiff2
import Derived.Test.YtipgfdepopfghaaGreatDiffRef
namespace Go.Proofs.YtipgfdepopfghaaGreat
open Go.Am

theorem encS1_snoc (tk : Tok) (A : List (List UInt8)) (t : List UInt8) : C.v (V.lst (decide (A = []) && false) 1 (encS1 A ++ [[V.str t]]) tk) = C.v (V.lst (decide (A ++ [t] = [])) 1 (encS1 (A ++ [t])) tk) := by
  rw [Bool.and_false, decide_eq_false (by simp)]
  unfold encS1
  rw [List.map_append]
  rfl
theorem row_snoc1 (T : TypeId) (A : List (List UInt8)) (t : List UInt8) : C.row T 1 ((encS1 A).length + 1) = C.row T 1 (A ++ [t]).length := by
  rw [encS1_len, List.length_append]
  rfl
theorem without_pc (n : Bool) (l : List (List UInt8)) (s : List UInt8) (hl : l.length ≤ 1048576) :
    PC Tryz.prog 38 [.lst n 1 (encS1 l) .none, .str s] (.lst (decide (Gw.Diff.withoutB l s = [])) 1 (encS1 (Gw.Diff.withoutB l s)) .none) := by
  have hel := encS1_len l
  refine PC.ofS tabOk mixed (fn := Tryz.f38) (by kernel_rfl) rfl (by kernel_rfl) rfl rfl ?_
  conv => whnf
  refine AW.row 5 9 1 rfl rfl (.inr rfl) ?_
  refine AW.loop (fun k : Nat => [(.tmp 0, .v (.lst n 1 (encS1 l) .none)), (.tmp 1, .v (.str s)), (.tmp 6, .v (.int .i64 k)), (.tmp 5, .v (.lst (decide (Gw.Diff.withoutB (l.take k) s = [])) 1 (encS1 (Gw.Diff.withoutB (l.take k) s)) (.row 3))), (.row 3, .row 9 1 (Gw.Diff.withoutB (l.take k) s).length)]) 4
    (fun k => k ≤ l.length) (fun k => l.length - k) (by decide) 0 (Nat.zero_le _) ⟨rfl, rfl, rfl, rfl, rfl, rfl, rfl, rfl, rfl, rfl, trivial⟩ ?_
  rintro k hk
  refine ev_sound tabOk mixed _ _ _ _ ?_
  conv => whnf
  refine ⟨fun h => ?_, fun h => ?_⟩
  · have h := of_decide_eq_true h
    rw [hel] at h
    have hlt : k < l.length := by omega
    have hg := encS1_get hlt
    have hst : Gw.Diff.withoutB (l.take (k + 1)) s = if l[k] = s then Gw.Diff.withoutB (l.take k) s else Gw.Diff.withoutB (l.take k) s ++ [l[k]] := by
      unfold Gw.Diff.withoutB
      rw [List.take_succ_eq_append_getElem hlt, List.filter_append]
      by_cases e : l[k] = s <;> simp [e]
    have hwl : (Gw.Diff.withoutB (l.take k) s).length ≤ k := by
      have := List.length_filter_le (fun t => !decide (t = s)) (l.take k)
      rw [List.length_take] at this
      unfold Gw.Diff.withoutB
      omega
    have w1 : IntKind.i64.wrap ((k : Int) + 1) = ((k + 1 : Nat) : Int) := by rw [w64 (by omega) (by omega)]; rfl
    generalize hW : Gw.Diff.withoutB (l.take k) s = W at *
    generalize hW' : Gw.Diff.withoutB (l.take (k + 1)) s = W' at *
    have hWe := encS1_len W
    conv => whnf
    refine ⟨_, ⟨by omega, hg⟩, ?_⟩
    conv => whnf
    refine ⟨fun h => ?_, fun h => ?_⟩
    · have h : l[k] ≠ s := by simpa using h
      rw [if_neg h] at hst
      conv => whnf
      refine ⟨_, ⟨by omega, hg⟩, ?_⟩
      conv => whnf
      refine ⟨⟨hWe.symm, fits_small (by show (encS1 W).length + 1 ≤ _; omega) (by decide)⟩, ?_⟩
      conv => whnf
      refine ⟨k + 1, by omega, by show l.length - (k + 1) < l.length - k; omega, rfl, rfl, rfl, rfl, ?_, rfl, ?_, rfl, ?_, rfl, trivial⟩
      · show C.v (V.int .i64 (IntKind.i64.wrap ((k : Int) + 1))) = _
        rw [w1]
      · rw [hW', hst]
        exact encS1_snoc _ W _
      · rw [hW', hst]
        exact row_snoc1 _ W _
    · have h : l[k] = s := by simpa using h
      rw [if_pos h] at hst
      conv => whnf
      refine ⟨k + 1, by omega, by show l.length - (k + 1) < l.length - k; omega, rfl, rfl, rfl, rfl, ?_, rfl, ?_, rfl, ?_, rfl, trivial⟩
      · show C.v (V.int .i64 (IntKind.i64.wrap ((k : Int) + 1))) = _
        rw [w1]
      · rw [hW', hst]; rfl
      · rw [hW', hst]; rfl
  · have h := of_decide_eq_false h
    rw [hel] at h
    obtain rfl : k = l.length := by omega
    rw [List.take_length]
    conv => whnf
    exact SubV.refl _
theorem with_pc (n : Bool) (l : List (List UInt8)) (s : List UInt8) (hl : l.length ≤ 1000000) :
    PC Tryz.prog 37 [.lst n 1 (encS1 l) .none, .str s] (.lst false 1 (encS1 (Gw.Diff.withB l s)) .none) := by
  have hwo := without_pc n l s (by omega)
  have hrl : (Gw.Diff.withoutB l s).length ≤ l.length := List.length_filter_le _ _
  unfold Gw.Diff.withB
  generalize decide (Gw.Diff.withoutB l s = []) = qr at hwo
  generalize Gw.Diff.withoutB l s = R at *
  have hRe := encS1_len R
  have hlo := Gw.Diff.lowB_le R s
  refine PC.ofS tabOk mixed (fn := Tryz.f37) (by kernel_rfl) rfl (by kernel_rfl) rfl rfl ?_
  conv => whnf
  refine AC.of_pc hwo rfl ?_
  conv => whnf
  refine AW.loop (fun k : Nat => [(.tmp 1, .v (.str s)), (.tmp 5, .v (.lst qr 1 (encS1 R) .none)), (.tmp 6, .v (.int .i64 k))]) 0
    (fun k => k ≤ Gw.Diff.lowB R s) (fun k => R.length - k) (by decide) 0 (Nat.zero_le _) ⟨rfl, rfl, rfl, rfl, rfl, rfl, trivial⟩ ?_
  rintro k hk
  refine ev_sound tabOk mixed _ _ _ _ ?_
  conv => whnf
  have hfa : Fits (0 + ((encS1 R).drop (Gw.Diff.lowB R s)).length) 16 := by rw [List.length_drop, hRe]; exact fits_small (by omega) (by decide)
  have hfb : Fits (0 + ((encS1 R).take (Gw.Diff.lowB R s)).length) 16 := by rw [List.length_take, hRe]; exact fits_small (by omega) (by decide)
  have hfc : Fits (([] ++ (encS1 R).take (Gw.Diff.lowB R s)).length + 1) 16 := by rw [List.nil_append, List.length_take, hRe]; exact fits_small (by omega) (by decide)
  have hfd : Fits (([] ++ (encS1 R).take (Gw.Diff.lowB R s) ++ [[V.str s]]).length + ([] ++ (encS1 R).drop (Gw.Diff.lowB R s)).length) 16 := by
    simp only [List.nil_append, List.length_append, List.length_take, List.length_drop, hRe, List.length_singleton]
    exact fits_small (by omega) (by decide)
  have hres : encS1 (R.take (Gw.Diff.lowB R s) ++ [s] ++ R.drop (Gw.Diff.lowB R s)) = [] ++ (encS1 R).take (Gw.Diff.lowB R s) ++ [[V.str s]] ++ ([] ++ (encS1 R).drop (Gw.Diff.lowB R s)) := by
    unfold encS1
    simp [List.map_take, List.map_drop]
  refine ⟨fun h => ?_, fun h => ?_⟩
  · have h := of_decide_eq_true h
    rw [hRe] at h
    have hlt : k < R.length := by omega
    have hg := encS1_get hlt
    conv => whnf
    refine ⟨_, ⟨by omega, hg⟩, ?_⟩
    conv => whnf
    refine ⟨fun h => ?_, fun h => ?_⟩
    · have h : R[k] < s := by rw [bytesLess_eq] at h; exact of_decide_eq_true h
      have hkl : k < Gw.Diff.lowB R s := by
        rcases Nat.lt_or_ge k (Gw.Diff.lowB R s) with q | q
        · exact q
        · obtain rfl : k = Gw.Diff.lowB R s := by omega
          exact absurd h (Gw.Diff.lowB_at hlt)
      conv => whnf
      refine ⟨k + 1, hkl, by show R.length - (k + 1) < R.length - k; omega, rfl, rfl, rfl, rfl, ?_, rfl, trivial⟩
      show C.v (V.int .i64 (IntKind.i64.wrap ((k : Int) + 1))) = _
      rw [w64 (by omega) (by omega)]; rfl
    · have h : ¬ R[k] < s := by rw [bytesLess_eq] at h; exact of_decide_eq_false h
      obtain rfl : k = Gw.Diff.lowB R s := by
        rcases Nat.lt_or_ge k (Gw.Diff.lowB R s) with q | q
        · exact absurd (Gw.Diff.lowB_low q).2 h
        · omega
      conv => whnf
      refine ⟨⟨by omega, by omega⟩, ?_⟩
      conv => whnf
      refine ⟨hfa, ?_⟩
      conv => whnf
      refine ⟨⟨by omega, by omega⟩, ?_⟩
      conv => whnf
      refine ⟨hfb, ?_⟩
      conv => whnf
      refine ⟨⟨List.length_append.symm, hfc⟩, ?_⟩
      conv => whnf
      refine ⟨⟨List.length_append.symm, hfd⟩, ?_⟩
      conv => whnf
      rw [hres]
      exact SubV.refl _
  · have h := of_decide_eq_false h
    rw [hRe] at h
    obtain rfl : k = Gw.Diff.lowB R s := by omega
    conv => whnf
    refine ⟨⟨by omega, by omega⟩, ?_⟩
    conv => whnf
    refine ⟨hfa, ?_⟩
    conv => whnf
    refine ⟨⟨by omega, by omega⟩, ?_⟩
    conv => whnf
    refine ⟨hfb, ?_⟩
    conv => whnf
    refine ⟨⟨List.length_append.symm, hfc⟩, ?_⟩
    conv => whnf
    refine ⟨⟨List.length_append.symm, hfd⟩, ?_⟩
    conv => whnf
    rw [hres]
    exact SubV.refl _
theorem paths_pc (n : Bool) (I : List Gw.View.Item) (hl : I.length ≤ 1000) :
    ∃ q, PC Tryz.prog 22 [.lst n 3 (encIt I) .none] (.lst q 1 (encS1 (Gw.Diff.setB (I.map (·.path)))) .none) := by
  have hel := encIt_len I
  refine ⟨decide (I = []), ?_⟩
  rw [← Gw.Diff.rpaths_eq]
  have hlen : ∀ (l x : List (List UInt8)), (l.foldl Gw.Diff.withB x).length ≤ x.length + l.length := by
    intro l
    induction l with
    | nil => intro x; exact Nat.le_refl _
    | cons a l ih =>
      intro x
      have h1 := ih (Gw.Diff.withB x a)
      have h2 := Gw.Diff.with_len x a
      rw [List.foldl_cons, List.length_cons]
      omega
  refine PC.ofS tabOk mixed (fn := Tryz.f22) (by kernel_rfl) rfl (by kernel_rfl) rfl rfl ?_
  conv => whnf
  refine AW.nilSlot 3 1 rfl ?_
  refine AW.loop (fun k : Nat => [(.tmp 0, .v (.lst n 3 (encIt I) .none)), (.tmp 4, .v (.int .i64 k)), (.tmp 3, .v (.lst (decide (k = 0)) 1 (encS1 (((I.take k).map (·.path)).foldl Gw.Diff.withB [])) .none))]) 0
    (fun k => k ≤ I.length) (fun k => I.length - k) (by decide) 0 (Nat.zero_le _) ⟨rfl, rfl, rfl, rfl, rfl, rfl, trivial⟩ ?_
  rintro k hk
  refine ev_sound tabOk mixed _ _ _ _ ?_
  conv => whnf
  refine ⟨fun h => ?_, fun h => ?_⟩
  · have h := of_decide_eq_true h
    rw [hel] at h
    have hlt : k < I.length := by omega
    have hg := encIt_get hlt
    have hst : ((I.take (k + 1)).map (·.path)).foldl Gw.Diff.withB [] = Gw.Diff.withB (((I.take k).map (·.path)).foldl Gw.Diff.withB []) I[k].path := by
      rw [List.take_succ_eq_append_getElem hlt, List.map_append, List.foldl_append]
      rfl
    have hwl : (((I.take k).map (·.path)).foldl Gw.Diff.withB []).length ≤ 1000 := by
      have := hlen ((I.take k).map (·.path)) []
      rw [List.length_map, List.length_take, List.length_nil] at this
      omega
    generalize hW : ((I.take k).map (·.path)).foldl Gw.Diff.withB [] = W at *
    generalize hW' : ((I.take (k + 1)).map (·.path)).foldl Gw.Diff.withB [] = W' at *
    have hwp := with_pc (decide (k = 0)) W I[k].path (by omega)
    conv => whnf
    refine ⟨_, ⟨by omega, hg⟩, ?_⟩
    conv => whnf
    refine AC.of_pc hwp rfl ?_
    conv => whnf
    refine ⟨k + 1, by omega, by show I.length - (k + 1) < I.length - k; omega, rfl, rfl, ?_, rfl, ?_, rfl, trivial⟩
    · show C.v (V.int .i64 (IntKind.i64.wrap ((k : Int) + 1))) = _
      rw [w64 (by omega) (by omega)]; rfl
    · rw [hW', hst]; rfl
  · have h := of_decide_eq_false h
    rw [hel] at h
    obtain rfl : k = I.length := by omega
    rw [List.take_length]
    have hd : decide (I.length = 0) = decide (I = []) := by rw [decide_eq_decide, List.length_eq_zero_iff]
    rw [hd]
    conv => whnf
    exact SubV.refl _
end Go.Proofs.YtipgfdepopfghaaGreat
