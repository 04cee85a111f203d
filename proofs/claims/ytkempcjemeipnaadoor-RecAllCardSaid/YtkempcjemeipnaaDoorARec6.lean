/- What the document's answer takes, told without addresses. No claim of its own. -/
import Derived.Test.YtkempcjemeipnaaDoorARec5
namespace Go.Proofs.YtkempcjemeipnaaDoor
open Go.Am

theorem rinner_len (s : List UInt8) : ∀ k, (Gw.Rec.rinner s k).length ≤ 14 * k
  | 0 => Nat.le_refl _
  | k + 1 => by
    have := rinner_len s k
    rw [Gw.Rec.rinner_succ, List.length_append]
    unfold Gw.Rec.rin
    rw [List.length_drop, List.length_take]; omega
theorem rinner_pc (s : List UInt8) (hs : s.length ≤ 1048576) : PC Tryd.prog 40 [.str s] (.str (Gw.Rec.rinner s (s.length / 16))) := by
  refine PC.of tabOk mixed (fn := Tryd.f40) (by kernel_rfl) rfl (by kernel_rfl) rfl rfl ?_
  conv => whnf
  refine AW.loop (fun k : Nat => [(.tmp 0, .v (.str s)), (.tmp 3, .v (.str (Gw.Rec.rinner s k))), (.tmp 4, .v (.int .i64 (16 * k : Nat)))]) 0
    (fun k => 16 * k ≤ s.length) (fun k => s.length - k) (by decide) 0 (Nat.zero_le _) ⟨rfl, rfl, rfl, rfl, rfl, rfl, trivial⟩ ?_
  rintro k hk
  have hrl := rinner_len s k
  have e0 : IntKind.i64.wrap (((16 * k : Nat) : Int) + 16) = ((16 * k + 16 : Nat) : Int) := by rw [w64 (by omega) (by omega)]; rfl
  have e1 : IntKind.i64.wrap (((16 * k : Nat) : Int) + 1) = ((16 * k + 1 : Nat) : Int) := by rw [w64 (by omega) (by omega)]; rfl
  have e2 : IntKind.i64.wrap (((16 * k : Nat) : Int) + 15) = ((16 * k + 15 : Nat) : Int) := by rw [w64 (by omega) (by omega)]; rfl
  refine ev_sound tabOk mixed _ _ _ _ ?_
  conv => whnf
  rw [e0]
  refine ⟨fun h => ?_, fun h => ?_⟩
  · have h : 16 * k + 16 ≤ s.length := by
      have h := of_decide_eq_true h
      omega
    conv => whnf
    rw [e1, e2]
    refine ⟨⟨by omega, by omega, by rw [Int.toNat_natCast]; omega⟩, ?_⟩
    rw [Int.toNat_natCast, Int.toNat_natCast]
    conv => whnf
    refine ⟨by show (Gw.Rec.rinner s k).length + (Gw.Rec.rin s k).length < _; unfold Gw.Rec.rin; rw [List.length_drop, List.length_take]; omega, ?_⟩
    conv => whnf
    refine ⟨k + 1, h, by show _ - (k + 1) < _ - k; omega, rfl, rfl, ?_, rfl, ?_, rfl, trivial⟩
    · show C.v (V.str (Gw.Rec.rinner s k ++ Gw.Rec.rin s k)) = C.v (V.str (Gw.Rec.rinner s (k + 1)))
      rw [Gw.Rec.rinner_succ]
    · show C.v (V.int .i64 (IntKind.i64.wrap (((16 * k : Nat) : Int) + 16))) = C.v (V.int .i64 ((16 * (k + 1) : Nat) : Int))
      rw [e0]; rfl
  · have h : s.length / 16 = k := by
      have h := of_decide_eq_false h
      omega
    conv => whnf
    rw [h]
def took2 (s : List UInt8) : List UInt8 := match Gw.Vlq.take s with
  | none => []
  | some (_, u) => s.drop u
def tookT1 (s : List UInt8) : List UInt8 := match Gw.Rec.takeT s with
  | none => []
  | some (x, _) => x
theorem took_form (s : List UInt8) : ∃ n e, tookV s = .tup [.int .i64 n, .str (took2 s), .int .i64 e] := by
  unfold tookV took2
  cases Gw.Vlq.take s with
  | none => exact ⟨_, _, rfl⟩
  | some p => exact ⟨_, _, rfl⟩
theorem tookT_form (s : List UInt8) : ∃ y e, tookTextV s = .tup [.str (tookT1 s), .str y, .int .i64 e] := by
  rw [tookT_eq]
  unfold tookT1
  cases Gw.Rec.takeT s with
  | none => exact ⟨_, _, rfl⟩
  | some p => exact ⟨_, _, rfl⟩
theorem rtextW_eq (x : List UInt8) : Gw.Rec.rtextW x = if (tookT1 x).length < 4 then [] else tookT1 (took2 ((tookT1 x).take ((tookT1 x).length - 4))) := by
  unfold Gw.Rec.rtextW
  cases h : Gw.Rec.takeT x with
  | none =>
    have e : tookT1 x = [] := by unfold tookT1; rw [h]
    rw [e]; rfl
  | some p =>
    obtain ⟨t, y⟩ := p
    have e : tookT1 x = t := by unfold tookT1; rw [h]
    rw [e]
    simp only
    split
    · rfl
    · unfold Gw.Rec.rtextN
      cases h2 : Gw.Vlq.take (t.take (t.length - 4)) with
      | none =>
        have e : took2 (t.take (t.length - 4)) = [] := by unfold took2; rw [h2]
        rw [e]; rfl
      | some q =>
        obtain ⟨n, u⟩ := q
        have e : took2 (t.take (t.length - 4)) = (t.take (t.length - 4)).drop u := by unfold took2; rw [h2]
        rw [e]
        simp only
        unfold tookT1
        cases h3 : Gw.Rec.takeT ((t.take (t.length - 4)).drop u) with
        | none => rfl
        | some z => rfl
theorem tookT1_len (s : List UInt8) : (tookT1 s).length ≤ s.length := by
  unfold tookT1
  cases h : Gw.Rec.takeT s with
  | none => exact Nat.zero_le _
  | some p => exact Gw.Rec.takeT_len h
theorem rtxt_pc (s : List UInt8) (hs : s.length ≤ 1048576) : PC Tryd.prog 31 [.str s] (.str (Gw.Rec.rtext s)) := by
  unfold Gw.Rec.rtext
  rw [rtextW_eq]
  have c1 := rinner_pc s hs
  have hxl := rinner_len s (s.length / 16)
  generalize Gw.Rec.rinner s (s.length / 16) = x at *
  have c2 := rtakeText_pc x
  obtain ⟨y, e, h⟩ := tookT_form x
  rw [h] at c2
  have htl := tookT1_len x
  generalize tookT1 x = t at *
  have c3 := rtake_pc (t.take (t.length - 4))
  obtain ⟨q, e2, h2⟩ := took_form (t.take (t.length - 4))
  rw [h2] at c3
  generalize took2 (t.take (t.length - 4)) = r at *
  have c4 := rtakeText_pc r
  obtain ⟨y3, e3, h3⟩ := tookT_form r
  rw [h3] at c4
  generalize tookT1 r = z at *
  refine PC.of tabOk mixed (fn := Tryd.f31) (by kernel_rfl) rfl (by kernel_rfl) rfl rfl ?_
  conv => whnf
  refine AC.of_pc c1 rfl ?_
  conv => whnf
  refine AC.of_pc c2 rfl ?_
  conv => whnf
  refine ⟨fun h4 => ?_, fun h4 => ?_⟩
  · have h4 : t.length < 4 := by have := of_decide_eq_true h4; omega
    rw [if_pos h4]
    conv => whnf
  have h4 : ¬ t.length < 4 := by have := of_decide_eq_false h4; omega
  rw [if_neg h4]
  have e4 : IntKind.i64.wrap ((t.length : Int) - 4) = ((t.length - 4 : Nat) : Int) := by rw [w64 (by omega) (by omega)]; omega
  conv => whnf
  rw [e4]
  refine ⟨⟨by omega, by rw [Int.toNat_natCast]; omega⟩, ?_⟩
  rw [Int.toNat_natCast]
  refine AC.of_pc c3 rfl ?_
  conv => whnf
  refine AC.of_pc c4 rfl ?_
  conv => whnf
theorem rtakeRec_pc (s : List UInt8) (lsn : Int) (hs : s.length ≤ 1048576) : PC Tryd.prog 13 [.str s, .int .i64 lsn] (recTookV (Gw.Rec.take s lsn)) := by
  rw [← Gw.Rec.rtake_eq]
  have c1 := rtxt_pc s hs
  generalize Gw.Rec.rtext s = p at *
  have c2 := rpack_pc lsn p
  unfold Gw.Rec.pack Gw.Rec.packErr at c2
  obtain ⟨R, hR⟩ : ∃ R, R = recTookV (Gw.Rec.takeB s lsn p) := ⟨_, rfl⟩
  rw [← hR]
  unfold Gw.Rec.takeB at hR
  refine PC.of tabOk mixed (fn := Tryd.f13) (by kernel_rfl) rfl (by kernel_rfl) rfl rfl ?_
  conv => whnf
  refine AC.of_pc c1 rfl ?_
  conv => whnf
  by_cases hm : Gw.Rec.may lsn p = true
  · rw [if_pos hm, if_pos hm] at c2
    rw [if_pos hm] at hR
    refine AC.of_pc c2 rfl ?_
    conv => whnf
    repeat (first | refine ⟨fun _ => ?_, fun h => absurd h (by decide)⟩ | refine ⟨fun h => absurd h (by decide), fun _ => ?_⟩ | refine ⟨fun _ => ?_, fun h => absurd (show true = false from h) (by decide)⟩ | refine ⟨fun h => absurd (show false = true from h) (by decide), fun _ => ?_⟩
            (conv => whnf))
    refine ⟨fun h => ?_, fun h => ?_⟩
    · have h := of_decide_eq_true h
      have e : Gw.Rec.isPre (Gw.Rec.packed lsn.toNat p) s = false := by unfold Gw.Rec.isPre; rw [decide_eq_false (by omega)]; rfl
      rw [e, if_neg (by decide)] at hR
      conv => whnf
      repeat (first | refine ⟨fun _ => ?_, fun h => absurd h (by decide)⟩ | refine ⟨fun h => absurd h (by decide), fun _ => ?_⟩ | refine ⟨fun _ => ?_, fun h => absurd (show true = false from h) (by decide)⟩ | refine ⟨fun h => absurd (show false = true from h) (by decide), fun _ => ?_⟩
              (conv => whnf))
      rw [hR]; rfl
    have h := of_decide_eq_false h
    conv => whnf
    refine ⟨⟨by omega, by rw [Int.toNat_natCast]; omega⟩, ?_⟩
    rw [Int.toNat_natCast]
    conv => whnf
    refine ⟨fun h2 => ?_, fun h2 => ?_⟩
    · have e : Gw.Rec.isPre (Gw.Rec.packed lsn.toNat p) s = false := by
        unfold Gw.Rec.isPre
        have h2 : s.take (Gw.Rec.packed lsn.toNat p).length ≠ Gw.Rec.packed lsn.toNat p := by simpa using h2
        rw [decide_eq_false h2, Bool.and_false]
      rw [e, if_neg (by decide)] at hR
      conv => whnf
      rw [hR]; rfl
    · have e : Gw.Rec.isPre (Gw.Rec.packed lsn.toNat p) s = true := by
        unfold Gw.Rec.isPre
        have h2 : s.take (Gw.Rec.packed lsn.toNat p).length = Gw.Rec.packed lsn.toNat p := by simpa using h2
        rw [decide_eq_true h2, decide_eq_true (by omega)]; rfl
      rw [e, if_pos rfl] at hR
      conv => whnf
      rw [hR]
      have e : (((Gw.Rec.packed lsn.toNat p).length : Int)).tdiv 16 = (((Gw.Rec.packed lsn.toNat p).length / 16 : Nat) : Int) := Int.ofNat_tdiv _ 16
      rw [e, w64 (by omega) (by omega)]; rfl
  · rw [if_neg hm, if_neg hm] at c2
    rw [if_neg hm] at hR
    refine AC.of_pc c2 rfl ?_
    conv => whnf
    repeat (first | refine ⟨fun _ => ?_, fun h => absurd h (by decide)⟩ | refine ⟨fun h => absurd h (by decide), fun _ => ?_⟩ | refine ⟨fun _ => ?_, fun h => absurd (show true = false from h) (by decide)⟩ | refine ⟨fun h => absurd (show false = true from h) (by decide), fun _ => ?_⟩
            (conv => whnf))
    rw [hR]; rfl
theorem rAll_pc (s : List UInt8) (lsn : Int) (hs : s.length ≤ 1048576) (hlo : -9223372036854775808 ≤ lsn) (hhi : lsn < 9223372036854775808) : PC Tryd.prog 15 [.str s, .int .i64 lsn] (allV (Gw.Rec.all s lsn)) := by
  refine PC.ofS tabOk mixed (fn := Tryd.f15) (by kernel_rfl) rfl (by kernel_rfl) rfl rfl ?_
  conv => whnf
  refine AW.row 6 9 1 rfl rfl (.inr rfl) ?_
  refine AW.loop (X := List (List UInt8) × Nat × Int) (fun x => [(.tmp 0, .v (.str s)), (.tmp 1, .v (.int .i64 lsn)), (.tmp 6, .v (.lst (decide (x.1 = [])) 1 (encSL x.1) (.row 4))), (.tmp 7, .v (.int .i64 (x.2.1 : Nat))), (.row 4, .row 9 1 x.1.length)]) 5
    (fun x => 16 * x.2.1 ≤ s.length ∧ x.1.length ≤ x.2.1 ∧ x.2.2 = lsn + x.1.length ∧ (x.1 ≠ [] → 1 ≤ lsn ∧ x.2.2 ≤ 1000001) ∧ ∃ f, s.length < f + x.2.1 ∧ Gw.Rec.all s lsn = Gw.Rec.allF f s x.2.2 x.1 x.2.1) (fun x => s.length - x.2.1) (by decide) ([], 0, lsn) ⟨Nat.zero_le _, Nat.le_refl _, by simp, fun h => absurd rfl h, s.length + 1, by simp, rfl⟩
    ⟨rfl, rfl, rfl, rfl, rfl, rfl, rfl, rfl, rfl, rfl, trivial⟩ ?_
  rintro ⟨acc, n, ls⟩ ⟨h1, h2, h5, h6, f, hf, hr⟩
  simp only at h1 h2 h5 h6 hf hr
  have hal := encSL_len acc
  have e1 : IntKind.i64.wrap (16 * (n : Int)) = ((16 * n : Nat) : Int) := by rw [w64 (by omega) (by omega)]; omega
  obtain ⟨f, rfl⟩ : ∃ g, f = g + 1 := ⟨f - 1, by omega⟩
  rw [Gw.Rec.allF] at hr
  have c := rtakeRec_pc (s.drop (16 * n)) ls (by rw [List.length_drop]; omega)
  refine ev_sound tabOk mixed _ _ _ _ ?_
  conv => whnf
  refine ⟨fun h => ?_, fun h => ?_⟩
  · have h : acc.length < s.length := by
      have h := of_decide_eq_true (show decide (((encSL acc).length : Int) < (s.length : Int)) = true from h)
      rw [hal] at h
      omega
    conv => whnf
    rw [e1]
    refine ⟨⟨by omega, by rw [Int.toNat_natCast]; exact h1⟩, ?_⟩
    rw [Int.toNat_natCast]
    have e2 : IntKind.i64.wrap (lsn + ((encSL acc).length : Int)) = ls := by
      rw [hal, h5]
      by_cases hz : acc = []
      · subst hz; rw [w64 (by simp; omega) (by simp; omega)]
      · have := h6 hz
        have := h5 ▸ this.2
        rw [w64 (by omega) (by omega)]
    rw [← e2] at c
    rcases ht : Gw.Rec.take (s.drop (16 * n)) ls with _ | ⟨p, k⟩
    · rw [e2, ht] at c
      rw [ht] at hr
      simp only at hr
      rw [← e2] at c
      refine AC.of_pc c rfl ?_
      conv => whnf
      repeat (first | refine ⟨fun _ => ?_, fun h => absurd h (by decide)⟩ | refine ⟨fun h => absurd h (by decide), fun _ => ?_⟩ | refine ⟨fun _ => ?_, fun h => absurd (show true = false from h) (by decide)⟩ | refine ⟨fun h => absurd (show false = true from h) (by decide), fun _ => ?_⟩
              (conv => whnf))
      rw [hr]
      exact SubV.refl _
    · have hb := Gw.Rec.take_bound ht
      have hm := may_le (Gw.Rec.take_more ht).1
      rw [List.length_drop] at hb
      rw [e2, ht] at c
      rw [ht] at hr
      simp only at hr
      rw [← e2] at c
      refine AC.of_pc c rfl ?_
      conv => whnf
      repeat (first | refine ⟨fun _ => ?_, fun h => absurd h (by decide)⟩ | refine ⟨fun h => absurd h (by decide), fun _ => ?_⟩ | refine ⟨fun _ => ?_, fun h => absurd (show true = false from h) (by decide)⟩ | refine ⟨fun h => absurd (show false = true from h) (by decide), fun _ => ?_⟩
              (conv => whnf))
      refine ⟨⟨hal.symm, fits_small (by show (encSL acc).length + 1 ≤ _; omega) (by decide)⟩, ?_⟩
      conv => whnf
      refine ⟨(acc ++ [p], n + k, ls + 1), ⟨by simp only; omega, by simp only [List.length_append, List.length_singleton]; omega, by simp only [List.length_append, List.length_singleton]; omega, fun _ => ⟨?_, by simp only; omega⟩, f, by simp only; omega, hr⟩, by show _ - (n + k) < _ - n; omega, rfl, rfl, rfl, rfl, ?_, rfl, ?_, rfl, ?_, rfl, trivial⟩
      · by_cases hz : acc = []
        · subst hz; simp at h5; omega
        · exact (h6 hz).1
      · show C.v (V.lst (decide (acc = []) && false) 1 (encSL acc ++ [[V.str p]]) _) = C.v (V.lst (decide (acc ++ [p] = [])) 1 (encSL (acc ++ [p])) _)
        rw [Bool.and_false, decide_eq_false (by simp), encSL, encSL, List.map_append]
        rfl
      · show C.v (V.int .i64 (IntKind.i64.wrap ((n : Int) + (k : Int)))) = C.v (V.int .i64 ((n + k : Nat) : Int))
        rw [w64 (by omega) (by omega)]; rfl
      · show C.row _ 1 ((encSL acc).length + 1) = C.row _ 1 (acc ++ [p]).length
        rw [hal, List.length_append]
        rfl
  · have h : ¬ acc.length < s.length := by
      have h := of_decide_eq_false (show decide (((encSL acc).length : Int) < (s.length : Int)) = false from h)
      rw [hal] at h
      omega
    have hz : s = [] := List.eq_nil_of_length_eq_zero (by omega)
    have e : Gw.Rec.take (s.drop (16 * n)) ls = none := by
      rcases ht : Gw.Rec.take (s.drop (16 * n)) ls with _ | ⟨p, k⟩
      · rfl
      · have hb := Gw.Rec.take_bound ht
        rw [List.length_drop, hz] at hb
        simp only [List.length_nil] at hb
        omega
    rw [e] at hr
    simp only at hr
    conv => whnf
    rw [hr]
    exact SubV.refl _
theorem strSame_pc (na nb : Bool) (a b : List (List UInt8)) (hl : a.length ≤ 1048576) : PC Tryd.prog 16 [.lst na 1 (encSL a) .none, .lst nb 1 (encSL b) .none] (.bool (decide (a = b))) := by
  have hal := encSL_len a
  have hbl := encSL_len b
  refine PC.of tabOk mixed (fn := Tryd.f16) (by kernel_rfl) rfl (by kernel_rfl) rfl rfl ?_
  conv => whnf
  refine ⟨fun h => ?_, fun h => ?_⟩
  · have h : a.length ≠ b.length := by
      have h : (((encSL a).length : Int) != ((encSL b).length : Int)) = true := h
      rw [hal, hbl] at h
      intro e; rw [e] at h; simp at h
    rw [decide_eq_false (fun e => h (by rw [e]))]
    conv => whnf
  have h : a.length = b.length := by
    have h : (((encSL a).length : Int) != ((encSL b).length : Int)) = false := h
    rw [hal, hbl] at h
    have h : ((a.length : Int) = (b.length : Int)) := by simpa using h
    omega
  conv => whnf
  refine AW.loop (fun k : Nat => [(.tmp 0, .v (.lst na 1 (encSL a) .none)), (.tmp 1, .v (.lst nb 1 (encSL b) .none)), (.tmp 5, .v (.int .i64 k))]) 0
    (fun k => k ≤ a.length ∧ a.take k = b.take k) (fun k => a.length - k) (by decide) 0 ⟨Nat.zero_le _, rfl⟩ ⟨rfl, rfl, rfl, rfl, rfl, rfl, trivial⟩ ?_
  rintro k ⟨hk, hka⟩
  refine ev_sound tabOk mixed _ _ _ _ ?_
  conv => whnf
  refine ⟨fun h2 => ?_, fun h2 => ?_⟩
  · have h2 : k < a.length := by
      have h2 := of_decide_eq_true (show decide ((k : Int) < ((encSL a).length : Int)) = true from h2)
      rw [hal] at h2
      omega
    have hx : ∀ (l : List (List UInt8)) (hx : k < l.length), (encSL l)[((k : Nat) : Int).toNat]? = some [.str l[k]] := fun l hx => by
      rw [Int.toNat_natCast, encSL, List.getElem?_map, List.getElem?_eq_getElem hx]; rfl
    conv => whnf
    refine ⟨_, ⟨by omega, hx a h2⟩, ?_⟩
    conv => whnf
    refine ⟨_, ⟨by omega, hx b (by omega)⟩, ?_⟩
    conv => whnf
    refine ⟨by kernel_rfl, ?_⟩
    conv => whnf
    refine ⟨fun h3 => ?_, fun h3 => ?_⟩
    · have h3 : a[k] ≠ b[k] := by simpa using h3
      rw [decide_eq_false (show ¬ a = b from fun e => h3 (by subst e; rfl))]
      conv => whnf
    · have h3 : a[k] = b[k] := by simpa using h3
      conv => whnf
      refine ⟨k + 1, ⟨h2, by rw [List.take_succ_eq_append_getElem h2, List.take_succ_eq_append_getElem (by omega), hka, h3]⟩, by show _ - (k + 1) < _ - k; omega, rfl, rfl, rfl, rfl, ?_, rfl, trivial⟩
      show C.v (V.int .i64 (IntKind.i64.wrap ((k : Int) + 1))) = _
      rw [w64 (by omega) (by omega)]; rfl
  · have h2 : k = a.length := by
      have h2 := of_decide_eq_false (show decide ((k : Int) < ((encSL a).length : Int)) = false from h2)
      rw [hal] at h2
      omega
    subst h2
    rw [List.take_length, h, List.take_length] at hka
    rw [decide_eq_true hka]
    conv => whnf
end Go.Proofs.YtkempcjemeipnaaDoor
