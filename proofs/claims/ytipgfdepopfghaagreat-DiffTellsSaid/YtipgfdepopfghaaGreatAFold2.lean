/- Nodes that operations make, however many: told without addresses. No claim of its own. -/
import Derived.Test.YtipgfdepopfghaaGreatACompact
namespace Go.Proofs.YtipgfdepopfghaaGreat
open Go.Am

theorem insert0_pc (q : Bool) : PC Tryz.prog 99 [.lst q 7 [] .none, .int .i64 0, .int .i64 (0 : Nat), cmpV] (.tup []) := by
  refine PC.of tabOk mixed (fn := Tryz.f99) (by kernel_rfl) rfl (by kernel_rfl) rfl rfl ?_
  conv => whnf
  refine AW.loop (X := Unit) (fun _ => [(.tmp 2, .v (.int .i64 (0 : Nat))), (.tmp 8, .v (.int .i64 1))]) 0 (fun _ => True) (fun _ => 0) (by decide) () trivial ⟨rfl, rfl, rfl, rfl, trivial⟩ ?_
  rintro _ _
  refine ev_sound tabOk mixed _ _ _ _ ?_
  conv => whnf
  repeat (first | refine ⟨fun _ => ?_, fun h => absurd h (by decide)⟩ | refine ⟨fun h => absurd h (by decide), fun _ => ?_⟩ | refine ⟨fun _ => ?_, fun h => absurd (show true = false from h) (by decide)⟩ | refine ⟨fun h => absurd (show false = true from h) (by decide), fun _ => ?_⟩
          (conv => whnf))
theorem stable0_pc (q : Bool) : PC Tryz.prog 67 [.lst q 7 [] .none, .int .i64 (0 : Nat), cmpV] (.tup []) := by
  have h0 := insert0_pc q
  refine PC.of tabOk mixed (fn := Tryz.f67) (by kernel_rfl) rfl (by kernel_rfl) rfl rfl ?_
  conv => whnf
  refine AW.loop (X := Unit) (fun _ => [(.tmp 0, .v (.lst q 7 [] .none)), (.tmp 1, .v (.int .i64 (0 : Nat))), (.tmp 2, .v cmpV), (.tmp 6, .v (.int .i64 20)), (.tmp 7, .v (.int .i64 0)), (.tmp 8, .v (.int .i64 20))]) 0 (fun _ => True) (fun _ => 0) (by decide) () trivial ⟨rfl, rfl, rfl, rfl, rfl, rfl, rfl, rfl, rfl, rfl, rfl, rfl, trivial⟩ ?_
  rintro _ _
  refine ev_sound tabOk mixed _ _ _ _ ?_
  conv => whnf
  repeat (first | refine ⟨fun _ => ?_, fun h => absurd h (by decide)⟩ | refine ⟨fun h => absurd h (by decide), fun _ => ?_⟩ | refine ⟨fun _ => ?_, fun h => absurd (show true = false from h) (by decide)⟩ | refine ⟨fun h => absurd (show false = true from h) (by decide), fun _ => ?_⟩
          (conv => whnf))
  refine AC.of_pc h0 rfl ?_
  conv => whnf
  refine AW.loop (X := Unit) (fun _ => [(.tmp 1, .v (.int .i64 (0 : Nat))), (.tmp 6, .v (.int .i64 20))]) 0 (fun _ => True) (fun _ => 0) (by decide) () trivial ⟨rfl, rfl, rfl, rfl, trivial⟩ ?_
  rintro _ _
  refine ev_sound tabOk mixed _ _ _ _ ?_
  conv => whnf
  repeat (first | refine ⟨fun _ => ?_, fun h => absurd h (by decide)⟩ | refine ⟨fun h => absurd h (by decide), fun _ => ?_⟩ | refine ⟨fun _ => ?_, fun h => absurd (show true = false from h) (by decide)⟩ | refine ⟨fun h => absurd (show false = true from h) (by decide), fun _ => ?_⟩
          (conv => whnf))
theorem sortS0_pc (q : Bool) : PC Tryz.prog 40 [.lst q 7 [] .none, cmpV] (.tup []) := by
  have h0 := stable0_pc q
  refine PC.of tabOk mixed (fn := Tryz.f40) (by kernel_rfl) rfl (by kernel_rfl) rfl rfl ?_
  conv => whnf
  refine AC.of_pc h0 rfl ?_
  conv => whnf
theorem compact0_pc (q : Bool) : PC Tryz.prog 43 [.lst q 7 [] .none, .func 44 [] []] (.lst q 7 [] .none) := by
  refine PC.of tabOk mixed (fn := Tryz.f43) (by kernel_rfl) rfl (by kernel_rfl) rfl rfl ?_
  conv => whnf
  repeat (first | refine ⟨fun _ => ?_, fun h => absurd h (by decide)⟩ | refine ⟨fun h => absurd h (by decide), fun _ => ?_⟩ | refine ⟨fun _ => ?_, fun h => absurd (show true = false from h) (by decide)⟩ | refine ⟨fun h => absurd (show false = true from h) (by decide), fun _ => ?_⟩
          (conv => whnf))
theorem flatO_getP {l : List Gw.Op.Op} {j : Nat} (h : j < l.length) (rest : List V) : List.take 7 (List.drop (0 + (j : Int).toNat * 7) (flatO l ++ rest)) = cellsO l[j] := by
  have hl := flatO_len l
  have hr : (flatO (l.take j)).length = j * 7 := by
    rw [flatO_len, List.length_take, Nat.min_eq_left (Nat.le_of_lt h)]
  rw [Int.toNat_natCast, Nat.zero_add, flatO_split h, List.append_assoc, List.drop_left' hr, List.append_assoc]
  rfl
/-- What Fold gives: the nodes of some of the operations, that may be. -/
def Folds (l : List Gw.Op.Op) (v : V) : Prop := ∃ q s, (∀ o ∈ s, o ∈ l ∧ Gw.Op.check o = true) ∧ s.length ≤ l.length ∧ v = .lst q 8 (encN (foldN s)) .none
theorem foldG_pr (nil : Bool) (l : List Gw.Op.Op) (hl : l.length ≤ 1000) (hf : ∀ o ∈ l, Fine o) : PR Tryz.prog 21 [.lst nil 7 (encOs l) .none] (Folds l) := by
  have hel := encOs_len l
  refine PR.ofA tabOk (fn := Tryz.f21) (by kernel_rfl) rfl (by kernel_rfl) rfl rfl ?_
  refine AW.seq (ev_sound tabOk mixed _ _ _ _ ?_)
  conv => whnf
  refine AW.seq (ev_sound tabOk mixed _ _ _ _ ?_)
  conv => whnf
  refine AW.seq (ev_sound tabOk mixed _ _ _ _ ?_)
  conv => whnf
  refine AW.rowT 3 51 7 rfl rfl ?_
  refine AW.loop (fun k : Nat => [(.tmp 9, .v (.lst nil 7 (encOs l) .none)), (.tmp 10, .v (.int .i64 l.length)), (.tmp 11, .v (.int .i64 k)), (.tmp 3, .v (.lst (decide ((l.take k).filter Gw.Op.check = [])) 7 (encOs ((l.take k).filter Gw.Op.check)) (.brow 5))), (.row 5, .row 51 7 ((l.take k).filter Gw.Op.check).length)]) 6
    (fun k => k ≤ l.length) (fun k => l.length - k) (by decide) 0 (Nat.zero_le _) ⟨rfl, rfl, ?_, rfl, rfl, rfl, rfl, rfl, rfl, rfl, trivial⟩ ?_
  · show C.v (V.int .i64 (encOs l).length) = _
    rw [hel]
  rintro k hk
  refine ev_sound tabOk mixed _ _ _ _ ?_
  conv => whnf
  refine ⟨fun h => ?_, fun h => ?_⟩
  · have h := of_decide_eq_true h
    have hlt : k < l.length := by omega
    have hg := encOs_get hlt
    have hoc := opCheck_pc l[k] (hf _ (List.getElem_mem hlt))
    have e1 : l.take (k + 1) = l.take k ++ [l[k]] := List.take_succ_eq_append_getElem hlt
    have w1 : IntKind.i64.wrap ((k : Int) + 1) = ((k + 1 : Nat) : Int) := by rw [w64 (by omega) (by omega)]; rfl
    have hal : ((l.take k).filter Gw.Op.check).length ≤ k := by have := List.length_filter_le Gw.Op.check (l.take k); rw [List.length_take] at this; omega
    conv => whnf
    refine ⟨_, ⟨by omega, hg⟩, ?_⟩
    conv => whnf
    refine AC.of_pc hoc rfl ?_
    cases hq : Gw.Op.check l[k] with
    | false =>
      have e2 : (l.take (k + 1)).filter Gw.Op.check = (l.take k).filter Gw.Op.check := by rw [e1, List.filter_append, List.filter_cons_of_neg (by simp [hq]), List.filter_nil, List.append_nil]
      conv => whnf
      repeat (first | refine ⟨fun _ => ?_, fun h => absurd h (by decide)⟩ | refine ⟨fun h => absurd h (by decide), fun _ => ?_⟩ | refine ⟨fun _ => ?_, fun h => absurd (show true = false from h) (by decide)⟩ | refine ⟨fun h => absurd (show false = true from h) (by decide), fun _ => ?_⟩
              (conv => whnf))
      refine ⟨k + 1, by omega, by show l.length - (k + 1) < l.length - k; omega, rfl, rfl, rfl, rfl, ?_, rfl, ?_, rfl, ?_, rfl, trivial⟩
      · show C.v (V.int .i64 (IntKind.i64.wrap ((k : Int) + 1))) = _
        rw [w1]
      · rw [e2]; rfl
      · rw [e2]; rfl
    | true =>
      have e2 : (l.take (k + 1)).filter Gw.Op.check = (l.take k).filter Gw.Op.check ++ [l[k]] := by rw [e1, List.filter_append, List.filter_cons_of_pos hq, List.filter_nil]
      generalize (l.take k).filter Gw.Op.check = acc at *
      have hac := encOs_len acc
      conv => whnf
      repeat (first | refine ⟨fun _ => ?_, fun h => absurd h (by decide)⟩ | refine ⟨fun h => absurd h (by decide), fun _ => ?_⟩ | refine ⟨fun _ => ?_, fun h => absurd (show true = false from h) (by decide)⟩ | refine ⟨fun h => absurd (show false = true from h) (by decide), fun _ => ?_⟩
              (conv => whnf))
      refine ⟨⟨hac.symm, fits_small (by show (encOs acc).length + 1 ≤ _; omega) (by decide)⟩, ?_⟩
      conv => whnf
      refine ⟨k + 1, by omega, by show l.length - (k + 1) < l.length - k; omega, rfl, rfl, rfl, rfl, ?_, rfl, ?_, rfl, ?_, rfl, trivial⟩
      · show C.v (V.int .i64 (IntKind.i64.wrap ((k : Int) + 1))) = _
        rw [w1]
      · rw [e2]
        show C.v (V.lst (decide (acc = []) && false) 7 (encOs acc ++ [cellsO l[k]]) _) = C.v (V.lst (decide (acc ++ [l[k]] = [])) 7 (encOs (acc ++ [l[k]])) _)
        rw [Bool.and_false, decide_eq_false (by simp), encOs, encOs, List.map_append]
        rfl
      · rw [e2]
        show C.row _ 7 ((encOs acc).length + 1) = C.row _ 7 (acc ++ [l[k]]).length
        rw [hac, List.length_append]
        rfl
  · have h := of_decide_eq_false h
    obtain rfl : k = l.length := by omega
    rw [List.take_length]
    conv => whnf
    have hn : (encOs (l.filter Gw.Op.check)).length = (l.filter Gw.Op.check).length := encOs_len _
    have hfl0 : (l.filter Gw.Op.check).length ≤ l.length := List.length_filter_le _ _
    have hmem : ∀ o ∈ l.filter Gw.Op.check, o ∈ l ∧ Gw.Op.check o = true := fun o ho => List.mem_filter.1 ho
    by_cases h0 : l.filter Gw.Op.check = []
    · rw [h0]
      refine ev_sound tabOk mixed _ _ _ _ ?_
      conv => whnf
      refine AC.of_pc (sortS0_pc _) rfl ?_
      conv => whnf
      refine AC.of_pc (compact0_pc _) rfl ?_
      conv => whnf
      refine AW.nilSlot 6 8 rfl ?_
      refine AW.loop (X := Unit) (fun _ => [(.tmp 26, .v (.lst true 7 [] .none)), (.tmp 27, .v (.int .i64 (0 : Nat))), (.tmp 28, .v (.int .i64 0)), (.tmp 6, .v (.lst true 8 [] .none))]) 0 (fun _ => True) (fun _ => 0) (by decide) () trivial ⟨rfl, rfl, rfl, rfl, rfl, rfl, rfl, rfl, trivial⟩ ?_
      rintro _ _
      refine ev_sound tabOk mixed _ _ _ _ ?_
      conv => whnf
      repeat (first | refine ⟨fun _ => ?_, fun h => absurd h (by decide)⟩ | refine ⟨fun h => absurd h (by decide), fun _ => ?_⟩ | refine ⟨fun _ => ?_, fun h => absurd (show true = false from h) (by decide)⟩ | refine ⟨fun h => absurd (show false = true from h) (by decide), fun _ => ?_⟩
              (conv => whnf))
      exact ⟨_, ⟨true, [], (fun o h => by cases h), Nat.zero_le _, rfl⟩, SubV.refl _⟩
    have hne' : encOs (l.filter Gw.Op.check) ≠ [] := fun e => h0 (by cases hx : l.filter Gw.Op.check with | nil => rfl | cons a b => rw [hx] at e; cases e)
    refine AW.thaw (m := 0) (es := []) 3 5 trivial (Nat.zero_le _) rfl (by decide) rfl (by rw [hn]; rfl) (Nat.zero_le _) hne' (safe_ops _) ?_
    rw [hn]
    generalize l.filter Gw.Op.check = g at *
    have hso := sortG_ac g g.length rfl (by omega)
    refine ev_sound tabOk mixed _ _ _ _ ?_
    conv => whnf
    refine AC.frame (es := opsAt g) ⟨rfl, rfl, trivial⟩ rfl (by decide) rfl hso ?_
    rintro x es ⟨rfl, s0, hs0, rfl⟩
    have hs0l := hs0.length_eq
    have hco := compactG_ac s0 g.length (by omega) (by omega)
    conv => whnf
    refine AC.frame (es := opsAt s0) ⟨rfl, rfl, trivial⟩ rfl (by decide) rfl hco ?_
    rintro x es ⟨s, rest, full, hsm, hsl, rfl, rfl⟩
    have hsf : ∀ o ∈ s, Fine o ∧ I64 o.node := fun o ho => by
      have := hf o (hmem o (hs0.mem_iff.1 (hsm o ho))).1
      exact ⟨this, this.node⟩
    conv => whnf
    refine AW.nilSlot 6 8 rfl ?_
    refine AW.loop (fun k : Nat => [(.tmp 26, .v (.own 0 0 7 s.length full)), (.tmp 27, .v (.int .i64 s.length)), (.tmp 28, .v (.int .i64 k)), (.tmp 6, .v (.lst (decide (k = 0)) 8 (encN (foldN (s.take k))) .none)), (.blk 0, .mem 51 (flatO s ++ rest))]) 1
      (fun k => k ≤ s.length) (fun k => s.length - k) (by decide) 0 (Nat.zero_le _) ⟨rfl, rfl, rfl, rfl, rfl, rfl, rfl, rfl, rfl, rfl, trivial⟩ ?_
    rintro k hk
    refine ev_sound tabOk mixed _ _ _ _ ?_
    have hfl := flatO_len s
    conv => whnf
    refine ⟨fun h => ?_, fun h => ?_⟩
    · have h := of_decide_eq_true h
      have hlt : k < s.length := by omega
      obtain ⟨f1, f2⟩ := foldN_fine (s.take k) fun o ho => (hsf o (List.mem_of_mem_take ho)).2
      rw [List.length_take] at f2
      have hdo := do_pc (decide (k = 0)) (foldN (s.take k)) s[k] f1 (by omega) (hsf _ (List.getElem_mem hlt)).1
      rw [← foldN_take s hlt] at hdo
      conv => whnf
      refine ⟨by omega, ?_⟩
      conv => whnf
      refine ⟨_, ⟨by rw [List.length_append]; omega, flatO_getP hlt rest⟩, ?_⟩
      conv => whnf
      refine AC.of_pc hdo rfl ?_
      conv => whnf
      refine ⟨k + 1, by omega, by show s.length - (k + 1) < s.length - k; omega, rfl, rfl, rfl, rfl, ?_, rfl, ?_, rfl, rfl, rfl, trivial⟩
      · show C.v (V.int .i64 (IntKind.i64.wrap ((k : Int) + 1))) = _
        rw [w64 (by omega) (by omega)]; rfl
      · rfl
    · have h := of_decide_eq_false h
      obtain rfl : k = s.length := by omega
      rw [List.take_length]
      conv => whnf
      exact ⟨_, ⟨decide (s.length = 0), s, fun o ho => hmem o (hs0.mem_iff.1 (hsm o ho)), by omega, rfl⟩, SubV.refl _⟩
end Go.Proofs.YtipgfdepopfghaaGreat
