/- The law ViewFinds, walked without addresses. No claim of its own. -/
import Derived.Test.YtkflmicpifohhaaAOnce
import Derived.Test.YtkflmicpifohhaaFindsPl
namespace Go.Proofs.Ytkflmicpifohhaa
open Go.Am

theorem drop_get (s : List UInt8) {i : Nat} (h : i < s.length) : s.drop i = s[i] :: s.drop (i + 1) := List.drop_eq_getElem_cons h
theorem split_pc (s : List UInt8) (hs : s.length ≤ 1048576) : ∃ q, PC Try.prog 20 [.str s] (.lst q 1 (encS1 (Gw.View.partsOf s)) .none) := by
  refine ⟨decide (Gw.View.partsOf s = []), ?_⟩
  refine PC.ofS tabOk mixed (fn := Try.f20) (by kernel_rfl) rfl (by kernel_rfl) rfl rfl ?_
  conv => whnf
  refine AW.row 3 9 1 rfl rfl (.inr rfl) ?_
  refine AW.loop (X := List (List UInt8) × Nat × Nat) (fun x => [(.tmp 0, .v (.str s)), (.tmp 4, .v (.int .i64 x.2.1)), (.tmp 5, .v (.int .i64 x.2.2)), (.tmp 3, .v (.lst (decide (x.1 = [])) 1 (encS1 x.1) (.row 4))), (.row 4, .row 9 1 x.1.length)]) 5
    (fun x => x.1.length ≤ x.2.2 ∧ ((x.2.2 ≤ s.length ∧ 1 ≤ x.2.1 ∧ x.2.1 ≤ x.2.2 ∧ (47 : UInt8) ∉ (s.drop x.2.1).take (x.2.2 - x.2.1) ∧ Gw.View.partsOf s = x.1 ++ Gw.Name.split (s.drop x.2.1)) ∨ (x.2.2 = s.length + 1 ∧ Gw.View.partsOf s = x.1))) (fun x => s.length + 1 - x.2.2) (by decide) ([], 1, 1) ⟨Nat.zero_le _, ?_⟩ ⟨rfl, rfl, rfl, rfl, rfl, rfl, rfl, rfl, rfl, rfl, trivial⟩ ?_
  · cases s with
    | nil => exact .inr ⟨rfl, rfl⟩
    | cons b r => exact .inl ⟨Nat.succ_le_succ (Nat.zero_le _), Nat.le_refl _, Nat.le_refl _, by simp, rfl⟩
  rintro ⟨acc, p, i⟩ ⟨hal, hinv⟩
  simp only at hal hinv
  dsimp only
  have hac := encS1_len acc
  have wi : i ≤ s.length → IntKind.i64.wrap ((i : Int) + 1) = ((i + 1 : Nat) : Int) := fun h => by rw [w64 (by omega) (by omega)]; rfl
  refine ev_sound tabOk mixed _ _ _ _ ?_
  conv => whnf
  refine ⟨fun h => ?_, fun h => ?_⟩
  · have h := of_decide_eq_true h
    have hil : i ≤ s.length := by omega
    obtain ⟨_, g1, g2, g3, g4⟩ : i ≤ s.length ∧ 1 ≤ p ∧ p ≤ i ∧ (47 : UInt8) ∉ (s.drop p).take (i - p) ∧ Gw.View.partsOf s = acc ++ Gw.Name.split (s.drop p) := hinv.resolve_right fun q => by omega
    conv => whnf
    refine ⟨fun h => ?_, fun h => ?_⟩
    · have h : (i : Int) = s.length := by simpa using h
      have h : i = s.length := by omega
      have hW : (s.take i).drop p = s.drop p := by rw [h, List.take_length]
      have g5 : Gw.View.partsOf s = acc ++ [(s.take i).drop p] := by
        rw [List.take_of_length_le (by rw [List.length_drop]; omega)] at g3
        rw [g4, Gw.Name.split_one g3, hW]
      conv => whnf
      refine ⟨⟨by omega, by omega, by omega⟩, ?_⟩
      conv => whnf
      refine ⟨⟨hac.symm, fits_small (by show (encS1 acc).length + 1 ≤ _; omega) (by decide)⟩, ?_⟩
      conv => whnf
      refine ⟨(acc ++ [(s.take i).drop p], i + 1, i + 1), ⟨by show (acc ++ [_]).length ≤ i + 1; rw [List.length_append, List.length_singleton]; omega, .inr ⟨by show i + 1 = s.length + 1; omega, g5⟩⟩, by show s.length + 1 - (i + 1) < s.length + 1 - i; omega, rfl, rfl, ?_, rfl, ?_, rfl, ?_, rfl, ?_, rfl, trivial⟩
      · show C.v (V.int .i64 (IntKind.i64.wrap ((i : Int) + 1))) = _
        rw [wi hil]
      · show C.v (V.int .i64 (IntKind.i64.wrap ((i : Int) + 1))) = _
        rw [wi hil]
      · show C.v (V.lst (decide (acc = []) && false) 1 (encS1 acc ++ [[V.str ((s.take i).drop p)]]) _) = C.v (V.lst (decide (acc ++ [(s.take i).drop p] = [])) 1 (encS1 (acc ++ [(s.take i).drop p])) _)
        rw [Bool.and_false, decide_eq_false (by simp)]
        unfold encS1
        rw [List.map_append]
        rfl
      · show C.row _ 1 ((encS1 acc).length + 1) = C.row _ 1 (acc ++ [(s.take i).drop p]).length
        rw [hac, List.length_append]
        rfl
    · have h : ¬ (i : Int) = s.length := by simpa using h
      have hlt : i < s.length := by omega
      have hW : s.drop p = (s.take i).drop p ++ s[i] :: s.drop (i + 1) := by
        rw [← drop_get s hlt, ← List.drop_append_of_le_length (by rw [List.length_take]; omega), List.take_append_drop]
      have hWt : (s.take i).drop p = (s.drop p).take (i - p) := by rw [List.drop_take]
      rw [← hWt] at g3
      conv => whnf
      refine ⟨_, ⟨by omega, List.getElem?_eq_getElem hlt⟩, ?_⟩
      conv => whnf
      refine ⟨fun h => ?_, fun h => ?_⟩
      · have h0 : (((s[i].toNat : Nat) : Int) == 47) = true := h
        have h0 : ((s[i].toNat : Nat) : Int) = 47 := by simpa using h0
        have h : s[i] = 47 := UInt8.toNat_inj.1 (show s[i].toNat = (47 : UInt8).toNat from by rw [show (47 : UInt8).toNat = 47 from rfl]; omega)
        have g5 : Gw.View.partsOf s = (acc ++ [(s.take i).drop p]) ++ Gw.Name.split (s.drop (i + 1)) := by
          rw [g4, hW, h, Gw.Name.split_app g3, List.append_assoc]; rfl
        conv => whnf
        refine ⟨⟨by omega, by omega, by omega⟩, ?_⟩
        conv => whnf
        refine ⟨⟨hac.symm, fits_small (by show (encS1 acc).length + 1 ≤ _; omega) (by decide)⟩, ?_⟩
        conv => whnf
        refine ⟨(acc ++ [(s.take i).drop p], i + 1, i + 1), ⟨by show (acc ++ [_]).length ≤ i + 1; rw [List.length_append, List.length_singleton]; omega, .inl ⟨by show i + 1 ≤ s.length; omega, by show 1 ≤ i + 1; omega, Nat.le_refl _, by simp, g5⟩⟩, by show s.length + 1 - (i + 1) < s.length + 1 - i; omega, rfl, rfl, ?_, rfl, ?_, rfl, ?_, rfl, ?_, rfl, trivial⟩
        · show C.v (V.int .i64 (IntKind.i64.wrap ((i : Int) + 1))) = _
          rw [wi hil]
        · show C.v (V.int .i64 (IntKind.i64.wrap ((i : Int) + 1))) = _
          rw [wi hil]
        · show C.v (V.lst (decide (acc = []) && false) 1 (encS1 acc ++ [[V.str ((s.take i).drop p)]]) _) = C.v (V.lst (decide (acc ++ [(s.take i).drop p] = [])) 1 (encS1 (acc ++ [(s.take i).drop p])) _)
          rw [Bool.and_false, decide_eq_false (by simp)]
          unfold encS1
          rw [List.map_append]
          rfl
        · show C.row _ 1 ((encS1 acc).length + 1) = C.row _ 1 (acc ++ [(s.take i).drop p]).length
          rw [hac, List.length_append]
          rfl
      · have h : s[i] ≠ 47 := fun e => by rw [e] at h; exact absurd h (by decide)
        have g6 : (47 : UInt8) ∉ (s.drop p).take (i + 1 - p) := by
          rw [← List.drop_take, List.take_succ_eq_append_getElem hlt, List.drop_append_of_le_length (by rw [List.length_take]; omega)]
          intro hm
          rcases List.mem_append.1 hm with hm | hm
          · exact g3 hm
          · rw [List.mem_singleton] at hm; exact h hm.symm
        conv => whnf
        refine ⟨(acc, p, i + 1), ⟨by show acc.length ≤ i + 1; omega, .inl ⟨by show i + 1 ≤ s.length; omega, g1, by show p ≤ i + 1; omega, g6, g4⟩⟩, by show s.length + 1 - (i + 1) < s.length + 1 - i; omega, rfl, rfl, rfl, rfl, ?_, rfl, rfl, rfl, rfl, rfl, trivial⟩
        show C.v (V.int .i64 (IntKind.i64.wrap ((i : Int) + 1))) = _
        rw [wi hil]
  · have h := of_decide_eq_false h
    obtain ⟨_, g⟩ : i = s.length + 1 ∧ Gw.View.partsOf s = acc := hinv.resolve_left fun q => by omega
    rw [g]
    conv => whnf
    exact SubV.refl _
theorem pathN_len (names : List (List UInt8)) : names.length ≤ (Gw.View.pathN names).length := by
  induction names with
  | nil => exact Nat.zero_le _
  | cons s r ih =>
    rw [show Gw.View.pathN (s :: r) = 47 :: (s ++ Gw.View.pathN r) by simp [Gw.View.pathN], List.length_cons, List.length_cons, List.length_append]
    omega
theorem pathN_snoc (names : List (List UInt8)) (s : List UInt8) : Gw.View.pathN (names ++ [s]) = Gw.View.pathN names ++ [47] ++ s := by simp [Gw.View.pathN]
theorem pathN_most {names : List (List UInt8)} (h : ∀ s ∈ names, s.length ≤ 1000) : (Gw.View.pathN names).length ≤ 1001 * names.length := by
  induction names with
  | nil => exact Nat.zero_le _
  | cons s r ih =>
    have h1 := h s List.mem_cons_self
    have h2 := ih fun t ht => h t (List.mem_cons_of_mem _ ht)
    rw [show Gw.View.pathN (s :: r) = 47 :: (s ++ Gw.View.pathN r) by simp [Gw.View.pathN], List.length_cons, List.length_cons, List.length_append]
    omega
theorem Grove.found {D : List Gw.Tree.Node} (hg : Grove D) : ∀ it ∈ Gw.View.items D 0, (Gw.View.partsOf it.path).length ≤ it.path.length ∧ Gw.View.find D (Gw.View.partsOf it.path) = (it.id, 0) := by
  intro it hi
  rw [hg.items0] at hi
  obtain ⟨names, h1, h2, h3, h4⟩ := Gw.View.below_found hg.check hg.ok D.length (by decide) it hi
  rw [List.nil_append] at h3
  rw [h3, Gw.View.parts_path h1 h2]
  exact ⟨pathN_len names, h4⟩
theorem Grove.back {D : List Gw.Tree.Node} (hg : Grove D) {names : List (List UInt8)} {id : Int} (hn : names ≠ []) (h : Gw.View.find D names = (id, 0)) : ∃ it ∈ Gw.View.items D 0, it.path = Gw.View.pathN names ∧ it.id = id := by
  rw [hg.items0]
  have := Gw.View.found_below hg.check (outs := [0]) (fun n hn h => by
    have := ok_pos (((Gw.Tree.check_iff _).1 hg.check).1 n hn)
    rw [List.mem_singleton] at h
    omega) (by simp) names D.length (path := []) hn (.top) (by omega) h
  exact this
/-- What was found was seen so far. -/
def metF (I : List Gw.View.Item) (p : List UInt8) (id : Int) (b : Bool) (k : Nat) : Bool := b || (I.take k).any fun it => decide (it.path = p) && decide (it.id = id)
theorem metF_next {I : List Gw.View.Item} {p : List UInt8} {id : Int} {b : Bool} {k : Nat} (h : k < I.length) : metF I p id b (k + 1) = (metF I p id b k || (decide (I[k].path = p) && decide (I[k].id = id))) := by
  unfold metF
  rw [List.take_succ_eq_append_getElem h, List.any_append, ← Bool.or_assoc]
  simp
/-- A truth, as it may stand in a slot. -/
def HoldV (v : V) (b : Bool) : Prop := v = .bool b ∨ (v = .tt ∧ b = true) ∨ (v = .ff ∧ b = false)
theorem HoldV.bool {a b : Bool} (h : b = a) : HoldV (.bool a) b := .inl (by rw [h])
theorem HoldV.tt {b : Bool} (h : b = true) : HoldV .tt b := .inr (.inl ⟨rfl, h⟩)
theorem HoldV.ff {b : Bool} (h : b = false) : HoldV .ff b := .inr (.inr ⟨rfl, h⟩)
end Go.Proofs.Ytkflmicpifohhaa
