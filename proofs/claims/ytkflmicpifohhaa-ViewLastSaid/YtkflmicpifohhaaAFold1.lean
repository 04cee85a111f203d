/- Nodes that a few operations make: told without addresses. No claim of its own. -/
import Derived.Test.YtkflmicpifohhaaAmB
import Derived.Test.YtkflmicpifohhaaASort2
import Derived.Test.YtkflmicpifohhaaATree5
namespace Go.Proofs.Ytkflmicpifohhaa
open Go.Am

theorem safe_ops (l : List Gw.Op.Op) : ∀ el ∈ encOs l, ∀ x ∈ el, safeV x = true := fun el h x hx => by
  obtain ⟨o, _, rfl⟩ := List.mem_map.1 h
  simp only [cellsO, List.mem_cons, List.not_mem_nil, or_false] at hx
  rcases hx with rfl | rfl | rfl | rfl | rfl | rfl | rfl <;> rfl
/-- Nodes behind operations. -/
def foldN (l : List Gw.Op.Op) : List Gw.Tree.Node := l.foldl Gw.Tree.done []
theorem foldN_take (l : List Gw.Op.Op) {k : Nat} (h : k < l.length) : foldN (l.take (k + 1)) = Gw.Tree.done (foldN (l.take k)) l[k] := by
  unfold foldN
  rw [List.take_succ_eq_append_getElem h, List.foldl_append]
  rfl
theorem foldN_snoc (l : List Gw.Op.Op) (o : Gw.Op.Op) : foldN (l ++ [o]) = Gw.Tree.done (foldN l) o := by
  unfold foldN
  rw [List.foldl_append]
  rfl
theorem fold_fine : ∀ (l : List Gw.Op.Op) (acc : List Gw.Tree.Node), (∀ n ∈ acc, I64 n.id) → (∀ o ∈ l, I64 o.node) → (∀ n ∈ l.foldl Gw.Tree.done acc, I64 n.id) ∧ (l.foldl Gw.Tree.done acc).length ≤ acc.length + l.length
  | [], acc, h, _ => ⟨h, Nat.le_refl _⟩
  | o :: l, acc, h, h' => by
    have h1 : ∀ n ∈ Gw.Tree.done acc o, I64 n.id := fun n hn => by
      rcases Gw.Tree.done_mem hn with hn | ⟨_, _, hn⟩
      · exact h n hn
      · rw [hn]; exact h' o (by simp)
    obtain ⟨q1, q2⟩ := fold_fine l (Gw.Tree.done acc o) h1 (fun p hp => h' p (by simp [hp]))
    have := Gw.Tree.done_len acc o
    exact ⟨q1, by rw [List.foldl_cons, List.length_cons]; omega⟩
theorem foldN_fine (l : List Gw.Op.Op) (h : ∀ o ∈ l, I64 o.node) : (∀ n ∈ foldN l, I64 n.id) ∧ (foldN l).length ≤ l.length := by
  obtain ⟨h1, h2⟩ := fold_fine l [] (fun n h => by cases h) h
  exact ⟨h1, by rw [List.length_nil, Nat.zero_add] at h2; exact h2⟩
theorem foldS_pc (nil : Bool) (l s : List Gw.Op.Op) (hl : l.length ≤ 1000) (hf : ∀ o ∈ l, Fine o) (hs : s = Gw.Sort.isort lessO 0 (l.filter Gw.Op.check).length (l.filter Gw.Op.check))
    (h0 : l.filter Gw.Op.check ≠ []) (hlt : (l.filter Gw.Op.check).length < 20) (hne : ∀ i (h : i + 1 < s.length), sameAt s[i + 1] s[i] = false) :
    PC Try.prog 10 [.lst nil 7 (encOs l) .none] (.lst false 8 (encN (foldN s)) .none) := by
  have hel := encOs_len l
  refine PC.of_pr (PR.ofA tabOk (fn := Try.f10) (by kernel_rfl) rfl (by kernel_rfl) rfl rfl ?_)
  refine AW.seq (ev_sound tabOk mixed _ _ _ _ ?_)
  conv => whnf
  refine AW.seq (ev_sound tabOk mixed _ _ _ _ ?_)
  conv => whnf
  refine AW.seq (ev_sound tabOk mixed _ _ _ _ ?_)
  conv => whnf
  refine AW.rowT 3 39 7 rfl rfl ?_
  refine AW.loop (fun k : Nat => [(.tmp 9, .v (.lst nil 7 (encOs l) .none)), (.tmp 10, .v (.int .i64 l.length)), (.tmp 11, .v (.int .i64 k)), (.tmp 3, .v (.lst (decide ((l.take k).filter Gw.Op.check = [])) 7 (encOs ((l.take k).filter Gw.Op.check)) (.brow 5))), (.row 5, .row 39 7 ((l.take k).filter Gw.Op.check).length)]) 6
    (fun k => k ≤ l.length) (fun k => l.length - k) (by decide) 0 (Nat.zero_le _) ⟨rfl, rfl, ?_, rfl, rfl, rfl, rfl, rfl, rfl, rfl, trivial⟩ ?_
  · show C.v (V.int .i64 (encOs l).length) = _
    rw [hel]
  rintro k hk
  refine ev_sound tabOk mixed _ _ _ _ ?_
  conv => whnf
  refine ⟨fun h => ?_, fun h => ?_⟩
  · have h := of_decide_eq_true h
    have hlt : k < l.length := by omega
    have hg := encOs_get hlt
    have hoc := opCheck_pc l[k] (hf _ (List.getElem_mem hlt))
    have e1 : l.take (k + 1) = l.take k ++ [l[k]] := List.take_succ_eq_append_getElem hlt
    have w1 : IntKind.i64.wrap ((k : Int) + 1) = ((k + 1 : Nat) : Int) := by rw [w64 (by omega) (by omega)]; rfl
    have hal : ((l.take k).filter Gw.Op.check).length ≤ k := by have := List.length_filter_le Gw.Op.check (l.take k); rw [List.length_take] at this; omega
    conv => whnf
    refine ⟨_, ⟨by omega, hg⟩, ?_⟩
    conv => whnf
    refine AC.of_pc hoc rfl ?_
    cases hq : Gw.Op.check l[k] with
    | false =>
      have e2 : (l.take (k + 1)).filter Gw.Op.check = (l.take k).filter Gw.Op.check := by rw [e1, List.filter_append, List.filter_cons_of_neg (by simp [hq]), List.filter_nil, List.append_nil]
      conv => whnf
      repeat (first | refine ⟨fun _ => ?_, fun h => absurd h (by decide)⟩ | refine ⟨fun h => absurd h (by decide), fun _ => ?_⟩ | refine ⟨fun _ => ?_, fun h => absurd (show true = false from h) (by decide)⟩ | refine ⟨fun h => absurd (show false = true from h) (by decide), fun _ => ?_⟩
              (conv => whnf))
      refine ⟨k + 1, by omega, by show l.length - (k + 1) < l.length - k; omega, rfl, rfl, rfl, rfl, ?_, rfl, ?_, rfl, ?_, rfl, trivial⟩
      · show C.v (V.int .i64 (IntKind.i64.wrap ((k : Int) + 1))) = _
        rw [w1]
      · rw [e2]; rfl
      · rw [e2]; rfl
    | true =>
      have e2 : (l.take (k + 1)).filter Gw.Op.check = (l.take k).filter Gw.Op.check ++ [l[k]] := by rw [e1, List.filter_append, List.filter_cons_of_pos hq, List.filter_nil]
      generalize (l.take k).filter Gw.Op.check = acc at *
      have hac := encOs_len acc
      conv => whnf
      repeat (first | refine ⟨fun _ => ?_, fun h => absurd h (by decide)⟩ | refine ⟨fun h => absurd h (by decide), fun _ => ?_⟩ | refine ⟨fun _ => ?_, fun h => absurd (show true = false from h) (by decide)⟩ | refine ⟨fun h => absurd (show false = true from h) (by decide), fun _ => ?_⟩
              (conv => whnf))
      refine ⟨⟨hac.symm, fits_small (by show (encOs acc).length + 1 ≤ _; omega) (by decide)⟩, ?_⟩
      conv => whnf
      refine ⟨k + 1, by omega, by show l.length - (k + 1) < l.length - k; omega, rfl, rfl, rfl, rfl, ?_, rfl, ?_, rfl, ?_, rfl, trivial⟩
      · show C.v (V.int .i64 (IntKind.i64.wrap ((k : Int) + 1))) = _
        rw [w1]
      · rw [e2]
        show C.v (V.lst (decide (acc = []) && false) 7 (encOs acc ++ [cellsO l[k]]) _) = C.v (V.lst (decide (acc ++ [l[k]] = [])) 7 (encOs (acc ++ [l[k]])) _)
        rw [Bool.and_false, decide_eq_false (by simp), encOs, encOs, List.map_append]
        rfl
      · rw [e2]
        show C.row _ 7 ((encOs acc).length + 1) = C.row _ 7 (acc ++ [l[k]]).length
        rw [hac, List.length_append]
        rfl
  · have h := of_decide_eq_false h
    obtain rfl : k = l.length := by omega
    rw [List.take_length]
    conv => whnf
    have hn : (encOs (l.filter Gw.Op.check)).length = (l.filter Gw.Op.check).length := encOs_len _
    have hne' : encOs (l.filter Gw.Op.check) ≠ [] := fun e => h0 (by cases hx : l.filter Gw.Op.check with | nil => rfl | cons a b => rw [hx] at e; cases e)
    refine AW.thaw (m := 0) (es := []) 3 5 trivial (Nat.zero_le _) rfl (by decide) rfl (by rw [hn]; rfl) (Nat.zero_le _) hne' (safe_ops _) ?_
    have hsl : s.length = (l.filter Gw.Op.check).length := by rw [hs]; exact (Gw.Sort.isort_perm lessO _ _ _).length_eq
    have hsf : ∀ o ∈ s, Fine o ∧ I64 o.node := fun o ho => by
      rw [hs] at ho
      have := hf o (List.mem_filter.1 ((Gw.Sort.isort_perm lessO _ _ _).mem_iff.1 ho)).1
      exact ⟨this, this.node⟩
    have hso := sortS_ac (l.filter Gw.Op.check) (l.filter Gw.Op.check).length rfl hlt
    have hco := compactS_ac s s.length rfl (by omega) hne
    rw [← hs] at hso
    rw [hn, ← hsl]
    rw [← hsl] at hso
    refine ev_sound tabOk mixed _ _ _ _ ?_
    conv => whnf
    refine AC.frame (es := opsAt (l.filter Gw.Op.check)) ⟨rfl, rfl, trivial⟩ rfl (by decide) rfl hso ?_
    rintro x es ⟨rfl, rfl⟩
    conv => whnf
    refine AC.frame (es := opsAt s) ⟨rfl, rfl, trivial⟩ rfl (by decide) rfl hco ?_
    rintro x es ⟨rfl, rfl⟩
    conv => whnf
    refine AW.nilSlot 6 8 rfl ?_
    refine AW.loop (fun k : Nat => [(.tmp 26, .v (.own 0 0 7 s.length true)), (.tmp 27, .v (.int .i64 s.length)), (.tmp 28, .v (.int .i64 k)), (.tmp 6, .v (.lst (decide (k = 0)) 8 (encN (foldN (s.take k))) .none)), (.blk 0, .mem 39 (flatO s))]) 1
      (fun k => k ≤ s.length) (fun k => s.length - k) (by decide) 0 (Nat.zero_le _) ⟨rfl, rfl, rfl, rfl, rfl, rfl, rfl, rfl, rfl, rfl, trivial⟩ ?_
    rintro k hk
    refine ev_sound tabOk mixed _ _ _ _ ?_
    have hfl := flatO_len s
    conv => whnf
    refine ⟨fun h => ?_, fun h => ?_⟩
    · have h := of_decide_eq_true h
      have hlt : k < s.length := by omega
      have hL := flatO_get hlt
      have o1 : 0 + (k : Int).toNat * 7 = k * 7 := by rw [Int.toNat_natCast, Nat.zero_add]
      obtain ⟨f1, f2⟩ := foldN_fine (s.take k) fun o ho => (hsf o (List.mem_of_mem_take ho)).2
      rw [List.length_take] at f2
      have hdo := do_pc (decide (k = 0)) (foldN (s.take k)) s[k] f1 (by omega) (hsf _ (List.getElem_mem hlt)).1
      rw [← foldN_take s hlt] at hdo
      conv => whnf
      refine ⟨by omega, ?_⟩
      conv => whnf
      rw [o1]
      refine ⟨_, ⟨by omega, hL⟩, ?_⟩
      conv => whnf
      refine AC.of_pc hdo rfl ?_
      conv => whnf
      refine ⟨k + 1, by omega, by show s.length - (k + 1) < s.length - k; omega, rfl, rfl, rfl, rfl, ?_, rfl, ?_, rfl, rfl, rfl, trivial⟩
      · show C.v (V.int .i64 (IntKind.i64.wrap ((k : Int) + 1))) = _
        rw [w64 (by omega) (by omega)]; rfl
      · rfl
    · have h := of_decide_eq_false h
      obtain rfl : k = s.length := by omega
      rw [List.take_length]
      conv => whnf
      have hs0 : s.length ≠ 0 := fun e => h0 (List.eq_nil_of_length_eq_zero (by omega))
      rw [decide_eq_false hs0]
      exact ⟨_, SubV.refl _, SubV.refl _⟩
end Go.Proofs.Ytkflmicpifohhaa
