/- The plain laws of operations' bytes. -/
import Derived.Test.YtjfnelgmagmgoaaOpReadFn
import Derived.Test.YtjfnelgmagmgoaaVlqLaw
namespace Gw.Op
open Gw.Stamp Gw.Vlq

theorem check_kinds {o : Op} (h : check o = true) : (o.kind = 1 ∧ fitsMove o = true) ∨ (o.kind = 2 ∧ fitsWrite o = true) := by
  unfold check at h
  split at h
  · rename_i hk
    simp only [Bool.and_eq_true] at h
    exact .inl ⟨hk, h.2.2⟩
  · split at h
    · rename_i hk
      simp only [Bool.and_eq_true] at h
      exact .inr ⟨hk, h.2.2⟩
    · cases h
theorem check_texts {o : Op} (h : check o = true) : (o.kind = 1 ∧ o.data = []) ∨ (o.kind = 2 ∧ o.name = [] ∧ o.parent = 0 ∧ o.data.length ≤ 64) := by
  rcases check_kinds h with ⟨hk, h⟩ | ⟨hk, h⟩
  · unfold fitsMove at h
    simp only [Bool.and_eq_true, decide_eq_true_eq] at h
    exact .inl ⟨hk, h.2.2.2.2⟩
  · unfold fitsWrite at h
    simp only [Bool.and_eq_true, decide_eq_true_eq] at h
    exact .inr ⟨hk, h.2.2.2.2, h.2.2.2.1, h.2.2.1⟩

theorem takeText_one (t rest : List UInt8) (h : t.length < 9223372036854775808) : Go.Proofs.Ytjfnelgmagmgoaa.takeText (one t.length ++ (t ++ rest)) = some (t.length, (one t.length).length) := by
  unfold Go.Proofs.Ytjfnelgmagmgoaa.takeText
  rw [take_one _ h]
  simp only [List.length_append]
  rw [if_pos (by omega)]
theorem drop_one (n : Nat) (l : List UInt8) : (one n ++ l).drop (one n).length = l := List.drop_left
theorem fText_one (mk : List UInt8 → Op) (t rest : List UInt8) (h : t.length < 9223372036854775808) : fText mk (one t.length ++ (t ++ rest)) = done (mk t) rest := by
  unfold fText
  rw [takeText_one t rest h]
  simp only
  rw [drop_one, List.take_left, ← List.drop_drop, drop_one, List.drop_left]
theorem bytes_move {o : Op} (hk : o.kind = 1) : bytes o = one o.at_.c.toNat ++ (one o.at_.r.toNat ++ (one 1 ++ (one o.node.toNat ++ (one o.parent.toNat ++ (one o.name.length ++ o.name))))) := by
  unfold bytes head many text
  rw [if_pos hk, hk]
  simp
theorem bytes_write {o : Op} (hk : o.kind = 2) : bytes o = one o.at_.c.toNat ++ (one o.at_.r.toNat ++ (one 2 ++ (one o.node.toNat ++ (one o.data.length ++ o.data)))) := by
  unfold bytes head many text
  rw [if_neg (by omega), hk]
  simp
theorem spellF_four (s : List UInt8) : ∀ (f p : Nat) (acc l : List Int), s.length < p + f → Gw.Name.spellF s f p acc = some l → s.length + 4 * acc.length ≤ 4 * l.length + p
  | 0, p, acc, l, hf, h => by simp only [Gw.Name.spellF, Option.some.injEq] at h; subst h; omega
  | f + 1, p, acc, l, hf, h => by
    rw [Gw.Name.spellF] at h
    have hd := Gw.Name.dec_pos s p
    have hd4 := Gw.Name.dec_le s p
    split at h
    · split at h
      · have := spellF_four s f _ _ _ (by omega) h
        rw [List.length_append, List.length_singleton] at this
        omega
      · cases h
    · simp only [Option.some.injEq] at h; subst h; omega
theorem name_le {s : List UInt8} (h : Gw.Name.check s = true) : s.length ≤ 80 := by
  unfold Gw.Name.check at h
  cases hs : Gw.Name.spell s with
  | none => rw [hs] at h; cases h
  | some l =>
    rw [hs] at h
    simp only at h
    have h2 := spellF_four s _ _ _ _ (by omega) hs
    unfold Gw.Name.okL at h
    simp only [Bool.and_eq_true, Bool.not_eq_true', Bool.or_eq_false_iff, decide_eq_false_iff_not] at h
    simp at h2
    omega
theorem text_le {o : Op} (h : check o = true) : o.name.length ≤ 80 ∧ o.data.length ≤ 64 := by
  rcases check_kinds h with ⟨hk, h1⟩ | ⟨hk, h1⟩
  · unfold fitsMove at h1
    simp only [Bool.and_eq_true, decide_eq_true_eq] at h1
    exact ⟨name_le h1.2.2.2.1, by rw [h1.2.2.2.2]; decide⟩
  · unfold fitsWrite at h1
    simp only [Bool.and_eq_true, decide_eq_true_eq] at h1
    exact ⟨by rw [h1.2.2.2.2]; decide, h1.2.2.1⟩
theorem take_app {n : Nat} (h : n < 9223372036854775808) (l : List UInt8) : take (one n ++ l) = f1 n l := by
  unfold take; rw [take_one n h]; simp only [drop_one]
theorem f1_app {c n : Nat} (h : n < 9223372036854775808) (l : List UInt8) : f1 c (one n ++ l) = f2 c n l := by
  unfold f1; rw [take_one n h]; simp only [drop_one]
theorem f2_app {c r n : Nat} (h : n < 9223372036854775808) (l : List UInt8) : f2 c r (one n ++ l) = f3 c r n l := by
  unfold f2; rw [take_one n h]; simp only [drop_one]
theorem f3_app {c r k n : Nat} (h : n < 9223372036854775808) (l : List UInt8) : f3 c r k (one n ++ l) = f4 c r k n l := by
  unfold f3; rw [take_one n h]; simp only [drop_one]
theorem f45_app {c r k n : Nat} (h : n < 9223372036854775808) (l : List UInt8) : f45 c r k (one n ++ l) = f5 c r k n l := by
  unfold f45; rw [take_one n h]; simp only [drop_one]

/-- What was put is taken again, whatever stands behind. -/
theorem take_bytes {o : Op} (h : check o = true) (rest : List UInt8) : take (bytes o ++ rest) = some (o, rest) := by
  have hn := (text_le h).1
  obtain ⟨hc, hr, hk, hnode, hp⟩ := check_bounds h
  have ec : ((o.at_.c.toNat : Nat) : Int) = o.at_.c := by omega
  have er : ((o.at_.r.toNat : Nat) : Int) = o.at_.r := by omega
  have en : ((o.node.toNat : Nat) : Int) = o.node := by omega
  have ep : ((o.parent.toNat : Nat) : Int) = o.parent := by omega
  obtain ⟨⟨c, r⟩, kind, node, parent, name, data⟩ := o
  simp only at hc hr hk hnode hp ec er en ep hn
  rcases check_texts h with ⟨rfl, e1⟩ | ⟨rfl, e1, e2, e3⟩
  · simp only at e1
    subst e1
    rw [bytes_move rfl]
    simp only [List.append_assoc]
    rw [take_app (by omega), f1_app (by omega), f2_app (by omega), f3_app (by omega), f4, if_pos rfl, f45_app (by omega), f5]
    rw [fText_one _ _ _ (by omega), ec, er, en, ep]
    unfold done
    rw [if_pos h]
  · simp only at e1 e2 e3
    subst e1 e2
    rw [bytes_write rfl]
    simp only [List.append_assoc]
    rw [take_app (by omega), f1_app (by omega), f2_app (by omega), f3_app (by omega), f4]
    rw [if_neg (by omega), fText_one _ _ _ (by omega), ec, er, en]
    unfold done
    exact if_pos h

theorem take_split {l : List UInt8} {m u : Nat} (h : Gw.Vlq.take l = some (m, u)) : l = one m ++ l.drop u := by
  rw [take_own l m u h, List.take_append_drop]
theorem fText_own {mk : List UInt8 → Op} {rest r : List UInt8} {o : Op} (h : fText mk rest = some (o, r)) : ∃ t, mk t = o ∧ check o = true ∧ rest = one t.length ++ (t ++ r) := by
  unfold fText Go.Proofs.Ytjfnelgmagmgoaa.takeText at h
  cases ht : Gw.Vlq.take rest with
  | none => simp only [ht] at h; cases h
  | some p =>
    obtain ⟨n, u⟩ := p
    simp only [ht] at h
    by_cases hl : n + u ≤ rest.length
    · rw [if_pos hl] at h
      simp only at h
      unfold done at h
      split at h
      · rename_i hc
        simp only [Option.some.injEq, Prod.mk.injEq] at h
        obtain ⟨e1, e2⟩ := h
        rw [e1] at hc
        have hlen : ((rest.drop u).take n).length = n := by rw [List.length_take, List.length_drop]; omega
        refine ⟨_, e1, hc, ?_⟩
        rw [hlen, ← e2, ← List.drop_drop, List.take_append_drop]
        exact take_split ht
      · cases h
    · rw [if_neg hl] at h; cases h

/-- Bytes of which an operation is taken begin with its own. -/
theorem take_own' {l r : List UInt8} {o : Op} (h : take l = some (o, r)) : check o = true ∧ l = bytes o ++ r := by
  unfold take at h
  cases h1 : Gw.Vlq.take l with
  | none => simp only [h1] at h; cases h
  | some p1 =>
  obtain ⟨c, u1⟩ := p1
  simp only [h1] at h
  unfold f1 at h
  cases h2 : Gw.Vlq.take (l.drop u1) with
  | none => simp only [h2] at h; cases h
  | some p2 =>
  obtain ⟨rr, u2⟩ := p2
  simp only [h2] at h
  unfold f2 at h
  cases h3 : Gw.Vlq.take ((l.drop u1).drop u2) with
  | none => simp only [h3] at h; cases h
  | some p3 =>
  obtain ⟨k, u3⟩ := p3
  simp only [h3] at h
  unfold f3 at h
  cases h4 : Gw.Vlq.take (((l.drop u1).drop u2).drop u3) with
  | none => simp only [h4] at h; cases h
  | some p4 =>
  obtain ⟨n, u4⟩ := p4
  simp only [h4] at h
  unfold f4 at h
  have s1 := take_split h1
  have s2 := take_split h2
  have s3 := take_split h3
  have s4 := take_split h4
  by_cases hk : k = 1
  · rw [if_pos hk] at h
    unfold f45 at h
    cases h5 : Gw.Vlq.take ((((l.drop u1).drop u2).drop u3).drop u4) with
    | none => simp only [h5] at h; cases h
    | some p5 =>
    obtain ⟨p, u5⟩ := p5
    simp only [h5] at h
    unfold f5 at h
    obtain ⟨t, e1, e2, e3⟩ := fText_own h
    have s5 := take_split h5
    refine ⟨e2, ?_⟩
    rw [s1, s2, s3, s4, s5, e3, ← e1, bytes_move rfl, hk]
    simp only [List.append_assoc, Int.toNat_natCast]
  · rw [if_neg hk] at h
    obtain ⟨t, e1, e2, e3⟩ := fText_own h
    refine ⟨e2, ?_⟩
    have hk2 : k = 2 := by
      rcases check_kinds e2 with ⟨e, _⟩ | ⟨e, _⟩ <;> rw [← e1] at e <;> simp only at e <;> omega
    rw [s1, s2, s3, s4, e3, ← e1, bytes_write (by simp only; omega), hk2]
    simp only [List.append_assoc, Int.toNat_natCast]

theorem one_ne (n : Nat) : one n ≠ [] := by unfold one; simp
theorem bytes_pos (o : Op) : bytes o ≠ [] := by
  have h := one_ne o.at_.c.toNat
  intro e
  unfold bytes head many text at e
  split at e <;> simp [h] at e

theorem take_cut' {o : Op} (h : check o = true) {j : Nat} (hj : j < (bytes o).length) : take ((bytes o).take j) = none := by
  cases ht : take ((bytes o).take j) with
  | none => rfl
  | some p =>
    obtain ⟨q, r⟩ := p
    obtain ⟨hq, e⟩ := take_own' ht
    have h1 : bytes o ++ [] = bytes q ++ (r ++ (bytes o).drop j) := by rw [← List.append_assoc, ← e, List.take_append_drop, List.append_nil]
    have t1 := take_bytes h []
    rw [h1, take_bytes hq] at t1
    simp only [Option.some.injEq, Prod.mk.injEq, List.append_eq_nil_iff, List.drop_eq_nil_iff] at t1
    omega

/-- What was written is read. -/
theorem readF_bytes : ∀ (l : List Op) (f : Nat) (acc : List Op), l.all check = true → (l.flatMap bytes).length < f → readF f (l.flatMap bytes) acc = some (acc ++ l)
  | [], f + 1, acc, _, _ => by simp [readF]
  | o :: l, f + 1, acc, h, hf => by
    rw [List.all_cons, Bool.and_eq_true] at h
    rw [List.flatMap_cons] at hf ⊢
    have hp : 0 < (bytes o).length := List.length_pos_iff.2 (bytes_pos o)
    rw [List.length_append] at hf
    rw [readF, if_neg (by intro e; exact bytes_pos o (List.append_eq_nil_iff.1 e).1), take_bytes h.1]
    simp only
    rw [readF_bytes l f (acc ++ [o]) h.2 (by omega), List.append_assoc]
    rfl
theorem read_bytes {l : List Op} (h : l.all check = true) : read (l.flatMap bytes) = some l := by
  unfold read
  rw [readF_bytes l _ [] h (by omega)]
  rfl
/-- Bytes of which operations are read are theirs. -/
theorem readF_own : ∀ (f : Nat) (b : List UInt8) (acc l : List Op), b.length < f → readF f b acc = some l → ∃ m, l = acc ++ m ∧ m.all check = true ∧ b = m.flatMap bytes
  | f + 1, b, acc, l, hf, h => by
    rw [readF] at h
    by_cases hb : b = []
    · rw [if_pos hb] at h
      simp only [Option.some.injEq] at h
      exact ⟨[], by rw [h, List.append_nil], rfl, hb⟩
    · rw [if_neg hb] at h
      cases ht : take b with
      | none => rw [ht] at h; cases h
      | some p =>
        obtain ⟨o, r⟩ := p
        rw [ht] at h
        simp only at h
        have hlt := take_len ht
        obtain ⟨ho, e⟩ := take_own' ht
        obtain ⟨m, e1, e2, e3⟩ := readF_own f r (acc ++ [o]) l (by omega) h
        refine ⟨o :: m, by rw [e1, List.append_assoc]; rfl, ?_, ?_⟩
        · rw [List.all_cons, ho, e2]; rfl
        · rw [List.flatMap_cons, ← e3]; exact e
theorem read_own {b : List UInt8} {l : List Op} (h : read b = some l) : l.all check = true ∧ b = l.flatMap bytes := by
  obtain ⟨m, e1, e2, e3⟩ := readF_own _ b [] l (by omega) h
  rw [List.nil_append] at e1
  subst e1
  exact ⟨e2, e3⟩
/-- How many bytes an operation has. -/
theorem bytes_length {o : Op} (h : check o = true) : (bytes o).length = size o.at_.c.toNat + size o.at_.r.toNat + size o.kind.toNat + size o.node.toNat + (if o.kind = 1 then size o.parent.toNat else 0) + size (o.name.length + o.data.length) + (o.name.length + o.data.length) := by
  obtain ⟨hc, hr, hk, hnode, hp⟩ := check_bounds h
  have ht := text_le h
  rcases check_texts h with ⟨e1, e2⟩ | ⟨e1, e2, e3, e4⟩
  · rw [bytes_move e1, if_pos e1, e1, e2]
    simp only [List.length_append, List.length_nil, Nat.add_zero]
    rw [one_length _ (by omega), one_length _ (by omega), one_length _ (by omega), one_length _ (by omega), one_length _ (by omega), one_length _ (by omega)]
    show _ = _ + _ + size 1 + _ + _ + _ + _
    omega
  · rw [bytes_write e1, if_neg (by omega), e1, e2]
    simp only [List.length_append, List.length_nil, Nat.zero_add, Nat.add_zero]
    rw [one_length _ (by omega), one_length _ (by omega), one_length _ (by omega), one_length _ (by omega), one_length _ (by omega)]
    show _ = _ + _ + size 2 + _ + _ + _
    omega
theorem bytes_small {o : Op} (h : check o = true) : (bytes o).length ≤ 150 := by
  obtain ⟨hc, hr, hk, hnode, hp⟩ := check_bounds h
  have ht := text_le h
  have hs : o.name.length + o.data.length ≤ 80 := by
    rcases check_texts h with ⟨_, e2⟩ | ⟨_, e2, _, _⟩ <;> rw [e2, List.length_nil] <;> omega
  rw [bytes_length h]
  have s1 : size o.at_.c.toNat ≤ 3 := Nat.le_trans (size_mono _ 1048576 (by omega)) (by decide)
  have s2 : size o.at_.r.toNat ≤ 1 := Nat.le_trans (size_mono _ 63 (by omega)) (by decide)
  have s3 : size o.kind.toNat ≤ 1 := Nat.le_trans (size_mono _ 2 (by omega)) (by decide)
  have s4 : size o.node.toNat ≤ 4 := Nat.le_trans (size_mono _ 134217856 (by omega)) (by decide)
  have s5 : size o.parent.toNat ≤ 4 := Nat.le_trans (size_mono _ 134217856 (by omega)) (by decide)
  have s6 : size (o.name.length + o.data.length) ≤ 1 := Nat.le_trans (size_mono _ 80 (by omega)) (by decide)
  split <;> omega
theorem out_small {l : List Op} (h : l.all check = true) : (l.flatMap bytes).length ≤ 150 * l.length := by
  induction l with
  | nil => exact Nat.le_refl _
  | cons o l ih =>
    rw [List.all_cons, Bool.and_eq_true] at h
    have := ih h.2
    have := bytes_small h.1
    rw [List.flatMap_cons, List.length_append, List.length_cons]
    omega
/-- An operation is of what was made ahead of it, or at its time. -/
theorem not_later {o : Op} (h : check o = true) : ok o.node = true ∧ later o.at_ o.node = false ∧ later o.at_ o.parent = false ∧ Gw.Stamp.check o.at_ = true := by
  unfold check at h
  split at h
  · simp only [Bool.and_eq_true, Bool.not_eq_true'] at h
    obtain ⟨h0, h1, h2⟩ := h
    unfold fitsMove at h2
    simp only [Bool.and_eq_true, Bool.not_eq_true'] at h2
    exact ⟨h2.1, h1, h2.2.2.1, h0⟩
  · split at h
    · simp only [Bool.and_eq_true, Bool.not_eq_true'] at h
      obtain ⟨h0, h1, h2⟩ := h
      unfold fitsWrite at h2
      simp only [Bool.and_eq_true, decide_eq_true_eq] at h2
      refine ⟨h2.1, h1, ?_, h0⟩
      rw [h2.2.2.2.1]
      rfl
    · cases h
theorem late_counter {o : Op} (h : check o = true) {k : Int} (hk : k < (of o.node).c ∨ (ok o.parent = true ∧ k < (of o.parent).c)) : check { o with at_ := ⟨k, o.at_.r⟩ } = false := by
  rw [Bool.eq_false_iff]
  intro h2
  obtain ⟨h3, _⟩ := not_later h
  obtain ⟨_, h4, h5, _⟩ := not_later h2
  unfold later at h4 h5
  simp only at h4 h5
  rcases hk with hk | ⟨hp, hk⟩
  · rw [h3, Bool.true_and] at h4
    unfold less at h4
    simp only [Bool.or_eq_false_iff, decide_eq_false_iff_not] at h4
    exact h4.1 hk
  · rw [hp, Bool.true_and] at h5
    unfold less at h5
    simp only [Bool.or_eq_false_iff, decide_eq_false_iff_not] at h5
    exact h5.1 hk
end Gw.Op
