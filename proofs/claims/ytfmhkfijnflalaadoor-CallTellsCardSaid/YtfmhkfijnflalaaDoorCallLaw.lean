/- The plain laws of calls' bytes. -/
import Derived.Test.YtfmhkfijnflalaaDoorCallFn
namespace Gw.Call
open Gw.Vlq

/-- Its number is one that there is. -/
abbrev Nn (c : Call) : Prop := c.n < 9223372036854775808
theorem tNum_lt {b : Bool} {l r : List UInt8} {n : Int} (h : tNum b l = some (n, r)) : n < 9223372036854775808 := by
  unfold tNum at h
  cases b with
  | false =>
    rw [if_neg (by decide)] at h
    simp only [Option.some.injEq, Prod.mk.injEq] at h
    omega
  | true =>
    rw [if_pos rfl] at h
    cases ht : Gw.Vlq.take l with
    | none => simp only [ht] at h; cases h
    | some q =>
      obtain ⟨m, u⟩ := q
      simp only [ht, Option.some.injEq, Prod.mk.injEq] at h
      have := (Gw.Vlq.takeF_some l 0 0 m u (by omega) ht).2.2
      omega
theorem take_lt' {l r : List UInt8} {c : Call} (h : take l = some (c, r)) : Nn c := by
  unfold take at h
  cases h1 : Gw.Vlq.take l with
  | none => simp only [h1] at h; cases h
  | some q =>
    obtain ⟨k, u⟩ := q
    simp only [h1] at h
    unfold t0 at h
    cases hp : has (k : Int) with
    | none => simp only [hp] at h; cases h
    | some p =>
      simp only [hp] at h
      unfold t1 at h
      cases h2 : tText p.path (l.drop u) with
      | none => simp only [h2] at h; cases h
      | some q =>
        obtain ⟨a, r1⟩ := q
        simp only [h2] at h
        unfold t2 at h
        cases h3 : tText p.to r1 with
        | none => simp only [h3] at h; cases h
        | some q =>
          obtain ⟨b, r2⟩ := q
          simp only [h3] at h
          unfold t3 at h
          cases h4 : tText p.data r2 with
          | none => simp only [h4] at h; cases h
          | some q =>
            obtain ⟨d, r3⟩ := q
            simp only [h4] at h
            unfold t4 at h
            cases h5 : tNum p.n r3 with
            | none => simp only [h5] at h; cases h
            | some q =>
              obtain ⟨n, r4⟩ := q
              simp only [h5] at h
              unfold done at h
              split at h
              · simp only [Option.some.injEq, Prod.mk.injEq] at h
                obtain ⟨rfl, rfl⟩ := h
                exact tNum_lt h5
              · cases h
theorem take_len {l r : List UInt8} {c : Call} (h : take l = some (c, r)) : r.length < l.length := by
  obtain ⟨h1, h2⟩ := take_own' h
  have := List.length_pos_iff.2 (bytes_ne h1)
  rw [h2, List.length_append]; omega
theorem take_cut' {c : Call} (h : check c = true) (hn : Nn c) {j : Nat} (hj : j < (bytes c).length) : take ((bytes c).take j) = none := by
  cases ht : take ((bytes c).take j) with
  | none => rfl
  | some p =>
    obtain ⟨q, r⟩ := p
    obtain ⟨hq, e⟩ := take_own' ht
    have hqn := take_lt' ht
    have h1 : bytes c ++ [] = bytes q ++ (r ++ (bytes c).drop j) := by rw [← List.append_assoc, ← e, List.take_append_drop, List.append_nil]
    have t1 := take_bytes h hn []
    rw [h1, take_bytes hq hqn] at t1
    simp only [Option.some.injEq, Prod.mk.injEq, List.append_eq_nil_iff, List.drop_eq_nil_iff] at t1
    omega
def readF : Nat → List UInt8 → List Call → Option (List Call)
  | 0, _, acc => some acc
  | f + 1, b, acc => if b = [] then some acc else match take b with
    | none => none
    | some (o, r) => readF f r (acc ++ [o])
/-- The calls of bytes. -/
def read (b : List UInt8) : Option (List Call) := readF (b.length + 1) b []
def fewL (l : List Call) : Bool := l.all fun c => decide (c.path.length ≤ 1000) && (decide (c.to.length ≤ 1000) && decide (c.data.length ≤ 5000))
/-- What was written is read. -/
theorem readF_bytes : ∀ (l : List Call) (f : Nat) (acc : List Call), l.all check = true → (∀ c ∈ l, Nn c) → (l.flatMap bytes).length < f → readF f (l.flatMap bytes) acc = some (acc ++ l)
  | [], f + 1, acc, _, _, _ => by simp [readF]
  | o :: l, f + 1, acc, h, hn, hf => by
    rw [List.all_cons, Bool.and_eq_true] at h
    rw [List.flatMap_cons] at hf ⊢
    have hp : 0 < (bytes o).length := List.length_pos_iff.2 (bytes_ne h.1)
    rw [List.length_append] at hf
    rw [readF, if_neg (by intro e; exact bytes_ne h.1 (List.append_eq_nil_iff.1 e).1), take_bytes h.1 (hn o (by simp))]
    simp only
    rw [readF_bytes l f (acc ++ [o]) h.2 (fun c hc => hn c (by simp [hc])) (by omega), List.append_assoc]
    rfl
theorem read_bytes {l : List Call} (h : l.all check = true) (hn : ∀ c ∈ l, Nn c) : read (l.flatMap bytes) = some l := by
  unfold read
  rw [readF_bytes l _ [] h hn (by omega)]
  rfl
/-- Bytes of which calls are read are theirs. -/
theorem readF_own : ∀ (f : Nat) (b : List UInt8) (acc l : List Call), b.length < f → readF f b acc = some l → ∃ m, l = acc ++ m ∧ m.all check = true ∧ (∀ c ∈ m, Nn c) ∧ b = m.flatMap bytes
  | f + 1, b, acc, l, hf, h => by
    rw [readF] at h
    by_cases hb : b = []
    · rw [if_pos hb] at h
      simp only [Option.some.injEq] at h
      exact ⟨[], by rw [h, List.append_nil], rfl, by simp, hb⟩
    · rw [if_neg hb] at h
      cases ht : take b with
      | none => rw [ht] at h; cases h
      | some p =>
        obtain ⟨o, r⟩ := p
        rw [ht] at h
        simp only at h
        have hlt := take_len ht
        obtain ⟨ho, e⟩ := take_own' ht
        have hon := take_lt' ht
        obtain ⟨m, e1, e2, e4, e3⟩ := readF_own f r (acc ++ [o]) l (by omega) h
        refine ⟨o :: m, by rw [e1, List.append_assoc]; rfl, ?_, fun c hc => ?_, ?_⟩
        · rw [List.all_cons, ho, e2]; rfl
        · rcases List.mem_cons.1 hc with rfl | hc
          · exact hon
          · exact e4 c hc
        · rw [List.flatMap_cons, ← e3]; exact e
theorem read_own {b : List UInt8} {l : List Call} (h : read b = some l) : l.all check = true ∧ (∀ c ∈ l, Nn c) ∧ b = l.flatMap bytes := by
  obtain ⟨m, e1, e2, e4, e3⟩ := readF_own _ b [] l (by omega) h
  rw [List.nil_append] at e1
  subst e1
  exact ⟨e2, e4, e3⟩
theorem one9 {n : Nat} (h : n < 9223372036854775808) : (one n).length ≤ 9 := by
  rw [one_length n (by omega)]; exact size_le9 n h
theorem ptext_le {b : Bool} {t : List UInt8} (h : t.length ≤ 5000) : (ptext b t).length ≤ t.length + 9 := by
  unfold ptext
  split
  · have := one9 (n := t.length) (by omega)
    rw [List.length_append]; omega
  · simp
/-- How many bytes a call has. -/
theorem bytes_small {c : Call} (h : check c = true) (hn : Nn c) : (bytes c).length ≤ 9000 := by
  obtain ⟨p, hp, ho⟩ := check_some h
  obtain ⟨l1, l2, l3⟩ := lens ho
  have hk := has_kind hp
  have e : bytes c = bytesP p c := by unfold bytes; rw [hp]
  rw [e]
  unfold bytesP
  have h1 := one9 (n := c.kind.toNat) (by omega)
  have h2 := ptext_le (b := p.path) (t := c.path) (by omega)
  have h3 := ptext_le (b := p.to) (t := c.to) (by omega)
  have h4 := ptext_le (b := p.data) (t := c.data) (by omega)
  have h5 : (pnum p.n c.n).length ≤ 9 := by
    unfold pnum
    split
    · unfold Nn at hn; exact one9 (by omega)
    · simp
  simp only [List.length_append]
  omega
theorem out_small {l : List Call} (h : l.all check = true) (hn : ∀ c ∈ l, Nn c) : (l.flatMap bytes).length ≤ 9000 * l.length := by
  induction l with
  | nil => exact Nat.le_refl _
  | cons o l ih =>
    rw [List.all_cons, Bool.and_eq_true] at h
    have := ih h.2 (fun c hc => hn c (by simp [hc]))
    have := bytes_small h.1 (hn o (by simp))
    rw [List.flatMap_cons, List.length_append, List.length_cons]
    omega
/-- No call's bytes begin with another one's. -/
theorem apart {a b : Call} (ha : check a = true) (hb : check b = true) (na : Nn a) (nb : Nn b) : (bytes a).take (min (bytes a).length (bytes b).length) = (bytes b).take (min (bytes a).length (bytes b).length) ↔ bytes a = bytes b := by
  constructor
  · intro h
    rcases Nat.lt_trichotomy (bytes a).length (bytes b).length with hl | hl | hl
    · rw [Nat.min_eq_left (by omega), List.take_length] at h
      have h1 := take_cut' hb nb hl
      rw [← h] at h1
      have h2 := take_bytes ha na []
      rw [List.append_nil, h1] at h2
      cases h2
    · rw [hl, Nat.min_self, List.take_length] at h
      rw [← h, ← hl, List.take_length]
    · rw [Nat.min_eq_right (by omega), List.take_length] at h
      have h1 := take_cut' ha na hl
      rw [h] at h1
      have h2 := take_bytes hb nb []
      rw [List.append_nil, h1] at h2
      cases h2
  · intro h; rw [h]
theorem bytes_inj {a b : Call} (ha : check a = true) (hb : check b = true) (na : Nn a) (nb : Nn b) (h : bytes a = bytes b) : a = b := by
  have h1 := take_bytes ha na []
  rw [h, take_bytes hb nb []] at h1
  simp only [Option.some.injEq, Prod.mk.injEq] at h1
  exact h1.1.symm
end Gw.Call
