/- What the package call computes, in plain Lean. -/
import Derived.Test.YtfmhkfijnflalaaDoorNameLaw2
import Derived.Test.YtfmhkfijnflalaaDoorVlqTake
import Derived.Test.YtfmhkfijnflalaaDoorVlqLaw
namespace Gw.Call
open Gw.Vlq
structure Call where
  kind : Int
  path : List UInt8
  to : List UInt8
  data : List UInt8
  n : Int
structure Parts where
  path : Bool
  to : Bool
  data : Bool
  n : Bool
def has (k : Int) : Option Parts :=
  if k = 1 ∨ k = 2 ∨ k = 6 ∨ k = 10 then some ⟨true, false, false, false⟩
  else if k = 3 then some ⟨true, false, true, false⟩
  else if k = 4 ∨ k = 7 then some ⟨true, false, false, true⟩
  else if k = 5 then some ⟨true, true, false, false⟩
  else if k = 9 ∨ k = 11 then some ⟨false, false, false, true⟩
  else if k = 13 then some ⟨false, false, true, false⟩
  else if k = 8 ∨ k = 12 then some ⟨false, false, false, false⟩
  else none
theorem has_kind {k : Int} {p : Parts} (h : has k = some p) : 1 ≤ k ∧ k ≤ 13 := by
  unfold has at h
  repeat' split at h
  all_goals first | omega | cases h
def pathOk (s : List UInt8) : Bool := (Gw.Name.paths s).isSome
def most (k : Int) : Nat := if k = 13 then 4000 else 64
def okP (p : Parts) (c : Call) : Bool :=
  (if p.path = true then pathOk c.path else decide (c.path = [])) && ((if p.to = true then pathOk c.to else decide (c.to = [])) &&
  ((if p.data = true then decide (c.data.length ≤ most c.kind) else decide (c.data = [])) && (if p.n = true then decide (0 ≤ c.n) else decide (c.n = 0))))
/-- Whether a call may be. -/
def check (c : Call) : Bool := match has c.kind with | none => false | some p => okP p c
def ptext (b : Bool) (t : List UInt8) : List UInt8 := if b = true then one t.length ++ t else []
def pnum (b : Bool) (n : Int) : List UInt8 := if b = true then one n.toNat else []
def bytesP (p : Parts) (c : Call) : List UInt8 := one c.kind.toNat ++ (ptext p.path c.path ++ (ptext p.to c.to ++ (ptext p.data c.data ++ pnum p.n c.n)))
/-- A call's bytes. -/
def bytes (c : Call) : List UInt8 := match has c.kind with | none => [] | some p => bytesP p c
def put (b : List UInt8) (c : Call) : Option (List UInt8) := if check c = true then some (b ++ bytes c) else none

def tText (b : Bool) (l : List UInt8) : Option (List UInt8 × List UInt8) := if b = true then (match Go.Proofs.YtfmhkfijnflalaaDoor.takeText l with | none => none | some (n, u) => some ((l.drop u).take n, l.drop (u + n))) else some ([], l)
def tNum (b : Bool) (l : List UInt8) : Option (Int × List UInt8) := if b = true then (match Gw.Vlq.take l with | none => none | some (n, u) => some ((n : Int), l.drop u)) else some (0, l)
def done (c : Call) (r : List UInt8) : Option (Call × List UInt8) := if check c = true then some (c, r) else none
def t4 (k : Int) (p : Parts) (a b d : List UInt8) (l : List UInt8) : Option (Call × List UInt8) := match tNum p.n l with | none => none | some (n, r) => done ⟨k, a, b, d, n⟩ r
def t3 (k : Int) (p : Parts) (a b : List UInt8) (l : List UInt8) : Option (Call × List UInt8) := match tText p.data l with | none => none | some (d, r) => t4 k p a b d r
def t2 (k : Int) (p : Parts) (a : List UInt8) (l : List UInt8) : Option (Call × List UInt8) := match tText p.to l with | none => none | some (b, r) => t3 k p a b r
def t1 (k : Int) (p : Parts) (l : List UInt8) : Option (Call × List UInt8) := match tText p.path l with | none => none | some (a, r) => t2 k p a r
def t0 (k : Int) (l : List UInt8) : Option (Call × List UInt8) := match has k with | none => none | some p => t1 k p l
/-- The call that bytes begin with, and what is behind it. -/
def take (l : List UInt8) : Option (Call × List UInt8) := match Gw.Vlq.take l with | none => none | some (k, u) => t0 k (l.drop u)

theorem check_some {c : Call} (h : check c = true) : ∃ p, has c.kind = some p ∧ okP p c = true := by
  unfold check at h
  cases hh : has c.kind with
  | none => rw [hh] at h; cases h
  | some p => rw [hh] at h; exact ⟨p, rfl, h⟩
theorem takeText_one (t rest : List UInt8) (h : t.length < 9223372036854775808) : Go.Proofs.YtfmhkfijnflalaaDoor.takeText (one t.length ++ (t ++ rest)) = some (t.length, (one t.length).length) := by
  unfold Go.Proofs.YtfmhkfijnflalaaDoor.takeText
  rw [take_one _ h]
  simp only [List.length_append]
  rw [if_pos (by omega)]
theorem drop_one (n : Nat) (l : List UInt8) : (one n ++ l).drop (one n).length = l := List.drop_left
theorem tText_app {b : Bool} {t : List UInt8} (h0 : b = false → t = []) (h : t.length < 9223372036854775808) (rest : List UInt8) : tText b (ptext b t ++ rest) = some (t, rest) := by
  unfold tText ptext
  cases b with
  | false => rw [if_neg (by decide), if_neg (by decide), h0 rfl]; rfl
  | true =>
    rw [if_pos rfl, if_pos rfl, List.append_assoc, takeText_one t rest h]
    simp only
    rw [drop_one, List.take_left, ← List.drop_drop, drop_one, List.drop_left]
theorem tNum_app {b : Bool} {n : Int} (h0 : b = false → n = 0) (h1 : 0 ≤ n) (h : n < 9223372036854775808) (rest : List UInt8) : tNum b (pnum b n ++ rest) = some (n, rest) := by
  unfold tNum pnum
  cases b with
  | false => rw [if_neg (by decide), if_neg (by decide), h0 rfl]; rfl
  | true =>
    rw [if_pos rfl, if_pos rfl, take_one _ (by omega)]
    simp only
    rw [drop_one, show ((n.toNat : Nat) : Int) = n by omega]
theorem okP_spec {p : Parts} {c : Call} (h : okP p c = true) : (p.path = false → c.path = []) ∧ (p.to = false → c.to = []) ∧ (p.data = false → c.data = []) ∧ (p.n = false → c.n = 0) ∧ 0 ≤ c.n ∧ c.data.length ≤ 4000 ∧
    (p.path = true → pathOk c.path = true) ∧ (p.to = true → pathOk c.to = true) ∧ (p.data = true → c.data.length ≤ most c.kind) := by
  unfold okP at h
  simp only [Bool.and_eq_true] at h
  obtain ⟨h1, h2, h3, h4⟩ := h
  have hm : most c.kind ≤ 4000 := by unfold most; split <;> omega
  refine ⟨fun e => ?_, fun e => ?_, fun e => ?_, fun e => ?_, ?_, ?_, fun e => ?_, fun e => ?_, fun e => ?_⟩
  · rw [e, if_neg (by decide)] at h1; exact of_decide_eq_true h1
  · rw [e, if_neg (by decide)] at h2; exact of_decide_eq_true h2
  · rw [e, if_neg (by decide)] at h3; exact of_decide_eq_true h3
  · rw [e, if_neg (by decide)] at h4; exact of_decide_eq_true h4
  · split at h4
    · exact of_decide_eq_true h4
    · have := of_decide_eq_true h4; omega
  · split at h3
    · have := of_decide_eq_true h3; omega
    · have := of_decide_eq_true h3; rw [this]; simp
  · rw [e, if_pos rfl] at h1; exact h1
  · rw [e, if_pos rfl] at h2; exact h2
  · rw [e, if_pos rfl] at h3; exact of_decide_eq_true h3
theorem glue_le : ∀ (l : List (List UInt8)), (∀ t ∈ l, t.length ≤ 80) → (Gw.Name.glue l).length ≤ l.length * 81
  | [], _ => by simp [Gw.Name.glue]
  | [x], h => by have := h x (by simp); simp [Gw.Name.glue]; omega
  | x :: y :: l, h => by
    have e : Gw.Name.glue (x :: y :: l) = x ++ 47 :: Gw.Name.glue (y :: l) := by simp [Gw.Name.glue]
    have := glue_le (y :: l) (fun t ht => h t (by simp [ht]))
    have := h x (by simp)
    rw [e, List.length_append, List.length_cons]
    simp only [List.length_cons] at *
    omega
theorem spellF_four (s : List UInt8) : ∀ (f p : Nat) (acc l : List Int), s.length < p + f → Gw.Name.spellF s f p acc = some l → s.length + 4 * acc.length ≤ 4 * l.length + p
  | 0, p, acc, l, hf, h => by simp only [Gw.Name.spellF, Option.some.injEq] at h; subst h; omega
  | f + 1, p, acc, l, hf, h => by
    rw [Gw.Name.spellF] at h
    have hd := Gw.Name.dec_pos s p
    have hd4 := Gw.Name.dec_le s p
    split at h
    · split at h
      · have := spellF_four s f _ _ _ (by omega) h
        rw [List.length_append, List.length_singleton] at this
        omega
      · cases h
    · simp only [Option.some.injEq] at h; subst h; omega
theorem name_le {s : List UInt8} (h : Gw.Name.check s = true) : s.length ≤ 80 := by
  unfold Gw.Name.check at h
  cases hs : Gw.Name.spell s with
  | none => rw [hs] at h; cases h
  | some l =>
    rw [hs] at h
    simp only at h
    have h2 := spellF_four s _ _ _ _ (by omega) hs
    unfold Gw.Name.okL at h
    simp only [Bool.and_eq_true, Bool.not_eq_true', Bool.or_eq_false_iff, decide_eq_false_iff_not] at h
    simp at h2
    omega
theorem pathOk_len {s : List UInt8} (h : pathOk s = true) : s.length ≤ 2000 ∧ s ≠ [] := by
  unfold pathOk at h
  obtain ⟨l, hl⟩ := Option.isSome_iff_exists.1 h
  refine ⟨?_, fun e => by rw [e] at hl; cases hl⟩
  have hj := Gw.Name.join_paths hl
  unfold Gw.Name.join at hj
  split at hj
  · rename_i hf
    have h16 := (Gw.Name.fit_spec hf).1
    have hall : ∀ t ∈ l, t.length ≤ 80 := fun t ht => by
      unfold Gw.Name.fit at hf
      simp only [Bool.and_eq_true, List.all_eq_true] at hf
      exact name_le (hf.2 t ht)
    have := glue_le l hall
    cases hj
    rw [List.length_cons]
    omega
  · cases hj
theorem lens {p : Parts} {c : Call} (h : okP p c = true) : c.path.length ≤ 2000 ∧ c.to.length ≤ 2000 ∧ c.data.length ≤ 4000 := by
  obtain ⟨h1, h2, h3, h4, h5, h6, h7, h8, _⟩ := okP_spec h
  refine ⟨?_, ?_, h6⟩
  · cases hp : p.path with
    | false => rw [h1 hp]; simp
    | true => exact (pathOk_len (h7 hp)).1
  · cases hp : p.to with
    | false => rw [h2 hp]; simp
    | true => exact (pathOk_len (h8 hp)).1

/-- What was put is taken again, whatever stands behind. -/
theorem take_bytes {c : Call} (h : check c = true) (hn : c.n < 9223372036854775808) (rest : List UInt8) : take (bytes c ++ rest) = some (c, rest) := by
  obtain ⟨p, hp, ho⟩ := check_some h
  obtain ⟨q1, q2, q3, q4, q5, _⟩ := okP_spec ho
  obtain ⟨l1, l2, l3⟩ := lens ho
  have hk := has_kind hp
  unfold take bytes
  rw [hp]
  unfold bytesP
  simp only [List.append_assoc]
  rw [take_one _ (by omega)]
  simp only
  rw [drop_one, show ((c.kind.toNat : Nat) : Int) = c.kind by omega]
  unfold t0
  rw [hp]
  simp only
  unfold t1
  rw [tText_app q1 (by omega)]
  simp only
  unfold t2
  rw [tText_app q2 (by omega)]
  simp only
  unfold t3
  rw [tText_app q3 (by omega)]
  simp only
  unfold t4
  rw [tNum_app q4 q5 hn]
  simp only
  unfold done
  rw [if_pos h]
theorem take_split {l : List UInt8} {m u : Nat} (h : Gw.Vlq.take l = some (m, u)) : l = one m ++ l.drop u := by
  rw [take_own l m u h, List.take_append_drop]
theorem tText_own {b : Bool} {l t r : List UInt8} (h : tText b l = some (t, r)) : l = ptext b t ++ r ∧ (b = false → t = []) := by
  unfold tText at h
  unfold ptext
  cases b with
  | false =>
    rw [if_neg (by decide)] at h ⊢
    simp only [Option.some.injEq, Prod.mk.injEq] at h
    exact ⟨h.2, fun _ => h.1.symm⟩
  | true =>
    rw [if_pos rfl] at h ⊢
    refine ⟨?_, fun h => by cases h⟩
    unfold Go.Proofs.YtfmhkfijnflalaaDoor.takeText at h
    cases ht : Gw.Vlq.take l with
    | none => simp only [ht] at h; cases h
    | some q =>
      obtain ⟨n, u⟩ := q
      simp only [ht] at h
      by_cases hl : n + u ≤ l.length
      · rw [if_pos hl] at h
        simp only [Option.some.injEq, Prod.mk.injEq] at h
        obtain ⟨e1, e2⟩ := h
        have hlen : t.length = n := by rw [← e1, List.length_take, List.length_drop]; omega
        rw [hlen, ← e1, ← e2, ← List.drop_drop, List.append_assoc, List.take_append_drop]
        exact take_split ht
      · rw [if_neg hl] at h; cases h
theorem tNum_own {b : Bool} {l r : List UInt8} {n : Int} (h : tNum b l = some (n, r)) : l = pnum b n ++ r ∧ (b = false → n = 0) ∧ 0 ≤ n := by
  unfold tNum at h
  unfold pnum
  cases b with
  | false =>
    rw [if_neg (by decide)] at h ⊢
    simp only [Option.some.injEq, Prod.mk.injEq] at h
    exact ⟨h.2, fun _ => h.1.symm, by omega⟩
  | true =>
    rw [if_pos rfl] at h ⊢
    cases ht : Gw.Vlq.take l with
    | none => simp only [ht] at h; cases h
    | some q =>
      obtain ⟨m, u⟩ := q
      simp only [ht, Option.some.injEq, Prod.mk.injEq] at h
      obtain ⟨e1, e2⟩ := h
      refine ⟨?_, (fun h => by cases h), by omega⟩
      rw [← e1, Int.toNat_natCast, ← e2]
      exact take_split ht
/-- Bytes of which a call is taken begin with its own. -/
theorem take_own' {l r : List UInt8} {c : Call} (h : take l = some (c, r)) : check c = true ∧ l = bytes c ++ r := by
  unfold take at h
  cases h1 : Gw.Vlq.take l with
  | none => simp only [h1] at h; cases h
  | some q =>
    obtain ⟨k, u⟩ := q
    simp only [h1] at h
    unfold t0 at h
    cases hp : has (k : Int) with
    | none => simp only [hp] at h; cases h
    | some p =>
      simp only [hp] at h
      unfold t1 at h
      cases h2 : tText p.path (l.drop u) with
      | none => simp only [h2] at h; cases h
      | some q =>
        obtain ⟨a, r1⟩ := q
        simp only [h2] at h
        unfold t2 at h
        cases h3 : tText p.to r1 with
        | none => simp only [h3] at h; cases h
        | some q =>
          obtain ⟨b, r2⟩ := q
          simp only [h3] at h
          unfold t3 at h
          cases h4 : tText p.data r2 with
          | none => simp only [h4] at h; cases h
          | some q =>
            obtain ⟨d, r3⟩ := q
            simp only [h4] at h
            unfold t4 at h
            cases h5 : tNum p.n r3 with
            | none => simp only [h5] at h; cases h
            | some q =>
              obtain ⟨n, r4⟩ := q
              simp only [h5] at h
              unfold done at h
              split at h
              · rename_i hc
                simp only [Option.some.injEq, Prod.mk.injEq] at h
                obtain ⟨rfl, rfl⟩ := h
                refine ⟨hc, ?_⟩
                unfold bytes
                rw [hp]
                show l = bytesP p _ ++ _
                unfold bytesP
                rw [take_split h1, (tText_own h2).1, (tText_own h3).1, (tText_own h4).1, (tNum_own h5).1]
                simp only [List.append_assoc, Int.toNat_natCast]
              · cases h
theorem bytes_ne {c : Call} (h : check c = true) : bytes c ≠ [] := by
  obtain ⟨p, hp, _⟩ := check_some h
  unfold bytes
  rw [hp]
  show bytesP p c ≠ []
  unfold bytesP
  intro e
  have h0 : one c.kind.toNat = [] := (List.append_eq_nil_iff.1 e).1
  have hk := has_kind hp
  have h1 := take_one c.kind.toNat (by omega) []
  rw [h0] at h1
  cases h1
end Gw.Call
