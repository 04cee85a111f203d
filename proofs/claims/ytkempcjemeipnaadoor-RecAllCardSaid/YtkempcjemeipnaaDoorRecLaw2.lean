/- Records that follow one another, cut ones and torn ones: plain Lean. -/
import Derived.Test.YtkempcjemeipnaaDoorRecLaw
namespace Gw.Rec
open Gw.Vlq

theorem take_nil (lsn : Int) : take [] lsn = none := by
  rcases h : take [] lsn with _ | ⟨p, k⟩
  · rfl
  · have := take_bound h
    simp at this
    omega
/-- A record of one number is none of another. -/
theorem take_other {a b : Int} {p : List UInt8} (h : may a p = true) (hab : b ≠ a) (r : List UInt8) : take (packed a.toNat p ++ r) b = none := by
  rcases ht : take (packed a.toNat p ++ r) b with _ | ⟨q, k⟩
  · rfl
  · obtain ⟨h1, h2, t, h3⟩ := take_iff.1 ht
    exact absurd (pack_one h h1 h3).1.symm hab
/-- A record that is cut is none. -/
theorem take_short {a : Int} {p : List UInt8} (h : may a p = true) {c : Nat} (hc : c < (packed a.toNat p).length) : take ((packed a.toNat p).take c) a = none := by
  rcases ht : take ((packed a.toNat p).take c) a with _ | ⟨q, k⟩
  · rfl
  · obtain ⟨h1, h2, t, h3⟩ := take_iff.1 ht
    have h4 : packed a.toNat p ++ [] = packed a.toNat q ++ (t ++ (packed a.toNat p).drop c) := by
      rw [← List.append_assoc, ← h3, List.take_append_drop, List.append_nil]
    obtain ⟨_, rfl⟩ := pack_one h h1 h4
    have := congrArg List.length h3
    rw [List.length_take, List.length_append] at this
    omega
inductive Alls : List UInt8 → Int → List (List UInt8) → Nat → Prop
  | nil {s : List UInt8} {lsn : Int} : take s lsn = none → Alls s lsn [] 0
  | cons {s : List UInt8} {lsn : Int} {p : List UInt8} {k : Nat} {l : List (List UInt8)} {m : Nat} : take s lsn = some (p, k) → Alls (s.drop (16 * k)) (lsn + 1) l m → Alls s lsn (p :: l) (k + m)
theorem Alls.one {s : List UInt8} {lsn : Int} {l l' : List (List UInt8)} {m m' : Nat} (h : Alls s lsn l m) (h' : Alls s lsn l' m') : l = l' ∧ m = m' := by
  induction h generalizing l' m' with
  | nil e =>
    cases h' with
    | nil _ => exact ⟨rfl, rfl⟩
    | cons e' _ => rw [e] at e'; cases e'
  | cons e _ ih =>
    cases h' with
    | nil e' => rw [e] at e'; cases e'
    | cons e' h =>
      rw [e] at e'
      cases e'
      obtain ⟨rfl, rfl⟩ := ih h
      exact ⟨rfl, rfl⟩
theorem allF_alls : ∀ (f : Nat) (s : List UInt8) (lsn : Int) (acc : List (List UInt8)) (n : Nat), s.length < f + n → ∃ l m, Alls (s.drop (16 * n)) lsn l m ∧ allF f s lsn acc n = (acc ++ l, n + m)
  | 0, s, lsn, acc, n, h => ⟨[], 0, .nil (by rw [List.drop_of_length_le (by omega)]; exact take_nil _), by simp [allF]⟩
  | f + 1, s, lsn, acc, n, h => by
    rw [allF]
    rcases ht : take (s.drop (16 * n)) lsn with _ | ⟨p, k⟩
    · exact ⟨[], 0, .nil ht, by simp⟩
    · have hb := take_bound ht
      obtain ⟨l, m, h1, h2⟩ := allF_alls f s (lsn + 1) (acc ++ [p]) (n + k) (by omega)
      refine ⟨p :: l, k + m, .cons ht (by rw [List.drop_drop, show 16 * n + 16 * k = 16 * (n + k) by omega]; exact h1), ?_⟩
      simp only
      rw [h2, List.append_assoc, Nat.add_assoc]
      rfl
theorem all_alls (s : List UInt8) (lsn : Int) : Alls s lsn (all s lsn).1 (all s lsn).2 := by
  obtain ⟨l, m, h1, h2⟩ := allF_alls (s.length + 1) s lsn [] 0 (by omega)
  unfold all
  rw [h2]
  simpa using h1
theorem all_of {s : List UInt8} {lsn : Int} {l : List (List UInt8)} {m : Nat} (h : Alls s lsn l m) : all s lsn = (l, m) := by
  obtain ⟨h1, h2⟩ := (all_alls s lsn).one h
  exact Prod.ext h1 h2
/-- Records, one behind the other. -/
def packs : List (List UInt8) → Int → List UInt8
  | [], _ => []
  | p :: l, n => packed n.toNat p ++ packs l (n + 1)
theorem packs_append : ∀ (l k : List (List UInt8)) (n : Int), packs (l ++ k) n = packs l n ++ packs k (n + l.length)
  | [], k, n => by simp [packs]
  | p :: l, k, n => by
    rw [List.cons_append, packs, packs, packs_append l k (n + 1), List.append_assoc, List.length_cons, show n + 1 + (l.length : Int) = n + ((l.length + 1 : Nat) : Int) by omega]
theorem alls_packs : ∀ (l : List (List UInt8)) (n : Int) (r : List UInt8) (y : List (List UInt8)) (m : Nat), 1 ≤ n → n + l.length ≤ 1000001 → (∀ p ∈ l, p.length ≤ 40000) → Alls r (n + l.length) y m → ∃ k, 16 * k = (packs l n).length ∧ Alls (packs l n ++ r) n (l ++ y) (k + m)
  | [], n, r, y, m, _, _, _, h => ⟨0, rfl, by simpa [packs] using h⟩
  | p :: l, n, r, y, m, h1, h2, h3, h => by
    rw [List.length_cons] at h2 h
    obtain ⟨k, hk, h4⟩ := alls_packs l (n + 1) r y m (by omega) (by omega) (fun q hq => h3 q (List.mem_cons_of_mem _ hq)) (by rw [show n + 1 + (l.length : Int) = n + ((l.length + 1 : Nat) : Int) by omega]; exact h)
    have hm : may n p = true := may_iff.2 ⟨h1, by omega, h3 p (List.mem_cons_self ..)⟩
    have ht := take_pack hm (packs l (n + 1) ++ r)
    rw [← List.append_assoc] at ht
    refine ⟨many (bytes n.toNat p) + k, ?_, ?_⟩
    · rw [packs, List.length_append, packed_len]; omega
    · rw [packs, Nat.add_assoc]
      refine .cons ht ?_
      rw [List.append_assoc, ← packed_len, List.drop_left]
      exact h4
theorem all_packs {l : List (List UInt8)} {n : Int} (h1 : 1 ≤ n) (h2 : n + l.length ≤ 1000001) (h3 : ∀ p ∈ l, p.length ≤ 40000) : ∃ k, 16 * k = (packs l n).length ∧ all (packs l n) n = (l, k) := by
  obtain ⟨k, hk, h⟩ := alls_packs l n [] [] 0 h1 h2 h3 (.nil (take_nil _))
  refine ⟨k, hk, ?_⟩
  rw [List.append_nil, List.append_nil] at h
  exact all_of h
theorem all_behind {l : List (List UInt8)} {n : Int} (r : List UInt8) (h1 : 1 ≤ n) (h2 : n + l.length ≤ 1000001) (h3 : ∀ p ∈ l, p.length ≤ 40000) : ∃ k y m, 16 * k = (packs l n).length ∧ all (packs l n ++ r) n = (l ++ y, k + m) := by
  obtain ⟨k, hk, h⟩ := alls_packs l n r _ _ h1 h2 h3 (all_alls r _)
  exact ⟨k, _, _, hk, all_of h⟩
/-- The last byte of a record's sector. -/
theorem last_mark (n : Nat) (p r : List UInt8) (i : Nat) (h : i < many (bytes n p)) : ((packed n p ++ r).getD (16 * i + 15) 0).toNat = mark n := by
  have h1 := sect_secs (mark n) (bytes n p) r i _ h
  have h2 := sector_last (mark n) (c := piece (bytes n p) i) (by rw [piece_len]; omega)
  have hl := packed_len n p
  rw [← h1] at h2
  unfold sect at h2
  rw [List.getD_eq_getElem?_getD, List.getElem?_drop, List.getElem?_take, if_pos (by omega)] at h2
  unfold packed
  rw [List.getD_eq_getElem?_getD, h2]
  exact mark_nat n
theorem first_byte (n : Nat) (p r : List UInt8) (i : Nat) (h : i < many (bytes n p)) : ((packed n p ++ r).getD (16 * i) 0).toNat = mark n := by
  have h1 := sect_secs (mark n) (bytes n p) r i _ h
  have h2 := sector_first (mark n) (piece (bytes n p) i)
  rw [← h1] at h2
  unfold sect at h2
  rw [List.getD_eq_getElem?_getD, List.getElem?_drop, List.getElem?_take, if_pos (by omega), Nat.add_zero] at h2
  unfold packed
  rw [List.getD_eq_getElem?_getD, h2]
  exact mark_nat n
/-- A record one of whose sectors ends in 0 is none, if nothing ahead of that sector was changed. -/
theorem take_torn {a : Int} {p b : List UInt8} (h : may a p = true) {i : Nat} (hi : i < many (bytes a.toNat p)) (h0 : b.getD (16 * i + 15) 0 = 0) (hb : b.take (16 * i) = (packed a.toNat p).take (16 * i)) : take b a = none := by
  rcases ht : take b a with _ | ⟨q, k⟩
  · rfl
  · obtain ⟨h1, h2, t, h3⟩ := take_iff.1 ht
    have hk : k ≤ i := by
      refine Nat.le_of_not_lt fun hlt => ?_
      have := last_mark a.toNat q t i (by omega)
      rw [← h3, h0] at this
      have := (mark_lt a.toNat).1
      simp at *
      omega
    have hl := packed_len a.toNat q
    have h4 : packed a.toNat p ++ [] = packed a.toNat q ++ ((packed a.toNat p).drop (16 * k)) := by
      have e : packed a.toNat q = (packed a.toNat p).take (16 * k) := by
        have e1 : b.take (16 * k) = packed a.toNat q := by rw [h3, List.take_left' (by omega)]
        rw [← e1]
        have := congrArg (List.take (16 * k)) hb
        rwa [List.take_take, List.take_take, show min (16 * k) (16 * i) = 16 * k by omega] at this
      rw [List.append_nil]
      conv => lhs; rw [← List.take_append_drop (16 * k) (packed a.toNat p), ← e]
    obtain ⟨_, rfl⟩ := pack_one h h1 h4
    omega
end Gw.Rec
