/- What the package rec computes, in plain Lean: no program in sight. -/
import Derived.Test.YtjhblbipjljojaaDoorVlqTake
import Derived.Test.YtjhblbipjljojaaDoorSumsFn
import Derived.Test.YtjhblbipjljojaaDoorVlqLaw
namespace Gw.Vlq
theorem takeF_le : ∀ (l : List UInt8) (n i m u : Nat), takeF n i l = some (m, u) → i < u ∧ u ≤ i + l.length
  | [], n, i, m, u, h => by simp [takeF] at h
  | c :: l, n, i, m, u, h => by
    rw [takeF] at h
    rw [List.length_cons]
    split at h
    · exact absurd h (by simp)
    · split at h
      · simp only [Option.some.injEq, Prod.mk.injEq] at h; omega
      · have := takeF_le l _ _ _ _ h; omega
theorem take_le (l : List UInt8) {m u : Nat} (h : take l = some (m, u)) : 0 < u ∧ u ≤ l.length := by
  have := takeF_le l 0 0 m u h; omega
end Gw.Vlq
namespace Gw.Rec
open Gw.Vlq

def mark (lsn : Nat) : Nat := lsn % 250 + 1
/-- A record's bytes. -/
def bytes (lsn : Nat) (p : List UInt8) : List UInt8 := Gw.Vlq.text [] (Gw.Sums.seal_ (Gw.Vlq.text (one lsn) p))
/-- A piece between its marks. -/
def sector (m : Nat) (c : List UInt8) : List UInt8 := UInt8.ofNat m :: ((c ++ List.replicate (14 - c.length) 0) ++ [UInt8.ofNat m])
def piece (b : List UInt8) (i : Nat) : List UInt8 := (b.drop (14 * i)).take 14
def secs (m : Nat) (b : List UInt8) (k : Nat) : List UInt8 := (List.range k).flatMap fun i => sector m (piece b i)
theorem secs_succ (m : Nat) (b : List UInt8) (k : Nat) : secs m b (k + 1) = secs m b k ++ sector m (piece b k) := by
  unfold secs; rw [List.range_succ, List.flatMap_append]; simp
theorem piece_len (b : List UInt8) (i : Nat) : (piece b i).length = min 14 (b.length - 14 * i) := by unfold piece; rw [List.length_take, List.length_drop]
theorem sector_len (m : Nat) {c : List UInt8} (h : c.length ≤ 14) : (sector m c).length = 16 := by unfold sector; simp; omega
theorem secs_len (m : Nat) (b : List UInt8) : ∀ k, (secs m b k).length = 16 * k
  | 0 => rfl
  | k + 1 => by rw [secs_succ, List.length_append, secs_len m b k, sector_len m (by rw [piece_len]; omega)]; omega
def many (b : List UInt8) : Nat := (b.length + 13) / 14
/-- A record's sectors. -/
def packed (lsn : Nat) (p : List UInt8) : List UInt8 := secs (mark lsn) (bytes lsn p) (many (bytes lsn p))
def may (lsn : Int) (p : List UInt8) : Bool := decide (1 ≤ lsn) && (decide (lsn ≤ 1000000) && decide (p.length ≤ 40000))
def pack (lsn : Int) (p : List UInt8) : List UInt8 := if may lsn p = true then packed lsn.toNat p else []
def packErr (lsn : Int) (p : List UInt8) : Int := if may lsn p = true then 0 else 130
/-- A sector of a text, and what stands between its marks. -/
def sect (s : List UInt8) (k : Nat) : List UInt8 := (s.take (16 * k + 16)).drop (16 * k)
def inn (c : List UInt8) : List UInt8 := (c.take 15).drop 1
/-- What is known behind one more piece: whether there is enough, and how much is needed. -/
def wStep (s b piece : List UInt8) (need : Nat) : Bool × Nat :=
  if need = 0 then (match Gw.Vlq.take piece with | none => (true, 0) | some (n, u) => if s.length < n then (true, 0) else (decide (u + n ≤ b.length), u + n)) else (decide (need ≤ b.length), need)
def wholeF (s : List UInt8) (m : Nat) : Nat → Nat → List UInt8 → Nat → List UInt8 × Nat
  | 0, _, b, need => (b, need)
  | f + 1, k, b, need => if 16 * k + 16 ≤ s.length then
      (if ((sect s k).getD 0 0).toNat ≠ m ∨ ((sect s k).getD 15 0).toNat ≠ m then (b, need) else
        if (wStep s (b ++ inn (sect s k)) (inn (sect s k)) need).1 = true then (b ++ inn (sect s k), (wStep s (b ++ inn (sect s k)) (inn (sect s k)) need).2)
        else wholeF s m f (k + 1) (b ++ inn (sect s k)) (wStep s (b ++ inn (sect s k)) (inn (sect s k)) need).2)
    else (b, need)
def wholeE (r : List UInt8 × Nat) : List UInt8 := if r.2 = 0 ∨ r.1.length < r.2 then [] else r.1
/-- The bytes of the record with which a text seems to begin. -/
def whole (s : List UInt8) (m : Nat) : List UInt8 := wholeE (wholeF s m (s.length + 1) 0 [] 0)
theorem sect_len {s : List UInt8} {k : Nat} (h : 16 * k + 16 ≤ s.length) : (sect s k).length = 16 := by unfold sect; rw [List.length_drop, List.length_take]; omega
theorem inn_len {c : List UInt8} (h : c.length = 16) : (inn c).length = 14 := by unfold inn; rw [List.length_drop, List.length_take]; omega
end Gw.Rec


namespace Gw.Rec
open Gw.Vlq

def takeT (s : List UInt8) : Option (List UInt8 × List UInt8) := match Gw.Vlq.take s with
  | none => none
  | some (n, u) => if n + u ≤ s.length then some ((s.drop u).take n, s.drop (u + n)) else none
def openS (s : List UInt8) : Option (List UInt8) := if 4 ≤ s.length ∧ Gw.Sums.bytes (Gw.Sums.sum (s.take (s.length - 4))) = s.drop (s.length - 4) then some (s.take (s.length - 4)) else none
def isPre (p s : List UInt8) : Bool := decide (p.length ≤ s.length) && decide (s.take p.length = p)
/-- A record's text, and how many sectors it has. -/
def takeB (s : List UInt8) (lsn : Int) (p : List UInt8) : Option (List UInt8 × Nat) :=
  if may lsn p = true then (if isPre (packed lsn.toNat p) s = true then some (p, (packed lsn.toNat p).length / 16) else none) else none
def takeN (s : List UInt8) (lsn : Int) (b : List UInt8) : Option (List UInt8 × Nat) := match Gw.Vlq.take b with
  | none => none
  | some (_, u) => match takeT (b.drop u) with
    | none => none
    | some (p, _) => takeB s lsn p
def takeW (s : List UInt8) (lsn : Int) (x : List UInt8) : Option (List UInt8 × Nat) := match takeT x with
  | none => none
  | some (y, _) => match openS y with
    | none => none
    | some b => takeN s lsn b
def take (s : List UInt8) (lsn : Int) : Option (List UInt8 × Nat) :=
  if lsn < 1 ∨ 1000000 < lsn then none else takeW s lsn (whole s (mark lsn.toNat))
theorem wholeF_len (s : List UInt8) (m : Nat) : ∀ (f k : Nat) (b : List UInt8) (need : Nat), b.length ≤ s.length → b.length ≤ 16 * k → (wholeF s m f k b need).1.length ≤ s.length
  | 0, k, b, need, h, h2 => h
  | f + 1, k, b, need, h, h2 => by
    rw [wholeF]
    split
    · rename_i hf
      have e := inn_len (sect_len hf)
      have h3 : (b ++ inn (sect s k)).length ≤ s.length := by rw [List.length_append]; omega
      split
      · exact h
      · split
        · exact h3
        · exact wholeF_len s m f (k + 1) _ _ h3 (by rw [List.length_append]; omega)
    · exact h
theorem whole_len (s : List UInt8) (m : Nat) : (whole s m).length ≤ s.length := by
  unfold whole wholeE
  split
  · exact Nat.zero_le _
  · exact wholeF_len s m _ _ _ _ (Nat.zero_le _) (Nat.zero_le _)
theorem takeT_len {s x y : List UInt8} (h : takeT s = some (x, y)) : x.length ≤ s.length := by
  unfold takeT at h
  split at h
  · cases h
  · split at h
    · simp only [Option.some.injEq, Prod.mk.injEq] at h
      rw [← h.1, List.length_take, List.length_drop]; omega
    · cases h
theorem openS_len {s x : List UInt8} (h : openS s = some x) : x.length ≤ s.length := by
  unfold openS at h
  split at h
  · simp only [Option.some.injEq] at h
    rw [← h, List.length_take]; omega
  · cases h
/-- All the records that follow one another. -/
def allF : Nat → List UInt8 → Int → List (List UInt8) → Nat → List (List UInt8) × Nat
  | 0, _, _, acc, n => (acc, n)
  | f + 1, s, lsn, acc, n => match take (s.drop (16 * n)) lsn with
    | none => (acc, n)
    | some (p, k) => allF f s (lsn + 1) (acc ++ [p]) (n + k)
def all (s : List UInt8) (lsn : Int) : List (List UInt8) × Nat := allF (s.length + 1) s lsn [] 0
theorem take_more {s : List UInt8} {lsn : Int} {p : List UInt8} {k : Nat} (h : take s lsn = some (p, k)) : may lsn p = true ∧ isPre (packed lsn.toNat p) s = true ∧ k = (packed lsn.toNat p).length / 16 := by
  unfold take takeW takeN takeB at h
  split at h
  · cases h
  split at h
  · cases h
  split at h
  · cases h
  split at h
  · cases h
  split at h
  · cases h
  split at h
  · split at h
    · simp only [Option.some.injEq, Prod.mk.injEq] at h
      obtain ⟨rfl, rfl⟩ := h
      refine ⟨by assumption, by assumption, rfl⟩
    · cases h
  · cases h
theorem bytes_pos (n : Nat) (p : List UInt8) : 0 < (bytes n p).length := by
  unfold bytes Gw.Vlq.text Gw.Vlq.one
  simp only [List.length_append, List.length_cons]; omega
theorem take_bound {s : List UInt8} {lsn : Int} {p : List UInt8} {k : Nat} (h : take s lsn = some (p, k)) : 0 < k ∧ 16 * k ≤ s.length := by
  obtain ⟨_, h2, rfl⟩ := take_more h
  have hb := bytes_pos lsn.toNat p
  unfold isPre at h2
  rw [Bool.and_eq_true, decide_eq_true_eq] at h2
  have e : (packed lsn.toNat p).length = 16 * many (bytes lsn.toNat p) := secs_len _ _ _
  have : 0 < many (bytes lsn.toNat p) := by unfold many; omega
  omega
end Gw.Rec


namespace Gw.Rec
open Gw.Vlq

def pad (b : List UInt8) : List UInt8 := b ++ List.replicate (14 * many b - b.length) 0
theorem many_le (b : List UInt8) : b.length ≤ 14 * many b ∧ 14 * many b ≤ b.length + 13 := by unfold many; omega
theorem pad_len (b : List UInt8) : (pad b).length = 14 * many b := by
  have := many_le b
  unfold pad; rw [List.length_append, List.length_replicate]; omega
theorem cell_eq (b : List UInt8) (k : Nat) (hk : k < many b) : ((pad b).drop (14 * k)).take 14 = piece b k ++ List.replicate (14 - (piece b k).length) 0 := by
  have h := many_le b
  have hp := piece_len b k
  refine List.ext_getElem? fun i => ?_
  rw [List.getElem?_take, List.getElem?_drop, List.getElem?_append, hp]
  unfold pad piece
  rw [List.getElem?_append, List.getElem?_take, List.getElem?_drop, List.getElem?_replicate, List.getElem?_replicate]
  by_cases h1 : i < 14
  · rw [if_pos h1]
    by_cases h2 : 14 * k + i < b.length
    · rw [if_pos h2, if_pos (show i < min 14 (b.length - 14 * k) by omega), if_pos h1]
    · rw [if_neg h2, if_neg (show ¬ i < min 14 (b.length - 14 * k) by omega), if_pos (show 14 * k + i - b.length < 14 * many b - b.length by omega), if_pos (show i - min 14 (b.length - 14 * k) < 14 - min 14 (b.length - 14 * k) by omega)]
  · rw [if_neg h1, if_neg (show ¬ i < min 14 (b.length - 14 * k) by omega), if_neg (show ¬ i - min 14 (b.length - 14 * k) < 14 - min 14 (b.length - 14 * k) by omega)]
theorem pad_succ (b : List UInt8) (k : Nat) (hk : k < many b) : (pad b).take (14 * (k + 1)) = (pad b).take (14 * k) ++ (piece b k ++ List.replicate (14 - (piece b k).length) 0) := by
  rw [← cell_eq b k hk, Nat.mul_succ, List.take_add]
theorem secs_split (m : Nat) (b : List UInt8) (k : Nat) : ∀ N, k < N → ∃ t, secs m b N = secs m b k ++ (sector m (piece b k) ++ t)
  | 0, h => absurd h (Nat.not_lt_zero _)
  | N + 1, h => by
    rw [secs_succ]
    by_cases e : k = N
    · subst e; exact ⟨[], by rw [List.append_nil]⟩
    · obtain ⟨t, ht⟩ := secs_split m b k N (by omega)
      exact ⟨t ++ sector m (piece b N), by rw [ht]; simp only [List.append_assoc]⟩
theorem sect_secs (m : Nat) (b rest : List UInt8) (k N : Nat) (h : k < N) : sect (secs m b N ++ rest) k = sector m (piece b k) := by
  obtain ⟨t, ht⟩ := secs_split m b k N h
  have h1 := secs_len m b k
  have h2 : (sector m (piece b k)).length = 16 := sector_len m (by rw [piece_len]; omega)
  unfold sect
  rw [ht, List.append_assoc, List.append_assoc, List.drop_take, List.drop_left' h1, show 16 * k + 16 - 16 * k = 16 by omega, List.take_left' h2]
theorem inn_sector (m : Nat) {c : List UInt8} (h : c.length ≤ 14) : inn (sector m c) = c ++ List.replicate (14 - c.length) 0 := by
  have : (c ++ List.replicate (14 - c.length) (0 : UInt8)).length = 14 := by rw [List.length_append, List.length_replicate]; omega
  unfold inn sector
  rw [List.take_succ_cons, List.drop_succ_cons, List.drop_zero, List.take_left' this]
theorem sector_first (m : Nat) (c : List UInt8) : (sector m c).getD 0 0 = UInt8.ofNat m := rfl
theorem sector_last (m : Nat) {c : List UInt8} (h : c.length ≤ 14) : (sector m c).getD 15 0 = UInt8.ofNat m := by
  have : (c ++ List.replicate (14 - c.length) (0 : UInt8)).length = 14 := by rw [List.length_append, List.length_replicate]; omega
  unfold sector
  rw [List.getD_eq_getElem?_getD, List.getElem?_cons_succ, List.getElem?_append_right (by omega), this]
  rfl
theorem mark_lt (n : Nat) : 0 < mark n ∧ mark n < 256 := by unfold mark; omega
theorem mark_nat (n : Nat) : (UInt8.ofNat (mark n)).toNat = mark n := by have := mark_lt n; simp; omega
/-- The pieces of a record are gathered. -/
theorem wholeF_pack {m : Nat} (hm : m < 256) {L : Nat} {x rest : List UInt8} (hx : x.length = L) (hL : L < 128 ^ 8) {s : List UInt8} (hs : s = secs m (one L ++ x) (many (one L ++ x)) ++ rest) :
    ∀ (j k f : Nat), k + j + 1 = many (one L ++ x) → j < f → wholeF s m f k ((pad (one L ++ x)).take (14 * k)) (if k = 0 then 0 else (one L ++ x).length) = (pad (one L ++ x), (one L ++ x).length) := by
  intro j
  have hol : (one L).length ≤ 9 := by rw [one_length L (by omega)]; exact size_le9 L (by omega)
  have hop : 0 < (one L).length := by rw [one_length L (by omega)]; exact size_pos L
  have hB : (one L ++ x).length = (one L).length + L := by rw [List.length_append, hx]
  have htk : ∀ l, Gw.Vlq.take (one L ++ l) = some (L, (one L).length) := fun l => take_one L (by omega) l
  have hml := many_le (one L ++ x)
  have hsl : s.length = 16 * many (one L ++ x) + rest.length := by rw [hs, List.length_append, secs_len]
  have step : ∀ k, k < many (one L ++ x) → 16 * k + 16 ≤ s.length ∧ ¬(((sect s k).getD 0 0).toNat ≠ m ∨ ((sect s k).getD 15 0).toNat ≠ m) ∧ (pad (one L ++ x)).take (14 * k) ++ inn (sect s k) = (pad (one L ++ x)).take (14 * (k + 1)) ∧
      wStep s ((pad (one L ++ x)).take (14 * (k + 1))) (inn (sect s k)) (if k = 0 then 0 else (one L ++ x).length) = (decide ((one L ++ x).length ≤ 14 * (k + 1)), (one L ++ x).length) := by
    intro k hk
    have hse : sect s k = sector m (piece (one L ++ x) k) := by rw [hs]; exact sect_secs _ _ _ _ _ hk
    have hpl : (piece (one L ++ x) k).length ≤ 14 := by rw [piece_len]; omega
    have hmm : (UInt8.ofNat m).toNat = m := by simp; omega
    have hlen : ((pad (one L ++ x)).take (14 * (k + 1))).length = 14 * (k + 1) := by rw [List.length_take, pad_len]; omega
    refine ⟨by omega, ?_, ?_, ?_⟩
    · rw [hse, sector_first, sector_last m hpl, hmm]; exact fun h => h.elim (fun h => h rfl) (fun h => h rfl)
    · rw [hse, inn_sector m hpl, pad_succ _ _ hk]
    · unfold wStep
      rw [hlen]
      by_cases hz : k = 0
      · subst hz
        rw [if_pos rfl, if_pos rfl, hse, inn_sector m hpl, ← cell_eq _ _ hk]
        have e : ∃ l, ((pad (one L ++ x)).drop (14 * 0)).take 14 = one L ++ l := by
          refine ⟨(x ++ List.replicate (14 * many (one L ++ x) - (one L ++ x).length) 0).take (14 - (one L).length), ?_⟩
          unfold pad
          rw [Nat.mul_zero, List.drop_zero, List.append_assoc, List.take_append, List.take_of_length_le (by omega)]
        obtain ⟨l, hl⟩ := e
        rw [hl, htk]
        simp only
        rw [if_neg (by omega), hB]
      · rw [if_neg hz, if_neg (by omega)]
  induction j with
  | zero =>
    intro k f hk hf
    obtain ⟨f, rfl⟩ : ∃ g, f = g + 1 := ⟨f - 1, by omega⟩
    obtain ⟨h1, h2, h3, h4⟩ := step k (by omega)
    rw [wholeF, if_pos h1, if_neg h2, h3, h4, decide_eq_true (by omega), if_pos rfl, List.take_of_length_le (by rw [pad_len]; omega)]
  | succ j ih =>
    intro k f hk hf
    obtain ⟨f, rfl⟩ : ∃ g, f = g + 1 := ⟨f - 1, by omega⟩
    obtain ⟨h1, h2, h3, h4⟩ := step k (by omega)
    rw [wholeF, if_pos h1, if_neg h2, h3, h4, decide_eq_false (by omega), if_neg Bool.false_ne_true]
    have := ih (k + 1) f (by omega) (by omega)
    rwa [if_neg (by omega)] at this
theorem whole_pack {m : Nat} (hm : m < 256) {L : Nat} {x rest : List UInt8} (hx : x.length = L) (hL : L < 128 ^ 8) : whole (secs m (one L ++ x) (many (one L ++ x)) ++ rest) m = pad (one L ++ x) := by
  have hop : 0 < (one L).length := by rw [one_length L (by omega)]; exact size_pos L
  have hml := many_le (one L ++ x)
  have hB : (one L ++ x).length = (one L).length + L := by rw [List.length_append, hx]
  have h := wholeF_pack hm hx hL (s := secs m (one L ++ x) (many (one L ++ x)) ++ rest) rfl (many (one L ++ x) - 1) 0 ((secs m (one L ++ x) (many (one L ++ x)) ++ rest).length + 1) (by omega) (by rw [List.length_append, secs_len]; omega)
  rw [if_pos rfl, Nat.mul_zero, List.take_zero] at h
  unfold whole wholeE
  rw [h]
  rw [if_neg]
  rw [pad_len]; omega
def body (n : Nat) (p : List UInt8) : List UInt8 := one n ++ one p.length ++ p
theorem bytes_eq (n : Nat) (p : List UInt8) : bytes n p = one (Gw.Sums.seal_ (body n p)).length ++ Gw.Sums.seal_ (body n p) := by
  unfold bytes body Gw.Vlq.text; simp
theorem seal_len (l : List UInt8) : (Gw.Sums.seal_ l).length = l.length + 4 := by unfold Gw.Sums.seal_ Gw.Sums.bytes; simp
theorem open_seal (l : List UInt8) : openS (Gw.Sums.seal_ l) = some l := by
  have h := seal_len l
  unfold openS
  have e1 : (Gw.Sums.seal_ l).take ((Gw.Sums.seal_ l).length - 4) = l := by rw [h, Nat.add_sub_cancel]; unfold Gw.Sums.seal_; rw [List.take_left]
  have e2 : (Gw.Sums.seal_ l).drop ((Gw.Sums.seal_ l).length - 4) = Gw.Sums.bytes (Gw.Sums.sum l) := by rw [h, Nat.add_sub_cancel]; unfold Gw.Sums.seal_; rw [List.drop_left]
  rw [e1, e2, if_pos ⟨by omega, rfl⟩]
theorem takeT_one (t rest : List UInt8) (h : t.length < 9223372036854775808) : takeT (one t.length ++ (t ++ rest)) = some (t, rest) := by
  unfold takeT
  rw [take_one _ h]
  simp only
  rw [if_pos (by simp only [List.length_append]; omega), List.drop_left, List.take_left, ← List.drop_drop, List.drop_left, List.drop_left]
theorem one_le {n : Nat} (h : n < 9223372036854775808) : (one n).length ≤ 9 := by
  rw [one_length n (by omega)]; exact size_le9 n h
theorem may_iff {lsn : Int} {p : List UInt8} : may lsn p = true ↔ 1 ≤ lsn ∧ lsn ≤ 1000000 ∧ p.length ≤ 40000 := by
  unfold may; simp only [Bool.and_eq_true, decide_eq_true_eq]
theorem whole_packed {n : Nat} {p : List UInt8} (hn : n ≤ 1000000) (hp : p.length ≤ 40000) (rest : List UInt8) : ∃ z, whole (packed n p ++ rest) (mark n) = one (Gw.Sums.seal_ (body n p)).length ++ (Gw.Sums.seal_ (body n p) ++ z) := by
  have hbl : (body n p).length ≤ 40100 := by
    have := one_le (n := n) (by omega)
    have := one_le (n := p.length) (by omega)
    unfold body; simp only [List.length_append]; omega
  unfold packed
  rw [bytes_eq]
  rw [whole_pack (mark_lt n).2 rfl (by rw [seal_len]; omega)]
  unfold pad
  rw [List.append_assoc]
  exact ⟨_, rfl⟩
theorem seal_small {n : Nat} {p : List UInt8} (hn : n ≤ 1000000) (hp : p.length ≤ 40000) : (Gw.Sums.seal_ (body n p)).length ≤ 40104 := by
  have := one_le (n := n) (by omega)
  have := one_le (n := p.length) (by omega)
  rw [seal_len]; unfold body; simp only [List.length_append]; omega
theorem isPre_append (a b : List UInt8) : isPre a (a ++ b) = true := by
  unfold isPre; rw [List.take_left, decide_eq_true rfl, decide_eq_true (by simp)]; rfl
theorem isPre_ex {a b : List UInt8} (h : isPre a b = true) : ∃ r, b = a ++ r := by
  unfold isPre at h
  rw [Bool.and_eq_true, decide_eq_true_eq, decide_eq_true_eq] at h
  exact ⟨b.drop a.length, by conv => lhs; rw [← List.take_append_drop a.length b, h.2]⟩
theorem packed_len (n : Nat) (p : List UInt8) : (packed n p).length = 16 * many (bytes n p) := secs_len _ _ _
/-- A record is taken as it was packed. -/
theorem take_pack {lsn : Int} {p : List UInt8} (h : may lsn p = true) (rest : List UInt8) : take (packed lsn.toNat p ++ rest) lsn = some (p, many (bytes lsn.toNat p)) := by
  obtain ⟨h1, h2, h3⟩ := may_iff.1 h
  obtain ⟨z, hz⟩ := whole_packed (n := lsn.toNat) (p := p) (by omega) h3 rest
  have hs := seal_small (n := lsn.toNat) (p := p) (by omega) h3
  unfold take takeW
  rw [if_neg (by omega), hz, takeT_one _ _ (by omega)]
  simp only
  rw [open_seal]
  simp only
  unfold takeN body
  rw [List.append_assoc, take_one _ (by omega)]
  simp only
  have := takeT_one p [] (by omega)
  rw [List.append_nil] at this
  rw [List.drop_left, this]
  simp only
  unfold takeB
  rw [if_pos h, isPre_append, if_pos rfl, packed_len]
  congr 2
  omega
/-- The number with which a text's record was packed. -/
def numW (s : List UInt8) (m : Nat) : Option Nat := match takeT (whole s m) with
  | none => none
  | some (y, _) => match openS y with
    | none => none
    | some b => (Gw.Vlq.take b).map Prod.fst
theorem num_pack {lsn : Int} {p : List UInt8} (h : may lsn p = true) (rest : List UInt8) : numW (packed lsn.toNat p ++ rest) (mark lsn.toNat) = some lsn.toNat := by
  obtain ⟨h1, h2, h3⟩ := may_iff.1 h
  obtain ⟨z, hz⟩ := whole_packed (n := lsn.toNat) (p := p) (by omega) h3 rest
  have hs := seal_small (n := lsn.toNat) (p := p) (by omega) h3
  unfold numW
  rw [hz, takeT_one _ _ (by omega)]
  simp only
  rw [open_seal]
  simp only
  unfold body
  rw [List.append_assoc, take_one _ (by omega)]
  rfl
theorem many_pos (n : Nat) (p : List UInt8) : 0 < many (bytes n p) := by have := bytes_pos n p; unfold many; omega
theorem first_mark {n : Nat} (p rest : List UInt8) : ((packed n p ++ rest).getD 0 0).toNat = mark n := by
  obtain ⟨t, ht⟩ := secs_split (mark n) (bytes n p) 0 (many (bytes n p)) (many_pos n p)
  unfold packed
  rw [ht]
  exact mark_nat n
/-- What begins with a record's sectors begins with no other one's. -/
theorem pack_one {a b : Int} {p q r t : List UInt8} (ha : may a p = true) (hb : may b q = true) (h : packed a.toNat p ++ r = packed b.toNat q ++ t) : a = b ∧ p = q := by
  have hm : mark a.toNat = mark b.toNat := by rw [← first_mark p r, h, first_mark]
  have h1 := num_pack ha r
  rw [h, hm, num_pack hb t] at h1
  have h2 := (may_iff.1 ha).1
  have h3 := (may_iff.1 hb).1
  have e : a = b := by have := Option.some.inj h1; omega
  subst e
  refine ⟨rfl, ?_⟩
  have h4 := take_pack ha r
  rw [h, take_pack hb t] at h4
  have := Option.some.inj h4
  exact (congrArg Prod.fst this).symm
/-- What is taken was packed so. -/
theorem take_iff {s : List UInt8} {lsn : Int} {p : List UInt8} {k : Nat} : take s lsn = some (p, k) ↔ may lsn p = true ∧ k = many (bytes lsn.toNat p) ∧ ∃ r, s = packed lsn.toNat p ++ r := by
  constructor
  · intro h
    obtain ⟨h1, h2, h3⟩ := take_more h
    refine ⟨h1, by rw [h3, packed_len]; omega, isPre_ex h2⟩
  · rintro ⟨h1, rfl, r, rfl⟩
    exact take_pack h1 r
/-- What the document's answer finds between the marks. -/
def rin (s : List UInt8) (i : Nat) : List UInt8 := (s.take (16 * i + 15)).drop (16 * i + 1)
def rinner (s : List UInt8) (k : Nat) : List UInt8 := (List.range k).flatMap (rin s)
theorem rinner_succ (s : List UInt8) (k : Nat) : rinner s (k + 1) = rinner s k ++ rin s k := by
  unfold rinner; rw [List.range_succ, List.flatMap_append]; simp
theorem rin_eq (s : List UInt8) (i : Nat) : rin s i = inn (sect s i) := by
  unfold rin inn sect
  refine List.ext_getElem? fun j => ?_
  simp only [List.getElem?_drop, List.getElem?_take]
  by_cases h : 16 * i + 1 + j < 16 * i + 15
  · rw [if_pos h, if_pos (by omega), if_pos (by omega)]; congr 1; omega
  · rw [if_neg h, if_neg (by omega)]
def rtextN (b : List UInt8) : List UInt8 := match Gw.Vlq.take b with
  | none => []
  | some (_, u) => match takeT (b.drop u) with
    | none => []
    | some (p, _) => p
def rtextW (x : List UInt8) : List UInt8 := match takeT x with
  | none => []
  | some (t, _) => if t.length < 4 then [] else rtextN (t.take (t.length - 4))
def rtext (s : List UInt8) : List UInt8 := rtextW (rinner s (s.length / 16))
theorem rinner_pack (m : Nat) (b rest : List UInt8) : ∀ k, k ≤ many b → rinner (secs m b (many b) ++ rest) k = (pad b).take (14 * k)
  | 0, _ => rfl
  | k + 1, h => by
    rw [rinner_succ, rinner_pack m b rest k (by omega), rin_eq, sect_secs _ _ _ _ _ (by omega), inn_sector m (by rw [piece_len]; omega), pad_succ _ _ (by omega)]
theorem rinner_more (s : List UInt8) (k : Nat) : ∀ j, ∃ t, rinner s (k + j) = rinner s k ++ t
  | 0 => ⟨[], by simp⟩
  | j + 1 => by
    obtain ⟨t, ht⟩ := rinner_more s k j
    exact ⟨t ++ rin s (k + j), by rw [← Nat.add_assoc, rinner_succ, ht, List.append_assoc]⟩
theorem rtext_pack {n : Nat} {p : List UInt8} (hn : n ≤ 1000000) (hp : p.length ≤ 40000) (rest : List UInt8) : rtext (packed n p ++ rest) = p := by
  have hs := seal_small hn hp
  have e1 : (packed n p ++ rest).length / 16 = many (bytes n p) + rest.length / 16 := by rw [List.length_append, packed_len]; omega
  obtain ⟨t, ht⟩ := rinner_more (packed n p ++ rest) (many (bytes n p)) (rest.length / 16)
  unfold rtext
  rw [e1, ht]
  unfold packed
  rw [rinner_pack _ _ _ _ (Nat.le_refl _), List.take_of_length_le (by rw [pad_len]; exact Nat.le_refl _)]
  unfold pad
  rw [bytes_eq, List.append_assoc, List.append_assoc]
  unfold rtextW
  rw [takeT_one _ _ (by omega)]
  have h4 := seal_len (body n p)
  have e2 : (Gw.Sums.seal_ (body n p)).take ((Gw.Sums.seal_ (body n p)).length - 4) = body n p := by rw [h4, Nat.add_sub_cancel]; unfold Gw.Sums.seal_; rw [List.take_left]
  simp only
  rw [if_neg (by omega), e2]
  unfold rtextN body
  rw [List.append_assoc, take_one _ (by omega)]
  simp only
  have := takeT_one p [] (by omega)
  rw [List.append_nil] at this
  rw [List.drop_left, this]
/-- The document takes what is taken. -/
theorem rtake_eq (s : List UInt8) (lsn : Int) : takeB s lsn (rtext s) = take s lsn := by
  rcases ht : take s lsn with _ | ⟨p, k⟩
  · unfold takeB
    by_cases h1 : may lsn (rtext s) = true
    · rw [if_pos h1]
      by_cases h2 : isPre (packed lsn.toNat (rtext s)) s = true
      · obtain ⟨r, hr⟩ := isPre_ex h2
        have := take_iff.2 ⟨h1, rfl, r, hr⟩
        rw [ht] at this
        cases this
      · rw [if_neg h2]
    · rw [if_neg h1]
  · obtain ⟨h1, rfl, r, rfl⟩ := take_iff.1 ht
    obtain ⟨h2, h3, h4⟩ := may_iff.1 h1
    rw [rtext_pack (by omega) h4]
    unfold takeB
    rw [if_pos h1, isPre_append, if_pos rfl, packed_len]
    congr 2
    omega
end Gw.Rec


namespace Gw.Rec
open Gw.Vlq

theorem take_nil (lsn : Int) : take [] lsn = none := by
  rcases h : take [] lsn with _ | ⟨p, k⟩
  · rfl
  · have := take_bound h
    simp at this
    omega
/-- A record of one number is none of another. -/
theorem take_other {a b : Int} {p : List UInt8} (h : may a p = true) (hab : b ≠ a) (r : List UInt8) : take (packed a.toNat p ++ r) b = none := by
  rcases ht : take (packed a.toNat p ++ r) b with _ | ⟨q, k⟩
  · rfl
  · obtain ⟨h1, h2, t, h3⟩ := take_iff.1 ht
    exact absurd (pack_one h h1 h3).1.symm hab
/-- A record that is cut is none. -/
theorem take_short {a : Int} {p : List UInt8} (h : may a p = true) {c : Nat} (hc : c < (packed a.toNat p).length) : take ((packed a.toNat p).take c) a = none := by
  rcases ht : take ((packed a.toNat p).take c) a with _ | ⟨q, k⟩
  · rfl
  · obtain ⟨h1, h2, t, h3⟩ := take_iff.1 ht
    have h4 : packed a.toNat p ++ [] = packed a.toNat q ++ (t ++ (packed a.toNat p).drop c) := by
      rw [← List.append_assoc, ← h3, List.take_append_drop, List.append_nil]
    obtain ⟨_, rfl⟩ := pack_one h h1 h4
    have := congrArg List.length h3
    rw [List.length_take, List.length_append] at this
    omega
inductive Alls : List UInt8 → Int → List (List UInt8) → Nat → Prop
  | nil {s : List UInt8} {lsn : Int} : take s lsn = none → Alls s lsn [] 0
  | cons {s : List UInt8} {lsn : Int} {p : List UInt8} {k : Nat} {l : List (List UInt8)} {m : Nat} : take s lsn = some (p, k) → Alls (s.drop (16 * k)) (lsn + 1) l m → Alls s lsn (p :: l) (k + m)
theorem Alls.one {s : List UInt8} {lsn : Int} {l l' : List (List UInt8)} {m m' : Nat} (h : Alls s lsn l m) (h' : Alls s lsn l' m') : l = l' ∧ m = m' := by
  induction h generalizing l' m' with
  | nil e =>
    cases h' with
    | nil _ => exact ⟨rfl, rfl⟩
    | cons e' _ => rw [e] at e'; cases e'
  | cons e _ ih =>
    cases h' with
    | nil e' => rw [e] at e'; cases e'
    | cons e' h =>
      rw [e] at e'
      cases e'
      obtain ⟨rfl, rfl⟩ := ih h
      exact ⟨rfl, rfl⟩
theorem allF_alls : ∀ (f : Nat) (s : List UInt8) (lsn : Int) (acc : List (List UInt8)) (n : Nat), s.length < f + n → ∃ l m, Alls (s.drop (16 * n)) lsn l m ∧ allF f s lsn acc n = (acc ++ l, n + m)
  | 0, s, lsn, acc, n, h => ⟨[], 0, .nil (by rw [List.drop_of_length_le (by omega)]; exact take_nil _), by simp [allF]⟩
  | f + 1, s, lsn, acc, n, h => by
    rw [allF]
    rcases ht : take (s.drop (16 * n)) lsn with _ | ⟨p, k⟩
    · exact ⟨[], 0, .nil ht, by simp⟩
    · have hb := take_bound ht
      obtain ⟨l, m, h1, h2⟩ := allF_alls f s (lsn + 1) (acc ++ [p]) (n + k) (by omega)
      refine ⟨p :: l, k + m, .cons ht (by rw [List.drop_drop, show 16 * n + 16 * k = 16 * (n + k) by omega]; exact h1), ?_⟩
      simp only
      rw [h2, List.append_assoc, Nat.add_assoc]
      rfl
theorem all_alls (s : List UInt8) (lsn : Int) : Alls s lsn (all s lsn).1 (all s lsn).2 := by
  obtain ⟨l, m, h1, h2⟩ := allF_alls (s.length + 1) s lsn [] 0 (by omega)
  unfold all
  rw [h2]
  simpa using h1
theorem all_of {s : List UInt8} {lsn : Int} {l : List (List UInt8)} {m : Nat} (h : Alls s lsn l m) : all s lsn = (l, m) := by
  obtain ⟨h1, h2⟩ := (all_alls s lsn).one h
  exact Prod.ext h1 h2
/-- Records, one behind the other. -/
def packs : List (List UInt8) → Int → List UInt8
  | [], _ => []
  | p :: l, n => packed n.toNat p ++ packs l (n + 1)
theorem packs_append : ∀ (l k : List (List UInt8)) (n : Int), packs (l ++ k) n = packs l n ++ packs k (n + l.length)
  | [], k, n => by simp [packs]
  | p :: l, k, n => by
    rw [List.cons_append, packs, packs, packs_append l k (n + 1), List.append_assoc, List.length_cons, show n + 1 + (l.length : Int) = n + ((l.length + 1 : Nat) : Int) by omega]
theorem alls_packs : ∀ (l : List (List UInt8)) (n : Int) (r : List UInt8) (y : List (List UInt8)) (m : Nat), 1 ≤ n → n + l.length ≤ 1000001 → (∀ p ∈ l, p.length ≤ 40000) → Alls r (n + l.length) y m → ∃ k, 16 * k = (packs l n).length ∧ Alls (packs l n ++ r) n (l ++ y) (k + m)
  | [], n, r, y, m, _, _, _, h => ⟨0, rfl, by simpa [packs] using h⟩
  | p :: l, n, r, y, m, h1, h2, h3, h => by
    rw [List.length_cons] at h2 h
    obtain ⟨k, hk, h4⟩ := alls_packs l (n + 1) r y m (by omega) (by omega) (fun q hq => h3 q (List.mem_cons_of_mem _ hq)) (by rw [show n + 1 + (l.length : Int) = n + ((l.length + 1 : Nat) : Int) by omega]; exact h)
    have hm : may n p = true := may_iff.2 ⟨h1, by omega, h3 p (List.mem_cons_self ..)⟩
    have ht := take_pack hm (packs l (n + 1) ++ r)
    rw [← List.append_assoc] at ht
    refine ⟨many (bytes n.toNat p) + k, ?_, ?_⟩
    · rw [packs, List.length_append, packed_len]; omega
    · rw [packs, Nat.add_assoc]
      refine .cons ht ?_
      rw [List.append_assoc, ← packed_len, List.drop_left]
      exact h4
theorem all_packs {l : List (List UInt8)} {n : Int} (h1 : 1 ≤ n) (h2 : n + l.length ≤ 1000001) (h3 : ∀ p ∈ l, p.length ≤ 40000) : ∃ k, 16 * k = (packs l n).length ∧ all (packs l n) n = (l, k) := by
  obtain ⟨k, hk, h⟩ := alls_packs l n [] [] 0 h1 h2 h3 (.nil (take_nil _))
  refine ⟨k, hk, ?_⟩
  rw [List.append_nil, List.append_nil] at h
  exact all_of h
theorem all_behind {l : List (List UInt8)} {n : Int} (r : List UInt8) (h1 : 1 ≤ n) (h2 : n + l.length ≤ 1000001) (h3 : ∀ p ∈ l, p.length ≤ 40000) : ∃ k y m, 16 * k = (packs l n).length ∧ all (packs l n ++ r) n = (l ++ y, k + m) := by
  obtain ⟨k, hk, h⟩ := alls_packs l n r _ _ h1 h2 h3 (all_alls r _)
  exact ⟨k, _, _, hk, all_of h⟩
/-- The last byte of a record's sector. -/
theorem last_mark (n : Nat) (p r : List UInt8) (i : Nat) (h : i < many (bytes n p)) : ((packed n p ++ r).getD (16 * i + 15) 0).toNat = mark n := by
  have h1 := sect_secs (mark n) (bytes n p) r i _ h
  have h2 := sector_last (mark n) (c := piece (bytes n p) i) (by rw [piece_len]; omega)
  have hl := packed_len n p
  rw [← h1] at h2
  unfold sect at h2
  rw [List.getD_eq_getElem?_getD, List.getElem?_drop, List.getElem?_take, if_pos (by omega)] at h2
  unfold packed
  rw [List.getD_eq_getElem?_getD, h2]
  exact mark_nat n
theorem first_byte (n : Nat) (p r : List UInt8) (i : Nat) (h : i < many (bytes n p)) : ((packed n p ++ r).getD (16 * i) 0).toNat = mark n := by
  have h1 := sect_secs (mark n) (bytes n p) r i _ h
  have h2 := sector_first (mark n) (piece (bytes n p) i)
  rw [← h1] at h2
  unfold sect at h2
  rw [List.getD_eq_getElem?_getD, List.getElem?_drop, List.getElem?_take, if_pos (by omega), Nat.add_zero] at h2
  unfold packed
  rw [List.getD_eq_getElem?_getD, h2]
  exact mark_nat n
/-- A record one of whose sectors ends in 0 is none, if nothing ahead of that sector was changed. -/
theorem take_torn {a : Int} {p b : List UInt8} (h : may a p = true) {i : Nat} (hi : i < many (bytes a.toNat p)) (h0 : b.getD (16 * i + 15) 0 = 0) (hb : b.take (16 * i) = (packed a.toNat p).take (16 * i)) : take b a = none := by
  rcases ht : take b a with _ | ⟨q, k⟩
  · rfl
  · obtain ⟨h1, h2, t, h3⟩ := take_iff.1 ht
    have hk : k ≤ i := by
      refine Nat.le_of_not_lt fun hlt => ?_
      have := last_mark a.toNat q t i (by omega)
      rw [← h3, h0] at this
      have := (mark_lt a.toNat).1
      simp at *
      omega
    have hl := packed_len a.toNat q
    have h4 : packed a.toNat p ++ [] = packed a.toNat q ++ ((packed a.toNat p).drop (16 * k)) := by
      have e : packed a.toNat q = (packed a.toNat p).take (16 * k) := by
        have e1 : b.take (16 * k) = packed a.toNat q := by rw [h3, List.take_left' (by omega)]
        rw [← e1]
        have := congrArg (List.take (16 * k)) hb
        rwa [List.take_take, List.take_take, show min (16 * k) (16 * i) = 16 * k by omega] at this
      rw [List.append_nil]
      conv => lhs; rw [← List.take_append_drop (16 * k) (packed a.toNat p), ← e]
    obtain ⟨_, rfl⟩ := pack_one h h1 h4
    omega
end Gw.Rec
