/- A record is taken as it was packed: plain Lean. -/
import Derived.Test.YtkempcjemeipnaaDoorRecTakeFn
import Derived.Test.YtkempcjemeipnaaDoorVlqLaw
namespace Gw.Rec
open Gw.Vlq

def pad (b : List UInt8) : List UInt8 := b ++ List.replicate (14 * many b - b.length) 0
theorem many_le (b : List UInt8) : b.length ≤ 14 * many b ∧ 14 * many b ≤ b.length + 13 := by unfold many; omega
theorem pad_len (b : List UInt8) : (pad b).length = 14 * many b := by
  have := many_le b
  unfold pad; rw [List.length_append, List.length_replicate]; omega
theorem cell_eq (b : List UInt8) (k : Nat) (hk : k < many b) : ((pad b).drop (14 * k)).take 14 = piece b k ++ List.replicate (14 - (piece b k).length) 0 := by
  have h := many_le b
  have hp := piece_len b k
  refine List.ext_getElem? fun i => ?_
  rw [List.getElem?_take, List.getElem?_drop, List.getElem?_append, hp]
  unfold pad piece
  rw [List.getElem?_append, List.getElem?_take, List.getElem?_drop, List.getElem?_replicate, List.getElem?_replicate]
  by_cases h1 : i < 14
  · rw [if_pos h1]
    by_cases h2 : 14 * k + i < b.length
    · rw [if_pos h2, if_pos (show i < min 14 (b.length - 14 * k) by omega), if_pos h1]
    · rw [if_neg h2, if_neg (show ¬ i < min 14 (b.length - 14 * k) by omega), if_pos (show 14 * k + i - b.length < 14 * many b - b.length by omega), if_pos (show i - min 14 (b.length - 14 * k) < 14 - min 14 (b.length - 14 * k) by omega)]
  · rw [if_neg h1, if_neg (show ¬ i < min 14 (b.length - 14 * k) by omega), if_neg (show ¬ i - min 14 (b.length - 14 * k) < 14 - min 14 (b.length - 14 * k) by omega)]
theorem pad_succ (b : List UInt8) (k : Nat) (hk : k < many b) : (pad b).take (14 * (k + 1)) = (pad b).take (14 * k) ++ (piece b k ++ List.replicate (14 - (piece b k).length) 0) := by
  rw [← cell_eq b k hk, Nat.mul_succ, List.take_add]
theorem secs_split (m : Nat) (b : List UInt8) (k : Nat) : ∀ N, k < N → ∃ t, secs m b N = secs m b k ++ (sector m (piece b k) ++ t)
  | 0, h => absurd h (Nat.not_lt_zero _)
  | N + 1, h => by
    rw [secs_succ]
    by_cases e : k = N
    · subst e; exact ⟨[], by rw [List.append_nil]⟩
    · obtain ⟨t, ht⟩ := secs_split m b k N (by omega)
      exact ⟨t ++ sector m (piece b N), by rw [ht]; simp only [List.append_assoc]⟩
theorem sect_secs (m : Nat) (b rest : List UInt8) (k N : Nat) (h : k < N) : sect (secs m b N ++ rest) k = sector m (piece b k) := by
  obtain ⟨t, ht⟩ := secs_split m b k N h
  have h1 := secs_len m b k
  have h2 : (sector m (piece b k)).length = 16 := sector_len m (by rw [piece_len]; omega)
  unfold sect
  rw [ht, List.append_assoc, List.append_assoc, List.drop_take, List.drop_left' h1, show 16 * k + 16 - 16 * k = 16 by omega, List.take_left' h2]
theorem inn_sector (m : Nat) {c : List UInt8} (h : c.length ≤ 14) : inn (sector m c) = c ++ List.replicate (14 - c.length) 0 := by
  have : (c ++ List.replicate (14 - c.length) (0 : UInt8)).length = 14 := by rw [List.length_append, List.length_replicate]; omega
  unfold inn sector
  rw [List.take_succ_cons, List.drop_succ_cons, List.drop_zero, List.take_left' this]
theorem sector_first (m : Nat) (c : List UInt8) : (sector m c).getD 0 0 = UInt8.ofNat m := rfl
theorem sector_last (m : Nat) {c : List UInt8} (h : c.length ≤ 14) : (sector m c).getD 15 0 = UInt8.ofNat m := by
  have : (c ++ List.replicate (14 - c.length) (0 : UInt8)).length = 14 := by rw [List.length_append, List.length_replicate]; omega
  unfold sector
  rw [List.getD_eq_getElem?_getD, List.getElem?_cons_succ, List.getElem?_append_right (by omega), this]
  rfl
theorem mark_lt (n : Nat) : 0 < mark n ∧ mark n < 256 := by unfold mark; omega
theorem mark_nat (n : Nat) : (UInt8.ofNat (mark n)).toNat = mark n := by have := mark_lt n; simp; omega
/-- The pieces of a record are gathered. -/
theorem wholeF_pack {m : Nat} (hm : m < 256) {L : Nat} {x rest : List UInt8} (hx : x.length = L) (hL : L < 128 ^ 8) {s : List UInt8} (hs : s = secs m (one L ++ x) (many (one L ++ x)) ++ rest) :
    ∀ (j k f : Nat), k + j + 1 = many (one L ++ x) → j < f → wholeF s m f k ((pad (one L ++ x)).take (14 * k)) (if k = 0 then 0 else (one L ++ x).length) = (pad (one L ++ x), (one L ++ x).length) := by
  intro j
  have hol : (one L).length ≤ 9 := by rw [one_length L (by omega)]; exact size_le9 L (by omega)
  have hop : 0 < (one L).length := by rw [one_length L (by omega)]; exact size_pos L
  have hB : (one L ++ x).length = (one L).length + L := by rw [List.length_append, hx]
  have htk : ∀ l, Gw.Vlq.take (one L ++ l) = some (L, (one L).length) := fun l => take_one L (by omega) l
  have hml := many_le (one L ++ x)
  have hsl : s.length = 16 * many (one L ++ x) + rest.length := by rw [hs, List.length_append, secs_len]
  have step : ∀ k, k < many (one L ++ x) → 16 * k + 16 ≤ s.length ∧ ¬(((sect s k).getD 0 0).toNat ≠ m ∨ ((sect s k).getD 15 0).toNat ≠ m) ∧ (pad (one L ++ x)).take (14 * k) ++ inn (sect s k) = (pad (one L ++ x)).take (14 * (k + 1)) ∧
      wStep s ((pad (one L ++ x)).take (14 * (k + 1))) (inn (sect s k)) (if k = 0 then 0 else (one L ++ x).length) = (decide ((one L ++ x).length ≤ 14 * (k + 1)), (one L ++ x).length) := by
    intro k hk
    have hse : sect s k = sector m (piece (one L ++ x) k) := by rw [hs]; exact sect_secs _ _ _ _ _ hk
    have hpl : (piece (one L ++ x) k).length ≤ 14 := by rw [piece_len]; omega
    have hmm : (UInt8.ofNat m).toNat = m := by simp; omega
    have hlen : ((pad (one L ++ x)).take (14 * (k + 1))).length = 14 * (k + 1) := by rw [List.length_take, pad_len]; omega
    refine ⟨by omega, ?_, ?_, ?_⟩
    · rw [hse, sector_first, sector_last m hpl, hmm]; exact fun h => h.elim (fun h => h rfl) (fun h => h rfl)
    · rw [hse, inn_sector m hpl, pad_succ _ _ hk]
    · unfold wStep
      rw [hlen]
      by_cases hz : k = 0
      · subst hz
        rw [if_pos rfl, if_pos rfl, hse, inn_sector m hpl, ← cell_eq _ _ hk]
        have e : ∃ l, ((pad (one L ++ x)).drop (14 * 0)).take 14 = one L ++ l := by
          refine ⟨(x ++ List.replicate (14 * many (one L ++ x) - (one L ++ x).length) 0).take (14 - (one L).length), ?_⟩
          unfold pad
          rw [Nat.mul_zero, List.drop_zero, List.append_assoc, List.take_append, List.take_of_length_le (by omega)]
        obtain ⟨l, hl⟩ := e
        rw [hl, htk]
        simp only
        rw [if_neg (by omega), hB]
      · rw [if_neg hz, if_neg (by omega)]
  induction j with
  | zero =>
    intro k f hk hf
    obtain ⟨f, rfl⟩ : ∃ g, f = g + 1 := ⟨f - 1, by omega⟩
    obtain ⟨h1, h2, h3, h4⟩ := step k (by omega)
    rw [wholeF, if_pos h1, if_neg h2, h3, h4, decide_eq_true (by omega), if_pos rfl, List.take_of_length_le (by rw [pad_len]; omega)]
  | succ j ih =>
    intro k f hk hf
    obtain ⟨f, rfl⟩ : ∃ g, f = g + 1 := ⟨f - 1, by omega⟩
    obtain ⟨h1, h2, h3, h4⟩ := step k (by omega)
    rw [wholeF, if_pos h1, if_neg h2, h3, h4, decide_eq_false (by omega), if_neg Bool.false_ne_true]
    have := ih (k + 1) f (by omega) (by omega)
    rwa [if_neg (by omega)] at this
theorem whole_pack {m : Nat} (hm : m < 256) {L : Nat} {x rest : List UInt8} (hx : x.length = L) (hL : L < 128 ^ 8) : whole (secs m (one L ++ x) (many (one L ++ x)) ++ rest) m = pad (one L ++ x) := by
  have hop : 0 < (one L).length := by rw [one_length L (by omega)]; exact size_pos L
  have hml := many_le (one L ++ x)
  have hB : (one L ++ x).length = (one L).length + L := by rw [List.length_append, hx]
  have h := wholeF_pack hm hx hL (s := secs m (one L ++ x) (many (one L ++ x)) ++ rest) rfl (many (one L ++ x) - 1) 0 ((secs m (one L ++ x) (many (one L ++ x)) ++ rest).length + 1) (by omega) (by rw [List.length_append, secs_len]; omega)
  rw [if_pos rfl, Nat.mul_zero, List.take_zero] at h
  unfold whole wholeE
  rw [h]
  rw [if_neg]
  rw [pad_len]; omega
def body (n : Nat) (p : List UInt8) : List UInt8 := one n ++ one p.length ++ p
theorem bytes_eq (n : Nat) (p : List UInt8) : bytes n p = one (Gw.Sums.seal_ (body n p)).length ++ Gw.Sums.seal_ (body n p) := by
  unfold bytes body Gw.Vlq.text; simp
theorem seal_len (l : List UInt8) : (Gw.Sums.seal_ l).length = l.length + 4 := by unfold Gw.Sums.seal_ Gw.Sums.bytes; simp
theorem open_seal (l : List UInt8) : openS (Gw.Sums.seal_ l) = some l := by
  have h := seal_len l
  unfold openS
  have e1 : (Gw.Sums.seal_ l).take ((Gw.Sums.seal_ l).length - 4) = l := by rw [h, Nat.add_sub_cancel]; unfold Gw.Sums.seal_; rw [List.take_left]
  have e2 : (Gw.Sums.seal_ l).drop ((Gw.Sums.seal_ l).length - 4) = Gw.Sums.bytes (Gw.Sums.sum l) := by rw [h, Nat.add_sub_cancel]; unfold Gw.Sums.seal_; rw [List.drop_left]
  rw [e1, e2, if_pos ⟨by omega, rfl⟩]
theorem takeT_one (t rest : List UInt8) (h : t.length < 9223372036854775808) : takeT (one t.length ++ (t ++ rest)) = some (t, rest) := by
  unfold takeT
  rw [take_one _ h]
  simp only
  rw [if_pos (by simp only [List.length_append]; omega), List.drop_left, List.take_left, ← List.drop_drop, List.drop_left, List.drop_left]
theorem one_le {n : Nat} (h : n < 9223372036854775808) : (one n).length ≤ 9 := by
  rw [one_length n (by omega)]; exact size_le9 n h
theorem may_iff {lsn : Int} {p : List UInt8} : may lsn p = true ↔ 1 ≤ lsn ∧ lsn ≤ 1000000 ∧ p.length ≤ 40000 := by
  unfold may; simp only [Bool.and_eq_true, decide_eq_true_eq]
theorem whole_packed {n : Nat} {p : List UInt8} (hn : n ≤ 1000000) (hp : p.length ≤ 40000) (rest : List UInt8) : ∃ z, whole (packed n p ++ rest) (mark n) = one (Gw.Sums.seal_ (body n p)).length ++ (Gw.Sums.seal_ (body n p) ++ z) := by
  have hbl : (body n p).length ≤ 40100 := by
    have := one_le (n := n) (by omega)
    have := one_le (n := p.length) (by omega)
    unfold body; simp only [List.length_append]; omega
  unfold packed
  rw [bytes_eq]
  rw [whole_pack (mark_lt n).2 rfl (by rw [seal_len]; omega)]
  unfold pad
  rw [List.append_assoc]
  exact ⟨_, rfl⟩
theorem seal_small {n : Nat} {p : List UInt8} (hn : n ≤ 1000000) (hp : p.length ≤ 40000) : (Gw.Sums.seal_ (body n p)).length ≤ 40104 := by
  have := one_le (n := n) (by omega)
  have := one_le (n := p.length) (by omega)
  rw [seal_len]; unfold body; simp only [List.length_append]; omega
theorem isPre_append (a b : List UInt8) : isPre a (a ++ b) = true := by
  unfold isPre; rw [List.take_left, decide_eq_true rfl, decide_eq_true (by simp)]; rfl
theorem isPre_ex {a b : List UInt8} (h : isPre a b = true) : ∃ r, b = a ++ r := by
  unfold isPre at h
  rw [Bool.and_eq_true, decide_eq_true_eq, decide_eq_true_eq] at h
  exact ⟨b.drop a.length, by conv => lhs; rw [← List.take_append_drop a.length b, h.2]⟩
theorem packed_len (n : Nat) (p : List UInt8) : (packed n p).length = 16 * many (bytes n p) := secs_len _ _ _
/-- A record is taken as it was packed. -/
theorem take_pack {lsn : Int} {p : List UInt8} (h : may lsn p = true) (rest : List UInt8) : take (packed lsn.toNat p ++ rest) lsn = some (p, many (bytes lsn.toNat p)) := by
  obtain ⟨h1, h2, h3⟩ := may_iff.1 h
  obtain ⟨z, hz⟩ := whole_packed (n := lsn.toNat) (p := p) (by omega) h3 rest
  have hs := seal_small (n := lsn.toNat) (p := p) (by omega) h3
  unfold take takeW
  rw [if_neg (by omega), hz, takeT_one _ _ (by omega)]
  simp only
  rw [open_seal]
  simp only
  unfold takeN body
  rw [List.append_assoc, take_one _ (by omega)]
  simp only
  have := takeT_one p [] (by omega)
  rw [List.append_nil] at this
  rw [List.drop_left, this]
  simp only
  unfold takeB
  rw [if_pos h, isPre_append, if_pos rfl, packed_len]
  congr 2
  omega
/-- The number with which a text's record was packed. -/
def numW (s : List UInt8) (m : Nat) : Option Nat := match takeT (whole s m) with
  | none => none
  | some (y, _) => match openS y with
    | none => none
    | some b => (Gw.Vlq.take b).map Prod.fst
theorem num_pack {lsn : Int} {p : List UInt8} (h : may lsn p = true) (rest : List UInt8) : numW (packed lsn.toNat p ++ rest) (mark lsn.toNat) = some lsn.toNat := by
  obtain ⟨h1, h2, h3⟩ := may_iff.1 h
  obtain ⟨z, hz⟩ := whole_packed (n := lsn.toNat) (p := p) (by omega) h3 rest
  have hs := seal_small (n := lsn.toNat) (p := p) (by omega) h3
  unfold numW
  rw [hz, takeT_one _ _ (by omega)]
  simp only
  rw [open_seal]
  simp only
  unfold body
  rw [List.append_assoc, take_one _ (by omega)]
  rfl
theorem many_pos (n : Nat) (p : List UInt8) : 0 < many (bytes n p) := by have := bytes_pos n p; unfold many; omega
theorem first_mark {n : Nat} (p rest : List UInt8) : ((packed n p ++ rest).getD 0 0).toNat = mark n := by
  obtain ⟨t, ht⟩ := secs_split (mark n) (bytes n p) 0 (many (bytes n p)) (many_pos n p)
  unfold packed
  rw [ht]
  exact mark_nat n
/-- What begins with a record's sectors begins with no other one's. -/
theorem pack_one {a b : Int} {p q r t : List UInt8} (ha : may a p = true) (hb : may b q = true) (h : packed a.toNat p ++ r = packed b.toNat q ++ t) : a = b ∧ p = q := by
  have hm : mark a.toNat = mark b.toNat := by rw [← first_mark p r, h, first_mark]
  have h1 := num_pack ha r
  rw [h, hm, num_pack hb t] at h1
  have h2 := (may_iff.1 ha).1
  have h3 := (may_iff.1 hb).1
  have e : a = b := by have := Option.some.inj h1; omega
  subst e
  refine ⟨rfl, ?_⟩
  have h4 := take_pack ha r
  rw [h, take_pack hb t] at h4
  have := Option.some.inj h4
  exact (congrArg Prod.fst this).symm
/-- What is taken was packed so. -/
theorem take_iff {s : List UInt8} {lsn : Int} {p : List UInt8} {k : Nat} : take s lsn = some (p, k) ↔ may lsn p = true ∧ k = many (bytes lsn.toNat p) ∧ ∃ r, s = packed lsn.toNat p ++ r := by
  constructor
  · intro h
    obtain ⟨h1, h2, h3⟩ := take_more h
    refine ⟨h1, by rw [h3, packed_len]; omega, isPre_ex h2⟩
  · rintro ⟨h1, rfl, r, rfl⟩
    exact take_pack h1 r
/-- What the document's answer finds between the marks. -/
def rin (s : List UInt8) (i : Nat) : List UInt8 := (s.take (16 * i + 15)).drop (16 * i + 1)
def rinner (s : List UInt8) (k : Nat) : List UInt8 := (List.range k).flatMap (rin s)
theorem rinner_succ (s : List UInt8) (k : Nat) : rinner s (k + 1) = rinner s k ++ rin s k := by
  unfold rinner; rw [List.range_succ, List.flatMap_append]; simp
theorem rin_eq (s : List UInt8) (i : Nat) : rin s i = inn (sect s i) := by
  unfold rin inn sect
  refine List.ext_getElem? fun j => ?_
  simp only [List.getElem?_drop, List.getElem?_take]
  by_cases h : 16 * i + 1 + j < 16 * i + 15
  · rw [if_pos h, if_pos (by omega), if_pos (by omega)]; congr 1; omega
  · rw [if_neg h, if_neg (by omega)]
def rtextN (b : List UInt8) : List UInt8 := match Gw.Vlq.take b with
  | none => []
  | some (_, u) => match takeT (b.drop u) with
    | none => []
    | some (p, _) => p
def rtextW (x : List UInt8) : List UInt8 := match takeT x with
  | none => []
  | some (t, _) => if t.length < 4 then [] else rtextN (t.take (t.length - 4))
def rtext (s : List UInt8) : List UInt8 := rtextW (rinner s (s.length / 16))
theorem rinner_pack (m : Nat) (b rest : List UInt8) : ∀ k, k ≤ many b → rinner (secs m b (many b) ++ rest) k = (pad b).take (14 * k)
  | 0, _ => rfl
  | k + 1, h => by
    rw [rinner_succ, rinner_pack m b rest k (by omega), rin_eq, sect_secs _ _ _ _ _ (by omega), inn_sector m (by rw [piece_len]; omega), pad_succ _ _ (by omega)]
theorem rinner_more (s : List UInt8) (k : Nat) : ∀ j, ∃ t, rinner s (k + j) = rinner s k ++ t
  | 0 => ⟨[], by simp⟩
  | j + 1 => by
    obtain ⟨t, ht⟩ := rinner_more s k j
    exact ⟨t ++ rin s (k + j), by rw [← Nat.add_assoc, rinner_succ, ht, List.append_assoc]⟩
theorem rtext_pack {n : Nat} {p : List UInt8} (hn : n ≤ 1000000) (hp : p.length ≤ 40000) (rest : List UInt8) : rtext (packed n p ++ rest) = p := by
  have hs := seal_small hn hp
  have e1 : (packed n p ++ rest).length / 16 = many (bytes n p) + rest.length / 16 := by rw [List.length_append, packed_len]; omega
  obtain ⟨t, ht⟩ := rinner_more (packed n p ++ rest) (many (bytes n p)) (rest.length / 16)
  unfold rtext
  rw [e1, ht]
  unfold packed
  rw [rinner_pack _ _ _ _ (Nat.le_refl _), List.take_of_length_le (by rw [pad_len]; exact Nat.le_refl _)]
  unfold pad
  rw [bytes_eq, List.append_assoc, List.append_assoc]
  unfold rtextW
  rw [takeT_one _ _ (by omega)]
  have h4 := seal_len (body n p)
  have e2 : (Gw.Sums.seal_ (body n p)).take ((Gw.Sums.seal_ (body n p)).length - 4) = body n p := by rw [h4, Nat.add_sub_cancel]; unfold Gw.Sums.seal_; rw [List.take_left]
  simp only
  rw [if_neg (by omega), e2]
  unfold rtextN body
  rw [List.append_assoc, take_one _ (by omega)]
  simp only
  have := takeT_one p [] (by omega)
  rw [List.append_nil] at this
  rw [List.drop_left, this]
/-- The document takes what is taken. -/
theorem rtake_eq (s : List UInt8) (lsn : Int) : takeB s lsn (rtext s) = take s lsn := by
  rcases ht : take s lsn with _ | ⟨p, k⟩
  · unfold takeB
    by_cases h1 : may lsn (rtext s) = true
    · rw [if_pos h1]
      by_cases h2 : isPre (packed lsn.toNat (rtext s)) s = true
      · obtain ⟨r, hr⟩ := isPre_ex h2
        have := take_iff.2 ⟨h1, rfl, r, hr⟩
        rw [ht] at this
        cases this
      · rw [if_neg h2]
    · rw [if_neg h1]
  · obtain ⟨h1, rfl, r, rfl⟩ := take_iff.1 ht
    obtain ⟨h2, h3, h4⟩ := may_iff.1 h1
    rw [rtext_pack (by omega) h4]
    unfold takeB
    rw [if_pos h1, isPre_append, if_pos rfl, packed_len]
    congr 2
    omega
end Gw.Rec
