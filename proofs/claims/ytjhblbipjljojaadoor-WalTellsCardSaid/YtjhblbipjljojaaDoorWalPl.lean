/- What the package wal computes, in plain Lean: no program in sight. -/
import Derived.Test.YtjhblbipjljojaaDoorRecPl
import Derived.Test.YtjhblbipjljojaaDoorDiskPl
namespace Gw.Wal
open Gw.Disk (Disk)

def ba (l : List UInt8) : ByteArray := ⟨l.toArray⟩
theorem ba_list (l : List UInt8) : (ba l).data.toList = l := rfl
theorem ba_size (l : List UInt8) : (ba l).size = l.length := rfl
/-- A log: its disk, and what it has. -/
structure Wal where
  disk : Disk
  seq : Nat
  base : Nat
  next : Nat
  end_ : Nat
  spilled : Nat
  kept : Nat
  waits : List (List UInt8)
  dirty : Bool
  marked : Nat
  markNext : Nat
  markMany : Nat
def nowal : Wal := ⟨⟨0, ⟨#[]⟩, []⟩, 0, 0, 0, 0, 0, 0, [], false, 0, 0, 0⟩
def slotSz (d : Disk) : Nat := d.size.toNat / 4
def slotOf (d : Disk) (seq : Nat) : Nat := if seq % 2 = 1 then slotSz d else 0
def start (d : Disk) : Nat := 2 * slotSz d
def zeros (n : Nat) : List UInt8 := List.replicate (n * 16) 0
def markText (base : Nat) (st : List UInt8) : List UInt8 := Gw.Vlq.text (Gw.Vlq.one base) st
def markOf (t : List UInt8) : Option (Nat × List UInt8) := match Gw.Vlq.take t with
  | none => none
  | some (b, u) => match Gw.Rec.takeT (t.drop u) with
    | none => none
    | some (st, rest) => if rest = [] ∧ 1 ≤ b ∧ b ≤ 1000001 then some (b, st) else none
def takeMark (s : List UInt8) (seq : Nat) : Option (Nat × List UInt8) := match Gw.Rec.take s (seq : Int) with
  | none => none
  | some (t, _) => markOf t
/-- The seq, base and state of a slot's sectors. -/
def slotIn (s : List UInt8) (odd : Nat) : Option (Nat × Nat × List UInt8) := match s with
  | [] => none
  | c :: _ => if 2 ≤ c.toNat ∧ c.toNat ≤ 201 ∧ (c.toNat - 1) % 2 = odd then (match takeMark s (c.toNat - 1) with | none => none | some (b, st) => some (c.toNat - 1, b, st)) else none
def better (x y : Option (Nat × Nat × List UInt8)) : Option (Nat × Nat × List UInt8) := match x, y with
  | none, y => y
  | some x, none => some x
  | some x, some y => if x.1 < y.1 then some y else some x
def best (d : Disk) : Option (Nat × Nat × List UInt8) := better (slotIn (Gw.Disk.read d 0 (slotSz d)) 0) (slotIn (Gw.Disk.read d (slotSz d) (slotSz d)) 1)
def markSecs (seq base : Nat) (st : List UInt8) : List UInt8 := Gw.Rec.packed seq (markText base st)
def new (size : Int) : Wal × Nat :=
  if slotSz (Gw.Disk.new size) < (markSecs 1 1 []).length / 16 then (nowal, 120)
  else (⟨Gw.Disk.flush (Gw.Disk.write (Gw.Disk.new size) (slotOf (Gw.Disk.new size) 1) (ba (markSecs 1 1 []))), 1, 1, 1, start (Gw.Disk.new size), 0, 0, [], false, 0, 0, 0⟩, 0)
def settle (w : Wal) : Wal := if w.dirty = true then { w with disk := Gw.Disk.flush w.disk, dirty := false } else w
def append (w : Wal) (p : List UInt8) : Wal × Nat × Nat :=
  if 40000 < p.length ∨ 1000000 < w.next then (w, 0, 130) else ({ w with waits := w.waits ++ [p], next := w.next + 1 }, w.next, 0)
def spillText (w : Wal) : List UInt8 := Gw.Rec.packs w.waits ((w.spilled + 1 : Nat) : Int)
def spill (w : Wal) : Wal × Nat :=
  if w.marked ≠ 0 then (w, 140)
  else if w.disk.size - (w.end_ : Int) < ((spillText w).length / 16 : Nat) then (w, 120)
  else if w.waits = [] then (w, 0)
  else ({ settle w with disk := Gw.Disk.write (settle w).disk w.end_ (ba (spillText w)), end_ := w.end_ + (spillText w).length / 16, spilled := w.next - 1, waits := [] }, 0)
def sync (w : Wal) : Wal :=
  if w.marked = 0 then { w with disk := Gw.Disk.flush w.disk, dirty := false, kept := w.spilled }
  else { w with disk := Gw.Disk.flush w.disk, dirty := false, marked := 2, kept := max w.spilled (w.markNext - 1) }
def mark (w : Wal) (st : List UInt8) : Wal × Nat :=
  if w.marked ≠ 0 then (w, 140)
  else if 200 ≤ w.seq then (w, 193)
  else if slotSz w.disk < (markSecs (w.seq + 1) w.next st).length / 16 then (w, 120)
  else ({ settle w with disk := Gw.Disk.write (settle w).disk (slotOf w.disk (w.seq + 1)) (ba (markSecs (w.seq + 1) w.next st)), marked := 1, markNext := w.next, markMany := w.waits.length }, 0)
def wipe (w : Wal) : Wal × Nat :=
  if w.marked ≠ 2 then (w, 140)
  else ({ w with seq := w.seq + 1, base := w.markNext, end_ := start w.disk, spilled := max w.spilled (w.markNext - 1), waits := w.waits.drop w.markMany, disk := Gw.Disk.write w.disk (start w.disk) (ba (zeros (w.disk.size.toNat - start w.disk))), dirty := true, marked := 0, markNext := 0, markMany := 0 }, 0)
/-- What an opening tells: a log, a state, records, and an error. -/
structure Opened where
  wal : Wal
  state : List UInt8
  recs : List (List UInt8)
  err : Nat
def region (d : Disk) : List UInt8 := Gw.Disk.read d (start d) (d.size - start d)
def openAt (d : Disk) (seq base : Nat) (st : List UInt8) : Opened :=
  ⟨⟨Gw.Disk.write (Gw.Disk.write d ((start d + (Gw.Rec.all (region d) base).2 : Nat) : Int) (ba (zeros (d.size.toNat - (start d + (Gw.Rec.all (region d) base).2))))) (slotOf d (seq + 1)) (ba (zeros (slotSz d))),
    seq, base, base + (Gw.Rec.all (region d) base).1.length, start d + (Gw.Rec.all (region d) base).2, base + (Gw.Rec.all (region d) base).1.length - 1, base + (Gw.Rec.all (region d) base).1.length - 1, [], true, 0, 0, 0⟩, st, (Gw.Rec.all (region d) base).1, 0⟩
def open_ (d : Disk) : Opened := if Gw.Disk.check d = false then ⟨nowal, [], [], 140⟩ else match best d with
  | none => ⟨nowal, [], [], 140⟩
  | some (seq, base, st) => openAt d seq base st
/-- A step. -/
def step (w : Wal) (k : Int) (p : List UInt8) : Wal × Nat :=
  if k = 1 then ((append w p).1, (append w p).2.2)
  else if k = 2 then spill w
  else if k = 3 then (sync w, 0)
  else if k = 4 then mark w p
  else if k = 5 then wipe w
  else if k = 6 then ((open_ (Gw.Disk.crash w.disk (ba p))).wal, (open_ (Gw.Disk.crash w.disk (ba p))).err)
  else if k = 7 then ((open_ (Gw.Disk.crash (open_ (Gw.Disk.crash w.disk (ba p))).wal.disk (ba p))).wal, (open_ (Gw.Disk.crash (open_ (Gw.Disk.crash w.disk (ba p))).wal.disk (ba p))).err)
  else (w, 0)
end Gw.Wal


namespace Gw.Wal
open Gw.Disk (Disk)

/-- Half a sector of bytes. -/
def hf (l : List UInt8) (j : Nat) : List UInt8 := (l.drop (8 * j)).take 8
theorem hf_get (l : List UInt8) (j i : Nat) : (hf l j)[i]? = if i < 8 then l[8 * j + i]? else none := by
  unfold hf
  rw [List.getElem?_take]
  split
  · rw [List.getElem?_drop]
  · rfl
theorem hf_ext {l m : List UInt8} {n : Nat} (hl : l.length = 8 * n) (hm : m.length = 8 * n) (h : ∀ j, j < n → hf l j = hf m j) : l = m := by
  apply List.ext_getElem?
  intro i
  by_cases hi : i < 8 * n
  · have h1 := congrArg (fun x => x[i % 8]?) (h (i / 8) (by omega))
    simp only [hf_get] at h1
    rw [if_pos (by omega), if_pos (by omega), show 8 * (i / 8) + i % 8 = i by omega] at h1
    exact h1
  · rw [List.getElem?_eq_none (by omega), List.getElem?_eq_none (by omega)]
theorem hf_drop (l : List UInt8) (a j : Nat) : hf (l.drop (8 * a)) j = hf l (a + j) := by
  unfold hf; rw [List.drop_drop, show 8 * a + 8 * j = 8 * (a + j) by omega]
theorem hf_take (l : List UInt8) (n j : Nat) (h : j < n) : hf (l.take (8 * n)) j = hf l j := by
  apply List.ext_getElem?
  intro i
  rw [hf_get, hf_get]
  split
  · rw [List.getElem?_take, if_pos (by omega)]
  · rfl
theorem hf_append_left (l m : List UInt8) (j : Nat) (h : 8 * j + 8 ≤ l.length) : hf (l ++ m) j = hf l j := by
  apply List.ext_getElem?
  intro i
  rw [hf_get, hf_get]
  split
  · rw [List.getElem?_append_left (by omega)]
  · rfl
theorem hf_append_right (l m : List UInt8) (n j : Nat) (h : l.length = 8 * n) : hf (l ++ m) (n + j) = hf m j := by
  unfold hf
  rw [show 8 * (n + j) = l.length + 8 * j by omega, List.drop_append]
  rw [List.drop_of_length_le (by omega), List.nil_append, show l.length + 8 * j - l.length = 8 * j by omega]
theorem hf_zero (n j : Nat) (h : 8 * j + 8 ≤ n) : hf (List.replicate n 0) j = List.replicate 8 0 := by
  unfold hf
  rw [List.drop_replicate, List.take_replicate]
  congr 1
  omega
theorem hf_len (l : List UInt8) (j : Nat) (h : 8 * j + 8 ≤ l.length) : (hf l j).length = 8 := by unfold hf; rw [List.length_take, List.length_drop]; omega
theorem pre_iff {s x : List UInt8} {m : Nat} (hx : x.length = 8 * m) (hs : 8 * m ≤ s.length) : (∃ r, s = x ++ r) ↔ ∀ j, j < m → hf s j = hf x j := by
  constructor
  · rintro ⟨r, rfl⟩ j hj
    exact hf_append_left _ _ _ (by omega)
  · intro h
    refine ⟨s.drop (8 * m), ?_⟩
    have : s.take (8 * m) = x := hf_ext (n := m) (by rw [List.length_take]; omega) hx (fun j hj => by rw [hf_take _ _ _ hj]; exact h j hj)
    conv => lhs; rw [← List.take_append_drop (8 * m) s, this]
/-- A record lies at the beginning. -/
theorem take_half {s : List UInt8} {n : Int} {p : List UInt8} {k : Nat} : Gw.Rec.take s n = some (p, k) ↔ Gw.Rec.may n p = true ∧ k = Gw.Rec.many (Gw.Rec.bytes n.toNat p) ∧ 16 * k ≤ s.length ∧ ∀ j, j < 2 * k → hf s j = hf (Gw.Rec.packed n.toNat p) j := by
  have hl := Gw.Rec.packed_len n.toNat p
  rw [Gw.Rec.take_iff]
  constructor
  · rintro ⟨h1, rfl, r, rfl⟩
    exact ⟨h1, rfl, by rw [List.length_append]; omega, (pre_iff (by omega) (by rw [List.length_append]; omega)).1 ⟨r, rfl⟩⟩
  · rintro ⟨h1, rfl, h2, h3⟩
    exact ⟨h1, rfl, (pre_iff (m := 2 * Gw.Rec.many (Gw.Rec.bytes n.toNat p)) (by omega) (by omega)).2 h3⟩
/-- The mark of a half. -/
def mb (j : Nat) (x : List UInt8) : Nat := if j % 2 = 0 then (x.getD 0 0).toNat else (x.getD 7 0).toNat
theorem mb_zero (j : Nat) : mb j (List.replicate 8 0) = 0 := by unfold mb; split <;> rfl
theorem mb_packed (n : Nat) (p : List UInt8) (j : Nat) (h : j < 2 * Gw.Rec.many (Gw.Rec.bytes n p)) : mb j (hf (Gw.Rec.packed n p) j) = Gw.Rec.mark n := by
  have e : Gw.Rec.packed n p ++ [] = Gw.Rec.packed n p := List.append_nil _
  unfold mb
  split
  · have := Gw.Rec.first_byte n p [] (j / 2) (by omega)
    rw [e] at this
    rw [List.getD_eq_getElem?_getD, hf_get, if_pos (by omega), show 8 * j + 0 = 16 * (j / 2) by omega, ← List.getD_eq_getElem?_getD]
    exact this
  · have := Gw.Rec.last_mark n p [] (j / 2) (by omega)
    rw [e] at this
    rw [List.getD_eq_getElem?_getD, hf_get, if_pos (by omega), show 8 * j + 7 = 16 * (j / 2) + 15 by omega, ← List.getD_eq_getElem?_getD]
    exact this
/-- What is told of some sectors is told of others whose marks are theirs. -/
theorem take_sub {s s' : List UInt8} {n : Int} {p : List UInt8} {k : Nat} (hl : s'.length ≤ s.length) (h : Gw.Rec.take s' n = some (p, k)) (hs : ∀ j, j < 2 * k → mb j (hf s' j) = Gw.Rec.mark n.toNat → hf s' j = hf s j) : Gw.Rec.take s n = some (p, k) := by
  obtain ⟨h1, h2, h3, h4⟩ := take_half.1 h
  refine take_half.2 ⟨h1, h2, by omega, fun j hj => ?_⟩
  rw [← hs j hj (by rw [h4 j hj]; exact mb_packed _ _ _ (by omega)), h4 j hj]
theorem takeMark_sub {s s' : List UInt8} {n : Nat} {x : Nat × List UInt8} (hl : s'.length ≤ s.length) (h : takeMark s' n = some x) (hs : ∀ j, j < s'.length / 8 → mb j (hf s' j) = Gw.Rec.mark n → hf s' j = hf s j) : takeMark s n = some x := by
  unfold takeMark at h ⊢
  rcases ht : Gw.Rec.take s' (n : Int) with _ | ⟨p, k⟩
  · rw [ht] at h; cases h
  · have hb := (take_half.1 ht).2.2.1
    have := take_sub hl ht (fun j hj hm => hs j (by omega) (by simpa using hm))
    rw [this]
    rw [ht] at h
    exact h

/-- What a half of a disk may hold behind a crash. -/
def cand (d : Disk) (j : Nat) (x : List UInt8) : Prop := x = hf d.firm.data.toList j ∨ ∃ p ∈ d.loose, p.1 = ((j / 2 : Nat) : Int) ∧ x = hf p.2.data.toList (j % 2)
/-- What is seen of a disk. -/
def cur (d : Disk) : List UInt8 := Gw.Disk.seen d 0 d.size.toNat

theorem cur_len {d : Disk} (hc : Gw.Disk.check d = true) : (cur d).length = d.size.toNat * 16 := Gw.Disk.seen_length d hc 0 _ (by have := (Gw.Disk.check_spec hc).1; omega)
theorem flat_hf (n : Nat) (f : Nat → List UInt8) (hf' : ∀ i, i < n → (f i).length = 16) (j : Nat) (h : j < 2 * n) : hf (Gw.Disk.flat n f) j = hf (f (j / 2)) (j % 2) := by
  apply List.ext_getElem?
  intro i
  rw [hf_get, hf_get]
  split
  · rw [Gw.Disk.flat_get n f hf', if_pos (by omega), show (8 * j + i) / 16 = j / 2 by omega, show (8 * j + i) % 16 = 8 * (j % 2) + i by omega]
  · rfl
theorem cur_sec {d : Disk} (hc : Gw.Disk.check d = true) (j : Nat) (h : j < 2 * d.size.toNat) : hf (cur d) j = hf (Gw.Disk.sec d (j / 2)) (j % 2) := by
  have h0 := (Gw.Disk.check_spec hc).1
  unfold cur
  rw [Gw.Disk.seen_flat hc 0 _ (by omega), flat_hf _ _ (fun i hi => Gw.Disk.sec_length hc _ (by omega)) _ h, Nat.zero_add]
theorem read_cur {d : Disk} (hc : Gw.Disk.check d = true) (a n : Nat) (h : ((a + n : Nat) : Int) ≤ d.size) : Gw.Disk.read d (a : Int) (n : Int) = ((cur d).drop (16 * a)).take (16 * n) := by
  have h0 := (Gw.Disk.check_spec hc).1
  rw [(Gw.Disk.read_seen hc a n h).1]
  unfold cur
  rw [Gw.Disk.seen_flat hc 0 _ (by omega), Gw.Disk.seen_flat hc a n h, Nat.mul_comm 16 a, Nat.mul_comm 16 n, Gw.Disk.flat_cut _ _ _ _ (fun i hi => Gw.Disk.sec_length hc _ (by omega)) (by omega)]
  simp
theorem read_hf {d : Disk} (hc : Gw.Disk.check d = true) (a n : Nat) (h : ((a + n : Nat) : Int) ≤ d.size) (j : Nat) (hj : j < 2 * n) : hf (Gw.Disk.read d (a : Int) (n : Int)) j = hf (cur d) (2 * a + j) := by
  rw [read_cur hc a n h, show 16 * n = 8 * (2 * n) by omega, hf_take _ _ _ hj, show 16 * a = 8 * (2 * a) by omega, hf_drop]
theorem read_len {d : Disk} (hc : Gw.Disk.check d = true) (a n : Nat) (h : ((a + n : Nat) : Int) ≤ d.size) : (Gw.Disk.read d (a : Int) (n : Int)).length = 16 * n := by
  have h0 := (Gw.Disk.check_spec hc).1
  rw [read_cur hc a n h, List.length_take, List.length_drop, cur_len hc]; omega
theorem foldl_put1 (i : Int) : ∀ (ps : List (Int × ByteArray)) (l : List UInt8), ps.foldl (Gw.Disk.put1 i) l = l ∨ ∃ p ∈ ps, p.1 = i ∧ ps.foldl (Gw.Disk.put1 i) l = p.2.data.toList
  | [], l => .inl rfl
  | p :: ps, l => by
    rw [List.foldl_cons]
    rcases foldl_put1 i ps (Gw.Disk.put1 i l p) with h | ⟨q, hq, h1, h2⟩
    · rw [h]
      unfold Gw.Disk.put1
      split
      · rename_i e; exact .inr ⟨p, by simp, e, rfl⟩
      · exact .inl rfl
    · exact .inr ⟨q, by simp [hq], h1, h2⟩
theorem firm_hf {d : Disk} (j : Nat) : hf ((d.firm.data.toList.drop (j / 2 * 16)).take 16) (j % 2) = hf d.firm.data.toList j := by
  apply List.ext_getElem?
  intro i
  rw [hf_get, hf_get]
  split
  · rw [List.getElem?_take, if_pos (by omega), List.getElem?_drop, show j / 2 * 16 + (8 * (j % 2) + i) = 8 * j + i by omega]
  · rfl
/-- What is seen may be there. -/
theorem cand_cur {d : Disk} (hc : Gw.Disk.check d = true) (j : Nat) (h : j < 2 * d.size.toNat) : cand d j (hf (cur d) j) := by
  rw [cur_sec hc j h]
  unfold Gw.Disk.sec
  rcases foldl_put1 ((j / 2 : Nat) : Int) d.loose ((d.firm.data.toList.drop (j / 2 * 16)).take 16) with e | ⟨p, h1, h2, e⟩
  · rw [e, firm_hf]; exact .inl rfl
  · rw [e]; exact .inr ⟨p, h1, h2, rfl⟩
/-- A disk that has nothing loose. -/
theorem cur_firm {d : Disk} (hc : Gw.Disk.check d = true) (hl : d.loose = []) : cur d = d.firm.data.toList := by
  have h0 := Gw.Disk.firm_length hc
  unfold cur Gw.Disk.seen
  rw [hl]
  simp only [List.foldl_nil, Nat.zero_mul, List.drop_zero]
  rw [List.take_of_length_le (by omega)]
theorem cand_firm {d : Disk} (hl : d.loose = []) {j : Nat} {x : List UInt8} (h : cand d j x) : x = hf d.firm.data.toList j := by
  rcases h with h | ⟨p, hp, _⟩
  · exact h
  · rw [hl] at hp; cases hp
theorem check_firm {d : Disk} (hc : Gw.Disk.check d = true) (l : List UInt8) (hl : l.length = d.firm.size) : Gw.Disk.check ⟨d.size, ⟨l.toArray⟩, []⟩ = true := by
  obtain ⟨a, b, c, _⟩ := Gw.Disk.check_spec hc
  have e : (⟨l.toArray⟩ : ByteArray).size = l.length := rfl
  unfold Gw.Disk.check
  simp only [List.all_nil, Bool.and_true, Bool.and_eq_true, decide_eq_true_eq, e, hl]
  exact ⟨a, b, c⟩
/-- Behind a crash. -/
theorem crash_spec {d : Disk} (hc : Gw.Disk.check d = true) (p : ByteArray) : ∃ l : List UInt8, Gw.Disk.crash d p = ⟨d.size, ⟨l.toArray⟩, []⟩ ∧ l.length = d.firm.size ∧ ∀ j, j < 2 * d.size.toNat → cand d j (hf l j) := by
  have hs := Gw.Disk.check_spec hc
  have hfl := Gw.Disk.firm_length hc
  refine ⟨_, by unfold Gw.Disk.crash; rw [if_pos hc], ?_, fun j hj => ?_⟩
  · rw [Gw.Disk.crashed_length _ _ _ _ (fun i hi => ?_)]
    · rfl
    have hg : d.loose.getD i (0, ByteArray.empty) = d.loose[i] := by rw [List.getD_eq_getElem?_getD, List.getElem?_eq_getElem (by omega)]; rfl
    have h2 := hs.2.2.2 _ (List.getElem_mem (show i < d.loose.length by omega))
    rw [hg]
    omega
  · have h1 := Gw.Disk.crash_halves hc p d.loose.length (Nat.le_refl _) (j / 2) (by omega)
    have key : ∀ h, h = 8 * (j % 2) → Gw.Disk.halfOk d.loose d.firm.data.toList (Gw.Disk.crashed p d.loose d.loose.length d.firm.data.toList) d.loose.length (j / 2) h → cand d j (hf (Gw.Disk.crashed p d.loose d.loose.length d.firm.data.toList) j) := by
      rintro h rfl hok
      have e : 16 * (j / 2) + 8 * (j % 2) = 8 * j := by omega
      unfold Gw.Disk.halfOk at hok
      rw [e] at hok
      rcases hok with h2 | ⟨i, hi, q, hq, hqa, h2⟩
      · exact .inl h2
      · exact .inr ⟨q, List.mem_of_getElem? hq, hqa, h2⟩
    rcases Nat.mod_two_eq_zero_or_one j with e | e
    · exact key 0 (by omega) h1.1
    · exact key 8 (by omega) h1.2
theorem flush_spec {d : Disk} (hc : Gw.Disk.check d = true) : ∃ l : List UInt8, Gw.Disk.flush d = ⟨d.size, ⟨l.toArray⟩, []⟩ ∧ l.length = d.firm.size ∧ l = cur d := by
  have hs := Gw.Disk.check_spec hc
  refine ⟨cur d, by unfold Gw.Disk.flush; rw [if_pos hc]; rfl, ?_, rfl⟩
  rw [cur_len hc]; omega

theorem pad_full {s : ByteArray} {k : Nat} (h : s.size = 16 * k) : Gw.Disk.manyOf s = k ∧ Gw.Disk.pad s = s.data.toList := by
  have e : s.data.toList.length = s.size := rfl
  have hm : Gw.Disk.manyOf s = k := by unfold Gw.Disk.manyOf; omega
  refine ⟨hm, ?_⟩
  unfold Gw.Disk.pad
  rw [hm, show k * 16 - s.data.toList.length = 0 by omega]
  simp
/-- Behind a write of whole sectors. -/
theorem write_spec {d : Disk} (hc : Gw.Disk.check d = true) (a k : Nat) (s : List UInt8) (hk : s.length = 16 * k) (h : ((a + k : Nat) : Int) ≤ d.size) :
    Gw.Disk.writeErr d (a : Int) (ba s) = 0 ∧ (Gw.Disk.write d (a : Int) (ba s)).size = d.size ∧ Gw.Disk.check (Gw.Disk.write d (a : Int) (ba s)) = true ∧ (Gw.Disk.write d (a : Int) (ba s)).loose.length = d.loose.length + k ∧
      (∀ j x, cand (Gw.Disk.write d (a : Int) (ba s)) j x → cand d j x ∨ (2 * a ≤ j ∧ j < 2 * (a + k) ∧ x = hf s (j - 2 * a))) ∧
      (∀ j, j < 2 * d.size.toNat → hf (cur (Gw.Disk.write d (a : Int) (ba s))) j = if 2 * a ≤ j ∧ j < 2 * (a + k) then hf s (j - 2 * a) else hf (cur d) j) := by
  obtain ⟨hm, hp⟩ := pad_full (s := ba s) (k := k) (by rw [ba_size]; exact hk)
  have hp : Gw.Disk.pad (ba s) = s := hp
  have he : Gw.Disk.writeErr d (a : Int) (ba s) = 0 := by rw [Gw.Disk.writeErr_good d hc, hm, if_neg (by omega)]
  have hw := Gw.Disk.write_done he
  have h' : ((a + Gw.Disk.manyOf (ba s) : Nat) : Int) ≤ d.size := by rw [hm]; exact h
  have hcw := Gw.Disk.check_wrote hc a (ba s) h'
  rw [hw]
  refine ⟨he, rfl, hcw, by simp only [List.length_append, Gw.Disk.wrote_length, hm], ?_, ?_⟩
  · rintro j x (hx | ⟨p, hpm, h1, h2⟩)
    · exact .inl (.inl hx)
    · rcases List.mem_append.1 hpm with hpm | hpm
      · exact .inl (.inr ⟨p, hpm, h1, h2⟩)
      · right
        unfold Gw.Disk.wrote at hpm
        obtain ⟨i, hi, rfl⟩ := List.mem_map.1 hpm
        have hi : i < Gw.Disk.manyOf (ba s) := by simpa using hi
        simp only at h1 h2
        refine ⟨by omega, by omega, ?_⟩
        rw [h2, hp]
        show hf ((s.drop (i * 16)).take 16) (j % 2) = _
        rw [show 16 = 8 * 2 by omega, hf_take _ _ _ (by omega), show i * (8 * 2) = 8 * (2 * i) by omega, hf_drop]
        congr 1; omega
  · intro j hj
    have h0 := (Gw.Disk.check_spec hc).1
    rw [cur_sec hcw j hj]
    have hsec := Gw.Disk.sec_wrote d.firm d.size d.loose a (ba s) (Gw.Disk.manyOf (ba s)) (j / 2)
    rw [hsec, hm, hp]
    split
    · rename_i hin
      rw [if_pos (by omega)]
      rw [show 16 = 8 * 2 by omega, hf_take _ _ _ (by omega), show (j / 2 - a) * (8 * 2) = 8 * (2 * (j / 2 - a)) by omega, hf_drop]
      congr 1; omega
    · rename_i hin
      rw [if_neg (by omega), cur_sec hc j hj]
end Gw.Wal


namespace Gw.Wal
open Gw.Disk (Disk)

abbrev Z : List UInt8 := List.replicate 8 0
def manyM (q b : Nat) (st : List UInt8) : Nat := Gw.Rec.many (Gw.Rec.bytes q (markText b st))
def secsOf : List (List UInt8) → Nat → Nat
  | [], _ => 0
  | p :: l, n => Gw.Rec.many (Gw.Rec.bytes n p) + secsOf l (n + 1)
theorem packs_len : ∀ (l : List (List UInt8)) (n : Nat), (Gw.Rec.packs l (n : Int)).length = 16 * secsOf l n
  | [], _ => rfl
  | p :: l, n => by
    have h := packs_len l (n + 1)
    rw [Gw.Rec.packs, List.length_append, Gw.Rec.packed_len, secsOf, show (n : Int) + 1 = ((n + 1 : Nat) : Int) by omega, h, Int.toNat_natCast]; omega
theorem secsOf_append : ∀ (l k : List (List UInt8)) (n : Nat), secsOf (l ++ k) n = secsOf l n + secsOf k (n + l.length)
  | [], k, n => by simp [secsOf]
  | p :: l, k, n => by rw [List.cons_append, secsOf, secsOf, secsOf_append l k (n + 1), List.length_cons, show n + 1 + l.length = n + (l.length + 1) by omega]; omega
theorem secsOf_take (l : List (List UInt8)) (n k : Nat) : secsOf (l.take k) n ≤ secsOf l n := by
  have := secsOf_append (l.take k) (l.drop k) n
  rw [List.take_append_drop] at this
  omega
theorem packs_hf_left (l k : List (List UInt8)) (n j : Nat) (h : j < 2 * secsOf l n) : hf (Gw.Rec.packs (l ++ k) (n : Int)) j = hf (Gw.Rec.packs l (n : Int)) j := by
  rw [Gw.Rec.packs_append]
  exact hf_append_left _ _ _ (by rw [packs_len]; omega)
theorem packs_hf_right (l k : List (List UInt8)) (n j : Nat) : hf (Gw.Rec.packs (l ++ k) (n : Int)) (2 * secsOf l n + j) = hf (Gw.Rec.packs k ((n + l.length : Nat) : Int)) j := by
  rw [Gw.Rec.packs_append, show (n : Int) + (l.length : Int) = ((n + l.length : Nat) : Int) by omega]
  exact hf_append_right _ _ _ _ (by rw [packs_len]; omega)
theorem mark_pos (n : Nat) : 0 < Gw.Rec.mark n := by unfold Gw.Rec.mark; omega
theorem mark_seq {q : Nat} (h : q ≤ 201) : Gw.Rec.mark q = q + 1 := by unfold Gw.Rec.mark; omega
theorem mb_Z {j : Nat} {x : List UInt8} (h : x = Z) : mb j x = 0 := by rw [h]; exact mb_zero j
/-- Where all is 0 there is no record. -/
theorem take_zero {s : List UInt8} {n : Int} (h : ∀ j, 8 * j + 8 ≤ s.length → hf s j = Z) : Gw.Rec.take s n = none := by
  rcases ht : Gw.Rec.take s n with _ | ⟨p, k⟩
  · rfl
  · obtain ⟨h1, h2, h3, h4⟩ := take_half.1 ht
    have hk := Gw.Rec.many_pos n.toNat p
    have e := h4 0 (by omega)
    rw [h 0 (by omega)] at e
    have := mb_packed n.toNat p 0 (by omega)
    rw [← e, mb_zero] at this
    have := mark_pos n.toNat
    omega
/-- The records behind a crash: a beginning of those that were written, with all that stood fast. -/
theorem alls_prefix : ∀ (R : List (List UInt8)) (n K : Nat) (s : List UInt8), 1 ≤ n → n + R.length ≤ 1000001 → (∀ p ∈ R, p.length ≤ 40000) → 16 * secsOf R n ≤ s.length →
    (∀ j, j < 2 * secsOf R n → hf s j = hf (Gw.Rec.packs R (n : Int)) j ∨ (hf s j = Z ∧ 2 * secsOf (R.take K) n ≤ j)) →
    Gw.Rec.take (s.drop (16 * secsOf R n)) ((n + R.length : Nat) : Int) = none →
    ∃ m, m ≤ R.length ∧ min K R.length ≤ m ∧ Gw.Rec.Alls s (n : Int) (R.take m) (secsOf (R.take m) n)
  | [], n, K, s, _, _, _, _, _, h => ⟨0, Nat.le_refl _, by simp, by simpa [secsOf] using Gw.Rec.Alls.nil (by simpa [secsOf] using h)⟩
  | p :: R, n, K, s, h1, h2, h3, h4, h5, h6 => by
    rw [List.length_cons] at h2 h6
    have hs : secsOf (p :: R) n = Gw.Rec.many (Gw.Rec.bytes n p) + secsOf R (n + 1) := rfl
    have hm : Gw.Rec.may (n : Int) p = true := Gw.Rec.may_iff.2 ⟨by omega, by omega, h3 p (List.mem_cons_self ..)⟩
    have hpl := Gw.Rec.packed_len n p
    have hpk : Gw.Rec.packs (p :: R) (n : Int) = Gw.Rec.packed n p ++ Gw.Rec.packs R ((n + 1 : Nat) : Int) := by rw [Gw.Rec.packs, Int.toNat_natCast]; rfl
    rw [hs] at h4 h6
    by_cases hall : ∀ j, j < 2 * Gw.Rec.many (Gw.Rec.bytes n p) → hf s j = hf (Gw.Rec.packed n p) j
    · have ht : Gw.Rec.take s (n : Int) = some (p, Gw.Rec.many (Gw.Rec.bytes n p)) := take_half.2 ⟨hm, rfl, by omega, by simpa using hall⟩
      obtain ⟨m, hm1, hm2, hm3⟩ := alls_prefix R (n + 1) (K - 1) (s.drop (16 * Gw.Rec.many (Gw.Rec.bytes n p))) (by omega) (by omega) (fun q hq => h3 q (List.mem_cons_of_mem _ hq)) (by rw [List.length_drop]; omega) (fun j hj => by
        have h7 := h5 (2 * Gw.Rec.many (Gw.Rec.bytes n p) + j) (by omega)
        rw [hpk, hf_append_right _ _ _ _ (by omega)] at h7
        rw [show 16 * Gw.Rec.many (Gw.Rec.bytes n p) = 8 * (2 * Gw.Rec.many (Gw.Rec.bytes n p)) by omega, hf_drop]
        rcases h7 with h7 | ⟨h7, h8⟩
        · exact .inl h7
        · refine .inr ⟨h7, ?_⟩
          cases K with
          | zero => simp [secsOf]
          | succ K => rw [List.take_succ_cons, secsOf] at h8; simp only [Nat.add_sub_cancel]; omega) (by
        rw [List.drop_drop, show 16 * Gw.Rec.many (Gw.Rec.bytes n p) + 16 * secsOf R (n + 1) = 16 * (Gw.Rec.many (Gw.Rec.bytes n p) + secsOf R (n + 1)) by omega, show n + 1 + R.length = n + (R.length + 1) by omega]
        exact h6)
      refine ⟨m + 1, by rw [List.length_cons]; omega, by rw [List.length_cons]; omega, ?_⟩
      rw [List.take_succ_cons, secsOf]
      exact .cons ht hm3
    · obtain ⟨j0, hj0⟩ := Classical.not_forall.1 hall
      obtain ⟨hj1, hj2⟩ := Classical.not_imp.1 hj0
      have h50 := h5 j0 (by omega)
      rw [hpk, hf_append_left _ _ _ (by omega)] at h50
      rcases h50 with h50 | ⟨h50, h51⟩
      · exact absurd h50 hj2
      cases K with
      | succ K => rw [List.take_succ_cons, secsOf] at h51; omega
      | zero =>
        refine ⟨0, Nat.zero_le _, by simp, ?_⟩
        rw [List.take_zero, secsOf]
        refine .nil ?_
        rcases ht : Gw.Rec.take s (n : Int) with _ | ⟨q, k⟩
        · rfl
        · exfalso
          have hb := (take_half.1 ht).2.2.1
          have h7 : Gw.Rec.take (Gw.Rec.packed n p ++ s.drop (16 * Gw.Rec.many (Gw.Rec.bytes n p))) (n : Int) = some (q, k) := take_sub (by rw [List.length_append, List.length_drop]; omega) ht (fun j hj hmk => by
            by_cases hjl : j < 2 * Gw.Rec.many (Gw.Rec.bytes n p)
            · rw [hf_append_left _ _ _ (by omega)]
              rcases h5 j (by omega) with h8 | ⟨h8, _⟩
              · rw [h8, hpk, hf_append_left _ _ _ (by omega)]
              · rw [h8, mb_zero] at hmk
                have := mark_pos (n : Int).toNat
                omega
            · obtain ⟨i, rfl⟩ := Nat.exists_eq_add_of_le (Nat.le_of_not_lt hjl)
              rw [hf_append_right _ _ _ _ (by omega), show 16 * Gw.Rec.many (Gw.Rec.bytes n p) = 8 * (2 * Gw.Rec.many (Gw.Rec.bytes n p)) by omega, hf_drop])
          have h8 := Gw.Rec.take_pack hm (s.drop (16 * Gw.Rec.many (Gw.Rec.bytes n p)))
          rw [Int.toNat_natCast] at h8
          rw [h8] at h7
          simp only [Option.some.injEq, Prod.mk.injEq] at h7
          obtain ⟨rfl, rfl⟩ := h7
          have h9 := (take_half.1 ht).2.2.2 j0 hj1
          rw [Int.toNat_natCast] at h9
          exact hj2 h9
theorem alls_end {s : List UInt8} {n : Int} {l : List (List UInt8)} {m : Nat} (h : Gw.Rec.Alls s n l m) : Gw.Rec.take (s.drop (16 * m)) (n + l.length) = none := by
  induction h with
  | nil e => simpa using e
  | @cons s lsn p k l m e _ ih =>
    rw [List.drop_drop] at ih
    rw [List.length_cons, show 16 * (k + m) = 16 * k + 16 * m by omega, show lsn + ((l.length + 1 : Nat) : Int) = lsn + 1 + (l.length : Int) by omega]
    exact ih
/-- A mark is read as it was written. -/
theorem markOf_text {b : Nat} {st : List UInt8} (h1 : 1 ≤ b) (h2 : b ≤ 1000001) (hs : st.length ≤ 40000) : markOf (markText b st) = some (b, st) := by
  have e1 : markText b st = Gw.Vlq.one b ++ (Gw.Vlq.one st.length ++ (st ++ [])) := by unfold markText Gw.Vlq.text; simp
  unfold markOf
  rw [e1, Gw.Vlq.take_one b (by omega)]
  simp only [List.drop_left]
  rw [Gw.Rec.takeT_one st [] (by omega)]
  simp only
  rw [if_pos ⟨by trivial, h1, h2⟩]
theorem markText_len {b : Nat} {st : List UInt8} (h2 : b ≤ 1000001) (hs : st.length ≤ 200) : (markText b st).length ≤ 300 := by
  have h1 := Gw.Rec.one_le (n := b) (by omega)
  have h2 := Gw.Rec.one_le (n := st.length) (by omega)
  unfold markText Gw.Vlq.text
  simp only [List.length_append]
  omega
theorem may_mark {q b : Nat} {st : List UInt8} (h0 : 1 ≤ q) (h1 : q ≤ 201) (h2 : b ≤ 1000001) (hs : st.length ≤ 200) : Gw.Rec.may (q : Int) (markText b st) = true := by
  have := markText_len h2 hs
  exact Gw.Rec.may_iff.2 ⟨by omega, by omega, by omega⟩
theorem markSecs_len (q b : Nat) (st : List UInt8) : (markSecs q b st).length = 16 * manyM q b st := Gw.Rec.packed_len _ _
theorem takeMark_at {s : List UInt8} {q b : Nat} {st : List UInt8} (h0 : 1 ≤ q) (h1 : q ≤ 201) (hb : 1 ≤ b) (h2 : b ≤ 1000001) (hs : st.length ≤ 200) (hl : 16 * manyM q b st ≤ s.length) (h : ∀ j, j < 2 * manyM q b st → hf s j = hf (markSecs q b st) j) : takeMark s q = some (b, st) := by
  have ht : Gw.Rec.take s (q : Int) = some (markText b st, manyM q b st) := take_half.2 ⟨may_mark h0 h1 h2 hs, rfl, hl, h⟩
  unfold takeMark
  rw [ht]
  exact markOf_text hb h2 (by omega)
/-- A seq whose mark is read: its first byte. -/
theorem takeMark_take {s : List UInt8} {q : Nat} {x : Nat × List UInt8} (h : takeMark s q = some x) : ∃ p k, Gw.Rec.take s (q : Int) = some (p, k) ∧ markOf p = some x := by
  unfold takeMark at h
  rcases ht : Gw.Rec.take s (q : Int) with _ | ⟨p, k⟩
  · rw [ht] at h; cases h
  · rw [ht] at h; exact ⟨p, k, rfl, h⟩
theorem takeMark_mb {s : List UInt8} {q : Nat} {x : Nat × List UInt8} (h : takeMark s q = some x) : 16 ≤ s.length ∧ mb 0 (hf s 0) = Gw.Rec.mark q := by
  obtain ⟨p, k, ht, _⟩ := takeMark_take h
  obtain ⟨h1, h2, h3, h4⟩ := take_half.1 ht
  have hk := Gw.Rec.many_pos (q : Int).toNat p
  refine ⟨by omega, ?_⟩
  rw [h4 0 (by omega)]
  exact mb_packed _ _ _ (by rw [Int.toNat_natCast] at *; omega)
theorem slotIn_iff {s : List UInt8} {odd q b : Nat} {st : List UInt8} : slotIn s odd = some (q, b, st) ↔ 1 ≤ q ∧ q ≤ 200 ∧ q % 2 = odd ∧ takeMark s q = some (b, st) := by
  constructor
  · intro h
    unfold slotIn at h
    match s, h with
    | c :: s, h =>
      simp only at h
      split at h
      · rename_i hc
        rcases ht : takeMark (c :: s) (c.toNat - 1) with _ | ⟨b', st'⟩
        · rw [ht] at h; cases h
        · rw [ht] at h
          simp only [Option.some.injEq, Prod.mk.injEq] at h
          obtain ⟨rfl, rfl, rfl⟩ := h
          exact ⟨by omega, by omega, hc.2.2, ht⟩
      · cases h
  · rintro ⟨h1, h2, h3, h4⟩
    obtain ⟨hl, hm⟩ := takeMark_mb h4
    rw [mark_seq (by omega)] at hm
    match s, hl with
    | c :: s, _ =>
      have hc : c.toNat = q + 1 := hm
      unfold slotIn
      simp only
      rw [show c.toNat - 1 = q by omega, if_pos ⟨by omega, by omega, h3⟩, h4]
end Gw.Wal


namespace Gw.Wal
open Gw.Disk (Disk)

/-- What stands of a log: R are the records that were spilled since its base, st is its state, mst that of a mark that was written. -/
structure Inv (w : Wal) (R : List (List UInt8)) (st mst : List UInt8) : Prop where
  chk : Gw.Disk.check w.disk = true
  small : w.disk.size ≤ 1000
  seq1 : 1 ≤ w.seq
  seq2 : w.seq ≤ 200
  base1 : 1 ≤ w.base
  spl : w.spilled + 1 = w.base + R.length
  nxt : w.next = w.spilled + 1 + w.waits.length
  big : w.next ≤ 1000001
  ends : w.end_ = start w.disk + secsOf R w.base
  room : (w.end_ : Int) ≤ w.disk.size
  recs : ∀ p ∈ R, p.length ≤ 200
  wts : ∀ p ∈ w.waits, p.length ≤ 200
  kept1 : w.base ≤ w.kept + 1
  logc : ∀ j, j < 2 * secsOf R w.base → hf (cur w.disk) (2 * start w.disk + j) = hf (Gw.Rec.packs R (w.base : Int)) j
  logd : ∀ j x, j < 2 * secsOf R w.base → cand w.disk (2 * start w.disk + j) x → x = hf (Gw.Rec.packs R (w.base : Int)) j ∨ (w.dirty = false ∧ x = Z ∧ 2 * secsOf (R.take (w.kept + 1 - w.base)) w.base ≤ j)
  bynd : ∀ j, 2 * w.end_ ≤ j → j < 2 * w.disk.size.toNat → hf (cur w.disk) j = Z
  bynd2 : ∃ G : List UInt8, G.length = 16 * (w.disk.size.toNat - w.end_) ∧ Gw.Rec.take G ((w.spilled + 1 : Nat) : Int) = none ∧ ∀ j x, 2 * w.end_ ≤ j → j < 2 * w.disk.size.toNat → cand w.disk j x → x = Z ∨ (w.dirty = true ∧ x = hf G (j - 2 * w.end_))
  sltm : manyM w.seq w.base st ≤ slotSz w.disk
  sltd : ∀ j x, j < 2 * manyM w.seq w.base st → cand w.disk (2 * slotOf w.disk w.seq + j) x → x = hf (markSecs w.seq w.base st) j
  sltb : ∀ j x, j < 2 * slotSz w.disk → cand w.disk (2 * slotOf w.disk w.seq + j) x → mb j x ≤ w.seq + 1
  stl : st.length ≤ 200
  oth0 : w.marked = 0 → (∀ j x, j < 2 * slotSz w.disk → cand w.disk (2 * slotOf w.disk (w.seq + 1) + j) x → mb j x ≤ w.seq) ∨
    (w.dirty = true ∧ (∀ j, j < 2 * slotSz w.disk → hf (cur w.disk) (2 * slotOf w.disk (w.seq + 1) + j) = Z) ∧
      ∃ G : List UInt8, G.length = 16 * slotSz w.disk ∧ (∀ q, w.seq < q → q ≤ 200 → q % 2 = (w.seq + 1) % 2 → takeMark G q = none) ∧ ∀ j x, j < 2 * slotSz w.disk → cand w.disk (2 * slotOf w.disk (w.seq + 1) + j) x → x = Z ∨ x = hf G j)
  oth1 : w.marked = 1 → (∀ j x, j < 2 * slotSz w.disk → cand w.disk (2 * slotOf w.disk (w.seq + 1) + j) x → mb j x ≤ w.seq ∨ (j < 2 * manyM (w.seq + 1) w.markNext mst ∧ x = hf (markSecs (w.seq + 1) w.markNext mst) j)) ∧
    ∀ j, j < 2 * manyM (w.seq + 1) w.markNext mst → hf (cur w.disk) (2 * slotOf w.disk (w.seq + 1) + j) = hf (markSecs (w.seq + 1) w.markNext mst) j
  oth2 : w.marked = 2 → ∀ j x, j < 2 * slotSz w.disk → cand w.disk (2 * slotOf w.disk (w.seq + 1) + j) x → if j < 2 * manyM (w.seq + 1) w.markNext mst then x = hf (markSecs (w.seq + 1) w.markNext mst) j else mb j x ≤ w.seq
  mkd : w.marked ≤ 2
  mkk : w.marked ≠ 0 → w.dirty = false ∧ w.seq < 200 ∧ w.markNext = w.spilled + 1 + w.markMany ∧ w.markMany ≤ w.waits.length ∧ mst.length ≤ 200 ∧ manyM (w.seq + 1) w.markNext mst ≤ slotSz w.disk
  kp : w.marked ≠ 2 → w.kept ≤ w.spilled
  kp2 : w.marked = 2 → w.kept + 1 = w.markNext
  dk : w.dirty = true → w.kept = w.spilled

variable {w : Wal} {R : List (List UInt8)} {st mst : List UInt8}

theorem Inv.size0 (h : Inv w R st mst) : 0 ≤ w.disk.size := (Gw.Disk.check_spec h.chk).1
theorem slots_room (d : Disk) (q : Nat) : slotOf d q + slotSz d ≤ start d := by unfold slotOf start; split <;> omega
theorem slots_apart (d : Disk) (q : Nat) : slotOf d (q + 1) = slotSz d - slotOf d q ∧ slotOf d q ≤ slotSz d ∧ (slotOf d q = 0 ∨ slotOf d q = slotSz d) := by
  unfold slotOf
  split <;> split <;> omega
theorem slots_two (d : Disk) (q : Nat) : slotOf d (q + 2) = slotOf d q := by
  unfold slotOf
  split <;> split <;> omega
theorem start_size (d : Disk) : start d ≤ d.size.toNat := by unfold start slotSz; omega
theorem Inv.appended (h : Inv w R st mst) {p : List UInt8} (hp : p.length ≤ 200) : Inv (append w p).1 R st mst := by
  unfold Gw.Wal.append
  split
  · exact h
  · rename_i hn
    exact { h with
      nxt := by have := h.nxt; simp only [List.length_append, List.length_singleton]; omega
      big := by simp only; omega
      wts := fun q hq => by
        rcases List.mem_append.1 hq with hq | hq
        · exact h.wts q hq
        · rw [List.mem_singleton.1 hq]; exact hp
      mkk := fun hm => by
        obtain ⟨a, b, c, d, e, f⟩ := h.mkk hm
        exact ⟨a, b, c, by simp only [List.length_append, List.length_singleton]; omega, e, f⟩ }
/-- Flushed. -/
theorem Inv.flushed (h : Inv w R st mst) : ∃ l : List UInt8, Gw.Disk.flush w.disk = ⟨w.disk.size, ⟨l.toArray⟩, []⟩ ∧ Gw.Disk.check ⟨w.disk.size, ⟨l.toArray⟩, []⟩ = true ∧ cur ⟨w.disk.size, ⟨l.toArray⟩, []⟩ = cur w.disk ∧ ∀ j x, cand ⟨w.disk.size, ⟨l.toArray⟩, []⟩ j x → x = hf (cur w.disk) j := by
  obtain ⟨l, e1, e2, e3⟩ := flush_spec h.chk
  have hc := check_firm h.chk l e2
  have e4 : cur ⟨w.disk.size, ⟨l.toArray⟩, []⟩ = l := cur_firm hc rfl
  refine ⟨l, e1, hc, by rw [e4, e3], fun j x hx => ?_⟩
  have := cand_firm (d := ⟨w.disk.size, ⟨l.toArray⟩, []⟩) rfl hx
  rw [this, ← e3]
theorem Inv.cc (h : Inv w R st mst) {j : Nat} (hj : j < 2 * w.disk.size.toNat) : cand w.disk j (hf (cur w.disk) j) := cand_cur h.chk j hj
theorem Inv.szN (h : Inv w R st mst) : start w.disk ≤ w.disk.size.toNat ∧ w.end_ ≤ w.disk.size.toNat ∧ 2 * slotSz w.disk = start w.disk := by
  have h0 := h.size0
  have := start_size w.disk
  have hr := h.room
  exact ⟨this, by omega, rfl⟩
theorem Inv.slotlt (h : Inv w R st mst) (q : Nat) {j : Nat} (hj : j < 2 * slotSz w.disk) : 2 * slotOf w.disk q + j < 2 * w.disk.size.toNat := by
  have := slots_room w.disk q
  have := h.szN.1
  omega
/-- A log whose disk was flushed. -/
theorem Inv.calm (h : Inv w R st mst) : Inv { w with disk := Gw.Disk.flush w.disk, dirty := false } R st mst := by
  obtain ⟨l, e1, e2, e3, e4⟩ := h.flushed
  obtain ⟨n1, n2, n3⟩ := h.szN
  rw [e1]
  exact { h with
    chk := e2
    logc := fun j hj => by show hf (cur ⟨_, _, _⟩) _ = _; rw [e3]; exact h.logc j hj
    logd := fun j x hj hx => by have this : x = hf (cur w.disk) (2 * start w.disk + j) := e4 _ _ hx; rw [h.logc j hj] at this; exact .inl this
    bynd := fun j h1 h2 => by show hf (cur ⟨_, _, _⟩) _ = _; rw [e3]; exact h.bynd j h1 h2
    bynd2 := by
      obtain ⟨G, g1, g2, g3⟩ := h.bynd2
      refine ⟨G, g1, g2, fun j x h1 h2 hx => ?_⟩
      have := e4 _ _ hx
      rw [h.bynd j h1 h2] at this
      exact .inl this
    sltd := fun j x hj hx => by
      have hj : j < 2 * manyM w.seq w.base st := hj
      have := e4 _ _ hx
      have hm := h.sltm
      rw [this]
      exact h.sltd j _ hj (h.cc (h.slotlt _ (by omega)))
    sltb := fun j x hj hx => by
      have := e4 _ _ hx
      rw [this]
      exact h.sltb j _ hj (h.cc (h.slotlt _ hj))
    oth0 := fun hm => .inl fun j x hj hx => by
      have := e4 _ _ hx
      rw [this]
      rcases h.oth0 hm with h5 | ⟨_, h5, _⟩
      · exact h5 j _ hj (h.cc (h.slotlt _ hj))
      · show mb j (hf (cur w.disk) (2 * slotOf w.disk (w.seq + 1) + j)) ≤ w.seq
        rw [h5 j hj, mb_zero]; omega
    oth1 := fun hm => by
      obtain ⟨h5, h6⟩ := h.oth1 hm
      refine ⟨fun j x hj hx => ?_, fun j hj => by show hf (cur ⟨_, _, _⟩) _ = _; rw [e3]; exact h6 j hj⟩
      have := e4 _ _ hx
      rw [this]
      exact h5 j _ hj (h.cc (h.slotlt _ hj))
    oth2 := fun hm j x hj hx => by
      have := e4 _ _ hx
      rw [this]
      exact h.oth2 hm j _ hj (h.cc (h.slotlt _ hj))
    mkk := fun hm => ⟨rfl, (h.mkk hm).2⟩
    dk := fun hd => by cases hd }
theorem settle_eq (w : Wal) : settle w = if w.dirty = true then { w with disk := Gw.Disk.flush w.disk, dirty := false } else w := rfl
theorem Inv.settle (h : Inv w R st mst) : Inv (settle w) R st mst ∧ (settle w).dirty = false ∧ (settle w).disk.size = w.disk.size := by
  rw [settle_eq]
  split
  · obtain ⟨l, e1, _⟩ := h.flushed
    exact ⟨h.calm, rfl, by simp only [e1]⟩
  · rename_i hd
    exact ⟨h, by simpa using hd, rfl⟩
/-- Behind a flush that is told. -/
theorem Inv.sync (h : Inv w R st mst) : Inv (sync w) R st mst := by
  obtain ⟨l, e1, e2, e3, e4⟩ := h.flushed
  have hcl := h.calm
  have hR := h.spl
  rw [e1] at hcl
  have exact1 : ∀ j x, j < 2 * secsOf R w.base → cand ⟨w.disk.size, ⟨l.toArray⟩, []⟩ (2 * start w.disk + j) x → x = hf (Gw.Rec.packs R (w.base : Int)) j := fun j x hj hx => by
    have := e4 _ _ hx; rw [h.logc j hj] at this; exact this
  unfold Gw.Wal.sync
  split
  · rename_i hm
    rw [e1]
    exact { hcl with
      kept1 := by have := h.spl; simp only; omega
      logd := fun j x hj hx => .inl (exact1 j x hj hx)
      kp := fun _ => Nat.le_refl _
      kp2 := fun hm2 => by simp only at hm2; omega
      dk := fun hd => by cases hd }
  · rename_i hm
    obtain ⟨m1, m2, m3, m4, m5, m6⟩ := h.mkk hm
    rw [e1]
    exact { hcl with
      kept1 := by have := h.spl; simp only; omega
      logd := fun j x hj hx => .inl (exact1 j x hj hx)
      oth0 := fun hm2 => by cases hm2
      oth1 := fun hm2 => by cases hm2
      oth2 := fun _ j x hj hx => by
        have hx' := e4 _ _ hx
        have hlt := h.slotlt (w.seq + 1) hj
        have h1 : w.marked = 1 ∨ w.marked = 2 := by have := h.mkd; omega
        split
        · rename_i hjm
          rcases h1 with h1 | h1
          · rw [hx']; exact (h.oth1 h1).2 j hjm
          · have := h.oth2 h1 j _ hj (h.cc hlt)
            rw [if_pos hjm] at this
            rw [hx']; exact this
        · rename_i hjm
          rw [hx']
          rcases h1 with h1 | h1
          · rcases (h.oth1 h1).1 j _ hj (h.cc hlt) with h7 | ⟨h7, _⟩
            · exact h7
            · exact absurd h7 hjm
          · have := h.oth2 h1 j _ hj (h.cc hlt)
            rw [if_neg hjm] at this
            exact this
      mkd := Nat.le_refl 2
      mkk := fun _ => ⟨rfl, m2, m3, m4, m5, m6⟩
      kp := fun hm2 => absurd rfl hm2
      kp2 := fun _ => by simp only; omega
      dk := fun hd => by cases hd }
theorem zeros_len (n : Nat) : (zeros n).length = 16 * n := by unfold zeros; rw [List.length_replicate]; omega
theorem zeros_hf (n j : Nat) (h : j < 2 * n) : hf (zeros n) j = Z := by unfold zeros; exact hf_zero _ _ (by omega)
theorem take_zeros (n : Nat) (k : Int) : Gw.Rec.take (zeros n) k = none := take_zero fun j hj => zeros_hf n j (by rw [zeros_len] at hj; omega)
theorem spillText_len (w : Wal) : (spillText w).length = 16 * secsOf w.waits (w.spilled + 1) := packs_len _ _
/-- Behind what is written of what waits. -/
theorem Inv.spill (h : Inv w R st mst) : ((spill w).2 ≠ 0 ∧ (spill w).1 = w) ∨ ((spill w).2 = 0 ∧ w.waits = [] ∧ w.marked = 0 ∧ (spill w).1 = w) ∨ ((spill w).2 = 0 ∧ w.marked = 0 ∧ Inv (spill w).1 (R ++ w.waits) st mst ∧ (spill w).1.waits = [] ∧ (spill w).1.spilled + 1 = w.next ∧ (spill w).1.kept = w.kept ∧ (spill w).1.base = w.base ∧ (spill w).1.seq = w.seq ∧ (spill w).1.next = w.next ∧ (spill w).1.marked = 0) := by
  unfold Gw.Wal.spill
  split
  · exact .inl ⟨(fun e => by cases e), rfl⟩
  rename_i hm
  have hm : w.marked = 0 := by omega
  split
  · exact .inl ⟨(fun e => by cases e), rfl⟩
  rename_i hr
  split
  · rename_i hw; exact .inr (.inl ⟨rfl, hw, hm, rfl⟩)
  rename_i hw
  obtain ⟨hs, hd, hz⟩ := h.settle
  have se : (Gw.Wal.settle w).end_ = w.end_ ∧ (Gw.Wal.settle w).base = w.base ∧ (Gw.Wal.settle w).spilled = w.spilled ∧ (Gw.Wal.settle w).kept = w.kept ∧ (Gw.Wal.settle w).waits = w.waits ∧ (Gw.Wal.settle w).seq = w.seq ∧ (Gw.Wal.settle w).next = w.next ∧ (Gw.Wal.settle w).marked = w.marked := by
    rw [settle_eq]; split <;> exact ⟨rfl, rfl, rfl, rfl, rfl, rfl, rfl, rfl⟩
  have hst : start (Gw.Wal.settle w).disk = start w.disk := by unfold start slotSz; rw [hz]
  obtain ⟨s1, s2, s3, s4, s5, s6, s7, s8⟩ := se
  have hlen := spillText_len w
  rw [hlen, show 16 * secsOf w.waits (w.spilled + 1) / 16 = secsOf w.waits (w.spilled + 1) by omega] at hr ⊢
  have hroom : ((w.end_ + secsOf w.waits (w.spilled + 1) : Nat) : Int) ≤ (Gw.Wal.settle w).disk.size := by rw [hz]; omega
  obtain ⟨b1, b2, b3, b4, b5, b6⟩ := write_spec hs.chk w.end_ (secsOf w.waits (w.spilled + 1)) (spillText w) hlen hroom
  have h0 := hs.size0
  have hspl := h.spl
  have hnxt := h.nxt
  have hends := h.ends
  have hsz : slotSz (Gw.Wal.settle w).disk = slotSz w.disk := by unfold slotSz; rw [hz]
  generalize hD : Gw.Disk.write (Gw.Wal.settle w).disk (w.end_ : Int) (ba (spillText w)) = D at b1 b2 b3 b4 b5 b6
  have eD : slotSz D = slotSz (Gw.Wal.settle w).disk := by unfold slotSz; rw [b2]
  have eS : start D = start (Gw.Wal.settle w).disk := by unfold start; rw [eD]
  have eO : ∀ q, slotOf D q = slotOf (Gw.Wal.settle w).disk q := fun q => by unfold slotOf; rw [eD]
  have eT : D.size.toNat = (Gw.Wal.settle w).disk.size.toNat := by rw [b2]
  have happ := secsOf_append R w.waits w.base
  have hn1 : w.base + R.length = w.spilled + 1 := by omega
  rw [hn1] at happ
  have low : ∀ q {j : Nat}, j < 2 * slotSz D → ¬ (2 * w.end_ ≤ 2 * slotOf (Gw.Wal.settle w).disk q + j ∧ 2 * slotOf (Gw.Wal.settle w).disk q + j < 2 * (w.end_ + secsOf w.waits (w.spilled + 1))) := fun q j hj => by
    have := slots_room (Gw.Wal.settle w).disk q
    rw [hst] at this
    omega
  have lowc : ∀ q {j : Nat} {x : List UInt8}, j < 2 * slotSz D → cand D (2 * slotOf (Gw.Wal.settle w).disk q + j) x → cand (Gw.Wal.settle w).disk (2 * slotOf (Gw.Wal.settle w).disk q + j) x := fun q j x hj hx => by
    rcases b5 _ _ hx with h1 | ⟨h1, h2, _⟩
    · exact h1
    · exact absurd ⟨h1, h2⟩ (low q hj)
  have hpk : ∀ j, hf (Gw.Rec.packs (R ++ w.waits) (w.base : Int)) (2 * secsOf R w.base + j) = hf (spillText w) j := fun j => by
    rw [packs_hf_right, hn1]; rfl
  have hnd : w.kept + 1 - w.base ≤ R.length := by have := h.kp (by omega); omega
  refine .inr (.inr ⟨rfl, hm, ?_, rfl, by simp only; omega, by simp only [s4], by simp only [s2], by simp only [s6], by simp only [s7], by simp only [s8]; exact hm⟩)
  exact {
    chk := b3
    small := by show D.size ≤ _; rw [b2]; exact hs.small
    seq1 := hs.seq1
    seq2 := hs.seq2
    base1 := hs.base1
    spl := by simp only [List.length_append, s2]; omega
    nxt := by simp only [s7, List.length_nil]; omega
    big := hs.big
    ends := by show w.end_ + _ = start D + _; rw [eS, hst, s2, happ]; omega
    room := by show ((w.end_ + _ : Nat) : Int) ≤ D.size; rw [b2]; exact hroom
    recs := fun p hp => by
      rcases List.mem_append.1 hp with hp | hp
      · exact h.recs p hp
      · exact h.wts p hp
    wts := fun p hp => by simp at hp
    kept1 := hs.kept1
    logc := fun j hj => by
      show hf (cur D) (2 * start D + j) = _
      simp only [s2] at hj ⊢
      rw [happ] at hj
      rw [b6 _ (by omega), eS, hst]
      split
      · rename_i h1
        obtain ⟨i, rfl⟩ := Nat.exists_eq_add_of_le (show 2 * secsOf R w.base ≤ j by omega)
        rw [hpk, show 2 * start w.disk + (2 * secsOf R w.base + i) - 2 * w.end_ = i by omega]
      · rename_i h1
        have := hs.logc j (by rw [s2]; omega)
        rw [hst, s2] at this
        rw [this, packs_hf_left _ _ _ _ (by omega)]
    logd := fun j x hj hx => by
      have hx : cand D (2 * start D + j) x := hx
      simp only [s2] at hj ⊢
      rw [happ] at hj
      rw [eS, hst] at hx
      simp only [s4]
      rw [List.take_append_of_le_length hnd]
      rcases b5 _ _ hx with h1 | ⟨h1, h2, h3⟩
      · by_cases hjl : j < 2 * secsOf R w.base
        · have := hs.logd j x (by rw [s2]; exact hjl) (by rw [hst]; exact h1)
          rw [s2, s4] at this
          rw [packs_hf_left _ _ _ _ hjl]
          exact this
        · obtain ⟨G, g1, g2, g3⟩ := hs.bynd2
          rcases g3 _ x (by rw [s1]; omega) (by omega) h1 with h4 | ⟨h4, _⟩
          · have := secsOf_take R w.base (w.kept + 1 - w.base)
            exact .inr ⟨hd, h4, by omega⟩
          · rw [hd] at h4; cases h4
      · obtain ⟨i, rfl⟩ := Nat.exists_eq_add_of_le (show 2 * secsOf R w.base ≤ j by omega)
        refine .inl ?_
        rw [hpk, h3]
        congr 1; omega
    bynd := fun j h1 h2 => by
      have h1 : 2 * (w.end_ + secsOf w.waits (w.spilled + 1)) ≤ j := h1
      have h2 : j < 2 * D.size.toNat := h2
      show hf (cur D) j = _
      rw [b6 _ (by omega), if_neg (by omega)]
      exact hs.bynd j (by rw [s1]; omega) (by omega)
    bynd2 := by
      refine ⟨zeros (D.size.toNat - (w.end_ + secsOf w.waits (w.spilled + 1))), zeros_len _, take_zeros _ _, fun j x h1 h2 hx => ?_⟩
      have h1 : 2 * (w.end_ + secsOf w.waits (w.spilled + 1)) ≤ j := h1
      have h2 : j < 2 * D.size.toNat := h2
      have hx : cand D j x := hx
      rcases b5 _ _ hx with h3 | ⟨_, h4, _⟩
      · obtain ⟨G, g1, g2, g3⟩ := hs.bynd2
        rcases g3 j x (by rw [s1]; omega) (by omega) h3 with h4 | ⟨h4, _⟩
        · exact .inl h4
        · rw [hd] at h4; cases h4
      · omega
    sltm := by show _ ≤ slotSz D; rw [eD]; exact hs.sltm
    sltd := fun j x hj hx => by
      have hx : cand D (2 * slotOf D _ + j) x := hx
      have := hs.sltm
      rw [eO] at hx
      exact hs.sltd j x hj (lowc _ (by rw [eD]; simp only at hj; omega) hx)
    sltb := fun j x hj hx => by
      have hx : cand D (2 * slotOf D _ + j) x := hx
      have hj : j < 2 * slotSz D := hj
      rw [eO] at hx
      exact hs.sltb j x (by omega) (lowc _ hj hx)
    stl := hs.stl
    oth0 := fun _ => .inl fun j x hj hx => by
      have hx : cand D (2 * slotOf D _ + j) x := hx
      have hj : j < 2 * slotSz D := hj
      rw [eO] at hx
      rcases hs.oth0 (by rw [s8]; exact hm) with h5 | ⟨h5, _⟩
      · exact h5 j x (by omega) (lowc _ hj hx)
      · rw [hd] at h5; cases h5
    oth1 := fun h1 => by have h1 : (Gw.Wal.settle w).marked = 1 := h1; omega
    oth2 := fun h1 => by have h1 : (Gw.Wal.settle w).marked = 2 := h1; omega
    mkd := hs.mkd
    mkk := fun h1 => by have h1 : (Gw.Wal.settle w).marked ≠ 0 := h1; omega
    kp := fun h1 => by have := h.kp (by omega); simp only [s4]; omega
    kp2 := fun h1 => by have h1 : (Gw.Wal.settle w).marked = 2 := h1; omega
    dk := fun h1 => by have h1 : (Gw.Wal.settle w).dirty = true := h1; rw [hd] at h1; cases h1 }
end Gw.Wal


namespace Gw.Wal
open Gw.Disk (Disk)
variable {w : Wal} {R : List (List UInt8)} {st mst : List UInt8}

/-- Behind a mark that is written. -/
theorem Inv.mark (h : Inv w R st mst) {s : List UInt8} (hs' : s.length ≤ 200) : ((mark w s).2 ≠ 0 ∧ (mark w s).1 = w) ∨ ((mark w s).2 = 0 ∧ w.marked = 0 ∧ w.seq < 200 ∧ Inv (mark w s).1 R st s ∧ (mark w s).1.waits = w.waits ∧ (mark w s).1.spilled = w.spilled ∧ (mark w s).1.kept = w.kept ∧ (mark w s).1.base = w.base ∧ (mark w s).1.seq = w.seq ∧ (mark w s).1.next = w.next ∧ (mark w s).1.marked = 1 ∧ (mark w s).1.markNext = w.next ∧ (mark w s).1.markMany = w.waits.length) := by
  unfold Gw.Wal.mark
  split
  · exact .inl ⟨(fun e => by cases e), rfl⟩
  rename_i hm
  have hm : w.marked = 0 := by omega
  split
  · exact .inl ⟨(fun e => by cases e), rfl⟩
  rename_i hq
  split
  · exact .inl ⟨(fun e => by cases e), rfl⟩
  rename_i hr
  obtain ⟨hs, hd, hz⟩ := h.settle
  have se : (Gw.Wal.settle w).end_ = w.end_ ∧ (Gw.Wal.settle w).base = w.base ∧ (Gw.Wal.settle w).spilled = w.spilled ∧ (Gw.Wal.settle w).kept = w.kept ∧ (Gw.Wal.settle w).waits = w.waits ∧ (Gw.Wal.settle w).seq = w.seq ∧ (Gw.Wal.settle w).next = w.next ∧ (Gw.Wal.settle w).marked = w.marked := by
    rw [settle_eq]; split <;> exact ⟨rfl, rfl, rfl, rfl, rfl, rfl, rfl, rfl⟩
  obtain ⟨s1, s2, s3, s4, s5, s6, s7, s8⟩ := se
  have hsz : slotSz (Gw.Wal.settle w).disk = slotSz w.disk := by unfold slotSz; rw [hz]
  have hst : start (Gw.Wal.settle w).disk = start w.disk := by unfold start; rw [hsz]
  have hso : ∀ q, slotOf w.disk q = slotOf (Gw.Wal.settle w).disk q := fun q => by unfold slotOf; rw [hsz]
  have hlen := markSecs_len (w.seq + 1) w.next s
  rw [hlen, show 16 * manyM (w.seq + 1) w.next s / 16 = manyM (w.seq + 1) w.next s by omega] at hr
  have h0 := hs.size0
  have hroom0 := slots_room (Gw.Wal.settle w).disk (w.seq + 1)
  have hstart := start_size (Gw.Wal.settle w).disk
  have hroom : ((slotOf w.disk (w.seq + 1) + manyM (w.seq + 1) w.next s : Nat) : Int) ≤ (Gw.Wal.settle w).disk.size := by rw [hso]; omega
  obtain ⟨b1, b2, b3, b4, b5, b6⟩ := write_spec hs.chk (slotOf w.disk (w.seq + 1)) (manyM (w.seq + 1) w.next s) (markSecs (w.seq + 1) w.next s) hlen hroom
  have hends := h.ends
  have hspl := h.spl
  have hnxt := h.nxt
  generalize hD : Gw.Disk.write (Gw.Wal.settle w).disk (slotOf w.disk (w.seq + 1) : Int) (ba (markSecs (w.seq + 1) w.next s)) = D at b1 b2 b3 b4 b5 b6
  have eD : slotSz D = slotSz (Gw.Wal.settle w).disk := by unfold slotSz; rw [b2]
  have eS : start D = start (Gw.Wal.settle w).disk := by unfold start; rw [eD]
  have eO : ∀ q, slotOf D q = slotOf (Gw.Wal.settle w).disk q := fun q => by unfold slotOf; rw [eD]
  have eT : D.size.toNat = (Gw.Wal.settle w).disk.size.toNat := by rw [b2]
  rw [hso] at b5 b6
  have hap := slots_apart (Gw.Wal.settle w).disk w.seq
  have hi : ∀ {j}, start D ≤ j → ∀ x, cand D (2 * j) x → cand (Gw.Wal.settle w).disk (2 * j) x := fun {j} hj x hx => by
    rcases b5 _ _ hx with h1 | ⟨h1, h2, _⟩
    · exact h1
    · omega
  have hic : ∀ {j} x, 2 * start D ≤ j → cand D j x → cand (Gw.Wal.settle w).disk j x := fun {j} x hj hx => by
    rcases b5 _ _ hx with h1 | ⟨h1, h2, _⟩
    · exact h1
    · omega
  have hcc : ∀ {j}, 2 * start D ≤ j → j < 2 * D.size.toNat → hf (cur D) j = hf (cur (Gw.Wal.settle w).disk) j := fun {j} h1 h2 => by
    rw [b6 _ (by omega), if_neg (by omega)]
  have slc : ∀ {j x}, j < 2 * slotSz D → cand D (2 * slotOf (Gw.Wal.settle w).disk w.seq + j) x → cand (Gw.Wal.settle w).disk (2 * slotOf (Gw.Wal.settle w).disk w.seq + j) x := fun {j x} hj hx => by
    rcases b5 _ _ hx with h1 | ⟨h1, h2, _⟩
    · exact h1
    · omega
  clear hi
  have hes : start D ≤ w.end_ := by omega
  have hnew : ∀ j, j < 2 * manyM (w.seq + 1) w.next s → hf (cur D) (2 * slotOf D (w.seq + 1) + j) = hf (markSecs (w.seq + 1) w.next s) j := fun j hj => by
    rw [eO, b6 _ (by omega), if_pos (by omega)]
    congr 1; omega
  have hoth : ∀ j x, j < 2 * slotSz D → cand D (2 * slotOf D (w.seq + 1) + j) x → mb j x ≤ w.seq ∨ (j < 2 * manyM (w.seq + 1) w.next s ∧ x = hf (markSecs (w.seq + 1) w.next s) j) := fun j x hj hx => by
    rw [eO] at hx
    rcases b5 _ _ hx with h1 | ⟨h1, h2, h3⟩
    · rcases hs.oth0 (by rw [s8]; exact hm) with h5 | ⟨h5, _⟩
      · have := h5 j x (by omega) (by rw [s6]; exact h1)
        rw [s6] at this
        exact .inl this
      · rw [hd] at h5; cases h5
    · refine .inr ⟨by omega, ?_⟩
      rw [h3]
      congr 1; omega
  have hrm := h.room
  refine .inr ⟨rfl, hm, by omega, ?_, by simp only [s5], by simp only [s3], by simp only [s4], by simp only [s2], by simp only [s6], by simp only [s7], rfl, rfl, rfl⟩
  exact {
    chk := b3
    small := by show D.size ≤ _; rw [b2]; exact hs.small
    seq1 := hs.seq1
    seq2 := hs.seq2
    base1 := hs.base1
    spl := hs.spl
    nxt := hs.nxt
    big := hs.big
    ends := by show (Gw.Wal.settle w).end_ = start D + _; rw [eS]; exact hs.ends
    room := by show _ ≤ D.size; rw [b2]; exact hs.room
    recs := hs.recs
    wts := hs.wts
    kept1 := hs.kept1
    logc := fun j hj => by
      have hj : j < 2 * secsOf R (Gw.Wal.settle w).base := hj
      show hf (cur D) (2 * start D + j) = _
      rw [s2] at hj
      rw [hcc (by omega) (by omega), eS]
      exact hs.logc j (by rw [s2]; exact hj)
    logd := fun j x hj hx => by
      have hx : cand D (2 * start D + j) x := hx
      refine hs.logd j x hj ?_
      rw [← eS]
      exact hic x (by omega) hx
    bynd := fun j h1 h2 => by
      have h1 : 2 * (Gw.Wal.settle w).end_ ≤ j := h1
      have h2 : j < 2 * D.size.toNat := h2
      show hf (cur D) j = _
      rw [hcc (by omega) h2]
      exact hs.bynd j h1 (by omega)
    bynd2 := by
      obtain ⟨G, g1, g2, g3⟩ := hs.bynd2
      refine ⟨G, by show _ = 16 * (D.size.toNat - _); rw [eT]; exact g1, g2, fun j x h1 h2 hx => ?_⟩
      have h1 : 2 * (Gw.Wal.settle w).end_ ≤ j := h1
      have h2 : j < 2 * D.size.toNat := h2
      have hx : cand D j x := hx
      exact g3 j x h1 (by omega) (hic x (by omega) hx)
    sltm := by show _ ≤ slotSz D; rw [eD]; exact hs.sltm
    sltd := fun j x hj hx => by
      have hx : cand D (2 * slotOf D (Gw.Wal.settle w).seq + j) x := hx
      have hm := hs.sltm
      have hj : j < 2 * manyM (Gw.Wal.settle w).seq (Gw.Wal.settle w).base st := hj
      rw [eO] at hx
      refine hs.sltd j x hj ?_
      rw [s6] at hx ⊢
      exact slc (by omega) hx
    sltb := fun j x hj hx => by
      have hx : cand D (2 * slotOf D (Gw.Wal.settle w).seq + j) x := hx
      have hj : j < 2 * slotSz D := hj
      rw [eO] at hx
      refine hs.sltb j x (by omega) ?_
      rw [s6] at hx ⊢
      exact slc (by omega) hx
    stl := hs.stl
    oth0 := fun h1 => by cases h1
    oth1 := fun _ => by
      show (∀ j x, j < 2 * slotSz D → cand D (2 * slotOf D ((Gw.Wal.settle w).seq + 1) + j) x → mb j x ≤ (Gw.Wal.settle w).seq ∨ (j < 2 * manyM ((Gw.Wal.settle w).seq + 1) w.next s ∧ x = hf (markSecs ((Gw.Wal.settle w).seq + 1) w.next s) j)) ∧
        ∀ j, j < 2 * manyM ((Gw.Wal.settle w).seq + 1) w.next s → hf (cur D) (2 * slotOf D ((Gw.Wal.settle w).seq + 1) + j) = hf (markSecs ((Gw.Wal.settle w).seq + 1) w.next s) j
      rw [s6]
      exact ⟨hoth, hnew⟩
    oth2 := fun h1 => by cases h1
    mkd := by simp only; omega
    mkk := fun _ => by
      refine ⟨hd, by simp only [s6]; omega, by simp only [s3]; omega, by simp only [s5]; omega, hs', ?_⟩
      show manyM ((Gw.Wal.settle w).seq + 1) w.next s ≤ slotSz D
      rw [s6]; omega
    kp := fun _ => by have := h.kp (by omega); simp only [s4, s3]; omega
    kp2 := fun h1 => by cases h1
    dk := fun h1 => by have h1 : (Gw.Wal.settle w).dirty = true := h1; rw [hd] at h1; cases h1 }

/-- Records of another base, and 0 behind them, are none of this number. -/
theorem take_old {R : List (List UInt8)} {b n m : Nat} (h1 : 1 ≤ b) (h2 : b + R.length ≤ 1000001) (h3 : ∀ p ∈ R, p.length ≤ 200) (hn : b + R.length ≤ n) : Gw.Rec.take (Gw.Rec.packs R (b : Int) ++ zeros m) (n : Int) = none := by
  cases R with
  | nil => simpa [Gw.Rec.packs] using take_zeros m (n : Int)
  | cons p R =>
    rw [List.length_cons] at h2 hn
    have hm : Gw.Rec.may (b : Int) p = true := Gw.Rec.may_iff.2 ⟨by omega, by omega, by have := h3 p (by simp); omega⟩
    rw [Gw.Rec.packs, List.append_assoc]
    exact Gw.Rec.take_other hm (by omega) _
theorem old_hf {R : List (List UInt8)} {b m : Nat} (j : Nat) (hj : j < 2 * (secsOf R b + m)) : hf (Gw.Rec.packs R (b : Int) ++ zeros m) j = if j < 2 * secsOf R b then hf (Gw.Rec.packs R (b : Int)) j else Z := by
  have hl := packs_len R b
  split
  · exact hf_append_left _ _ _ (by omega)
  · obtain ⟨i, rfl⟩ := Nat.exists_eq_add_of_le (show 2 * secsOf R b ≤ j by omega)
    rw [hf_append_right _ _ _ _ (by omega)]
    exact zeros_hf _ _ (by omega)
/-- Behind a wipe. -/
theorem Inv.wipe (h : Inv w R st mst) : ((wipe w).2 ≠ 0 ∧ (wipe w).1 = w) ∨ ((wipe w).2 = 0 ∧ w.marked = 2 ∧ Inv (wipe w).1 [] mst [] ∧ (wipe w).1.waits = w.waits.drop w.markMany ∧ (wipe w).1.base = w.markNext ∧ (wipe w).1.seq = w.seq + 1 ∧ (wipe w).1.next = w.next ∧ (wipe w).1.kept = w.kept ∧ (wipe w).1.marked = 0 ∧ (wipe w).1.spilled + 1 = w.markNext) := by
  unfold Gw.Wal.wipe
  split
  · exact .inl ⟨(fun e => by cases e), rfl⟩
  rename_i hm
  have hm : w.marked = 2 := by omega
  obtain ⟨m1, m2, m3, m4, m5, m6⟩ := h.mkk (by omega)
  have h0 := h.size0
  have hst := start_size w.disk
  have hends := h.ends
  have hspl := h.spl
  have hnxt := h.nxt
  have hb1 := h.base1
  have hbig := h.big
  have hkp := h.kp2 hm
  have hrm := h.room
  obtain ⟨b1, b2, b3, b4, b5, b6⟩ := write_spec h.chk (start w.disk) (w.disk.size.toNat - start w.disk) (zeros (w.disk.size.toNat - start w.disk)) (zeros_len _) (by omega)
  generalize hD : Gw.Disk.write w.disk (start w.disk : Int) (ba (zeros (w.disk.size.toNat - start w.disk))) = D at b1 b2 b3 b4 b5 b6
  have eD : slotSz D = slotSz w.disk := by unfold slotSz; rw [b2]
  have eS : start D = start w.disk := by unfold start; rw [eD]
  have eO : ∀ q, slotOf D q = slotOf w.disk q := fun q => by unfold slotOf; rw [eD]
  have eT : D.size.toNat = w.disk.size.toNat := by rw [b2]
  have slc : ∀ q {j x}, j < 2 * slotSz D → cand D (2 * slotOf w.disk q + j) x → cand w.disk (2 * slotOf w.disk q + j) x := fun q {j x} hj hx => by
    have := slots_room w.disk q
    rcases b5 _ _ hx with h1 | ⟨h1, h2, _⟩
    · exact h1
    · omega
  have hmx : max w.spilled (w.markNext - 1) + 1 = w.markNext := by omega
  refine .inr ⟨rfl, hm, ?_, rfl, rfl, rfl, rfl, rfl, rfl, hmx⟩
  exact {
    chk := b3
    small := by show D.size ≤ _; rw [b2]; exact h.small
    seq1 := by simp only; omega
    seq2 := by simp only; omega
    base1 := by simp only; omega
    spl := by simp only [List.length_nil]; omega
    nxt := by simp only [List.length_drop]; omega
    big := hbig
    ends := by show start w.disk = start D + _; rw [eS]; rfl
    room := by show ((start w.disk : Nat) : Int) ≤ D.size; rw [b2]; omega
    recs := fun p hp => by simp at hp
    wts := fun p hp => h.wts p (List.mem_of_mem_drop hp)
    kept1 := by simp only; omega
    logc := fun j hj => by simp [secsOf] at hj
    logd := fun j x hj hx => by simp [secsOf] at hj
    bynd := fun j h1 h2 => by
      have h1 : 2 * start w.disk ≤ j := h1
      have h2 : j < 2 * D.size.toNat := h2
      show hf (cur D) j = _
      rw [b6 _ (by omega), if_pos (by omega)]
      exact zeros_hf _ _ (by omega)
    bynd2 := by
      refine ⟨Gw.Rec.packs R (w.base : Int) ++ zeros (w.disk.size.toNat - w.end_), ?_, ?_, fun j x h1 h2 hx => ?_⟩
      · show _ = 16 * (D.size.toNat - start w.disk)
        rw [List.length_append, packs_len, zeros_len, eT]; omega
      · show Gw.Rec.take _ ((max w.spilled (w.markNext - 1) + 1 : Nat) : Int) = none
        rw [hmx]
        exact take_old hb1 (by omega) h.recs (by omega)
      · have h1 : 2 * start w.disk ≤ j := h1
        have h2 : j < 2 * D.size.toNat := h2
        have hx : cand D j x := hx
        show x = Z ∨ (true = true ∧ x = hf _ (j - 2 * start w.disk))
        rw [old_hf _ (by omega)]
        rcases b5 _ _ hx with h3 | ⟨_, h4, h5⟩
        · split
          · rename_i hjs
            rcases h.logd (j - 2 * start w.disk) x hjs (by rw [show 2 * start w.disk + (j - 2 * start w.disk) = j by omega]; exact h3) with h6 | ⟨_, h6, _⟩
            · exact .inr ⟨rfl, h6⟩
            · exact .inl h6
          · obtain ⟨G, g1, g2, g3⟩ := h.bynd2
            rcases g3 j x (by omega) (by omega) h3 with h6 | ⟨h6, _⟩
            · exact .inl h6
            · rw [m1] at h6; cases h6
        · rw [zeros_hf _ _ (by omega)] at h5
          exact .inl h5
    sltm := by show _ ≤ slotSz D; rw [eD]; exact m6
    sltd := fun j x hj hx => by
      have hx : cand D (2 * slotOf D (w.seq + 1) + j) x := hx
      have hj : j < 2 * manyM (w.seq + 1) w.markNext mst := hj
      rw [eO] at hx
      have := h.oth2 hm j x (by omega) (slc _ (by omega) hx)
      rw [if_pos hj] at this
      exact this
    sltb := fun j x hj hx => by
      have hx : cand D (2 * slotOf D (w.seq + 1) + j) x := hx
      have hj : j < 2 * slotSz D := hj
      rw [eO] at hx
      have := h.oth2 hm j x (by omega) (slc _ (by omega) hx)
      show mb j x ≤ w.seq + 1 + 1
      split at this
      · rename_i hjm
        rw [this]
        have := mb_packed (w.seq + 1) (markText w.markNext mst) j hjm
        rw [mark_seq (by omega)] at this
        show mb j (hf (Gw.Rec.packed (w.seq + 1) (markText w.markNext mst)) j) ≤ _
        omega
      · omega
    stl := m5
    oth0 := fun _ => .inl fun j x hj hx => by
      have hx : cand D (2 * slotOf D (w.seq + 1 + 1) + j) x := hx
      have hj : j < 2 * slotSz D := hj
      rw [eO, slots_two] at hx
      exact h.sltb j x (by omega) (slc _ (by omega) hx)
    oth1 := fun h1 => by cases h1
    oth2 := fun h1 => by cases h1
    mkd := by simp only; omega
    mkk := fun h1 => absurd rfl h1
    kp := fun _ => by simp only; omega
    kp2 := fun h1 => by cases h1
    dk := fun _ => by simp only; omega }
/-- A new log. -/
theorem new_inv {size : Int} (hs : size ≤ 1000) (he : (new size).2 = 0) : Inv (new size).1 [] [] [] ∧ (new size).1.next = 1 ∧ (new size).1.base = 1 ∧ (new size).1.seq = 1 ∧ (new size).1.waits = [] ∧ (new size).1.marked = 0 ∧ (new size).1.kept = 0 ∧ (new size).1.disk.size = max size 0 ∧ (new size).1.spilled = 0 := by
  unfold Gw.Wal.new at he ⊢
  split at he
  · cases he
  rename_i hr
  rw [if_neg hr]
  clear he
  have hn : (Gw.Disk.new size).size = max size 0 := by unfold Gw.Disk.new; simp only; omega
  have h0 : Gw.Disk.check (Gw.Disk.new size) = true := by
    obtain ⟨n, hn2⟩ : ∃ n : Nat, max size 0 = (n : Int) := ⟨(max size 0).toNat, by omega⟩
    unfold Gw.Disk.new Gw.Disk.check
    rw [hn2]
    have e : ∀ k : Nat, (⟨(List.replicate k (0 : UInt8)).toArray⟩ : ByteArray).size = k := fun k => by show ((List.replicate k (0 : UInt8)).toArray).size = k; simp
    simp only [e, List.all_nil, Bool.and_true, Bool.and_eq_true, decide_eq_true_eq]
    omega
  have hl : (Gw.Disk.new size).loose = [] := rfl
  have hf0 : (Gw.Disk.new size).firm.data.toList = zeros (Gw.Disk.new size).size.toNat := rfl
  have hlen := markSecs_len 1 1 []
  rw [hlen, show 16 * manyM 1 1 [] / 16 = manyM 1 1 [] by omega] at hr
  have hcur : cur (Gw.Disk.new size) = zeros (Gw.Disk.new size).size.toNat := by rw [cur_firm h0 hl, hf0]
  generalize Gw.Disk.new size = d at *
  have hst := start_size d
  have hsr := slots_room d 1
  have hap := slots_apart d 1
  obtain ⟨b1, b2, b3, b4, b5, b6⟩ := write_spec h0 (slotOf d 1) (manyM 1 1 []) (markSecs 1 1 []) hlen (by omega)
  generalize Gw.Disk.write d (slotOf d 1 : Int) (ba (markSecs 1 1 [])) = D at *
  obtain ⟨l, e1, e2, e3⟩ := flush_spec b3
  have hc := check_firm b3 l e2
  have e4 : cur ⟨D.size, ⟨l.toArray⟩, []⟩ = l := cur_firm hc rfl
  have e5 : ∀ j x, cand ⟨D.size, ⟨l.toArray⟩, []⟩ j x → x = hf (cur D) j := fun j x hx => by
    have := cand_firm (d := ⟨D.size, ⟨l.toArray⟩, []⟩) rfl hx
    rw [this, ← e3]
  rw [e1]
  have hz0 : ∀ j, j < 2 * d.size.toNat → hf (cur d) j = Z := fun j hj => by rw [hcur]; exact zeros_hf _ _ hj
  have eD : slotSz D = slotSz d := by unfold slotSz; rw [b2]
  have eS : start (⟨D.size, ⟨l.toArray⟩, []⟩ : Disk) = start d := by unfold start slotSz; rw [b2]
  have eO : ∀ q, slotOf (⟨D.size, ⟨l.toArray⟩, []⟩ : Disk) q = slotOf d q := fun q => by unfold slotOf slotSz; rw [b2]
  have eZ : slotSz (⟨D.size, ⟨l.toArray⟩, []⟩ : Disk) = slotSz d := by unfold slotSz; rw [b2]
  refine ⟨?_, rfl, rfl, rfl, rfl, rfl, rfl, by show D.size = _; rw [b2, hn], rfl⟩
  exact {
    chk := hc
    small := by show D.size ≤ _; rw [b2]; omega
    seq1 := Nat.le_refl 1
    seq2 := by simp only; omega
    base1 := Nat.le_refl 1
    spl := rfl
    nxt := rfl
    big := by simp only; omega
    ends := by show start d = start _ + 0; rw [eS]; rfl
    room := by show ((start d : Nat) : Int) ≤ D.size; rw [b2]; omega
    recs := fun p hp => by simp at hp
    wts := fun p hp => by simp at hp
    kept1 := Nat.le_refl 1
    logc := fun j hj => by simp [secsOf] at hj
    logd := fun j x hj hx => by simp [secsOf] at hj
    bynd := fun j h1 h2 => by
      have h1 : 2 * start d ≤ j := h1
      have h2 : j < 2 * D.size.toNat := h2
      rw [b2] at h2
      show hf (cur ⟨D.size, ⟨l.toArray⟩, []⟩) j = _
      rw [e4, e3, b6 _ (by omega), if_neg (by omega)]
      exact hz0 j (by omega)
    bynd2 := by
      refine ⟨zeros (D.size.toNat - start d), zeros_len _, take_zeros _ _, fun j x h1 h2 hx => .inl ?_⟩
      have h1 : 2 * start d ≤ j := h1
      have h2 : j < 2 * D.size.toNat := h2
      rw [b2] at h2
      rw [e5 j x hx, b6 _ (by omega), if_neg (by omega)]
      exact hz0 j (by omega)
    sltm := by show _ ≤ slotSz (⟨D.size, ⟨l.toArray⟩, []⟩ : Disk); rw [eZ]; exact Nat.le_of_not_lt hr
    sltd := fun j x hj hx => by
      have hx : cand _ (2 * slotOf (⟨D.size, ⟨l.toArray⟩, []⟩ : Disk) 1 + j) x := hx
      have hj : j < 2 * manyM 1 1 [] := hj
      rw [eO] at hx
      rw [e5 _ x hx, b6 _ (by omega), if_pos (by omega)]
      congr 1; omega
    sltb := fun j x hj hx => by
      have hx : cand _ (2 * slotOf (⟨D.size, ⟨l.toArray⟩, []⟩ : Disk) 1 + j) x := hx
      have hj : j < 2 * slotSz (⟨D.size, ⟨l.toArray⟩, []⟩ : Disk) := hj
      rw [eO] at hx
      rw [eZ] at hj
      rw [e5 _ x hx, b6 _ (by omega)]
      split
      · rw [show 2 * slotOf d 1 + j - 2 * slotOf d 1 = j by omega]
        have := mb_packed 1 (markText 1 []) j (by show j < 2 * manyM 1 1 []; omega)
        rw [mark_seq (by omega)] at this
        show mb j (hf (Gw.Rec.packed 1 (markText 1 [])) j) ≤ 1 + 1
        omega
      · rw [hz0 _ (by omega), mb_zero]; omega
    stl := by simp
    oth0 := fun _ => .inl fun j x hj hx => by
      have hx : cand _ (2 * slotOf (⟨D.size, ⟨l.toArray⟩, []⟩ : Disk) 2 + j) x := hx
      have hj : j < 2 * slotSz (⟨D.size, ⟨l.toArray⟩, []⟩ : Disk) := hj
      have h2 : slotOf d 2 = 0 := rfl
      rw [eO, h2] at hx
      rw [eZ] at hj
      have h3 : slotOf d 1 = slotSz d := rfl
      rw [e5 _ x hx, b6 _ (by omega), if_neg (by omega), hz0 _ (by omega), mb_zero]; omega
    oth1 := fun h1 => by cases h1
    oth2 := fun h1 => by cases h1
    mkd := by simp only; omega
    mkk := fun h1 => absurd rfl h1
    kp := fun _ => Nat.le_refl _
    kp2 := fun h1 => by cases h1
    dk := fun h1 => by cases h1 }
end Gw.Wal


namespace Gw.Wal
open Gw.Disk (Disk)
variable {w : Wal} {R : List (List UInt8)} {st mst : List UInt8}

def slotC (d : Disk) (q : Nat) : List UInt8 := Gw.Disk.read d (slotOf d q : Int) (slotSz d : Int)
theorem slotC_len {d : Disk} (hc : Gw.Disk.check d = true) (q : Nat) : (slotC d q).length = 16 * slotSz d := by
  have h0 := (Gw.Disk.check_spec hc).1
  have := slots_room d q
  have := start_size d
  exact read_len hc _ _ (by omega)
theorem slotC_hf {d : Disk} (hc : Gw.Disk.check d = true) (q : Nat) {j : Nat} (hj : j < 2 * slotSz d) : hf (slotC d q) j = hf (cur d) (2 * slotOf d q + j) := by
  have h0 := (Gw.Disk.check_spec hc).1
  have := slots_room d q
  have := start_size d
  exact read_hf hc _ _ (by omega) _ hj
theorem region_len {d : Disk} (hc : Gw.Disk.check d = true) : (region d).length = 16 * (d.size.toNat - start d) := by
  have h0 := (Gw.Disk.check_spec hc).1
  have := start_size d
  unfold region
  rw [show d.size - (start d : Int) = ((d.size.toNat - start d : Nat) : Int) by omega]
  exact read_len hc _ _ (by omega)
theorem region_hf {d : Disk} (hc : Gw.Disk.check d = true) {j : Nat} (hj : j < 2 * (d.size.toNat - start d)) : hf (region d) j = hf (cur d) (2 * start d + j) := by
  have h0 := (Gw.Disk.check_spec hc).1
  have := start_size d
  unfold region
  rw [show d.size - (start d : Int) = ((d.size.toNat - start d : Nat) : Int) by omega]
  exact read_hf hc _ _ (by omega) _ hj
theorem best_of {d : Disk} {q b : Nat} {st : List UInt8} (h1 : 1 ≤ q) (h2 : q ≤ 200) (h3 : takeMark (slotC d q) q = some (b, st)) (h4 : ∀ q' b' st', slotIn (slotC d (q + 1)) ((q + 1) % 2) = some (q', b', st') → q' < q) : best d = some (q, b, st) := by
  have e0 : ∀ k, k % 2 = 0 → slotC d k = Gw.Disk.read d 0 (slotSz d : Int) := fun k hk => by unfold slotC slotOf; rw [if_neg (by omega)]; rfl
  have e1 : ∀ k, k % 2 = 1 → slotC d k = Gw.Disk.read d (slotSz d : Int) (slotSz d : Int) := fun k hk => by unfold slotC slotOf; rw [if_pos hk]
  have h5 : slotIn (slotC d q) (q % 2) = some (q, b, st) := slotIn_iff.2 ⟨h1, h2, rfl, h3⟩
  unfold best
  rcases Nat.mod_two_eq_zero_or_one q with e | e
  · rw [e0 q e, e] at h5
    rw [e1 (q + 1) (by omega), show (q + 1) % 2 = 1 by omega] at h4
    rw [h5]
    unfold better
    rcases hy : slotIn (Gw.Disk.read d (slotSz d : Int) (slotSz d : Int)) 1 with _ | ⟨q', b', st'⟩
    · rfl
    · have := h4 q' b' st' hy
      simp only
      rw [if_neg (by omega)]
  · rw [e1 q e, e] at h5
    rw [e0 (q + 1) (by omega), show (q + 1) % 2 = 0 by omega] at h4
    rw [h5]
    unfold better
    rcases hy : slotIn (Gw.Disk.read d 0 (slotSz d : Int)) 0 with _ | ⟨q', b', st'⟩
    · rfl
    · have := h4 q' b' st' hy
      simp only
      rw [if_pos (by omega)]
theorem alls_pos {s : List UInt8} {n : Int} {l : List (List UInt8)} {m : Nat} (h : Gw.Rec.Alls s n l m) : ∀ k : Nat, n = (k : Int) → (∃ r, s = Gw.Rec.packs l (k : Int) ++ r) ∧ m = secsOf l k := by
  induction h with
  | nil e => intro k _; exact ⟨⟨_, rfl⟩, rfl⟩
  | @cons s n p i l m e _ ih =>
    rintro k rfl
    obtain ⟨h1, h2, r, h3⟩ := Gw.Rec.take_iff.1 e
    rw [Int.toNat_natCast] at h2 h3
    obtain ⟨⟨r', h4⟩, h5⟩ := ih (k + 1) (by omega)
    have hl := Gw.Rec.packed_len k p
    refine ⟨⟨r', ?_⟩, by rw [secsOf, h2, h5]⟩
    rw [Gw.Rec.packs, Int.toNat_natCast, List.append_assoc]
    rw [h2, h3, List.drop_left' (by omega)] at h4
    rw [h3, h4]
    rfl
/-- What an opening goes on from. -/
structure Ready (d : Disk) (q b : Nat) (st : List UInt8) (R : List (List UInt8)) : Prop where
  q1 : 1 ≤ q
  q2 : q ≤ 200
  b1 : 1 ≤ b
  big : b + R.length ≤ 1000001
  recs : ∀ p ∈ R, p.length ≤ 200
  stl : st.length ≤ 200
  alls : Gw.Rec.Alls (region d) (b : Int) R (secsOf R b)
  m1 : manyM q b st ≤ slotSz d
  m2 : ∀ j, j < 2 * manyM q b st → hf (cur d) (2 * slotOf d q + j) = hf (markSecs q b st) j
  m3 : ∀ j, j < 2 * slotSz d → mb j (hf (cur d) (2 * slotOf d q + j)) ≤ q + 1
  oth : ∀ q', q < q' → q' ≤ 200 → q' % 2 = (q + 1) % 2 → takeMark (slotC d (q + 1)) q' = none
  opn : open_ d = openAt d q b st

theorem Ready.all {d : Disk} {q b : Nat} (h : Ready d q b st R) : Gw.Rec.all (region d) (b : Int) = (R, secsOf R b) := Gw.Rec.all_of h.alls
theorem Ready.inv {d : Disk} (hc : Gw.Disk.check d = true) (hsm : d.size ≤ 1000) (hl : d.loose = []) {q b : Nat} (h : Ready d q b st R) : Inv (openAt d q b st).wal R st [] := by
  have hall := h.all
  have h0 := (Gw.Disk.check_spec hc).1
  have hst := start_size d
  obtain ⟨⟨r, hr⟩, _⟩ := alls_pos h.alls b rfl
  have hrl := region_len hc
  have hpl := packs_len R b
  have hle : start d + secsOf R b ≤ d.size.toNat := by
    have := congrArg List.length hr
    rw [hrl, List.length_append, hpl] at this
    omega
  have hend := alls_end h.alls
  have hb1 := h.b1
  have hbig := h.big
  unfold openAt
  rw [hall]
  simp only
  have hlog : ∀ j, j < 2 * secsOf R b → hf (cur d) (2 * start d + j) = hf (Gw.Rec.packs R (b : Int)) j := fun j hj => by
    rw [← region_hf hc (by omega), hr, hf_append_left _ _ _ (by omega)]
  have cf : ∀ {j x}, cand d j x → x = hf (cur d) j := fun {j x} hx => by rw [cur_firm hc hl]; exact cand_firm hl hx
  obtain ⟨b1, b2, b3, b4, b5, b6⟩ := write_spec hc (start d + secsOf R b) (d.size.toNat - (start d + secsOf R b)) (zeros (d.size.toNat - (start d + secsOf R b))) (zeros_len _) (by omega)
  generalize Gw.Disk.write d ((start d + secsOf R b : Nat) : Int) (ba (zeros (d.size.toNat - (start d + secsOf R b)))) = D at *
  have hsr := slots_room d (q + 1)
  obtain ⟨c1, c2, c3, c4, c5, c6⟩ := write_spec b3 (slotOf d (q + 1)) (slotSz d) (zeros (slotSz d)) (zeros_len _) (by rw [b2]; omega)
  generalize Gw.Disk.write D (slotOf d (q + 1) : Int) (ba (zeros (slotSz d))) = E at *
  have eE : slotSz E = slotSz d := by unfold slotSz; rw [c2, b2]
  have eS : start E = start d := by unfold start; rw [eE]
  have eO : ∀ q, slotOf E q = slotOf d q := fun q => by unfold slotOf; rw [eE]
  have eT : E.size.toNat = d.size.toNat := by rw [c2, b2]
  rw [b2] at c6
  have hap := slots_apart d q
  have hE : ∀ {j x}, cand E j x → (x = hf (cur d) j) ∨ (2 * (start d + secsOf R b) ≤ j ∧ x = Z) ∨ (2 * slotOf d (q + 1) ≤ j ∧ j < 2 * (slotOf d (q + 1) + slotSz d) ∧ x = Z) := fun {j x} hx => by
    rcases c5 _ _ hx with h1 | ⟨h1, h2, h3⟩
    · rcases b5 _ _ h1 with h4 | ⟨h4, h5, h6⟩
      · exact .inl (cf h4)
      · rw [zeros_hf _ _ (by omega)] at h6
        exact .inr (.inl ⟨h4, h6⟩)
    · rw [zeros_hf _ _ (by omega)] at h3
      exact .inr (.inr ⟨h1, h2, h3⟩)
  have hqs := slots_room d q
  exact {
    chk := c3
    small := by show E.size ≤ _; rw [c2, b2]; exact hsm
    seq1 := h.q1
    seq2 := h.q2
    base1 := h.b1
    spl := by simp only; omega
    nxt := by simp only [List.length_nil]; omega
    big := h.big
    ends := by show start d + _ = start E + _; rw [eS]
    room := by show ((start d + secsOf R b : Nat) : Int) ≤ E.size; rw [c2, b2]; omega
    recs := h.recs
    wts := fun p hp => by simp at hp
    kept1 := by simp only; omega
    logc := fun j hj => by
      have hj : j < 2 * secsOf R b := hj
      show hf (cur E) (2 * start E + j) = _
      rw [eS, c6 _ (by omega), if_neg (by omega), b6 _ (by omega), if_neg (by omega)]
      exact hlog j hj
    logd := fun j x hj hx => by
      have hj : j < 2 * secsOf R b := hj
      have hx : cand E (2 * start E + j) x := hx
      rw [eS] at hx
      rcases hE hx with h1 | ⟨h1, _⟩ | ⟨h1, h2, _⟩
      · rw [hlog j hj] at h1; exact .inl h1
      · omega
      · omega
    bynd := fun j h1 h2 => by
      have h1 : 2 * (start d + secsOf R b) ≤ j := h1
      have h2 : j < 2 * E.size.toNat := h2
      show hf (cur E) j = _
      rw [c6 _ (by omega), if_neg (by omega), b6 _ (by omega), if_pos (by omega)]
      exact zeros_hf _ _ (by omega)
    bynd2 := by
      refine ⟨(region d).drop (16 * secsOf R b), ?_, ?_, fun j x h1 h2 hx => ?_⟩
      · show _ = 16 * (E.size.toNat - (start d + secsOf R b))
        rw [List.length_drop, hrl]; omega
      · show Gw.Rec.take _ ((b + R.length - 1 + 1 : Nat) : Int) = none
        rw [show ((b + R.length - 1 + 1 : Nat) : Int) = (b : Int) + (R.length : Int) by omega]
        exact hend
      · have h1 : 2 * (start d + secsOf R b) ≤ j := h1
        have h2 : j < 2 * E.size.toNat := h2
        have hx : cand E j x := hx
        show x = Z ∨ (true = true ∧ x = hf _ (j - 2 * (start d + secsOf R b)))
        rcases hE hx with h3 | ⟨_, h3⟩ | ⟨_, _, h3⟩
        · refine .inr ⟨rfl, ?_⟩
          rw [show 16 * secsOf R b = 8 * (2 * secsOf R b) by omega, hf_drop, region_hf hc (by omega), h3]
          congr 1; omega
        · exact .inl h3
        · exact .inl h3
    sltm := by show _ ≤ slotSz E; rw [eE]; exact h.m1
    sltd := fun j x hj hx => by
      have hj : j < 2 * manyM q b st := hj
      have hx : cand E (2 * slotOf E q + j) x := hx
      have := h.m1
      rw [eO] at hx
      rcases hE hx with h1 | ⟨h1, _⟩ | ⟨h1, h2, _⟩
      · rw [h1]; exact h.m2 j hj
      · omega
      · omega
    sltb := fun j x hj hx => by
      have hj : j < 2 * slotSz E := hj
      have hx : cand E (2 * slotOf E q + j) x := hx
      rw [eE] at hj
      rw [eO] at hx
      rcases hE hx with h1 | ⟨_, h1⟩ | ⟨_, _, h1⟩
      · rw [h1]; exact h.m3 j hj
      · rw [mb_Z h1]; omega
      · rw [mb_Z h1]; omega
    stl := h.stl
    oth0 := fun _ => by
      refine .inr ⟨rfl, fun j hj => ?_, slotC d (q + 1), ?_, h.oth, fun j x hj hx => ?_⟩
      · have hj : j < 2 * slotSz E := hj
        rw [eE] at hj
        show hf (cur E) (2 * slotOf E (q + 1) + j) = Z
        rw [eO, c6 _ (by omega), if_pos (by omega)]
        exact zeros_hf _ _ (by omega)
      · show _ = 16 * slotSz E
        rw [eE]; exact slotC_len hc _
      · have hj : j < 2 * slotSz E := hj
        have hx : cand E (2 * slotOf E (q + 1) + j) x := hx
        rw [eE] at hj
        rw [eO] at hx
        rcases hE hx with h1 | ⟨_, h1⟩ | ⟨_, _, h1⟩
        · rw [slotC_hf hc _ hj]; exact .inr h1
        · exact .inl h1
        · exact .inl h1
    oth1 := fun h1 => by cases h1
    oth2 := fun h1 => by cases h1
    mkd := by simp only; omega
    mkk := fun h1 => absurd rfl h1
    kp := fun _ => Nat.le_refl _
    kp2 := fun h1 => by cases h1
    dk := fun _ => rfl }
/-- WHAT AN OPENING FINDS: on a disk each half of which may be there. -/
theorem Inv.opened (h : Inv w R st mst) {d : Disk} (hc : Gw.Disk.check d = true) (hsz : d.size = w.disk.size) (hcand : ∀ j, j < 2 * w.disk.size.toNat → cand w.disk j (hf (cur d) j)) :
    (w.marked ≠ 2 ∧ ∃ m, m ≤ R.length ∧ w.kept + 1 ≤ w.base + m ∧ (w.dirty = true → m = R.length) ∧ Ready d w.seq w.base st (R.take m)) ∨ (w.marked ≠ 0 ∧ Ready d (w.seq + 1) w.markNext mst []) := by
  have h0 := h.size0
  have eZ : slotSz d = slotSz w.disk := by unfold slotSz; rw [hsz]
  have eS : start d = start w.disk := by unfold start; rw [eZ]
  have eO : ∀ q, slotOf d q = slotOf w.disk q := fun q => by unfold slotOf; rw [eZ]
  have eT : d.size.toNat = w.disk.size.toNat := by rw [hsz]
  obtain ⟨n1, n2, n3⟩ := h.szN
  have hspl := h.spl
  have hnxt := h.nxt
  have hends := h.ends
  have hbig := h.big
  have hb1 := h.base1
  have hq1 := h.seq1
  have hq2 := h.seq2
  have hrl := region_len hc
  have hopen : ∀ {q b : Nat} {s : List UInt8}, best d = some (q, b, s) → open_ d = openAt d q b s := fun {q b s} hb => by
    unfold open_; rw [if_neg (by rw [hc]; simp), hb]
  have slc : ∀ q {j}, j < 2 * slotSz w.disk → cand w.disk (2 * slotOf w.disk q + j) (hf (slotC d q) j) := fun q {j} hj => by
    rw [slotC_hf hc q (by omega), eO]
    exact hcand _ (h.slotlt q hj)
  have rgc : ∀ {j}, j < 2 * (w.disk.size.toNat - start w.disk) → cand w.disk (2 * start w.disk + j) (hf (region d) j) := fun {j} hj => by
    rw [region_hf hc (by omega), eS]
    exact hcand _ (by omega)
  -- the mark of seq
  have hcur2 : ∀ j, j < 2 * manyM w.seq w.base st → hf (slotC d w.seq) j = hf (markSecs w.seq w.base st) j := fun j hj => h.sltd j _ hj (slc _ (by have := h.sltm; omega))
  have hsl := h.sltm
  have hmine : takeMark (slotC d w.seq) w.seq = some (w.base, st) := takeMark_at hq1 (by omega) hb1 (by omega) h.stl (by rw [slotC_len hc]; omega) hcur2
  have hm3 : ∀ j, j < 2 * slotSz d → mb j (hf (cur d) (2 * slotOf d w.seq + j)) ≤ w.seq + 1 := fun j hj => by
    rw [← slotC_hf hc _ hj]
    exact h.sltb j _ (by omega) (slc _ (by omega))
  -- the log, as of base
  have hlog : w.marked ≠ 2 → ∃ m, m ≤ R.length ∧ w.kept + 1 ≤ w.base + m ∧ (w.dirty = true → m = R.length) ∧ Gw.Rec.Alls (region d) (w.base : Int) (R.take m) (secsOf (R.take m) w.base) := fun hm => by
    have hkp := h.kp hm
    obtain ⟨G, g1, g2, g3⟩ := h.bynd2
    obtain ⟨m, a1, a2, a3⟩ := alls_prefix R w.base (w.kept + 1 - w.base) (region d) hb1 (by omega) (fun p hp => by have := h.recs p hp; omega) (by omega) (fun j hj => by
      rcases h.logd j _ hj (rgc (by omega)) with h1 | ⟨_, h1, h2⟩
      · exact .inl h1
      · exact .inr ⟨h1, h2⟩) (by
      rcases ht : Gw.Rec.take ((region d).drop (16 * secsOf R w.base)) ((w.base + R.length : Nat) : Int) with _ | ⟨p, k⟩
      · rfl
      · exfalso
        rw [← hspl] at ht
        have := (take_half.1 ht).2.2.1
        rw [List.length_drop] at this
        have h5 : Gw.Rec.take G ((w.spilled + 1 : Nat) : Int) = some (p, k) := take_sub (by rw [List.length_drop]; omega) ht (fun j hj hmb => by
          have e : hf ((region d).drop (16 * secsOf R w.base)) j = hf (region d) (2 * secsOf R w.base + j) := by
            rw [show 16 * secsOf R w.base = 8 * (2 * secsOf R w.base) by omega, hf_drop]
          rw [e] at hmb ⊢
          have h6 := rgc (j := 2 * secsOf R w.base + j) (by omega)
          rcases g3 (2 * start w.disk + (2 * secsOf R w.base + j)) _ (by omega) (by omega) h6 with h7 | ⟨_, h7⟩
          · rw [h7, mb_zero] at hmb
            have := mark_pos ((w.spilled + 1 : Nat) : Int).toNat
            omega
          · rw [h7]; congr 1; omega)
        rw [g2] at h5; cases h5)
    exact ⟨m, a1, by omega, fun hd => by have := h.dk hd; omega, a3⟩
  -- the log, as of a base behind it
  have hold : w.marked ≠ 0 → Gw.Rec.take (region d) (w.markNext : Int) = none := fun hm => by
    obtain ⟨k1, k2, k3, k4, k5, k6⟩ := h.mkk hm
    rcases ht : Gw.Rec.take (region d) (w.markNext : Int) with _ | ⟨p, k⟩
    · rfl
    · exfalso
      have := (take_half.1 ht).2.2.1
      have h5 : Gw.Rec.take (Gw.Rec.packs R (w.base : Int) ++ zeros (w.disk.size.toNat - w.end_)) (w.markNext : Int) = some (p, k) := take_sub (by rw [List.length_append, packs_len, zeros_len]; omega) ht (fun j hj hmb => by
        have hpos := mark_pos (w.markNext : Int).toNat
        rw [old_hf _ (by omega)]
        have h6 := rgc (j := j) (by omega)
        split
        · rename_i hjs
          rcases h.logd j _ hjs h6 with h7 | ⟨_, h7, _⟩
          · exact h7
          · rw [h7, mb_zero] at hmb; omega
        · obtain ⟨G, g1, g2, g3⟩ := h.bynd2
          rcases g3 _ _ (by omega) (by omega) h6 with h7 | ⟨h7, _⟩
          · exact h7
          · rw [k1] at h7; cases h7)
      rw [take_old hb1 (by omega) h.recs (by omega)] at h5
      cases h5
  -- the other slot: what is told of it is older, or the mark that was written
  have hother : ∀ q x, w.seq < q → q ≤ 200 → q % 2 = (w.seq + 1) % 2 → takeMark (slotC d (w.seq + 1)) q = some x → w.marked ≠ 0 ∧ q = w.seq + 1 ∧ x = (w.markNext, mst) ∧ (∀ j, j < 2 * manyM (w.seq + 1) w.markNext mst → hf (slotC d (w.seq + 1)) j = hf (markSecs (w.seq + 1) w.markNext mst) j) := fun q x hq hq200 hpar ht => by
    obtain ⟨p, k, ht1, ht2⟩ := takeMark_take ht
    obtain ⟨u1, u2, u3, u4⟩ := take_half.1 ht1
    rw [Int.toNat_natCast] at u2 u4
    have hkpos := Gw.Rec.many_pos q p
    rw [slotC_len hc] at u3
    have hmbs : ∀ j, j < 2 * k → mb j (hf (slotC d (w.seq + 1)) j) = q + 1 := fun j hj => by
      rw [u4 j hj, mb_packed _ _ _ (by omega), mark_seq (by omega)]
    have hm0 : w.marked ≠ 0 := fun hm => by
      rcases h.oth0 hm with h5 | ⟨_, _, G, g1, g2, g3⟩
      · have := h5 0 _ (by omega) (slc (w.seq + 1) (by omega))
        have := hmbs 0 (by omega)
        omega
      · have h6 : takeMark G q = some x := takeMark_sub (by rw [slotC_len hc]; omega) ht (fun j hj hmb => by
          rw [slotC_len hc] at hj
          rcases g3 j _ (by omega) (slc (w.seq + 1) (by omega)) with h7 | h7
          · rw [h7, mb_zero] at hmb
            have := mark_pos q
            omega
          · exact h7)
        rw [g2 q hq hq200 hpar] at h6
        cases h6
    obtain ⟨k1, k2, k3, k4, k5, k6⟩ := h.mkk hm0
    have key : ∀ j, j < 2 * k → j < 2 * manyM (w.seq + 1) w.markNext mst ∧ hf (slotC d (w.seq + 1)) j = hf (markSecs (w.seq + 1) w.markNext mst) j := fun j hj => by
      have h7 := hmbs j hj
      have h12 : w.marked = 1 ∨ w.marked = 2 := by have := h.mkd; omega
      rcases h12 with h12 | h12
      · rcases (h.oth1 h12).1 j _ (by omega) (slc (w.seq + 1) (by omega)) with h8 | h8
        · omega
        · exact h8
      · have h8 := h.oth2 h12 j _ (by omega) (slc (w.seq + 1) (by omega))
        split at h8
        · rename_i h9; exact ⟨h9, h8⟩
        · omega
    have hqs : q = w.seq + 1 := by
      have h7 := key 0 (by omega)
      have h8 := hmbs 0 (by omega)
      rw [h7.2] at h8
      have := mb_packed (w.seq + 1) (markText w.markNext mst) 0 h7.1
      rw [mark_seq (by omega)] at this
      have h9 : mb 0 (hf (markSecs (w.seq + 1) w.markNext mst) 0) = w.seq + 1 + 1 := this
      omega
    subst hqs
    have hmay := may_mark (q := w.seq + 1) (b := w.markNext) (st := mst) (by omega) (by omega) (by omega) k5
    have h10 : Gw.Rec.take (markSecs (w.seq + 1) w.markNext mst ++ zeros (slotSz d)) ((w.seq + 1 : Nat) : Int) = some (p, k) := take_sub (by rw [slotC_len hc, List.length_append, zeros_len]; omega) ht1 (fun j hj _ => by
      have := key j hj
      rw [hf_append_left _ _ _ (by rw [markSecs_len]; omega)]
      exact this.2)
    have h11 := Gw.Rec.take_pack hmay (zeros (slotSz d))
    rw [Int.toNat_natCast] at h11
    have h12 : Gw.Rec.take (markSecs (w.seq + 1) w.markNext mst ++ zeros (slotSz d)) ((w.seq + 1 : Nat) : Int) = some (markText w.markNext mst, manyM (w.seq + 1) w.markNext mst) := h11
    rw [h12] at h10
    simp only [Option.some.injEq, Prod.mk.injEq] at h10
    obtain ⟨rfl, rfl⟩ := h10
    rw [markOf_text (by omega) (by omega) (by omega)] at ht2
    exact ⟨hm0, rfl, (Option.some.inj ht2).symm, fun j hj => (key j hj).2⟩
  -- the mark that was written
  have hnew : w.marked ≠ 0 → takeMark (slotC d (w.seq + 1)) (w.seq + 1) = some (w.markNext, mst) → (∀ j, j < 2 * manyM (w.seq + 1) w.markNext mst → hf (slotC d (w.seq + 1)) j = hf (markSecs (w.seq + 1) w.markNext mst) j) → Ready d (w.seq + 1) w.markNext mst [] := fun hm ht hs => by
    obtain ⟨k1, k2, k3, k4, k5, k6⟩ := h.mkk hm
    have hbest : best d = some (w.seq + 1, w.markNext, mst) := best_of (by omega) (by omega) ht (fun q b s hq => by
      obtain ⟨v1, v2, v3, v4⟩ := slotIn_iff.1 hq
      obtain ⟨w1, w2⟩ := takeMark_mb v4
      rw [mark_seq (by omega)] at w2
      have e : slotC d (w.seq + 1 + 1) = slotC d w.seq := by unfold slotC; rw [slots_two]
      rw [e] at w1 w2
      rw [slotC_len hc] at w1
      have := hm3 0 (by omega)
      rw [← slotC_hf hc _ (by omega)] at this
      omega)
    exact {
      q1 := by omega
      q2 := by omega
      b1 := by omega
      big := by simp only [List.length_nil]; omega
      recs := fun p hp => by simp at hp
      stl := k5
      alls := .nil (hold hm)
      m1 := by omega
      m2 := fun j hj => by rw [← slotC_hf hc _ (by omega)]; exact hs j hj
      m3 := fun j hj => by
        rw [← slotC_hf hc _ hj]
        have h12 : w.marked = 1 ∨ w.marked = 2 := by have := h.mkd; omega
        have hnm : ∀ j, j < 2 * manyM (w.seq + 1) w.markNext mst → mb j (hf (markSecs (w.seq + 1) w.markNext mst) j) = w.seq + 2 := fun j hj => by
          have := mb_packed (w.seq + 1) (markText w.markNext mst) j hj
          rw [mark_seq (by omega)] at this
          exact this
        rcases h12 with h12 | h12
        · rcases (h.oth1 h12).1 j _ (by omega) (slc (w.seq + 1) (by omega)) with h8 | ⟨h8, h9⟩
          · omega
          · rw [h9, hnm j h8]; omega
        · have h8 := h.oth2 h12 j _ (by omega) (slc (w.seq + 1) (by omega))
          split at h8
          · rename_i h9; rw [h8, hnm j h9]; omega
          · omega
      oth := fun q hq hq200 hpar => by
        rcases ht2 : takeMark (slotC d (w.seq + 1 + 1)) q with _ | x
        · rfl
        · exfalso
          obtain ⟨w1, w2⟩ := takeMark_mb ht2
          rw [mark_seq (by omega)] at w2
          have e : slotC d (w.seq + 1 + 1) = slotC d w.seq := by unfold slotC; rw [slots_two]
          rw [e] at w1 w2
          rw [slotC_len hc] at w1
          have := hm3 0 (by omega)
          rw [← slotC_hf hc _ (by omega)] at this
          omega
      opn := hopen hbest }
  by_cases hn : takeMark (slotC d (w.seq + 1)) (w.seq + 1) = none ∨ w.seq = 200
  · -- the elder one
    have hno : ∀ q, w.seq < q → q ≤ 200 → q % 2 = (w.seq + 1) % 2 → takeMark (slotC d (w.seq + 1)) q = none := fun q hq hq200 hpar => by
      rcases ht : takeMark (slotC d (w.seq + 1)) q with _ | x
      · rfl
      · obtain ⟨_, e, _⟩ := hother q x hq hq200 hpar ht
        subst e
        rcases hn with hn | hn
        · rw [hn] at ht; cases ht
        · omega
    have hm2 : w.marked ≠ 2 := fun hm => by
      obtain ⟨k1, k2, k3, k4, k5, k6⟩ := h.mkk (by omega)
      have := takeMark_at (s := slotC d (w.seq + 1)) (q := w.seq + 1) (b := w.markNext) (st := mst) (by omega) (by omega) (by omega) (by omega) k5 (by rw [slotC_len hc]; omega) (fun j hj => by
        have h8 := h.oth2 hm j _ (by omega) (slc (w.seq + 1) (by omega))
        rw [if_pos hj] at h8
        exact h8)
      rcases hn with hn | hn
      · rw [hn] at this; cases this
      · omega
    have hbest : best d = some (w.seq, w.base, st) := best_of hq1 hq2 hmine (fun q b s hq => by
      obtain ⟨v1, v2, v3, v4⟩ := slotIn_iff.1 hq
      rcases Nat.lt_trichotomy q w.seq with e | e | e
      · exact e
      · omega
      · rw [hno q e v2 v3] at v4; cases v4)
    obtain ⟨m, a1, a2, a3, a4⟩ := hlog hm2
    refine .inl ⟨hm2, m, a1, a2, a3, ?_⟩
    exact {
      q1 := hq1
      q2 := hq2
      b1 := hb1
      big := by rw [List.length_take]; omega
      recs := fun p hp => h.recs p (List.mem_of_mem_take hp)
      stl := h.stl
      alls := a4
      m1 := by omega
      m2 := fun j hj => by rw [← slotC_hf hc _ (by omega)]; exact hcur2 j hj
      m3 := hm3
      oth := hno
      opn := hopen hbest }
  · -- the one that was written
    have h1 : ∃ x, takeMark (slotC d (w.seq + 1)) (w.seq + 1) = some x := by
      rcases ht : takeMark (slotC d (w.seq + 1)) (w.seq + 1) with _ | x
      · exact absurd (.inl ht) hn
      · exact ⟨x, rfl⟩
    obtain ⟨x, hx⟩ := h1
    obtain ⟨e1, _, rfl, e3⟩ := hother (w.seq + 1) x (by omega) (by omega) rfl hx
    exact .inr ⟨e1, hnew e1 hx e3⟩
end Gw.Wal


namespace Gw.Wal
open Gw.Disk (Disk)
variable {w : Wal} {R : List (List UInt8)} {st mst : List UInt8}

theorem Inv.crashDisk (h : Inv w R st mst) (p : ByteArray) : Gw.Disk.check (Gw.Disk.crash w.disk p) = true ∧ (Gw.Disk.crash w.disk p).size = w.disk.size ∧ (Gw.Disk.crash w.disk p).loose = [] ∧ ∀ j, j < 2 * w.disk.size.toNat → cand w.disk j (hf (cur (Gw.Disk.crash w.disk p)) j) := by
  obtain ⟨l, e1, e2, e3⟩ := crash_spec h.chk p
  have hc := check_firm h.chk l e2
  have e4 : cur ⟨w.disk.size, ⟨l.toArray⟩, []⟩ = l := cur_firm hc rfl
  rw [e1]
  exact ⟨hc, rfl, rfl, fun j hj => by rw [e4]; exact e3 j hj⟩
theorem Inv.flushDisk (h : Inv w R st mst) : Gw.Disk.check (Gw.Disk.flush w.disk) = true ∧ (Gw.Disk.flush w.disk).size = w.disk.size ∧ (Gw.Disk.flush w.disk).loose = [] ∧ ∀ j, j < 2 * w.disk.size.toNat → cand w.disk j (hf (cur (Gw.Disk.flush w.disk)) j) := by
  obtain ⟨l, e1, e2, e3, e4⟩ := h.flushed
  rw [e1]
  exact ⟨e2, rfl, rfl, fun j hj => by rw [e3]; exact h.cc hj⟩
/-- What an opening tells of a log. -/
structure Told (w : Wal) (R : List (List UInt8)) (st mst : List UInt8) (o : Opened) (q b : Nat) (s : List UInt8) (R' : List (List UInt8)) : Prop where
  err : o.err = 0
  state : o.state = s
  recs : o.recs = R'
  seq : o.wal.seq = q
  base : o.wal.base = b
  next : o.wal.next = b + R'.length
  kept : o.wal.kept + 1 = b + R'.length
  spilled : o.wal.spilled + 1 = b + R'.length
  waits : o.wal.waits = []
  marked : o.wal.marked = 0
  dirty : o.wal.dirty = true
  how : (w.marked ≠ 2 ∧ q = w.seq ∧ b = w.base ∧ s = st ∧ ∃ m, m ≤ R.length ∧ R' = R.take m ∧ w.kept + 1 ≤ w.base + m ∧ (w.dirty = true → m = R.length)) ∨ (w.marked ≠ 0 ∧ q = w.seq + 1 ∧ b = w.markNext ∧ s = mst ∧ R' = [])
theorem told_of {d : Disk} {q b : Nat} {s : List UInt8} {R' : List (List UInt8)} (hr : Ready d q b s R') (how : (w.marked ≠ 2 ∧ q = w.seq ∧ b = w.base ∧ s = st ∧ ∃ m, m ≤ R.length ∧ R' = R.take m ∧ w.kept + 1 ≤ w.base + m ∧ (w.dirty = true → m = R.length)) ∨ (w.marked ≠ 0 ∧ q = w.seq + 1 ∧ b = w.markNext ∧ s = mst ∧ R' = [])) :
    Told w R st mst (open_ d) q b s R' ∧ (open_ d).wal.end_ = start d + secsOf R' b := by
  have hall := hr.all
  have hb := hr.b1
  rw [hr.opn]
  unfold openAt
  rw [hall]
  exact ⟨⟨rfl, rfl, rfl, rfl, rfl, rfl, by simp only; omega, by simp only; omega, rfl, rfl, rfl, how⟩, rfl⟩
theorem Inv.told (h : Inv w R st mst) {d : Disk} (hc : Gw.Disk.check d = true) (hsz : d.size = w.disk.size) (hcand : ∀ j, j < 2 * w.disk.size.toNat → cand w.disk j (hf (cur d) j)) :
    ∃ q b s R', Told w R st mst (open_ d) q b s R' ∧ (d.loose = [] → Inv (open_ d).wal R' s []) ∧ (open_ d).wal.end_ = start d + secsOf R' b := by
  rcases h.opened hc hsz hcand with ⟨h1, m, h2, h3, h4, h5⟩ | ⟨h1, h5⟩
  · obtain ⟨a, b⟩ := told_of (w := w) (R := R) (st := st) (mst := mst) h5 (.inl ⟨h1, rfl, rfl, rfl, m, h2, rfl, h3, h4⟩)
    exact ⟨_, _, _, _, a, fun hl => by rw [h5.opn]; exact h5.inv hc (by rw [hsz]; exact h.small) hl, b⟩
  · obtain ⟨a, b⟩ := told_of (w := w) (R := R) (st := st) (mst := mst) h5 (.inr ⟨h1, rfl, rfl, rfl, rfl⟩)
    exact ⟨_, _, _, _, a, fun hl => by rw [h5.opn]; exact h5.inv hc (by rw [hsz]; exact h.small) hl, b⟩
theorem Inv.crashed (h : Inv w R st mst) (p : ByteArray) : ∃ q b s R', Told w R st mst (open_ (Gw.Disk.crash w.disk p)) q b s R' ∧ Inv (open_ (Gw.Disk.crash w.disk p)).wal R' s [] := by
  obtain ⟨a1, a2, a3, a4⟩ := h.crashDisk p
  obtain ⟨q, b, s, R', h1, h2, _⟩ := h.told a1 a2 a4
  exact ⟨q, b, s, R', h1, h2 a3⟩
/-- A step. -/
theorem Inv.step (h : Inv w R st mst) (k : Int) {p : List UInt8} (hp : p.length ≤ 200) : ∃ R' st' mst', Inv (step w k p).1 R' st' mst' := by
  unfold Gw.Wal.step
  split
  · exact ⟨_, _, _, h.appended hp⟩
  split
  · rcases h.spill with ⟨_, e⟩ | ⟨_, _, _, e⟩ | ⟨_, _, e, _⟩
    · rw [e]; exact ⟨_, _, _, h⟩
    · rw [e]; exact ⟨_, _, _, h⟩
    · exact ⟨_, _, _, e⟩
  split
  · exact ⟨_, _, _, h.sync⟩
  split
  · rcases h.mark hp with ⟨_, e⟩ | ⟨_, _, _, e, _⟩
    · rw [e]; exact ⟨_, _, _, h⟩
    · exact ⟨_, _, _, e⟩
  split
  · rcases h.wipe with ⟨_, e⟩ | ⟨_, _, e, _⟩
    · rw [e]; exact ⟨_, _, _, h⟩
    · exact ⟨_, _, _, e⟩
  split
  · obtain ⟨_, _, _, _, _, h1⟩ := h.crashed (ba p)
    exact ⟨_, _, _, h1⟩
  split
  · obtain ⟨_, _, _, _, _, h1⟩ := h.crashed (ba p)
    obtain ⟨_, _, _, _, _, h2⟩ := h1.crashed (ba p)
    exact ⟨_, _, _, h2⟩
  · exact ⟨_, _, _, h⟩
theorem flush_le (d : Disk) : (Gw.Disk.flush d).loose.length ≤ d.loose.length := by
  unfold Gw.Disk.flush
  split
  · exact Nat.zero_le _
  · exact Nat.le_refl _
theorem settle_le (w : Wal) : (settle w).disk.loose.length ≤ w.disk.loose.length := by
  unfold settle
  split
  · exact flush_le _
  · exact Nat.le_refl _
theorem many_ba (s : List UInt8) : Gw.Disk.manyOf (ba s) = (s.length + 15) / 16 := rfl
theorem open_le {d : Disk} (hl : d.loose = []) (hs : d.size ≤ 1000) : (open_ d).wal.disk.loose.length ≤ 2000 := by
  unfold open_
  split
  · exact Nat.zero_le _
  rename_i hc
  have hc : Gw.Disk.check d = true := by simpa using hc
  have h0 := (Gw.Disk.check_spec hc).1
  split
  · exact Nat.zero_le _
  · rename_i q b s _
    unfold openAt
    have h1 := Gw.Disk.write_len d ((start d + (Gw.Rec.all (region d) b).2 : Nat) : Int) (ba (zeros (d.size.toNat - (start d + (Gw.Rec.all (region d) b).2))))
    have h2 := Gw.Disk.write_len (Gw.Disk.write d ((start d + (Gw.Rec.all (region d) b).2 : Nat) : Int) (ba (zeros (d.size.toNat - (start d + (Gw.Rec.all (region d) b).2))))) (slotOf d (q + 1)) (ba (zeros (slotSz d)))
    rw [many_ba, zeros_len] at h1 h2
    rw [hl, List.length_nil] at h1
    have h3 : slotSz d = d.size.toNat / 4 := rfl
    simp only
    omega
theorem Inv.looseLe (h : Inv w R st mst) (k : Int) (p : List UInt8) : (Gw.Wal.step w k p).1.disk.loose.length ≤ w.disk.loose.length + 2000 := by
  have hsm := h.small
  have h0 := h.size0
  have hsl := settle_le w
  have hsz : slotSz w.disk = w.disk.size.toNat / 4 := rfl
  unfold Gw.Wal.step
  split
  · unfold Gw.Wal.append
    split
    · simp
    · simp
  split
  · unfold Gw.Wal.spill
    split
    · simp
    split
    · simp
    split
    · simp
    rename_i h3 _
    have h1 := Gw.Disk.write_len (Gw.Wal.settle w).disk w.end_ (ba (spillText w))
    rw [many_ba, spillText_len] at h1
    rw [spillText_len] at h3
    simp only
    omega
  split
  · have := flush_le w.disk
    unfold Gw.Wal.sync
    split
    · simp only; omega
    · simp only; omega
  split
  · unfold Gw.Wal.mark
    split
    · simp
    split
    · simp
    split
    · simp
    rename_i h3
    have h1 := Gw.Disk.write_len (Gw.Wal.settle w).disk (slotOf w.disk (w.seq + 1)) (ba (markSecs (w.seq + 1) w.next p))
    rw [many_ba, markSecs_len] at h1
    rw [markSecs_len] at h3
    simp only
    omega
  split
  · unfold Gw.Wal.wipe
    split
    · simp
    have h1 := Gw.Disk.write_len w.disk (start w.disk) (ba (zeros (w.disk.size.toNat - start w.disk)))
    rw [many_ba, zeros_len] at h1
    simp only
    omega
  split
  · obtain ⟨a1, a2, a3, a4⟩ := h.crashDisk (ba p)
    have := open_le a3 (by omega)
    simp only
    omega
  split
  · obtain ⟨_, _, _, _, _, h1⟩ := h.crashed (ba p)
    obtain ⟨a1, a2, a3, a4⟩ := h1.crashDisk (ba p)
    have := open_le a3 (by rw [a2]; exact h1.small)
    simp only
    omega
  · simp
end Gw.Wal


namespace Gw.Wal
variable {w : Wal} {R : List (List UInt8)} {st mst : List UInt8}
theorem Inv.nums (h : Inv w R st mst) (k : Int) {p : List UInt8} : (k = 1 ∧ (Gw.Wal.step w k p).2 = 0 ∧ (Gw.Wal.step w k p).1.next = w.next + 1) ∨ (k = 1 ∧ (Gw.Wal.step w k p).2 ≠ 0) ∨ (k = 2 ∧ (Gw.Wal.step w k p).2 = 0 ∧ (Gw.Wal.step w k p).1.spilled + 1 = (Gw.Wal.step w k p).1.next ∧ (Gw.Wal.step w k p).1.waits.length = 0) ∨ (k = 2 ∧ (Gw.Wal.step w k p).2 ≠ 0) ∨ (k = 3 ∧ (Gw.Wal.step w k p).1.spilled ≤ (Gw.Wal.step w k p).1.kept) ∨ (k ≠ 1 ∧ k ≠ 2 ∧ k ≠ 3) := by
  by_cases k1 : k = 1
  · subst k1
    by_cases he : (Gw.Wal.step w 1 p).2 = 0
    · refine .inl ⟨rfl, he, ?_⟩
      have e : Gw.Wal.step w 1 p = ((Gw.Wal.append w p).1, (Gw.Wal.append w p).2.2) := rfl
      rw [e] at he ⊢
      unfold Gw.Wal.append at he ⊢
      split
      · rename_i hc; rw [if_pos hc] at he; cases he
      · rfl
    · exact .inr (.inl ⟨rfl, he⟩)
  by_cases k2 : k = 2
  · subst k2
    have e : Gw.Wal.step w 2 p = Gw.Wal.spill w := rfl
    rw [e]
    rcases h.spill with ⟨g1, _⟩ | ⟨g1, g2, _, g4⟩ | ⟨g1, _, _, g4, g5, _, _, _, g9, _⟩
    · exact .inr (.inr (.inr (.inl ⟨rfl, g1⟩)))
    · refine .inr (.inr (.inl ⟨rfl, g1, ?_, ?_⟩))
      · rw [g4]; have := h.nxt; rw [g2] at this; simp at this; omega
      · rw [g4, g2]; rfl
    · exact .inr (.inr (.inl ⟨rfl, g1, by rw [g5, g9], by rw [g4]; rfl⟩))
  by_cases k3 : k = 3
  · subst k3
    refine .inr (.inr (.inr (.inr (.inl ⟨rfl, ?_⟩))))
    show (Gw.Wal.sync w).spilled ≤ (Gw.Wal.sync w).kept
    unfold Gw.Wal.sync
    split
    · exact Nat.le_refl _
    · simp only; omega
  · exact .inr (.inr (.inr (.inr (.inr ⟨k1, k2, k3⟩))))
theorem Inv.ends2 (h : Inv w R st mst) : w.waits.length + w.spilled + 1 = w.next ∧ w.base ≤ w.next ∧ 1 ≤ w.base ∧ (w.end_ : Int) ≤ w.disk.size ∧ 2 * (w.disk.size / 4) ≤ (w.end_ : Int) ∧ w.kept < w.next ∧ 1 ≤ w.seq ∧ w.seq ≤ 200 ∧ 0 ≤ w.disk.size ∧ w.disk.size ≤ 1000 ∧ w.next ≤ 1000001 := by
  have h0 := h.size0
  have h1 := h.ends
  have h2 := h.spl
  have h3 := h.nxt
  have h4 := h.kp
  have h5 := h.kp2
  have h6 := h.mkk
  have h7 := h.mkd
  have hk : w.kept < w.next := by
    by_cases hm : w.marked = 2
    · have := h5 hm
      obtain ⟨_, _, a, b, _⟩ := h6 (by omega)
      omega
    · have := h4 hm; omega
  have hs : (start w.disk : Int) = 2 * (w.disk.size / 4) := by unfold start slotSz; omega
  refine ⟨by omega, by omega, h.base1, h.room, by omega, hk, h.seq1, h.seq2, h0, h.small, h.big⟩
theorem new_loose {size : Int} (hs : size ≤ 1000) (he : (new size).2 = 0) : (new size).1.disk.loose = [] := by
  have hc := (new_inv hs he).1.chk
  unfold new at he hc ⊢
  split
  · rfl
  · rename_i h
    rw [if_neg h] at hc
    simp only at hc ⊢
    generalize Gw.Disk.write (Gw.Disk.new size) _ _ = X at *
    by_cases hx : Gw.Disk.check X = true
    · unfold Gw.Disk.flush; rw [if_pos hx]
    · unfold Gw.Disk.flush at hc; rw [if_neg hx] at hc; exact absurd hc hx
end Gw.Wal


namespace Gw.Wal
open Gw.Disk (Disk)
variable {w : Wal} {R : List (List UInt8)} {st mst : List UInt8}

/-- A log that was opened is opened again as it was. -/
theorem Inv.again (h : Inv w R st mst) (hm : w.marked = 0) (hd : w.dirty = true) {d : Disk} (hc : Gw.Disk.check d = true) (hsz : d.size = w.disk.size) (hcand : ∀ j, j < 2 * w.disk.size.toNat → cand w.disk j (hf (cur d) j)) :
    (open_ d).err = 0 ∧ (open_ d).state = st ∧ (open_ d).recs = R ∧ (open_ d).wal.seq = w.seq ∧ (open_ d).wal.base = w.base ∧ (open_ d).wal.next = w.base + R.length ∧ (open_ d).wal.end_ = w.end_ := by
  obtain ⟨q, b, s, R', t, _, he⟩ := h.told hc hsz hcand
  rcases t.how with ⟨_, rfl, rfl, rfl, m, h1, rfl, h2, h3⟩ | ⟨h1, _⟩
  · have hmR := h3 hd
    have hRR : R.take m = R := by rw [hmR, List.take_length]
    rw [hRR] at t he
    refine ⟨t.err, t.state, t.recs, t.seq, t.base, t.next, ?_⟩
    rw [he, h.ends]
    unfold start slotSz
    rw [hsz]
  · exact absurd hm h1
theorem many_le17 {n : Nat} {p : List UInt8} (hn : n ≤ 1000001) (hp : p.length ≤ 200) : Gw.Rec.many (Gw.Rec.bytes n p) ≤ 17 := by
  have h1 := Gw.Rec.one_le (n := n) (by omega)
  have h2 := Gw.Rec.one_le (n := p.length) (by omega)
  have h3 := Gw.Rec.seal_len (Gw.Rec.body n p)
  have h4 : (Gw.Rec.body n p).length = (Gw.Vlq.one n).length + ((Gw.Vlq.one p.length).length + p.length) := by unfold Gw.Rec.body; rw [List.length_append, List.length_append, Nat.add_assoc]
  have h5 := Gw.Rec.one_le (n := (Gw.Sums.seal_ (Gw.Rec.body n p)).length) (by omega)
  have h6 : (Gw.Rec.bytes n p).length = (Gw.Vlq.one (Gw.Sums.seal_ (Gw.Rec.body n p)).length).length + (Gw.Sums.seal_ (Gw.Rec.body n p)).length := by rw [Gw.Rec.bytes_eq, List.length_append]
  unfold Gw.Rec.many
  omega
theorem secsOf_le : ∀ (l : List (List UInt8)) (n : Nat), (∀ p ∈ l, p.length ≤ 200) → n + l.length ≤ 1000001 → secsOf l n ≤ 17 * l.length
  | [], _, _, _ => Nat.zero_le _
  | p :: l, n, h, hn => by
    rw [List.length_cons] at hn
    have h1 := secsOf_le l (n + 1) (fun q hq => h q (List.mem_cons_of_mem _ hq)) (by omega)
    have h2 := many_le17 (n := n) (p := p) (by omega) (h p (List.mem_cons_self ..))
    rw [secsOf, List.length_cons]; omega
theorem secsOf_ge : ∀ (l : List (List UInt8)) (n : Nat), l.length ≤ secsOf l n
  | [], _ => Nat.zero_le _
  | p :: l, n => by
    have h1 := secsOf_ge l (n + 1)
    have h2 := Gw.Rec.many_pos n p
    rw [secsOf, List.length_cons]; omega
theorem Inv.spillOk (h : Inv w R st mst) (hm : w.marked = 0) (hr : (w.end_ : Int) + 17 * (w.waits.length : Int) ≤ w.disk.size) : (Gw.Wal.spill w).2 = 0 := by
  have h1 := secsOf_le w.waits (w.spilled + 1) h.wts (by have := h.nxt; have := h.big; omega)
  unfold Gw.Wal.spill
  rw [if_neg (show ¬ w.marked ≠ 0 from fun e => e hm), spillText_len, if_neg (by omega)]
  split <;> rfl
/-- A log between two rounds of WalSyncs; and in one, ahead of what is appended. -/
structure SyS (a all : List (List UInt8)) (i : Nat) (w : Wal) : Prop where
  inv : Inv w (if i ≤ a.length then [] else a) [] []
  base : w.base = 1
  marked : w.marked = 0
  size : w.disk.size = 1000
  waits : w.waits = (all.take i).drop (if i ≤ a.length then 0 else a.length)
  kept : w.kept = if i ≤ a.length then 0 else a.length
structure SyM (a all : List (List UInt8)) (i : Nat) (w : Wal) : Prop where
  inv : Inv w (if i < a.length then [] else a) [] []
  base : w.base = 1
  marked : w.marked = 0
  size : w.disk.size = 1000
  waits : w.waits = (all.take i).drop (if i < a.length then 0 else a.length)
  kept : w.kept = if i < a.length then 0 else a.length
  next : w.next = i + 1
theorem SyS.mid {a b : List (List UInt8)} {i : Nat} (h : SyS a (a ++ b) i w) (hi : i ≠ a.length) (hil : i ≤ (a ++ b).length) : SyM a (a ++ b) i w := by
  have hx := h.inv.nxt
  have hs := h.inv.spl
  rw [h.base] at hs
  rw [h.waits, List.length_drop, List.length_take] at hx
  by_cases hlt : i < a.length
  · have h1 := h.inv
    have h2 := h.waits
    have h3 := h.kept
    rw [if_pos (by omega)] at h1 h2 h3 hs hx
    rw [List.length_nil] at hs
    exact ⟨by rw [if_pos hlt]; exact h1, h.base, h.marked, h.size, by rw [if_pos hlt]; exact h2, by rw [if_pos hlt]; exact h3, by omega⟩
  · have h1 := h.inv
    have h2 := h.waits
    have h3 := h.kept
    rw [if_neg (by omega)] at h1 h2 h3 hs hx
    exact ⟨by rw [if_neg hlt]; exact h1, h.base, h.marked, h.size, by rw [if_neg hlt]; exact h2, by rw [if_neg hlt]; exact h3, by omega⟩
theorem sync_marked0 (hm : w.marked = 0) : Gw.Wal.sync w = { w with disk := Gw.Disk.flush w.disk, dirty := false, kept := w.spilled } := by unfold Gw.Wal.sync; rw [if_pos hm]
theorem SyS.turn {a b : List (List UInt8)} {i : Nat} (h : SyS a (a ++ b) i w) (hi : i = a.length) (ha : a.length ≤ 10) : (Gw.Wal.spill w).2 = 0 ∧ SyM a (a ++ b) i (Gw.Wal.sync (Gw.Wal.spill w).1) ∧ (Gw.Wal.sync (Gw.Wal.spill w).1).kept = a.length := by
  have h1 := h.inv
  have h2 := h.waits
  rw [if_pos (by omega)] at h1 h2
  have h2 : w.waits = a := by rw [h2, List.drop_zero, hi, List.take_left]
  have hend := h1.ends
  have hst : start w.disk = 500 := by unfold start slotSz; rw [h.size]; rfl
  have hok := h1.spillOk h.marked (by rw [hend, hst, h2, h.size]; simp only [secsOf]; omega)
  refine ⟨hok, ?_⟩
  have hsz : ∀ x : Wal, (Gw.Wal.sync x).disk.size = x.disk.size := fun x => by
    unfold Gw.Wal.sync Gw.Disk.flush
    split <;> simp only <;> split <;> rfl
  rcases h1.spill with ⟨e, _⟩ | ⟨_, e1, e2, e3⟩ | ⟨_, e1, e2, e3, e4, e5, e6, e7, e8, e9⟩
  · exact absurd hok e
  · have ha0 : a = [] := by rw [← h2]; exact e1
    have hsp := h1.spl
    rw [h.base, List.length_nil] at hsp
    have hnx := h1.nxt
    rw [e1, List.length_nil] at hnx
    have hi0 := h1.sync
    rw [e3, sync_marked0 e2] at *
    have hal : a.length = 0 := by rw [ha0]; rfl
    exact ⟨⟨by rw [if_neg (by omega), ha0]; exact hi0, h.base, e2, by have := hsz w; rw [sync_marked0 e2] at this; rw [this]; exact h.size, by rw [if_neg (by omega)]; show w.waits = _; rw [e1, ha0, hi, hal]; rfl, by rw [if_neg (by omega)]; show w.spilled = _; omega, by show w.next = _; omega⟩, by show w.spilled = _; omega⟩
  · rw [List.nil_append, h2] at e2
    have hi1 := e2.sync
    have hsp := e2.spl
    rw [e6, h.base] at hsp
    have hnx := h1.nxt
    have hspl := h1.spl
    rw [h.base, List.length_nil] at hspl
    rw [h2] at hnx
    have hs1 := hsz (Gw.Wal.spill w).1
    have hs2 : (Gw.Wal.spill w).1.disk.size = w.disk.size := by
      have hs3 : (settle w).disk.size = w.disk.size := h1.settle.2.2
      unfold Gw.Wal.spill
      split
      · rfl
      split
      · rfl
      split
      · rfl
      · simp only; rw [Gw.Disk.write_size, hs3]
    rw [sync_marked0 e9] at hi1 hs1 ⊢
    have hz : ((a ++ b).take i).drop a.length = [] := by rw [hi, List.take_left, List.drop_length]
    exact ⟨⟨by rw [if_neg (by omega)]; exact hi1, by show (Gw.Wal.spill w).1.base = 1; rw [e6]; exact h.base, e9, by rw [hs1, hs2]; exact h.size, by rw [if_neg (by omega), hz]; exact e3, by rw [if_neg (by omega)]; show (Gw.Wal.spill w).1.spilled = _; omega, by show (Gw.Wal.spill w).1.next = _; rw [e8]; omega⟩, by show (Gw.Wal.spill w).1.spilled = _; omega⟩
theorem SyM.more {a b : List (List UInt8)} {i : Nat} (h : SyM a (a ++ b) i w) (hi : i < (a ++ b).length) (hp : ((a ++ b)[i]).length ≤ 200) (hs : (a ++ b).length ≤ 20) : (Gw.Wal.append w (a ++ b)[i]).2.1 = i + 1 ∧ (Gw.Wal.append w (a ++ b)[i]).2.2 = 0 ∧ SyS a (a ++ b) (i + 1) (Gw.Wal.append w (a ++ b)[i]).1 := by
  have hn := h.next
  have hinv := h.inv.appended hp
  have e : Gw.Wal.append w (a ++ b)[i] = ({ w with waits := w.waits ++ [(a ++ b)[i]], next := w.next + 1 }, w.next, 0) := by
    unfold Gw.Wal.append; rw [if_neg (by omega)]
  rw [e] at hinv ⊢
  refine ⟨hn, rfl, ⟨?_, h.base, h.marked, h.size, ?_, ?_⟩⟩
  · by_cases hlt : i < a.length
    · rw [if_pos hlt] at hinv; rw [if_pos (by omega)]; exact hinv
    · rw [if_neg hlt] at hinv; rw [if_neg (by omega)]; exact hinv
  · show w.waits ++ [(a ++ b)[i]] = _
    rw [h.waits, List.take_succ_eq_append_getElem hi]
    by_cases hlt : i < a.length
    · rw [if_pos hlt, if_pos (by omega)]; rfl
    · rw [if_neg hlt, if_neg (by omega), List.drop_append_of_le_length (by rw [List.length_take]; omega)]
  · show w.kept = _
    rw [h.kept]
    by_cases hlt : i < a.length
    · rw [if_pos hlt, if_pos (by omega)]
    · rw [if_neg hlt, if_neg (by omega)]
/-- At the end: all was spilled, and what is told behind a crash. -/
theorem SyS.end_ {a b : List (List UInt8)} (h : SyS a (a ++ b) (a ++ b).length w) (hs : (a ++ b).length ≤ 20) : (Gw.Wal.spill w).2 = 0 ∧ Inv (Gw.Wal.spill w).1 (a ++ b) [] [] ∧ (Gw.Wal.spill w).1.marked = 0 ∧ (Gw.Wal.spill w).1.base = 1 ∧ (Gw.Wal.spill w).1.kept = if b = [] then 0 else a.length := by
  have h1 := h.inv
  have hw := h.waits
  rw [List.take_length] at hw
  have hend := h1.ends
  rw [h.base] at hend
  have hst : start w.disk = 500 := by unfold start slotSz; rw [h.size]; rfl
  have hbl : (a ++ b).length = a.length + b.length := List.length_append
  have hlen := secsOf_le (if (a ++ b).length ≤ a.length then [] else a) 1 h1.recs (by
    split
    · simp
    · omega)
  have hok := h1.spillOk h.marked (by
    rw [hend, hst, hw, h.size, List.length_drop]
    split at hlen
    · rw [if_pos (by assumption), if_pos (by assumption)]; simp only [secsOf]; omega
    · rw [if_neg (by assumption), if_neg (by assumption)]; omega)
  have hk : w.kept = if b = [] then 0 else a.length := by
    rw [h.kept]
    cases b with
    | nil => rw [if_pos (by simp), if_pos rfl]
    | cons x b => rw [if_neg (by simp), if_neg (by simp)]
  have hall : (if (a ++ b).length ≤ a.length then [] else a) ++ w.waits = a ++ b := by
    rw [hw]
    split
    · simp
    · rw [List.drop_left]
  refine ⟨hok, ?_⟩
  rcases h1.spill with ⟨e, _⟩ | ⟨_, e1, e2, e3⟩ | ⟨_, e1, e2, e3, e4, e5, e6, e7, e8, e9⟩
  · exact absurd hok e
  · rw [e3]
    rw [e1, List.append_nil] at hall
    rw [hall] at h1
    exact ⟨h1, e2, h.base, hk⟩
  · rw [hall] at e2
    exact ⟨e2, e9, by rw [e6]; exact h.base, by rw [e5]; exact hk⟩
/-- A log in WalFull's loop. -/
def FuS (n full : Nat) (w : Wal) : Prop := ∃ R, Inv w R [] [] ∧ w.base = 1 ∧ w.seq = 1 ∧ w.marked = 0 ∧ w.disk.size = 24 ∧ w.next = n + 1 ∧ ((full = 0 ∧ w.waits = [] ∧ w.spilled = n ∧ n ≤ 12) ∨ (full = 120 ∧ w.waits.length = 1 ∧ w.spilled + 1 = n ∧ n ≤ 13))
theorem FuS.turn {n : Nat} (h : FuS n 0 w) {p : List UInt8} (hp : p.length ≤ 200) : FuS (n + 1) (Gw.Wal.spill (Gw.Wal.append w p).1).2 (Gw.Wal.spill (Gw.Wal.append w p).1).1 ∧ (∃ R, Inv (Gw.Wal.append w p).1 R [] []) := by
  obtain ⟨R, h1, h2, h3, h4, h5, h6, h7⟩ := h
  rcases h7 with ⟨_, h7, h8, h9⟩ | ⟨h7, _⟩
  · have ha := h1.appended hp
    have e : Gw.Wal.append w p = ({ w with waits := w.waits ++ [p], next := w.next + 1 }, w.next, 0) := by
      unfold Gw.Wal.append; rw [if_neg (by omega)]
    refine ⟨?_, ⟨_, ha⟩⟩
    rw [e] at ha ⊢
    have hs2 : ∀ x : Wal, (settle x).disk.size = x.disk.size → (Gw.Wal.spill x).1.disk.size = x.disk.size := fun x hx => by
      unfold Gw.Wal.spill
      split
      · rfl
      split
      · rfl
      split
      · rfl
      · simp only; rw [Gw.Disk.write_size, hx]
    have hsz := hs2 _ ha.settle.2.2
    have hsp := ha.spl
    rcases ha.spill with ⟨g1, g2⟩ | ⟨_, g1, _, _⟩ | ⟨g0, g1, g2, g3, g4, g5, g6, g7, g8, g9⟩
    · have g3 : (Gw.Wal.spill { w with waits := w.waits ++ [p], next := w.next + 1 }).2 = 120 := by
        unfold Gw.Wal.spill at g1 ⊢
        split
        · rename_i hm; exact absurd h4 hm
        split
        · rfl
        · rename_i hm hr
          rw [if_neg hm, if_neg hr] at g1
          split at g1
          · exact absurd rfl g1
          · exact absurd rfl g1
      simp only at g2 g3 hsz ⊢
      rw [g2, g3]
      exact ⟨R, ha, h2, h3, h4, h5, by simp only; omega, .inr ⟨rfl, by simp only [h7]; rfl, by simp only; omega, by omega⟩⟩
    · simp only at g1
      simp at g1
    · simp only at g2 g3 g4 g6 g7 g8 g9 hsz ⊢
      have hr := g2.room
      have he := g2.ends
      have hst : start (Gw.Wal.spill { w with waits := w.waits ++ [p], next := w.next + 1 }).1.disk = 12 := by unfold start slotSz; rw [hsz, h5]; rfl
      have hge := secsOf_ge (R ++ (w.waits ++ [p])) (Gw.Wal.spill { w with waits := w.waits ++ [p], next := w.next + 1 }).1.base
      have hsp2 := g2.spl
      simp only at hsp
      rw [g6] at hsp2
      rw [hsz, h5] at hr
      rw [g0]
      refine ⟨_, g2, by rw [g6]; exact h2, by rw [g7]; exact h3, g9, by rw [hsz]; exact h5, by rw [g8, h6], .inl ⟨rfl, g3, by omega, ?_⟩⟩
      have : (R ++ (w.waits ++ [p])).length = n + 1 := by omega
      omega
  · cases h7
/-- Behind the loop. -/
theorem FuS.end_ {n : Nat} (h : FuS n 120 w) {s : List UInt8} (hs : s.length ≤ 20) :
    (∃ R, Inv w R [] []) ∧ w.waits.length = 1 ∧ w.next = n + 1 ∧ w.spilled + 1 = n ∧ n ≤ 13 ∧
    (Gw.Wal.mark w s).2 = 0 ∧ (∃ R, Inv (Gw.Wal.mark w s).1 R [] s) ∧ (Gw.Wal.spill (Gw.Wal.mark w s).1) = ((Gw.Wal.mark w s).1, 140) ∧
    (∃ R, Inv (Gw.Wal.sync (Gw.Wal.mark w s).1) R [] s) ∧ (Gw.Wal.wipe (Gw.Wal.sync (Gw.Wal.mark w s).1)).2 = 0 ∧ Inv (Gw.Wal.wipe (Gw.Wal.sync (Gw.Wal.mark w s).1)).1 [] s [] ∧
    (Gw.Wal.wipe (Gw.Wal.sync (Gw.Wal.mark w s).1)).1.waits = [] ∧ (Gw.Wal.wipe (Gw.Wal.sync (Gw.Wal.mark w s).1)).1.base = n + 1 ∧ (Gw.Wal.wipe (Gw.Wal.sync (Gw.Wal.mark w s).1)).1.kept = n ∧ (Gw.Wal.wipe (Gw.Wal.sync (Gw.Wal.mark w s).1)).1.spilled = n ∧
    (open_ (Gw.Wal.wipe (Gw.Wal.sync (Gw.Wal.mark w s).1)).1.disk).err = 0 ∧ (open_ (Gw.Wal.wipe (Gw.Wal.sync (Gw.Wal.mark w s).1)).1.disk).state = s ∧ (open_ (Gw.Wal.wipe (Gw.Wal.sync (Gw.Wal.mark w s).1)).1.disk).recs = [] := by
  obtain ⟨R, h1, h2, h3, h4, h5, h6, h7⟩ := h
  rcases h7 with ⟨h7, _⟩ | ⟨_, h7, h8, h9⟩
  · cases h7
  refine ⟨⟨R, h1⟩, h7, h6, h8, h9, ?_⟩
  have hmany : manyM (w.seq + 1) w.next s ≤ 6 := by
    have q1 := Gw.Rec.one_le (n := w.next) (by omega)
    have q2 := Gw.Rec.one_le (n := s.length) (by omega)
    have q3 : (markText w.next s).length ≤ 38 := by unfold markText Gw.Vlq.text; simp only [List.length_append]; omega
    have p1 := Gw.Rec.one_le (n := w.seq + 1) (by omega)
    have p2 := Gw.Rec.one_le (n := (markText w.next s).length) (by omega)
    have p3 := Gw.Rec.seal_len (Gw.Rec.body (w.seq + 1) (markText w.next s))
    have p4 : (Gw.Rec.body (w.seq + 1) (markText w.next s)).length = (Gw.Vlq.one (w.seq + 1)).length + ((Gw.Vlq.one (markText w.next s).length).length + (markText w.next s).length) := by unfold Gw.Rec.body; rw [List.length_append, List.length_append, Nat.add_assoc]
    have p5 := Gw.Rec.one_le (n := (Gw.Sums.seal_ (Gw.Rec.body (w.seq + 1) (markText w.next s))).length) (by omega)
    have p6 : (Gw.Rec.bytes (w.seq + 1) (markText w.next s)).length = (Gw.Vlq.one (Gw.Sums.seal_ (Gw.Rec.body (w.seq + 1) (markText w.next s))).length).length + (Gw.Sums.seal_ (Gw.Rec.body (w.seq + 1) (markText w.next s))).length := by rw [Gw.Rec.bytes_eq, List.length_append]
    unfold manyM Gw.Rec.many
    omega
  have hok : (Gw.Wal.mark w s).2 = 0 := by
    have hsl : slotSz w.disk = 6 := by unfold slotSz; rw [h5]; rfl
    unfold Gw.Wal.mark
    rw [if_neg (show ¬ w.marked ≠ 0 from fun e => e h4), if_neg (by omega), if_neg (by rw [markSecs_len]; omega)]
  rcases h1.mark (s := s) (by omega) with ⟨e, _⟩ | ⟨_, _, _, g1, g2, g3, g4, g5, g6, g7, g8, g9, g10⟩
  · exact absurd hok e
  have hsy := g1.sync
  have esp : Gw.Wal.spill (Gw.Wal.mark w s).1 = ((Gw.Wal.mark w s).1, 140) := by
    unfold Gw.Wal.spill; rw [if_pos (by rw [g8]; decide)]
  have ey : Gw.Wal.sync (Gw.Wal.mark w s).1 = { (Gw.Wal.mark w s).1 with disk := Gw.Disk.flush (Gw.Wal.mark w s).1.disk, dirty := false, marked := 2, kept := max (Gw.Wal.mark w s).1.spilled ((Gw.Wal.mark w s).1.markNext - 1) } := by
    unfold Gw.Wal.sync; rw [if_neg (by rw [g8]; decide)]
  have hkept : (Gw.Wal.sync (Gw.Wal.mark w s).1).kept = n := by rw [ey]; simp only [g3, g9]; omega
  have hmn : (Gw.Wal.sync (Gw.Wal.mark w s).1).markNext = n + 1 := by rw [ey]; simp only [g9]; omega
  have hmm : (Gw.Wal.sync (Gw.Wal.mark w s).1).markMany = 1 := by rw [ey]; simp only [g10]; omega
  have hww : (Gw.Wal.sync (Gw.Wal.mark w s).1).waits = w.waits := by rw [ey]; simp only [g2]
  have hm2 : (Gw.Wal.sync (Gw.Wal.mark w s).1).marked = 2 := by rw [ey]
  refine ⟨hok, ⟨R, g1⟩, esp, ⟨R, hsy⟩, ?_⟩
  generalize Gw.Wal.sync (Gw.Wal.mark w s).1 = y at *
  rcases hsy.wipe with ⟨e, _⟩ | ⟨k0, k1, k2, k3, k4, k5, k6, k7, k8, k9⟩
  · exfalso; apply e; unfold Gw.Wal.wipe; rw [if_neg (by omega)]
  obtain ⟨q, b, s', R', t, _, _⟩ := k2.told (d := (Gw.Wal.wipe y).1.disk) k2.chk rfl (fun j hj => k2.cc hj)
  refine ⟨k0, k2, by rw [k3, hww, hmm]; exact List.drop_eq_nil_of_le (by omega), by rw [k4, hmn], by rw [k7, hkept], by omega, t.err, ?_, ?_⟩
  · rcases t.how with ⟨_, _, _, e, _⟩ | ⟨e, _⟩
    · rw [t.state, e]
    · exact absurd k8 e
  · rcases t.how with ⟨_, _, _, _, m, _, e, _⟩ | ⟨e, _⟩
    · rw [t.recs, e]; simp
    · exact absurd k8 e
end Gw.Wal
