/- What the package disk computes, in plain Lean: no program in sight. -/
namespace Gw.Disk

/-- A disk, as data: its size, what it has firm, what is loose (a place, and bytes). -/
structure Disk where
  size : Int
  firm : ByteArray
  loose : List (Int × ByteArray)
def fits (size : Int) (p : Int × ByteArray) : Bool := decide (0 ≤ p.1) && (decide (p.1 < size) && decide (p.2.size = 16))
def check (d : Disk) : Bool := (decide (0 ≤ d.size) && (decide (d.size ≤ 65536) && decide ((d.firm.size : Int) = d.size * 16))) && d.loose.all (fits d.size)
/-- Bytes put over others, from a place on. -/
def over (l : List UInt8) (i : Nat) (t : List UInt8) : List UInt8 := l.take i ++ t ++ l.drop (i + t.length)
theorem over_length (l : List UInt8) (i : Nat) (t : List UInt8) (h : i + t.length ≤ l.length) : (over l i t).length = l.length := by simp [over]; omega
/-- What is seen of n sectors from a place on: what is firm there, and over it what is loose, one behind the other. -/
def lay (at_ n : Nat) (l : List UInt8) (p : Int × ByteArray) : List UInt8 := if (at_ : Int) ≤ p.1 ∧ p.1 < at_ + n then over l ((p.1.toNat - at_) * 16) p.2.data.toList else l
def seen (d : Disk) (at_ n : Nat) : List UInt8 := d.loose.foldl (lay at_ n) ((d.firm.data.toList.drop (at_ * 16)).take (n * 16))
theorem lay_length (at_ n : Nat) (l : List UInt8) (p : Int × ByteArray) (hl : l.length = n * 16) (hp : p.2.size = 16) : (lay at_ n l p).length = n * 16 := by
  unfold lay
  split
  · rename_i h
    have : p.2.data.toList.length = 16 := hp
    rw [over_length _ _ _ (by omega), hl]
  · exact hl
theorem foldl_lay_length (at_ n : Nat) (ps : List (Int × ByteArray)) (l : List UInt8) (hl : l.length = n * 16) (hp : ∀ p ∈ ps, p.2.size = 16) : (ps.foldl (lay at_ n) l).length = n * 16 := by
  induction ps generalizing l with
  | nil => exact hl
  | cons p ps ih => exact ih _ (lay_length _ _ _ _ hl (hp p (by simp))) (fun q hq => hp q (by simp [hq]))
theorem check_spec {d : Disk} (h : check d = true) : 0 ≤ d.size ∧ d.size ≤ 65536 ∧ (d.firm.size : Int) = d.size * 16 ∧ ∀ p ∈ d.loose, 0 ≤ p.1 ∧ p.1 < d.size ∧ p.2.size = 16 := by
  unfold check at h
  simp only [Bool.and_eq_true, decide_eq_true_eq, List.all_eq_true] at h
  refine ⟨h.1.1, h.1.2.1, h.1.2.2, fun p hp => ?_⟩
  have := h.2 p hp
  unfold fits at this
  simp only [Bool.and_eq_true, decide_eq_true_eq] at this
  exact ⟨this.1, this.2.1, this.2.2⟩
/-- A new disk: so many sectors of bytes 0. -/
def new (size : Int) : Disk := ⟨min (max size 0) 65536, ⟨(List.replicate ((min (max size 0) 65536).toNat * 16) (0 : UInt8)).toArray⟩, []⟩
/-- How many sectors a text has, and its bytes, the last sector filled up with bytes 0. -/
def manyOf (s : ByteArray) : Nat := (s.size + 15) / 16
def pad (s : ByteArray) : List UInt8 := s.data.toList ++ List.replicate (manyOf s * 16 - s.data.toList.length) 0
/-- The first k sectors of it laid over bytes 0. -/
def padTo (s : ByteArray) (k : Nat) : List UInt8 := s.data.toList.take (k * 16) ++ List.replicate (manyOf s * 16 - (s.data.toList.take (k * 16)).length) 0
theorem padTo_length (s : ByteArray) (k : Nat) : (padTo s k).length = manyOf s * 16 := by
  have h : s.data.toList.length = s.size := rfl
  unfold padTo
  rw [List.length_append, List.length_replicate, List.length_take]
  unfold manyOf
  omega
theorem padTo_zero (s : ByteArray) : padTo s 0 = List.replicate (manyOf s * 16) 0 := by simp [padTo]
theorem padTo_all (s : ByteArray) : padTo s (manyOf s) = pad s := by
  have h : s.data.toList.length = s.size := rfl
  unfold padTo pad
  rw [List.take_of_length_le (by unfold manyOf; omega)]
theorem padTo_succ (s : ByteArray) (k : Nat) (hk : k < manyOf s) : padTo s (k + 1) = (padTo s k).take (k * 16) ++ (s.data.toList.drop (k * 16)).take 16 ++ (padTo s k).drop (k * 16 + ((s.data.toList.drop (k * 16)).take 16).length) := by
  have h : s.data.toList.length = s.size := rfl
  have hks : k * 16 < s.data.toList.length := by unfold manyOf at hk; omega
  have h1 : (s.data.toList.take (k * 16)).length = k * 16 := by rw [List.length_take]; omega
  have h2 : s.data.toList.take ((k + 1) * 16) = s.data.toList.take (k * 16) ++ (s.data.toList.drop (k * 16)).take 16 := by
    rw [show (k + 1) * 16 = k * 16 + 16 from by omega, List.take_add]
  unfold padTo
  rw [h1, h2, List.length_append, h1]
  rw [List.take_append_of_le_length (Nat.le_of_eq h1.symm), List.take_of_length_le (Nat.le_of_eq h1)]
  congr 1
  generalize (s.data.toList.drop (k * 16)).take 16 = t
  rw [List.drop_append, List.drop_of_length_le (l := s.data.toList.take (k * 16)) (by omega), List.nil_append, h1, List.drop_replicate]
  congr 1
  omega
theorem seen_length (d : Disk) (h : check d = true) (at_ n : Nat) (hn : (n : Int) ≤ d.size - at_) : (seen d at_ n).length = n * 16 := by
  have hs := check_spec h
  have hf : d.firm.data.toList.length = d.firm.size := rfl
  exact foldl_lay_length at_ n _ _ (by rw [List.length_take, List.length_drop, hf]; omega) (fun p hp => (hs.2.2.2 p hp).2.2)
/-- Whether so many sectors are read from a place on. -/
def mayRead (d : Disk) (at_ n : Int) : Bool := check d && (decide (0 ≤ at_) && (decide (0 ≤ n) && decide (n ≤ d.size - at_)))
def read (d : Disk) (at_ n : Int) : List UInt8 := if mayRead d at_ n = true then seen d at_.toNat n.toNat else []
def readErr (d : Disk) (at_ n : Int) : Nat := if mayRead d at_ n = true then 0 else 121
def flush (d : Disk) : Disk := if check d = true then ⟨d.size, ⟨(seen d 0 d.size.toNat).toArray⟩, []⟩ else d
/-- What a crash does with the i-th of Loose. -/
def pickOf (picks : ByteArray) (i : Nat) : Nat := if i < picks.size then (picks.data.toList.getD i 0).toNat % 3 else 0
def keep (l : List UInt8) (p : Int × ByteArray) (k : Nat) : List UInt8 := if k = 1 then over l (p.1.toNat * 16) p.2.data.toList else if k = 2 then over l (p.1.toNat * 16) (p.2.data.toList.take 8) else l
/-- The firm bytes behind the first k of Loose. -/
def crashed (picks : ByteArray) (ps : List (Int × ByteArray)) (k : Nat) (l : List UInt8) : List UInt8 := (List.range k).foldl (fun l i => keep l (ps.getD i (0, ByteArray.empty)) (pickOf picks i)) l
theorem crashed_succ (picks : ByteArray) (ps : List (Int × ByteArray)) (k : Nat) (l : List UInt8) : crashed picks ps (k + 1) l = keep (crashed picks ps k l) (ps.getD k (0, ByteArray.empty)) (pickOf picks k) := by
  unfold crashed
  rw [List.range_succ, List.foldl_append]
  rfl
theorem keep_length (l : List UInt8) (p : Int × ByteArray) (k : Nat) (h : p.1.toNat * 16 + p.2.size ≤ l.length) : (keep l p k).length = l.length := by
  have hs : p.2.data.toList.length = p.2.size := rfl
  unfold keep
  split
  · rw [over_length _ _ _ (by omega)]
  · split
    · rw [over_length _ _ _ (by rw [List.length_take]; omega)]
    · rfl
/-- Two halves, the last one first, are the whole. -/
theorem over_halves (l : List UInt8) (i : Nat) (t : List UInt8) (ht : t.length = 16) (h : i + 16 ≤ l.length) : over (over l (i + 8) (t.drop 8)) i (t.take 8) = over l i t := by
  have h1 : (t.drop 8).length = 8 := by rw [List.length_drop]; omega
  have h2 : (t.take 8).length = 8 := by rw [List.length_take]; omega
  unfold over
  rw [h1, h2, ht]
  have hl : (l.take (i + 8)).length = i + 8 := by rw [List.length_take]; omega
  rw [List.append_assoc (l.take (i + 8)), List.take_append_of_le_length (by omega), List.take_take, Nat.min_eq_left (by omega)]
  rw [List.drop_append_of_le_length (by omega), List.drop_of_length_le (l := l.take (i + 8)) (by omega), List.nil_append]
  rw [List.append_assoc, List.append_assoc, ← List.append_assoc (t.take 8), List.take_append_drop]
theorem crashed_length (picks : ByteArray) (ps : List (Int × ByteArray)) (k : Nat) (l : List UInt8) (h : ∀ i, i < k → (ps.getD i (0, ByteArray.empty)).1.toNat * 16 + (ps.getD i (0, ByteArray.empty)).2.size ≤ l.length) : (crashed picks ps k l).length = l.length := by
  induction k with
  | zero => rfl
  | succ k ih =>
    rw [crashed_succ, keep_length _ _ _ (by rw [ih (fun i hi => h i (by omega))]; exact h k (by omega))]
    exact ih (fun i hi => h i (by omega))
def crash (d : Disk) (picks : ByteArray) : Disk := if check d = true then ⟨d.size, ⟨(crashed picks d.loose d.loose.length d.firm.data.toList).toArray⟩, []⟩ else d
end Gw.Disk
