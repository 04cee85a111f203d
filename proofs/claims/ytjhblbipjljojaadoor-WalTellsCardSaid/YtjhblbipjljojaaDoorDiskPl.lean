/- What the package disk computes, in plain Lean: no program in sight. -/
namespace Gw.Disk

/-- A disk, as data: its size, what it has firm, what is loose (a place, and bytes). -/
structure Disk where
  size : Int
  firm : ByteArray
  loose : List (Int × ByteArray)
def fits (size : Int) (p : Int × ByteArray) : Bool := decide (0 ≤ p.1) && (decide (p.1 < size) && decide (p.2.size = 16))
def check (d : Disk) : Bool := (decide (0 ≤ d.size) && (decide (d.size ≤ 65536) && decide ((d.firm.size : Int) = d.size * 16))) && d.loose.all (fits d.size)
/-- Bytes put over others, from a place on. -/
def over (l : List UInt8) (i : Nat) (t : List UInt8) : List UInt8 := l.take i ++ t ++ l.drop (i + t.length)
theorem over_length (l : List UInt8) (i : Nat) (t : List UInt8) (h : i + t.length ≤ l.length) : (over l i t).length = l.length := by simp [over]; omega
/-- What is seen of n sectors from a place on: what is firm there, and over it what is loose, one behind the other. -/
def lay (at_ n : Nat) (l : List UInt8) (p : Int × ByteArray) : List UInt8 := if (at_ : Int) ≤ p.1 ∧ p.1 < at_ + n then over l ((p.1.toNat - at_) * 16) p.2.data.toList else l
def seen (d : Disk) (at_ n : Nat) : List UInt8 := d.loose.foldl (lay at_ n) ((d.firm.data.toList.drop (at_ * 16)).take (n * 16))
theorem lay_length (at_ n : Nat) (l : List UInt8) (p : Int × ByteArray) (hl : l.length = n * 16) (hp : p.2.size = 16) : (lay at_ n l p).length = n * 16 := by
  unfold lay
  split
  · rename_i h
    have : p.2.data.toList.length = 16 := hp
    rw [over_length _ _ _ (by omega), hl]
  · exact hl
theorem foldl_lay_length (at_ n : Nat) (ps : List (Int × ByteArray)) (l : List UInt8) (hl : l.length = n * 16) (hp : ∀ p ∈ ps, p.2.size = 16) : (ps.foldl (lay at_ n) l).length = n * 16 := by
  induction ps generalizing l with
  | nil => exact hl
  | cons p ps ih => exact ih _ (lay_length _ _ _ _ hl (hp p (by simp))) (fun q hq => hp q (by simp [hq]))
theorem check_spec {d : Disk} (h : check d = true) : 0 ≤ d.size ∧ d.size ≤ 65536 ∧ (d.firm.size : Int) = d.size * 16 ∧ ∀ p ∈ d.loose, 0 ≤ p.1 ∧ p.1 < d.size ∧ p.2.size = 16 := by
  unfold check at h
  simp only [Bool.and_eq_true, decide_eq_true_eq, List.all_eq_true] at h
  refine ⟨h.1.1, h.1.2.1, h.1.2.2, fun p hp => ?_⟩
  have := h.2 p hp
  unfold fits at this
  simp only [Bool.and_eq_true, decide_eq_true_eq] at this
  exact ⟨this.1, this.2.1, this.2.2⟩
/-- A new disk: so many sectors of bytes 0. -/
def new (size : Int) : Disk := ⟨min (max size 0) 65536, ⟨(List.replicate ((min (max size 0) 65536).toNat * 16) (0 : UInt8)).toArray⟩, []⟩
/-- How many sectors a text has, and its bytes, the last sector filled up with bytes 0. -/
def manyOf (s : ByteArray) : Nat := (s.size + 15) / 16
def pad (s : ByteArray) : List UInt8 := s.data.toList ++ List.replicate (manyOf s * 16 - s.data.toList.length) 0
/-- The first k sectors of it laid over bytes 0. -/
def padTo (s : ByteArray) (k : Nat) : List UInt8 := s.data.toList.take (k * 16) ++ List.replicate (manyOf s * 16 - (s.data.toList.take (k * 16)).length) 0
theorem padTo_length (s : ByteArray) (k : Nat) : (padTo s k).length = manyOf s * 16 := by
  have h : s.data.toList.length = s.size := rfl
  unfold padTo
  rw [List.length_append, List.length_replicate, List.length_take]
  unfold manyOf
  omega
theorem padTo_zero (s : ByteArray) : padTo s 0 = List.replicate (manyOf s * 16) 0 := by simp [padTo]
theorem padTo_all (s : ByteArray) : padTo s (manyOf s) = pad s := by
  have h : s.data.toList.length = s.size := rfl
  unfold padTo pad
  rw [List.take_of_length_le (by unfold manyOf; omega)]
theorem padTo_succ (s : ByteArray) (k : Nat) (hk : k < manyOf s) : padTo s (k + 1) = (padTo s k).take (k * 16) ++ (s.data.toList.drop (k * 16)).take 16 ++ (padTo s k).drop (k * 16 + ((s.data.toList.drop (k * 16)).take 16).length) := by
  have h : s.data.toList.length = s.size := rfl
  have hks : k * 16 < s.data.toList.length := by unfold manyOf at hk; omega
  have h1 : (s.data.toList.take (k * 16)).length = k * 16 := by rw [List.length_take]; omega
  have h2 : s.data.toList.take ((k + 1) * 16) = s.data.toList.take (k * 16) ++ (s.data.toList.drop (k * 16)).take 16 := by
    rw [show (k + 1) * 16 = k * 16 + 16 from by omega, List.take_add]
  unfold padTo
  rw [h1, h2, List.length_append, h1]
  rw [List.take_append_of_le_length (Nat.le_of_eq h1.symm), List.take_of_length_le (Nat.le_of_eq h1)]
  congr 1
  generalize (s.data.toList.drop (k * 16)).take 16 = t
  rw [List.drop_append, List.drop_of_length_le (l := s.data.toList.take (k * 16)) (by omega), List.nil_append, h1, List.drop_replicate]
  congr 1
  omega
theorem seen_length (d : Disk) (h : check d = true) (at_ n : Nat) (hn : (n : Int) ≤ d.size - at_) : (seen d at_ n).length = n * 16 := by
  have hs := check_spec h
  have hf : d.firm.data.toList.length = d.firm.size := rfl
  exact foldl_lay_length at_ n _ _ (by rw [List.length_take, List.length_drop, hf]; omega) (fun p hp => (hs.2.2.2 p hp).2.2)
/-- Whether so many sectors are read from a place on. -/
def mayRead (d : Disk) (at_ n : Int) : Bool := check d && (decide (0 ≤ at_) && (decide (0 ≤ n) && decide (n ≤ d.size - at_)))
def read (d : Disk) (at_ n : Int) : List UInt8 := if mayRead d at_ n = true then seen d at_.toNat n.toNat else []
def readErr (d : Disk) (at_ n : Int) : Nat := if mayRead d at_ n = true then 0 else 121
def flush (d : Disk) : Disk := if check d = true then ⟨d.size, ⟨(seen d 0 d.size.toNat).toArray⟩, []⟩ else d
/-- What a crash does with the i-th of Loose. -/
def pickOf (picks : ByteArray) (i : Nat) : Nat := if i < picks.size then (picks.data.toList.getD i 0).toNat % 3 else 0
def keep (l : List UInt8) (p : Int × ByteArray) (k : Nat) : List UInt8 := if k = 1 then over l (p.1.toNat * 16) p.2.data.toList else if k = 2 then over l (p.1.toNat * 16) (p.2.data.toList.take 8) else l
/-- The firm bytes behind the first k of Loose. -/
def crashed (picks : ByteArray) (ps : List (Int × ByteArray)) (k : Nat) (l : List UInt8) : List UInt8 := (List.range k).foldl (fun l i => keep l (ps.getD i (0, ByteArray.empty)) (pickOf picks i)) l
theorem crashed_succ (picks : ByteArray) (ps : List (Int × ByteArray)) (k : Nat) (l : List UInt8) : crashed picks ps (k + 1) l = keep (crashed picks ps k l) (ps.getD k (0, ByteArray.empty)) (pickOf picks k) := by
  unfold crashed
  rw [List.range_succ, List.foldl_append]
  rfl
theorem keep_length (l : List UInt8) (p : Int × ByteArray) (k : Nat) (h : p.1.toNat * 16 + p.2.size ≤ l.length) : (keep l p k).length = l.length := by
  have hs : p.2.data.toList.length = p.2.size := rfl
  unfold keep
  split
  · rw [over_length _ _ _ (by omega)]
  · split
    · rw [over_length _ _ _ (by rw [List.length_take]; omega)]
    · rfl
/-- Two halves, the last one first, are the whole. -/
theorem over_halves (l : List UInt8) (i : Nat) (t : List UInt8) (ht : t.length = 16) (h : i + 16 ≤ l.length) : over (over l (i + 8) (t.drop 8)) i (t.take 8) = over l i t := by
  have h1 : (t.drop 8).length = 8 := by rw [List.length_drop]; omega
  have h2 : (t.take 8).length = 8 := by rw [List.length_take]; omega
  unfold over
  rw [h1, h2, ht]
  have hl : (l.take (i + 8)).length = i + 8 := by rw [List.length_take]; omega
  rw [List.append_assoc (l.take (i + 8)), List.take_append_of_le_length (by omega), List.take_take, Nat.min_eq_left (by omega)]
  rw [List.drop_append_of_le_length (by omega), List.drop_of_length_le (l := l.take (i + 8)) (by omega), List.nil_append]
  rw [List.append_assoc, List.append_assoc, ← List.append_assoc (t.take 8), List.take_append_drop]
theorem crashed_length (picks : ByteArray) (ps : List (Int × ByteArray)) (k : Nat) (l : List UInt8) (h : ∀ i, i < k → (ps.getD i (0, ByteArray.empty)).1.toNat * 16 + (ps.getD i (0, ByteArray.empty)).2.size ≤ l.length) : (crashed picks ps k l).length = l.length := by
  induction k with
  | zero => rfl
  | succ k ih =>
    rw [crashed_succ, keep_length _ _ _ (by rw [ih (fun i hi => h i (by omega))]; exact h k (by omega))]
    exact ih (fun i hi => h i (by omega))
def crash (d : Disk) (picks : ByteArray) : Disk := if check d = true then ⟨d.size, ⟨(crashed picks d.loose d.loose.length d.firm.data.toList).toArray⟩, []⟩ else d
end Gw.Disk


namespace Gw.Disk
/-- The first k sectors of a text, as patches from a place on. -/
def wrote (at_ : Int) (s : ByteArray) (k : Nat) : List (Int × ByteArray) := (List.range k).map fun i : Nat => (at_ + (i : Int), ⟨(((pad s).drop (i * 16)).take 16).toArray⟩)
theorem wrote_length (at_ : Int) (s : ByteArray) (k : Nat) : (wrote at_ s k).length = k := by simp [wrote]
theorem wrote_succ (at_ : Int) (s : ByteArray) (k : Nat) : wrote at_ s (k + 1) = wrote at_ s k ++ [(at_ + (k : Int), ⟨(((pad s).drop (k * 16)).take 16).toArray⟩)] := by
  unfold wrote
  rw [List.range_succ, List.map_append]
  rfl
theorem pad_length (s : ByteArray) : (pad s).length = manyOf s * 16 := by rw [← padTo_all, padTo_length]
def writeErr (d : Disk) (at_ : Int) (s : ByteArray) : Nat := if check d = false ∨ at_ < 0 then 121 else if d.size - (manyOf s : Int) < at_ then 120 else 0
def write (d : Disk) (at_ : Int) (s : ByteArray) : Disk := if writeErr d at_ s = 0 then ⟨d.size, d.firm, d.loose ++ wrote at_ s (manyOf s)⟩ else d
end Gw.Disk


namespace Gw.Disk

theorem new_nat (n : Nat) (h : n ≤ 65536) : new (n : Int) = ⟨(n : Int), ⟨(List.replicate (n * 16) (0 : UInt8)).toArray⟩, []⟩ := by
  unfold new
  have e : min (max (n : Int) 0) 65536 = (n : Int) := by omega
  rw [e, Int.toNat_natCast]
theorem check_new (n : Nat) (h : n ≤ 65536) (x : ByteArray) (hx : x.size = n * 16) : check ⟨(n : Int), x, []⟩ = true := by
  unfold check
  have h2 : (x.size : Int) = (n : Int) * 16 := by omega
  simp [h2]
  omega
theorem read_new (n : Nat) (x : ByteArray) (hx : x.size = n * 16) (hc : check ⟨(n : Int), x, []⟩ = true) : read ⟨(n : Int), x, []⟩ 0 (n : Int) = x.data.toList ∧ readErr ⟨(n : Int), x, []⟩ 0 (n : Int) = 0 := by
  have hm : mayRead ⟨(n : Int), x, []⟩ 0 (n : Int) = true := by
    unfold mayRead
    rw [hc]
    simp
  have hl : x.data.toList.length = n * 16 := hx
  refine ⟨?_, by simp [readErr, hm]⟩
  rw [read, if_pos hm]
  unfold seen
  rw [Int.toNat_zero, Int.toNat_natCast, Nat.zero_mul, List.drop_zero, List.take_of_length_le (l := x.data.toList) (i := n * 16) (by omega)]
  rfl
theorem writeErr_good (d : Disk) (hc : check d = true) (a : Nat) (s : ByteArray) : writeErr d (a : Int) s = if d.size - (manyOf s : Int) < (a : Int) then 120 else 0 := by
  unfold writeErr
  rw [if_neg (by rw [hc]; simp)]
end Gw.Disk


namespace Gw.Disk

/-- n pieces, one behind the other. -/
def flat (n : Nat) (f : Nat → List UInt8) : List UInt8 := (List.range n).flatMap f
theorem flat_succ (n : Nat) (f : Nat → List UInt8) : flat (n + 1) f = flat n f ++ f n := by simp [flat, List.range_succ]
theorem flat_length (n : Nat) (f : Nat → List UInt8) (hf : ∀ i, i < n → (f i).length = 16) : (flat n f).length = n * 16 := by
  induction n with
  | zero => rfl
  | succ n ih =>
    rw [flat_succ, List.length_append, ih (fun i hi => hf i (by omega)), hf n (by omega)]
    omega
theorem flat_get (n : Nat) (f : Nat → List UInt8) (hf : ∀ i, i < n → (f i).length = 16) (j : Nat) : (flat n f)[j]? = if j < n * 16 then (f (j / 16))[j % 16]? else none := by
  induction n with
  | zero => simp [flat]
  | succ n ih =>
    have hl := flat_length n f (fun i hi => hf i (by omega))
    have ih := ih (fun i hi => hf i (by omega))
    rw [flat_succ]
    by_cases h : j < n * 16
    · rw [List.getElem?_append_left (by omega), ih, if_pos h, if_pos (by omega)]
    · rw [List.getElem?_append_right (by omega), hl]
      by_cases h2 : j < (n + 1) * 16
      · rw [if_pos h2, show j / 16 = n from by omega, show j % 16 = j - n * 16 from by omega]
      · rw [if_neg h2]
        exact List.getElem?_eq_none (by rw [hf n (by omega)]; omega)
theorem flat_congr (n : Nat) (f g : Nat → List UInt8) (h : ∀ i, i < n → f i = g i) : flat n f = flat n g := by
  induction n with
  | zero => rfl
  | succ n ih => rw [flat_succ, flat_succ, ih (fun i hi => h i (by omega)), h n (by omega)]
/-- Bytes in pieces of sixteen. -/
theorem flat_of (l : List UInt8) (n : Nat) (hl : l.length = n * 16) : l = flat n (fun i => (l.drop (i * 16)).take 16) := by
  have hf : ∀ i, i < n → ((l.drop (i * 16)).take 16).length = 16 := fun i hi => by rw [List.length_take, List.length_drop, hl]; omega
  apply List.ext_getElem?
  intro j
  rw [flat_get _ _ hf]
  by_cases h : j < n * 16
  · rw [if_pos h, List.getElem?_take_of_lt (by omega), List.getElem?_drop]
    congr 1
    omega
  · rw [if_neg h]
    exact List.getElem?_eq_none (by omega)
/-- A piece of so many pieces. -/
theorem flat_cut (n a m : Nat) (f : Nat → List UInt8) (hf : ∀ i, i < n → (f i).length = 16) (h : a + m ≤ n) : ((flat n f).drop (a * 16)).take (m * 16) = flat m (fun i => f (a + i)) := by
  have hf2 : ∀ i, i < m → (f (a + i)).length = 16 := fun i hi => hf _ (by omega)
  apply List.ext_getElem?
  intro j
  rw [flat_get _ _ hf2]
  by_cases h2 : j < m * 16
  · rw [if_pos h2, List.getElem?_take_of_lt h2, List.getElem?_drop, flat_get _ _ hf, if_pos (by omega), show (a * 16 + j) / 16 = a + j / 16 from by omega, show (a * 16 + j) % 16 = j % 16 from by omega]
  · rw [if_neg h2]
    exact List.getElem?_eq_none (by rw [List.length_take]; omega)
theorem over_get (l t : List UInt8) (i j : Nat) (h : i + t.length ≤ l.length) : (over l i t)[j]? = if i ≤ j ∧ j < i + t.length then t[j - i]? else l[j]? := by
  unfold over
  by_cases h1 : j < i
  · rw [if_neg (by omega), List.append_assoc, List.getElem?_append_left (by rw [List.length_take]; omega), List.getElem?_take_of_lt h1]
  · by_cases h2 : j < i + t.length
    · rw [if_pos (by omega), List.append_assoc, List.getElem?_append_right (by rw [List.length_take]; omega), List.length_take, Nat.min_eq_left (by omega), List.getElem?_append_left (by omega)]
    · rw [if_neg (by omega), List.getElem?_append_right (by rw [List.length_append, List.length_take]; omega), List.length_append, List.length_take, Nat.min_eq_left (by omega), List.getElem?_drop]
      congr 1
      omega
theorem lay_flat (a n : Nat) (f : Nat → List UInt8) (hf : ∀ i, i < n → (f i).length = 16) (p : Int × ByteArray) (hp : p.2.size = 16) :
    lay a n (flat n f) p = flat n (fun i => if p.1 = ((a + i : Nat) : Int) then p.2.data.toList else f i) := by
  have hpl : p.2.data.toList.length = 16 := hp
  have hf2 : ∀ i, i < n → ((fun i : Nat => if p.1 = ((a + i : Nat) : Int) then p.2.data.toList else f i) i).length = 16 := fun i hi => by
    show (if p.1 = ((a + i : Nat) : Int) then p.2.data.toList else f i).length = 16
    split
    · exact hpl
    · exact hf i hi
  have hl := flat_length n f hf
  unfold lay
  by_cases h : (a : Int) ≤ p.1 ∧ p.1 < a + n
  · rw [if_pos h]
    apply List.ext_getElem?
    intro j
    rw [over_get _ _ _ _ (by omega), flat_get _ _ hf, flat_get _ _ hf2, hpl]
    by_cases hj : j < n * 16
    · rw [if_pos hj, if_pos hj]
      show _ = (if p.1 = ((a + j / 16 : Nat) : Int) then p.2.data.toList else f (j / 16))[j % 16]?
      by_cases h3 : p.1 = ((a + j / 16 : Nat) : Int)
      · rw [if_pos h3, if_pos (by omega)]
        congr 1
        omega
      · rw [if_neg h3, if_neg (by omega)]
    · rw [if_neg hj, if_neg hj, if_neg (by omega)]
  · rw [if_neg h]
    refine flat_congr _ _ _ (fun i hi => ?_)
    rw [if_neg (by omega)]
/-- What is seen of one sector. -/
def put1 (i : Int) (l : List UInt8) (p : Int × ByteArray) : List UInt8 := if p.1 = i then p.2.data.toList else l
def sec (d : Disk) (i : Nat) : List UInt8 := d.loose.foldl (put1 (i : Int)) ((d.firm.data.toList.drop (i * 16)).take 16)
theorem foldl_lay_flat (a n : Nat) (ps : List (Int × ByteArray)) (hp : ∀ p ∈ ps, p.2.size = 16) (f : Nat → List UInt8) (hf : ∀ i, i < n → (f i).length = 16) :
    ps.foldl (lay a n) (flat n f) = flat n (fun i => ps.foldl (put1 ((a + i : Nat) : Int)) (f i)) := by
  induction ps generalizing f with
  | nil => rfl
  | cons p ps ih =>
    rw [List.foldl_cons, lay_flat a n f hf p (hp p (by simp)), ih (fun q hq => hp q (by simp [hq])) _ (fun i hi => ?_)]
    · rfl
    · show (if p.1 = ((a + i : Nat) : Int) then p.2.data.toList else f i).length = 16
      split
      · exact hp p (by simp)
      · exact hf i hi
theorem put1_length (i : Int) (ps : List (Int × ByteArray)) (hp : ∀ p ∈ ps, p.2.size = 16) (l : List UInt8) (hl : l.length = 16) : (ps.foldl (put1 i) l).length = 16 := by
  induction ps generalizing l with
  | nil => exact hl
  | cons p ps ih =>
    rw [List.foldl_cons]
    refine ih (fun q hq => hp q (by simp [hq])) _ ?_
    unfold put1
    split
    · exact hp p (by simp)
    · exact hl
theorem firm_length {d : Disk} (hc : check d = true) : d.firm.data.toList.length = d.size.toNat * 16 := by
  have h := check_spec hc
  have : d.firm.data.toList.length = d.firm.size := rfl
  omega
theorem sec_length {d : Disk} (hc : check d = true) (i : Nat) (hi : (i : Int) < d.size) : (sec d i).length = 16 := by
  refine put1_length _ _ (fun p hp => ((check_spec hc).2.2.2 p hp).2.2) _ ?_
  rw [List.length_take, List.length_drop, firm_length hc]
  omega
theorem seen_flat {d : Disk} (hc : check d = true) (a n : Nat) (h : ((a + n : Nat) : Int) ≤ d.size) : seen d a n = flat n (fun i => sec d (a + i)) := by
  have hfl := firm_length hc
  have h1 : (d.firm.data.toList.drop (a * 16)).take (n * 16) = flat n (fun i => (d.firm.data.toList.drop ((a + i) * 16)).take 16) := by
    have h2 := flat_of ((d.firm.data.toList.drop (a * 16)).take (n * 16)) n (by rw [List.length_take, List.length_drop, hfl]; omega)
    rw [h2]
    refine flat_congr _ _ _ (fun i hi => ?_)
    rw [List.drop_take, List.drop_drop, List.take_take, Nat.min_eq_left (by omega)]
    congr 2
    omega
  unfold seen
  rw [h1, foldl_lay_flat a n d.loose (fun p hp => ((check_spec hc).2.2.2 p hp).2.2) _ (fun i hi => by rw [List.length_take, List.length_drop, hfl]; omega)]
  rfl
/-- Behind a write. -/
theorem sec_wrote (f : ByteArray) (z : Int) (ps : List (Int × ByteArray)) (a : Nat) (s : ByteArray) (k : Nat) (i : Nat) :
    sec ⟨z, f, ps ++ wrote (a : Int) s k⟩ i = if a ≤ i ∧ i < a + k then ((pad s).drop ((i - a) * 16)).take 16 else sec ⟨z, f, ps⟩ i := by
  induction k with
  | zero =>
    rw [if_neg (by omega), show wrote (a : Int) s 0 = [] from rfl, List.append_nil]
  | succ k ih =>
    unfold sec at ih ⊢
    simp only at ih ⊢
    rw [wrote_succ, ← List.append_assoc, List.foldl_append, ih, List.foldl_cons, List.foldl_nil]
    unfold put1
    simp only
    by_cases h : (a : Int) + (k : Int) = (i : Int)
    · rw [if_pos h, if_pos (by omega), show i - a = k from by omega]
    · rw [if_neg h]
      by_cases h2 : a ≤ i ∧ i < a + k
      · rw [if_pos h2, if_pos (by omega)]
      · rw [if_neg h2, if_neg (by omega)]
theorem wrote_mem {a : Nat} {s : ByteArray} {k : Nat} (hk : k ≤ manyOf s) {p : Int × ByteArray} (hp : p ∈ wrote (a : Int) s k) : ∃ j, j < k ∧ p.1 = ((a + j : Nat) : Int) ∧ p.2.size = 16 := by
  unfold wrote at hp
  obtain ⟨j, hj, rfl⟩ := List.mem_map.1 hp
  have hj' : j < k := by simpa using hj
  refine ⟨j, hj', by simp, ?_⟩
  show (((pad s).drop (j * 16)).take 16).toArray.size = 16
  rw [List.size_toArray, List.length_take, List.length_drop, pad_length]
  omega
theorem check_wrote {d : Disk} (hc : check d = true) (a : Nat) (s : ByteArray) (h : ((a + manyOf s : Nat) : Int) ≤ d.size) : check ⟨d.size, d.firm, d.loose ++ wrote (a : Int) s (manyOf s)⟩ = true := by
  have hs := check_spec hc
  unfold check at hc ⊢
  simp only [Bool.and_eq_true, List.all_append] at hc ⊢
  refine ⟨hc.1, hc.2, ?_⟩
  rw [List.all_eq_true]
  intro p hp
  obtain ⟨j, hj, h1, h2⟩ := wrote_mem (Nat.le_refl _) hp
  unfold fits
  simp only [Bool.and_eq_true, decide_eq_true_eq]
  omega
theorem seen_wrote {d : Disk} (hc : check d = true) (a : Nat) (s : ByteArray) (h : ((a + manyOf s : Nat) : Int) ≤ d.size) : seen ⟨d.size, d.firm, d.loose ++ wrote (a : Int) s (manyOf s)⟩ a (manyOf s) = pad s := by
  rw [seen_flat (check_wrote hc a s h) a (manyOf s) h]
  refine Eq.trans (flat_congr _ _ (fun i => ((pad s).drop (i * 16)).take 16) (fun i hi => ?_)) (flat_of _ _ (pad_length s)).symm
  rw [sec_wrote, if_pos (by omega), show a + i - a = i from by omega]
theorem seen_one {d : Disk} (hc : check d = true) (i : Nat) (h : ((i + 1 : Nat) : Int) ≤ d.size) : seen d i 1 = sec d i := by
  rw [seen_flat hc i 1 h]
  show flat 1 _ = _
  rw [flat_succ]
  simp [flat]
theorem seen_wrote_other {d : Disk} (hc : check d = true) (a : Nat) (s : ByteArray) (h : ((a + manyOf s : Nat) : Int) ≤ d.size) (i : Nat) (hi : ((i + 1 : Nat) : Int) ≤ d.size) (ho : ¬ (a ≤ i ∧ i < a + manyOf s)) :
    seen ⟨d.size, d.firm, d.loose ++ wrote (a : Int) s (manyOf s)⟩ i 1 = seen d i 1 := by
  rw [seen_one (check_wrote hc a s h) i hi, seen_one hc i hi, sec_wrote, if_neg ho]
end Gw.Disk


namespace Gw.Disk
theorem readErr_same {d d' : Disk} (hc : check d = true) (hc' : check d' = true) (hs : d'.size = d.size) (o n : Int) : mayRead d' o n = mayRead d o n ∧ readErr d' o n = readErr d o n := by
  have h : mayRead d' o n = mayRead d o n := by unfold mayRead; rw [hc, hc', hs]
  exact ⟨h, by unfold readErr; rw [h]⟩
theorem mayRead_spec {d : Disk} {a n : Int} (h : mayRead d a n = true) : check d = true ∧ 0 ≤ a ∧ 0 ≤ n ∧ n ≤ d.size - a := by
  unfold mayRead at h
  simp only [Bool.and_eq_true, decide_eq_true_eq] at h
  exact h
theorem read_seen {d : Disk} (hc : check d = true) (a n : Nat) (h : ((a + n : Nat) : Int) ≤ d.size) : read d (a : Int) (n : Int) = seen d a n ∧ readErr d (a : Int) (n : Int) = 0 := by
  have hm : mayRead d (a : Int) (n : Int) = true := by
    unfold mayRead
    rw [hc]
    simp only [Bool.true_and, Bool.and_eq_true, decide_eq_true_eq]
    omega
  exact ⟨by rw [read, if_pos hm, Int.toNat_natCast, Int.toNat_natCast], by simp [readErr, hm]⟩
theorem read_wrote {d : Disk} (hc : check d = true) (a : Nat) (s : ByteArray) (h : ((a + manyOf s : Nat) : Int) ≤ d.size) :
    read ⟨d.size, d.firm, d.loose ++ wrote (a : Int) s (manyOf s)⟩ (a : Int) (manyOf s : Int) = pad s ∧ readErr ⟨d.size, d.firm, d.loose ++ wrote (a : Int) s (manyOf s)⟩ (a : Int) (manyOf s : Int) = 0 := by
  have h1 := read_seen (check_wrote hc a s h) a (manyOf s) h
  rw [h1.1, seen_wrote hc a s h]
  exact ⟨rfl, h1.2⟩
theorem read_other {d : Disk} (hc : check d = true) (a : Nat) (s : ByteArray) (h : ((a + manyOf s : Nat) : Int) ≤ d.size) (o : Int) (ho : ¬ ((a : Int) ≤ o ∧ o < (a : Int) + (manyOf s : Int))) :
    read ⟨d.size, d.firm, d.loose ++ wrote (a : Int) s (manyOf s)⟩ o 1 = read d o 1 := by
  have hm := (readErr_same (d' := ⟨d.size, d.firm, d.loose ++ wrote (a : Int) s (manyOf s)⟩) hc (check_wrote hc a s h) rfl o 1).1
  unfold read
  rw [hm]
  split
  · rename_i hr
    have hs := mayRead_spec hr
    obtain ⟨k, rfl⟩ := Int.eq_ofNat_of_zero_le hs.2.1
    rw [Int.toNat_natCast]
    exact seen_wrote_other hc a s h k (by omega) (by omega)
  · rfl
theorem writeErr_zero {d : Disk} {a : Int} {s : ByteArray} (h : writeErr d a s = 0) : ∃ k : Nat, a = (k : Int) ∧ ((k + manyOf s : Nat) : Int) ≤ d.size := by
  unfold writeErr at h
  split at h
  · cases h
  · rename_i h1
    split at h
    · cases h
    · rename_i h2
      have h3 : ¬ a < 0 := fun h4 => h1 (.inr h4)
      obtain ⟨k, rfl⟩ := Int.eq_ofNat_of_zero_le (Int.not_lt.1 h3)
      exact ⟨k, rfl, by omega⟩
theorem pad_zero (s : ByteArray) (i : Nat) (h1 : s.size ≤ i) (h : i < (pad s).length) : (pad s)[i] = 0 := by
  have hl : s.data.toList.length = s.size := rfl
  unfold pad at h ⊢
  rw [List.getElem_append_right (by omega), List.getElem_replicate]
theorem pad_take (s : ByteArray) : (pad s).take s.size = s.data.toList := by
  have hl : s.data.toList.length = s.size := rfl
  unfold pad
  rw [List.take_append_of_le_length (by omega), List.take_of_length_le (by omega)]
end Gw.Disk


namespace Gw.Disk
/-- The disk behind a flush. -/
def firmOf (d : Disk) : Disk := ⟨d.size, ⟨(seen d 0 d.size.toNat).toArray⟩, []⟩
theorem flush_firm {d : Disk} (hc : check d = true) : flush d = firmOf d := by rw [flush, if_pos hc]; rfl
theorem firmOf_check {d : Disk} (hc : check d = true) : check (firmOf d) = true := by
  have hs := check_spec hc
  have hl := seen_length d hc 0 d.size.toNat (by omega)
  have h2 : (firmOf d).firm.size = d.size.toNat * 16 := by
    show (seen d 0 d.size.toNat).toArray.size = _
    rw [List.size_toArray, hl]
  have h3 : (firmOf d).size = d.size := rfl
  unfold check
  rw [h3]
  show ((decide (0 ≤ d.size) && (decide (d.size ≤ 65536) && decide (((firmOf d).firm.size : Int) = d.size * 16))) && ([] : List (Int × ByteArray)).all (fits d.size)) = true
  rw [h2]
  simp
  omega
theorem firmOf_seen {d : Disk} (hc : check d = true) (a n : Nat) (h : ((a + n : Nat) : Int) ≤ d.size) : seen (firmOf d) a n = seen d a n := by
  have hs := check_spec hc
  have h1 : seen (firmOf d) a n = ((seen d 0 d.size.toNat).drop (a * 16)).take (n * 16) := rfl
  rw [h1, seen_flat hc 0 d.size.toNat (by omega), seen_flat hc a n h]
  rw [flat_cut _ _ _ _ (fun i hi => by rw [Nat.zero_add]; exact sec_length hc i (by omega)) (by omega)]
  exact flat_congr _ _ _ (fun i _ => by rw [Nat.zero_add])
theorem firmOf_read {d : Disk} (hc : check d = true) (a n : Int) : read (firmOf d) a n = read d a n ∧ readErr (firmOf d) a n = readErr d a n := by
  have hm := readErr_same (d' := firmOf d) hc (firmOf_check hc) rfl a n
  refine ⟨?_, hm.2⟩
  unfold read
  rw [hm.1]
  split
  · rename_i hr
    have hs := mayRead_spec hr
    obtain ⟨k, rfl⟩ := Int.eq_ofNat_of_zero_le hs.2.1
    obtain ⟨m, rfl⟩ := Int.eq_ofNat_of_zero_le hs.2.2.1
    rw [Int.toNat_natCast, Int.toNat_natCast]
    exact firmOf_seen hc k m (by omega)
  · rfl
theorem firmOf_flush {d : Disk} (hc : check d = true) : flush (firmOf d) = firmOf d := by
  have hs := check_spec hc
  rw [flush_firm (firmOf_check hc)]
  unfold firmOf
  congr 2
  rw [show (⟨d.size, ⟨(seen d 0 d.size.toNat).toArray⟩, []⟩ : Disk) = firmOf d from rfl]
  exact congrArg List.toArray (firmOf_seen hc 0 d.size.toNat (by omega))
theorem firmOf_crash {d : Disk} (hc : check d = true) (picks : ByteArray) : crash (firmOf d) picks = firmOf d := by
  rw [crash, if_pos (firmOf_check hc)]
  rfl
end Gw.Disk


namespace Gw.Disk
theorem write_done {d : Disk} {a : Nat} {s : ByteArray} (h : writeErr d (a : Int) s = 0) : write d (a : Int) s = ⟨d.size, d.firm, d.loose ++ wrote (a : Int) s (manyOf s)⟩ := by rw [write, if_pos h]
theorem write_size (d : Disk) (a : Int) (s : ByteArray) : (write d a s).size = d.size := by unfold write; split <;> rfl
theorem write_len (d : Disk) (a : Int) (s : ByteArray) : (write d a s).loose.length ≤ d.loose.length + manyOf s := by
  unfold write
  split
  · rw [List.length_append, wrote_length]
    exact Nat.le_refl _
  · omega
/-- The order of two writes that share no sector does not matter to a flush. -/
theorem two_writes {d : Disk} (hc : check d = true) (a b : Int) (s t : ByteArray) (h1 : writeErr d a s = 0) (h2 : writeErr (write d a s) b t = 0) (h3 : writeErr d b t = 0) (h4 : writeErr (write d b t) a s = 0)
    (hno : ¬ (b < a + (manyOf s : Int) ∧ a < b + (manyOf t : Int))) : flush (write (write d a s) b t) = flush (write (write d b t) a s) := by
  obtain ⟨x, rfl, hx⟩ := writeErr_zero h1
  obtain ⟨y, rfl, hy⟩ := writeErr_zero h3
  have e1 := write_done h1
  have e3 := write_done h3
  rw [write_done h2, write_done h4, e1, e3]
  have c1 := check_wrote hc x s hx
  have c3 := check_wrote hc y t hy
  have c2 := check_wrote c1 y t hy
  have c4 := check_wrote c3 x s hx
  have hs := check_spec hc
  rw [flush_firm c2, flush_firm c4]
  unfold firmOf
  simp only
  congr 2
  refine congrArg List.toArray ?_
  have g2 := seen_flat c2 0 d.size.toNat (by show ((0 + d.size.toNat : Nat) : Int) ≤ d.size; omega)
  have g4 := seen_flat c4 0 d.size.toNat (by show ((0 + d.size.toNat : Nat) : Int) ≤ d.size; omega)
  refine g2.trans (Eq.trans (flat_congr _ _ _ (fun i _ => ?_)) g4.symm)
  simp only [Nat.zero_add, sec_wrote]
  by_cases p : x ≤ i ∧ i < x + manyOf s
  · have q : ¬ (y ≤ i ∧ i < y + manyOf t) := by omega
    simp only [p, q, if_true, if_false, and_self]
  · simp only [p, if_false]
end Gw.Disk


namespace Gw.Disk
theorem crashed_congr (p q : ByteArray) (ps : List (Int × ByteArray)) (k : Nat) (l : List UInt8) (h : ∀ i, i < k → pickOf p i = pickOf q i) : crashed p ps k l = crashed q ps k l := by
  induction k with
  | zero => rfl
  | succ k ih => rw [crashed_succ, crashed_succ, ih (fun i hi => h i (by omega)), h k (by omega)]
theorem crash_congr (d : Disk) (p q : ByteArray) (h : ∀ i, i < d.loose.length → pickOf p i = pickOf q i) : crash d p = crash d q := by
  unfold crash
  rw [crashed_congr p q _ _ _ h]
theorem pickOf_list (p : ByteArray) (i : Nat) : pickOf p i = if i < p.data.toList.length then (p.data.toList.getD i 0).toNat % 3 else 0 := rfl
theorem keep_one {d : Disk} (hc : check d = true) (l : List UInt8) (p : Int × ByteArray) (hp : p ∈ d.loose) : keep l p 1 = lay 0 d.size.toNat l p := by
  have hs := (check_spec hc).2.2.2 p hp
  unfold keep lay
  rw [if_pos rfl, if_pos (by omega), Nat.sub_zero]
theorem crashed_all {d : Disk} (hc : check d = true) (q : ByteArray) (k : Nat) (hk : k ≤ d.loose.length) (h : ∀ i, i < k → pickOf q i = 1) (l : List UInt8) : crashed q d.loose k l = (d.loose.take k).foldl (lay 0 d.size.toNat) l := by
  induction k with
  | zero => rfl
  | succ k ih =>
    have hget : d.loose.getD k (0, ByteArray.empty) = d.loose[k] := by rw [List.getD_eq_getElem?_getD, List.getElem?_eq_getElem (by omega)]; rfl
    rw [crashed_succ, ih (by omega) (fun i hi => h i (by omega)), h k (by omega), hget, keep_one hc _ _ (List.getElem_mem _), List.take_succ_eq_append_getElem (by omega), List.foldl_append]
    rfl
theorem crash_all {d : Disk} (hc : check d = true) (q : ByteArray) (hq : q.data.toList = List.replicate d.loose.length 1) : crash d q = flush d := by
  have hs := check_spec hc
  have hfl := firm_length hc
  have h1 : ∀ i, i < d.loose.length → pickOf q i = 1 := fun i hi => by
    rw [pickOf_list, hq, if_pos (by simpa using hi), List.getD_eq_getElem?_getD, List.getElem?_eq_getElem (by simpa using hi)]
    simp
  rw [crash, if_pos hc, flush, if_pos hc, crashed_all hc q _ (Nat.le_refl _) h1, List.take_length]
  unfold seen
  rw [Nat.zero_mul, List.drop_zero, List.take_of_length_le (by omega)]
theorem crash_none {d : Disk} (hc : check d = true) (q : ByteArray) (hq : q.data.toList = []) : crash d q = ⟨d.size, d.firm, []⟩ := by
  rw [crash, if_pos hc]
  have h1 : ∀ k, crashed q d.loose k d.firm.data.toList = d.firm.data.toList := by
    intro k
    induction k with
    | zero => rfl
    | succ k ih =>
      rw [crashed_succ, ih, pickOf_list, hq]
      rfl
  rw [h1]
theorem crash_longer {d : Disk} (p q more : ByteArray) (hq : q.data.toList = p.data.toList ++ List.replicate (d.loose.length - p.size) 0) : crash d (q ++ more) = crash d p := by
  have hp : p.data.toList.length = p.size := rfl
  refine crash_congr _ _ _ (fun i hi => ?_)
  have hql : (q ++ more).data.toList = p.data.toList ++ (List.replicate (d.loose.length - p.size) 0 ++ more.data.toList) := by
    rw [ByteArray.data_append, Array.toList_append, hq, List.append_assoc]
  rw [pickOf_list, pickOf_list, hql]
  by_cases h : i < p.data.toList.length
  · rw [if_pos h, if_pos (by rw [List.length_append]; omega), List.getD_eq_getElem?_getD, List.getD_eq_getElem?_getD, List.getElem?_append_left h]
  · rw [if_neg h, if_pos (by rw [List.length_append, List.length_append, List.length_replicate]; omega), List.getD_eq_getElem?_getD, List.getElem?_append_right (by omega), List.getElem?_append_left (by rw [List.length_replicate]; omega), List.getElem?_replicate, if_pos (by omega)]
    rfl
end Gw.Disk
namespace Gw.Disk
/-- Behind k of Loose each half of a sector is what was firm there, or that half of one of them. -/
def halfOk (ps : List (Int × ByteArray)) (f l : List UInt8) (k : Nat) (a h : Nat) : Prop := (l.drop (16 * a + h)).take 8 = (f.drop (16 * a + h)).take 8 ∨ ∃ i, i < k ∧ ∃ p, ps[i]? = some p ∧ p.1 = (a : Int) ∧ (l.drop (16 * a + h)).take 8 = (p.2.data.toList.drop h).take 8
theorem over_take (l t : List UInt8) (i m n : Nat) (h : i + t.length ≤ l.length) (ho : m + n ≤ i ∨ i + t.length ≤ m) : ((over l i t).drop m).take n = (l.drop m).take n := by
  apply List.ext_getElem?
  intro j
  rw [List.getElem?_take, List.getElem?_take]
  split
  · rw [List.getElem?_drop, List.getElem?_drop, over_get _ _ _ _ h, if_neg (by omega)]
  · rfl
theorem over_in (l t : List UInt8) (i c n : Nat) (h : i + t.length ≤ l.length) (hc : c + n ≤ t.length) : ((over l i t).drop (i + c)).take n = (t.drop c).take n := by
  apply List.ext_getElem?
  intro j
  rw [List.getElem?_take, List.getElem?_take]
  split
  · rw [List.getElem?_drop, List.getElem?_drop, over_get _ _ _ _ h, if_pos (by omega)]
    congr 1
    omega
  · rfl
theorem crash_halves {d : Disk} (hc : check d = true) (picks : ByteArray) : ∀ k, k ≤ d.loose.length → ∀ a : Nat, (a : Int) < d.size → halfOk d.loose d.firm.data.toList (crashed picks d.loose k d.firm.data.toList) k a 0 ∧ halfOk d.loose d.firm.data.toList (crashed picks d.loose k d.firm.data.toList) k a 8 := by
  have hs := check_spec hc
  have hfl := firm_length hc
  intro k
  induction k with
  | zero => intro _ a _; exact ⟨.inl rfl, .inl rfl⟩
  | succ k ih =>
    intro hk a ha
    have ih := ih (by omega) a ha
    have hget : d.loose.getD k (0, ByteArray.empty) = d.loose[k] := by rw [List.getD_eq_getElem?_getD, List.getElem?_eq_getElem (by omega)]; rfl
    have hp := hs.2.2.2 _ (List.getElem_mem (show k < d.loose.length by omega))
    have hpk : d.loose[k]? = some d.loose[k] := List.getElem?_eq_getElem (by omega)
    have hl : (crashed picks d.loose k d.firm.data.toList).length = d.size.toNat * 16 := by
      rw [crashed_length _ _ _ _ (fun i hi => ?_), hfl]
      have hg : d.loose.getD i (0, ByteArray.empty) = d.loose[i] := by rw [List.getD_eq_getElem?_getD, List.getElem?_eq_getElem (by omega)]; rfl
      have h2 := hs.2.2.2 _ (List.getElem_mem (show i < d.loose.length by omega))
      rw [hg]
      omega
    rw [crashed_succ, hget]
    generalize crashed picks d.loose k d.firm.data.toList = l at *
    generalize d.loose[k] = p at *
    have hpl : p.2.data.toList.length = 16 := hp.2.2
    have keepIt : ∀ l', (∀ h, (h = 0 ∨ h = 8) → (l'.drop (16 * a + h)).take 8 = (l.drop (16 * a + h)).take 8 ∨ (p.1 = (a : Int) ∧ (l'.drop (16 * a + h)).take 8 = (p.2.data.toList.drop h).take 8)) → halfOk d.loose d.firm.data.toList l' (k + 1) a 0 ∧ halfOk d.loose d.firm.data.toList l' (k + 1) a 8 := by
      intro l' hh
      have one : ∀ h, (h = 0 ∨ h = 8) → halfOk d.loose d.firm.data.toList l k a h → halfOk d.loose d.firm.data.toList l' (k + 1) a h := by
        intro h h08 hok
        rcases hh h h08 with e | ⟨e1, e2⟩
        · rcases hok with e3 | ⟨i, hi, q, hq, hqa, e3⟩
          · exact .inl (e.trans e3)
          · exact .inr ⟨i, by omega, q, hq, hqa, e.trans e3⟩
        · exact .inr ⟨k, by omega, p, hpk, e1, e2⟩
      exact ⟨one 0 (.inl rfl) ih.1, one 8 (.inr rfl) ih.2⟩
    refine keepIt _ (fun h h08 => ?_)
    unfold keep
    split
    · by_cases hpa : p.1 = (a : Int)
      · refine .inr ⟨hpa, ?_⟩
        rw [show 16 * a + h = p.1.toNat * 16 + h from by omega]
        exact over_in _ _ _ _ _ (by omega) (by omega)
      · refine .inl (over_take _ _ _ _ _ (by omega) (by omega))
    · split
      · have ht : (p.2.data.toList.take 8).length = 8 := by rw [List.length_take]; omega
        by_cases hpa : p.1 = (a : Int)
        · rcases h08 with rfl | rfl
          · refine .inr ⟨hpa, ?_⟩
            have := over_in l (p.2.data.toList.take 8) (p.1.toNat * 16) 0 8 (by omega) (by omega)
            rw [show 16 * a + 0 = p.1.toNat * 16 + 0 from by omega, this, List.drop_zero, List.drop_zero, List.take_take]
            rfl
          · exact .inl (over_take _ _ _ _ _ (by omega) (by omega))
        · exact .inl (over_take _ _ _ _ _ (by omega) (by omega))
      · exact .inl rfl
end Gw.Disk
