/- Plain laws of disks, sector by sector. -/
import Derived.Test.YtfehckdcjgmcpaaDiskLaw
namespace Gw.Disk

/-- n pieces, one behind the other. -/
def flat (n : Nat) (f : Nat → List UInt8) : List UInt8 := (List.range n).flatMap f
theorem flat_succ (n : Nat) (f : Nat → List UInt8) : flat (n + 1) f = flat n f ++ f n := by simp [flat, List.range_succ]
theorem flat_length (n : Nat) (f : Nat → List UInt8) (hf : ∀ i, i < n → (f i).length = 16) : (flat n f).length = n * 16 := by
  induction n with
  | zero => rfl
  | succ n ih =>
    rw [flat_succ, List.length_append, ih (fun i hi => hf i (by omega)), hf n (by omega)]
    omega
theorem flat_get (n : Nat) (f : Nat → List UInt8) (hf : ∀ i, i < n → (f i).length = 16) (j : Nat) : (flat n f)[j]? = if j < n * 16 then (f (j / 16))[j % 16]? else none := by
  induction n with
  | zero => simp [flat]
  | succ n ih =>
    have hl := flat_length n f (fun i hi => hf i (by omega))
    have ih := ih (fun i hi => hf i (by omega))
    rw [flat_succ]
    by_cases h : j < n * 16
    · rw [List.getElem?_append_left (by omega), ih, if_pos h, if_pos (by omega)]
    · rw [List.getElem?_append_right (by omega), hl]
      by_cases h2 : j < (n + 1) * 16
      · rw [if_pos h2, show j / 16 = n from by omega, show j % 16 = j - n * 16 from by omega]
      · rw [if_neg h2]
        exact List.getElem?_eq_none (by rw [hf n (by omega)]; omega)
theorem flat_congr (n : Nat) (f g : Nat → List UInt8) (h : ∀ i, i < n → f i = g i) : flat n f = flat n g := by
  induction n with
  | zero => rfl
  | succ n ih => rw [flat_succ, flat_succ, ih (fun i hi => h i (by omega)), h n (by omega)]
/-- Bytes in pieces of sixteen. -/
theorem flat_of (l : List UInt8) (n : Nat) (hl : l.length = n * 16) : l = flat n (fun i => (l.drop (i * 16)).take 16) := by
  have hf : ∀ i, i < n → ((l.drop (i * 16)).take 16).length = 16 := fun i hi => by rw [List.length_take, List.length_drop, hl]; omega
  apply List.ext_getElem?
  intro j
  rw [flat_get _ _ hf]
  by_cases h : j < n * 16
  · rw [if_pos h, List.getElem?_take_of_lt (by omega), List.getElem?_drop]
    congr 1
    omega
  · rw [if_neg h]
    exact List.getElem?_eq_none (by omega)
/-- A piece of so many pieces. -/
theorem flat_cut (n a m : Nat) (f : Nat → List UInt8) (hf : ∀ i, i < n → (f i).length = 16) (h : a + m ≤ n) : ((flat n f).drop (a * 16)).take (m * 16) = flat m (fun i => f (a + i)) := by
  have hf2 : ∀ i, i < m → (f (a + i)).length = 16 := fun i hi => hf _ (by omega)
  apply List.ext_getElem?
  intro j
  rw [flat_get _ _ hf2]
  by_cases h2 : j < m * 16
  · rw [if_pos h2, List.getElem?_take_of_lt h2, List.getElem?_drop, flat_get _ _ hf, if_pos (by omega), show (a * 16 + j) / 16 = a + j / 16 from by omega, show (a * 16 + j) % 16 = j % 16 from by omega]
  · rw [if_neg h2]
    exact List.getElem?_eq_none (by rw [List.length_take]; omega)
theorem over_get (l t : List UInt8) (i j : Nat) (h : i + t.length ≤ l.length) : (over l i t)[j]? = if i ≤ j ∧ j < i + t.length then t[j - i]? else l[j]? := by
  unfold over
  by_cases h1 : j < i
  · rw [if_neg (by omega), List.append_assoc, List.getElem?_append_left (by rw [List.length_take]; omega), List.getElem?_take_of_lt h1]
  · by_cases h2 : j < i + t.length
    · rw [if_pos (by omega), List.append_assoc, List.getElem?_append_right (by rw [List.length_take]; omega), List.length_take, Nat.min_eq_left (by omega), List.getElem?_append_left (by omega)]
    · rw [if_neg (by omega), List.getElem?_append_right (by rw [List.length_append, List.length_take]; omega), List.length_append, List.length_take, Nat.min_eq_left (by omega), List.getElem?_drop]
      congr 1
      omega
theorem lay_flat (a n : Nat) (f : Nat → List UInt8) (hf : ∀ i, i < n → (f i).length = 16) (p : Int × ByteArray) (hp : p.2.size = 16) :
    lay a n (flat n f) p = flat n (fun i => if p.1 = ((a + i : Nat) : Int) then p.2.data.toList else f i) := by
  have hpl : p.2.data.toList.length = 16 := hp
  have hf2 : ∀ i, i < n → ((fun i : Nat => if p.1 = ((a + i : Nat) : Int) then p.2.data.toList else f i) i).length = 16 := fun i hi => by
    show (if p.1 = ((a + i : Nat) : Int) then p.2.data.toList else f i).length = 16
    split
    · exact hpl
    · exact hf i hi
  have hl := flat_length n f hf
  unfold lay
  by_cases h : (a : Int) ≤ p.1 ∧ p.1 < a + n
  · rw [if_pos h]
    apply List.ext_getElem?
    intro j
    rw [over_get _ _ _ _ (by omega), flat_get _ _ hf, flat_get _ _ hf2, hpl]
    by_cases hj : j < n * 16
    · rw [if_pos hj, if_pos hj]
      show _ = (if p.1 = ((a + j / 16 : Nat) : Int) then p.2.data.toList else f (j / 16))[j % 16]?
      by_cases h3 : p.1 = ((a + j / 16 : Nat) : Int)
      · rw [if_pos h3, if_pos (by omega)]
        congr 1
        omega
      · rw [if_neg h3, if_neg (by omega)]
    · rw [if_neg hj, if_neg hj, if_neg (by omega)]
  · rw [if_neg h]
    refine flat_congr _ _ _ (fun i hi => ?_)
    rw [if_neg (by omega)]
/-- What is seen of one sector. -/
def put1 (i : Int) (l : List UInt8) (p : Int × ByteArray) : List UInt8 := if p.1 = i then p.2.data.toList else l
def sec (d : Disk) (i : Nat) : List UInt8 := d.loose.foldl (put1 (i : Int)) ((d.firm.data.toList.drop (i * 16)).take 16)
theorem foldl_lay_flat (a n : Nat) (ps : List (Int × ByteArray)) (hp : ∀ p ∈ ps, p.2.size = 16) (f : Nat → List UInt8) (hf : ∀ i, i < n → (f i).length = 16) :
    ps.foldl (lay a n) (flat n f) = flat n (fun i => ps.foldl (put1 ((a + i : Nat) : Int)) (f i)) := by
  induction ps generalizing f with
  | nil => rfl
  | cons p ps ih =>
    rw [List.foldl_cons, lay_flat a n f hf p (hp p (by simp)), ih (fun q hq => hp q (by simp [hq])) _ (fun i hi => ?_)]
    · rfl
    · show (if p.1 = ((a + i : Nat) : Int) then p.2.data.toList else f i).length = 16
      split
      · exact hp p (by simp)
      · exact hf i hi
theorem put1_length (i : Int) (ps : List (Int × ByteArray)) (hp : ∀ p ∈ ps, p.2.size = 16) (l : List UInt8) (hl : l.length = 16) : (ps.foldl (put1 i) l).length = 16 := by
  induction ps generalizing l with
  | nil => exact hl
  | cons p ps ih =>
    rw [List.foldl_cons]
    refine ih (fun q hq => hp q (by simp [hq])) _ ?_
    unfold put1
    split
    · exact hp p (by simp)
    · exact hl
theorem firm_length {d : Disk} (hc : check d = true) : d.firm.data.toList.length = d.size.toNat * 16 := by
  have h := check_spec hc
  have : d.firm.data.toList.length = d.firm.size := rfl
  omega
theorem sec_length {d : Disk} (hc : check d = true) (i : Nat) (hi : (i : Int) < d.size) : (sec d i).length = 16 := by
  refine put1_length _ _ (fun p hp => ((check_spec hc).2.2.2 p hp).2.2) _ ?_
  rw [List.length_take, List.length_drop, firm_length hc]
  omega
theorem seen_flat {d : Disk} (hc : check d = true) (a n : Nat) (h : ((a + n : Nat) : Int) ≤ d.size) : seen d a n = flat n (fun i => sec d (a + i)) := by
  have hfl := firm_length hc
  have h1 : (d.firm.data.toList.drop (a * 16)).take (n * 16) = flat n (fun i => (d.firm.data.toList.drop ((a + i) * 16)).take 16) := by
    have h2 := flat_of ((d.firm.data.toList.drop (a * 16)).take (n * 16)) n (by rw [List.length_take, List.length_drop, hfl]; omega)
    rw [h2]
    refine flat_congr _ _ _ (fun i hi => ?_)
    rw [List.drop_take, List.drop_drop, List.take_take, Nat.min_eq_left (by omega)]
    congr 2
    omega
  unfold seen
  rw [h1, foldl_lay_flat a n d.loose (fun p hp => ((check_spec hc).2.2.2 p hp).2.2) _ (fun i hi => by rw [List.length_take, List.length_drop, hfl]; omega)]
  rfl
/-- Behind a write. -/
theorem sec_wrote (f : ByteArray) (z : Int) (ps : List (Int × ByteArray)) (a : Nat) (s : ByteArray) (k : Nat) (i : Nat) :
    sec ⟨z, f, ps ++ wrote (a : Int) s k⟩ i = if a ≤ i ∧ i < a + k then ((pad s).drop ((i - a) * 16)).take 16 else sec ⟨z, f, ps⟩ i := by
  induction k with
  | zero =>
    rw [if_neg (by omega), show wrote (a : Int) s 0 = [] from rfl, List.append_nil]
  | succ k ih =>
    unfold sec at ih ⊢
    simp only at ih ⊢
    rw [wrote_succ, ← List.append_assoc, List.foldl_append, ih, List.foldl_cons, List.foldl_nil]
    unfold put1
    simp only
    by_cases h : (a : Int) + (k : Int) = (i : Int)
    · rw [if_pos h, if_pos (by omega), show i - a = k from by omega]
    · rw [if_neg h]
      by_cases h2 : a ≤ i ∧ i < a + k
      · rw [if_pos h2, if_pos (by omega)]
      · rw [if_neg h2, if_neg (by omega)]
theorem wrote_mem {a : Nat} {s : ByteArray} {k : Nat} (hk : k ≤ manyOf s) {p : Int × ByteArray} (hp : p ∈ wrote (a : Int) s k) : ∃ j, j < k ∧ p.1 = ((a + j : Nat) : Int) ∧ p.2.size = 16 := by
  unfold wrote at hp
  obtain ⟨j, hj, rfl⟩ := List.mem_map.1 hp
  have hj' : j < k := by simpa using hj
  refine ⟨j, hj', by simp, ?_⟩
  show (((pad s).drop (j * 16)).take 16).toArray.size = 16
  rw [List.size_toArray, List.length_take, List.length_drop, pad_length]
  omega
theorem check_wrote {d : Disk} (hc : check d = true) (a : Nat) (s : ByteArray) (h : ((a + manyOf s : Nat) : Int) ≤ d.size) : check ⟨d.size, d.firm, d.loose ++ wrote (a : Int) s (manyOf s)⟩ = true := by
  have hs := check_spec hc
  unfold check at hc ⊢
  simp only [Bool.and_eq_true, List.all_append] at hc ⊢
  refine ⟨hc.1, hc.2, ?_⟩
  rw [List.all_eq_true]
  intro p hp
  obtain ⟨j, hj, h1, h2⟩ := wrote_mem (Nat.le_refl _) hp
  unfold fits
  simp only [Bool.and_eq_true, decide_eq_true_eq]
  omega
theorem seen_wrote {d : Disk} (hc : check d = true) (a : Nat) (s : ByteArray) (h : ((a + manyOf s : Nat) : Int) ≤ d.size) : seen ⟨d.size, d.firm, d.loose ++ wrote (a : Int) s (manyOf s)⟩ a (manyOf s) = pad s := by
  rw [seen_flat (check_wrote hc a s h) a (manyOf s) h]
  refine Eq.trans (flat_congr _ _ (fun i => ((pad s).drop (i * 16)).take 16) (fun i hi => ?_)) (flat_of _ _ (pad_length s)).symm
  rw [sec_wrote, if_pos (by omega), show a + i - a = i from by omega]
theorem seen_one {d : Disk} (hc : check d = true) (i : Nat) (h : ((i + 1 : Nat) : Int) ≤ d.size) : seen d i 1 = sec d i := by
  rw [seen_flat hc i 1 h]
  show flat 1 _ = _
  rw [flat_succ]
  simp [flat]
theorem seen_wrote_other {d : Disk} (hc : check d = true) (a : Nat) (s : ByteArray) (h : ((a + manyOf s : Nat) : Int) ≤ d.size) (i : Nat) (hi : ((i + 1 : Nat) : Int) ≤ d.size) (ho : ¬ (a ≤ i ∧ i < a + manyOf s)) :
    seen ⟨d.size, d.firm, d.loose ++ wrote (a : Int) s (manyOf s)⟩ i 1 = seen d i 1 := by
  rw [seen_one (check_wrote hc a s h) i hi, seen_one hc i hi, sec_wrote, if_neg ho]
end Gw.Disk
