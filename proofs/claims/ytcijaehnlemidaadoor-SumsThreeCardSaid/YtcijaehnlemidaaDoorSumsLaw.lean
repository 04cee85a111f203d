/- The plain laws of the sums: no program in sight. A sum is linear: what is in one text of two changes it alike, whatever the texts are; a step loses nothing. -/
import Derived.Test.YtcijaehnlemidaaDoorSumsFn
namespace Gw.Sums

theorem xlc (a b c : Nat) : a ^^^ (b ^^^ c) = b ^^^ (a ^^^ c) := by rw [← Nat.xor_assoc, Nat.xor_comm a b, Nat.xor_assoc]
theorem step_zero : step 0 = 0 := by decide
theorem iter_zero (k : Nat) : iter k 0 = 0 := by
  induction k with
  | zero => rfl
  | succ k ih => simp [iter, ih, step_zero]
theorem iter_succ (k x : Nat) : iter (k + 1) x = iter k (step x) := by
  induction k with
  | zero => rfl
  | succ k ih => rw [iter, ih]; rfl
theorem double_xor (x y : Nat) : (x ^^^ y) * 2 % 4294967296 = (x * 2 % 4294967296) ^^^ (y * 2 % 4294967296) := by
  have h := Nat.shiftLeft_xor_distrib (a := x) (b := y) (i := 1)
  simp only [Nat.shiftLeft_eq, Nat.pow_one] at h
  rw [h]
  exact Nat.xor_mod_two_pow (n := 32)
theorem high_xor (x y : Nat) : (x ^^^ y) / 2147483648 = (x / 2147483648) ^^^ (y / 2147483648) := by
  have h := Nat.shiftRight_xor_distrib (a := x) (b := y) (i := 31)
  simpa only [Nat.shiftRight_eq_div_pow] using h
theorem step_xor (x y : Nat) (hx : x < 4294967296) (hy : y < 4294967296) : step (x ^^^ y) = step x ^^^ step y := by
  have h := high_xor x y
  unfold step
  rw [double_xor]
  by_cases a : x < 2147483648
  · by_cases b : y < 2147483648
    · rw [Nat.div_eq_of_lt a, Nat.div_eq_of_lt b] at h
      rw [if_pos a, if_pos b, if_pos (by simp only [Nat.xor_self] at h; omega)]
      simp
    · rw [Nat.div_eq_of_lt a, show y / 2147483648 = 1 from by omega] at h
      rw [if_pos a, if_neg b, if_neg (by simp only [Nat.zero_xor] at h; omega)]
      simp [Nat.xor_assoc]
  · by_cases b : y < 2147483648
    · rw [Nat.div_eq_of_lt b, show x / 2147483648 = 1 from by omega] at h
      rw [if_neg a, if_pos b, if_neg (by simp only [Nat.xor_zero] at h; omega)]
      rw [Nat.xor_zero, Nat.xor_assoc, Nat.xor_assoc, Nat.xor_comm 79764919]
    · rw [show x / 2147483648 = 1 from by omega, show y / 2147483648 = 1 from by omega, Nat.xor_self] at h
      rw [if_neg a, if_neg b, if_pos (by omega)]
      rw [Nat.xor_zero, Nat.xor_assoc, xlc 79764919, Nat.xor_self, Nat.xor_zero]
theorem xor_lt (x y : Nat) (hx : x < 4294967296) (hy : y < 4294967296) : x ^^^ y < 4294967296 := Nat.xor_lt_two_pow (n := 32) hx hy
theorem iter_xor (k x y : Nat) (hx : x < 4294967296) (hy : y < 4294967296) : iter k (x ^^^ y) = iter k x ^^^ iter k y := by
  induction k with
  | zero => rfl
  | succ k ih => rw [iter, ih, step_xor _ _ (iter_lt _ _ hx) (iter_lt _ _ hy)]; rfl
theorem step_eq_zero (x : Nat) (hx : x < 4294967296) (h : step x = 0) : x = 0 := by
  by_cases a : x < 2147483648
  · rw [step_lo a] at h
    omega
  · rw [step_hi a] at h
    have h2 : (x * 2 % 4294967296) = 79764919 := by
      have := congrArg (· ^^^ 79764919) h
      simpa [Nat.xor_assoc] using this
    omega
theorem iter_eq_zero (k x : Nat) (hx : x < 4294967296) (h : iter k x = 0) : x = 0 := by
  induction k with
  | zero => exact h
  | succ k ih => exact ih (step_eq_zero _ (iter_lt _ _ hx) h)

/-- So much is put on by steps that no bit leaves. -/
theorem iter_small (k x : Nat) (hk : k ≤ 32) (h : x < 2 ^ (32 - k)) : iter k x = x * 2 ^ k := by
  induction k with
  | zero => simp [iter]
  | succ k ih =>
    have e : 2 ^ (32 - k) = 2 ^ (32 - (k + 1)) * 2 := by rw [← Nat.pow_succ]; congr 1; omega
    have e1 : 2 ^ (32 - (k + 1)) * 2 ^ k = 2147483648 := by rw [← Nat.pow_add, show 32 - (k + 1) + k = 31 from by omega]
    have h3 : x * 2 ^ k < 2147483648 := by rw [← e1]; exact Nat.mul_lt_mul_of_pos_right h (Nat.two_pow_pos k)
    rw [iter, ih (by omega) (by omega), step_lo h3, Nat.mod_eq_of_lt (by omega), Nat.pow_succ, Nat.mul_assoc]

theorem xor_top (r : Nat) : r ^^^ (r / 16777216 * 16777216) = r % 16777216 := by
  have e : r / 16777216 * 16777216 = (r >>> 24) <<< 24 := by rw [Nat.shiftRight_eq_div_pow, Nat.shiftLeft_eq]
  have e2 : r % 16777216 = r % 2 ^ 24 := rfl
  rw [e, e2]
  apply Nat.eq_of_testBit_eq
  intro i
  rw [Nat.testBit_xor, Nat.testBit_shiftLeft, Nat.testBit_shiftRight, Nat.testBit_mod_two_pow]
  by_cases h : i < 24
  · simp [h, show ¬ 24 ≤ i from by omega]
  · rw [show 24 + (i - 24) = i from by omega]
    simp [h, show 24 ≤ i from by omega]
theorem add_top (r : Nat) : add r (r / 16777216) = r % 16777216 * 256 := by
  unfold add
  rw [xor_top, iter_small 8 _ (by omega) (by omega)]

theorem sum_sealed (l : List UInt8) : sum (l ++ bytes (sum l)) = 0 := by
  have hr := sum_lt l
  unfold sum at hr ⊢
  rw [sumFrom_append]
  generalize sumFrom 4294967295 l = r at *
  unfold bytes sumFrom
  simp only [List.foldl_cons, List.foldl_nil, UInt8.toNat_ofNat']
  rw [show r / 16777216 % 2 ^ 8 = r / 16777216 from by omega, add_top]
  rw [show r / 65536 % 2 ^ 8 = r % 16777216 * 256 / 16777216 from by omega, add_top]
  rw [show r / 256 % 2 ^ 8 = r % 16777216 * 256 % 16777216 * 256 / 16777216 from by omega, add_top]
  rw [show r % 2 ^ 8 = r % 16777216 * 256 % 16777216 * 256 % 16777216 * 256 / 16777216 from by omega, add_top]
  omega

/- Three texts of one length. -/
theorem add_xor (n m c d : Nat) (hn : n < 4294967296) (hm : m < 4294967296) (hc : c < 256) (hd : d < 256) : add (n ^^^ m) (c ^^^ d) = add n c ^^^ add m d := by
  unfold add
  have e : (c ^^^ d) * 16777216 = (c * 16777216) ^^^ (d * 16777216) := by
    have h := Nat.shiftLeft_xor_distrib (a := c) (b := d) (i := 24)
    simpa only [Nat.shiftLeft_eq] using h
  rw [e, ← iter_xor 8 _ _ (xor_lt _ _ hn (by omega)) (xor_lt _ _ hm (by omega))]
  congr 1
  simp only [Nat.xor_assoc, xlc m]
def xor3 : List UInt8 → List UInt8 → List UInt8 → List UInt8
  | a :: l, b :: m, c :: n => (a ^^^ b ^^^ c) :: xor3 l m n
  | _, _, _ => []
theorem sumFrom_xor3 : ∀ (a b c : List UInt8) (x y z : Nat), a.length = b.length → b.length = c.length → x < 4294967296 → y < 4294967296 → z < 4294967296 →
    sumFrom (x ^^^ y ^^^ z) (xor3 a b c) = sumFrom x a ^^^ sumFrom y b ^^^ sumFrom z c
  | [], [], [], _, _, _, _, _, _, _, _ => rfl
  | a :: l, b :: m, c :: n, x, y, z, h1, h2, hx, hy, hz => by
    simp only [List.length_cons] at h1 h2
    have ha := UInt8.toNat_lt a
    have hb := UInt8.toNat_lt b
    have hc := UInt8.toNat_lt c
    have e : sumFrom (x ^^^ y ^^^ z) (xor3 (a :: l) (b :: m) (c :: n)) = sumFrom (add (x ^^^ y ^^^ z) (a ^^^ b ^^^ c).toNat) (xor3 l m n) := rfl
    rw [e, UInt8.toNat_xor, UInt8.toNat_xor, add_xor _ _ _ _ (xor_lt _ _ hx hy) hz (Nat.xor_lt_two_pow (n := 8) ha hb) hc, add_xor _ _ _ _ hx hy ha hb,
      sumFrom_xor3 l m n _ _ _ (by omega) (by omega) (add_lt _ _) (add_lt _ _) (add_lt _ _)]
    rfl
theorem sum_xor3 (a b c : List UInt8) (h1 : a.length = b.length) (h2 : b.length = c.length) : sum (xor3 a b c) = sum a ^^^ sum b ^^^ sum c := by
  have h := sumFrom_xor3 a b c 4294967295 4294967295 4294967295 h1 h2 (by omega) (by omega) (by omega)
  rw [Nat.xor_self, Nat.zero_xor] at h
  exact h

/- Bits, the highest one first. -/
def bfeed (n : Nat) (b : Bool) : Nat := step (n ^^^ (if b then 2147483648 else 0))
def val : List Bool → Nat
  | [] => 0
  | b :: l => (if b then 2 ^ l.length else 0) + val l
theorem val_lt (l : List Bool) : val l < 2 ^ l.length := by
  induction l with
  | nil => simp [val]
  | cons b l ih =>
    simp only [val, List.length_cons, Nat.pow_succ]
    split <;> omega
theorem val_zero (l : List Bool) (h : val l = 0) : ∀ b ∈ l, b = false := by
  induction l with
  | nil => simp
  | cons b l ih =>
    simp only [val] at h
    have hp := Nat.two_pow_pos l.length
    intro c hc
    cases b
    · simp only [Bool.false_eq_true, if_false, Nat.zero_add] at h
      cases List.mem_cons.1 hc with
      | inl e => exact e
      | inr e => exact ih h c e
    · simp only [if_true] at h
      omega
theorem bfeed_lt (n : Nat) (b : Bool) : bfeed n b < 4294967296 := step_lt _
theorem feed_lt (l : List Bool) (n : Nat) (h : n < 4294967296) : l.foldl bfeed n < 4294967296 := by
  induction l generalizing n with
  | nil => exact h
  | cons b l ih => exact ih _ (bfeed_lt _ _)
theorem add_xor_disjoint (k v : Nat) (h : v < 2 ^ k) : 2 ^ k + v = 2 ^ k ^^^ v := by
  have e := Nat.two_pow_add_eq_or_of_lt h 1
  rw [Nat.mul_one] at e
  rw [e]
  apply Nat.eq_of_testBit_eq
  intro i
  rw [Nat.testBit_or, Nat.testBit_xor, Nat.testBit_two_pow]
  by_cases hi : k = i
  · subst hi
    simp [Nat.testBit_lt_two_pow h]
  · simp [hi]
/-- So many bits fed one by one are fed at once. -/
theorem feed_eq (l : List Bool) (n : Nat) (hn : n < 4294967296) (hl : l.length ≤ 32) : l.foldl bfeed n = iter l.length (n ^^^ (val l * 2 ^ (32 - l.length))) := by
  induction l generalizing n with
  | nil => simp [val, iter]
  | cons b l ih =>
    simp only [List.length_cons] at hl
    have hv := val_lt l
    have e1 : (2 : Nat) ^ (32 - l.length) = 2 ^ (32 - (l.length + 1)) * 2 := by rw [← Nat.pow_succ]; congr 1; omega
    have e2 : (2 : Nat) ^ l.length * 2 ^ (32 - (l.length + 1)) = 2147483648 := by rw [← Nat.pow_add, show l.length + (32 - (l.length + 1)) = 31 from by omega]
    have hlow : val l * 2 ^ (32 - (l.length + 1)) < 2147483648 := by rw [← e2]; exact Nat.mul_lt_mul_of_pos_right hv (Nat.two_pow_pos _)
    rw [List.foldl_cons, ih _ (bfeed_lt _ _) (by omega), List.length_cons, iter_succ]
    congr 1
    have e3 : val l * 2 ^ (32 - l.length) = step (val l * 2 ^ (32 - (l.length + 1))) := by
      rw [step_lo hlow, Nat.mod_eq_of_lt (by omega), e1, Nat.mul_assoc]
    have hb : (if b then 2147483648 else 0 : Nat) < 4294967296 := by split <;> omega
    rw [e3, bfeed, ← step_xor _ _ (xor_lt _ _ hn hb) (by omega), Nat.xor_assoc]
    congr 2
    simp only [val]
    cases b
    · simp
    · simp only [if_true]
      rw [Nat.add_mul, e2]
      exact (add_xor_disjoint 31 _ hlow).symm

/-- The bits of a byte, and of bytes. -/
def bitsOf (c : Nat) : List Bool := [c.testBit 7, c.testBit 6, c.testBit 5, c.testBit 4, c.testBit 3, c.testBit 2, c.testBit 1, c.testBit 0]
def stream (l : List UInt8) : List Bool := (l.map fun c => bitsOf c.toNat).flatten
theorem val_bitsOf : ∀ c, c < 256 → val (bitsOf c) = c := by decide +kernel
theorem add_feed (n c : Nat) (hn : n < 4294967296) (hc : c < 256) : add n c = (bitsOf c).foldl bfeed n := by
  rw [feed_eq (bitsOf c) n hn (by simp [bitsOf]), val_bitsOf c hc]
  rfl
theorem sumFrom_feed (l : List UInt8) (n : Nat) (hn : n < 4294967296) : sumFrom n l = (stream l).foldl bfeed n := by
  induction l generalizing n with
  | nil => rfl
  | cons c l ih =>
    have e : stream (c :: l) = bitsOf c.toNat ++ stream l := rfl
    have e2 : sumFrom n (c :: l) = sumFrom (add n c.toNat) l := rfl
    rw [e, e2, List.foldl_append, ← add_feed _ _ hn (UInt8.toNat_lt c), ih _ (add_lt _ _)]
def xorB : List Bool → List Bool → List Bool
  | a :: l, b :: m => (a ^^ b) :: xorB l m
  | _, _ => []
theorem feed_xor : ∀ (a b : List Bool) (n m : Nat), a.length = b.length → n < 4294967296 → m < 4294967296 → (xorB a b).foldl bfeed (n ^^^ m) = a.foldl bfeed n ^^^ b.foldl bfeed m
  | [], [], _, _, _, _, _ => rfl
  | a :: l, b :: r, n, m, h, hn, hm => by
    simp only [List.length_cons] at h
    have ha : (if a then 2147483648 else 0 : Nat) < 4294967296 := by split <;> omega
    have hb : (if b then 2147483648 else 0 : Nat) < 4294967296 := by split <;> omega
    have e : bfeed (n ^^^ m) (a ^^ b) = bfeed n a ^^^ bfeed m b := by
      unfold bfeed
      rw [← step_xor _ _ (xor_lt _ _ hn ha) (xor_lt _ _ hm hb)]
      congr 1
      cases a <;> cases b <;> simp [Nat.xor_assoc, xlc 2147483648]
      rw [Nat.xor_comm m]
    simp only [xorB, List.foldl_cons]
    rw [e]
    exact feed_xor l r _ _ (by omega) (bfeed_lt _ _) (bfeed_lt _ _)
theorem feed_false (k n : Nat) (hn : n < 4294967296) : (List.replicate k false).foldl bfeed n = iter k n := by
  induction k generalizing n with
  | zero => rfl
  | succ k ih => rw [List.replicate_succ, List.foldl_cons, ih _ (bfeed_lt _ _), iter_succ]; simp [bfeed]
/-- A burst of at most 32 bits is not lost. -/
theorem burst_seen (from_ rest : Nat) (l : List Bool) (hl : l.length ≤ 32) (h : (List.replicate from_ false ++ (l ++ List.replicate rest false)).foldl bfeed 0 = 0) : ∀ b ∈ l, b = false := by
  rw [List.foldl_append, List.foldl_append, feed_false from_ 0 (by omega), iter_zero, feed_eq l 0 (by omega) hl, Nat.zero_xor] at h
  have hv := val_lt l
  have hlt : val l * 2 ^ (32 - l.length) < 4294967296 := by
    have : (2 : Nat) ^ l.length * 2 ^ (32 - l.length) = 4294967296 := by rw [← Nat.pow_add, show l.length + (32 - l.length) = 32 from by omega]
    rw [← this]
    exact Nat.mul_lt_mul_of_pos_right hv (Nat.two_pow_pos _)
  rw [feed_false _ _ (iter_lt _ _ hlt)] at h
  have h1 := iter_eq_zero _ _ hlt (iter_eq_zero _ _ (iter_lt _ _ hlt) h)
  have hp := Nat.two_pow_pos (32 - l.length)
  refine val_zero l ?_
  rcases Nat.mul_eq_zero.1 h1 with h2 | h2
  · exact h2
  · omega

/- What the statement on bursts does to a text's bytes. -/
def flip (l : List UInt8) (k : Nat) : List UInt8 := l.set (k / 8) (UInt8.ofNat ((l.getD (k / 8) 0).toNat ^^^ 128 >>> (k % 8)))
def burstL (l : List UInt8) (from_ burst : Nat) : Nat → List UInt8
  | 0 => l
  | j + 1 => if burst / 2 ^ j % 2 = 1 then flip (burstL l from_ burst j) (from_ + j) else burstL l from_ burst j
theorem flip_length (l : List UInt8) (k : Nat) : (flip l k).length = l.length := by simp [flip]
theorem burstL_length (l : List UInt8) (from_ burst j : Nat) : (burstL l from_ burst j).length = l.length := by
  induction j with
  | zero => rfl
  | succ j ih => unfold burstL; split <;> simp [flip_length, ih]
theorem burstL_zero (l : List UInt8) (from_ j : Nat) : burstL l from_ 0 j = l := by
  induction j with
  | zero => rfl
  | succ j ih => simp [burstL, ih]
theorem stream_length (l : List UInt8) : (stream l).length = 8 * l.length := by
  induction l with
  | nil => rfl
  | cons c l ih =>
    have e : stream (c :: l) = bitsOf c.toNat ++ stream l := rfl
    rw [e, List.length_append, ih]
    simp [bitsOf]
    omega
theorem stream_get (l : List UInt8) (p : Nat) : (stream l)[p]? = (l[p / 8]?).map fun c => c.toNat.testBit (7 - p % 8) := by
  induction l generalizing p with
  | nil => rfl
  | cons c l ih =>
    have e : stream (c :: l) = bitsOf c.toNat ++ stream l := rfl
    rw [e]
    by_cases h : p < 8
    · rw [List.getElem?_append_left (by simpa [bitsOf] using h), show p / 8 = 0 from by omega, Nat.mod_eq_of_lt h]
      have : p = 0 ∨ p = 1 ∨ p = 2 ∨ p = 3 ∨ p = 4 ∨ p = 5 ∨ p = 6 ∨ p = 7 := by omega
      rcases this with rfl | rfl | rfl | rfl | rfl | rfl | rfl | rfl <;> rfl
    · rw [List.getElem?_append_right (by simpa [bitsOf] using h), show (bitsOf c.toNat).length = 8 from rfl, ih, show p / 8 = (p - 8) / 8 + 1 from by omega, show p % 8 = (p - 8) % 8 from by omega]
      rfl
theorem flip_bit : ∀ r, r < 8 → ∀ q, q < 8 → ∀ c, c < 256 → ((UInt8.ofNat (c ^^^ 128 >>> r)).toNat.testBit (7 - q)) = (c.testBit (7 - q) ^^ decide (q = r)) := by decide +kernel
theorem stream_flip (l : List UInt8) (k p : Nat) (hk : k < 8 * l.length) : (stream (flip l k))[p]? = ((stream l)[p]?).map fun b => b ^^ decide (p = k) := by
  rw [stream_get, stream_get]
  unfold flip
  rw [List.getElem?_set]
  have hkl : k / 8 < l.length := by omega
  by_cases h : k / 8 = p / 8
  · rw [if_pos h, if_pos hkl, ← h, List.getElem?_eq_getElem hkl, List.getD_eq_getElem?_getD, List.getElem?_eq_getElem hkl]
    simp only [Option.map_some, Option.getD_some]
    rw [flip_bit (k % 8) (by omega) (p % 8) (by omega) _ (UInt8.toNat_lt _)]
    have e : decide (p % 8 = k % 8) = decide (p = k) := by rw [decide_eq_decide]; omega
    rw [e]
  · rw [if_neg h]
    have : decide (p = k) = false := decide_eq_false (by intro e; exact h (by rw [e]))
    rw [this]
    simp only [Bool.xor_false, Option.map_map]
    rfl
theorem stream_burst (l : List UInt8) (from_ burst : Nat) (p : Nat) : ∀ j, from_ + j ≤ 8 * l.length → (stream (burstL l from_ burst j))[p]? = ((stream l)[p]?).map fun b => b ^^ (decide (from_ ≤ p ∧ p < from_ + j) && decide (burst / 2 ^ (p - from_) % 2 = 1)) := by
  intro j
  induction j with
  | zero =>
    intro _
    have : decide (from_ ≤ p ∧ p < from_ + 0) = false := decide_eq_false (by omega)
    simp only [this, Bool.false_and, Bool.xor_false, burstL]
    exact Option.map_id'.symm
  | succ j ih =>
    intro h
    unfold burstL
    by_cases hb : burst / 2 ^ j % 2 = 1
    · rw [if_pos hb, stream_flip _ _ _ (by rw [burstL_length]; omega), ih (by omega), Option.map_map]
      congr 1
      funext b
      by_cases hp : p = from_ + j
      · subst hp
        simp [hb]
      · simp only [Function.comp, decide_eq_false hp, Bool.xor_false]
        congr 2
        rw [decide_eq_decide]
        omega
    · rw [if_neg hb, ih (by omega)]
      congr 1
      funext b
      by_cases hp : p = from_ + j
      · subst hp
        simp [hb]
      · congr 2
        rw [decide_eq_decide]
        omega
theorem xorB_get : ∀ (a b : List Bool) (p : Nat), a.length = b.length → (xorB a b)[p]? = (a[p]?).bind fun x => (b[p]?).map fun y => x ^^ y
  | [], [], _, _ => rfl
  | a :: l, b :: m, 0, _ => rfl
  | a :: l, b :: m, p + 1, h => by
    simp only [List.length_cons] at h
    simpa [xorB] using xorB_get l m p (by omega)
/-- The changed bits. -/
def burstBits (from_ burst n : Nat) : List Bool := List.replicate from_ false ++ ((List.range 32).map (fun i => decide (burst / 2 ^ i % 2 = 1)) ++ List.replicate (n - from_ - 32) false)
theorem burstBits_length (from_ burst n : Nat) (h : from_ + 32 ≤ n) : (burstBits from_ burst n).length = n := by simp [burstBits]; omega
theorem burstBits_get (from_ burst n p : Nat) (h : from_ + 32 ≤ n) (hp : p < n) : (burstBits from_ burst n)[p]? = some (decide (from_ ≤ p ∧ p < from_ + 32) && decide (burst / 2 ^ (p - from_) % 2 = 1)) := by
  unfold burstBits
  by_cases h1 : p < from_
  · rw [List.getElem?_append_left (by simpa using h1)]
    have : decide (from_ ≤ p ∧ p < from_ + 32) = false := decide_eq_false (by omega)
    rw [this, List.getElem?_replicate, if_pos h1]
    rfl
  · rw [List.getElem?_append_right (by simpa using h1), List.length_replicate]
    by_cases h2 : p < from_ + 32
    · have : decide (from_ ≤ p ∧ p < from_ + 32) = true := decide_eq_true (by omega)
      rw [this, List.getElem?_append_left (by simp; omega), List.getElem?_map, List.getElem?_range (by omega)]
      rfl
    · have : decide (from_ ≤ p ∧ p < from_ + 32) = false := decide_eq_false (by omega)
      rw [this, List.getElem?_append_right (by simp; omega), List.getElem?_replicate, if_pos (by simp; omega)]
      rfl
theorem stream_burst_all (l : List UInt8) (from_ burst : Nat) (h : from_ + 32 ≤ 8 * l.length) : stream (burstL l from_ burst 32) = xorB (stream l) (burstBits from_ burst (8 * l.length)) := by
  apply List.ext_getElem?
  intro p
  rw [stream_burst l from_ burst p 32 h, xorB_get _ _ _ (by rw [stream_length, burstBits_length _ _ _ h])]
  by_cases hp : p < 8 * l.length
  · rw [burstBits_get _ _ _ _ h hp]
    rw [← stream_length l] at hp
    rw [List.getElem?_eq_getElem hp]
    rfl
  · rw [List.getElem?_eq_none (by rw [stream_length]; omega)]
    rfl
theorem burst_zero (burst : Nat) (hb : burst < 4294967296) (h : ∀ i, i < 32 → ¬ burst / 2 ^ i % 2 = 1) : burst = 0 := by
  apply Nat.eq_of_testBit_eq
  intro i
  rw [Nat.zero_testBit]
  by_cases hi : i < 32
  · have := h i hi
    rw [Nat.testBit_eq_decide_div_mod_eq]
    exact decide_eq_false this
  · exact Nat.testBit_lt_two_pow (Nat.lt_of_lt_of_le hb (Nat.pow_le_pow_right (n := 2) (by omega) (show 32 ≤ i by omega)))
/-- A burst in a text whose sum is 0 is seen. -/
theorem burst_sum (l : List UInt8) (from_ burst : Nat) (h : from_ + 32 ≤ 8 * l.length) (hb : burst < 4294967296) (h0 : sum l = 0) (h1 : sum (burstL l from_ burst 32) = 0) : burst = 0 := by
  unfold sum at h0 h1
  rw [sumFrom_feed _ _ (by omega)] at h0 h1
  rw [stream_burst_all l from_ burst h] at h1
  have hx := feed_xor (stream l) (burstBits from_ burst (8 * l.length)) 4294967295 0 (by rw [stream_length, burstBits_length _ _ _ h]) (by omega) (by omega)
  rw [Nat.xor_zero, h0, h1, Nat.zero_xor] at hx
  have hs := burst_seen from_ (8 * l.length - from_ - 32) _ (by simp) hx.symm
  refine burst_zero burst hb (fun i hi => ?_)
  have := hs (decide (burst / 2 ^ i % 2 = 1)) (List.mem_map.2 ⟨i, by simpa using hi, rfl⟩)
  simpa using this
end Gw.Sums
