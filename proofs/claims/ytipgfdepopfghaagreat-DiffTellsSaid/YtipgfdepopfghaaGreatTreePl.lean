/- What the package stamp computes, in plain Lean: no program in sight. -/
import Derived.Test.YtipgfdepopfghaaGreatNamePl
namespace Gw.Stamp
structure Stamp where
  c : Int
  r : Int
def check (s : Stamp) : Bool := decide (1 ≤ s.c) && (decide (s.c ≤ 1048576) && (decide (0 ≤ s.r) && decide (s.r ≤ 63)))
def less (a b : Stamp) : Bool := decide (a.c < b.c) || (decide (a.c = b.c) && decide (a.r < b.r))
/-- Whether a number is a node's; its stamp; whether it is a file's. -/
def ok (id : Int) : Bool := decide (128 ≤ id) && decide (id < 134217856)
def of (id : Int) : Stamp := if ok id = true then ⟨id / 128, id % 128 / 2⟩ else ⟨0, 0⟩
def file (id : Int) : Bool := ok id && decide (id % 2 = 1)
def dir (id : Int) : Bool := decide (id = 0) || (decide (id = 2) || (ok id && !file id))
def later (at_ : Stamp) (id : Int) : Bool := ok id && less at_ (of id)
end Gw.Stamp


namespace Gw.Tree
open Gw.Stamp (Stamp)
structure Node where
  id : Int
  parent : Int
  name : List UInt8
  moved : Stamp
  data : List UInt8
  wrote : Stamp
def zeroN : Node := ⟨0, 0, [], ⟨0, 0⟩, [], ⟨0, 0⟩⟩
/-- The node ahead of a place has a smaller number. -/
def prevOk (l : List Node) (id : Int) : Nat → Bool
  | 0 => true
  | j + 1 => match l[j]? with | none => false | some p => decide (p.id < id)
/-- The node at a place may be there. -/
def mayAt (l : List Node) (k : Nat) : Bool := match l[k]? with
  | none => false
  | some n => Gw.Stamp.ok n.id && prevOk l n.id k
/-- Whether nodes may be. -/
def check (l : List Node) : Bool := (List.range l.length).all (mayAt l)
/-- The place of a number in nodes that rise; whether its node is there; the node. -/
def pos (l : List Node) (id : Int) : Nat := (l.takeWhile fun n => decide (n.id < id)).length
def had (l : List Node) (id : Int) : Bool := match l[pos l id]? with | none => false | some n => decide (n.id = id)
def find (l : List Node) (id : Int) : Option Node := match l[pos l id]? with | none => none | some n => if n.id = id then some n else none
/-- What is above a number: so far at most. -/
def climb (l : List Node) : Nat → Int → List Int
  | 0, _ => []
  | f + 1, id => match find l id with
    | none => []
    | some n => if n.parent = -1 then [] else n.parent :: climb l f n.parent
def above (l : List Node) (id : Int) : List Int := if check l = true then climb l l.length id else []

theorem check_at {l : List Node} (h : check l = true) {k : Nat} (hk : k < l.length) : mayAt l k = true := List.all_eq_true.1 h k (List.mem_range.2 hk)
theorem check_ok {l : List Node} (h : check l = true) {k : Nat} (hk : k < l.length) : Gw.Stamp.ok l[k].id = true := by
  have := check_at h hk
  unfold mayAt at this
  rw [List.getElem?_eq_getElem hk] at this
  simp only [Bool.and_eq_true] at this
  exact this.1
theorem check_next {l : List Node} (h : check l = true) {k : Nat} (hk : k + 1 < l.length) : l[k].id < l[k + 1].id := by
  have := check_at h hk
  unfold mayAt at this
  rw [List.getElem?_eq_getElem hk] at this
  simp only [Bool.and_eq_true] at this
  have h2 := this.2
  rw [prevOk, List.getElem?_eq_getElem (show k < l.length by omega)] at h2
  exact of_decide_eq_true h2
theorem check_lt {l : List Node} (h : check l = true) {i j : Nat} (hij : i < j) (hj : j < l.length) : l[i].id < l[j].id := by
  induction j with
  | zero => omega
  | succ j ih =>
    have h1 := check_next h hj
    by_cases e : i = j
    · subst e; exact h1
    · have := ih (by omega) (by omega); omega
theorem pos_le (l : List Node) (id : Int) : pos l id ≤ l.length := by
  unfold pos
  exact (List.takeWhile_sublist _).length_le
theorem pos_low {l : List Node} {id : Int} {k : Nat} (hk : k < pos l id) : ∃ h : k < l.length, l[k].id < id := by
  have hl : k < l.length := Nat.lt_of_lt_of_le hk (pos_le l id)
  refine ⟨hl, ?_⟩
  unfold pos at hk
  have hp : (l.takeWhile fun n => decide (n.id < id)) <+: l := List.takeWhile_prefix _
  have e := hp.getElem hk
  have hm : (l.takeWhile fun n => decide (n.id < id))[k] ∈ (l.takeWhile fun n => decide (n.id < id)) := List.getElem_mem hk
  have := List.all_takeWhile (p := fun n : Node => decide (n.id < id)) (l := l)
  have := List.all_eq_true.1 this _ hm
  rw [e] at this
  exact of_decide_eq_true this
theorem pos_at {l : List Node} {id : Int} (h : pos l id < l.length) : id ≤ l[pos l id].id := by
  induction l with
  | nil => simp at h
  | cons n l ih =>
    by_cases hn : n.id < id
    · have e : pos (n :: l) id = pos l id + 1 := by unfold pos; rw [List.takeWhile_cons_of_pos (by simpa using hn)]; rfl
      simp only [e, List.getElem_cons_succ]
      simp only [e, List.length_cons] at h
      exact ih (by omega)
    · have e : pos (n :: l) id = 0 := by unfold pos; rw [List.takeWhile_cons_of_neg (by simpa using hn)]; rfl
      simp only [e, List.getElem_cons_zero]
      omega
theorem pos_of {l : List Node} {id : Int} {i : Nat} (hi : i ≤ l.length) (h1 : ∀ k (hk : k < l.length), k < i → l[k].id < id) (h2 : ∀ k (hk : k < l.length), i ≤ k → id ≤ l[k].id) : i = pos l id := by
  rcases Nat.lt_trichotomy i (pos l id) with h | h | h
  · obtain ⟨hl, h3⟩ := pos_low h
    have := h2 i hl (Nat.le_refl _); omega
  · exact h
  · have hl : pos l id < l.length := by omega
    have := h1 _ hl h
    have := pos_at hl; omega
theorem had_find (l : List Node) (id : Int) : had l id = (find l id).isSome := by
  unfold had find
  cases l[pos l id]? with
  | none => rfl
  | some n => by_cases h : n.id = id <;> simp [h]
theorem find_some {l : List Node} {id : Int} {n : Node} (h : find l id = some n) : n ∈ l ∧ n.id = id ∧ ∃ hp : pos l id < l.length, l[pos l id] = n := by
  unfold find at h
  cases hg : l[pos l id]? with
  | none => simp [hg] at h
  | some m =>
    simp only [hg] at h
    split at h
    · cases h
      obtain ⟨hp, e⟩ := List.getElem?_eq_some_iff.1 hg
      exact ⟨List.mem_of_getElem? hg, by assumption, hp, e⟩
    · cases h
theorem find_mem {l : List Node} (hc : check l = true) {n : Node} (h : n ∈ l) : find l n.id = some n := by
  obtain ⟨k, hk, rfl⟩ := List.getElem_of_mem h
  have e : k = pos l l[k].id := pos_of (Nat.le_of_lt hk) (fun j hj h => check_lt hc h hk) (fun j hj h => by
    by_cases e : k = j
    · subst e; exact Int.le_refl _
    · exact Int.le_of_lt (check_lt hc (by omega) hj))
  unfold find
  rw [← e, List.getElem?_eq_getElem hk]
  simp
theorem climb_len (l : List Node) : ∀ (f : Nat) (id : Int), (climb l f id).length ≤ f
  | 0, _ => Nat.le_refl _
  | f + 1, id => by
    rw [climb]
    split
    · simp
    · split
      · simp
      · have := climb_len l f (by assumption : Node).parent; simp; omega
end Gw.Tree


namespace Gw.Vlq

/-- A number's high digits, each with 128 more; the fuel is more than any number of the machine has. -/
def high : Nat → Nat → List UInt8
  | 0, _ => []
  | f + 1, n => if n = 0 then [] else high f (n / 128) ++ [UInt8.ofNat (n % 128 + 128)]
def one (n : Nat) : List UInt8 := high 10 (n / 128) ++ [UInt8.ofNat (n % 128)]
def sizeF : Nat → Nat → Nat
  | 0, _ => 1
  | f + 1, n => if n < 128 then 1 else sizeF f (n / 128) + 1
def size (n : Nat) : Nat := sizeF 9 n
/-- Digit i of so many. -/
def digit (n size i : Nat) : Nat := n / 128 ^ (size - 1 - i) % 128 + (if i + 1 < size then 128 else 0)
def digits (n size k : Nat) : List UInt8 := (List.range k).map fun i => UInt8.ofNat (digit n size i)
def many (l : List Nat) : List UInt8 := (l.map one).flatten
def takeF (n i : Nat) : List UInt8 → Option (Nat × Nat)
  | [] => none
  | c :: l => if (i = 0 ∧ c.toNat = 128) ∨ 72057594037927935 < n then none else if c.toNat < 128 then some (n * 128 + c.toNat, i + 1) else takeF (n * 128 + c.toNat % 128) (i + 1) l
def take (l : List UInt8) : Option (Nat × Nat) := takeF 0 0 l
def text (b t : List UInt8) : List UInt8 := b ++ one t.length ++ t

theorem sizeF_pos (f n : Nat) : 1 ≤ sizeF f n := by
  cases f with
  | zero => exact Nat.le_refl _
  | succ f => unfold sizeF; split <;> omega
theorem sizeF_le (f n : Nat) : sizeF f n ≤ f + 1 := by
  induction f generalizing n with
  | zero => exact Nat.le_refl _
  | succ f ih => unfold sizeF; have := ih (n / 128); split <;> omega
theorem size_pos (n : Nat) : 1 ≤ size n := sizeF_pos _ _
theorem sizeF_le9 : ∀ (f n : Nat), n < 128 ^ (f + 1) → sizeF (f + 1) n ≤ f + 1
  | 0, n, h => by unfold sizeF; rw [if_pos (by simpa using h)]; omega
  | f + 1, n, h => by
    unfold sizeF
    split
    · omega
    · have := sizeF_le9 f (n / 128) (by rw [Nat.pow_succ] at h; omega)
      omega
theorem size_le9 (n : Nat) (h : n < 9223372036854775808) : size n ≤ 9 := sizeF_le9 8 n (by omega)
theorem high_length : ∀ (f n : Nat), n < 128 ^ f → (high f (n / 128)).length + 1 = sizeF f n
  | 0, n, h => by simp [high, sizeF]
  | f + 1, n, h => by
    unfold high sizeF
    by_cases hn : n < 128
    · rw [if_pos (by omega), if_pos hn]; rfl
    · rw [if_neg (by omega), if_neg hn, List.length_append]
      have := high_length f (n / 128) (by rw [Nat.pow_succ] at h; omega)
      simp
      omega
theorem high_fuel : ∀ (f g n : Nat), n < 128 ^ f → f ≤ g → high g n = high f n
  | 0, g, n, h, _ => by
    have : n = 0 := by simpa using h
    subst this
    cases g <;> simp [high]
  | f + 1, 0, _, _, hg => by omega
  | f + 1, g + 1, n, h, hg => by
    unfold high
    rw [high_fuel f g (n / 128) (by rw [Nat.pow_succ] at h; omega) (by omega)]
theorem one_length (n : Nat) (h : n < 128 ^ 9) : (one n).length = size n := by
  unfold one size
  rw [List.length_append, high_fuel 9 10 (n / 128) (by omega) (by omega)]
  exact high_length 9 n h
theorem digits_succ (n size k : Nat) : digits n size (k + 1) = digits n size k ++ [UInt8.ofNat (digit n size k)] := by
  simp [digits, List.range_succ]
/-- The digits, one by one, are the number's bytes. -/
theorem high_digits : ∀ (f n : Nat), n < 128 ^ f → high f (n / 128) = digits n (sizeF f n) (sizeF f n - 1)
  | 0, n, _ => by simp [high, sizeF, digits]
  | f + 1, n, h => by
    unfold high sizeF
    by_cases hn : n < 128
    · rw [if_pos (by omega), if_pos hn]; rfl
    · rw [if_neg (by omega), if_neg hn]
      have hf : n / 128 < 128 ^ f := by rw [Nat.pow_succ] at h; omega
      have ih := high_digits f (n / 128) hf
      have hp := sizeF_pos f (n / 128)
      generalize sizeF f (n / 128) = s at *
      rw [ih, show s + 1 - 1 = (s - 1) + 1 from by omega, digits_succ]
      congr 1
      · unfold digits
        refine List.map_congr_left fun i hi => ?_
        have hi' : i < s - 1 := by simpa using hi
        unfold digit
        rw [if_pos (by omega), if_pos (by omega)]
        congr 3
        rw [Nat.div_div_eq_div_mul, ← Nat.pow_succ', show (s - 1 - i).succ = s + 1 - 1 - i from by omega]
      · unfold digit
        rw [show s + 1 - 1 - (s - 1) = 1 from by omega, if_pos (by omega), Nat.pow_one]
theorem one_digits (n : Nat) (h : n < 128 ^ 9) : one n = digits n (size n) (size n) := by
  have hp := size_pos n
  unfold one
  rw [high_fuel 9 10 (n / 128) (by omega) (by omega), high_digits 9 n h]
  unfold size at *
  generalize sizeF 9 n = s at *
  have e := digits_succ n s (s - 1)
  rw [show s - 1 + 1 = s from by omega] at e
  rw [e]
  congr 1
  unfold digit
  rw [show s - 1 - (s - 1) = 0 from by omega, if_neg (by omega), Nat.pow_zero, Nat.div_one, Nat.add_zero]
theorem many_snoc (l : List Nat) (n : Nat) : many (l ++ [n]) = many l ++ one n := by simp [many]
theorem many_append (l m : List Nat) : many (l ++ m) = many l ++ many m := by simp [many]

/- Taking, step by step. -/
theorem takeF_stop (n i : Nat) (c : UInt8) (l : List UInt8) (h : (i = 0 ∧ c.toNat = 128) ∨ 72057594037927935 < n) : takeF n i (c :: l) = none := by
  unfold takeF; rw [if_pos h]
theorem takeF_last (n i : Nat) (c : UInt8) (l : List UInt8) (h : ¬ ((i = 0 ∧ c.toNat = 128) ∨ 72057594037927935 < n)) (hc : c.toNat < 128) : takeF n i (c :: l) = some (n * 128 + c.toNat, i + 1) := by
  unfold takeF; rw [if_neg h, if_pos hc]
theorem takeF_more (n i : Nat) (c : UInt8) (l : List UInt8) (h : ¬ ((i = 0 ∧ c.toNat = 128) ∨ 72057594037927935 < n)) (hc : ¬ c.toNat < 128) : takeF n i (c :: l) = takeF (n * 128 + c.toNat % 128) (i + 1) l := by
  conv => lhs; unfold takeF
  rw [if_neg h, if_neg hc]
/-- What is used of the bytes, and how great the number is. -/
theorem takeF_some : ∀ (l : List UInt8) (n i m u : Nat), n < 9223372036854775808 → takeF n i l = some (m, u) → i + 1 ≤ u ∧ u ≤ i + l.length ∧ m < 9223372036854775808
  | [], n, i, m, u, _, h => by simp [takeF] at h
  | c :: l, n, i, m, u, hn, h => by
    unfold takeF at h
    have hc := UInt8.toNat_lt c
    split at h
    · cases h
    · rename_i h1
      split at h
      · rename_i h2
        simp only [Option.some.injEq, Prod.mk.injEq] at h
        simp only [List.length_cons]
        omega
      · have h3 := takeF_some l _ _ m u (by omega) h
        simp only [List.length_cons]
        omega
end Gw.Vlq


namespace Gw.Op
open Gw.Stamp
structure Op where
  at_ : Stamp
  kind : Int
  node : Int
  parent : Int
  name : List UInt8
  data : List UInt8
def fitsMove (o : Op) : Bool := ok o.node && (dir o.parent && (!later o.at_ o.parent && (Gw.Name.check o.name && decide (o.data = []))))
def fitsWrite (o : Op) : Bool := ok o.node && (file o.node && (decide (o.data.length ≤ 64) && (decide (o.parent = 0) && decide (o.name = []))))
/-- Whether an operation may be. -/
def check (o : Op) : Bool := if o.kind = 1 then Gw.Stamp.check o.at_ && (!later o.at_ o.node && fitsMove o) else if o.kind = 2 then Gw.Stamp.check o.at_ && (!later o.at_ o.node && fitsWrite o) else false
def head (o : Op) : List UInt8 := Gw.Vlq.many [o.at_.c.toNat, o.at_.r.toNat, o.kind.toNat, o.node.toNat]
/-- An operation's bytes. -/
def bytes (o : Op) : List UInt8 := if o.kind = 1 then Gw.Vlq.text (head o ++ Gw.Vlq.many [o.parent.toNat]) o.name else Gw.Vlq.text (head o) o.data
def put (b : List UInt8) (o : Op) : List UInt8 := if check o = true then b ++ bytes o else []
def putErr (o : Op) : Int := if check o = true then 0 else 50

theorem ok_bounds {id : Int} (h : ok id = true) : 128 ≤ id ∧ id < 134217856 := by
  unfold ok at h
  simpa using h
theorem dir_bounds {id : Int} (h : dir id = true) : 0 ≤ id ∧ id < 134217856 := by
  unfold dir at h
  simp only [Bool.or_eq_true, Bool.and_eq_true, decide_eq_true_eq] at h
  rcases h with h | h | h
  · omega
  · omega
  · have := ok_bounds h.1; omega
theorem check_bounds {o : Op} (h : check o = true) : (0 ≤ o.at_.c ∧ o.at_.c ≤ 1048576) ∧ (0 ≤ o.at_.r ∧ o.at_.r ≤ 63) ∧ (o.kind = 1 ∨ o.kind = 2) ∧ (128 ≤ o.node ∧ o.node < 134217856) ∧ (0 ≤ o.parent ∧ o.parent < 134217856) := by
  have st : Gw.Stamp.check o.at_ = true → (0 ≤ o.at_.c ∧ o.at_.c ≤ 1048576) ∧ (0 ≤ o.at_.r ∧ o.at_.r ≤ 63) := fun h => by
    unfold Gw.Stamp.check at h
    simp only [Bool.and_eq_true, decide_eq_true_eq] at h
    omega
  unfold check at h
  split at h
  · rename_i hk
    simp only [Bool.and_eq_true] at h
    obtain ⟨h1, _, h2⟩ := h
    unfold fitsMove at h2
    simp only [Bool.and_eq_true] at h2
    obtain ⟨a, b⟩ := st h1
    exact ⟨a, b, .inl hk, ok_bounds h2.1, dir_bounds h2.2.1⟩
  · split at h
    · rename_i hk
      simp only [Bool.and_eq_true] at h
      obtain ⟨h1, _, h2⟩ := h
      unfold fitsWrite at h2
      simp only [Bool.and_eq_true, decide_eq_true_eq] at h2
      obtain ⟨a, b⟩ := st h1
      exact ⟨a, b, .inr hk, ok_bounds h2.1, by omega⟩
    · cases h
end Gw.Op


namespace Gw.Tree
open Gw.Op (Op)
structure Undo where
  did : Bool
  had : Bool
  was : Node
/-- Would a node be in itself? -/
def loops (l : List Node) (o : Op) : Bool := decide (o.parent = o.node) || (climb l l.length o.parent).contains o.node
def freshN (id : Int) : Node := ⟨id, -1, [], ⟨0, 0⟩, [], ⟨0, 0⟩⟩
def turned (n : Node) (o : Op) : Node := if o.kind = 1 then ⟨n.id, o.parent, o.name, o.at_, n.data, n.wrote⟩ else ⟨n.id, n.parent, n.name, n.moved, o.data, o.at_⟩
/-- Is an operation done? -/
def may (l : List Node) (o : Op) : Bool := check l && (Gw.Op.check o && !(decide (o.kind = 1) && loops l o))
def upto (l : List Node) (id : Int) : Nat := if had l id = true then pos l id + 1 else pos l id
def done (l : List Node) (o : Op) : List Node := if may l o = true then l.take (pos l o.node) ++ [turned ((find l o.node).getD (freshN o.node)) o] ++ l.drop (upto l o.node) else l
def undo (l : List Node) (o : Op) : Undo := if may l o = true then ⟨true, had l o.node, (find l o.node).getD zeroN⟩ else ⟨false, false, zeroN⟩
theorem turned_id (n : Node) (o : Op) : (turned n o).id = n.id := by unfold turned; split <;> rfl
theorem done_mem {l : List Node} {o : Op} {n : Node} (h : n ∈ done l o) : n ∈ l ∨ (may l o = true ∧ n = turned ((find l o.node).getD (freshN o.node)) o ∧ n.id = o.node) := by
  unfold done at h
  split at h
  · rcases List.mem_append.1 h with h | h
    · rcases List.mem_append.1 h with h | h
      · exact .inl (List.mem_of_mem_take h)
      · rw [List.mem_singleton] at h
        refine .inr ⟨by assumption, h, ?_⟩
        rw [h, turned_id]
        cases hf : find l o.node with
        | none => rfl
        | some m => exact (find_some hf).2.1
    · exact .inl (List.mem_of_mem_drop h)
  · exact .inl h
theorem done_len (l : List Node) (o : Op) : (done l o).length ≤ l.length + 1 := by
  unfold done
  split
  · have h1 := pos_le l o.node
    have h2 : pos l o.node ≤ upto l o.node := by unfold upto; split <;> omega
    rw [List.length_append, List.length_append, List.length_take, List.length_drop, List.length_singleton]; omega
  · omega
end Gw.Tree


namespace Gw.Sort
variable {α : Type} (lt : α → α → Bool)
/-- Two places turned. -/
def swap (l : List α) (p q : Nat) : List α := match l[p]?, l[q]? with
  | some x, some y => (l.set p y).set q x
  | _, _ => l
def lessAt (l : List α) (p q : Nat) : Bool := match l[p]?, l[q]? with
  | some x, some y => lt x y
  | _, _ => false
def sink (a : Nat) : Nat → List α → List α
  | 0, l => l
  | j + 1, l => if decide (a < j + 1) && lessAt lt l (j + 1) j then sink a j (swap l (j + 1) j) else l
def insF (a : Nat) : Nat → Nat → List α → List α
  | 0, _, l => l
  | f + 1, i, l => insF a f (i + 1) (sink lt a i l)
def isort (a b : Nat) (l : List α) : List α := insF lt a (b - (a + 1)) (a + 1) l

theorem swap_eq {l : List α} {p q : Nat} (hp : p < l.length) (hq : q < l.length) : swap l p q = (l.set p l[q]).set q l[p] := by
  unfold swap
  rw [List.getElem?_eq_getElem hp, List.getElem?_eq_getElem hq]
theorem swap_len (l : List α) (p q : Nat) : (swap l p q).length = l.length := by
  unfold swap
  split <;> simp
theorem swap_perm (l : List α) (p q : Nat) : (swap l p q).Perm l := by
  by_cases hp : p < l.length
  · by_cases hq : q < l.length
    · rw [swap_eq hp hq]
      have h := Array.swap_perm (xs := l.toArray) (i := p) (j := q) (by simpa using hp) (by simpa using hq)
      have e : (l.toArray.swap p q (by simpa using hp) (by simpa using hq)).toList = (l.set p l[q]).set q l[p] := by simp [Array.swap]
      rw [← e]
      exact h.toList
    · unfold swap
      rw [List.getElem?_eq_none (show l.length ≤ q by omega)]
      cases l[p]? <;> exact .refl _
  · unfold swap
    rw [List.getElem?_eq_none (show l.length ≤ p by omega)]
theorem lessAt_eq {l : List α} {p q : Nat} (hp : p < l.length) (hq : q < l.length) : lessAt lt l p q = lt l[p] l[q] := by
  unfold lessAt
  rw [List.getElem?_eq_getElem hp, List.getElem?_eq_getElem hq]
theorem sink_perm (a : Nat) : ∀ (j : Nat) (l : List α), (sink lt a j l).Perm l
  | 0, _ => .refl _
  | j + 1, l => by
    rw [sink]
    split
    · exact (sink_perm a j _).trans (swap_perm _ _ _)
    · exact .refl _
theorem insF_perm (a : Nat) : ∀ (f i : Nat) (l : List α), (insF lt a f i l).Perm l
  | 0, _, _ => .refl _
  | f + 1, i, l => (insF_perm a f (i + 1) _).trans (sink_perm lt a i l)
theorem isort_perm (a b : Nat) (l : List α) : (isort lt a b l).Perm l := insF_perm lt a _ _ l
theorem sink_len (a j : Nat) (l : List α) : (sink lt a j l).length = l.length := (sink_perm lt a j l).length_eq
end Gw.Sort
