/- Texts that have runes: one behind the other, and in order; the plain laws of names and paths. Plain Lean. -/
import Derived.Test.YtkflmicpifohhaaRuneLaw
import Derived.Test.YtkflmicpifohhaaNameLaw
namespace Gw.Rune
open Gw.RName

def flat (m : List Nat) : List UInt8 := m.flatMap enc
theorem flat_cons (r : Nat) (m : List Nat) : flat (r :: m) = enc r ++ flat m := by simp [flat]
theorem flat_append (m n : List Nat) : flat (m ++ n) = flat m ++ flat n := by simp [flat]
def ints (m : List Nat) : List Int := m.map fun (r : Nat) => ((r : Nat) : Int)
theorem take_drop (s : List UInt8) (p : Nat) (hp : p < s.length) : take s p = take (s.drop p) 0 := by
  have e : ∀ i, (s.drop p).getD i 0 = s.getD (p + i) 0 := fun i => by simp [List.getD_eq_getElem?_getD]
  rw [take_eq s p hp, take_eq (s.drop p) 0 (by rw [List.length_drop]; omega), e, e, e, e, List.length_drop]
  simp
theorem allF_flat (s : List UInt8) : ∀ (m : List Nat) (f p : Nat) (acc : List Int), (∀ r ∈ m, vN r) → p ≤ s.length → s.drop p = flat m → s.length < f + p → allF s f p acc = some (acc ++ ints m)
  | [], f, p, acc, _, hp, hd, hf => by
    have : s.length ≤ p := by have := congrArg List.length hd; simp [flat] at this; omega
    cases f with
    | zero => simp [allF, ints]
    | succ f => rw [allF, if_neg (by omega)]; simp [ints]
  | r :: m, f, p, acc, hv, hp, hd, hf => by
    have hl := congrArg List.length hd
    rw [flat_cons, List.length_append, List.length_drop] at hl
    have hpos := enc_pos r
    obtain ⟨f, rfl⟩ : ∃ g, f = g + 1 := ⟨f - 1, by omega⟩
    have ht : take s p = (r, (enc r).length) := by rw [take_drop s p (by omega), hd, flat_cons, take_of_enc (hv r (by simp))]
    rw [allF, if_pos (by omega), ht]
    simp only
    rw [if_neg (by omega), allF_flat s m f (p + (enc r).length) (acc ++ [(r : Int)]) (fun x hx => hv x (by simp [hx])) (by omega) (by rw [← List.drop_drop, hd, flat_cons]; simp) (by omega)]
    simp [ints]
theorem all_flat {m : List Nat} (h : ∀ r ∈ m, vN r) : all (flat m) = some (ints m) := by
  unfold all
  rw [allF_flat (flat m) m _ 0 [] h (Nat.zero_le _) rfl (by omega)]
  simp
theorem flat_allF (s : List UInt8) : ∀ (f p : Nat) (acc l : List Int), p ≤ s.length → s.length < f + p → allF s f p acc = some l → ∃ m, l = acc ++ ints m ∧ (∀ r ∈ m, vN r) ∧ s.drop p = flat m
  | 0, p, acc, l, hp, hf, _ => absurd hf (by omega)
  | f + 1, p, acc, l, hp, hf, h => by
    rw [allF] at h
    by_cases hlt : p < s.length
    · rw [if_pos hlt] at h
      by_cases hn : (take s p).2 = 0
      · rw [if_pos hn] at h; cases h
      · rw [if_neg hn] at h
        obtain ⟨h1, h2⟩ := take_enc s p hlt hn
        have hle : p + (take s p).2 ≤ s.length := by
          have := congrArg List.length h2
          rw [List.length_drop, List.length_append, List.length_drop] at this
          have := enc_pos (take s p).1
          rw [take_eq s p hlt] at hn ⊢
          have := (takeB_enc _ _ _ _ _ (UInt8.toNat_lt _) (UInt8.toNat_lt _) (UInt8.toNat_lt _) (UInt8.toNat_lt _) hn).2.2.1
          omega
        obtain ⟨m, k1, k2, k3⟩ := flat_allF s f _ _ l hle (by omega) h
        refine ⟨(take s p).1 :: m, by rw [k1]; simp [ints], fun r hr => ?_, by rw [h2, k3, flat_cons]⟩
        rcases List.mem_cons.1 hr with rfl | hr
        · exact h1
        · exact k2 r hr
    · rw [if_neg hlt] at h
      simp only [Option.some.injEq] at h
      exact ⟨[], by rw [h]; simp [ints], by simp, by rw [List.drop_of_length_le (by omega)]; rfl⟩
theorem spell_iff {s : List UInt8} {l : List Int} : Gw.Name.spell s = some l ↔ ∃ m, l = ints m ∧ (∀ r ∈ m, vN r) ∧ s = flat m := by
  rw [spell_all]
  constructor
  · intro h
    obtain ⟨m, h1, h2, h3⟩ := flat_allF s _ 0 [] l (Nat.zero_le _) (by omega) h
    exact ⟨m, by simpa using h1, h2, by simpa using h3⟩
  · rintro ⟨m, rfl, h2, rfl⟩
    exact all_flat h2
theorem spell_append {a b : List UInt8} {l m : List Int} (h1 : Gw.Name.spell a = some l) (h2 : Gw.Name.spell b = some m) : Gw.Name.spell (a ++ b) = some (l ++ m) := by
  obtain ⟨x, rfl, hx, rfl⟩ := spell_iff.1 h1
  obtain ⟨y, rfl, hy, rfl⟩ := spell_iff.1 h2
  exact spell_iff.2 ⟨x ++ y, by simp [ints], fun r hr => (List.mem_append.1 hr).elim (hx r) (hy r), (flat_append x y).symm⟩

open Go (Op.bytesLess)
theorem bl_cons (a b : Nat) (ha : a < 256) (hb : b < 256) (x y : List UInt8) : Go.Op.bytesLess (UInt8.ofNat a :: x) (UInt8.ofNat b :: y) = if a < b then true else if a = b then Go.Op.bytesLess x y else false := by
  rw [Go.Op.bytesLess]
  have e1 : (UInt8.ofNat a < UInt8.ofNat b) ↔ a < b := by rw [UInt8.lt_iff_toNat_lt, u8 ha, u8 hb]
  have e2 : (UInt8.ofNat a == UInt8.ofNat b) = decide (a = b) := by
    rw [Bool.eq_iff_iff, beq_iff_eq, decide_eq_true_eq, ← UInt8.toNat_inj, u8 ha, u8 hb]
  rw [e2]
  by_cases h1 : a < b
  · simp [e1.2 h1, h1]
  · have : ¬ (UInt8.ofNat a < UInt8.ofNat b) := fun h => h1 (e1.1 h)
    by_cases h2 : a = b
    · simp [h2]
    · simp [this, h1, h2]
theorem bl_same : ∀ (c x y : List UInt8), Go.Op.bytesLess (c ++ x) (c ++ y) = Go.Op.bytesLess x y
  | [], _, _ => rfl
  | a :: c, x, y => by
    rw [List.cons_append, List.cons_append, Go.Op.bytesLess, bl_same c x y]
    have : ¬ a < a := by rw [UInt8.lt_iff_toNat_lt]; omega
    simp [this]
theorem enc_lt {a b : Nat} (hb : vN b) (h : a < b) (x y : List UInt8) : Go.Op.bytesLess (enc a ++ x) (enc b ++ y) = true ∧ Go.Op.bytesLess (enc b ++ y) (enc a ++ x) = false := by
  unfold vN at hb
  have key : ∀ c : Nat, c ≤ 1114111 → (c < 128 ∧ encN c = [c]) ∨ (128 ≤ c ∧ c < 2048 ∧ encN c = [192 + c / 64, 128 + c % 64]) ∨ (2048 ≤ c ∧ c < 65536 ∧ encN c = [224 + c / 4096, 128 + c / 64 % 64, 128 + c % 64]) ∨ (65536 ≤ c ∧ encN c = [240 + c / 262144, 128 + c / 4096 % 64, 128 + c / 64 % 64, 128 + c % 64]) := by
    intro c _
    unfold encN
    by_cases c1 : c < 128
    · exact .inl ⟨c1, if_pos c1⟩
    by_cases c2 : c < 2048
    · exact .inr (.inl ⟨by omega, c2, by rw [if_neg c1, if_pos c2]⟩)
    by_cases c3 : c < 65536
    · exact .inr (.inr (.inl ⟨by omega, c3, by rw [if_neg c1, if_neg c2, if_pos c3]⟩))
    · exact .inr (.inr (.inr ⟨by omega, by rw [if_neg c1, if_neg c2, if_neg c3]⟩))
  unfold enc
  rcases key a (by omega) with ⟨a1, ea⟩ | ⟨a1, a2, ea⟩ | ⟨a1, a2, ea⟩ | ⟨a1, ea⟩ <;> rcases key b (by omega) with ⟨b1, eb⟩ | ⟨b1, b2, eb⟩ | ⟨b1, b2, eb⟩ | ⟨b1, eb⟩ <;> rw [ea, eb] <;>
    simp only [List.map_cons, List.map_nil, List.cons_append, List.nil_append] <;> simp (disch := omega) only [bl_cons] <;> (try omega) <;> (constructor <;> (repeat' split) <;> first | rfl | omega)
open Gw.Name (cmpL ranks less)
theorem cmpL_cases : ∀ (l m : List Int), (cmpL l m = -1 ∧ cmpL m l = 1) ∨ (cmpL l m = 0 ∧ l = m) ∨ (cmpL l m = 1 ∧ cmpL m l = -1)
  | [], [] => .inr (.inl ⟨rfl, rfl⟩)
  | [], _ :: _ => .inl ⟨rfl, rfl⟩
  | _ :: _, [] => .inr (.inr ⟨rfl, rfl⟩)
  | a :: l, b :: m => by
    rw [cmpL, cmpL]
    by_cases h1 : a < b
    · rw [if_pos h1, if_neg (by omega), if_pos h1]; exact .inl ⟨rfl, rfl⟩
    by_cases h2 : b < a
    · rw [if_neg h1, if_pos h2, if_pos h2]; exact .inr (.inr ⟨rfl, rfl⟩)
    obtain rfl : a = b := by omega
    rw [if_neg h1, if_neg h1, if_neg h1, if_neg h1]
    rcases cmpL_cases l m with h | ⟨h3, h4⟩ | h
    · exact .inl h
    · exact .inr (.inl ⟨h3, by rw [h4]⟩)
    · exact .inr (.inr h)
theorem cmpL_trans : ∀ (l m n : List Int), cmpL l m < 0 → cmpL m n < 0 → cmpL l n < 0
  | [], [], n, h, _ => by rw [cmpL] at h; omega
  | [], _ :: _, [], _, h => by rw [cmpL] at h; omega
  | [], _ :: _, _ :: _, _, _ => by rw [cmpL]; omega
  | _ :: _, [], n, h, _ => by rw [cmpL] at h; omega
  | _ :: _, _ :: _, [], _, h => by rw [cmpL] at h; omega
  | a :: l, b :: m, c :: n, h, k => by
    rw [cmpL] at h k ⊢
    by_cases h1 : a < b
    · by_cases k1 : b < c
      · rw [if_pos (by omega)]; omega
      · rw [if_neg k1] at k
        by_cases k2 : c < b
        · rw [if_pos k2] at k; omega
        · rw [if_pos (by omega)]; omega
    · rw [if_neg h1] at h
      by_cases h2 : b < a
      · rw [if_pos h2] at h; omega
      · rw [if_neg h2] at h
        by_cases k1 : b < c
        · rw [if_pos (by omega)]; omega
        · rw [if_neg k1] at k
          by_cases k2 : c < b
          · rw [if_pos k2] at k; omega
          · rw [if_neg k2] at k
            rw [if_neg (by omega), if_neg (by omega)]
            exact cmpL_trans l m n h k
theorem cmpL_map (f : UInt8 → Int) (hf : ∀ a b, f a < f b ↔ a.toNat < b.toNat) : ∀ (a b : List UInt8), decide (cmpL (a.map f) (b.map f) < 0) = Go.Op.bytesLess a b
  | [], [] => rfl
  | [], _ :: _ => rfl
  | _ :: _, [] => rfl
  | x :: a, y :: b => by
    rw [List.map_cons, List.map_cons, cmpL, Go.Op.bytesLess]
    by_cases h1 : x.toNat < y.toNat
    · rw [if_pos ((hf x y).2 h1)]
      simp [UInt8.lt_iff_toNat_lt, h1]
    rw [if_neg (fun h => h1 ((hf x y).1 h))]
    by_cases h2 : y.toNat < x.toNat
    · rw [if_pos ((hf y x).2 h2)]
      have : ¬ x = y := fun e => by rw [e] at h2; omega
      simp [UInt8.lt_iff_toNat_lt, h1, this]
    · rw [if_neg (fun h => h2 ((hf y x).1 h)), cmpL_map f hf a b]
      have e : x = y := UInt8.toNat_inj.1 (by omega)
      simp [e]
theorem less_flat : ∀ {m n : List Nat}, (∀ r ∈ m, vN r) → (∀ r ∈ n, vN r) → decide (cmpL (ints m) (ints n) < 0) = Go.Op.bytesLess (flat m) (flat n)
  | [], [], _, _ => rfl
  | [], r :: n, _, _ => by
    have := enc_pos r
    rw [flat_cons]
    cases h : enc r with
    | nil => rw [h] at this; simp at this
    | cons a l => rfl
  | r :: m, [], _, _ => by
    have := enc_pos r
    rw [flat_cons]
    cases h : enc r with
    | nil => rw [h] at this; simp at this
    | cons a l => rfl
  | a :: m, b :: n, hm, hn => by
    have ha := hm a (by simp)
    have hb := hn b (by simp)
    rw [flat_cons, flat_cons, show ints (a :: m) = (a : Int) :: ints m from rfl, show ints (b :: n) = (b : Int) :: ints n from rfl, cmpL]
    by_cases h1 : a < b
    · rw [if_pos (by omega), (enc_lt hb h1 _ _).1]; rfl
    by_cases h2 : b < a
    · rw [if_neg (by omega), if_pos (by omega), (enc_lt ha h2 _ _).2]; rfl
    obtain rfl : a = b := by omega
    rw [if_neg (by omega), if_neg (by omega), bl_same]
    exact less_flat (fun r hr => hm r (by simp [hr])) (fun r hr => hn r (by simp [hr]))
theorem ints_inj : ∀ {m n : List Nat}, ints m = ints n → m = n
  | [], [], _ => rfl
  | [], _ :: _, h => by cases h
  | _ :: _, [], h => by cases h
  | a :: m, b :: n, h => by
    have h1 : (a : Int) = b := (List.cons.inj h).1
    have h2 : ints m = ints n := (List.cons.inj h).2
    rw [ints_inj h2, show a = b by omega]
def raw (s : List UInt8) : List Int := s.map fun b => (1114112 + b.toNat : Int)
theorem raw_inj : ∀ {a b : List UInt8}, raw a = raw b → a = b
  | [], [], _ => rfl
  | [], _ :: _, h => by cases h
  | _ :: _, [], h => by cases h
  | x :: a, y :: b, h => by
    have h1 : (1114112 + x.toNat : Int) = 1114112 + y.toNat := (List.cons.inj h).1
    have h2 : raw a = raw b := (List.cons.inj h).2
    rw [raw_inj h2, UInt8.toNat_inj.1 (show x.toNat = y.toNat by omega)]
theorem ranks_some {s : List UInt8} {l : List Int} (h : Gw.Name.spell s = some l) : ranks s = l := by unfold ranks; rw [h]
theorem ranks_none {s : List UInt8} (h : Gw.Name.spell s = none) : ranks s = raw s := by unfold ranks; rw [h]; rfl
/-- A text with runes stands ahead of one without. -/
theorem mixed_lt {m : List Nat} (hm : ∀ r ∈ m, vN r) {s : List UInt8} (hs : s ≠ []) : cmpL (ints m) (raw s) = -1 := by
  cases s with
  | nil => exact absurd rfl hs
  | cons b s =>
    cases m with
    | nil => rfl
    | cons r m =>
      have := hm r (by simp)
      unfold vN at this
      show cmpL ((r : Int) :: ints m) ((1114112 + b.toNat : Int) :: raw s) = -1
      rw [cmpL, if_pos (by omega)]
theorem spell_none_ne {s : List UInt8} (h : Gw.Name.spell s = none) : s ≠ [] := fun e => by subst e; cases h
theorem mixed {a b : List UInt8} {l : List Int} (ha : Gw.Name.spell a = some l) (hb : Gw.Name.spell b = none) : less a b = true ∧ less b a = false := by
  obtain ⟨m, rfl, hm, rfl⟩ := spell_iff.1 ha
  have h := mixed_lt hm (spell_none_ne hb)
  unfold less
  rw [ranks_some ha, ranks_none hb]
  refine ⟨by rw [h]; rfl, ?_⟩
  rcases cmpL_cases (ints m) (raw b) with h1 | h1 | h1
  · rw [h1.2]; rfl
  · omega
  · omega
theorem ranks_inj {a b : List UInt8} (h : ranks a = ranks b) : a = b := by
  cases ha : Gw.Name.spell a with
  | some l =>
    obtain ⟨m, rfl, hm, e⟩ := spell_iff.1 ha
    cases hb : Gw.Name.spell b with
    | some l' =>
      obtain ⟨n, rfl, hn, e'⟩ := spell_iff.1 hb
      rw [ranks_some ha, ranks_some hb] at h
      rw [e, e', ints_inj h]
    | none =>
      have h1 := mixed_lt hm (spell_none_ne hb)
      rw [ranks_some ha, ranks_none hb] at h
      rw [h] at h1
      rcases cmpL_cases (raw b) (raw b) with h2 | h2 | h2 <;> omega
  | none =>
    cases hb : Gw.Name.spell b with
    | some l' =>
      obtain ⟨n, rfl, hn, e'⟩ := spell_iff.1 hb
      have h1 := mixed_lt hn (spell_none_ne ha)
      rw [ranks_none ha, ranks_some hb] at h
      rw [h] at h1
      rcases cmpL_cases (ints n) (ints n) with h2 | h2 | h2 <;> omega
    | none =>
      rw [ranks_none ha, ranks_none hb] at h
      exact raw_inj h
/-- Of two texts one stands ahead, just if they are unlike. -/
theorem order (a b : List UInt8) : (less a b != less b a) = !decide (a = b) := by
  by_cases e : a = b
  · subst e; simp
  rw [decide_eq_false e]
  unfold less
  rcases cmpL_cases (ranks a) (ranks b) with h | h | h
  · rw [h.1, h.2]; rfl
  · exact absurd (ranks_inj h.2) e
  · rw [h.1, h.2]; rfl
theorem less_trans {a b c : List UInt8} (h : less a b = true) (k : less b c = true) : less a c = true :=
  decide_eq_true (cmpL_trans _ _ _ (of_decide_eq_true h) (of_decide_eq_true k))
/-- By runes, and by bytes. -/
theorem less_bytes {a b : List UInt8} (h : (Gw.Name.spell a).isSome = (Gw.Name.spell b).isSome) : less a b = Go.Op.bytesLess a b := by
  unfold less
  cases ha : Gw.Name.spell a with
  | some l =>
    cases hb : Gw.Name.spell b with
    | some l' =>
      rw [ranks_some ha, ranks_some hb]
      obtain ⟨m, rfl, hm, rfl⟩ := spell_iff.1 ha
      obtain ⟨n, rfl, hn, rfl⟩ := spell_iff.1 hb
      exact less_flat hm hn
    | none => rw [ha, hb] at h; cases h
  | none =>
    cases hb : Gw.Name.spell b with
    | some l' => rw [ha, hb] at h; cases h
    | none =>
      rw [ranks_none ha, ranks_none hb]
      exact cmpL_map _ (fun x y => by omega) a b
end Gw.Rune
