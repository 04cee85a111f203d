/- Maps by texts, in plain Lean: no program in sight. -/
import Derived.Test.YtipgfdepopfghaaGreatNamePl
namespace Gw.Mp
variable {α : Type}
/-- Texts, and what is there by them, with when they came. -/
abbrev M (α : Type) := List (Nat × List UInt8 × α)
def find (k : List UInt8) : M α → Option α
  | [] => none
  | e :: m => if e.2.1 = k then some e.2.2 else find k m
def put (k : List UInt8) (x : α) : M α → Option (M α)
  | [] => none
  | e :: m => if e.2.1 = k then some ((e.1, e.2.1, x) :: m) else match put k x m with
    | some l => some (e :: l)
    | none => none
def del (k : List UInt8) : M α → M α
  | [] => []
  | e :: m => if e.2.1 = k then m else e :: del k m
def set (x : Nat × M α) (k : List UInt8) (v : α) : Nat × M α := match put k v x.2 with
  | some m => (x.1, m)
  | none => (x.1 + 1, x.2 ++ [(x.1, k, v)])
def keys (m : M α) : List (List UInt8) := m.map (·.2.1)
theorem find_none {k : List UInt8} : ∀ {m : M α}, find k m = none ↔ k ∉ keys m
  | [] => by simp [find, keys]
  | e :: m => by
    rw [find, keys, List.map_cons, List.mem_cons]
    have ih := find_none (k := k) (m := m)
    unfold keys at ih
    by_cases h : e.2.1 = k
    · rw [if_pos h]
      simp [h]
    · rw [if_neg h, ih]
      simp [Ne.symm h]
theorem find_some {k : List UInt8} {x : α} : ∀ {m : M α}, find k m = some x → ∃ b, (b, k, x) ∈ m
  | e :: m, h => by
    rw [find] at h
    split at h
    · rename_i hk
      cases h
      exact ⟨e.1, by rw [← hk]; exact List.mem_cons_self⟩
    · obtain ⟨b, hb⟩ := find_some h
      exact ⟨b, List.mem_cons_of_mem _ hb⟩
theorem put_spec (k : List UInt8) (n : α) : ∀ m : M α, (put k n m = none ∧ find k m = none) ∨
    ∃ m', put k n m = some m' ∧ m'.map (·.1) = m.map (·.1) ∧ keys m' = keys m ∧ (∀ k', find k' m' = if k' = k then some n else find k' m) ∧ (find k m).isSome
  | [] => .inl ⟨rfl, rfl⟩
  | e :: m => by
    rw [put, find]
    by_cases hk : e.2.1 = k
    · rw [if_pos hk, if_pos hk]
      refine .inr ⟨_, rfl, rfl, rfl, fun k' => ?_, rfl⟩
      rw [find, find]
      by_cases h1 : k' = k
      · rw [if_pos h1, if_pos (by rw [h1]; exact hk)]
      · rw [if_neg (fun h => h1 (by rw [← h]; exact hk)), if_neg h1, if_neg (fun h => h1 (by rw [← h]; exact hk))]
    · rw [if_neg hk, if_neg hk]
      rcases put_spec k n m with ⟨h1, h2⟩ | ⟨m', h1, h2, h3, h4, h5⟩
      · exact .inl ⟨by rw [h1], h2⟩
      · refine .inr ⟨e :: m', by rw [h1], by rw [List.map_cons, List.map_cons, h2], by unfold keys at *; rw [List.map_cons, List.map_cons, h3], fun k' => ?_, h5⟩
        rw [find, find, h4]
        by_cases h6 : e.2.1 = k'
        · rw [if_pos h6, if_pos h6, if_neg (fun h => hk (by rw [h6, h]))]
        · rw [if_neg h6, if_neg h6]
theorem find_snoc (k : List UInt8) (e : Nat × List UInt8 × α) : ∀ m : M α, find k (m ++ [e]) = match find k m with | some n => some n | none => if e.2.1 = k then some e.2.2 else none
  | [] => rfl
  | x :: m => by
    rw [List.cons_append, find, find]
    split
    · rfl
    · exact find_snoc k e m
theorem set_find (x : Nat × M α) (k : List UInt8) (n : α) (k' : List UInt8) : find k' (set x k n).2 = if k' = k then some n else find k' x.2 := by
  unfold set
  rcases put_spec k n x.2 with ⟨h1, h2⟩ | ⟨m', h1, _, _, h4, _⟩
  · rw [h1]
    show find k' (x.2 ++ [(x.1, k, n)]) = _
    rw [find_snoc]
    by_cases hk : k' = k
    · subst hk
      rw [h2]
    · rw [if_neg hk]
      cases find k' x.2 with
      | some m => rfl
      | none => simp only; rw [if_neg (fun h => hk h.symm)]
  · rw [h1]
    exact h4 k'
/-- What is known of a map: it knows its time, and its texts are unlike. -/
structure Ok (x : Nat × M α) : Prop where
  born : ∀ e ∈ x.2, e.1 < x.1
  births : (x.2.map (·.1)).Nodup
  names : (keys x.2).Nodup
theorem Ok.nil (c : Nat) : Ok (α := α) (c, []) := ⟨(fun e h => by cases h), List.nodup_nil, List.nodup_nil⟩
theorem set_ok {x : Nat × M α} (h : Ok x) (k : List UInt8) (n : α) : Ok (set x k n) := by
  unfold set
  rcases put_spec k n x.2 with ⟨h1, h2⟩ | ⟨m', h1, h2, h3, _, _⟩
  · rw [h1]
    have hn := find_none.1 h2
    refine ⟨fun e he => ?_, ?_, ?_⟩
    · rcases List.mem_append.1 he with he | he
      · have := h.born e he; show e.1 < x.1 + 1; omega
      · rw [List.mem_singleton] at he; subst he; exact Nat.lt_succ_self _
    · show ((x.2 ++ [(x.1, k, n)]).map (·.1)).Nodup
      rw [List.map_append, List.nodup_append]
      refine ⟨h.births, by simp, fun a ha b hb => ?_⟩
      simp only [List.map_cons, List.map_nil, List.mem_singleton] at hb
      obtain ⟨e, he, rfl⟩ := List.mem_map.1 ha
      have := h.born e he
      omega
    · show (keys (x.2 ++ [(x.1, k, n)])).Nodup
      unfold keys at *
      rw [List.map_append, List.nodup_append]
      refine ⟨h.names, by simp, fun a ha b hb => ?_⟩
      simp only [List.map_cons, List.map_nil, List.mem_singleton] at hb
      subst hb
      exact fun e => hn (e ▸ ha)
  · rw [h1]
    have hm : ∀ e ∈ m', e.1 ∈ x.2.map (·.1) := fun e he => by rw [← h2]; exact List.mem_map.2 ⟨e, he, rfl⟩
    refine ⟨fun e he => ?_, by show (m'.map (·.1)).Nodup; rw [h2]; exact h.births, by show (keys m').Nodup; rw [h3]; exact h.names⟩
    obtain ⟨y, hy, e1⟩ := List.mem_map.1 (hm e he)
    show e.1 < x.1
    rw [← e1]; exact h.born y hy
theorem set_len (x : Nat × M α) (k : List UInt8) (n : α) : (set x k n).2.length ≤ x.2.length + 1 := by
  unfold set
  rcases put_spec k n x.2 with ⟨h1, _⟩ | ⟨m', h1, h2, _⟩
  · rw [h1]; simp
  · rw [h1]
    have := congrArg List.length h2
    rw [List.length_map, List.length_map] at this
    show m'.length ≤ _
    omega
theorem del_sub (k : List UInt8) : ∀ m : M α, (del k m).Sublist m
  | [] => .slnil
  | e :: m => by
    rw [del]
    split
    · exact List.sublist_cons_self _ _
    · exact (del_sub k m).cons_cons _
theorem del_ok {x : Nat × M α} (h : Ok x) (k : List UInt8) : Ok (x.1, del k x.2) := by
  have hs := del_sub k x.2
  exact ⟨fun e he => h.born e (hs.mem he), (hs.map _).nodup h.births, (hs.map _).nodup h.names⟩
theorem del_find {k k' : List UInt8} : ∀ {m : M α}, (keys m).Nodup → find k' (del k m) = if k' = k then none else find k' m
  | [], _ => by simp [del, find]
  | e :: m, hn => by
    unfold keys at hn
    rw [List.map_cons, List.nodup_cons] at hn
    rw [del, find]
    by_cases h : e.2.1 = k
    · rw [if_pos h]
      by_cases h2 : k' = k
      · rw [if_pos h2, h2, ← h]
        exact find_none.2 hn.1
      · rw [if_neg h2, if_neg (fun q => h2 (by rw [← q, h]))]
    · rw [if_neg h, find, del_find hn.2]
      by_cases h1 : e.2.1 = k'
      · rw [if_pos h1, if_pos h1, if_neg (fun q => h (by rw [h1, q]))]
      · rw [if_neg h1, if_neg h1]
theorem mem_keys {k : List UInt8} {m : M α} : k ∈ keys m ↔ (find k m).isSome = true := by
  cases h : find k m with
  | none => simpa using find_none.1 h
  | some x =>
    obtain ⟨b, hb⟩ := find_some h
    simp only [Option.isSome_some, iff_true]
    exact List.mem_map.2 ⟨_, hb, rfl⟩
end Gw.Mp
