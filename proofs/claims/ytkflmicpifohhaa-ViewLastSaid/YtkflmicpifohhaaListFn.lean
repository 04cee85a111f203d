/- Lists without doubles, in plain Lean. -/
namespace Gw.Lists
theorem len_of_sub {α : Type} : ∀ {l m : List α}, l.Nodup → (∀ a ∈ l, a ∈ m) → l.length ≤ m.length
  | [], _, _, _ => Nat.zero_le _
  | a :: l, m, hd, h => by
    obtain ⟨s, t, rfl⟩ := List.append_of_mem (h a (by simp))
    rw [List.nodup_cons] at hd
    have := len_of_sub (l := l) (m := s ++ t) hd.2 fun b hb => by
      have := h b (by simp [hb])
      simp only [List.mem_append, List.mem_cons] at this ⊢
      rcases this with h1 | rfl | h1
      · exact .inl h1
      · exact absurd hb hd.1
      · exact .inr h1
    simp only [List.length_append, List.length_cons] at this ⊢
    omega
theorem perm_of_mem {α : Type} : ∀ {l m : List α}, l.Nodup → m.Nodup → (∀ a, a ∈ l ↔ a ∈ m) → l.Perm m
  | [], m, _, _, h => by
    have : m = [] := List.eq_nil_iff_forall_not_mem.2 fun a ha => by have := (h a).2 ha; cases this
    rw [this]
  | a :: l, m, hd, hm, h => by
    obtain ⟨s, t, rfl⟩ := List.append_of_mem ((h a).1 (by simp))
    rw [List.nodup_cons] at hd
    have hm' : (a :: (s ++ t)).Nodup := (List.perm_middle.nodup_iff).1 hm
    rw [List.nodup_cons] at hm'
    refine (List.Perm.cons a (perm_of_mem hd.2 hm'.2 fun b => ?_)).trans List.perm_middle.symm
    have hb := h b
    simp only [List.mem_cons, List.mem_append] at hb ⊢
    constructor
    · intro hl
      rcases hb.1 (.inr hl) with h1 | rfl | h1
      · exact .inl h1
      · exact absurd hl hd.1
      · exact .inr h1
    · intro hst
      have : b ≠ a := fun e => by subst e; exact hm'.1 (List.mem_append.2 hst)
      rcases hb.2 (by rcases hst with h1 | h1; exact .inl h1; exact .inr (.inr h1)) with h1 | h1
      · exact absurd h1 this
      · exact h1
theorem nodup_of_map {α β : Type} (f : α → β) : ∀ {l : List α}, (l.map f).Nodup → l.Nodup
  | [], _ => List.nodup_nil
  | a :: l, h => by
    rw [List.map_cons, List.nodup_cons] at h
    rw [List.nodup_cons]
    exact ⟨fun ha => h.1 (List.mem_map.2 ⟨a, ha, rfl⟩), nodup_of_map f h.2⟩
theorem inj_of_nodup {α β : Type} (f : α → β) : ∀ {l : List α}, (l.map f).Nodup → ∀ {a b : α}, a ∈ l → b ∈ l → f a = f b → a = b
  | c :: l, h, a, b, ha, hb, e => by
    rw [List.map_cons, List.nodup_cons] at h
    rcases List.mem_cons.1 ha with hac | ha
    · rcases List.mem_cons.1 hb with hbc | hb
      · rw [hac, hbc]
      · exact absurd (show f c ∈ l.map f from List.mem_map.2 ⟨b, hb, by rw [← e, hac]⟩) h.1
    · rcases List.mem_cons.1 hb with hbc | hb
      · exact absurd (show f c ∈ l.map f from List.mem_map.2 ⟨a, ha, by rw [e, hbc]⟩) h.1
      · exact inj_of_nodup f h.2 ha hb e
end Gw.Lists



