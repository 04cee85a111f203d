/- What is above a node; whether a number is among others: told without addresses. No claim of its own. -/
import Derived.Test.YtkflmicpifohhaaATree2
namespace Go.Proofs.Ytkflmicpifohhaa
open Go.Am

def encZ (l : List Int) : List (List V) := l.map fun z => [.int .i64 z]
theorem encZ_len (l : List Int) : (encZ l).length = l.length := by simp [encZ]
theorem encZ_get {l : List Int} {k : Nat} (h : k < l.length) : (encZ l)[k]? = some [.int .i64 l[k]] := by unfold encZ; rw [List.getElem?_map, List.getElem?_eq_getElem h]; rfl
theorem encZ_add (l : List Int) (z : Int) : encZ l ++ [[V.int .i64 z]] = encZ (l ++ [z]) := by simp [encZ]
theorem index_pc (nil : Bool) (l : List Int) (z : Int) (hl : l.length ≤ 1048576) : ∃ r : Int, (0 ≤ r ↔ l.contains z = true) ∧ PC Try.prog 54 [.lst nil 1 (encZ l) .none, .int .i64 z] (.int .i64 r) := by
  have hel := encZ_len l
  refine ⟨(l.findIdx? (fun x => decide (z = x))).elim (-1) (fun k => (k : Int)), ?_, ?_⟩
  · cases h : l.findIdx? (fun x => decide (z = x)) with
    | none =>
      rw [List.findIdx?_eq_none_iff] at h
      simp only [Option.elim]
      constructor
      · intro h2; omega
      · intro h2
        have := h z (by simpa using h2)
        simp at this
    | some k =>
      simp only [Option.elim]
      rw [List.findIdx?_eq_some_iff_getElem] at h
      obtain ⟨hk, h1, _⟩ := h
      have h1 := of_decide_eq_true h1
      constructor
      · intro _
        rw [List.contains_iff_mem]
        exact List.mem_iff_getElem.2 ⟨k, hk, h1.symm⟩
      · intro _; omega
  refine PC.of tabOk mixed (fn := Try.f54) (by kernel_rfl) rfl (by kernel_rfl) rfl rfl ?_
  conv => whnf
  refine AW.loop (fun k : Nat => [(.tmp 0, .v (.lst nil 1 (encZ l) .none)), (.tmp 1, .v (.int .i64 z)), (.tmp 7, .v (.int .i64 l.length)), (.tmp 8, .v (.int .i64 k))]) 0
    (fun k => k ≤ l.length ∧ ∀ j (hj : j < l.length), j < k → z ≠ l[j]) (fun k => l.length - k) (by decide) 0 ⟨Nat.zero_le _, fun j _ h => absurd h (Nat.not_lt_zero j)⟩ ⟨rfl, rfl, rfl, rfl, ?_, rfl, rfl, rfl, trivial⟩ ?_
  · show C.v (V.int .i64 (encZ l).length) = _
    rw [hel]
  rintro k ⟨h1, h2⟩
  refine ev_sound tabOk mixed _ _ _ _ ?_
  conv => whnf
  refine ⟨fun h => ?_, fun h => ?_⟩
  · have h := of_decide_eq_true h
    have hlt : k < l.length := by omega
    have hg := encZ_get hlt
    conv => whnf
    refine ⟨_, ⟨by omega, hg⟩, ?_⟩
    conv => whnf
    refine ⟨fun h3 => ?_, fun h3 => ?_⟩
    · have h3 : z = l[k] := by simpa using h3
      have e : l.findIdx? (fun x => decide (z = x)) = some k := by
        rw [List.findIdx?_eq_some_iff_getElem]
        exact ⟨hlt, by simpa using h3, fun j hj => by simpa using h2 j (by omega) hj⟩
      rw [e]
      conv => whnf
      rfl
    · have h3 : z ≠ l[k] := by simpa using h3
      conv => whnf
      refine ⟨k + 1, ⟨by omega, fun j hj hjk => ?_⟩, by show l.length - (k + 1) < l.length - k; omega, rfl, rfl, rfl, rfl, rfl, rfl, ?_, rfl, trivial⟩
      · by_cases e : j = k
        · subst e; exact h3
        · exact h2 j hj (by omega)
      · show C.v (V.int .i64 (IntKind.i64.wrap ((k : Int) + 1))) = _
        rw [w64 (by omega) (by omega)]; rfl
  · have h := of_decide_eq_false h
    have e : l.findIdx? (fun x => decide (z = x)) = none := by
      rw [List.findIdx?_eq_none_iff]
      intro x hx
      obtain ⟨j, hj, rfl⟩ := List.getElem_of_mem hx
      simpa using h2 j hj (by omega)
    rw [e]
    conv => whnf
    rfl
theorem contains_pc (nil : Bool) (l : List Int) (z : Int) (hl : l.length ≤ 1048576) : PC Try.prog 41 [.lst nil 1 (encZ l) .none, .int .i64 z] (.bool (l.contains z)) := by
  obtain ⟨r, h1, h2⟩ := index_pc nil l z hl
  refine PC.of tabOk mixed (fn := Try.f41) (by kernel_rfl) rfl (by kernel_rfl) rfl rfl ?_
  conv => whnf
  refine AC.of_pc h2 rfl ?_
  conv => whnf
  congr 1
  rw [Bool.eq_iff_iff, decide_eq_true_eq]
  exact h1
theorem tabove_pc (nil : Bool) (l : List Gw.Tree.Node) (id : Int) (hl : l.length ≤ 1048576) (hc : Gw.Tree.check l = true) :
    PC Try.prog 42 [.lst nil 8 (encN l) .none, .int .i64 id] (.lst (decide (Gw.Tree.climb l l.length id = [])) 1 (encZ (Gw.Tree.climb l l.length id)) .none) := by
  have hel := encN_len l
  have hpl := fun z => place_pc nil l z hl hc
  refine PC.ofS tabOk mixed (fn := Try.f42) (by kernel_rfl) rfl (by kernel_rfl) rfl rfl ?_
  conv => whnf
  refine AW.row 5 3 1 rfl rfl (.inr rfl) ?_
  refine AW.loop (X := List Int × Int) (fun x => [(.tmp 0, .v (.lst nil 8 (encN l) .none)), (.tmp 1, .v (.int .i64 x.2)), (.tmp 5, .v (.lst (decide (x.1 = [])) 1 (encZ x.1) (.row 2))), (.row 2, .row 3 1 x.1.length)]) 3
    (fun x => x.1.length ≤ l.length ∧ Gw.Tree.climb l l.length id = x.1 ++ Gw.Tree.climb l (l.length - x.1.length) x.2) (fun x => l.length - x.1.length) (by decide) ([], id) ⟨Nat.zero_le _, by rw [List.nil_append, List.length_nil, Nat.sub_zero]⟩ ⟨rfl, rfl, rfl, rfl, rfl, rfl, rfl, rfl, trivial⟩ ?_
  rintro ⟨acc, z⟩ ⟨h1, h2⟩
  simp only at h1 h2
  dsimp only
  have hal := encZ_len acc
  refine ev_sound tabOk mixed _ _ _ _ ?_
  conv => whnf
  rw [hal, hel]
  refine ⟨fun h => ?_, fun h => ?_⟩
  · have h := of_decide_eq_true h
    have hlt : acc.length < l.length := by omega
    obtain ⟨f, hf⟩ : ∃ f, l.length - acc.length = f + 1 := ⟨l.length - acc.length - 1, by omega⟩
    rw [hf, Gw.Tree.climb] at h2
    have hhd := Gw.Tree.had_find l z
    conv => whnf
    refine AC.of_pc (hpl z) rfl ?_
    cases hfd : Gw.Tree.find l z with
    | none =>
      rw [hfd] at h2 hhd
      simp only [List.append_nil] at h2
      rw [h2, hhd]
      conv => whnf
      repeat (first | refine ⟨fun _ => ?_, fun h => absurd h (by decide)⟩ | refine ⟨fun h => absurd h (by decide), fun _ => ?_⟩ | refine ⟨fun _ => ?_, fun h => absurd (show true = false from h) (by decide)⟩ | refine ⟨fun h => absurd (show false = true from h) (by decide), fun _ => ?_⟩
              (conv => whnf))
      exact SubV.refl _
    | some nd =>
      rw [hfd] at h2 hhd
      simp only at h2
      obtain ⟨_, _, hp, hnd⟩ := Gw.Tree.find_some hfd
      have hg := encN_get hp
      rw [hnd] at hg
      rw [hhd, Option.isSome_some]
      conv => whnf
      refine ⟨fun h => absurd h (by decide), fun _ => ?_⟩
      conv => whnf
      refine ⟨_, ⟨by omega, hg⟩, ?_⟩
      conv => whnf
      refine ⟨fun h => ?_, fun h => ?_⟩
      · have h : nd.parent = -1 := by simpa using h
        rw [if_pos h, List.append_nil] at h2
        rw [h2]
        conv => whnf
        exact SubV.refl _
      · have h : nd.parent ≠ -1 := by simpa using h
        rw [if_neg h] at h2
        conv => whnf
        refine ⟨_, ⟨by omega, hg⟩, ?_⟩
        conv => whnf
        refine ⟨⟨hal.symm, fits_small (by show (encZ acc).length + 1 ≤ _; omega) (by decide)⟩, ?_⟩
        conv => whnf
        refine ⟨(acc ++ [nd.parent], nd.parent), ⟨by show (acc ++ [nd.parent]).length ≤ _; rw [List.length_append, List.length_singleton]; omega, ?_⟩, by show l.length - (acc ++ [nd.parent]).length < l.length - acc.length; rw [List.length_append, List.length_singleton]; omega, rfl, rfl, rfl, rfl, ?_, rfl, ?_, rfl, trivial⟩
        · show _ = (acc ++ [nd.parent]) ++ Gw.Tree.climb l (l.length - (acc ++ [nd.parent]).length) nd.parent
          rw [h2, List.append_assoc, List.length_append, List.length_singleton, show l.length - (acc.length + 1) = f by omega]
          rfl
        · show C.v (V.lst (decide (acc = []) && false) 1 (encZ acc ++ [[V.int .i64 nd.parent]]) _) = C.v (V.lst (decide (acc ++ [nd.parent] = [])) 1 (encZ (acc ++ [nd.parent])) _)
          rw [Bool.and_false, decide_eq_false (by simp), encZ_add]
        · show C.row _ 1 ((encZ acc).length + 1) = C.row _ 1 (acc ++ [nd.parent]).length
          rw [hal, List.length_append]
          rfl
  · have h := of_decide_eq_false h
    rw [show l.length - acc.length = 0 by omega, Gw.Tree.climb, List.append_nil] at h2
    rw [h2]
    conv => whnf
    exact SubV.refl _
theorem tAbove_pc (nil : Bool) (l : List Gw.Tree.Node) (id : Int) (hi : ∀ n ∈ l, I64 n.id) (hl : l.length ≤ 1048576) :
    PC Try.prog 34 [.lst nil 8 (encN l) .none, .int .i64 id] (.lst (decide (Gw.Tree.above l id = [])) 1 (encZ (Gw.Tree.above l id)) .none) := by
  have hck := treeCheck_pc nil l hi hl
  have hab := tabove_pc nil l id hl
  unfold Gw.Tree.above
  refine PC.ofS tabOk mixed (fn := Try.f34) (by kernel_rfl) rfl (by kernel_rfl) rfl rfl ?_
  conv => whnf
  refine AC.of_pc hck rfl ?_
  cases hc : Gw.Tree.check l with
  | false =>
    conv => whnf
    repeat (first | refine ⟨fun _ => ?_, fun h => absurd h (by decide)⟩ | refine ⟨fun h => absurd h (by decide), fun _ => ?_⟩ | refine ⟨fun _ => ?_, fun h => absurd (show true = false from h) (by decide)⟩ | refine ⟨fun h => absurd (show false = true from h) (by decide), fun _ => ?_⟩
            (conv => whnf))
    exact SubV.nil _ _ _
  | true =>
    rw [if_pos rfl]
    conv => whnf
    repeat (first | refine ⟨fun _ => ?_, fun h => absurd h (by decide)⟩ | refine ⟨fun h => absurd h (by decide), fun _ => ?_⟩ | refine ⟨fun _ => ?_, fun h => absurd (show true = false from h) (by decide)⟩ | refine ⟨fun h => absurd (show false = true from h) (by decide), fun _ => ?_⟩
            (conv => whnf))
    refine AC.of_pc (hab hc) rfl ?_
    conv => whnf
    exact SubV.refl _
end Go.Proofs.Ytkflmicpifohhaa
