/- What name.Split computes: told without addresses. No claim of its own. -/
import Derived.Test.YtfmhkfijnflalaaDoorAStr
namespace Go.Proofs.YtfmhkfijnflalaaDoor
open Go.RowKit Go.Am

theorem encT_get {l : List (List UInt8)} {k : Nat} (h : k < l.length) : (encT l)[k]? = some [.str l[k]] := by unfold encT; rw [List.getElem?_map, List.getElem?_eq_getElem h]; rfl
theorem encT_len (l : List (List UInt8)) : (encT l).length = l.length := by simp [encT]
theorem fit_pc (n : Bool) (l : List (List UInt8)) (hl : ∀ t ∈ l, t.length ≤ 1048576) : PC Tryd.prog 49 [.lst n 1 (encT l) .none] (.bool (Gw.Name.fit l)) := by
  have hel := encT_len l
  refine PC.of tabOk mixed (fn := Tryd.f49) (by kernel_rfl) rfl (by kernel_rfl) rfl rfl ?_
  unfold Gw.Name.fit
  conv => whnf
  refine ⟨fun h => ?_, fun h => ?_⟩
  · have h := of_decide_eq_true h
    rw [decide_eq_false (by omega : ¬ l.length ≤ 16), Bool.false_and]
    conv => whnf
  have h := of_decide_eq_false h
  rw [decide_eq_true (by omega : l.length ≤ 16), Bool.true_and]
  conv => whnf
  refine AW.loop (fun k : Nat => [(.tmp 8, .v (.lst n 1 (encT l) .none)), (.tmp 9, .v (.int .i64 (l.length : Nat))), (.tmp 10, .v (.int .i64 k))])
    0 (fun k => k ≤ l.length ∧ (l.take k).all Gw.Name.check = true) (fun k => l.length - k) (by decide) 0 ⟨Nat.zero_le _, rfl⟩ ⟨rfl, rfl, ?_, rfl, rfl, rfl, trivial⟩ ?_
  · show C.v (V.int .i64 ((encT l).length : Nat)) = _
    rw [hel]
  rintro k ⟨hk, hall⟩
  refine ev_sound tabOk mixed _ _ _ _ ?_
  conv => whnf
  refine ⟨fun h => ?_, fun h => ?_⟩
  · have h := of_decide_eq_true h
    have hlt : k < l.length := by omega
    have hc := nameCheck_pc l[k] (hl _ (List.getElem_mem hlt))
    conv => whnf
    refine ⟨_, ⟨by omega, encT_get hlt⟩, ?_⟩
    conv => whnf
    refine AC.of_pc hc rfl ?_
    cases hq : Gw.Name.check l[k] with
    | false =>
      have e : l.all Gw.Name.check = false := by
        rw [Bool.eq_false_iff]; intro h2
        rw [List.all_eq_true.1 h2 _ (List.getElem_mem hlt)] at hq; cases hq
      rw [e]
      conv => whnf
      refine ⟨fun _ => ?_, fun h => absurd h (by decide)⟩
      conv => whnf
    | true =>
      conv => whnf
      refine ⟨fun h => absurd h (by decide), fun _ => ?_⟩
      conv => whnf
      refine ⟨k + 1, ⟨by omega, by rw [List.take_succ_eq_append_getElem hlt, List.all_append, hall]; simp [hq]⟩, by show l.length - (k + 1) < l.length - k; omega, rfl, rfl, rfl, rfl, ?_, rfl, trivial⟩
      show C.v (V.int .i64 (IntKind.i64.wrap ((k : Int) + 1))) = C.v (V.int .i64 ((k + 1 : Nat) : Int))
      rw [w64 (by omega) (by omega)]; rfl
  · have h := of_decide_eq_false h
    obtain rfl : k = l.length := by omega
    rw [List.take_length] at hall
    rw [hall]
    conv => whnf
theorem split_small (s : List UInt8) : ∀ t ∈ Gw.Name.split s, t.length ≤ s.length := by
  induction s with
  | nil => simp [Gw.Name.split]
  | cons b l ih =>
    rw [Gw.Name.split]
    split
    · intro t ht
      rcases List.mem_cons.1 ht with rfl | ht
      · simp
      · have := ih t ht; simp; omega
    · split
      · simp
      · rename_i h t' hs
        rw [hs] at ih
        intro t ht
        rcases List.mem_cons.1 ht with rfl | ht
        · have := ih h (by simp); simp; omega
        · have := ih t (by simp [ht]); simp; omega
def pathsV (o : Option (List (List UInt8))) : V := match o with
  | none => .tup [.lst true 1 [] .none, .int .i64 10]
  | some [] => .tup [.lst true 1 [] .none, .int .i64 0]
  | some (x :: l) => .tup [.lst false 1 (encT (x :: l)) .none, .int .i64 0]
theorem nameSplit_pc (p : List UInt8) (hp : p.length ≤ 1048576) : PC Tryd.prog 41 [.str p] (pathsV (Gw.Name.paths p)) := by
  have hcp := cutPrefix_pc p
  by_cases h : p = [47]
  · have e : Gw.Name.paths p = some [] := by unfold Gw.Name.paths; rw [if_pos h]
    rw [e]
    refine PC.of tabOk mixed (fn := Tryd.f41) (by kernel_rfl) rfl (by kernel_rfl) rfl rfl ?_
    conv => whnf
    refine ⟨fun _ => ?_, fun h2 => absurd h (of_decide_eq_false h2)⟩
    conv => whnf
    rfl
  have first : ∀ b, Gw.Name.isPrefix [47] p = b → (b = false → Gw.Name.paths p = none) → (b = true → ∃ r, p = 47 :: r) → PC Tryd.prog 41 [.str p] (pathsV (Gw.Name.paths p)) := by
    intro b hb h0 h1
    rw [hb] at hcp
    cases b with
    | false =>
      rw [h0 rfl]
      refine PC.of tabOk mixed (fn := Tryd.f41) (by kernel_rfl) rfl (by kernel_rfl) rfl rfl ?_
      conv => whnf
      refine ⟨fun h2 => absurd (of_decide_eq_true h2) h, fun _ => ?_⟩
      conv => whnf
      refine AC.of_pc hcp rfl ?_
      conv => whnf
      refine ⟨fun _ => ?_, fun h => absurd h (by decide)⟩
      conv => whnf
      rfl
    | true =>
      obtain ⟨r, rfl⟩ := h1 rfl
      have hrl : r.length ≤ 1048576 := by simp only [List.length_cons] at hp; omega
      have hcp : PC Tryd.prog 47 [.str (47 :: r), .str [47]] (.tup [.str r, .bool true]) := hcp
      have hsp := split_pc r hrl
      have hfi := fit_pc false (Gw.Name.split r) (fun t ht => Nat.le_trans (split_small r t ht) hrl)
      have hne := Gw.Name.split_ne r
      have e : Gw.Name.paths (47 :: r) = if Gw.Name.fit (Gw.Name.split r) = true then some (Gw.Name.split r) else none := by
        unfold Gw.Name.paths
        rw [if_neg h]
        exact if_pos rfl
      rw [e]
      generalize Gw.Name.split r = l at hsp hfi hne ⊢
      cases hf : Gw.Name.fit l with
      | false =>
        rw [hf] at hfi
        rw [if_neg (by decide)]
        refine PC.of tabOk mixed (fn := Tryd.f41) (by kernel_rfl) rfl (by kernel_rfl) rfl rfl ?_
        conv => whnf
        refine ⟨fun h2 => absurd (of_decide_eq_true h2) h, fun _ => ?_⟩
        conv => whnf
        refine AC.of_pc hcp rfl ?_
        conv => whnf
        refine ⟨fun h => absurd h (by decide), fun _ => ?_⟩
        conv => whnf
        refine AC.of_pc hsp rfl ?_
        conv => whnf
        refine AC.of_pc hfi rfl ?_
        conv => whnf
        refine ⟨fun _ => ?_, fun h => absurd h (by decide)⟩
        conv => whnf
        rfl
      | true =>
        rw [hf] at hfi
        rw [if_pos rfl]
        refine PC.of tabOk mixed (fn := Tryd.f41) (by kernel_rfl) rfl (by kernel_rfl) rfl rfl ?_
        conv => whnf
        refine ⟨fun h2 => absurd (of_decide_eq_true h2) h, fun _ => ?_⟩
        conv => whnf
        refine AC.of_pc hcp rfl ?_
        conv => whnf
        refine ⟨fun h => absurd h (by decide), fun _ => ?_⟩
        conv => whnf
        refine AC.of_pc hsp rfl ?_
        conv => whnf
        refine AC.of_pc hfi rfl ?_
        conv => whnf
        refine ⟨fun h => absurd h (by decide), fun _ => ?_⟩
        conv => whnf
        cases l with
        | nil => exact absurd rfl hne
        | cons x l => rfl
  cases p with
  | nil => exact first false rfl (fun _ => rfl) (fun h => by cases h)
  | cons b r =>
    by_cases hb : b = 47
    · exact first true (by subst hb; simp [Gw.Name.isPrefix]) (fun h => by cases h) (fun _ => ⟨r, by rw [hb]⟩)
    · refine first false (by simp [Gw.Name.isPrefix, hb]) (fun _ => ?_) (fun h => by cases h)
      unfold Gw.Name.paths
      rw [if_neg h]
      exact if_neg hb
theorem pathsV_eq (s : Option (List (List UInt8))) : pathsV s = .tup [.lst (decide (s.getD [] = [])) 1 (encT (s.getD [])) .none, .int .i64 (if s.isSome = true then 0 else 10)] := by
  match s with
  | none => rfl
  | some [] => rfl
  | some (x :: l) => rfl
theorem paths_len {p : List UInt8} : ((Gw.Name.paths p).getD []).length ≤ 16 := by
  unfold Gw.Name.paths
  split
  · simp
  · split
    · simp
    · split
      · split
        · rename_i h
          unfold Gw.Name.fit at h
          simp at h
          simpa using h.1
        · simp
      · simp
end Go.Proofs.YtfmhkfijnflalaaDoor
