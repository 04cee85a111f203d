/- What the functions of the package name compute of texts and paths: told without addresses. No claim of its own. -/
import Derived.Test.YtgbahdoiogcpiaaDoorAJoin
namespace Go.Proofs.YtgbahdoiogcpiaaDoor
open Go.Am

def runesV (o : Option (List Int)) : V := match o with
  | none => .tup [.int .i64 0, .bool false]
  | some l => .tup [.int .i64 (l.length : Nat), .bool true]
theorem runes_pc (s : List UInt8) (hs : s.length ≤ 1048576) : PC Tryd.prog 11 [.str s] (runesV (Gw.Name.spell s)) := by
  have h1 := spell_pc s hs
  cases ho : Gw.Name.spell s with
  | none =>
    rw [ho] at h1
    refine PC.of tabOk mixed (fn := Tryd.f11) (by kernel_rfl) rfl (by kernel_rfl) rfl rfl ?_
    conv => whnf
    refine AC.of_pc h1 rfl ?_
    conv => whnf
    rfl
  | some l =>
    rw [ho] at h1
    refine PC.of tabOk mixed (fn := Tryd.f11) (by kernel_rfl) rfl (by kernel_rfl) rfl rfl ?_
    conv => whnf
    refine AC.of_pc h1 rfl ?_
    conv => whnf
    show V.tup [.int .i64 ((encR l).length : Nat), .bool true] = _
    simp [encR, runesV]
theorem cmp_pc (a b : Int) : PC Tryd.prog 41 [.int .i32 a, .int .i32 b] (.int .i64 (if a < b then -1 else if b < a then 1 else 0)) := by
  have hn : ∀ x : Int, PC Tryd.prog 50 [.int .i32 x] (.bool false) := fun x => by
    refine PC.of tabOk mixed (fn := Tryd.f50) (by kernel_rfl) rfl (by kernel_rfl) rfl rfl ?_
    conv => whnf
    show V.bool (x != x) = V.bool false
    simp
  refine PC.of tabOk mixed (fn := Tryd.f41) (by kernel_rfl) rfl (by kernel_rfl) rfl rfl ?_
  conv => whnf
  refine AC.of_pc (hn a) rfl ?_
  conv => whnf
  refine AC.of_pc (hn b) rfl ?_
  conv => whnf
  refine ⟨fun h => absurd h (by decide), fun _ => ?_⟩
  conv => whnf
  refine ⟨fun h => absurd h (by decide), fun _ => ?_⟩
  conv => whnf
  refine ⟨fun h => ?_, fun h => ?_⟩
  · rw [if_pos (of_decide_eq_true h)]
    conv => whnf
  rw [if_neg (of_decide_eq_false h)]
  conv => whnf
  refine ⟨fun h => ?_, fun h => ?_⟩
  · rw [if_pos (of_decide_eq_true h)]
    conv => whnf
  rw [if_neg (of_decide_eq_false h)]
  conv => whnf
theorem encR_len (l : List Int) : (encR l).length = l.length := by simp [encR]
theorem encR_get {l : List Int} {k : Nat} (h : k < l.length) : (encR l)[k]? = some [.int .i32 l[k]] := by unfold encR; rw [List.getElem?_map, List.getElem?_eq_getElem h]; rfl
theorem compare_pc (n1 n2 : Bool) (a b : List Int) (ha : a.length ≤ 4611686018427387904) : PC Tryd.prog 30 [.lst n1 1 (encR a) .none, .lst n2 1 (encR b) .none] (.int .i64 (Gw.Name.cmpL a b)) := by
  refine PC.of tabOk mixed (fn := Tryd.f30) (by kernel_rfl) rfl (by kernel_rfl) rfl rfl ?_
  have hla := encR_len a
  have hlb := encR_len b
  conv => whnf
  refine AW.loop (fun k : Nat => [(.tmp 0, .v (.lst n1 1 (encR a) .none)), (.tmp 1, .v (.lst n2 1 (encR b) .none)), (.tmp 9, .v (.lst n1 1 (encR a) .none)), (.tmp 10, .v (.int .i64 (a.length : Nat))), (.tmp 11, .v (.int .i64 k))])
    0 (fun k => k ≤ a.length ∧ k ≤ b.length ∧ Gw.Name.cmpL a b = Gw.Name.cmpL (a.drop k) (b.drop k)) (fun k => a.length - k) (by decide) 0 ⟨Nat.zero_le _, Nat.zero_le _, rfl⟩ ⟨rfl, rfl, rfl, rfl, rfl, rfl, ?_, rfl, rfl, rfl, trivial⟩ ?_
  · show C.v (V.int .i64 ((encR a).length : Nat)) = _
    rw [hla]
  rintro k ⟨hk, hkb, hcm⟩
  refine ev_sound tabOk mixed _ _ _ _ ?_
  conv => whnf
  refine ⟨fun h => ?_, fun h => ?_⟩
  · have h := of_decide_eq_true h
    have hlt : k < a.length := by omega
    have hg := encR_get hlt
    rw [List.drop_eq_getElem_cons hlt] at hcm
    conv => whnf
    refine ⟨_, ⟨by omega, hg⟩, ?_⟩
    conv => whnf
    refine ⟨fun h => ?_, fun h => ?_⟩
    · have h := of_decide_eq_true h
      rw [show b.drop k = [] from List.drop_of_length_le (by omega), Gw.Name.cmpL] at hcm
      rw [hcm]
      conv => whnf
    have h := of_decide_eq_false h
    have hlt2 : k < b.length := by omega
    have hg2 := encR_get hlt2
    have hc := cmp_pc a[k] b[k]
    rw [List.drop_eq_getElem_cons hlt2, Gw.Name.cmpL] at hcm
    conv => whnf
    refine ⟨_, ⟨by omega, hg2⟩, ?_⟩
    conv => whnf
    refine AC.of_pc hc rfl ?_
    by_cases c1 : a[k] < b[k]
    · rw [if_pos c1] at hcm ⊢
      rw [hcm]
      conv => whnf
      refine ⟨fun _ => ?_, fun h => absurd h (by decide)⟩
      conv => whnf
    by_cases c2 : b[k] < a[k]
    · rw [if_neg c1, if_pos c2] at hcm ⊢
      rw [hcm]
      conv => whnf
      refine ⟨fun _ => ?_, fun h => absurd h (by decide)⟩
      conv => whnf
    rw [if_neg c1, if_neg c2] at hcm ⊢
    conv => whnf
    refine ⟨fun h => absurd h (by decide), fun _ => ?_⟩
    conv => whnf
    refine ⟨k + 1, ⟨by omega, by omega, hcm⟩, by show a.length - (k + 1) < a.length - k; omega, rfl, rfl, rfl, rfl, rfl, rfl, rfl, rfl, ?_, rfl, trivial⟩
    show C.v (V.int .i64 (IntKind.i64.wrap ((k : Int) + 1))) = C.v (V.int .i64 ((k + 1 : Nat) : Int))
    rw [w64 (by omega) (by omega)]; rfl
  · have h := of_decide_eq_false h
    have hke : k = a.length := by omega
    rw [hke, List.drop_length] at hcm
    conv => whnf
    refine ⟨fun h => ?_, fun h => ?_⟩
    · have h := of_decide_eq_true h
      have hlt2 : a.length < b.length := by omega
      rw [List.drop_eq_getElem_cons hlt2, Gw.Name.cmpL] at hcm
      rw [hcm]
      conv => whnf
    · have h := of_decide_eq_false h
      rw [List.drop_of_length_le (by omega), Gw.Name.cmpL] at hcm
      rw [hcm]
      conv => whnf
theorem ranks_len (s : List UInt8) : (Gw.Name.ranks s).length ≤ s.length := by
  unfold Gw.Name.ranks
  cases h : Gw.Name.spell s with
  | none => simp
  | some l => exact Gw.Name.spell_len h
theorem ranks_pc (s : List UInt8) (hs : s.length ≤ 1048576) : PC Tryd.prog 31 [.str s] (.lst false 1 (encR (Gw.Name.ranks s)) .none) := by
  have h1 := spell_pc s hs
  unfold Gw.Name.ranks
  cases ho : Gw.Name.spell s with
  | some l =>
    rw [ho] at h1
    refine PC.of tabOk mixed (fn := Tryd.f31) (by kernel_rfl) rfl (by kernel_rfl) rfl rfl ?_
    conv => whnf
    refine AC.of_pc h1 rfl ?_
    conv => whnf
    refine ⟨fun _ => ?_, fun h => absurd h (by decide)⟩
    conv => whnf
  | none =>
    rw [ho] at h1
    refine PC.of tabOk mixed (fn := Tryd.f31) (by kernel_rfl) rfl (by kernel_rfl) rfl rfl ?_
    conv => whnf
    refine AC.of_pc h1 rfl ?_
    conv => whnf
    refine ⟨fun h => absurd h (by decide), fun _ => ?_⟩
    conv => whnf
    refine ⟨⟨by omega, fits_small (by rw [Int.toNat_natCast]; omega) (by decide)⟩, ?_⟩
    conv => whnf
    refine AW.loop (fun k : Nat => [(.tmp 0, .v (.str s)), (.tmp 3, .v (.lst false 1 (encR ((s.take k).map fun b => (1114112 + b.toNat : Int))) (.row 10))), (.tmp 17, .v (.int .i64 (s.length : Nat))), (.tmp 18, .v (.int .i64 k)), (.row 10, .row 21 1 k)])
      11 (fun k => k ≤ s.length) (fun k => s.length - k) (by decide) 0 (Nat.zero_le _) ⟨rfl, rfl, rfl, rfl, rfl, rfl, rfl, rfl, rfl, rfl, trivial⟩ ?_
    rintro k hk
    have hel : (encR ((s.take k).map fun b => (1114112 + b.toNat : Int))).length = k := by rw [encR_len, List.length_map, List.length_take]; omega
    refine ev_sound tabOk mixed _ _ _ _ ?_
    conv => whnf
    refine ⟨fun h => ?_, fun h => ?_⟩
    · have h := of_decide_eq_true h
      have hlt : k < s.length := by omega
      have hb := s[k].toNat_lt
      conv => whnf
      refine ⟨s[k], ⟨by omega, List.getElem?_eq_getElem hlt⟩, ?_⟩
      conv => whnf
      refine ⟨⟨hel.symm, fits_small (by show (encR _).length + 1 ≤ _; rw [hel]; omega) (by decide)⟩, ?_⟩
      conv => whnf
      refine ⟨k + 1, by show k + 1 ≤ _; omega, by show s.length - (k + 1) < s.length - k; omega, rfl, rfl, ?_, rfl, rfl, rfl, ?_, rfl, ?_, rfl, trivial⟩
      · show C.v (V.lst false 1 (encR ((s.take k).map fun b => (1114112 + b.toNat : Int)) ++ [[V.int .i32 (IntKind.i32.wrap (IntKind.i32.wrap (1114111 + IntKind.i32.wrap (s[k].toNat : Int)) + 1))]]) _) = C.v (V.lst false 1 (encR ((s.take (k + 1)).map fun b => (1114112 + b.toNat : Int))) _)
        rw [List.take_succ_eq_append_getElem hlt, List.map_append, encR, encR, List.map_append]
        have e : IntKind.i32.wrap (IntKind.i32.wrap (1114111 + IntKind.i32.wrap (s[k].toNat : Int)) + 1) = 1114112 + (s[k].toNat : Int) := by
          simp only [IntKind.wrap_i32]; omega
        rw [e]; rfl
      · show C.v (V.int .i64 (IntKind.i64.wrap ((k : Int) + 1))) = C.v (V.int .i64 ((k + 1 : Nat) : Int))
        rw [w64 (by omega) (by omega)]; rfl
      · show C.row _ 1 ((encR _).length + 1) = C.row _ 1 (k + 1)
        rw [hel]
    · have h := of_decide_eq_false h
      obtain rfl : k = s.length := by omega
      rw [List.take_length]
      conv => whnf
theorem less_pc (a b : List UInt8) (ha : a.length ≤ 1048576) (hb : b.length ≤ 1048576) : PC Tryd.prog 19 [.str a, .str b] (.bool (Gw.Name.less a b)) := by
  have hc := compare_pc false false (Gw.Name.ranks a) (Gw.Name.ranks b) (by have := ranks_len a; omega)
  refine PC.of tabOk mixed (fn := Tryd.f19) (by kernel_rfl) rfl (by kernel_rfl) rfl rfl ?_
  conv => whnf
  refine AC.of_pc (ranks_pc a ha) rfl ?_
  conv => whnf
  refine AC.of_pc (ranks_pc b hb) rfl ?_
  conv => whnf
  refine AC.of_pc hc rfl ?_
  conv => whnf
  rfl
theorem encT_len (l : List (List UInt8)) : (encT l).length = l.length := by simp [encT]
theorem fit_pc (n : Bool) (l : List (List UInt8)) (hl : ∀ t ∈ l, t.length ≤ 1048576) : PC Tryd.prog 26 [.lst n 1 (encT l) .none] (.bool (Gw.Name.fit l)) := by
  have hel := encT_len l
  refine PC.of tabOk mixed (fn := Tryd.f26) (by kernel_rfl) rfl (by kernel_rfl) rfl rfl ?_
  unfold Gw.Name.fit
  conv => whnf
  refine ⟨fun h => ?_, fun h => ?_⟩
  · have h := of_decide_eq_true h
    rw [decide_eq_false (by omega : ¬ l.length ≤ 16), Bool.false_and]
    conv => whnf
  have h := of_decide_eq_false h
  rw [decide_eq_true (by omega : l.length ≤ 16), Bool.true_and]
  conv => whnf
  refine AW.loop (fun k : Nat => [(.tmp 8, .v (.lst n 1 (encT l) .none)), (.tmp 9, .v (.int .i64 (l.length : Nat))), (.tmp 10, .v (.int .i64 k))])
    0 (fun k => k ≤ l.length ∧ (l.take k).all Gw.Name.check = true) (fun k => l.length - k) (by decide) 0 ⟨Nat.zero_le _, rfl⟩ ⟨rfl, rfl, ?_, rfl, rfl, rfl, trivial⟩ ?_
  · show C.v (V.int .i64 ((encT l).length : Nat)) = _
    rw [hel]
  rintro k ⟨hk, hall⟩
  refine ev_sound tabOk mixed _ _ _ _ ?_
  conv => whnf
  refine ⟨fun h => ?_, fun h => ?_⟩
  · have h := of_decide_eq_true h
    have hlt : k < l.length := by omega
    have hc := nameCheck_pc l[k] (hl _ (List.getElem_mem hlt))
    conv => whnf
    refine ⟨_, ⟨by omega, encT_get hlt⟩, ?_⟩
    conv => whnf
    refine AC.of_pc hc rfl ?_
    cases hq : Gw.Name.check l[k] with
    | false =>
      have e : l.all Gw.Name.check = false := by
        rw [Bool.eq_false_iff]; intro h2
        rw [List.all_eq_true.1 h2 _ (List.getElem_mem hlt)] at hq; cases hq
      rw [e]
      conv => whnf
      refine ⟨fun _ => ?_, fun h => absurd h (by decide)⟩
      conv => whnf
    | true =>
      conv => whnf
      refine ⟨fun h => absurd h (by decide), fun _ => ?_⟩
      conv => whnf
      refine ⟨k + 1, ⟨by omega, by rw [List.take_succ_eq_append_getElem hlt, List.all_append, hall]; simp [hq]⟩, by show l.length - (k + 1) < l.length - k; omega, rfl, rfl, rfl, rfl, ?_, rfl, trivial⟩
      show C.v (V.int .i64 (IntKind.i64.wrap ((k : Int) + 1))) = C.v (V.int .i64 ((k + 1 : Nat) : Int))
      rw [w64 (by omega) (by omega)]; rfl
  · have h := of_decide_eq_false h
    obtain rfl : k = l.length := by omega
    rw [List.take_length] at hall
    rw [hall]
    conv => whnf
theorem split_small (s : List UInt8) : ∀ t ∈ Gw.Name.split s, t.length ≤ s.length := by
  induction s with
  | nil => simp [Gw.Name.split]
  | cons b l ih =>
    rw [Gw.Name.split]
    split
    · intro t ht
      rcases List.mem_cons.1 ht with rfl | ht
      · simp
      · have := ih t ht; simp; omega
    · split
      · simp
      · rename_i h t' hs
        rw [hs] at ih
        intro t ht
        rcases List.mem_cons.1 ht with rfl | ht
        · have := ih h (by simp); simp; omega
        · have := ih t (by simp [ht]); simp; omega
def pathsV (o : Option (List (List UInt8))) : V := match o with
  | none => .tup [.lst true 1 [] .none, .int .i64 10]
  | some [] => .tup [.lst true 1 [] .none, .int .i64 0]
  | some (x :: l) => .tup [.lst false 1 (encT (x :: l)) .none, .int .i64 0]
theorem nameSplit_pc (p : List UInt8) (hp : p.length ≤ 1048576) : PC Tryd.prog 13 [.str p] (pathsV (Gw.Name.paths p)) := by
  have hcp := cutPrefix_pc p
  by_cases h : p = [47]
  · have e : Gw.Name.paths p = some [] := by unfold Gw.Name.paths; rw [if_pos h]
    rw [e]
    refine PC.of tabOk mixed (fn := Tryd.f13) (by kernel_rfl) rfl (by kernel_rfl) rfl rfl ?_
    conv => whnf
    refine ⟨fun _ => ?_, fun h2 => absurd h (of_decide_eq_false h2)⟩
    conv => whnf
    rfl
  have first : ∀ b, Gw.Name.isPrefix [47] p = b → (b = false → Gw.Name.paths p = none) → (b = true → ∃ r, p = 47 :: r) → PC Tryd.prog 13 [.str p] (pathsV (Gw.Name.paths p)) := by
    intro b hb h0 h1
    rw [hb] at hcp
    cases b with
    | false =>
      rw [h0 rfl]
      refine PC.of tabOk mixed (fn := Tryd.f13) (by kernel_rfl) rfl (by kernel_rfl) rfl rfl ?_
      conv => whnf
      refine ⟨fun h2 => absurd (of_decide_eq_true h2) h, fun _ => ?_⟩
      conv => whnf
      refine AC.of_pc hcp rfl ?_
      conv => whnf
      refine ⟨fun _ => ?_, fun h => absurd h (by decide)⟩
      conv => whnf
      rfl
    | true =>
      obtain ⟨r, rfl⟩ := h1 rfl
      have hrl : r.length ≤ 1048576 := by simp only [List.length_cons] at hp; omega
      have hcp : PC Tryd.prog 24 [.str (47 :: r), .str [47]] (.tup [.str r, .bool true]) := hcp
      have hsp := split_pc r hrl
      have hfi := fit_pc false (Gw.Name.split r) (fun t ht => Nat.le_trans (split_small r t ht) hrl)
      have hne := Gw.Name.split_ne r
      have e : Gw.Name.paths (47 :: r) = if Gw.Name.fit (Gw.Name.split r) = true then some (Gw.Name.split r) else none := by
        unfold Gw.Name.paths
        rw [if_neg h]
        exact if_pos rfl
      rw [e]
      generalize Gw.Name.split r = l at hsp hfi hne ⊢
      cases hf : Gw.Name.fit l with
      | false =>
        rw [hf] at hfi
        rw [if_neg (by decide)]
        refine PC.of tabOk mixed (fn := Tryd.f13) (by kernel_rfl) rfl (by kernel_rfl) rfl rfl ?_
        conv => whnf
        refine ⟨fun h2 => absurd (of_decide_eq_true h2) h, fun _ => ?_⟩
        conv => whnf
        refine AC.of_pc hcp rfl ?_
        conv => whnf
        refine ⟨fun h => absurd h (by decide), fun _ => ?_⟩
        conv => whnf
        refine AC.of_pc hsp rfl ?_
        conv => whnf
        refine AC.of_pc hfi rfl ?_
        conv => whnf
        refine ⟨fun _ => ?_, fun h => absurd h (by decide)⟩
        conv => whnf
        rfl
      | true =>
        rw [hf] at hfi
        rw [if_pos rfl]
        refine PC.of tabOk mixed (fn := Tryd.f13) (by kernel_rfl) rfl (by kernel_rfl) rfl rfl ?_
        conv => whnf
        refine ⟨fun h2 => absurd (of_decide_eq_true h2) h, fun _ => ?_⟩
        conv => whnf
        refine AC.of_pc hcp rfl ?_
        conv => whnf
        refine ⟨fun h => absurd h (by decide), fun _ => ?_⟩
        conv => whnf
        refine AC.of_pc hsp rfl ?_
        conv => whnf
        refine AC.of_pc hfi rfl ?_
        conv => whnf
        refine ⟨fun h => absurd h (by decide), fun _ => ?_⟩
        conv => whnf
        cases l with
        | nil => exact absurd rfl hne
        | cons x l => rfl
  cases p with
  | nil => exact first false rfl (fun _ => rfl) (fun h => by cases h)
  | cons b r =>
    by_cases hb : b = 47
    · exact first true (by subst hb; simp [Gw.Name.isPrefix]) (fun h => by cases h) (fun _ => ⟨r, by rw [hb]⟩)
    · refine first false (by simp [Gw.Name.isPrefix, hb]) (fun _ => ?_) (fun h => by cases h)
      unfold Gw.Name.paths
      rw [if_neg h]
      exact if_neg hb
def joinV (o : Option (List UInt8)) : V := match o with
  | none => .tup [.str [], .int .i64 10]
  | some s => .tup [.str s, .int .i64 0]
theorem nameJoin_pc (n : Bool) (l : List (List UInt8)) (hl : ∀ t ∈ l, t.length ≤ 1048576) : PC Tryd.prog 15 [.lst n 1 (encT l) .none] (joinV (Gw.Name.join l)) := by
  have hfi := fit_pc n l hl
  unfold Gw.Name.join
  cases hf : Gw.Name.fit l with
  | false =>
    rw [hf] at hfi
    rw [if_neg (by decide)]
    refine PC.of tabOk mixed (fn := Tryd.f15) (by kernel_rfl) rfl (by kernel_rfl) rfl rfl ?_
    conv => whnf
    refine AC.of_pc hfi rfl ?_
    conv => whnf
    refine ⟨fun _ => ?_, fun h => absurd h (by decide)⟩
    conv => whnf
    rfl
  | true =>
    rw [hf] at hfi
    rw [if_pos rfl]
    have h16 : l.length ≤ 16 := by unfold Gw.Name.fit at hf; simp at hf; exact hf.1
    have hj := join_pc n l (by omega) hl
    have hg : (Gw.Name.glue l).length < 1000000000 := by
      cases l with
      | nil => simp [Gw.Name.glue]
      | cons x r =>
        have h1 : Gw.Name.glue (x :: r) = x ++ glT r := rfl
        have h2 := lensT_le (l := x :: r) hl
        rw [h1, List.length_append, glT_len]
        unfold lensT at h2 ⊢
        simp only [List.map_cons, List.sum_cons, List.length_cons] at h2 h16 ⊢
        omega
    refine PC.of tabOk mixed (fn := Tryd.f15) (by kernel_rfl) rfl (by kernel_rfl) rfl rfl ?_
    conv => whnf
    refine AC.of_pc hfi rfl ?_
    conv => whnf
    refine ⟨fun h => absurd h (by decide), fun _ => ?_⟩
    conv => whnf
    refine AC.of_pc hj rfl ?_
    conv => whnf
    refine ⟨by show ([47] : List UInt8).length + _ < _; simp only [List.length_cons, List.length_nil]; omega, ?_⟩
    conv => whnf
    rfl
end Go.Proofs.YtgbahdoiogcpiaaDoor
