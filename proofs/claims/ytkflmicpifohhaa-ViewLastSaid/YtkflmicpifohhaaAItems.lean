/- All that is seen below a directory: told without addresses. No claim of its own. -/
import Derived.Test.YtkflmicpifohhaaABelow
namespace Go.Proofs.Ytkflmicpifohhaa
open Go.Am

theorem vList_pc (nil : Bool) (l : List Gw.Tree.Node) (dir : Int) (hi : ∀ n ∈ l, I64 n.id) (hl : l.length ≤ 1048576) (hs : ∀ n ∈ l, n.name.length ≤ 1048576) :
    ∃ q, PC Try.prog 12 [.lst nil 8 (encN l) .none, .int .i64 dir] (.lst q 1 (encS1 (Gw.View.list l dir)) .none) := by
  have hck := treeCheck_pc nil l hi hl
  have hsn := seen_ac nil l dir hl
  obtain ⟨hok, hmem⟩ := Gw.View.seen_ok l dir
  have hlen : (Gw.View.seen l dir).2.length ≤ l.length := by
    have := Gw.Lists.len_of_sub (l := (Gw.View.seen l dir).2.map (·.2.1)) (m := l.map (·.name)) hok.names fun s hs' => by
      obtain ⟨e, he, rfl⟩ := List.mem_map.1 hs'
      exact List.mem_map.2 ⟨e.2.2, (hmem e he).1, hok.own e he⟩
    rwa [List.length_map, List.length_map] at this
  obtain ⟨q, hrp⟩ := rising_pm (Gw.View.seen l dir) hok (by omega) (fun e he => by rw [← hok.own e he]; exact hs _ (hmem e he).1)
  unfold Gw.View.list
  refine ⟨match Gw.Tree.check l with | true => q | false => true, ?_⟩
  refine PC.ofS tabOk mixed (fn := Try.f12) (by kernel_rfl) rfl (by kernel_rfl) rfl rfl ?_
  conv => whnf
  refine AC.of_pc hck rfl ?_
  cases Gw.Tree.check l with
  | false =>
    conv => whnf
    repeat (first | refine ⟨fun _ => ?_, fun h => absurd h (by decide)⟩ | refine ⟨fun h => absurd h (by decide), fun _ => ?_⟩ | refine ⟨fun _ => ?_, fun h => absurd (show true = false from h) (by decide)⟩ | refine ⟨fun h => absurd (show false = true from h) (by decide), fun _ => ?_⟩
            (conv => whnf))
    exact SubV.nil _ _ _
  | true =>
    rw [if_pos rfl]
    conv => whnf
    repeat (first | refine ⟨fun _ => ?_, fun h => absurd h (by decide)⟩ | refine ⟨fun h => absurd h (by decide), fun _ => ?_⟩ | refine ⟨fun _ => ?_, fun h => absurd (show true = false from h) (by decide)⟩ | refine ⟨fun h => absurd (show false = true from h) (by decide), fun _ => ?_⟩
            (conv => whnf))
    refine AC.frame (es := []) trivial rfl (Nat.zero_le _) rfl hsn ?_
    rintro x es ⟨rfl, rfl⟩
    conv => whnf
    refine AC.of_pm hrp rfl ?_
    conv => whnf
    exact SubV.refl _
theorem below_rec (nil : Bool) {l : List Gw.Tree.Node} (hc : Gw.Tree.check l = true) (c : Nat) (m : ZM) (hl : l.length ≤ 1000) (hi : ∀ n ∈ l, I64 n.id) (hs : ∀ n ∈ l, n.name.length ≤ 1000) {top : Int} (ht : top ∈ outZ m) :
    ∀ (f : Nat) {ids : List Int} {dir : Int} {path : List UInt8}, Gw.View.Way l (outZ m) top ids dir → l.length ≤ ids.length + f → path.length ≤ 1001 * ids.length → BelowDoes nil l c m dir path (Gw.View.belowF l (outZ m) f dir path)
  | 0, ids, dir, path, hw, hf, hp => by
    have hil := hw.len hc ht
    have he : Gw.View.inner l (outZ m) dir = [] := List.eq_nil_iff_forall_not_mem.2 fun e he => by
      obtain ⟨_, h1, h2, _, h4⟩ := Gw.View.inner_mem he
      have hpd : e.2.2.parent = dir := by
        unfold Gw.View.inDir at h2
        simp only [Bool.and_eq_true, decide_eq_true_eq] at h2
        exact h2.1
      have := (Gw.View.Way.down hw h1 hpd h4).len hc ht
      rw [List.length_append, List.length_singleton] at this
      omega
    have hb := below_step nil l c m dir path (fun _ _ => []) hl hi hs (by omega) (fun s n hf => by rw [he] at hf; cases hf)
    rw [he] at hb
    exact hb
  | f + 1, ids, dir, path, hw, hf, hp => by
    have hil := hw.len hc ht
    refine below_step nil l c m dir path (Gw.View.belowF l (outZ m) f) hl hi hs (by omega) fun s n hfd _ => ?_
    obtain ⟨h1, h2, h3, h4⟩ := Gw.View.inner_find hfd
    have hpd : n.parent = dir := by
      unfold Gw.View.inDir at h2
      simp only [Bool.and_eq_true, decide_eq_true_eq] at h2
      exact h2.1
    have hsl : s.length ≤ 1000 := by rw [← h3]; exact hs n h1
    refine below_rec nil hc c m hl hi hs ht f (.down hw h1 hpd h4) (by rw [List.length_append, List.length_singleton]; omega) ?_
    unfold Gw.View.pathOf
    simp only [List.length_append, List.length_singleton]
    omega
/-- One more number is out. -/
def putZ (x : Nat × ZM) (z : Int) : Nat × ZM := if (outZ x.2).contains z = true then x else (x.1 + 1, x.2 ++ [(x.1, z)])
def putZR (z : Int) : ZM → Option Es := fun m => if (outZ m).contains z = true then some (encZM m) else none
theorem putE_z (z : Int) : ∀ m : ZM, putE (.int .i64 z) (.bool true) (encZM m) = putZR z m
  | [] => rfl
  | e :: m => by
    show (match sameK (.int .i64 e.2) (.int .i64 z) with | true => some _ | false => match putE (.int .i64 z) (.bool true) (encZM m) with | some l => some _ | none => none) = _
    rw [putE_z z m]
    unfold putZR
    simp only [sameK, outZ, List.map_cons, List.contains_cons]
    by_cases h : e.2 = z
    · subst h
      rw [decide_eq_true rfl, beq_self_eq_true, Bool.true_or, if_pos rfl]
      rfl
    · have h2 : (z == e.2) = false := by simpa using fun q => h q.symm
      rw [decide_eq_false h, h2, Bool.false_or]
      show (match (if (List.map (·.2) m).contains z = true then some (encZM m) else none) with | some l => some _ | none => none) = _
      by_cases hq : (List.map (·.2) m).contains z = true
      · rw [if_pos hq, if_pos hq]; rfl
      · rw [if_neg hq, if_neg hq]
theorem putR_z (x : Nat × ZM) (z : Int) : putR x.1 (encZM x.2) (.int .i64 z) (.bool true) (putZR z x.2) = .mp (putZ x z).1 (encZM (putZ x z).2) := by
  unfold putZ putZR
  split
  · rfl
  · show Ob.mp (x.1 + 1) (encZM x.2 ++ [_]) = Ob.mp (x.1 + 1) (encZM (x.2 ++ [_]))
    unfold encZM
    rw [List.map_append]
    rfl
theorem putZ_mem (x : Nat × ZM) (z y : Int) : (outZ (putZ x z).2).contains y = ((outZ x.2).contains y || y == z) := by
  unfold putZ
  split
  · rename_i h
    by_cases hy : y = z
    · subst hy; rw [h]; simp
    · have : (y == z) = false := by simpa using hy
      rw [this, Bool.or_false]
  · unfold outZ
    rw [List.map_append, List.contains_append]
    simp
    rfl
def outsM (zs : List Int) : Nat × ZM := zs.foldl putZ (0, [])
theorem outsM_mem (zs : List Int) (y : Int) : (outZ (outsM zs).2).contains y = zs.contains y := by
  have key : ∀ (zs : List Int) (x : Nat × ZM), (outZ (zs.foldl putZ x).2).contains y = ((outZ x.2).contains y || zs.contains y) := by
    intro zs
    induction zs with
    | nil => intro x; simp
    | cons z zs ih =>
      intro x
      rw [List.foldl_cons, ih, putZ_mem, List.contains_cons, Bool.or_assoc]
  exact key zs (0, [])
theorem belowF_congr {l : List Gw.Tree.Node} {o o' : List Int} (h : ∀ y, o.contains y = o'.contains y) (f : Nat) : Gw.View.belowF l o f = Gw.View.belowF l o' f := by
  have hin : ∀ dir, Gw.View.inner l o dir = Gw.View.inner l o' dir := fun dir => by
    unfold Gw.View.inner
    apply List.filter_congr
    intro e _
    rw [h]
  induction f with
  | zero => rfl
  | succ f ih =>
    funext dir path
    rw [Gw.View.belowF, Gw.View.belowF, ih, hin]
theorem vItems_pc (nil : Bool) (l : List Gw.Tree.Node) (dir : Int) (hi : ∀ n ∈ l, I64 n.id) (hl : l.length ≤ 1000) (hs : ∀ n ∈ l, n.name.length ≤ 1000) :
    PC Try.prog 11 [.lst nil 8 (encN l) .none, .int .i64 dir] (.lst (decide (Gw.View.items l dir = [])) 3 (encIt (Gw.View.items l dir)) .none) := by
  have hck := treeCheck_pc nil l hi (by omega)
  have hab := tAbove_pc nil l dir hi (by omega)
  unfold Gw.View.items
  refine PC.of_pr (PR.ofA tabOk (fn := Try.f11) (by kernel_rfl) rfl (by kernel_rfl) rfl rfl ?_)
  refine AW.seq (ev_sound tabOk mixed _ _ _ _ ?_)
  conv => whnf
  refine AW.seq (ev_sound tabOk mixed _ _ _ _ ?_)
  conv => whnf
  refine AC.of_pc hck rfl ?_
  cases hc : Gw.Tree.check l with
  | false =>
    conv => whnf
    repeat (first | refine ⟨fun _ => ?_, fun h => absurd h (by decide)⟩ | refine ⟨fun h => absurd h (by decide), fun _ => ?_⟩ | refine ⟨fun _ => ?_, fun h => absurd (show true = false from h) (by decide)⟩ | refine ⟨fun h => absurd (show false = true from h) (by decide), fun _ => ?_⟩
            (conv => whnf))
    exact ⟨_, SubV.nil _ _ _, SubV.refl _⟩
  | true =>
  rw [if_pos rfl]
  conv => whnf
  repeat (first | refine ⟨fun _ => ?_, fun h => absurd h (by decide)⟩ | refine ⟨fun h => absurd h (by decide), fun _ => ?_⟩ | refine ⟨fun _ => ?_, fun h => absurd (show true = false from h) (by decide)⟩ | refine ⟨fun h => absurd (show false = true from h) (by decide), fun _ => ?_⟩
          (conv => whnf))
  refine AW.seq (ev_sound tabOk mixed _ _ _ _ ?_)
  conv => whnf
  refine AM.makeMap rfl ?_
  conv => whnf
  refine AM.update (kt := 3) (et := 4) (d := .int .i64) (by kernel_rfl) (by kernel_rfl) (.inr rfl) rfl rfl rfl rfl (fun e h => by cases h) none rfl ?_
  conv => whnf
  refine AW.seq (ev_sound tabOk mixed _ _ _ _ ?_)
  conv => whnf
  refine AC.of_pc hab rfl ?_
  have hlo : (Gw.Tree.above l dir).length ≤ l.length := by unfold Gw.Tree.above; rw [hc, if_pos rfl]; exact Gw.Tree.climb_len l _ _
  have hlz := encZ_len (Gw.Tree.above l dir)
  generalize hZs : Gw.Tree.above l dir = Zs at *
  conv => whnf
  refine AW.loop (fun k : Nat => [(.tmp 1, .v (.int .i64 dir)), (.tmp 2, .v (.ptr 0 0)), (.tmp 5, .v (.ptr 8 0)), (.tmp 18, .v (.lst (decide (Zs = [])) 1 (encZ Zs) .none)), (.tmp 19, .v (.int .i64 Zs.length)), (.tmp 20, .v (.int .i64 k)),
    (.blk 0, .box 25 [.lst nil 8 (encN l) .none]), (.blk 4, .obj (.mp (outsM (dir :: Zs.take k)).1 (encZM (outsM (dir :: Zs.take k)).2))), (.blk 8, .box 70 [.mp 4])]) 14
    (fun k => k ≤ Zs.length) (fun k => Zs.length - k) (by decide) 0 (Nat.zero_le _) ⟨rfl, rfl, rfl, rfl, rfl, rfl, rfl, rfl, ?_, rfl, rfl, rfl, rfl, rfl, ?_, rfl, rfl, rfl, trivial⟩ ?_
  · show C.v (V.int .i64 (encZ Zs).length) = _
    rw [hlz]
  · rw [List.take_zero]; rfl
  rintro k hk
  refine ev_sound tabOk mixed _ _ _ _ ?_
  conv => whnf
  refine ⟨fun h => ?_, fun h => ?_⟩
  · have h := of_decide_eq_true h
    have hlt : k < Zs.length := by omega
    have hg := encZ_get hlt
    have hstep : outsM (dir :: Zs.take (k + 1)) = putZ (outsM (dir :: Zs.take k)) Zs[k] := by
      unfold outsM
      rw [List.take_succ_eq_append_getElem hlt, ← List.cons_append, List.foldl_append]
      rfl
    generalize outsM (dir :: Zs.take k) = S at *
    conv => whnf
    refine ⟨_, ⟨by omega, hg⟩, ?_⟩
    conv => whnf
    refine AM.update (kt := 3) (et := 4) (d := .int .i64) (by kernel_rfl) (by kernel_rfl) (.inl rfl) rfl rfl rfl rfl (encZM_kind _) (putZR Zs[k] S.2) (putE_z _ _) ?_
    conv => whnf
    refine ⟨k + 1, hlt, by show Zs.length - (k + 1) < Zs.length - k; omega, rfl, rfl, rfl, rfl, rfl, rfl, rfl, rfl, rfl, rfl, ?_, rfl, rfl, rfl, ?_, rfl, rfl, rfl, trivial⟩
    · show C.v (V.int .i64 (IntKind.i64.wrap ((k : Int) + 1))) = _
      rw [w64 (by omega) (by omega)]; rfl
    · rw [hstep]
      exact congrArg C.obj (putR_z S Zs[k])
  · have h := of_decide_eq_false h
    obtain rfl : k = Zs.length := by omega
    rw [List.take_length]
    have hmem := outsM_mem (dir :: Zs)
    have ht : dir ∈ outZ (outsM (dir :: Zs)).2 := by
      have := hmem dir
      rw [List.contains_cons, beq_self_eq_true, Bool.true_or] at this
      simpa using this
    have hbr := below_rec nil hc (outsM (dir :: Zs)).1 (outsM (dir :: Zs)).2 hl hi hs ht l.length (.top) (by rw [List.length_nil]; omega) (path := []) (Nat.zero_le _)
    have hlen := Gw.View.belowF_len hc ht l.length (.top) (path := [])
    rw [belowF_congr hmem] at hbr hlen
    have hou : Gw.View.outsOf l dir = dir :: Zs := by unfold Gw.View.outsOf; rw [hZs]
    rw [hou]
    generalize Gw.View.belowF l (dir :: Zs) l.length dir [] = R at *
    generalize outsM (dir :: Zs) = S at *
    conv => whnf
    refine AW.seq (ev_sound tabOk mixed _ _ _ _ ?_)
    conv => whnf
    refine AW.seq (ev_sound tabOk mixed _ _ _ _ ?_)
    conv => whnf
    refine AW.rowC 15 32 3 rfl ?_
    refine ev_sound tabOk mixed _ _ _ _ ?_
    have hb0 := hbr [] (by rw [List.length_nil]; omega)
    rw [List.nil_append] at hb0
    conv => whnf
    refine AC.frame (es := givenB nil l S.1 S.2 []) (m := 18) ⟨rfl, rfl, rfl, rfl, rfl, rfl, rfl, rfl, rfl, rfl, rfl, rfl, trivial⟩ rfl (by decide) rfl hb0 ?_
    rintro x es ⟨rfl, rfl⟩
    conv => whnf
    exact ⟨_, SubV.refl _, SubV.refl _⟩
end Go.Proofs.Ytkflmicpifohhaa
