/- The names of a map, in their order: told without addresses. No claim of its own. -/
import Derived.Test.YtipgfdepopfghaaGreatAViewS
import Derived.Test.YtipgfdepopfghaaGreatViewPl
import Derived.Test.YtipgfdepopfghaaGreatNamePl
import Derived.Test.YtipgfdepopfghaaGreatASortT
import Derived.Shelf.SlSortCmp.NoneTotal
import Derived.Test.YtipgfdepopfghaaGreatATreeM
namespace Go.Proofs.YtipgfdepopfghaaGreat
open Go.Shelf Go.RowKit Go.Lib Go.Am

theorem sort0_pc (q : Bool) : PC Tryz.prog 103 [.lst q 1 [] .none, .func 73 [] []] (.tup []) := by
  refine ⟨Am.enters_of (fn := Tryz.f103) (by kernel_rfl) rfl (by kernel_rfl), fun w F vals _ _ hvl hv => ?_⟩
  match vals, hvl with
  | [v1, v2], _ =>
  obtain ⟨ad, c, rfl, _, _⟩ := (Rep.pure (g := ⟨F, fun _ => none, fun _ => none⟩) (hv 0 _ v1 rfl rfl)).lst_inv
  have hL : SlLaysF0.n6 Tryz.prog Tryz.sortTexts_ren := { Tryz.sortTexts with }
  have hcon := AnyF.slices_SortFunc_none hL ad c v2 w
  change Calls Tryz.prog 103 #[.slice ad 0 c, v2] w _ at hcon
  refine hcon.mono ?_
  rintro e w' ⟨rfl, rfl⟩
  exact ⟨_, F, rfl, ⟨Below.refl _ _, Nat.le_refl _⟩, fun _ _ h => h, fun _ _ h => .inl h, .tup (vs := []) rfl (fun i x v h => by simp at h)⟩
theorem rising_pm (x : Nat × Gw.View.M) (hx : Gw.View.MOk x) (hl : x.2.length ≤ 1048576) (hs : ∀ e ∈ x.2, e.2.1.length ≤ 1048576) :
    ∃ q, PM Tryz.prog 49 x.1 (encM x.2) [.mp 0] (.lst q 1 (encS1 (Gw.View.sortT (x.2.map (·.2.1)))) .none) := by
  refine ⟨decide (x.2 = []), ?_⟩
  refine PM.ofS tabOk mixed (fn := Tryz.f49) (by kernel_rfl) rfl (by kernel_rfl) rfl rfl ?_
  conv => whnf
  refine AC.of tabOk mixed (fn := Tryz.f72) (by kernel_rfl) rfl (by kernel_rfl) rfl rfl ?_
  conv => whnf
  refine AC.ofA tabOk (fn := Tryz.f71) (by kernel_rfl) rfl (by kernel_rfl) rfl rfl ?_
  refine AW.seq (ev_sound tabOk mixed _ _ _ _ ?_)
  conv => whnf
  refine AW.seq (ev_sound tabOk mixed _ _ _ _ ?_)
  conv => whnf
  refine AC.of tabOk mixed (fn := Tryz.f102) (by kernel_rfl) rfl (by kernel_rfl) rfl rfl ?_
  conv => whnf
  refine AC.of tabOk mixed (fn := Tryz.f120) (by kernel_rfl) rfl (by kernel_rfl) rfl rfl ?_
  conv => whnf
  refine AW.rowC 11 9 1 rfl ?_
  refine AW.range [(2, .ptr 11 0)] ⟨rfl, rfl, trivial⟩ rfl rfl ?_
  refine AC.of tabOk mixed (fn := Tryz.f104) (by kernel_rfl) rfl (by kernel_rfl) rfl rfl ?_
  conv => whnf
  refine AM.range (kt := 9) (et := 53) (by kernel_rfl) rfl rfl (.inr rfl) ?_
  conv => whnf
  refine AW.loop (fun v : Gw.View.M => [(.tmp 0, .v (.yield 15)), (.tmp 5, .v (.it 17)), (.blk 0, .ro (.mp x.1 (encM x.2))), (.blk 17, .obj (.mit 0 x.1 (v.map (·.1)) x.1)),
    (.blk 11, .box 23 [.lst (decide (v = [])) 1 (encS1 (v.map (·.2.1))) (.brow 14)]), (.row 14, .row 9 1 v.length),
    (.blk 15, .loop .ready none 13 [(2, .ptr 11 0)] [7] (rangeAt Tryz.f120 0).1 (rangeAt Tryz.f120 0).2)]) 18
    (fun v => (v.map (·.1)).Nodup ∧ ∀ e ∈ v, e ∈ x.2) (fun v => x.2.length - v.length) (by decide) [] ⟨List.nodup_nil, fun e h => by cases h⟩ ⟨rfl, rfl, rfl, rfl, rfl, rfl, rfl, rfl, rfl, rfl, rfl, rfl, rfl, rfl, trivial⟩ ?_
  rintro v ⟨h1, h2⟩
  refine ev_sound tabOk mixed _ _ _ _ ?_
  conv => whnf
  have hvl : v.length ≤ x.2.length := Gw.Lists.len_of_sub (Gw.Lists.nodup_of_map _ h1) h2
  have hel := encS1_len (v.map (·.2.1))
  rw [List.length_map] at hel
  refine AM.next rfl rfl rfl (.inr rfl) (fun e he => ?_) (Nat.le_refl _) (fun e he hns => ?_) (fun hall => ?_)
  · obtain ⟨y, hy, rfl⟩ := List.mem_map.1 he
    exact hx.born y hy
  · obtain ⟨y, hy, rfl⟩ := List.mem_map.1 he
    have hns : y.1 ∉ v.map (·.1) := hns
    have hlt : v.length < x.2.length := by
      have := Gw.Lists.len_of_sub (l := v ++ [y]) (m := x.2) (Gw.Lists.nodup_of_map (·.1) (by
        rw [List.map_append, List.nodup_append]
        exact ⟨h1, by simp, fun a ha b hb => by
          simp only [List.map_cons, List.map_nil, List.mem_singleton] at hb
          subst hb
          exact fun e => hns (e ▸ ha)⟩)) (fun a ha => by
        rcases List.mem_append.1 ha with ha | ha
        · exact h2 a ha
        · rw [List.mem_singleton] at ha; subst ha; exact hy)
      rw [List.length_append, List.length_singleton] at this
      omega
    have hnd : ((encM x.2).map (·.1)).Nodup := by
      have : (encM x.2).map (·.1) = x.2.map (·.1) := by unfold encM; rw [List.map_map]; rfl
      rw [this]; exact hx.births
    conv => whnf
    repeat (first | refine ⟨fun _ => ?_, fun h => absurd h (by decide)⟩ | refine ⟨fun h => absurd h (by decide), fun _ => ?_⟩ | refine ⟨fun _ => ?_, fun h => absurd (show true = false from h) (by decide)⟩ | refine ⟨fun h => absurd (show false = true from h) (by decide), fun _ => ?_⟩
            (conv => whnf))
    refine AM.entry rfl rfl rfl (.inr rfl) rfl hnd (.str y.2.1, .agg (cellsN y.2.2)) he ?_
    conv => whnf
    refine AY.of tabOk mixed rfl rfl rfl (fun lp => ?_)
    conv => whnf
    refine ⟨⟨hel.symm, fits_small (by show (encS1 (v.map (·.2.1))).length + 1 ≤ _; omega) (by decide)⟩, ?_⟩
    conv => whnf
    refine ⟨v ++ [y], ⟨?_, fun a ha => ?_⟩, by show x.2.length - (v ++ [y]).length < x.2.length - v.length; rw [List.length_append, List.length_singleton]; omega, rfl, rfl, rfl, rfl, rfl, rfl, ?_, rfl, ?_, rfl, ?_, rfl, rfl, rfl, trivial⟩
    · rw [List.map_append, List.nodup_append]
      exact ⟨h1, by simp, fun a ha b hb => by
        simp only [List.map_cons, List.map_nil, List.mem_singleton] at hb
        subst hb
        exact fun e => hns (e ▸ ha)⟩
    · rcases List.mem_append.1 ha with ha | ha
      · exact h2 a ha
      · rw [List.mem_singleton] at ha; subst ha; exact hy
    · rw [List.map_append]; rfl
    · show C.box _ [V.lst (decide (v = []) && false) 1 (encS1 (v.map (·.2.1)) ++ [[V.str y.2.1]]) _] = C.box _ [V.lst (decide (v ++ [y] = [])) 1 (encS1 ((v ++ [y]).map (·.2.1))) _]
      rw [Bool.and_false, decide_eq_false (by simp), List.map_append]
      unfold encS1
      rw [List.map_append]
      rfl
    · show C.row _ 1 ((encS1 (v.map (·.2.1))).length + 1) = C.row _ 1 (v ++ [y]).length
      rw [hel, List.length_append]
      rfl
  · have hper : (v.map (·.2.1)).Perm (x.2.map (·.2.1)) := (Gw.Lists.perm_of_mem (Gw.Lists.nodup_of_map _ h1) (Gw.Lists.nodup_of_map _ hx.births) fun a => ⟨h2 a, fun ha => by
      have hin : a.1 ∈ v.map (·.1) := hall (a.1, .str a.2.1, .agg (cellsN a.2.2)) (List.mem_map.2 ⟨a, ha, rfl⟩)
      obtain ⟨c, hc, e⟩ := List.mem_map.1 hin
      rw [← Gw.Lists.inj_of_nodup (·.1) hx.births (h2 c hc) ha e]
      exact hc⟩).map _
    have hvx : decide (v = []) = decide (x.2 = []) := by
      have hl2 := hper.length_eq
      rw [List.length_map, List.length_map] at hl2
      rw [decide_eq_decide, ← List.length_eq_zero_iff, ← List.length_eq_zero_iff, hl2]
    have hlv : (v.map (·.2.1)).length = v.length := List.length_map _
    rw [hvx]
    generalize hV : v.map (·.2.1) = L at *
    have hsl : ∀ s ∈ L, s.length ≤ 1048576 := fun s hsL => by
      obtain ⟨e, he, rfl⟩ := List.mem_map.1 (hper.mem_iff.1 hsL)
      exact hs e he
    have hso : Gw.View.sortT L = Gw.View.sortT (x.2.map (·.2.1)) := Gw.View.sortT_unique ((Gw.View.sortT_perm L).trans hper) (Gw.View.sortT_sorted L)
    rw [← hso]
    conv => whnf
    repeat (first | refine ⟨fun _ => ?_, fun h => absurd h (by decide)⟩ | refine ⟨fun h => absurd h (by decide), fun _ => ?_⟩ | refine ⟨fun _ => ?_, fun h => absurd (show true = false from h) (by decide)⟩ | refine ⟨fun h => absurd (show false = true from h) (by decide), fun _ => ?_⟩
            (conv => whnf))
    by_cases hL : L = []
    · subst hL
      refine ev_sound tabOk mixed _ _ _ _ ?_
      conv => whnf
      refine AC.of_pc (sort0_pc _) rfl ?_
      conv => whnf
      exact SubV.of_eq rfl
    · have hn : (encS1 L).length = L.length := encS1_len L
      have hne : encS1 L ≠ [] := fun e => hL (by cases L with | nil => rfl | cons a b => cases e)
      refine AW.thaw (m := 15) (es := [(.tmp 1, .v (.func 73 [] []))]) 5 14 ⟨rfl, rfl, trivial⟩ (by decide) rfl (by decide) rfl (by rw [hn, hlv]; rfl) (by decide) hne (fun el hel y hy => by
        obtain ⟨s, _, rfl⟩ := List.mem_map.1 hel
        rw [List.mem_singleton] at hy; subst hy; rfl) ?_
      rw [flat_S1, hn]
      refine ev_sound tabOk mixed _ _ _ _ ?_
      conv => whnf
      refine sortT_ac 15 _ L _ hsl rfl (by omega) rfl ?_
      have hx0 : decide (x.2 = []) = false := by
        rw [← hvx]
        exact decide_eq_false fun e => hL (by rw [← hV, e]; rfl)
      have hlen : (encS1 (Gw.View.sortT L)).length = L.length := by rw [encS1_len, (Gw.View.sortT_perm L).length_eq]
      have hfl := flat_S1 (Gw.View.sortT L)
      have hfll : (flatT (Gw.View.sortT L)).length = L.length := by rw [flatT, List.length_map, (Gw.View.sortT_perm L).length_eq]
      rw [hx0]
      conv => whnf
      refine .mem rfl hlen (fun el hel => by
        obtain ⟨s, _, rfl⟩ := List.mem_map.1 hel
        rfl) (by rw [hfll]; omega) ?_ ?_
      · rw [hfl, List.drop_zero, List.take_of_length_le (by rw [hfll]; omega)]
      · rw [hfl]
        exact one_flatT _
end Go.Proofs.YtipgfdepopfghaaGreat


namespace Go.Proofs.YtipgfdepopfghaaGreat
open Go.Am

def cellsI (t : Gw.View.Item) : List V := [.str t.path, .int .i64 t.id, .str t.data]
def encIt (l : List Gw.View.Item) : List (List V) := l.map cellsI
theorem encIt_len (l : List Gw.View.Item) : (encIt l).length = l.length := by simp [encIt]
theorem encIt_get {l : List Gw.View.Item} {k : Nat} (h : k < l.length) : (encIt l)[k]? = some (cellsI l[k]) := by unfold encIt; rw [List.getElem?_map, List.getElem?_eq_getElem h]; rfl
/-- Numbers that are out, with when they came. -/
abbrev ZM := List (Nat × Int)
def encZM (m : ZM) : Es := m.map fun e => (e.1, .int .i64 e.2, .bool true)
def outZ (m : ZM) : List Int := m.map (·.2)
theorem findE_z (z : Int) : ∀ m : ZM, findE (.int .i64 z) (encZM m) = if (outZ m).contains z = true then some (.bool true) else none
  | [] => rfl
  | e :: m => by
    show (match sameK (.int .i64 e.2) (.int .i64 z) with | true => some (V.bool true) | false => findE (.int .i64 z) (encZM m)) = _
    rw [findE_z z m]
    simp only [sameK, outZ, List.map_cons, List.contains_cons]
    by_cases h : e.2 = z
    · simp [h]
    · have h2 : (z == e.2) = false := by simpa using fun q => h q.symm
      rw [decide_eq_false h, h2, Bool.false_or]
      rfl
theorem encZM_kind (m : ZM) : ∀ e ∈ encZM m, kindIs (.int .i64) e.2.1 := fun e h => by
  obtain ⟨x, _, rfl⟩ := List.mem_map.1 h
  rfl
/-- The blocks that 'below' is given. -/
abbrev givenB (nil : Bool) (l : List Gw.Tree.Node) (c : Nat) (m : ZM) (acc : List Gw.View.Item) : List (Am.Loc × C) :=
  [(.blk 0, .box 22 [.lst nil 8 (encN l) .none]), (.blk 4, .obj (.mp c (encZM m))), (.blk 8, .box 81 [.mp 4]),
    (.blk 15, .box 39 [.lst (decide (acc = [])) 3 (encIt acc) (.brow 17)]), (.row 17, .row 59 3 acc.length),
    (.blk 16, .box 65 [.func 47 [] [.ptr 0 0, .ptr 8 0, .ptr 15 0, .ptr 16 0]])]
/-- 'below' does that, from there. -/
def BelowDoes (nil : Bool) (l : List Gw.Tree.Node) (c : Nat) (m : ZM) (dir : Int) (path : List UInt8) (res : List Gw.View.Item) : Prop := ∀ acc : List Gw.View.Item, acc.length + res.length ≤ 1048576 →
  AC Tryz.prog 47 [.int .i64 dir, .str path, .ptr 0 0, .ptr 8 0, .ptr 15 0, .ptr 16 0] (ofL (givenB nil l c m acc)) 18
    (givenK 18 fun x es => x = .val (.tup []) ∧ es = givenB nil l c m (acc ++ res))
/-- Is an entry still there, when some have been looked at? -/
def leftE (outs : List Int) (v : Gw.View.M) (e : Nat × List UInt8 × Gw.Tree.Node) : Bool := !(v.map (·.1)).contains e.1 || !outs.contains e.2.2.id
theorem left_del {x : Nat × Gw.View.M} (hx : Gw.View.MOk x) {outs : List Int} {v : Gw.View.M} {y : Nat × List UInt8 × Gw.Tree.Node} (hy : y ∈ x.2) (hns : y.1 ∉ v.map (·.1)) :
    (if outs.contains y.2.2.id = true then Gw.View.delM y.2.1 (x.2.filter (leftE outs v)) else x.2.filter (leftE outs v)) = x.2.filter (leftE outs (v ++ [y])) := by
  have hc : (v.map (·.1)).contains y.1 = false := by rw [Bool.eq_false_iff]; intro h; exact hns (by simpa using h)
  have hl : leftE outs v y = true := by unfold leftE; rw [hc]; rfl
  have hstep : ∀ e ∈ x.2, leftE outs (v ++ [y]) e = (if e.1 = y.1 then !outs.contains y.2.2.id else leftE outs v e) := fun e he => by
    unfold leftE
    rw [List.map_append]
    by_cases h : e.1 = y.1
    · have := Gw.Lists.inj_of_nodup (·.1) hx.births he hy h
      subst this
      simp
    · rw [if_neg h]
      congr 2
      rw [Bool.eq_iff_iff]
      simp only [List.contains_iff_mem, List.mem_append, List.map_cons, List.map_nil, List.mem_singleton]
      exact ⟨fun q => q.resolve_right h, .inl⟩
  split
  · rename_i ho
    rw [Gw.View.delM_filter hx.names hy _ hl]
    apply List.filter_congr
    intro e he
    rw [hstep e he, ho]
    by_cases h : e.1 = y.1
    · have := Gw.Lists.inj_of_nodup (·.1) hx.births he hy h
      subst this
      simp
    · rw [if_neg h]
      have : e.2.1 ≠ y.2.1 := fun q => h (by rw [Gw.Lists.inj_of_nodup (·.2.1) hx.names he hy q])
      rw [decide_eq_false this, Bool.not_false, Bool.and_true]
  · rename_i ho
    apply List.filter_congr
    intro e he
    rw [hstep e he]
    by_cases h : e.1 = y.1
    · have := Gw.Lists.inj_of_nodup (·.1) hx.births he hy h
      subst this
      rw [if_pos rfl, hl]
      simpa using ho
    · rw [if_neg h]
theorem left_all {x : Nat × Gw.View.M} {outs : List Int} {v : Gw.View.M} (h : ∀ e ∈ x.2.filter (leftE outs v), e.1 ∈ v.map (·.1)) : x.2.filter (leftE outs v) = x.2.filter fun e => !outs.contains e.2.2.id := by
  apply List.filter_congr
  intro e he
  by_cases hin : e.1 ∈ v.map (·.1)
  · unfold leftE
    have : (v.map (·.1)).contains e.1 = true := by simpa using hin
    rw [this]; rfl
  · have hl : leftE outs v e = true := by
      unfold leftE
      have : (v.map (·.1)).contains e.1 = false := by rw [Bool.eq_false_iff]; intro q; exact hin (by simpa using q)
      rw [this]; rfl
    exact absurd (h e (List.mem_filter.2 ⟨he, hl⟩)) hin
theorem box_snoc (T : TypeId) (r : Nat) (A : List Gw.View.Item) (t : Gw.View.Item) : C.box T [V.lst (decide (A = []) && false) 3 (encIt A ++ [cellsI t]) (.brow r)] = C.box T [V.lst (decide (A ++ [t] = [])) 3 (encIt (A ++ [t])) (.brow r)] := by
  rw [Bool.and_false, decide_eq_false (by simp)]
  unfold encIt
  rw [List.map_append]
  rfl
theorem row_snoc (T : TypeId) (A : List Gw.View.Item) (t : Gw.View.Item) : C.row T 3 ((encIt A).length + 1) = C.row T 3 (A ++ [t]).length := by
  rw [encIt_len, List.length_append]
  rfl
theorem below_step (nil : Bool) (l : List Gw.Tree.Node) (c : Nat) (m : ZM) (dir : Int) (path : List UInt8) (sub : Int → List UInt8 → List Gw.View.Item) (hl : l.length ≤ 1000) (hi : ∀ n ∈ l, I64 n.id) (hs : ∀ n ∈ l, n.name.length ≤ 1000) (hp : path.length ≤ 2000000)
    (hsub : ∀ s n, Gw.View.findM s (Gw.View.inner l (outZ m) dir) = some n → Gw.Stamp.dir n.id = true → BelowDoes nil l c m n.id (Gw.View.pathOf path s) (sub n.id (Gw.View.pathOf path s))) :
    BelowDoes nil l c m dir path (Gw.View.levelF sub (Gw.View.inner l (outZ m) dir) path) := by
  intro acc hacc
  have hsn := seen_ac nil l dir (by omega)
  obtain ⟨hok, hmem⟩ := Gw.View.seen_ok l dir
  refine AC.of tabOk mixed (fn := Tryz.f47) (by kernel_rfl) rfl (by kernel_rfl) rfl rfl ?_
  conv => whnf
  refine AC.frame (es := []) trivial rfl (Nat.zero_le _) rfl hsn ?_
  rintro x es ⟨rfl, rfl⟩
  have hinner : Gw.View.inner l (outZ m) dir = (Gw.View.seen l dir).2.filter fun e => !(outZ m).contains e.2.2.id := rfl
  have hiok := Gw.View.inner_ok l (outZ m) dir
  have hidir : ∀ s n, Gw.View.findM s (Gw.View.inner l (outZ m) dir) = some n → n ∈ l ∧ s.length ≤ 1000 := fun s n hf => by
    obtain ⟨q1, _, q3, _⟩ := Gw.View.inner_find hf
    exact ⟨q1, by rw [← q3]; exact hs n q1⟩
  have hifind : ∀ s ∈ (Gw.View.inner l (outZ m) dir).map (·.2.1), ∃ n, Gw.View.findM s (Gw.View.inner l (outZ m) dir) = some n := fun s hsm => by
    obtain ⟨e, he, rfl⟩ := List.mem_map.1 hsm
    exact ⟨e.2.2, Gw.View.findM_of hiok.names he⟩
  have hilen : (Gw.View.inner l (outZ m) dir).length ≤ 1000 := by
    have := Gw.Lists.len_of_sub (l := (Gw.View.inner l (outZ m) dir).map (·.2.1)) (m := l.map (·.name)) hiok.names fun s hsm => by
      obtain ⟨n, hf⟩ := hifind s hsm
      obtain ⟨q1, _, q3, _⟩ := Gw.View.inner_find hf
      exact List.mem_map.2 ⟨n, q1, q3⟩
    rw [List.length_map, List.length_map] at this
    omega
  generalize Gw.View.seen l dir = S at *
  conv => whnf
  refine AM.range (kt := 9) (et := 53) (by kernel_rfl) rfl rfl (.inl rfl) ?_
  conv => whnf
  refine AW.loop (fun v : Gw.View.M => (.tmp 0, .v (.int .i64 dir)) :: (.tmp 1, .v (.str path)) :: (.tmp 2, .v (.ptr 0 0)) :: (.tmp 3, .v (.ptr 8 0)) :: (.tmp 4, .v (.ptr 15 0)) :: (.tmp 5, .v (.ptr 16 0)) :: (.tmp 8, .v (.mp 20)) :: (.tmp 19, .v (.it 23)) ::
    (.blk 20, .obj (.mp S.1 (encM (S.2.filter (leftE (outZ m) v))))) :: (.blk 23, .obj (.mit 20 S.1 (v.map (·.1)) S.1)) :: givenB nil l c m acc) 24
    (fun v => (v.map (·.1)).Nodup ∧ ∀ e ∈ v, e ∈ S.2) (fun v => S.2.length - v.length) (by decide) [] ⟨List.nodup_nil, fun e h => by cases h⟩ ⟨rfl, rfl, rfl, rfl, rfl, rfl, rfl, rfl, rfl, rfl, rfl, rfl, rfl, rfl, rfl, rfl, ?_, rfl, rfl, rfl, rfl, rfl, rfl, rfl, rfl, rfl, rfl, rfl, rfl, rfl, rfl, rfl, trivial⟩ ?_
  · have e : S.2.filter (leftE (outZ m) []) = S.2 := List.filter_eq_self.2 fun _ _ => rfl
    rw [e]
    rfl
  rintro v ⟨h1, h2⟩
  refine ev_sound tabOk mixed _ _ _ _ ?_
  conv => whnf
  have hvl : v.length ≤ S.2.length := Gw.Lists.len_of_sub (Gw.Lists.nodup_of_map _ h1) h2
  have hsub' : (S.2.filter (leftE (outZ m) v)).Sublist S.2 := List.filter_sublist
  refine AM.next rfl rfl rfl (.inl rfl) (fun e he => ?_) (Nat.le_refl _) (fun e he hns => ?_) (fun hall => ?_)
  · obtain ⟨y, hy, rfl⟩ := List.mem_map.1 he
    exact hok.born y (hsub'.mem hy)
  · obtain ⟨y, hy, rfl⟩ := List.mem_map.1 he
    have hyS : y ∈ S.2 := hsub'.mem hy
    have hns : y.1 ∉ v.map (·.1) := hns
    have hnd1 : ((v ++ [y]).map (·.1)).Nodup := by
      rw [List.map_append, List.nodup_append]
      exact ⟨h1, by simp, fun a ha b hb => by
        simp only [List.map_cons, List.map_nil, List.mem_singleton] at hb
        subst hb
        exact fun e => hns (e ▸ ha)⟩
    have hv2 : ∀ a ∈ v ++ [y], a ∈ S.2 := fun a ha => by
      rcases List.mem_append.1 ha with ha | ha
      · exact h2 a ha
      · rw [List.mem_singleton] at ha; subst ha; exact hyS
    have hlt : v.length < S.2.length := by
      have := Gw.Lists.len_of_sub (Gw.Lists.nodup_of_map _ hnd1) hv2
      rw [List.length_append, List.length_singleton] at this
      omega
    have hnd : ((encM (S.2.filter (leftE (outZ m) v))).map (·.1)).Nodup := by
      have : (encM (S.2.filter (leftE (outZ m) v))).map (·.1) = (S.2.filter (leftE (outZ m) v)).map (·.1) := by unfold encM; rw [List.map_map]; rfl
      rw [this]; exact (hsub'.map _).nodup hok.births
    have hdel := left_del hok (outs := outZ m) hyS hns
    conv => whnf
    repeat (first | refine ⟨fun _ => ?_, fun h => absurd h (by decide)⟩ | refine ⟨fun h => absurd h (by decide), fun _ => ?_⟩ | refine ⟨fun _ => ?_, fun h => absurd (show true = false from h) (by decide)⟩ | refine ⟨fun h => absurd (show false = true from h) (by decide), fun _ => ?_⟩
            (conv => whnf))
    refine AM.entry rfl rfl rfl (.inl rfl) rfl hnd (.str y.2.1, .agg (cellsN y.2.2)) he ?_
    conv => whnf
    refine AM.lookup tabOk (kt := 3) (et := 4) (d := .int .i64) (by kernel_rfl) (by kernel_rfl) rfl rfl (by kernel_rfl) rfl rfl (.inl rfl) rfl (encZM_kind m) (if (outZ m).contains y.2.2.id = true then some (.bool true) else none) (findE_z y.2.2.id m) ?_
    by_cases ho : (outZ m).contains y.2.2.id = true
    · rw [if_pos ho] at hdel ⊢
      conv => whnf
      repeat (first | refine ⟨fun _ => ?_, fun h => absurd h (by decide)⟩ | refine ⟨fun h => absurd h (by decide), fun _ => ?_⟩ | refine ⟨fun _ => ?_, fun h => absurd (show true = false from h) (by decide)⟩ | refine ⟨fun h => absurd (show false = true from h) (by decide), fun _ => ?_⟩
              (conv => whnf))
      refine AM.delete (kt := 9) (et := 53) (d := .string) (by kernel_rfl) (by kernel_rfl) rfl rfl rfl rfl rfl rfl rfl (encM_kind _) (encM (Gw.View.delM y.2.1 (S.2.filter (leftE (outZ m) v)))) (delE_enc _ _) ?_
      rw [hdel]
      conv => whnf
      refine ⟨v ++ [y], ⟨hnd1, hv2⟩, by show S.2.length - (v ++ [y]).length < S.2.length - v.length; rw [List.length_append, List.length_singleton]; omega, rfl, rfl, rfl, rfl, rfl, rfl, rfl, rfl, rfl, rfl, rfl, rfl, rfl, rfl, rfl, rfl, rfl, rfl, ?_, rfl, rfl, rfl, rfl, rfl, rfl, rfl, rfl, rfl, rfl, rfl, rfl, rfl, trivial⟩
      rw [List.map_append]; rfl
    · rw [if_neg ho] at hdel ⊢
      conv => whnf
      refine ⟨v ++ [y], ⟨hnd1, hv2⟩, by show S.2.length - (v ++ [y]).length < S.2.length - v.length; rw [List.length_append, List.length_singleton]; omega, rfl, rfl, rfl, rfl, rfl, rfl, rfl, rfl, rfl, rfl, rfl, rfl, rfl, rfl, rfl, rfl, ?_, rfl, ?_, rfl, rfl, rfl, rfl, rfl, rfl, rfl, rfl, rfl, rfl, rfl, rfl, rfl, trivial⟩
      · rw [← hdel]; rfl
      · rw [List.map_append]; rfl
  · have hin : S.2.filter (leftE (outZ m) v) = Gw.View.inner l (outZ m) dir := by
      rw [hinner]
      exact left_all fun e he => hall (e.1, .str e.2.1, .agg (cellsN e.2.2)) (List.mem_map.2 ⟨e, he, rfl⟩)
    rw [hin]
    obtain ⟨qn, hrp⟩ := rising_pm (S.1, Gw.View.inner l (outZ m) dir) hiok (by show (Gw.View.inner l (outZ m) dir).length ≤ _; omega) (fun e he => by
      obtain ⟨n, hf⟩ := hifind e.2.1 (List.mem_map.2 ⟨e, he, rfl⟩)
      have := (hidir _ _ hf).2; omega)
    unfold Gw.View.levelF at hacc ⊢
    have hns : ∀ s ∈ Gw.View.sortT ((Gw.View.inner l (outZ m) dir).map (·.2.1)), ∃ n, Gw.View.findM s (Gw.View.inner l (outZ m) dir) = some n := fun s hsm => hifind s ((Gw.View.sortT_perm _).mem_iff.1 hsm)
    have hnl : (Gw.View.sortT ((Gw.View.inner l (outZ m) dir).map (·.2.1))).length ≤ 1000 := by rw [(Gw.View.sortT_perm _).length_eq, List.length_map]; exact hilen
    simp only at hrp
    generalize Gw.View.sortT ((Gw.View.inner l (outZ m) dir).map (·.2.1)) = N at *
    generalize hI : Gw.View.inner l (outZ m) dir = I at *
    have hNl := encS1_len N
    conv => whnf
    repeat (first | refine ⟨fun _ => ?_, fun h => absurd h (by decide)⟩ | refine ⟨fun h => absurd h (by decide), fun _ => ?_⟩ | refine ⟨fun _ => ?_, fun h => absurd (show true = false from h) (by decide)⟩ | refine ⟨fun h => absurd (show false = true from h) (by decide), fun _ => ?_⟩
            (conv => whnf))
    refine AC.of_pm hrp rfl ?_
    conv => whnf
    refine AW.loop (fun k : Nat => (.tmp 1, .v (.str path)) :: (.tmp 4, .v (.ptr 15 0)) :: (.tmp 5, .v (.ptr 16 0)) :: (.tmp 8, .v (.mp 20)) :: (.tmp 32, .v (.lst qn 1 (encS1 N) .none)) :: (.tmp 33, .v (.int .i64 N.length)) :: (.tmp 34, .v (.int .i64 k)) ::
      (.blk 20, .obj (.mp S.1 (encM I))) :: givenB nil l c m (acc ++ (N.take k).flatMap (Gw.View.stepF sub I path))) 24
      (fun k => k ≤ N.length) (fun k => N.length - k) (by decide) 0 (Nat.zero_le _) ⟨rfl, rfl, rfl, rfl, rfl, rfl, rfl, rfl, rfl, rfl, ?_, rfl, rfl, rfl, rfl, rfl, rfl, rfl, rfl, rfl, rfl, rfl, ?_, rfl, ?_, rfl, rfl, rfl, trivial⟩ ?_
    · show C.v (V.int .i64 (encS1 N).length) = _
      rw [hNl]
    · rw [List.take_zero, List.flatMap_nil, List.append_nil]; rfl
    · rw [List.take_zero, List.flatMap_nil, List.append_nil]; rfl
    rintro k hk
    refine ev_sound tabOk mixed _ _ _ _ ?_
    conv => whnf
    refine ⟨fun h => ?_, fun h => ?_⟩
    · have h := of_decide_eq_true h
      have hlt : k < N.length := by omega
      have hg := encS1_get hlt
      obtain ⟨nd, hfd⟩ := hns N[k] (List.getElem_mem hlt)
      obtain ⟨hndl, hsl⟩ := hidir _ _ hfd
      have htk : (N.take (k + 1)).flatMap (Gw.View.stepF sub I path) = (N.take k).flatMap (Gw.View.stepF sub I path) ++ Gw.View.oneF sub path N[k] nd := by
        rw [List.take_succ_eq_append_getElem hlt, List.flatMap_append, List.flatMap_singleton]
        congr 1
        unfold Gw.View.stepF
        rw [hfd]
      have hdr := dir_pc nd.id (hi nd hndl)
      have hsubk := hsub N[k] nd hfd
      have hle : acc.length + ((N.take (k + 1)).flatMap (Gw.View.stepF sub I path)).length ≤ 1048576 := by
        have : ((N.take (k + 1)).flatMap (Gw.View.stepF sub I path)).length ≤ (N.flatMap (Gw.View.stepF sub I path)).length := by
          conv => rhs; rw [← List.take_append_drop (k + 1) N, List.flatMap_append, List.length_append]
          omega
        omega
      rw [htk] at hle
      generalize hA : acc ++ (N.take k).flatMap (Gw.View.stepF sub I path) = A at *
      have hAl : A.length = acc.length + ((N.take k).flatMap (Gw.View.stepF sub I path)).length := by rw [← hA, List.length_append]
      rw [List.length_append] at hle
      have hA2 : acc ++ (N.take (k + 1)).flatMap (Gw.View.stepF sub I path) = A ++ Gw.View.oneF sub path N[k] nd := by rw [htk, ← hA, List.append_assoc]
      generalize N[k] = s at *
      have hAe := encIt_len A
      have w1 : IntKind.i64.wrap ((k : Int) + 1) = ((k + 1 : Nat) : Int) := by rw [w64 (by omega) (by omega)]; rfl
      conv => whnf
      refine ⟨_, ⟨by omega, hg⟩, ?_⟩
      conv => whnf
      refine AM.lookup tabOk (kt := 9) (et := 53) (d := .string) (by kernel_rfl) (by kernel_rfl) rfl rfl (by kernel_rfl) rfl rfl (.inl rfl) rfl (encM_kind _) ((Gw.View.findM s I).map fun n => .agg (cellsN n)) (findE_enc s I) ?_
      rw [hfd, Option.map_some]
      have hpth : path ++ (ByteArray.mk #[47]).data.toList ++ s = Gw.View.pathOf path s := rfl
      have hpl : (path ++ (ByteArray.mk #[47]).data.toList).length = path.length + 1 := List.length_append
      conv => whnf
      refine ⟨by show path.length + 1 < _; omega, ?_⟩
      conv => whnf
      refine ⟨by rw [hpl]; omega, ?_⟩
      conv => whnf
      rw [hpth]
      generalize hP : Gw.View.pathOf path s = P at *
      refine ⟨⟨hAe.symm, fits_small (by show (encIt A).length + 1 ≤ _; omega) (by decide)⟩, ?_⟩
      conv => whnf
      refine AC.of_pc hdr rfl ?_
      unfold Gw.View.oneF at hA2 hle
      rw [hP] at hA2 hle
      cases hd : Gw.Stamp.dir nd.id with
      | false =>
        rw [hd, if_neg (by decide)] at hA2
        conv => whnf
        repeat (first | refine ⟨fun _ => ?_, fun h => absurd h (by decide)⟩ | refine ⟨fun h => absurd h (by decide), fun _ => ?_⟩ | refine ⟨fun _ => ?_, fun h => absurd (show true = false from h) (by decide)⟩ | refine ⟨fun h => absurd (show false = true from h) (by decide), fun _ => ?_⟩
                (conv => whnf))
        refine ⟨k + 1, hlt, by show N.length - (k + 1) < N.length - k; omega, rfl, rfl, rfl, rfl, rfl, rfl, rfl, rfl, rfl, rfl, rfl, rfl, ?_, rfl, rfl, rfl, rfl, rfl, rfl, rfl, rfl, rfl, ?_, rfl, ?_, rfl, rfl, rfl, trivial⟩
        · show C.v (V.int .i64 (IntKind.i64.wrap ((k : Int) + 1))) = _
          rw [w1]
        · rw [hA2]
          exact box_snoc _ _ A ⟨P, nd.id, nd.data⟩
        · rw [hA2]
          exact row_snoc _ A ⟨P, nd.id, nd.data⟩
      | true =>
        rw [hd, if_pos rfl] at hA2 hle
        conv => whnf
        repeat (first | refine ⟨fun _ => ?_, fun h => absurd h (by decide)⟩ | refine ⟨fun h => absurd h (by decide), fun _ => ?_⟩ | refine ⟨fun _ => ?_, fun h => absurd (show true = false from h) (by decide)⟩ | refine ⟨fun h => absurd (show false = true from h) (by decide), fun _ => ?_⟩
                (conv => whnf))
        have hrec := hsubk hd (A ++ [Gw.View.Item.mk P nd.id nd.data]) (by
          rw [List.length_append, List.length_singleton]
          rw [List.length_cons] at hle
          omega)
        refine AC.frame (es := givenB nil l c m (A ++ [Gw.View.Item.mk P nd.id nd.data])) (m := 18) ⟨rfl, rfl, rfl, rfl, rfl, rfl, ?_, rfl, ?_, rfl, rfl, rfl, trivial⟩ rfl (by decide) rfl hrec ?_
        · exact box_snoc _ _ A ⟨P, nd.id, nd.data⟩
        · exact row_snoc _ A ⟨P, nd.id, nd.data⟩
        rintro x es ⟨rfl, rfl⟩
        rw [show A ++ Gw.View.Item.mk P nd.id nd.data :: sub nd.id P = A ++ [⟨P, nd.id, nd.data⟩] ++ sub nd.id P by simp] at hA2
        conv => whnf
        refine ⟨k + 1, hlt, by show N.length - (k + 1) < N.length - k; omega, rfl, rfl, rfl, rfl, rfl, rfl, rfl, rfl, rfl, rfl, rfl, rfl, ?_, rfl, rfl, rfl, rfl, rfl, rfl, rfl, rfl, rfl, ?_, rfl, ?_, rfl, rfl, rfl, trivial⟩
        · show C.v (V.int .i64 (IntKind.i64.wrap ((k : Int) + 1))) = _
          rw [w1]
        · rw [hA2]; rfl
        · rw [hA2]; rfl
    · have h := of_decide_eq_false h
      obtain rfl : k = N.length := by omega
      rw [List.take_length]
      conv => whnf
      exact ⟨_, _, ⟨rfl, rfl⟩, rfl, ⟨rfl, rfl⟩, rfl, rfl, rfl, rfl, rfl, rfl, rfl, rfl, rfl, rfl, rfl, rfl, trivial⟩
end Go.Proofs.YtipgfdepopfghaaGreat


namespace Go.Proofs.YtipgfdepopfghaaGreat
open Go.Am

theorem below_rec (nil : Bool) {l : List Gw.Tree.Node} (hc : Gw.Tree.check l = true) (c : Nat) (m : ZM) (hl : l.length ≤ 1000) (hi : ∀ n ∈ l, I64 n.id) (hs : ∀ n ∈ l, n.name.length ≤ 1000) {top : Int} (ht : top ∈ outZ m) :
    ∀ (f : Nat) {ids : List Int} {dir : Int} {path : List UInt8}, Gw.View.Way l (outZ m) top ids dir → l.length ≤ ids.length + f → path.length ≤ 1001 * ids.length → BelowDoes nil l c m dir path (Gw.View.belowF l (outZ m) f dir path)
  | 0, ids, dir, path, hw, hf, hp => by
    have hil := hw.len hc ht
    have he : Gw.View.inner l (outZ m) dir = [] := List.eq_nil_iff_forall_not_mem.2 fun e he => by
      obtain ⟨_, h1, h2, _, h4⟩ := Gw.View.inner_mem he
      have hpd : e.2.2.parent = dir := by
        unfold Gw.View.inDir at h2
        simp only [Bool.and_eq_true, decide_eq_true_eq] at h2
        exact h2.1
      have := (Gw.View.Way.down hw h1 hpd h4).len hc ht
      rw [List.length_append, List.length_singleton] at this
      omega
    have hb := below_step nil l c m dir path (fun _ _ => []) hl hi hs (by omega) (fun s n hf => by rw [he] at hf; cases hf)
    rw [he] at hb
    exact hb
  | f + 1, ids, dir, path, hw, hf, hp => by
    have hil := hw.len hc ht
    refine below_step nil l c m dir path (Gw.View.belowF l (outZ m) f) hl hi hs (by omega) fun s n hfd _ => ?_
    obtain ⟨h1, h2, h3, h4⟩ := Gw.View.inner_find hfd
    have hpd : n.parent = dir := by
      unfold Gw.View.inDir at h2
      simp only [Bool.and_eq_true, decide_eq_true_eq] at h2
      exact h2.1
    have hsl : s.length ≤ 1000 := by rw [← h3]; exact hs n h1
    refine below_rec nil hc c m hl hi hs ht f (.down hw h1 hpd h4) (by rw [List.length_append, List.length_singleton]; omega) ?_
    unfold Gw.View.pathOf
    simp only [List.length_append, List.length_singleton]
    omega
/-- One more number is out. -/
def putZ (x : Nat × ZM) (z : Int) : Nat × ZM := if (outZ x.2).contains z = true then x else (x.1 + 1, x.2 ++ [(x.1, z)])
def putZR (z : Int) : ZM → Option Es := fun m => if (outZ m).contains z = true then some (encZM m) else none
theorem putE_z (z : Int) : ∀ m : ZM, putE (.int .i64 z) (.bool true) (encZM m) = putZR z m
  | [] => rfl
  | e :: m => by
    show (match sameK (.int .i64 e.2) (.int .i64 z) with | true => some _ | false => match putE (.int .i64 z) (.bool true) (encZM m) with | some l => some _ | none => none) = _
    rw [putE_z z m]
    unfold putZR
    simp only [sameK, outZ, List.map_cons, List.contains_cons]
    by_cases h : e.2 = z
    · subst h
      rw [decide_eq_true rfl, beq_self_eq_true, Bool.true_or, if_pos rfl]
      rfl
    · have h2 : (z == e.2) = false := by simpa using fun q => h q.symm
      rw [decide_eq_false h, h2, Bool.false_or]
      show (match (if (List.map (·.2) m).contains z = true then some (encZM m) else none) with | some l => some _ | none => none) = _
      by_cases hq : (List.map (·.2) m).contains z = true
      · rw [if_pos hq, if_pos hq]; rfl
      · rw [if_neg hq, if_neg hq]
theorem putR_z (x : Nat × ZM) (z : Int) : putR x.1 (encZM x.2) (.int .i64 z) (.bool true) (putZR z x.2) = .mp (putZ x z).1 (encZM (putZ x z).2) := by
  unfold putZ putZR
  split
  · rfl
  · show Ob.mp (x.1 + 1) (encZM x.2 ++ [_]) = Ob.mp (x.1 + 1) (encZM (x.2 ++ [_]))
    unfold encZM
    rw [List.map_append]
    rfl
theorem putZ_mem (x : Nat × ZM) (z y : Int) : (outZ (putZ x z).2).contains y = ((outZ x.2).contains y || y == z) := by
  unfold putZ
  split
  · rename_i h
    by_cases hy : y = z
    · subst hy; rw [h]; simp
    · have : (y == z) = false := by simpa using hy
      rw [this, Bool.or_false]
  · unfold outZ
    rw [List.map_append, List.contains_append]
    simp
    rfl
def outsM (zs : List Int) : Nat × ZM := zs.foldl putZ (0, [])
theorem outsM_mem (zs : List Int) (y : Int) : (outZ (outsM zs).2).contains y = zs.contains y := by
  have key : ∀ (zs : List Int) (x : Nat × ZM), (outZ (zs.foldl putZ x).2).contains y = ((outZ x.2).contains y || zs.contains y) := by
    intro zs
    induction zs with
    | nil => intro x; simp
    | cons z zs ih =>
      intro x
      rw [List.foldl_cons, ih, putZ_mem, List.contains_cons, Bool.or_assoc]
  exact key zs (0, [])
theorem belowF_congr {l : List Gw.Tree.Node} {o o' : List Int} (h : ∀ y, o.contains y = o'.contains y) (f : Nat) : Gw.View.belowF l o f = Gw.View.belowF l o' f := by
  have hin : ∀ dir, Gw.View.inner l o dir = Gw.View.inner l o' dir := fun dir => by
    unfold Gw.View.inner
    apply List.filter_congr
    intro e _
    rw [h]
  induction f with
  | zero => rfl
  | succ f ih =>
    funext dir path
    rw [Gw.View.belowF, Gw.View.belowF, ih, hin]
theorem vItems_pc (nil : Bool) (l : List Gw.Tree.Node) (dir : Int) (hi : ∀ n ∈ l, I64 n.id) (hl : l.length ≤ 1000) (hs : ∀ n ∈ l, n.name.length ≤ 1000) :
    PC Tryz.prog 23 [.lst nil 8 (encN l) .none, .int .i64 dir] (.lst (decide (Gw.View.items l dir = [])) 3 (encIt (Gw.View.items l dir)) .none) := by
  have hck := treeCheck_pc nil l hi (by omega)
  have hab := tAbove_pc nil l dir hi (by omega)
  unfold Gw.View.items
  refine PC.of_pr (PR.ofA tabOk (fn := Tryz.f23) (by kernel_rfl) rfl (by kernel_rfl) rfl rfl ?_)
  refine AW.seq (ev_sound tabOk mixed _ _ _ _ ?_)
  conv => whnf
  refine AW.seq (ev_sound tabOk mixed _ _ _ _ ?_)
  conv => whnf
  refine AC.of_pc hck rfl ?_
  cases hc : Gw.Tree.check l with
  | false =>
    conv => whnf
    repeat (first | refine ⟨fun _ => ?_, fun h => absurd h (by decide)⟩ | refine ⟨fun h => absurd h (by decide), fun _ => ?_⟩ | refine ⟨fun _ => ?_, fun h => absurd (show true = false from h) (by decide)⟩ | refine ⟨fun h => absurd (show false = true from h) (by decide), fun _ => ?_⟩
            (conv => whnf))
    exact ⟨_, SubV.nil _ _ _, SubV.refl _⟩
  | true =>
  rw [if_pos rfl]
  conv => whnf
  repeat (first | refine ⟨fun _ => ?_, fun h => absurd h (by decide)⟩ | refine ⟨fun h => absurd h (by decide), fun _ => ?_⟩ | refine ⟨fun _ => ?_, fun h => absurd (show true = false from h) (by decide)⟩ | refine ⟨fun h => absurd (show false = true from h) (by decide), fun _ => ?_⟩
          (conv => whnf))
  refine AW.seq (ev_sound tabOk mixed _ _ _ _ ?_)
  conv => whnf
  refine AM.makeMap rfl ?_
  conv => whnf
  refine AM.update (kt := 3) (et := 4) (d := .int .i64) (by kernel_rfl) (by kernel_rfl) (.inr rfl) rfl rfl rfl rfl (fun e h => by cases h) none rfl ?_
  conv => whnf
  refine AW.seq (ev_sound tabOk mixed _ _ _ _ ?_)
  conv => whnf
  refine AC.of_pc hab rfl ?_
  have hlo : (Gw.Tree.above l dir).length ≤ l.length := by unfold Gw.Tree.above; rw [hc, if_pos rfl]; exact Gw.Tree.climb_len l _ _
  have hlz := encZ_len (Gw.Tree.above l dir)
  generalize hZs : Gw.Tree.above l dir = Zs at *
  conv => whnf
  refine AW.loop (fun k : Nat => [(.tmp 1, .v (.int .i64 dir)), (.tmp 2, .v (.ptr 0 0)), (.tmp 5, .v (.ptr 8 0)), (.tmp 18, .v (.lst (decide (Zs = [])) 1 (encZ Zs) .none)), (.tmp 19, .v (.int .i64 Zs.length)), (.tmp 20, .v (.int .i64 k)),
    (.blk 0, .box 22 [.lst nil 8 (encN l) .none]), (.blk 4, .obj (.mp (outsM (dir :: Zs.take k)).1 (encZM (outsM (dir :: Zs.take k)).2))), (.blk 8, .box 81 [.mp 4])]) 14
    (fun k => k ≤ Zs.length) (fun k => Zs.length - k) (by decide) 0 (Nat.zero_le _) ⟨rfl, rfl, rfl, rfl, rfl, rfl, rfl, rfl, ?_, rfl, rfl, rfl, rfl, rfl, ?_, rfl, rfl, rfl, trivial⟩ ?_
  · show C.v (V.int .i64 (encZ Zs).length) = _
    rw [hlz]
  · rw [List.take_zero]; rfl
  rintro k hk
  refine ev_sound tabOk mixed _ _ _ _ ?_
  conv => whnf
  refine ⟨fun h => ?_, fun h => ?_⟩
  · have h := of_decide_eq_true h
    have hlt : k < Zs.length := by omega
    have hg := encZ_get hlt
    have hstep : outsM (dir :: Zs.take (k + 1)) = putZ (outsM (dir :: Zs.take k)) Zs[k] := by
      unfold outsM
      rw [List.take_succ_eq_append_getElem hlt, ← List.cons_append, List.foldl_append]
      rfl
    generalize outsM (dir :: Zs.take k) = S at *
    conv => whnf
    refine ⟨_, ⟨by omega, hg⟩, ?_⟩
    conv => whnf
    refine AM.update (kt := 3) (et := 4) (d := .int .i64) (by kernel_rfl) (by kernel_rfl) (.inl rfl) rfl rfl rfl rfl (encZM_kind _) (putZR Zs[k] S.2) (putE_z _ _) ?_
    conv => whnf
    refine ⟨k + 1, hlt, by show Zs.length - (k + 1) < Zs.length - k; omega, rfl, rfl, rfl, rfl, rfl, rfl, rfl, rfl, rfl, rfl, ?_, rfl, rfl, rfl, ?_, rfl, rfl, rfl, trivial⟩
    · show C.v (V.int .i64 (IntKind.i64.wrap ((k : Int) + 1))) = _
      rw [w64 (by omega) (by omega)]; rfl
    · rw [hstep]
      exact congrArg C.obj (putR_z S Zs[k])
  · have h := of_decide_eq_false h
    obtain rfl : k = Zs.length := by omega
    rw [List.take_length]
    have hmem := outsM_mem (dir :: Zs)
    have ht : dir ∈ outZ (outsM (dir :: Zs)).2 := by
      have := hmem dir
      rw [List.contains_cons, beq_self_eq_true, Bool.true_or] at this
      simpa using this
    have hbr := below_rec nil hc (outsM (dir :: Zs)).1 (outsM (dir :: Zs)).2 hl hi hs ht l.length (.top) (by rw [List.length_nil]; omega) (path := []) (Nat.zero_le _)
    have hlen := Gw.View.belowF_len hc ht l.length (.top) (path := [])
    rw [belowF_congr hmem] at hbr hlen
    have hou : Gw.View.outsOf l dir = dir :: Zs := by unfold Gw.View.outsOf; rw [hZs]
    rw [hou]
    generalize Gw.View.belowF l (dir :: Zs) l.length dir [] = R at *
    generalize outsM (dir :: Zs) = S at *
    conv => whnf
    refine AW.seq (ev_sound tabOk mixed _ _ _ _ ?_)
    conv => whnf
    refine AW.seq (ev_sound tabOk mixed _ _ _ _ ?_)
    conv => whnf
    refine AW.rowC 15 59 3 rfl ?_
    refine ev_sound tabOk mixed _ _ _ _ ?_
    have hb0 := hbr [] (by rw [List.length_nil]; omega)
    rw [List.nil_append] at hb0
    conv => whnf
    refine AC.frame (es := givenB nil l S.1 S.2 []) (m := 18) ⟨rfl, rfl, rfl, rfl, rfl, rfl, rfl, rfl, rfl, rfl, rfl, rfl, trivial⟩ rfl (by decide) rfl hb0 ?_
    rintro x es ⟨rfl, rfl⟩
    conv => whnf
    exact ⟨_, SubV.refl _, SubV.refl _⟩
theorem items_len (l : List Gw.Tree.Node) (dir : Int) : (Gw.View.items l dir).length ≤ l.length := by
  unfold Gw.View.items
  split
  · rename_i hc
    exact Gw.View.belowF_len hc (by unfold Gw.View.outsOf; exact List.mem_cons_self) _ .top
  · exact Nat.zero_le _
end Go.Proofs.YtipgfdepopfghaaGreat


namespace Go.Proofs.YtipgfdepopfghaaGreat
open Go.Am

def shortN (n : Gw.Tree.Node) : Bool := decide (n.name.length ≤ 1000) && decide (n.data.length ≤ 1000)
def fewN (l : List Gw.Tree.Node) (most : Nat) : Bool := l.all shortN && decide (l.length ≤ most)
theorem fewN_spec {l : List Gw.Tree.Node} {most : Nat} (h : fewN l most = true) : l.length ≤ most ∧ ∀ n ∈ l, n.name.length ≤ 1000 ∧ n.data.length ≤ 1000 := by
  unfold fewN at h
  simp only [Bool.and_eq_true, decide_eq_true_eq] at h
  refine ⟨h.2, fun n hn => ?_⟩
  have := List.all_eq_true.1 h.1 n hn
  unfold shortN at this
  simpa using this
theorem fewN_pc (nil : Bool) (l : List Gw.Tree.Node) (most : Nat) (hl : l.length ≤ 9223372036854775807) : PC Tryz.prog 28 [.lst nil 8 (encN l) .none, .int .i64 most] (.bool (fewN l most)) := by
  have hel := encN_len l
  refine PC.of tabOk mixed (fn := Tryz.f28) (by kernel_rfl) rfl (by kernel_rfl) rfl rfl ?_
  conv => whnf
  refine AW.loop (fun k : Nat => [(.tmp 0, .v (.lst nil 8 (encN l) .none)), (.tmp 1, .v (.int .i64 most)), (.tmp 5, .v (.int .i64 k))]) 0
    (fun k => k ≤ l.length ∧ (l.take k).all shortN = true) (fun k => l.length - k) (by decide) 0 ⟨Nat.zero_le _, rfl⟩ ⟨rfl, rfl, rfl, rfl, rfl, rfl, trivial⟩ ?_
  rintro k ⟨hk, hall⟩
  refine ev_sound tabOk mixed _ _ _ _ ?_
  conv => whnf
  rw [hel]
  refine ⟨fun h => ?_, fun h => ?_⟩
  · have h := of_decide_eq_true h
    have hlt : k < l.length := by omega
    have hg := encN_get hlt
    have hbad : shortN l[k] = false → fewN l most = false := fun hs => by
      unfold fewN
      have : l.all shortN = false := by
        rw [Bool.eq_false_iff]; intro h2
        rw [List.all_eq_true.1 h2 _ (List.getElem_mem hlt)] at hs; cases hs
      rw [this, Bool.false_and]
    have hstep : shortN l[k] = true → (l.take (k + 1)).all shortN = true := fun hs => by
      rw [List.take_succ_eq_append_getElem hlt, List.all_append, hall]
      simp [hs]
    generalize l[k] = nd at *
    conv => whnf
    refine ⟨_, ⟨by omega, hg⟩, ?_⟩
    conv => whnf
    refine ⟨fun h => ?_, fun h => ?_⟩
    · have h := of_decide_eq_true h
      rw [hbad (by unfold shortN; rw [decide_eq_false (by omega), Bool.false_and])]
      conv => whnf
    · have h := of_decide_eq_false h
      conv => whnf
      refine ⟨_, ⟨by omega, hg⟩, ?_⟩
      conv => whnf
      refine ⟨fun h2 => ?_, fun h2 => ?_⟩
      · have h2 := of_decide_eq_true h2
        rw [hbad (by unfold shortN; rw [decide_eq_false (p := nd.data.length ≤ 1000) (by omega), Bool.and_false])]
        conv => whnf
      · have h2 := of_decide_eq_false h2
        conv => whnf
        refine ⟨k + 1, ⟨by omega, hstep (by unfold shortN; rw [decide_eq_true (by omega), decide_eq_true (by omega)]; rfl)⟩, by show l.length - (k + 1) < l.length - k; omega, rfl, rfl, rfl, rfl, ?_, rfl, trivial⟩
        show C.v (V.int .i64 (IntKind.i64.wrap ((k : Int) + 1))) = _
        rw [w64 (by omega) (by omega)]; rfl
  · have h := of_decide_eq_false h
    obtain rfl : k = l.length := by omega
    rw [List.take_length] at hall
    unfold fewN
    rw [hall, Bool.true_and]
    conv => whnf
    rw [hel]
    congr 1
    rw [Bool.eq_iff_iff, decide_eq_true_eq, decide_eq_true_eq]
    omega
end Go.Proofs.YtipgfdepopfghaaGreat
