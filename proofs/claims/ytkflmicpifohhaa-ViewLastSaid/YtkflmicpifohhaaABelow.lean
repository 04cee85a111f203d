/- What is seen below a directory, laid behind what was seen: told without addresses. No claim of its own. -/
import Derived.Test.YtkflmicpifohhaaARising
import Derived.Test.YtkflmicpifohhaaATree3
import Derived.Test.YtkflmicpifohhaaItemsLaw
namespace Go.Proofs.Ytkflmicpifohhaa
open Go.Am

def cellsI (t : Gw.View.Item) : List V := [.str t.path, .int .i64 t.id, .str t.data]
def encIt (l : List Gw.View.Item) : List (List V) := l.map cellsI
theorem encIt_len (l : List Gw.View.Item) : (encIt l).length = l.length := by simp [encIt]
/-- Numbers that are out, with when they came. -/
abbrev ZM := List (Nat × Int)
def encZM (m : ZM) : Es := m.map fun e => (e.1, .int .i64 e.2, .bool true)
def outZ (m : ZM) : List Int := m.map (·.2)
theorem findE_z (z : Int) : ∀ m : ZM, findE (.int .i64 z) (encZM m) = if (outZ m).contains z = true then some (.bool true) else none
  | [] => rfl
  | e :: m => by
    show (match sameK (.int .i64 e.2) (.int .i64 z) with | true => some (V.bool true) | false => findE (.int .i64 z) (encZM m)) = _
    rw [findE_z z m]
    simp only [sameK, outZ, List.map_cons, List.contains_cons]
    by_cases h : e.2 = z
    · simp [h]
    · have h2 : (z == e.2) = false := by simpa using fun q => h q.symm
      rw [decide_eq_false h, h2, Bool.false_or]
      rfl
theorem encZM_kind (m : ZM) : ∀ e ∈ encZM m, kindIs (.int .i64) e.2.1 := fun e h => by
  obtain ⟨x, _, rfl⟩ := List.mem_map.1 h
  rfl
/-- The blocks that 'below' is given. -/
abbrev givenB (nil : Bool) (l : List Gw.Tree.Node) (c : Nat) (m : ZM) (acc : List Gw.View.Item) : List (Am.Loc × C) :=
  [(.blk 0, .box 25 [.lst nil 8 (encN l) .none]), (.blk 4, .obj (.mp c (encZM m))), (.blk 8, .box 70 [.mp 4]),
    (.blk 15, .box 27 [.lst (decide (acc = [])) 3 (encIt acc) (.brow 17)]), (.row 17, .row 32 3 acc.length),
    (.blk 16, .box 73 [.func 35 [] [.ptr 0 0, .ptr 8 0, .ptr 15 0, .ptr 16 0]])]
/-- 'below' does that, from there. -/
def BelowDoes (nil : Bool) (l : List Gw.Tree.Node) (c : Nat) (m : ZM) (dir : Int) (path : List UInt8) (res : List Gw.View.Item) : Prop := ∀ acc : List Gw.View.Item, acc.length + res.length ≤ 1048576 →
  AC Try.prog 35 [.int .i64 dir, .str path, .ptr 0 0, .ptr 8 0, .ptr 15 0, .ptr 16 0] (ofL (givenB nil l c m acc)) 18
    (givenK 18 fun x es => x = .val (.tup []) ∧ es = givenB nil l c m (acc ++ res))
/-- Is an entry still there, when some have been looked at? -/
def leftE (outs : List Int) (v : Gw.View.M) (e : Nat × List UInt8 × Gw.Tree.Node) : Bool := !(v.map (·.1)).contains e.1 || !outs.contains e.2.2.id
theorem left_del {x : Nat × Gw.View.M} (hx : Gw.View.MOk x) {outs : List Int} {v : Gw.View.M} {y : Nat × List UInt8 × Gw.Tree.Node} (hy : y ∈ x.2) (hns : y.1 ∉ v.map (·.1)) :
    (if outs.contains y.2.2.id = true then Gw.View.delM y.2.1 (x.2.filter (leftE outs v)) else x.2.filter (leftE outs v)) = x.2.filter (leftE outs (v ++ [y])) := by
  have hc : (v.map (·.1)).contains y.1 = false := by rw [Bool.eq_false_iff]; intro h; exact hns (by simpa using h)
  have hl : leftE outs v y = true := by unfold leftE; rw [hc]; rfl
  have hstep : ∀ e ∈ x.2, leftE outs (v ++ [y]) e = (if e.1 = y.1 then !outs.contains y.2.2.id else leftE outs v e) := fun e he => by
    unfold leftE
    rw [List.map_append]
    by_cases h : e.1 = y.1
    · have := Gw.Lists.inj_of_nodup (·.1) hx.births he hy h
      subst this
      simp
    · rw [if_neg h]
      congr 2
      rw [Bool.eq_iff_iff]
      simp only [List.contains_iff_mem, List.mem_append, List.map_cons, List.map_nil, List.mem_singleton]
      exact ⟨fun q => q.resolve_right h, .inl⟩
  split
  · rename_i ho
    rw [Gw.View.delM_filter hx.names hy _ hl]
    apply List.filter_congr
    intro e he
    rw [hstep e he, ho]
    by_cases h : e.1 = y.1
    · have := Gw.Lists.inj_of_nodup (·.1) hx.births he hy h
      subst this
      simp
    · rw [if_neg h]
      have : e.2.1 ≠ y.2.1 := fun q => h (by rw [Gw.Lists.inj_of_nodup (·.2.1) hx.names he hy q])
      rw [decide_eq_false this, Bool.not_false, Bool.and_true]
  · rename_i ho
    apply List.filter_congr
    intro e he
    rw [hstep e he]
    by_cases h : e.1 = y.1
    · have := Gw.Lists.inj_of_nodup (·.1) hx.births he hy h
      subst this
      rw [if_pos rfl, hl]
      simpa using ho
    · rw [if_neg h]
theorem left_all {x : Nat × Gw.View.M} {outs : List Int} {v : Gw.View.M} (h : ∀ e ∈ x.2.filter (leftE outs v), e.1 ∈ v.map (·.1)) : x.2.filter (leftE outs v) = x.2.filter fun e => !outs.contains e.2.2.id := by
  apply List.filter_congr
  intro e he
  by_cases hin : e.1 ∈ v.map (·.1)
  · unfold leftE
    have : (v.map (·.1)).contains e.1 = true := by simpa using hin
    rw [this]; rfl
  · have hl : leftE outs v e = true := by
      unfold leftE
      have : (v.map (·.1)).contains e.1 = false := by rw [Bool.eq_false_iff]; intro q; exact hin (by simpa using q)
      rw [this]; rfl
    exact absurd (h e (List.mem_filter.2 ⟨he, hl⟩)) hin
theorem box_snoc (T : TypeId) (r : Nat) (A : List Gw.View.Item) (t : Gw.View.Item) : C.box T [V.lst (decide (A = []) && false) 3 (encIt A ++ [cellsI t]) (.brow r)] = C.box T [V.lst (decide (A ++ [t] = [])) 3 (encIt (A ++ [t])) (.brow r)] := by
  rw [Bool.and_false, decide_eq_false (by simp)]
  unfold encIt
  rw [List.map_append]
  rfl
theorem row_snoc (T : TypeId) (A : List Gw.View.Item) (t : Gw.View.Item) : C.row T 3 ((encIt A).length + 1) = C.row T 3 (A ++ [t]).length := by
  rw [encIt_len, List.length_append]
  rfl
theorem below_step (nil : Bool) (l : List Gw.Tree.Node) (c : Nat) (m : ZM) (dir : Int) (path : List UInt8) (sub : Int → List UInt8 → List Gw.View.Item) (hl : l.length ≤ 1000) (hi : ∀ n ∈ l, I64 n.id) (hs : ∀ n ∈ l, n.name.length ≤ 1000) (hp : path.length ≤ 2000000)
    (hsub : ∀ s n, Gw.View.findM s (Gw.View.inner l (outZ m) dir) = some n → Gw.Stamp.dir n.id = true → BelowDoes nil l c m n.id (Gw.View.pathOf path s) (sub n.id (Gw.View.pathOf path s))) :
    BelowDoes nil l c m dir path (Gw.View.levelF sub (Gw.View.inner l (outZ m) dir) path) := by
  intro acc hacc
  have hsn := seen_ac nil l dir (by omega)
  obtain ⟨hok, hmem⟩ := Gw.View.seen_ok l dir
  refine AC.of tabOk mixed (fn := Try.f35) (by kernel_rfl) rfl (by kernel_rfl) rfl rfl ?_
  conv => whnf
  refine AC.frame (es := []) trivial rfl (Nat.zero_le _) rfl hsn ?_
  rintro x es ⟨rfl, rfl⟩
  have hinner : Gw.View.inner l (outZ m) dir = (Gw.View.seen l dir).2.filter fun e => !(outZ m).contains e.2.2.id := rfl
  have hiok := Gw.View.inner_ok l (outZ m) dir
  have hidir : ∀ s n, Gw.View.findM s (Gw.View.inner l (outZ m) dir) = some n → n ∈ l ∧ s.length ≤ 1000 := fun s n hf => by
    obtain ⟨q1, _, q3, _⟩ := Gw.View.inner_find hf
    exact ⟨q1, by rw [← q3]; exact hs n q1⟩
  have hifind : ∀ s ∈ (Gw.View.inner l (outZ m) dir).map (·.2.1), ∃ n, Gw.View.findM s (Gw.View.inner l (outZ m) dir) = some n := fun s hsm => by
    obtain ⟨e, he, rfl⟩ := List.mem_map.1 hsm
    exact ⟨e.2.2, Gw.View.findM_of hiok.names he⟩
  have hilen : (Gw.View.inner l (outZ m) dir).length ≤ 1000 := by
    have := Gw.Lists.len_of_sub (l := (Gw.View.inner l (outZ m) dir).map (·.2.1)) (m := l.map (·.name)) hiok.names fun s hsm => by
      obtain ⟨n, hf⟩ := hifind s hsm
      obtain ⟨q1, _, q3, _⟩ := Gw.View.inner_find hf
      exact List.mem_map.2 ⟨n, q1, q3⟩
    rw [List.length_map, List.length_map] at this
    omega
  generalize Gw.View.seen l dir = S at *
  conv => whnf
  refine AM.range (kt := 9) (et := 43) (by kernel_rfl) rfl rfl (.inl rfl) ?_
  conv => whnf
  refine AW.loop (fun v : Gw.View.M => (.tmp 0, .v (.int .i64 dir)) :: (.tmp 1, .v (.str path)) :: (.tmp 2, .v (.ptr 0 0)) :: (.tmp 3, .v (.ptr 8 0)) :: (.tmp 4, .v (.ptr 15 0)) :: (.tmp 5, .v (.ptr 16 0)) :: (.tmp 8, .v (.mp 20)) :: (.tmp 19, .v (.it 23)) ::
    (.blk 20, .obj (.mp S.1 (encM (S.2.filter (leftE (outZ m) v))))) :: (.blk 23, .obj (.mit 20 S.1 (v.map (·.1)) S.1)) :: givenB nil l c m acc) 24
    (fun v => (v.map (·.1)).Nodup ∧ ∀ e ∈ v, e ∈ S.2) (fun v => S.2.length - v.length) (by decide) [] ⟨List.nodup_nil, fun e h => by cases h⟩ ⟨rfl, rfl, rfl, rfl, rfl, rfl, rfl, rfl, rfl, rfl, rfl, rfl, rfl, rfl, rfl, rfl, ?_, rfl, rfl, rfl, rfl, rfl, rfl, rfl, rfl, rfl, rfl, rfl, rfl, rfl, rfl, rfl, trivial⟩ ?_
  · have e : S.2.filter (leftE (outZ m) []) = S.2 := List.filter_eq_self.2 fun _ _ => rfl
    rw [e]
    rfl
  rintro v ⟨h1, h2⟩
  refine ev_sound tabOk mixed _ _ _ _ ?_
  conv => whnf
  have hvl : v.length ≤ S.2.length := Gw.Lists.len_of_sub (Gw.Lists.nodup_of_map _ h1) h2
  have hsub' : (S.2.filter (leftE (outZ m) v)).Sublist S.2 := List.filter_sublist
  refine AM.next rfl rfl rfl (.inl rfl) (fun e he => ?_) (Nat.le_refl _) (fun e he hns => ?_) (fun hall => ?_)
  · obtain ⟨y, hy, rfl⟩ := List.mem_map.1 he
    exact hok.born y (hsub'.mem hy)
  · obtain ⟨y, hy, rfl⟩ := List.mem_map.1 he
    have hyS : y ∈ S.2 := hsub'.mem hy
    have hns : y.1 ∉ v.map (·.1) := hns
    have hnd1 : ((v ++ [y]).map (·.1)).Nodup := by
      rw [List.map_append, List.nodup_append]
      exact ⟨h1, by simp, fun a ha b hb => by
        simp only [List.map_cons, List.map_nil, List.mem_singleton] at hb
        subst hb
        exact fun e => hns (e ▸ ha)⟩
    have hv2 : ∀ a ∈ v ++ [y], a ∈ S.2 := fun a ha => by
      rcases List.mem_append.1 ha with ha | ha
      · exact h2 a ha
      · rw [List.mem_singleton] at ha; subst ha; exact hyS
    have hlt : v.length < S.2.length := by
      have := Gw.Lists.len_of_sub (Gw.Lists.nodup_of_map _ hnd1) hv2
      rw [List.length_append, List.length_singleton] at this
      omega
    have hnd : ((encM (S.2.filter (leftE (outZ m) v))).map (·.1)).Nodup := by
      have : (encM (S.2.filter (leftE (outZ m) v))).map (·.1) = (S.2.filter (leftE (outZ m) v)).map (·.1) := by unfold encM; rw [List.map_map]; rfl
      rw [this]; exact (hsub'.map _).nodup hok.births
    have hdel := left_del hok (outs := outZ m) hyS hns
    conv => whnf
    repeat (first | refine ⟨fun _ => ?_, fun h => absurd h (by decide)⟩ | refine ⟨fun h => absurd h (by decide), fun _ => ?_⟩ | refine ⟨fun _ => ?_, fun h => absurd (show true = false from h) (by decide)⟩ | refine ⟨fun h => absurd (show false = true from h) (by decide), fun _ => ?_⟩
            (conv => whnf))
    refine AM.entry rfl rfl rfl (.inl rfl) rfl hnd (.str y.2.1, .agg (cellsN y.2.2)) he ?_
    conv => whnf
    refine AM.lookup tabOk (kt := 3) (et := 4) (d := .int .i64) (by kernel_rfl) (by kernel_rfl) rfl rfl (by kernel_rfl) rfl rfl (.inl rfl) rfl (encZM_kind m) (if (outZ m).contains y.2.2.id = true then some (.bool true) else none) (findE_z y.2.2.id m) ?_
    by_cases ho : (outZ m).contains y.2.2.id = true
    · rw [if_pos ho] at hdel ⊢
      conv => whnf
      repeat (first | refine ⟨fun _ => ?_, fun h => absurd h (by decide)⟩ | refine ⟨fun h => absurd h (by decide), fun _ => ?_⟩ | refine ⟨fun _ => ?_, fun h => absurd (show true = false from h) (by decide)⟩ | refine ⟨fun h => absurd (show false = true from h) (by decide), fun _ => ?_⟩
              (conv => whnf))
      refine AM.delete (kt := 9) (et := 43) (d := .string) (by kernel_rfl) (by kernel_rfl) rfl rfl rfl rfl rfl rfl rfl (encM_kind _) (encM (Gw.View.delM y.2.1 (S.2.filter (leftE (outZ m) v)))) (delE_enc _ _) ?_
      rw [hdel]
      conv => whnf
      refine ⟨v ++ [y], ⟨hnd1, hv2⟩, by show S.2.length - (v ++ [y]).length < S.2.length - v.length; rw [List.length_append, List.length_singleton]; omega, rfl, rfl, rfl, rfl, rfl, rfl, rfl, rfl, rfl, rfl, rfl, rfl, rfl, rfl, rfl, rfl, rfl, rfl, ?_, rfl, rfl, rfl, rfl, rfl, rfl, rfl, rfl, rfl, rfl, rfl, rfl, rfl, trivial⟩
      rw [List.map_append]; rfl
    · rw [if_neg ho] at hdel ⊢
      conv => whnf
      refine ⟨v ++ [y], ⟨hnd1, hv2⟩, by show S.2.length - (v ++ [y]).length < S.2.length - v.length; rw [List.length_append, List.length_singleton]; omega, rfl, rfl, rfl, rfl, rfl, rfl, rfl, rfl, rfl, rfl, rfl, rfl, rfl, rfl, rfl, rfl, ?_, rfl, ?_, rfl, rfl, rfl, rfl, rfl, rfl, rfl, rfl, rfl, rfl, rfl, rfl, rfl, trivial⟩
      · rw [← hdel]; rfl
      · rw [List.map_append]; rfl
  · have hin : S.2.filter (leftE (outZ m) v) = Gw.View.inner l (outZ m) dir := by
      rw [hinner]
      exact left_all fun e he => hall (e.1, .str e.2.1, .agg (cellsN e.2.2)) (List.mem_map.2 ⟨e, he, rfl⟩)
    rw [hin]
    obtain ⟨qn, hrp⟩ := rising_pm (S.1, Gw.View.inner l (outZ m) dir) hiok (by show (Gw.View.inner l (outZ m) dir).length ≤ _; omega) (fun e he => by
      obtain ⟨n, hf⟩ := hifind e.2.1 (List.mem_map.2 ⟨e, he, rfl⟩)
      have := (hidir _ _ hf).2; omega)
    unfold Gw.View.levelF at hacc ⊢
    have hns : ∀ s ∈ Gw.View.sortT ((Gw.View.inner l (outZ m) dir).map (·.2.1)), ∃ n, Gw.View.findM s (Gw.View.inner l (outZ m) dir) = some n := fun s hsm => hifind s ((Gw.View.sortT_perm _).mem_iff.1 hsm)
    have hnl : (Gw.View.sortT ((Gw.View.inner l (outZ m) dir).map (·.2.1))).length ≤ 1000 := by rw [(Gw.View.sortT_perm _).length_eq, List.length_map]; exact hilen
    simp only at hrp
    generalize Gw.View.sortT ((Gw.View.inner l (outZ m) dir).map (·.2.1)) = N at *
    generalize hI : Gw.View.inner l (outZ m) dir = I at *
    have hNl := encS1_len N
    conv => whnf
    repeat (first | refine ⟨fun _ => ?_, fun h => absurd h (by decide)⟩ | refine ⟨fun h => absurd h (by decide), fun _ => ?_⟩ | refine ⟨fun _ => ?_, fun h => absurd (show true = false from h) (by decide)⟩ | refine ⟨fun h => absurd (show false = true from h) (by decide), fun _ => ?_⟩
            (conv => whnf))
    refine AC.of_pm hrp rfl ?_
    conv => whnf
    refine AW.loop (fun k : Nat => (.tmp 1, .v (.str path)) :: (.tmp 4, .v (.ptr 15 0)) :: (.tmp 5, .v (.ptr 16 0)) :: (.tmp 8, .v (.mp 20)) :: (.tmp 32, .v (.lst qn 1 (encS1 N) .none)) :: (.tmp 33, .v (.int .i64 N.length)) :: (.tmp 34, .v (.int .i64 k)) ::
      (.blk 20, .obj (.mp S.1 (encM I))) :: givenB nil l c m (acc ++ (N.take k).flatMap (Gw.View.stepF sub I path))) 24
      (fun k => k ≤ N.length) (fun k => N.length - k) (by decide) 0 (Nat.zero_le _) ⟨rfl, rfl, rfl, rfl, rfl, rfl, rfl, rfl, rfl, rfl, ?_, rfl, rfl, rfl, rfl, rfl, rfl, rfl, rfl, rfl, rfl, rfl, ?_, rfl, ?_, rfl, rfl, rfl, trivial⟩ ?_
    · show C.v (V.int .i64 (encS1 N).length) = _
      rw [hNl]
    · rw [List.take_zero, List.flatMap_nil, List.append_nil]; rfl
    · rw [List.take_zero, List.flatMap_nil, List.append_nil]; rfl
    rintro k hk
    refine ev_sound tabOk mixed _ _ _ _ ?_
    conv => whnf
    refine ⟨fun h => ?_, fun h => ?_⟩
    · have h := of_decide_eq_true h
      have hlt : k < N.length := by omega
      have hg := encS1_get hlt
      obtain ⟨nd, hfd⟩ := hns N[k] (List.getElem_mem hlt)
      obtain ⟨hndl, hsl⟩ := hidir _ _ hfd
      have htk : (N.take (k + 1)).flatMap (Gw.View.stepF sub I path) = (N.take k).flatMap (Gw.View.stepF sub I path) ++ Gw.View.oneF sub path N[k] nd := by
        rw [List.take_succ_eq_append_getElem hlt, List.flatMap_append, List.flatMap_singleton]
        congr 1
        unfold Gw.View.stepF
        rw [hfd]
      have hdr := dir_pc nd.id (hi nd hndl)
      have hsubk := hsub N[k] nd hfd
      have hle : acc.length + ((N.take (k + 1)).flatMap (Gw.View.stepF sub I path)).length ≤ 1048576 := by
        have : ((N.take (k + 1)).flatMap (Gw.View.stepF sub I path)).length ≤ (N.flatMap (Gw.View.stepF sub I path)).length := by
          conv => rhs; rw [← List.take_append_drop (k + 1) N, List.flatMap_append, List.length_append]
          omega
        omega
      rw [htk] at hle
      generalize hA : acc ++ (N.take k).flatMap (Gw.View.stepF sub I path) = A at *
      have hAl : A.length = acc.length + ((N.take k).flatMap (Gw.View.stepF sub I path)).length := by rw [← hA, List.length_append]
      rw [List.length_append] at hle
      have hA2 : acc ++ (N.take (k + 1)).flatMap (Gw.View.stepF sub I path) = A ++ Gw.View.oneF sub path N[k] nd := by rw [htk, ← hA, List.append_assoc]
      generalize N[k] = s at *
      have hAe := encIt_len A
      have w1 : IntKind.i64.wrap ((k : Int) + 1) = ((k + 1 : Nat) : Int) := by rw [w64 (by omega) (by omega)]; rfl
      conv => whnf
      refine ⟨_, ⟨by omega, hg⟩, ?_⟩
      conv => whnf
      refine AM.lookup tabOk (kt := 9) (et := 43) (d := .string) (by kernel_rfl) (by kernel_rfl) rfl rfl (by kernel_rfl) rfl rfl (.inl rfl) rfl (encM_kind _) ((Gw.View.findM s I).map fun n => .agg (cellsN n)) (findE_enc s I) ?_
      rw [hfd, Option.map_some]
      have hpth : path ++ (ByteArray.mk #[47]).data.toList ++ s = Gw.View.pathOf path s := rfl
      have hpl : (path ++ (ByteArray.mk #[47]).data.toList).length = path.length + 1 := List.length_append
      conv => whnf
      refine ⟨by show path.length + 1 < _; omega, ?_⟩
      conv => whnf
      refine ⟨by rw [hpl]; omega, ?_⟩
      conv => whnf
      rw [hpth]
      generalize hP : Gw.View.pathOf path s = P at *
      refine ⟨⟨hAe.symm, fits_small (by show (encIt A).length + 1 ≤ _; omega) (by decide)⟩, ?_⟩
      conv => whnf
      refine AC.of_pc hdr rfl ?_
      unfold Gw.View.oneF at hA2 hle
      rw [hP] at hA2 hle
      cases hd : Gw.Stamp.dir nd.id with
      | false =>
        rw [hd, if_neg (by decide)] at hA2
        conv => whnf
        repeat (first | refine ⟨fun _ => ?_, fun h => absurd h (by decide)⟩ | refine ⟨fun h => absurd h (by decide), fun _ => ?_⟩ | refine ⟨fun _ => ?_, fun h => absurd (show true = false from h) (by decide)⟩ | refine ⟨fun h => absurd (show false = true from h) (by decide), fun _ => ?_⟩
                (conv => whnf))
        refine ⟨k + 1, hlt, by show N.length - (k + 1) < N.length - k; omega, rfl, rfl, rfl, rfl, rfl, rfl, rfl, rfl, rfl, rfl, rfl, rfl, ?_, rfl, rfl, rfl, rfl, rfl, rfl, rfl, rfl, rfl, ?_, rfl, ?_, rfl, rfl, rfl, trivial⟩
        · show C.v (V.int .i64 (IntKind.i64.wrap ((k : Int) + 1))) = _
          rw [w1]
        · rw [hA2]
          exact box_snoc _ _ A ⟨P, nd.id, nd.data⟩
        · rw [hA2]
          exact row_snoc _ A ⟨P, nd.id, nd.data⟩
      | true =>
        rw [hd, if_pos rfl] at hA2 hle
        conv => whnf
        repeat (first | refine ⟨fun _ => ?_, fun h => absurd h (by decide)⟩ | refine ⟨fun h => absurd h (by decide), fun _ => ?_⟩ | refine ⟨fun _ => ?_, fun h => absurd (show true = false from h) (by decide)⟩ | refine ⟨fun h => absurd (show false = true from h) (by decide), fun _ => ?_⟩
                (conv => whnf))
        have hrec := hsubk hd (A ++ [Gw.View.Item.mk P nd.id nd.data]) (by
          rw [List.length_append, List.length_singleton]
          rw [List.length_cons] at hle
          omega)
        refine AC.frame (es := givenB nil l c m (A ++ [Gw.View.Item.mk P nd.id nd.data])) (m := 18) ⟨rfl, rfl, rfl, rfl, rfl, rfl, ?_, rfl, ?_, rfl, rfl, rfl, trivial⟩ rfl (by decide) rfl hrec ?_
        · exact box_snoc _ _ A ⟨P, nd.id, nd.data⟩
        · exact row_snoc _ A ⟨P, nd.id, nd.data⟩
        rintro x es ⟨rfl, rfl⟩
        rw [show A ++ Gw.View.Item.mk P nd.id nd.data :: sub nd.id P = A ++ [⟨P, nd.id, nd.data⟩] ++ sub nd.id P by simp] at hA2
        conv => whnf
        refine ⟨k + 1, hlt, by show N.length - (k + 1) < N.length - k; omega, rfl, rfl, rfl, rfl, rfl, rfl, rfl, rfl, rfl, rfl, rfl, rfl, ?_, rfl, rfl, rfl, rfl, rfl, rfl, rfl, rfl, rfl, ?_, rfl, ?_, rfl, rfl, rfl, trivial⟩
        · show C.v (V.int .i64 (IntKind.i64.wrap ((k : Int) + 1))) = _
          rw [w1]
        · rw [hA2]; rfl
        · rw [hA2]; rfl
    · have h := of_decide_eq_false h
      obtain rfl : k = N.length := by omega
      rw [List.take_length]
      conv => whnf
      exact ⟨_, _, ⟨rfl, rfl⟩, rfl, ⟨rfl, rfl⟩, rfl, rfl, rfl, rfl, rfl, rfl, rfl, rfl, rfl, rfl, rfl, rfl, trivial⟩
end Go.Proofs.Ytkflmicpifohhaa
