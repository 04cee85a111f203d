/- Paths behind events: told without addresses. No claim of its own. -/
import Derived.Test.YtipgfdepopfghaaGreatASortB
import Derived.Test.YtipgfdepopfghaaGreatAViewS
namespace Go.Proofs.YtipgfdepopfghaaGreat
open Go.Am
open Gw.Mp (M keys)

def cellsE (e : Gw.Diff.Event) : List V := [.int .i64 e.kind, .str e.path]
def encE (l : List Gw.Diff.Event) : List (List V) := l.map cellsE
theorem encE_len (l : List Gw.Diff.Event) : (encE l).length = l.length := by simp [encE]
theorem encE_get {l : List Gw.Diff.Event} {k : Nat} (h : k < l.length) : (encE l)[k]? = some (cellsE l[k]) := by unfold encE; rw [List.getElem?_map, List.getElem?_eq_getElem h]; rfl
/-- Maps by texts, as they lie. -/
def encMp {α : Type} (f : α → V) (m : M α) : Es := m.map fun e => (e.1, .str e.2.1, f e.2.2)
theorem findE_mp {α : Type} (f : α → V) (k : List UInt8) : ∀ m : M α, findE (.str k) (encMp f m) = (Gw.Mp.find k m).map f
  | [] => rfl
  | e :: m => by
    show (match sameK (.str e.2.1) (.str k) with | true => some _ | false => findE (.str k) (encMp f m)) = _
    rw [Gw.Mp.find, findE_mp f k m]
    simp only [sameK]
    by_cases h : e.2.1 = k
    · rw [decide_eq_true h, if_pos h]; rfl
    · rw [decide_eq_false h, if_neg h]
theorem putE_mp {α : Type} (f : α → V) (k : List UInt8) (n : α) : ∀ m : M α, putE (.str k) (f n) (encMp f m) = (Gw.Mp.put k n m).map (encMp f)
  | [] => rfl
  | e :: m => by
    show (match sameK (.str e.2.1) (.str k) with | true => some _ | false => match putE (.str k) (f n) (encMp f m) with | some l => some _ | none => none) = _
    rw [Gw.Mp.put, putE_mp f k n m]
    simp only [sameK]
    by_cases h : e.2.1 = k
    · rw [decide_eq_true h, if_pos h]; rfl
    · rw [decide_eq_false h, if_neg h]
      cases Gw.Mp.put k n m <;> rfl
theorem delE_mp {α : Type} (f : α → V) (k : List UInt8) : ∀ m : M α, delE (.str k) (encMp f m) = encMp f (Gw.Mp.del k m)
  | [] => rfl
  | e :: m => by
    show (match sameK (.str e.2.1) (.str k) with | true => encMp f m | false => _ :: delE (.str k) (encMp f m)) = _
    rw [Gw.Mp.del, delE_mp f k m]
    simp only [sameK]
    by_cases h : e.2.1 = k
    · rw [decide_eq_true h, if_pos h]
    · rw [decide_eq_false h, if_neg h]; rfl
theorem encMp_kind {α : Type} (f : α → V) (m : M α) : ∀ e ∈ encMp f m, kindIs .string e.2.1 := fun e h => by
  obtain ⟨x, _, rfl⟩ := List.mem_map.1 h
  rfl
theorem putR_mp {α : Type} (f : α → V) (x : Nat × M α) (k : List UInt8) (n : α) : putR x.1 (encMp f x.2) (.str k) (f n) ((Gw.Mp.put k n x.2).map (encMp f)) = .mp (Gw.Mp.set x k n).1 (encMp f (Gw.Mp.set x k n).2) := by
  unfold Gw.Mp.set
  cases Gw.Mp.put k n x.2 with
  | some m => rfl
  | none =>
    show Ob.mp (x.1 + 1) (encMp f x.2 ++ [_]) = Ob.mp (x.1 + 1) (encMp f (x.2 ++ [_]))
    unfold encMp
    rw [List.map_append]
    rfl
abbrev one1 : Unit → V := fun _ => .bool true
theorem play_pc (n1 n2 : Bool) (l : List (List UInt8)) (e : List Gw.Diff.Event) (hl : l.length ≤ 500000) (he : e.length ≤ 500000) :
    PC Tryz.prog 18 [.lst n1 1 (encS1 l) .none, .lst n2 2 (encE e) .none] (.lst false 1 (encS1 (Gw.Diff.play l e)) .none) := by
  have hel := encS1_len l
  have hee := encE_len e
  refine PC.of_pr (PR.ofA tabOk (fn := Tryz.f18) (by kernel_rfl) rfl (by kernel_rfl) rfl rfl ?_)
  refine AW.seq (ev_sound tabOk mixed _ _ _ _ ?_)
  conv => whnf
  refine AW.seq (ev_sound tabOk mixed _ _ _ _ ?_)
  conv => whnf
  refine AM.makeMap rfl ?_
  conv => whnf
  refine AW.seq (ev_sound tabOk mixed _ _ _ _ ?_)
  conv => whnf
  refine AW.loop (fun k : Nat => [(.tmp 1, .v (.lst n2 2 (encE e) .none)), (.tmp 5, .v (.mp 1)), (.tmp 13, .v (.lst n1 1 (encS1 l) .none)), (.tmp 14, .v (.int .i64 l.length)), (.tmp 15, .v (.int .i64 k)),
    (.blk 1, .obj (.mp ((l.take k).foldl Gw.Diff.addP (0, [])).1 (encMp one1 ((l.take k).foldl Gw.Diff.addP (0, [])).2)))]) 2
    (fun k => k ≤ l.length) (fun k => l.length - k) (by decide) 0 (Nat.zero_le _) ⟨rfl, rfl, rfl, rfl, rfl, rfl, ?_, rfl, rfl, rfl, rfl, rfl, trivial⟩ ?_
  · show C.v (V.int .i64 (encS1 l).length) = _
    rw [hel]
  rintro k hk
  refine ev_sound tabOk mixed _ _ _ _ ?_
  conv => whnf
  refine ⟨fun h => ?_, fun h => ?_⟩
  · have h := of_decide_eq_true h
    have hlt : k < l.length := by omega
    have hg := encS1_get hlt
    have hstep : (l.take (k + 1)).foldl Gw.Diff.addP (0, []) = Gw.Mp.set ((l.take k).foldl Gw.Diff.addP (0, [])) l[k] () := by
      rw [List.take_succ_eq_append_getElem hlt, List.foldl_append]
      rfl
    generalize (l.take k).foldl Gw.Diff.addP (0, []) = S at *
    conv => whnf
    refine ⟨_, ⟨by omega, hg⟩, ?_⟩
    conv => whnf
    refine AM.update (kt := 9) (et := 4) (d := .string) (by kernel_rfl) (by kernel_rfl) (.inl rfl) rfl rfl rfl rfl (encMp_kind one1 _) ((Gw.Mp.put l[k] () S.2).map (encMp one1)) (putE_mp one1 _ () _) ?_
    conv => whnf
    refine ⟨k + 1, hlt, by show l.length - (k + 1) < l.length - k; omega, rfl, rfl, rfl, rfl, rfl, rfl, rfl, rfl, ?_, rfl, ?_, rfl, trivial⟩
    · show C.v (V.int .i64 (IntKind.i64.wrap ((k : Int) + 1))) = _
      rw [w64 (by omega) (by omega)]; rfl
    · rw [hstep]
      exact congrArg C.obj (putR_mp one1 S l[k] ())
  have h := of_decide_eq_false h
  obtain rfl : k = l.length := by omega
  rw [List.take_length]
  have hkl : (keys (l.foldl Gw.Diff.addP (0, [])).2).length ≤ l.length := by
    have key : ∀ (l : List (List UInt8)) (x : Gw.Diff.T), (l.foldl Gw.Diff.addP x).2.length ≤ x.2.length + l.length := by
      intro l
      induction l with
      | nil => intro x; exact Nat.le_refl _
      | cons p l ih =>
        intro x
        have h1 := ih (Gw.Diff.addP x p)
        have h2 : (Gw.Diff.addP x p).2.length ≤ x.2.length + 1 := Gw.Mp.set_len x p ()
        rw [List.foldl_cons, List.length_cons]
        omega
    have := key l (0, [])
    unfold keys
    rw [List.length_map]
    simpa using this
  have hok := Gw.Diff.adds_ok l (0, []) (Gw.Mp.Ok.nil 0)
  have hplay : Gw.Diff.playM l e = e.foldl Gw.Diff.stepP (l.foldl Gw.Diff.addP (0, [])) := rfl
  unfold Gw.Diff.play
  rw [hplay]
  generalize l.foldl Gw.Diff.addP (0, []) = X at *
  conv => whnf
  refine AW.seq (ev_sound tabOk mixed _ _ _ _ ?_)
  conv => whnf
  refine AW.loop (fun k : Nat => [(.tmp 5, .v (.mp 1)), (.tmp 22, .v (.lst n2 2 (encE e) .none)), (.tmp 23, .v (.int .i64 e.length)), (.tmp 24, .v (.int .i64 k)),
    (.blk 1, .obj (.mp ((e.take k).foldl Gw.Diff.stepP X).1 (encMp one1 ((e.take k).foldl Gw.Diff.stepP X).2)))]) 2
    (fun k => k ≤ e.length) (fun k => e.length - k) (by decide) 0 (Nat.zero_le _) ⟨rfl, rfl, rfl, rfl, ?_, rfl, rfl, rfl, rfl, rfl, trivial⟩ ?_
  · show C.v (V.int .i64 (encE e).length) = _
    rw [hee]
  rintro k hk
  refine ev_sound tabOk mixed _ _ _ _ ?_
  conv => whnf
  refine ⟨fun h => ?_, fun h => ?_⟩
  · have h := of_decide_eq_true h
    have hlt : k < e.length := by omega
    have hg := encE_get hlt
    have hstep : (e.take (k + 1)).foldl Gw.Diff.stepP X = Gw.Diff.stepP ((e.take k).foldl Gw.Diff.stepP X) e[k] := by
      rw [List.take_succ_eq_append_getElem hlt, List.foldl_append]
      rfl
    have w1 : IntKind.i64.wrap ((k : Int) + 1) = ((k + 1 : Nat) : Int) := by rw [w64 (by omega) (by omega)]; rfl
    generalize hS : (e.take k).foldl Gw.Diff.stepP X = S at *
    generalize hS' : (e.take (k + 1)).foldl Gw.Diff.stepP X = S' at *
    conv => whnf
    refine ⟨_, ⟨by omega, hg⟩, ?_⟩
    generalize e[k] = ev at *
    have hst : Gw.Diff.stepP S ev = (if ev.kind = 1 then (S.1, Gw.Mp.del ev.path S.2) else if ev.kind = 2 then Gw.Diff.addP S ev.path else S) := rfl
    rw [hst] at hstep
    conv => whnf
    refine ⟨fun h1 => ?_, fun h1 => ?_⟩
    · have h1 : ev.kind = 1 := by simpa using h1
      rw [if_pos h1] at hstep
      conv => whnf
      refine AM.delete (kt := 9) (et := 4) (d := .string) (by kernel_rfl) (by kernel_rfl) rfl rfl rfl rfl rfl rfl rfl (encMp_kind one1 _) (encMp one1 (Gw.Mp.del ev.path S.2)) (delE_mp one1 _ _) ?_
      conv => whnf
      refine ⟨k + 1, hlt, by show e.length - (k + 1) < e.length - k; omega, rfl, rfl, rfl, rfl, rfl, rfl, ?_, rfl, ?_, rfl, trivial⟩
      · show C.v (V.int .i64 (IntKind.i64.wrap ((k : Int) + 1))) = _
        rw [w1]
      · rw [hS', hstep]; rfl
    · have h1 : ev.kind ≠ 1 := by simpa using h1
      rw [if_neg h1] at hstep
      conv => whnf
      refine ⟨fun h2 => ?_, fun h2 => ?_⟩
      · have h2 : ev.kind = 2 := by simpa using h2
        rw [if_pos h2] at hstep
        conv => whnf
        refine AM.update (kt := 9) (et := 4) (d := .string) (by kernel_rfl) (by kernel_rfl) (.inl rfl) rfl rfl rfl rfl (encMp_kind one1 _) ((Gw.Mp.put ev.path () S.2).map (encMp one1)) (putE_mp one1 _ () _) ?_
        conv => whnf
        refine ⟨k + 1, hlt, by show e.length - (k + 1) < e.length - k; omega, rfl, rfl, rfl, rfl, rfl, rfl, ?_, rfl, ?_, rfl, trivial⟩
        · show C.v (V.int .i64 (IntKind.i64.wrap ((k : Int) + 1))) = _
          rw [w1]
        · rw [hS', hstep]
          exact congrArg C.obj (putR_mp one1 S ev.path ())
      · have h2 : ev.kind ≠ 2 := by simpa using h2
        rw [if_neg h2] at hstep
        conv => whnf
        refine ⟨k + 1, hlt, by show e.length - (k + 1) < e.length - k; omega, rfl, rfl, rfl, rfl, rfl, rfl, ?_, rfl, ?_, rfl, trivial⟩
        · show C.v (V.int .i64 (IntKind.i64.wrap ((k : Int) + 1))) = _
          rw [w1]
        · rw [hS', hstep]; rfl
  have h := of_decide_eq_false h
  obtain rfl : k = e.length := by omega
  rw [List.take_length]
  have hYl : (e.foldl Gw.Diff.stepP X).2.length ≤ 1000000 := by
    have key : ∀ (e : List Gw.Diff.Event) (x : Gw.Diff.T), (e.foldl Gw.Diff.stepP x).2.length ≤ x.2.length + e.length := by
      intro e
      induction e with
      | nil => intro x; exact Nat.le_refl _
      | cons p l ih =>
        intro x
        have h1 := ih (Gw.Diff.stepP x p)
        have h2 : (Gw.Diff.stepP x p).2.length ≤ x.2.length + 1 := by
          unfold Gw.Diff.stepP
          split
          · have := (Gw.Mp.del_sub p.path x.2).length_le
            show (Gw.Mp.del p.path x.2).length ≤ _
            omega
          · split
            · exact Gw.Mp.set_len x p.path ()
            · omega
        rw [List.foldl_cons, List.length_cons]
        omega
    have := key e X
    have h3 : X.2.length ≤ l.length := by unfold keys at hkl; rwa [List.length_map] at hkl
    omega
  have hY := Gw.Diff.steps_ok e X hok
  generalize e.foldl Gw.Diff.stepP X = Y at *
  have hml : (encMp one1 Y.2).length = Y.2.length := List.length_map _
  conv => whnf
  refine AW.seq (ev_sound tabOk mixed _ _ _ _ ?_)
  conv => whnf
  refine AM.lenMap (kt := 9) (et := 4) (by kernel_rfl) rfl rfl rfl rfl rfl rfl ?_
  rw [hml]
  conv => whnf
  refine ⟨⟨by omega, fits_small (by rw [Int.toNat_natCast]; omega) (by decide)⟩, ?_⟩
  conv => whnf
  refine AW.browOf 10 rfl ?_
  refine AW.seq (ev_sound tabOk mixed _ _ _ _ ?_)
  conv => whnf
  refine AM.range (kt := 9) (et := 4) (by kernel_rfl) rfl rfl (.inl rfl) ?_
  conv => whnf
  refine AW.loop (fun v : M Unit => [(.tmp 10, .v (.lst false 1 (encS1 (keys v)) (.brow 5))), (.tmp 45, .v (.it 8)), (.blk 1, .obj (.mp Y.1 (encMp one1 Y.2))), (.blk 8, .obj (.mit 1 Y.1 (v.map (·.1)) Y.1)), (.row 5, .row 9 1 v.length)]) 9
    (fun v => (v.map (·.1)).Nodup ∧ ∀ e ∈ v, e ∈ Y.2) (fun v => Y.2.length - v.length) (by decide) [] ⟨List.nodup_nil, fun e h => by cases h⟩ ⟨rfl, rfl, rfl, rfl, rfl, rfl, rfl, rfl, rfl, rfl, trivial⟩ ?_
  rintro v ⟨h1, h2⟩
  refine ev_sound tabOk mixed _ _ _ _ ?_
  conv => whnf
  have hvl : v.length ≤ Y.2.length := Gw.Lists.len_of_sub (Gw.Lists.nodup_of_map _ h1) h2
  have hkl2 := encS1_len (keys v)
  have hkv : (keys v).length = v.length := List.length_map _
  rw [hkv] at hkl2
  refine AM.next rfl rfl rfl (.inl rfl) (fun e he => ?_) (Nat.le_refl _) (fun e he hns => ?_) (fun hall => ?_)
  · obtain ⟨y, hy, rfl⟩ := List.mem_map.1 he
    exact hY.born y hy
  · obtain ⟨y, hy, rfl⟩ := List.mem_map.1 he
    have hns : y.1 ∉ v.map (·.1) := hns
    have hnd1 : ((v ++ [y]).map (·.1)).Nodup := by
      rw [List.map_append, List.nodup_append]
      exact ⟨h1, by simp, fun a ha b hb => by
        simp only [List.map_cons, List.map_nil, List.mem_singleton] at hb
        subst hb
        exact fun e => hns (e ▸ ha)⟩
    have hv2 : ∀ a ∈ v ++ [y], a ∈ Y.2 := fun a ha => by
      rcases List.mem_append.1 ha with ha | ha
      · exact h2 a ha
      · rw [List.mem_singleton] at ha; subst ha; exact hy
    have hlt : v.length < Y.2.length := by
      have := Gw.Lists.len_of_sub (Gw.Lists.nodup_of_map _ hnd1) hv2
      rw [List.length_append, List.length_singleton] at this
      omega
    have hnd : ((encMp one1 Y.2).map (·.1)).Nodup := by
      have : (encMp one1 Y.2).map (·.1) = Y.2.map (·.1) := by unfold encMp; rw [List.map_map]; rfl
      rw [this]; exact hY.births
    conv => whnf
    repeat (first | refine ⟨fun _ => ?_, fun h => absurd h (by decide)⟩ | refine ⟨fun h => absurd h (by decide), fun _ => ?_⟩ | refine ⟨fun _ => ?_, fun h => absurd (show true = false from h) (by decide)⟩ | refine ⟨fun h => absurd (show false = true from h) (by decide), fun _ => ?_⟩
            (conv => whnf))
    refine AM.entry rfl rfl rfl (.inl rfl) rfl hnd (.str y.2.1, one1 y.2.2) he ?_
    conv => whnf
    refine ⟨⟨hkl2.symm, fits_small (by show (encS1 (keys v)).length + 1 ≤ _; omega) (by decide)⟩, ?_⟩
    conv => whnf
    refine ⟨v ++ [y], ⟨hnd1, hv2⟩, by show Y.2.length - (v ++ [y]).length < Y.2.length - v.length; rw [List.length_append, List.length_singleton]; omega, ?_, rfl, rfl, rfl, rfl, rfl, ?_, rfl, ?_, rfl, trivial⟩
    · show C.v (V.lst (false && false) 1 (encS1 (keys v) ++ [[V.str y.2.1]]) _) = C.v (V.lst false 1 (encS1 (keys (v ++ [y]))) _)
      unfold keys encS1
      rw [List.map_append, List.map_append]
      rfl
    · rw [List.map_append]; rfl
    · show C.row _ 1 ((encS1 (keys v)).length + 1) = C.row _ 1 (v ++ [y]).length
      rw [hkl2, List.length_append]
      rfl
  have hper : (keys v).Perm (keys Y.2) := (Gw.Lists.perm_of_mem (Gw.Lists.nodup_of_map _ h1) (Gw.Lists.nodup_of_map _ hY.births) fun a => ⟨h2 a, fun ha => by
    have hin : a.1 ∈ v.map (·.1) := hall (a.1, .str a.2.1, one1 a.2.2) (List.mem_map.2 ⟨a, ha, rfl⟩)
    obtain ⟨c, hc, e⟩ := List.mem_map.1 hin
    rw [← Gw.Lists.inj_of_nodup (·.1) hY.births (h2 c hc) ha e]
    exact hc⟩).map _
  have hso : Gw.Diff.sortB (keys v) = Gw.Diff.sortB (keys Y.2) := Gw.Diff.sortB_unique ((Gw.Diff.sortB_perm _).trans hper) (Gw.Diff.sortB_sorted _)
  rw [← hso]
  generalize keys v = L at *
  conv => whnf
  repeat (first | refine ⟨fun _ => ?_, fun h => absurd h (by decide)⟩ | refine ⟨fun h => absurd h (by decide), fun _ => ?_⟩ | refine ⟨fun _ => ?_, fun h => absurd (show true = false from h) (by decide)⟩ | refine ⟨fun h => absurd (show false = true from h) (by decide), fun _ => ?_⟩
          (conv => whnf))
  refine AW.seq ?_
  by_cases hL : L = []
  · subst hL
    refine ev_sound tabOk mixed _ _ _ _ ?_
    conv => whnf
    refine AC.of_pc (sortB0_pc _) rfl ?_
    conv => whnf
    refine ev_sound tabOk mixed _ _ _ _ ?_
    rw [show Gw.Diff.sortB [] = [] by simp [Gw.Diff.sortB]]
    conv => whnf
    exact ⟨_, SubV.refl _, SubV.refl _⟩
  · have hn : (encS1 L).length = L.length := encS1_len L
    have hne : encS1 L ≠ [] := fun e => hL (by cases L with | nil => rfl | cons a b => cases e)
    refine AW.thaw (m := 0) (es := []) 10 5 trivial (Nat.zero_le _) rfl (by decide) rfl (by rw [hn, hkv]; rfl) (Nat.zero_le _) hne (fun el hel y hy => by
      obtain ⟨s, _, rfl⟩ := List.mem_map.1 hel
      rw [List.mem_singleton] at hy; subst hy; rfl) ?_
    rw [flat_S1, hn]
    refine ev_sound tabOk mixed _ _ _ _ ?_
    conv => whnf
    refine sortB_ac 0 _ L _ rfl (by omega) rfl ?_
    conv => whnf
    refine ev_sound tabOk mixed _ _ _ _ ?_
    have hlen : (encS1 (Gw.Diff.sortB L)).length = L.length := by rw [encS1_len, (Gw.Diff.sortB_perm L).length_eq]
    have hfl := flat_S1 (Gw.Diff.sortB L)
    have hfll : (flatT (Gw.Diff.sortB L)).length = L.length := by rw [flatT, List.length_map, (Gw.Diff.sortB_perm L).length_eq]
    conv => whnf
    refine ⟨_, SubV.refl _, ?_⟩
    refine .mem rfl hlen (fun el hel => by
      obtain ⟨s, _, rfl⟩ := List.mem_map.1 hel
      rfl) (by rw [hfll]; omega) ?_ ?_
    · rw [hfl, List.drop_zero, List.take_of_length_le (by rw [hfll]; omega)]
    · rw [hfl]
      exact one_flatT _
end Go.Proofs.YtipgfdepopfghaaGreat
