/- The names of a map, in their order: told without addresses. No claim of its own. -/
import Derived.Test.YtkflmicpifohhaaAChild
import Derived.Test.YtkflmicpifohhaaListFn
import Derived.Test.YtkflmicpifohhaaASortT
import Derived.Test.YtkflmicpifohhaaARng
import Derived.Shelf.SlSortCmp.NoneTotal
namespace Go.Proofs.Ytkflmicpifohhaa
open Go.Shelf Go.RowKit Go.Lib Go.Am

theorem flat_S1 (l : List (List UInt8)) : (encS1 l).flatten = flatT l := by
  induction l with
  | nil => rfl
  | cons a l ih => show [V.str a] ++ (encS1 l).flatten = _; rw [ih]; rfl
theorem one_flatT : ∀ l : List (List UInt8), oneAll (flatT l) = true
  | [] => rfl
  | _ :: l => one_flatT l
theorem sort0_pc (q : Bool) : PC Try.prog 64 [.lst q 1 [] .none, .func 53 [] []] (.tup []) := by
  refine ⟨Am.enters_of (fn := Try.f64) (by kernel_rfl) rfl (by kernel_rfl), fun w F vals _ _ hvl hv => ?_⟩
  match vals, hvl with
  | [v1, v2], _ =>
  obtain ⟨ad, c, rfl, _, _⟩ := (Rep.pure (g := ⟨F, fun _ => none, fun _ => none⟩) (hv 0 _ v1 rfl rfl)).lst_inv
  have hL : SlLaysF0.n6 Try.prog Try.sortTexts_ren := { Try.sortTexts with }
  have hcon := AnyF.slices_SortFunc_none hL ad c v2 w
  change Calls Try.prog 64 #[.slice ad 0 c, v2] w _ at hcon
  refine hcon.mono ?_
  rintro e w' ⟨rfl, rfl⟩
  exact ⟨_, F, rfl, ⟨Below.refl _ _, Nat.le_refl _⟩, fun _ _ h => h, fun _ _ h => .inl h, .tup (vs := []) rfl (fun i x v h => by simp at h)⟩
theorem rising_pm (x : Nat × Gw.View.M) (hx : Gw.View.MOk x) (hl : x.2.length ≤ 1048576) (hs : ∀ e ∈ x.2, e.2.1.length ≤ 1048576) :
    ∃ q, PM Try.prog 37 x.1 (encM x.2) [.mp 0] (.lst q 1 (encS1 (Gw.View.sortT (x.2.map (·.2.1)))) .none) := by
  refine ⟨decide (x.2 = []), ?_⟩
  refine PM.ofS tabOk mixed (fn := Try.f37) (by kernel_rfl) rfl (by kernel_rfl) rfl rfl ?_
  conv => whnf
  refine AC.of tabOk mixed (fn := Try.f52) (by kernel_rfl) rfl (by kernel_rfl) rfl rfl ?_
  conv => whnf
  refine AC.ofA tabOk (fn := Try.f51) (by kernel_rfl) rfl (by kernel_rfl) rfl rfl ?_
  refine AW.seq (ev_sound tabOk mixed _ _ _ _ ?_)
  conv => whnf
  refine AW.seq (ev_sound tabOk mixed _ _ _ _ ?_)
  conv => whnf
  refine AC.of tabOk mixed (fn := Try.f63) (by kernel_rfl) rfl (by kernel_rfl) rfl rfl ?_
  conv => whnf
  refine AC.of tabOk mixed (fn := Try.f70) (by kernel_rfl) rfl (by kernel_rfl) rfl rfl ?_
  conv => whnf
  refine AW.rowC 11 9 1 rfl ?_
  refine AW.range [(2, .ptr 11 0)] ⟨rfl, rfl, trivial⟩ rfl rfl ?_
  refine AC.of tabOk mixed (fn := Try.f65) (by kernel_rfl) rfl (by kernel_rfl) rfl rfl ?_
  conv => whnf
  refine AM.range (kt := 9) (et := 43) (by kernel_rfl) rfl rfl (.inr rfl) ?_
  conv => whnf
  refine AW.loop (fun v : Gw.View.M => [(.tmp 0, .v (.yield 15)), (.tmp 5, .v (.it 17)), (.blk 0, .ro (.mp x.1 (encM x.2))), (.blk 17, .obj (.mit 0 x.1 (v.map (·.1)) x.1)),
    (.blk 11, .box 29 [.lst (decide (v = [])) 1 (encS1 (v.map (·.2.1))) (.brow 14)]), (.row 14, .row 9 1 v.length),
    (.blk 15, .loop .ready none 13 [(2, .ptr 11 0)] [7] (rangeAt Try.f70 0).1 (rangeAt Try.f70 0).2)]) 18
    (fun v => (v.map (·.1)).Nodup ∧ ∀ e ∈ v, e ∈ x.2) (fun v => x.2.length - v.length) (by decide) [] ⟨List.nodup_nil, fun e h => by cases h⟩ ⟨rfl, rfl, rfl, rfl, rfl, rfl, rfl, rfl, rfl, rfl, rfl, rfl, rfl, rfl, trivial⟩ ?_
  rintro v ⟨h1, h2⟩
  refine ev_sound tabOk mixed _ _ _ _ ?_
  conv => whnf
  have hvl : v.length ≤ x.2.length := Gw.Lists.len_of_sub (Gw.Lists.nodup_of_map _ h1) h2
  have hel := encS1_len (v.map (·.2.1))
  rw [List.length_map] at hel
  refine AM.next rfl rfl rfl (.inr rfl) (fun e he => ?_) (Nat.le_refl _) (fun e he hns => ?_) (fun hall => ?_)
  · obtain ⟨y, hy, rfl⟩ := List.mem_map.1 he
    exact hx.born y hy
  · obtain ⟨y, hy, rfl⟩ := List.mem_map.1 he
    have hns : y.1 ∉ v.map (·.1) := hns
    have hlt : v.length < x.2.length := by
      have := Gw.Lists.len_of_sub (l := v ++ [y]) (m := x.2) (Gw.Lists.nodup_of_map (·.1) (by
        rw [List.map_append, List.nodup_append]
        exact ⟨h1, by simp, fun a ha b hb => by
          simp only [List.map_cons, List.map_nil, List.mem_singleton] at hb
          subst hb
          exact fun e => hns (e ▸ ha)⟩)) (fun a ha => by
        rcases List.mem_append.1 ha with ha | ha
        · exact h2 a ha
        · rw [List.mem_singleton] at ha; subst ha; exact hy)
      rw [List.length_append, List.length_singleton] at this
      omega
    have hnd : ((encM x.2).map (·.1)).Nodup := by
      have : (encM x.2).map (·.1) = x.2.map (·.1) := by unfold encM; rw [List.map_map]; rfl
      rw [this]; exact hx.births
    conv => whnf
    repeat (first | refine ⟨fun _ => ?_, fun h => absurd h (by decide)⟩ | refine ⟨fun h => absurd h (by decide), fun _ => ?_⟩ | refine ⟨fun _ => ?_, fun h => absurd (show true = false from h) (by decide)⟩ | refine ⟨fun h => absurd (show false = true from h) (by decide), fun _ => ?_⟩
            (conv => whnf))
    refine AM.entry rfl rfl rfl (.inr rfl) rfl hnd (.str y.2.1, .agg (cellsN y.2.2)) he ?_
    conv => whnf
    refine AY.of tabOk mixed rfl rfl rfl (fun lp => ?_)
    conv => whnf
    refine ⟨⟨hel.symm, fits_small (by show (encS1 (v.map (·.2.1))).length + 1 ≤ _; omega) (by decide)⟩, ?_⟩
    conv => whnf
    refine ⟨v ++ [y], ⟨?_, fun a ha => ?_⟩, by show x.2.length - (v ++ [y]).length < x.2.length - v.length; rw [List.length_append, List.length_singleton]; omega, rfl, rfl, rfl, rfl, rfl, rfl, ?_, rfl, ?_, rfl, ?_, rfl, rfl, rfl, trivial⟩
    · rw [List.map_append, List.nodup_append]
      exact ⟨h1, by simp, fun a ha b hb => by
        simp only [List.map_cons, List.map_nil, List.mem_singleton] at hb
        subst hb
        exact fun e => hns (e ▸ ha)⟩
    · rcases List.mem_append.1 ha with ha | ha
      · exact h2 a ha
      · rw [List.mem_singleton] at ha; subst ha; exact hy
    · rw [List.map_append]; rfl
    · show C.box _ [V.lst (decide (v = []) && false) 1 (encS1 (v.map (·.2.1)) ++ [[V.str y.2.1]]) _] = C.box _ [V.lst (decide (v ++ [y] = [])) 1 (encS1 ((v ++ [y]).map (·.2.1))) _]
      rw [Bool.and_false, decide_eq_false (by simp), List.map_append]
      unfold encS1
      rw [List.map_append]
      rfl
    · show C.row _ 1 ((encS1 (v.map (·.2.1))).length + 1) = C.row _ 1 (v ++ [y]).length
      rw [hel, List.length_append]
      rfl
  · have hper : (v.map (·.2.1)).Perm (x.2.map (·.2.1)) := (Gw.Lists.perm_of_mem (Gw.Lists.nodup_of_map _ h1) (Gw.Lists.nodup_of_map _ hx.births) fun a => ⟨h2 a, fun ha => by
      have hin : a.1 ∈ v.map (·.1) := hall (a.1, .str a.2.1, .agg (cellsN a.2.2)) (List.mem_map.2 ⟨a, ha, rfl⟩)
      obtain ⟨c, hc, e⟩ := List.mem_map.1 hin
      rw [← Gw.Lists.inj_of_nodup (·.1) hx.births (h2 c hc) ha e]
      exact hc⟩).map _
    have hvx : decide (v = []) = decide (x.2 = []) := by
      have hl2 := hper.length_eq
      rw [List.length_map, List.length_map] at hl2
      rw [decide_eq_decide, ← List.length_eq_zero_iff, ← List.length_eq_zero_iff, hl2]
    have hlv : (v.map (·.2.1)).length = v.length := List.length_map _
    rw [hvx]
    generalize hV : v.map (·.2.1) = L at *
    have hsl : ∀ s ∈ L, s.length ≤ 1048576 := fun s hsL => by
      obtain ⟨e, he, rfl⟩ := List.mem_map.1 (hper.mem_iff.1 hsL)
      exact hs e he
    have hso : Gw.View.sortT L = Gw.View.sortT (x.2.map (·.2.1)) := Gw.View.sortT_unique ((Gw.View.sortT_perm L).trans hper) (Gw.View.sortT_sorted L)
    rw [← hso]
    conv => whnf
    repeat (first | refine ⟨fun _ => ?_, fun h => absurd h (by decide)⟩ | refine ⟨fun h => absurd h (by decide), fun _ => ?_⟩ | refine ⟨fun _ => ?_, fun h => absurd (show true = false from h) (by decide)⟩ | refine ⟨fun h => absurd (show false = true from h) (by decide), fun _ => ?_⟩
            (conv => whnf))
    by_cases hL : L = []
    · subst hL
      refine ev_sound tabOk mixed _ _ _ _ ?_
      conv => whnf
      refine AC.of_pc (sort0_pc _) rfl ?_
      conv => whnf
      exact SubV.of_eq rfl
    · have hn : (encS1 L).length = L.length := encS1_len L
      have hne : encS1 L ≠ [] := fun e => hL (by cases L with | nil => rfl | cons a b => cases e)
      refine AW.thaw (m := 15) (es := [(.tmp 1, .v (.func 53 [] []))]) 5 14 ⟨rfl, rfl, trivial⟩ (by decide) rfl (by decide) rfl (by rw [hn, hlv]; rfl) (by decide) hne (fun el hel y hy => by
        obtain ⟨s, _, rfl⟩ := List.mem_map.1 hel
        rw [List.mem_singleton] at hy; subst hy; rfl) ?_
      rw [flat_S1, hn]
      refine ev_sound tabOk mixed _ _ _ _ ?_
      conv => whnf
      refine sortT_ac 15 _ L _ hsl rfl (by omega) rfl ?_
      have hx0 : decide (x.2 = []) = false := by
        rw [← hvx]
        exact decide_eq_false fun e => hL (by rw [← hV, e]; rfl)
      have hlen : (encS1 (Gw.View.sortT L)).length = L.length := by rw [encS1_len, (Gw.View.sortT_perm L).length_eq]
      have hfl := flat_S1 (Gw.View.sortT L)
      have hfll : (flatT (Gw.View.sortT L)).length = L.length := by rw [flatT, List.length_map, (Gw.View.sortT_perm L).length_eq]
      rw [hx0]
      conv => whnf
      refine .mem rfl hlen (fun el hel => by
        obtain ⟨s, _, rfl⟩ := List.mem_map.1 hel
        rfl) (by rw [hfll]; omega) ?_ ?_
      · rw [hfl, List.drop_zero, List.take_of_length_le (by rw [hfll]; omega)]
      · rw [hfl]
        exact one_flatT _
end Go.Proofs.Ytkflmicpifohhaa
