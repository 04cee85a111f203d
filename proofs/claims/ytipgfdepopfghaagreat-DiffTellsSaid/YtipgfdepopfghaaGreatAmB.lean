/- More rules of the machine without addresses. No claim of its own. -/
import Derived.Test.YtipgfdepopfghaaGreatAm3
namespace Go.Am
open Go.RowKit

/-- An empty slice that has no room behind it is, from here on, a row of the call's own, that nothing else looks at. -/
theorem AW.rowT {P : Program} {σ : St} {r : Option Nat} {nt lo n : Nat} {c : Code} {K : Exit → St → Nat → Prop} (t : Nat) (e : TypeId) (sz' : Nat) {isNil : Bool} {sz : Nat} (hs : σ (.tmp t) = .v (.lst isNil sz [] .tight)) (_ht : Nat.blt t nt = true)
    (h : AW P r nt lo c (upd (upd σ (.row n) (.row e sz' 0)) (.tmp t) (.v (.lst isNil sz' [] (.brow n)))) (n + 1) K) : AW P r nt lo c σ n K := by
  refine ⟨fun b tp a w h0 hsim => ?_⟩
  obtain ⟨g, hh, hf, hE, hn⟩ := hsim
  obtain ⟨h1, h2⟩ := hh.noRow (t := e) (sz := sz') (N := 0) hh.fresh.2
  have h3 : HSim b (upd (upd σ (.row n) (.row e sz' 0)) (.tmp t) (.v (.lst isNil sz' [] (.brow n)))) (· < n + 1) (g.noRow n 0) w :=
    (h1.congr (fun id => upd_ne (by intro e; cases e)) (fun id => upd_ne (by intro e; cases e))).widen (fun i hi => by rcases hi with hi | hi <;> omega)
  refine h.run b tp a w h0 ⟨_, h3, ⟨hf.size, hf.defers, fun i hi => ?_⟩, hE.trans h2, by omega⟩
  have hr := hf.rep i hi
  by_cases hit : i = t
  · subst hit
    have e1 : tmpV σ i = .lst isNil sz [] .tight := by unfold tmpV; rw [hs]
    rw [e1] at hr
    rw [tmpV_set]
    obtain ⟨ad, c', ev, hp, htok⟩ := (hr.mono h2).lst_inv
    rw [ev]
    refine .lst ((SubV.nil _ _ _).rep _ _ _ hp) ?_
    exact ⟨none, 0, by simp [G.noRow], Nat.le_refl _, fun _ => .inl ⟨htok, rfl⟩⟩
  · rw [tmpV_ne (by intro e; cases e; exact hit rfl)]
    have e2 : tmpV (upd σ (.row n) (.row e sz' 0)) i = tmpV σ i := by unfold tmpV; rw [upd_ne (by intro e; cases e)]
    rw [e2]
    exact hr.mono h2
/-- An empty slice is one of cells of any size. -/
theorem AW.nilSlot {P : Program} {σ : St} {r : Option Nat} {nt lo n : Nat} {c : Code} {K : Exit → St → Nat → Prop} (t : Nat) (sz' : Nat) {isNil : Bool} {sz : Nat} {tk : Tok} (hs : σ (.tmp t) = .v (.lst isNil sz [] tk))
    (h : AW P r nt lo c (upd σ (.tmp t) (.v (.lst isNil sz' [] .none))) n K) : AW P r nt lo c σ n K := by
  refine ⟨fun b tp a w h0 hsim => ?_⟩
  obtain ⟨g, hh, hf, hE, hn⟩ := hsim
  refine h.run b tp a w h0 ⟨g, hh.congr (fun id => upd_ne (by intro e; cases e)) (fun id => upd_ne (by intro e; cases e)), ⟨hf.size, hf.defers, fun i hi => ?_⟩, hE, hn⟩
  have hr := hf.rep i hi
  by_cases hit : i = t
  · subst hit
    have e1 : tmpV σ i = .lst isNil sz [] tk := by unfold tmpV; rw [hs]
    rw [e1] at hr
    rw [tmpV_set]
    obtain ⟨ad, c', ev, hp, _⟩ := hr.lst_inv
    rw [ev]
    exact .lst ((SubV.nil _ _ _).rep _ _ _ hp) trivial
  · rw [tmpV_ne (by intro e; cases e; exact hit rfl)]
    exact hr

variable {P : Program} {T : Tab} {σ : St}
/-- The same, of code in parts. -/
theorem PR.ofA (hT : TOk P T) {f : FuncId} {fn : Func} {c : Code} (hf : P.funcs[f]? = some fn) (hb : fn.body = some c) (hn : (fn.name == "runtime.NumGoroutine") = false) {args : List V} {R : V → Prop} (hl : Nat.ble args.length fn.ntmps = true) (hro : rvOk fn.ntmps fn.results.toList = true)
    (h : AW P none fn.ntmps 0 c (initSt args) 0 (retP R T fn)) : PR P f args R := by
  refine ⟨enters_of hf hb hn, fun w F vals hG hF hvl hv => ?_⟩
  have hle : args.length ≤ fn.ntmps := Nat.le_of_ble_eq_true hl
  refine callsIn_wide.1 (callsIn_of_wp_marks (F := Fence.wide) (n := 0) hf hb trivial ?_)
  let b : Base P := Base.plain w F hG hF
  let g0 : G := ⟨F, fun _ => none, fun _ => none⟩
  let t : Top := ⟨g0, w, 0, (fun _ _ h => by cases h), (fun _ _ h => by cases h)⟩
  have hsim : Sim b t fn.ntmps (initSt args) 0 { tmps := vals.toArray ++ Array.replicate (fn.ntmps - vals.toArray.size) undef, defers := [] } w := by
    refine ⟨g0, HSim.init w F hG hF args, ⟨by simp; omega, trivial, fun i hi => ?_⟩, Ev.refl _ _, Nat.le_refl _⟩
    unfold tmpV
    simp only [initSt, nth_eq]
    cases hx : args[i]? with
    | none => exact .junk
    | some x =>
      have hi' : i < vals.length := by have := (List.getElem?_eq_some_iff.1 hx).1; omega
      have : (vals.toArray ++ Array.replicate (fn.ntmps - vals.toArray.size) undef).getD i undef = vals[i] := by
        simp [Array.getElem?_append, hi']
      simp only
      rw [this]
      exact .pure (hv i x _ hx (List.getElem?_eq_getElem hi'))
  refine wpIn_mono (h.run b t _ w (Nat.le_refl 0) hsim) ?_
  rintro e a' w' ⟨σ', n', hk, g', hs, hfs, hE, _⟩
  have fin : ∀ vs res, R res → resVs σ' T fn.results.toList = some vs → finK SubV σ' (oneOr vs) res → LeavesInM Fence.wide 0 P fn a'.tmps (fun e w' => ∃ v' F' res, e = .returned v' ∧ (Below w.heap.size w w' ∧ w.drawn ≤ w'.drawn) ∧ (∀ k o, F k o → F' k o) ∧ (∀ k o, F' k o → F k o ∨ (w.heap.size ≤ k ∧ k < w'.heap.size)) ∧ R res ∧ PRep w' F' res v') a'.defers .returning w' := by
    intro vs res hR hvs hfin
    refine leaves_marks hfs.defers fun w'' hsh => ?_
    have hs := hs.shut hsh (Nat.le_refl _)
    have hf2 : FSim (Base.W b).heap.size fn.ntmps σ' g' ⟨a'.tmps, []⟩ w'' := ⟨hfs.size, trivial, fun i hi => (hfs.rep i hi).monoC (hsh.evC g')⟩
    obtain ⟨val, hrun, hrep⟩ := results_one hT hs hf2 hro hvs
    refine ⟨val, hrun, val, fun k o => g'.F k o ∨ (w.heap.size ≤ k ∧ k < w''.heap.size), res, rfl, ⟨hs.below.below (fun _ h => h), Nat.le_trans hE.drawn (Nat.le_of_eq hsh.drawn.symm)⟩, fun k o hk => .inl (hs.f0 k o hk), fun k o hk => ?_, hR, ?_⟩
    · rcases hk with hk | hk
      · rcases Nat.lt_or_ge k w.heap.size with h1 | h1
        · exact .inl (hs.f1 k o hk h1 (fun h => h))
        · exact .inr ⟨h1, hs.flt k o hk⟩
      · exact .inr hk
    · unfold finK at hfin
      cases hp : pureFull (oneOr vs) with
      | true =>
        simp only [hp] at hfin
        have hfin := normV_iff.1 hfin
        exact hfin.rep _ _ _ ((pureFull_rep hp hrep).mono fun k o hk => ⟨.inl hk, rfl⟩)
      | false =>
        simp only [hp] at hfin
        exact hfin.rep hs (fun k o hk => .inl hk) (fun id c hc hl o => by
          obtain ⟨c', h1, h2, h3, _⟩ := hs.live id hl
          rw [hc] at h1; cases h1
          exact .inr ⟨h2.resolve_right (fun h => h), h3⟩) hrep
  cases e with
  | normal =>
    simp only [retP] at hk
    cases hvs : resVs σ' T fn.results.toList with
    | none => simp only [hvs] at hk
    | some vs =>
      simp only [hvs] at hk
      obtain ⟨res, hR, hk⟩ := hk
      exact fin vs res hR hvs hk
  | ret =>
    simp only [retP] at hk
    cases hvs : resVs σ' T fn.results.toList with
    | none => simp only [hvs] at hk
    | some vs =>
      simp only [hvs] at hk
      obtain ⟨res, hR, hk⟩ := hk
      exact fin vs res hR hvs hk
  | _ => exact hk.elim
theorem PC.of_pr {f : FuncId} {args : List V} {res : V} (h : PR P f args (fun r => SubV r res)) : PC P f args res :=
  ⟨h.enters, fun w F vals h0 h1 h2 h3 => (h.run w F vals h0 h1 h2 h3).mono fun _ _ ⟨v, F', _, e1, e2, e3, e4, e5, e6⟩ => ⟨v, F', e1, e2, e3, e4, e5.rep _ _ _ e6⟩⟩
theorem AC.ofA (hT : TOk P T) {f : FuncId} {fn : Func} {c : Code} (hf : P.funcs[f]? = some fn) (hb : fn.body = some c) (hn : (fn.name == "runtime.NumGoroutine") = false) {args : List V} {σ : St} {n : Nat} {K : V → St → Nat → Prop} (hl : Nat.ble args.length fn.ntmps = true) (hro : rvOk fn.ntmps fn.results.toList = true)
    (h : AW P none fn.ntmps n c (initOn σ args) n (retA T fn K)) : AC P f args σ n K := by
  refine ⟨enters_of hf hb hn, fun b g w vals hs hvl hv => ?_⟩
  have hle : args.length ≤ fn.ntmps := Nat.le_of_ble_eq_true hl
  refine callsIn_wide.1 (callsIn_of_wp_marks (F := Fence.wide) (n := 0) hf hb trivial ?_)
  let t : Top := ⟨g, w, n, (fun id c hc => hs.ownlt id c hc), (fun id x hx => hs.rowlt id x hx)⟩
  have hsim : Sim b t fn.ntmps (initOn σ args) n { tmps := vals.toArray ++ Array.replicate (fn.ntmps - vals.toArray.size) undef, defers := [] } w := by
    refine ⟨g, hs.congr (fun _ => rfl) (fun _ => rfl), ⟨by simp; omega, trivial, fun i hi => ?_⟩, Ev.refl _ _, Nat.le_refl _⟩
    unfold tmpV
    simp only [initOn, nth_eq]
    cases hx : args[i]? with
    | none => exact .junk
    | some x =>
      have hi' : i < vals.length := by have := (List.getElem?_eq_some_iff.1 hx).1; omega
      have : (vals.toArray ++ Array.replicate (fn.ntmps - vals.toArray.size) undef).getD i undef = vals[i] := by
        simp [Array.getElem?_append, hi']
      simp only
      rw [this]
      exact hv i x _ hx (List.getElem?_eq_getElem hi')
  refine wpIn_mono (h.run b t _ w (Nat.le_refl n) hsim) ?_
  rintro e a' w' ⟨σ', n', hk, g', hs', hfs, hE, hn'⟩
  have fin : ∀ vs, resVs σ' T fn.results.toList = some vs → K (oneOr vs) σ' n' → LeavesInM Fence.wide 0 P fn a'.tmps (fun e w' => ∃ v x σ' n' g', e = .returned v ∧ K x σ' n' ∧ n ≤ n' ∧ Rep w' g' x v ∧ HSim b σ' (· < n') g' w' ∧ Ev g w g' w') a'.defers .returning w' := by
    intro vs hvs hfin
    refine leaves_marks hfs.defers fun w'' hsh => ?_
    have hB : b.W.heap.size ≤ w.heap.size := hs.below.size
    have hs' := hs'.shut hsh hB
    have hf2 : FSim w.heap.size fn.ntmps σ' g' ⟨a'.tmps, []⟩ w'' := ⟨hfs.size, trivial, fun i hi => (hfs.rep i hi).monoC (hsh.evC g')⟩
    obtain ⟨val, hrun, hrep⟩ := results_one hT hs' hf2 hro hvs
    exact ⟨val, hrun, val, oneOr vs, σ', n', g', rfl, hfin, hn', hrep, hs', hE.shut hsh⟩
  cases e with
  | normal =>
    simp only [retA] at hk
    cases hvs : resVs σ' T fn.results.toList with
    | none => simp only [hvs] at hk
    | some vs =>
      simp only [hvs] at hk
      exact fin vs hvs hk
  | ret =>
    simp only [retA] at hk
    cases hvs : resVs σ' T fn.results.toList with
    | none => simp only [hvs] at hk
    | some vs =>
      simp only [hvs] at hk
      exact fin vs hvs hk
  | _ => exact hk.elim
end Go.Am
