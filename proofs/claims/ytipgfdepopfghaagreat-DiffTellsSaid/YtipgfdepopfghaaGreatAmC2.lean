/- 'clear' and 'len' of a map of the call's own. No claim of its own. -/
import Derived.Test.YtipgfdepopfghaaGreatAmB
namespace Go.Am
open Go.RowKit
variable {P : Program} {T : Tab} {σ : St} {o : Oper} {n : Nat} {K : V → St → Nat → Prop}
/-- 'clear(m)'. -/
theorem AM.clearMap {mt kt et : TypeId} (hm : P.underlying mt = some (.map kt et)) {c0 : Call} (hop : o.op = .call c0) (hcal : c0.callee = .builtin .clear) (hat : c0.argTypes[0]? = some mt) {x : Operand} (hargs : c0.args = #[x])
    {m clock : Nat} {es : Es} (hx : opV σ x = .mp m) (hs : σ (.blk m) = .obj (.mp clock es))
    (hK : K (.tup []) (upd σ (.blk m) (.obj (.mp clock []))) (n + 1)) : AM P o σ n K := by
  refine ⟨fun b g a w h hr => ?_⟩
  have hrx := hr x (by simp [hop, Op.operands, Call.operands, hargs])
  rw [hx] at hrx
  obtain ⟨c, hc, ex⟩ := hrx.mp_inv
  obtain ⟨arr, h1, h2⟩ := h.obj m _ c hs hc
  have hl : (σ (.blk m)).isBlk = true := by rw [hs]; rfl
  have run : ∀ {w' : World}, (Builtin.clear_ c0.argTypes o.type #[a.eval x]).run P w = .ok (.tuple #[]) w' → (execOp a.eval o).run P w = .ok (.value (.tuple #[])) w' := by
    intro w' hb
    obtain ⟨dst, op, ty, pos, after, guard⟩ := o
    simp only at hop
    subst hop
    refine builtin_run hcal ?_
    simp only [builtin, hargs, List.map_toArray, List.map_cons, List.map_nil, Sem.run_bind, hb, Result.andThen_ok, Sem.run_pure]
  obtain ⟨hw, hh⟩ := wr_map (es' := #[]) (clock' := clock) h1
  obtain ⟨k1, k2⟩ := h.write (X := .obj (.mp clock [])) hl hc hw (fun _ => ⟨[], hh, rfl, fun i e x he => by simp at he⟩)
  refine ⟨.value (.tuple #[]), .tuple #[], _, .tup [], _, n + 1, g, run ?_, .inl rfl, hK, Nat.le_succ n, .tup (vs := []) rfl (fun i x v h1 => by simp at h1), k1.lt (Nat.le_succ n), k2⟩
  simp [Builtin.clear_, hat, ex, run_underlying hm, MapKept.run_getObj_map h1, MapKept.run_setObj_map _ h1, Result.andThen]
/-- 'len(m)'. -/
theorem AM.lenMap {mt kt et : TypeId} (hm : P.underlying mt = some (.map kt et)) {c0 : Call} (hop : o.op = .call c0) (hcal : c0.callee = .builtin .len) (hat : c0.argTypes[0]? = some mt) {x : Operand} (hargs : c0.args = #[x])
    {m clock : Nat} {es : Es} (hx : opV σ x = .mp m) (hs : σ (.blk m) = .obj (.mp clock es))
    (hK : K (.int .i64 (es.length : Nat)) σ (n + 1)) : AM P o σ n K := by
  refine ⟨fun b g a w h hr => ?_⟩
  have hrx := hr x (by simp [hop, Op.operands, Call.operands, hargs])
  rw [hx] at hrx
  obtain ⟨c, hc, ex⟩ := hrx.mp_inv
  obtain ⟨arr, h1, h2⟩ := h.obj m _ c hs hc
  have run : ∀ {w' : World} {v : Value}, (Builtin.len_ c0.argTypes o.type #[a.eval x]).run P w = .ok v w' → (execOp a.eval o).run P w = .ok (.value v) w' := by
    intro w' v hb
    obtain ⟨dst, op, ty, pos, after, guard⟩ := o
    simp only at hop
    subst hop
    refine builtin_run hcal ?_
    simp only [builtin, hargs, List.map_toArray, List.map_cons, List.map_nil, Sem.run_bind, hb, Result.andThen_ok, Sem.run_pure]
  have he : arr.length = es.length := h2.1
  have hg : goInt ((es.length : Nat) : Int) = .int .i64 ((es.length : Nat) : Int) := rfl
  refine ⟨.value (.int .i64 (es.length : Nat)), .int .i64 (es.length : Nat), w, .int .i64 (es.length : Nat), σ, n + 1, g, run ?_, .inl rfl, hK, Nat.le_succ n, .pure (.int _ _), h.lt (Nat.le_succ n), Ev.refl _ _⟩
  simp [Builtin.len_, hat, ex, run_underlying hm, MapKept.run_getObj_map h1, Result.andThen, he, hg]
/-- What was made empty may be a block's row. -/
theorem AW.browOf {r : Option Nat} {nt lo : Nat} {c : Code} {K : Exit → St → Nat → Prop} (t : Nat) {isNil : Bool} {sz id : Nat} (hs : σ (.tmp t) = .v (.lst isNil sz [] (.row id)))
    (h : AW P r nt lo c (upd σ (.tmp t) (.v (.lst isNil sz [] (.brow id)))) n K) : AW P r nt lo c σ n K := by
  refine ⟨fun b tp a w h0 hsim => ?_⟩
  obtain ⟨g, hh, hf, hE, hn⟩ := hsim
  refine h.run b tp a w h0 ⟨g, hh.congr (fun id => upd_ne (by intro e; cases e)) (fun id => upd_ne (by intro e; cases e)), ⟨hf.size, hf.defers, fun i hi => ?_⟩, hE, hn⟩
  have hr := hf.rep i hi
  by_cases hit : i = t
  · subst hit
    have e1 : tmpV σ i = .lst isNil sz [] (.row id) := by unfold tmpV; rw [hs]
    rw [e1] at hr
    rw [tmpV_set]
    obtain ⟨ad, c', ev, hp, ht⟩ := hr.lst_inv
    rw [ev]
    obtain ⟨bk, N, t1, t2, t3⟩ := ht
    exact .lst hp ⟨bk, N, t1, t2, fun e => (t3 e).imp (fun q => ⟨q, rfl⟩) fun q => q⟩
  · rw [tmpV_ne (by intro e; cases e; exact hit rfl)]
    exact hr
end Go.Am
