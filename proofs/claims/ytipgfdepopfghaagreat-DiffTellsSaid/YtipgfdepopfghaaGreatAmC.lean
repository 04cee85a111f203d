/- 'clear' of a slice of the call's own. No claim of its own. -/
import Derived.Test.YtipgfdepopfghaaGreatAmB
namespace Go.Am
open Go.RowKit

def plainV : V → Bool
  | .int _ _ => true
  | .str _ => true
  | _ => false
theorem plain_prep {w : World} {g : G} {x : V} {v : Value} (h : Rep w g x v) (hx : plainV x = true) : PRep w g.F x v ∧ v.oneCell' = true := by
  cases x with
  | int k n => cases h with | pure h => cases h; exact ⟨.int _ _, rfl⟩
  | str s => cases h with | pure h => cases h with | str h => exact ⟨.str h, rfl⟩
  | _ => cases hx
variable {P : Program} {T : Tab} {σ : St} {o : Oper} {n : Nat} {K : V → St → Nat → Prop}
/-- Zeros for so many cells. -/
def zeroRow (zero : List V) (sz k : Nat) : List V := (List.range k).map fun i => (zero[i % sz]?).getD .junk
theorem AM.clearOwn (hT : TOk P T) {t0 e : TypeId} (hu : P.underlying t0 = some (.slice e)) {c0 : Call} (hop : o.op = .call c0) (hcal : c0.callee = .builtin .clear) (hat : c0.argTypes[0]? = some t0) {x : Operand} (hargs : c0.args = #[x])
    {id off sz len : Nat} {full : Bool} (hx : opV σ x = .own id off sz len full) {bt : TypeId} {cells : List V} (hs : σ (.blk id) = .mem bt cells) {r : TRow} (hr : nthT T e = some r) (hsz : r.size = sz) (hz : r.zero.all plainV = true) (hle : off + len * sz ≤ cells.length)
    (hK : ∀ cells' : List V, cells'.take off = cells.take off → K (.tup []) (upd σ (.blk id) (.mem bt cells')) (n + 1)) : AM P o σ n K := by
  refine ⟨fun b g a w h hrr => ?_⟩
  have hrx := hrr x (by simp [hop, Op.operands, Call.operands, hargs])
  rw [hx] at hrx
  obtain ⟨c, cap, ad, q1, ex, q3, q4, q5, q6⟩ := hrx.own_inv
  obtain ⟨ad', rfl⟩ := Option.isSome_iff_exists.1 q4
  obtain ⟨arr, z, m1, m2, m3, m4⟩ := h.mem id bt cells c hs q1
  obtain ⟨ti, zv, z1, z2, z3, _, z4, z5, z6, _⟩ := TRow.zero_rep hT hr
  have hzl : zv.cells.size = sz := by rw [z4, hsz]
  have run : ∀ {w' : World}, (Builtin.clear_ c0.argTypes o.type #[a.eval x]).run P w = .ok (.tuple #[]) w' → (execOp a.eval o).run P w = .ok (.value (.tuple #[])) w' := by
    intro w' hb
    obtain ⟨dst, op, ty, pos, after, guard⟩ := o
    simp only at hop
    subst hop
    refine builtin_run hcal ?_
    simp only [builtin, hargs, List.map_toArray, List.map_cons, List.map_nil, Sem.run_bind, hb, Result.andThen_ok, Sem.run_pure]
  have hlen : (zeroRow r.zero sz (len * sz)).length = len * sz := by simp [zeroRow]
  have hvl : (Builtin.zeroCells zv.cells len).toList.length = len * sz := by simp [Builtin.zeroCells, hzl]
  have hrep : ∀ (i : Nat) (y : V) (v : Value), (zeroRow r.zero sz (len * sz))[i]? = some y → (Builtin.zeroCells zv.cells len).toList[i]? = some v → PRep w g.F y v ∧ v.oneCell' = true := by
    intro i y v hy hv
    have hi : i < len * sz := by rw [← hlen]; exact (List.getElem?_eq_some_iff.1 hy).1
    have hpos : 0 < sz := by
      rcases Nat.eq_zero_or_pos sz with e0 | e0
      · subst e0; simp at hi
      · exact e0
    have hm : i % sz < sz := Nat.mod_lt _ hpos
    have hm1 : i % sz < r.zero.length := by omega
    have hm2 : i % sz < zv.cells.size := by omega
    have e1 : y = r.zero[i % sz] := by
      simp only [zeroRow, List.getElem?_map, List.getElem?_range hi, Option.map_some, List.getElem?_eq_getElem hm1, Option.getD_some, Option.some.injEq] at hy
      exact hy.symm
    have e2 : v = zv.cells[i % sz] := by
      have hv' : (Builtin.zeroCells zv.cells len)[i]? = some v := by simpa using hv
      simp only [Builtin.zeroCells, hzl, Array.getElem?_map, Array.getElem?_range, hi, if_pos, Option.map_some, Option.some.injEq] at hv'
      rw [← hv', getElem!_pos zv.cells (i % sz) hm2]
    subst e1 e2
    exact plain_prep (z6 w g (i % sz) _ _ (List.getElem?_eq_getElem hm1) (by simp [hm2])) (List.all_eq_true.1 hz _ (List.getElem_mem hm1))
  have store : ∃ w', (Builtin.clear_ c0.argTypes o.type #[a.eval x]).run P w = .ok (.tuple #[]) w' ∧ Wr c w w' ∧ w'.heap[c]? = some (.cells (arr.take off ++ (Builtin.zeroCells zv.cells len).toList ++ arr.drop (off + (Builtin.zeroCells zv.cells len).toList.length)).toArray bt z) := by
    rcases Nat.eq_zero_or_pos len with h0 | h0
    · subst h0
      refine ⟨w, ?_, ⟨rfl, rfl, rfl, rfl, fun _ _ => rfl, rfl, fun _ h => h, rfl⟩, by simp [m1, Builtin.zeroCells]⟩
      simp [Builtin.clear_, hat, ex, run_underlying hu, Result.andThen]
    · have e := q3 h0
      cases e
      obtain ⟨w', r1, r2, r3⟩ := run_storeCells_row (P := P) c (Builtin.zeroCells zv.cells len).toList off 0 arr w m1 (by rw [hvl]; omega) (fun o ho => m3 o ho) (fun u hu' => by
        obtain ⟨i, hi, rfl⟩ := List.getElem_of_mem hu'
        exact (hrep i _ _ (List.getElem?_eq_getElem (by omega)) (List.getElem?_eq_getElem hi)).2)
      refine ⟨w', ?_, r2, by simpa using r3⟩
      have hzr : (zeroValue e).run P w = .ok zv w := by simp [zeroValue, typeInfo, z1, z2]
      obtain ⟨k, rfl⟩ : ∃ k, len = k + 1 := ⟨len - 1, by omega⟩
      simp only [Builtin.clear_, hat, ex, List.getElem?_toArray, List.getElem?_cons_zero, Sem.run_bind, run_underlying hu, Result.andThen_ok, hzr, r1, Sem.run_pure]
  obtain ⟨w', r1, r2, r3⟩ := store
  have hE : Ev g w g w' := Ev.write r2 (fun o => by obtain ⟨c', p1, _, _, p2⟩ := h.live id (by rw [hs]; rfl); rw [q1] at p1; cases p1; exact p2 o)
  obtain ⟨k1, k2⟩ := h.write (X := .mem bt (cells.take off ++ zeroRow r.zero sz (len * sz) ++ cells.drop (off + len * sz))) (by rw [hs]; rfl) q1 r2 (fun _ => by
    refine ⟨_, z, r3, by simp [hlen, hvl]; omega, fun o ho => m3 o (by simp [hvl] at ho; omega), fun i y u hy hu => ?_⟩
    refine PRep.mono hE.F (splice_rep (R := PRep w g.F) (cells := cells) (src := zeroRow r.zero sz (len * sz)) (arr := arr) (nv := (Builtin.zeroCells zv.cells len).toList) (off := off) (by omega) m2 (by omega) m4 (fun i x v hx hv => (hrep i x v hx hv).1) i y u ?_ hu)
    rw [hlen]; exact hy)
  exact ⟨.value (.tuple #[]), .tuple #[], w', .tup [], _, n + 1, g, run r1, .inl rfl, hK _ (by rw [List.append_assoc, List.take_left' (by rw [List.length_take]; omega)]), Nat.le_succ n, .tup (vs := []) rfl (fun i x v h1 => by simp at h1), k1.lt (Nat.le_succ n), k2⟩
end Go.Am
