/- What call.Take does: a call is taken from the front, or the panic is recovered. No claim of its own. -/
import Derived.Test.YtfmhkfijnflalaaDoorCallRec
import Derived.Test.YtfmhkfijnflalaaDoorCallTkA
import Derived.Test.YtfmhkfijnflalaaDoorCallTkB
import Derived.Test.YtfmhkfijnflalaaDoorCallTkC
namespace Go.Proofs.YtfmhkfijnflalaaDoor
open Go.RowKit Go.Am

theorem call_any (b : Nat) (l : List UInt8) (hl0 : l.length ≤ 1048576) (w : World) (h : AtS b l w) : Calls Tryd.prog 26 #[.pointer (some ⟨b, 0, none⟩)] w (CallEnd b (Gw.Call.take l) w) := by
  unfold Gw.Call.take
  cases ht : Gw.Vlq.take l with
  | none => exact call_k0 b l hl0 w h ht
  | some ku =>
    obtain ⟨k, u⟩ := ku
    show Calls _ _ _ _ (CallEnd b (Gw.Call.t0 k (l.drop u)) w)
    cases hh : Gw.Call.has (k : Int) with
    | none => rw [t0_none hh]; exact call_k1 b l hl0 w h ht hh
    | some p =>
      rcases has_few hh with ⟨_, rfl⟩ | ⟨_, rfl⟩ | ⟨_, rfl⟩ | ⟨_, rfl⟩ | ⟨_, rfl⟩ | ⟨_, rfl⟩ | ⟨_, rfl⟩
      · exact call_p0 b l hl0 w h ht hh
      · exact call_p1 b l hl0 w h ht hh
      · exact call_p2 b l hl0 w h ht hh
      · exact call_p3 b l hl0 w h ht hh
      · exact call_p4 b l hl0 w h ht hh
      · exact call_p5 b l hl0 w h ht hh
      · exact call_p6 b l hl0 w h ht hh
def takenV (o : Option (Gw.Call.Call × List UInt8)) : Value := match o with
  | none => .tuple #[.agg (valK ⟨0, [], [], [], 0⟩), .string ⟨#[]⟩, .int .i64 180]
  | some (c, r) => .tuple #[.agg (valK c), .string ⟨r.toArray⟩, .int .i64 0]
theorem Below.of_ho {b : Nat} {w w' : World} (h : Ho b w w') {B : Nat} (hB : B ≤ b) (hs : B ≤ w.heap.size) : Below B w w' :=
  ⟨h.os, h.tape, h.output, h.size, fun k hk => h.block k (by omega) (by omega)⟩
theorem Ho.cell {b : Nat} {w w' : World} (h : Ho b w w') {k i : Nat} (hk : k < w.heap.size) (hb : k ≠ b) : w'.cell? ⟨k, i, none⟩ = w.cell? ⟨k, i, none⟩ := World.cell?_of_block (h.block k hk hb)
theorem Ho.frozen {b : Nat} {w w' : World} (h : Ho b w w') {k i : Nat} (hk : k < w.heap.size) (hb : k ≠ b) : w'.frozen? ⟨k, i, none⟩ = w.frozen? ⟨k, i, none⟩ := World.frozen?_of_block (h.block k hk hb)
theorem Ho.five {b c : Nat} {v0 v1 v2 v3 v4 : Value} {w w' : World} (h : Ho b w w') (h5 : Five c v0 v1 v2 v3 v4 w) (hb : c ≠ b) : Five c v0 v1 v2 v3 v4 w' := (h.block c h5.lt hb).trans h5
/-- The world when source.call is called. -/
theorem take_world (w : World) (l : List UInt8) : ∃ x : World, x = ((((w.alloc (.cells #[.int .i64 0, .string ⟨#[]⟩, .string ⟨#[]⟩, .string ⟨#[]⟩, .int .i64 0] 23)).alloc (.cells #[.string ⟨#[]⟩] 9)).alloc (.cells #[.int .i64 0] 27)).alloc (.cells #[.string ⟨l.toArray⟩] 51)) ∧
    Below w.heap.size w x ∧ x.heap.size = w.heap.size + 1 + 1 + 1 + 1 ∧ Five w.heap.size (.int .i64 0) (.string ⟨#[]⟩) (.string ⟨#[]⟩) (.string ⟨#[]⟩) (.int .i64 0) x ∧ x.heap[w.heap.size + 1]? = some (.cells [.string ⟨#[]⟩].toArray 9 (0, 0)) ∧ x.heap[w.heap.size + 1 + 1]? = some (.cells [.int .i64 0].toArray 27 (0, 0)) ∧ AtS (w.heap.size + 1 + 1 + 1) l x := by
  refine ⟨_, rfl, ((((Below.refl _ w).alloc (Nat.le_refl _) _).alloc (by simp) _).alloc (by simp; omega) _).alloc (by simp; omega) _, by simp, (((Five.new w _ _ _ _ _).alloc _).alloc _).alloc _, ?_, ?_, ?_⟩
  · rw [Below.heap_alloc _ _ _ (by simp), Below.heap_alloc _ _ _ (by simp)]
    have := heap_alloc_new (w.alloc (.cells #[.int .i64 0, .string ⟨#[]⟩, .string ⟨#[]⟩, .string ⟨#[]⟩, .int .i64 0] 23)) (.cells #[.string ⟨#[]⟩] 9)
    simpa using this
  · rw [Below.heap_alloc _ _ _ (by simp)]
    have := heap_alloc_new ((w.alloc (.cells #[.int .i64 0, .string ⟨#[]⟩, .string ⟨#[]⟩, .string ⟨#[]⟩, .int .i64 0] 23)).alloc (.cells #[.string ⟨#[]⟩] 9)) (.cells #[.int .i64 0] 27)
    simpa using this
  · have := heap_alloc_new (((w.alloc (.cells #[.int .i64 0, .string ⟨#[]⟩, .string ⟨#[]⟩, .string ⟨#[]⟩, .int .i64 0] 23)).alloc (.cells #[.string ⟨#[]⟩] 9)).alloc (.cells #[.int .i64 0] 27)) (.cells #[.string ⟨l.toArray⟩] 51)
    unfold AtS
    simpa using this
set_option maxHeartbeats 2000000 in
theorem calltake_none (l : List UInt8) (hl : l.length ≤ 1048576) (hn : Gw.Call.take l = none) (w : World) :
    Calls Tryd.prog 12 #[.string ⟨l.toArray⟩] w fun e w' => e = .returned (takenV none) ∧ Below w.heap.size w w' := by
  have hmf : ∀ (fn : Fn) (first cap : Array Value) (w : World), (Instr.makeFunc fn first cap).run Tryd.prog w = .ok (.func fn first cap) w := fun _ _ _ _ => rfl
  obtain ⟨x, hx, hbx, hsx, h5, hq, hr, hat⟩ := take_world w l
  have hC := call_any _ l hl x hat
  rw [hn] at hC
  go_enter_defers Tryd.func12, Tryd.ntmps12
  go_wp2_with fail
  rw [← hx]
  clear hx
  refine hC.mono ?_
  rintro e w1 ⟨rfl, ho⟩
  have g5 := ho.five h5 (by omega)
  have gq : w1.heap[w.heap.size + 1]? = _ := (ho.block _ (by omega) (by omega)).trans hq
  have gr : w1.heap[w.heap.size + 1 + 1]? = _ := (ho.block _ (by omega) (by omega)).trans hr
  have hR := rec_panics w.heap.size (w.heap.size + 1) (w.heap.size + 1 + 1) _ _ _ _ _ _ _ [] w1 g5 (by rw [cell_row gq]; rfl) (frozen_row gq (by simp)) (by rw [cell_row gr]; rfl) (frozen_row gr (by simp)) (by omega) (by omega) (by omega)
  go_wp2_with fail
  refine leaves_cons (f := 25) (args := #[.pointer (some ⟨w.heap.size, 0, none⟩), .pointer (some ⟨w.heap.size + 1, 0, none⟩), .pointer (some ⟨w.heap.size + 1 + 1, 0, none⟩)]) (by simp) (by simp [go_sem]) ?_
  refine hR.mono ?_
  rintro e u' w2 ⟨rfl, rfl, hb2, k5, kq, kr⟩
  obtain ⟨z0, z1, z2, z3, z4, _⟩ := k5.cells
  have hBB : Below w.heap.size w w2 := by
    have h1 := Below.of_ho ho (B := w.heap.size) (by omega) (by omega)
    have h2 : min w.heap.size (min (w.heap.size + 1) (w.heap.size + 1 + 1)) = w.heap.size := by omega
    rw [h2] at hb2
    exact (hbx.trans h1).trans hb2
  simp [Leaves, settle, results, Tryd.results12, go_sem, z0, z1, z2, z3, z4, kq, kr]
  exact ⟨rfl, hBB⟩
theorem take_final (P : Nat) (c : Gw.Call.Call) (r : List UInt8) (v0 v1 v2 v3 v4 v5 v6 : Value) (w1 : World) (hp : Five P v0 v1 v2 v3 v4 w1) (hq : w1.cell? ⟨P + 1, 0, none⟩ = some v5) (hr : w1.cell? ⟨P + 1 + 1, 0, none⟩ = some v6) :
    ∃ y : World, y = ((((((((((((w1.setCell ⟨P, 0, none⟩ (.int .i64 c.kind)).setCell ⟨P, 1, none⟩ (.string ⟨c.path.toArray⟩)).setCell ⟨P, 2, none⟩ (.string ⟨c.to.toArray⟩)).setCell ⟨P, 3, none⟩ (.string ⟨c.data.toArray⟩)).setCell ⟨P, 4, none⟩ (.int .i64 c.n)).setCell ⟨P, 0, none⟩ (.int .i64 c.kind)).setCell ⟨P, 1, none⟩ (.string ⟨c.path.toArray⟩)).setCell ⟨P, 2, none⟩ (.string ⟨c.to.toArray⟩)).setCell ⟨P, 3, none⟩ (.string ⟨c.data.toArray⟩)).setCell ⟨P, 4, none⟩ (.int .i64 c.n)).setCell ⟨P + 1, 0, none⟩ (.string ⟨r.toArray⟩)).setCell ⟨P + 1 + 1, 0, none⟩ (.int .i64 0)).drew ∧ Below P w1 y ∧ Five P (.int .i64 c.kind) (.string ⟨c.path.toArray⟩) (.string ⟨c.to.toArray⟩) (.string ⟨c.data.toArray⟩) (.int .i64 c.n) y ∧ y.cell? ⟨P + 1, 0, none⟩ = some (.string ⟨r.toArray⟩) ∧ y.cell? ⟨P + 1 + 1, 0, none⟩ = some (.int .i64 0) := by
  refine ⟨_, rfl, Below.drew (Below.setCell (p := ⟨P + 1 + 1, 0, none⟩) (Below.setCell (p := ⟨P + 1, 0, none⟩) (Below.setCell (p := ⟨P, 4, none⟩) (Below.setCell (p := ⟨P, 3, none⟩) (Below.setCell (p := ⟨P, 2, none⟩) (Below.setCell (p := ⟨P, 1, none⟩) (Below.setCell (p := ⟨P, 0, none⟩) (Below.setCell (p := ⟨P, 4, none⟩) (Below.setCell (p := ⟨P, 3, none⟩) (Below.setCell (p := ⟨P, 2, none⟩) (Below.setCell (p := ⟨P, 1, none⟩) (Below.setCell (p := ⟨P, 0, none⟩) (Below.refl P w1) (Nat.le_refl _) _) (Nat.le_refl _) _) (Nat.le_refl _) _) (Nat.le_refl _) _) (Nat.le_refl _) _) (Nat.le_refl _) _) (Nat.le_refl _) _) (Nat.le_refl _) _) (Nat.le_refl _) _) (Nat.le_refl _) _) (by simp only; omega) _) (by simp only; omega) _), ((((((((((((hp.set0 (v := (.int .i64 c.kind))).set1 (v := (.string ⟨c.path.toArray⟩))).set2 (v := (.string ⟨c.to.toArray⟩))).set3 (v := (.string ⟨c.data.toArray⟩))).set4 (v := (.int .i64 c.n))).set0 (v := (.int .i64 c.kind))).set1 (v := (.string ⟨c.path.toArray⟩))).set2 (v := (.string ⟨c.to.toArray⟩))).set3 (v := (.string ⟨c.data.toArray⟩))).set4 (v := (.int .i64 c.n))).other (d := P + 1) (by omega)).other (d := P + 1 + 1) (by omega)).drew, ?_, ?_⟩
  · rw [cell_drew, cell_set_other (by omega : P + 1 ≠ P + 1 + 1)]
    refine World.cell?_setCell_same (u := v5) _ _ _ ?_
    rw [cell_set_other (by omega : P + 1 ≠ P), cell_set_other (by omega : P + 1 ≠ P), cell_set_other (by omega : P + 1 ≠ P), cell_set_other (by omega : P + 1 ≠ P), cell_set_other (by omega : P + 1 ≠ P), cell_set_other (by omega : P + 1 ≠ P), cell_set_other (by omega : P + 1 ≠ P), cell_set_other (by omega : P + 1 ≠ P), cell_set_other (by omega : P + 1 ≠ P), cell_set_other (by omega : P + 1 ≠ P)]
    exact hq
  · rw [cell_drew]
    refine World.cell?_setCell_same (u := v6) _ _ _ ?_
    rw [cell_set_other (by omega : P + 1 + 1 ≠ P + 1)]
    rw [cell_set_other (by omega : P + 1 + 1 ≠ P), cell_set_other (by omega : P + 1 + 1 ≠ P), cell_set_other (by omega : P + 1 + 1 ≠ P), cell_set_other (by omega : P + 1 + 1 ≠ P), cell_set_other (by omega : P + 1 + 1 ≠ P), cell_set_other (by omega : P + 1 + 1 ≠ P), cell_set_other (by omega : P + 1 + 1 ≠ P), cell_set_other (by omega : P + 1 + 1 ≠ P), cell_set_other (by omega : P + 1 + 1 ≠ P), cell_set_other (by omega : P + 1 + 1 ≠ P)]
    exact hr
set_option maxHeartbeats 4000000 in
theorem calltake_some (l : List UInt8) (hl : l.length ≤ 1048576) {c : Gw.Call.Call} {r : List UInt8} (hn : Gw.Call.take l = some (c, r)) (w : World) :
    Calls Tryd.prog 12 #[.string ⟨l.toArray⟩] w fun e w' => e = .returned (takenV (some (c, r))) ∧ Below w.heap.size w w' := by
  have hmf : ∀ (fn : Fn) (first cap : Array Value) (w : World), (Instr.makeFunc fn first cap).run Tryd.prog w = .ok (.func fn first cap) w := fun _ _ _ _ => rfl
  obtain ⟨x, hx, hbx, hsx, h5, hq, hr, hat⟩ := take_world w l
  have hC := call_any _ l hl x hat
  rw [hn] at hC
  go_enter_defers Tryd.func12, Tryd.ntmps12
  go_wp2_with fail
  rw [← hx]
  clear hx
  refine hC.mono ?_
  rintro e w1 ⟨rfl, ho, ha⟩
  have g5 := ho.five h5 (by omega)
  have gq : w1.heap[w.heap.size + 1]? = _ := (ho.block _ (by omega) (by omega)).trans hq
  have gr : w1.heap[w.heap.size + 1 + 1]? = _ := (ho.block _ (by omega) (by omega)).trans hr
  obtain ⟨z0, z1, z2, z3, z4, y0, y1, y2, y3, y4⟩ := g5.cells
  have q0 : w1.cell? ⟨w.heap.size + 1, 0, none⟩ = some (.string ⟨#[]⟩) := by rw [cell_row gq]; rfl
  have q1 : w1.frozen? ⟨w.heap.size + 1, 0, none⟩ = false := frozen_row gq (by simp)
  have r0 : w1.cell? ⟨w.heap.size + 1 + 1, 0, none⟩ = some (.int .i64 0) := by rw [cell_row gr]; rfl
  have r1 : w1.frozen? ⟨w.heap.size + 1 + 1, 0, none⟩ = false := frozen_row gr (by simp)
  have s0 := ha.cell
  clear hC hsx h5 hq hr hat
  unfold valK
  generalize hP : w.heap.size = P0 at *
  have n1 : P0 + 1 ≠ P0 := by omega
  have n2 : P0 + 1 + 1 ≠ P0 := by omega
  have n3 : P0 + 1 + 1 + 1 ≠ P0 := by omega
  have n4 : P0 + 1 + 1 ≠ P0 + 1 := by omega
  have n5 : P0 + 1 + 1 + 1 ≠ P0 + 1 := by omega
  have n6 : P0 + 1 + 1 + 1 ≠ P0 + 1 + 1 := by omega
  go_wp2_with fail
  go_region
  obtain ⟨y, hy, k1, k2, k3, k4⟩ := take_final P0 c r _ _ _ _ _ _ _ w1 g5 q0 r0
  rw [← hy]
  clear hy
  go_wp2_with fail
  refine leaves_cons (f := 25) (args := #[.pointer (some ⟨P0, 0, none⟩), .pointer (some ⟨P0 + 1, 0, none⟩), .pointer (some ⟨P0 + 1 + 1, 0, none⟩)]) (by simp) (by simp [go_sem]) ?_
  refine (rec_idle _ _ _ y).mono ?_
  rintro e u' w2 ⟨rfl, rfl, hb2⟩
  obtain ⟨d0, d1, d2, d3, d4, _⟩ := (k2.below hb2).cells
  have d5 := (hb2.cell (p := ⟨P0 + 1, 0, none⟩) (cell_block k3)).trans k3
  have d6 := (hb2.cell (p := ⟨P0 + 1 + 1, 0, none⟩) (cell_block k4)).trans k4
  have hBB : Below P0 w w2 := by
    have hs := k1.size
    have hxs := hbx.size
    have h1 := Below.of_ho ho (B := P0) (by omega) (by omega)
    exact ((hbx.trans h1).trans k1).trans (hb2.mono (Nat.le_of_lt k2.lt))
  rw [← hP] at hBB
  simp [Leaves, settle, results, Tryd.results12, go_sem, d0, d1, d2, d3, d4, d5, d6]
  exact ⟨rfl, hBB⟩
/-- What Take answers. -/
def takeKV (o : Option (Gw.Call.Call × List UInt8)) : V := match o with
  | none => .tup [encK ⟨0, [], [], [], 0⟩, .str [], .int .i64 180]
  | some (c, r) => .tup [encK c, .str r, .int .i64 0]
theorem valK_rep (w : World) (F : Nat → Nat → Prop) (c : Gw.Call.Call) : PRep w F (encK c) (.agg (valK c)) := by
  refine .agg (vs := [.int .i64 c.kind, .string ⟨c.path.toArray⟩, .string ⟨c.to.toArray⟩, .string ⟨c.data.toArray⟩, .int .i64 c.n]) rfl (fun j y u hy hu => ?_)
  match j, hy, hu with
  | 0, hy, hu => cases hy; cases hu; exact .int _ _
  | 1, hy, hu => cases hy; cases hu; exact .str rfl
  | 2, hy, hu => cases hy; cases hu; exact .str rfl
  | 3, hy, hu => cases hy; cases hu; exact .str rfl
  | 4, hy, hu => cases hy; cases hu; exact .int _ _
  | j + 5, hy, _ => cases hy
theorem calltake_pc (l : List UInt8) (hl : l.length ≤ 1048576) : PC Tryd.prog 12 [.str l] (takeKV (Gw.Call.take l)) := by
  have hE : Enters Tryd.prog 12 := enters_of (fn := Tryd.f12) (by kernel_rfl) rfl (by kernel_rfl)
  cases hn : Gw.Call.take l with
  | none => exact .of_calls hE rfl (fun w _ => calltake_none l hl hn w) (fun w F => .tup3 (valK_rep w F _) (.str rfl) (.int _ _))
  | some p =>
    obtain ⟨c, r⟩ := p
    exact .of_calls hE rfl (fun w _ => calltake_some l hl hn w) (fun w F => .tup3 (valK_rep w F c) (.str rfl) (.int _ _))
end Go.Proofs.YtfmhkfijnflalaaDoor
