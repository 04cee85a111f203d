/- What source.call does: a call is taken from the front, or it panics. No claim of its own. -/
import Derived.Test.YtfmhkfijnflalaaDoorCallTk
namespace Go.Proofs.YtfmhkfijnflalaaDoor
open Go.RowKit Go.Am

theorem gok (W : World) : GOk Tryd.prog W := fun x hx i hi => by
  have h : knownTabs.all (fun x => (Tryd.prog.globalNamed x.1).isNone) = true := by kernel_rfl
  have := List.all_eq_true.1 h x hx
  rw [hi] at this
  cases this
theorem has_calls (k : Int) (w : World) : Calls Tryd.prog 21 #[.int .i64 k] w fun e w' => e = .returned (.tuple #[.int .i64 ((Gw.Call.has k).elim 0 bitsK), .bool (Gw.Call.has k).isSome]) ∧ Below w.heap.size w w' := by
  refine ((has_pc k).run w (fun _ _ => False) [.int .i64 k] (gok w) (fun _ _ h => h.elim) rfl (fun i x v hx hv => by
    match i, hx, hv with
    | 0, hx, hv => cases hx; cases hv; exact .int _ _
    | i + 1, hx, _ => cases hx)).mono ?_
  rintro e w' ⟨v, F', rfl, hb, _, _, hr⟩
  refine ⟨?_, hb⟩
  have key : ∀ (n : Int) (q : Bool), PRep w' F' (.tup [.int .i64 n, .bool q]) v → v = .tuple #[.int .i64 n, .bool q] := fun n q h => by
    cases h with
    | tup hl hh =>
      rename_i vs
      match vs, hl with
      | [a, b], _ =>
        have e1 := hh 0 _ a rfl rfl
        have e2 := hh 1 _ b rfl rfl
        cases e1; cases e2; rfl
  cases ho : Gw.Call.has k with
  | none => rw [ho] at hr; rw [key _ _ hr]; rfl
  | some p => rw [ho] at hr; rw [key _ _ hr]; rfl
def valK (c : Gw.Call.Call) : Array Value := #[.int .i64 c.kind, .string ⟨c.path.toArray⟩, .string ⟨c.to.toArray⟩, .string ⟨c.data.toArray⟩, .int .i64 c.n]
theorem check_calls (c : Gw.Call.Call) (h1 : c.path.length ≤ 1048576) (h2 : c.to.length ≤ 1048576) (w : World) : Calls Tryd.prog 18 #[.agg (valK c)] w fun e w' => e = .returned (.bool (Gw.Call.check c)) ∧ Below w.heap.size w w' := by
  refine ((check_pc c h1 h2).run w (fun _ _ => False) [.agg (valK c)] (gok w) (fun _ _ h => h.elim) rfl (fun i x v hx hv => by
    match i, hx, hv with
    | 0, hx, hv =>
      cases hx; cases hv
      refine .agg (vs := [.int .i64 c.kind, .string ⟨c.path.toArray⟩, .string ⟨c.to.toArray⟩, .string ⟨c.data.toArray⟩, .int .i64 c.n]) rfl (fun j y u hy hu => ?_)
      match j, hy, hu with
      | 0, hy, hu => cases hy; cases hu; exact .int _ _
      | 1, hy, hu => cases hy; cases hu; exact .str rfl
      | 2, hy, hu => cases hy; cases hu; exact .str rfl
      | 3, hy, hu => cases hy; cases hu; exact .str rfl
      | 4, hy, hu => cases hy; cases hu; exact .int _ _
      | j + 5, hy, _ => cases hy
    | i + 1, hx, _ => cases hx)).mono ?_
  rintro e w' ⟨v, F', rfl, hb, _, _, hr⟩
  cases hr
  exact ⟨rfl, hb⟩
/-- All that was there is as it was, but one block. -/
structure Ho (b : Nat) (w w' : World) : Prop where
  os : w'.os = w.os
  tape : w'.tape = w.tape
  output : w'.output = w.output
  size : w.heap.size ≤ w'.heap.size
  block : ∀ k, k < w.heap.size → k ≠ b → w'.heap[k]? = w.heap[k]?
theorem Ho.refl (b : Nat) (w : World) : Ho b w w := ⟨rfl, rfl, rfl, Nat.le_refl _, fun _ _ _ => rfl⟩
theorem Ho.alloc {b : Nat} {w x : World} (h : Ho b w x) (o : Obj) : Ho b w (x.alloc o) :=
  ⟨h.os, h.tape, h.output, Nat.le_trans h.size (by simp), fun k hk hne => (Below.heap_alloc x o k (Nat.lt_of_lt_of_le hk h.size)).trans (h.block k hk hne)⟩
theorem Ho.mv {b : Nat} {l : List UInt8} {w x y : World} (h : Ho b w x) (m : Mv b l x y) : Ho b w y :=
  ⟨m.os.trans h.os, m.tape.trans h.tape, m.output.trans h.output, Nat.le_trans h.size m.size, fun k hk hne => (m.block k (Nat.lt_of_lt_of_le hk h.size) hne).trans (h.block k hk hne)⟩
theorem Ho.below {b : Nat} {w x y : World} (h : Ho b w x) (m : Below x.heap.size x y) : Ho b w y :=
  ⟨m.os.trans h.os, m.tape.trans h.tape, m.output.trans h.output, Nat.le_trans h.size m.size, fun k hk hne => (m.block k (Nat.lt_of_lt_of_le hk h.size)).trans (h.block k hk hne)⟩
theorem Ho.set {b c j : Nat} {v : Value} {w x : World} (h : Ho b w x) (hc : w.heap.size ≤ c) : Ho b w (x.setCell ⟨c, j, none⟩ v) :=
  ⟨h.os, h.tape, h.output, by simpa [World.setCell] using h.size, fun k hk hne => (Below.heap_setCell x ⟨c, j, none⟩ v k (by show k ≠ c; omega)).trans (h.block k hk hne)⟩
theorem AtS.set_other {b c j : Nat} {l : List UInt8} {v : Value} {x : World} (h : AtS b l x) (hc : b ≠ c) : AtS b l (x.setCell ⟨c, j, none⟩ v) := (Below.heap_setCell x ⟨c, j, none⟩ v b hc).trans h
theorem AtS.alloc {b : Nat} {l : List UInt8} {x : World} (h : AtS b l x) (o : Obj) : AtS b l (x.alloc o) := (Below.heap_alloc x o b h.lt).trans h
theorem AtS.mv {b : Nat} {l : List UInt8} {w w' : World} (h : Mv b l w w') : AtS b l w' := h.at_
/-- A struct of five cells lies there. -/
def Five (c : Nat) (v0 v1 v2 v3 v4 : Value) (x : World) : Prop := x.heap[c]? = some (.cells [v0, v1, v2, v3, v4].toArray 23 (0, 0))
theorem Five.lt {c : Nat} {v0 v1 v2 v3 v4 : Value} {x : World} (h : Five c v0 v1 v2 v3 v4 x) : c < x.heap.size := (Array.getElem?_eq_some_iff.1 h).1
theorem Five.cells {c : Nat} {v0 v1 v2 v3 v4 : Value} {x : World} (h : Five c v0 v1 v2 v3 v4 x) :
    x.cell? ⟨c, 0, none⟩ = some v0 ∧ x.cell? ⟨c, 1, none⟩ = some v1 ∧ x.cell? ⟨c, 2, none⟩ = some v2 ∧ x.cell? ⟨c, 3, none⟩ = some v3 ∧ x.cell? ⟨c, 4, none⟩ = some v4 ∧
    x.frozen? ⟨c, 0, none⟩ = false ∧ x.frozen? ⟨c, 1, none⟩ = false ∧ x.frozen? ⟨c, 2, none⟩ = false ∧ x.frozen? ⟨c, 3, none⟩ = false ∧ x.frozen? ⟨c, 4, none⟩ = false :=
  ⟨by rw [cell_row h]; rfl, by rw [cell_row h]; rfl, by rw [cell_row h]; rfl, by rw [cell_row h]; rfl, by rw [cell_row h]; rfl, frozen_row h (by simp), frozen_row h (by simp), frozen_row h (by simp), frozen_row h (by simp), frozen_row h (by simp)⟩
theorem Five.new (x : World) (v0 v1 v2 v3 v4 : Value) : Five x.heap.size v0 v1 v2 v3 v4 (x.alloc (.cells #[v0, v1, v2, v3, v4] 23)) := heap_alloc_new x _
theorem Five.alloc {c : Nat} {v0 v1 v2 v3 v4 : Value} {x : World} (h : Five c v0 v1 v2 v3 v4 x) (o : Obj) : Five c v0 v1 v2 v3 v4 (x.alloc o) := (Below.heap_alloc x o c h.lt).trans h
theorem Five.mv {b c : Nat} {l : List UInt8} {v0 v1 v2 v3 v4 : Value} {x y : World} (h : Five c v0 v1 v2 v3 v4 x) (hc : c ≠ b) (m : Mv b l x y) : Five c v0 v1 v2 v3 v4 y := (m.block c h.lt hc).trans h
theorem Five.below {c : Nat} {v0 v1 v2 v3 v4 : Value} {x y : World} (h : Five c v0 v1 v2 v3 v4 x) (m : Below x.heap.size x y) : Five c v0 v1 v2 v3 v4 y := (m.block c h.lt).trans h
theorem Five.other {c d j : Nat} {v v0 v1 v2 v3 v4 : Value} {x : World} (h : Five c v0 v1 v2 v3 v4 x) (hc : c ≠ d) : Five c v0 v1 v2 v3 v4 (x.setCell ⟨d, j, none⟩ v) := (Below.heap_setCell x ⟨d, j, none⟩ v c hc).trans h
theorem Five.set1 {c : Nat} {v v0 v1 v2 v3 v4 : Value} {x : World} (h : Five c v0 v1 v2 v3 v4 x) : Five c v0 v v2 v3 v4 (x.setCell ⟨c, 1, none⟩ v) := by
  unfold Five at h ⊢; simp [World.setCell, Array.getElem?_modify, h]
theorem Five.set2 {c : Nat} {v v0 v1 v2 v3 v4 : Value} {x : World} (h : Five c v0 v1 v2 v3 v4 x) : Five c v0 v1 v v3 v4 (x.setCell ⟨c, 2, none⟩ v) := by
  unfold Five at h ⊢; simp [World.setCell, Array.getElem?_modify, h]
theorem Five.set3 {c : Nat} {v v0 v1 v2 v3 v4 : Value} {x : World} (h : Five c v0 v1 v2 v3 v4 x) : Five c v0 v1 v2 v v4 (x.setCell ⟨c, 3, none⟩ v) := by
  unfold Five at h ⊢; simp [World.setCell, Array.getElem?_modify, h]
theorem Five.set4 {c : Nat} {v v0 v1 v2 v3 v4 : Value} {x : World} (h : Five c v0 v1 v2 v3 v4 x) : Five c v0 v1 v2 v3 v (x.setCell ⟨c, 4, none⟩ v) := by
  unfold Five at h ⊢; simp [World.setCell, Array.getElem?_modify, h]
theorem t0_none {k : Int} {l : List UInt8} (h : Gw.Call.has k = none) : Gw.Call.t0 k l = none := by unfold Gw.Call.t0; rw [h]
theorem t0_some {k : Int} {l : List UInt8} {p : Gw.Call.Parts} (h : Gw.Call.has k = some p) : Gw.Call.t0 k l = Gw.Call.t1 k p l := by unfold Gw.Call.t0; rw [h]
theorem t1_bad {k : Int} {p : Gw.Call.Parts} {l : List UInt8} (h : Gw.Call.tText p.path l = none) : Gw.Call.t1 k p l = none := by unfold Gw.Call.t1; rw [h]
theorem t1_ok {k : Int} {p : Gw.Call.Parts} {l a r : List UInt8} (h : Gw.Call.tText p.path l = some (a, r)) : Gw.Call.t1 k p l = Gw.Call.t2 k p a r := by unfold Gw.Call.t1; rw [h]
theorem t2_bad {k : Int} {p : Gw.Call.Parts} {a l : List UInt8} (h : Gw.Call.tText p.to l = none) : Gw.Call.t2 k p a l = none := by unfold Gw.Call.t2; rw [h]
theorem t2_ok {k : Int} {p : Gw.Call.Parts} {a l t r : List UInt8} (h : Gw.Call.tText p.to l = some (t, r)) : Gw.Call.t2 k p a l = Gw.Call.t3 k p a t r := by unfold Gw.Call.t2; rw [h]
theorem t3_bad {k : Int} {p : Gw.Call.Parts} {a t l : List UInt8} (h : Gw.Call.tText p.data l = none) : Gw.Call.t3 k p a t l = none := by unfold Gw.Call.t3; rw [h]
theorem t3_ok {k : Int} {p : Gw.Call.Parts} {a t l d r : List UInt8} (h : Gw.Call.tText p.data l = some (d, r)) : Gw.Call.t3 k p a t l = Gw.Call.t4 k p a t d r := by unfold Gw.Call.t3; rw [h]
theorem t4_bad {k : Int} {p : Gw.Call.Parts} {a t d l : List UInt8} (h : Gw.Call.tNum p.n l = none) : Gw.Call.t4 k p a t d l = none := by unfold Gw.Call.t4; rw [h]
theorem t4_ok {k n : Int} {p : Gw.Call.Parts} {a t d l r : List UInt8} (h : Gw.Call.tNum p.n l = some (n, r)) : Gw.Call.t4 k p a t d l = Gw.Call.done ⟨k, a, t, d, n⟩ r := by unfold Gw.Call.t4; rw [h]
theorem tText_off {l : List UInt8} : Gw.Call.tText false l = some ([], l) := rfl
theorem tNum_off {l : List UInt8} : Gw.Call.tNum false l = some (0, l) := rfl
theorem tText_bad {l : List UInt8} (h : takeText l = none) : Gw.Call.tText true l = none := by unfold Gw.Call.tText; rw [if_pos rfl, h]
theorem tText_ok {l : List UInt8} {n u : Nat} (h : takeText l = some (n, u)) : Gw.Call.tText true l = some ((l.drop u).take n, l.drop (u + n)) := by unfold Gw.Call.tText; rw [if_pos rfl, h]
theorem tNum_bad {l : List UInt8} (h : Gw.Vlq.take l = none) : Gw.Call.tNum true l = none := by unfold Gw.Call.tNum; rw [if_pos rfl, h]
theorem tNum_ok {l : List UInt8} {n u : Nat} (h : Gw.Vlq.take l = some (n, u)) : Gw.Call.tNum true l = some ((n : Int), l.drop u) := by unfold Gw.Call.tNum; rw [if_pos rfl, h]
theorem done_bad {c : Gw.Call.Call} {r : List UInt8} (h : Gw.Call.check c = false) : Gw.Call.done c r = none := by unfold Gw.Call.done; rw [h]; rfl
theorem done_ok {c : Gw.Call.Call} {r : List UInt8} (h : Gw.Call.check c = true) : Gw.Call.done c r = some (c, r) := by unfold Gw.Call.done; rw [h]; rfl
/-- What call does. -/
def CallEnd (b : Nat) (o : Option (Gw.Call.Call × List UInt8)) (w : World) (e : Ending) (w' : World) : Prop := match o with
  | none => e = .panicked [brokenE] ∧ Ho b w w'
  | some (c, r) => e = .returned (.agg (valK c)) ∧ Ho b w w' ∧ AtS b r w'
theorem Five.set0 {c : Nat} {v v0 v1 v2 v3 v4 : Value} {x : World} (h : Five c v0 v1 v2 v3 v4 x) : Five c v v1 v2 v3 v4 (x.setCell ⟨c, 0, none⟩ v) := by
  unfold Five at h ⊢; simp [World.setCell, Array.getElem?_modify, h]
theorem call_ret {b r : Nat} {w x : World} {tmps : Array Value} {c : Gw.Call.Call} {l : List UInt8} (z0 : x.cell? ⟨r, 0, none⟩ = some (.int .i64 c.kind)) (z1 : x.cell? ⟨r, 1, none⟩ = some (.string ⟨c.path.toArray⟩)) (z2 : x.cell? ⟨r, 2, none⟩ = some (.string ⟨c.to.toArray⟩)) (z3 : x.cell? ⟨r, 3, none⟩ = some (.string ⟨c.data.toArray⟩)) (z4 : x.cell? ⟨r, 4, none⟩ = some (.int .i64 c.n))
    (hO : Ho b w x) (hA : AtS b l x) (ht : tmps.getD 2 undef = .pointer (some ⟨r, 0, none⟩)) : bodyPost Tryd.prog Tryd.f26 (CallEnd b (some (c, l)) w) .ret { tmps := tmps, defers := [] } x := by
  refine ⟨rfl, .agg (valK c), ?_, rfl, hO, hA⟩
  have ht' : tmps[2]?.getD undef = .pointer (some ⟨r, 0, none⟩) := by simpa using ht
  simp [results, Tryd.results26, go_sem, ht', z0, z1, z2, z3, z4, valK]
theorem text_more (b : Nat) (l : List UInt8) (hl : l.length < 1000000000000) {n u : Nat} (ht : takeText l = some (n, u)) : ∃ T L2 : List UInt8, Gw.Call.tText true l = some (T, L2) ∧ T.length ≤ l.length ∧ L2.length ≤ l.length ∧
    ∀ w, AtS b l w → Calls Tryd.prog 39 #[.pointer (some ⟨b, 0, none⟩)] w fun e w' => e = .returned (.string ⟨T.toArray⟩) ∧ Mv b L2 w w' :=
  ⟨_, _, tText_ok ht, by rw [List.length_take, List.length_drop]; omega, by rw [List.length_drop]; omega, fun w h => text_ok b l hl ht w h⟩
theorem number_more (b : Nat) (l : List UInt8) (hl : l.length < 1000000000000) {n u : Nat} (ht : Gw.Vlq.take l = some (n, u)) : ∃ L2 : List UInt8, Gw.Call.tNum true l = some ((n : Int), L2) ∧ L2.length ≤ l.length ∧
    ∀ w, AtS b l w → Calls Tryd.prog 38 #[.pointer (some ⟨b, 0, none⟩)] w fun e w' => e = .returned (.int .i64 n) ∧ Mv b L2 w w' :=
  ⟨_, tNum_ok ht, by rw [List.length_drop]; omega, fun w h => number_ok b l hl ht w h⟩
end Go.Proofs.YtfmhkfijnflalaaDoor
