/- The deferred closure of call.Take. No claim of its own. -/
import Derived.Test.YtfmhkfijnflalaaDoorCallTk2
namespace Go.Proofs.YtfmhkfijnflalaaDoor
open Go.RowKit Go.Am

theorem as_nil (W : World) : (Instr.typeAssert .nilIface 20 48 true).run Tryd.prog W = .ok (.tuple #[.agg #[.int .i64 0], .bool false]) W := by kernel_rfl
theorem as_broken (v : Value) (W : World) : (Instr.typeAssert (.iface 48 v) 20 48 true).run Tryd.prog W = .ok (.tuple #[v, .bool true]) W := by kernel_rfl
set_option maxHeartbeats 2000000 in
set_option maxRecDepth 100000 in
theorem rec_idle (p q r : Addr) (w : World) :
    CallsD Tryd.prog 25 #[.pointer (some p), .pointer (some q), .pointer (some r)] .returning w fun e u' w' => e = .returned (.tuple #[]) ∧ u' = .returning ∧ Below w.heap.size w w' := by
  have hA := as_nil
  refine callsD_of_wpS Tryd.func25 rfl fun c₀ cs hu => ?_
  apply wpS_seq
  apply wpS_region
  simp [wpOpsS, go_sem, recoverD, hu, Tryd.ntmps25, Exit.thenS, hA, Array.replicate]
  refine wpS_of_wp ?_
  go_wp2
  cases c₀
  simp_all [bodyPostS, results, Tryd.results25]
  exact (Below.refl _ w).alloc (Nat.le_refl _) _
theorem cell_set_other {x : World} {c d i j : Nat} {v : Value} (h : c ≠ d) : (x.setCell ⟨d, j, none⟩ v).cell? ⟨c, i, none⟩ = x.cell? ⟨c, i, none⟩ := World.cell?_of_block (Below.heap_setCell x ⟨d, j, none⟩ v c h)
theorem cell_alloc_old {x : World} {c i : Nat} {o : Obj} (h : c < x.heap.size) : (x.alloc o).cell? ⟨c, i, none⟩ = x.cell? ⟨c, i, none⟩ := World.cell?_of_block (Below.heap_alloc x o c h)
theorem Five.drew {c : Nat} {v0 v1 v2 v3 v4 : Value} {x : World} (h : Five c v0 v1 v2 v3 v4 x) : Five c v0 v1 v2 v3 v4 x.drew := h
theorem cell_drew (x : World) (a : Addr) : x.drew.cell? a = x.cell? a := rfl
theorem rec_world (p q r : Nat) (v0 v1 v2 v3 v4 v5 v6 : Value) (w : World) (hp : Five p v0 v1 v2 v3 v4 w) (hq : w.cell? ⟨q, 0, none⟩ = some v5) (hr : w.cell? ⟨r, 0, none⟩ = some v6) (h1 : p ≠ q) (h2 : p ≠ r) (h3 : q ≠ r) :
    ∃ x : World, x = ((((((((w.setCell ⟨p, 0, none⟩ (.int .i64 0)).setCell ⟨p, 1, none⟩ (.string ⟨#[]⟩)).setCell ⟨p, 2, none⟩ (.string ⟨#[]⟩)).setCell ⟨p, 3, none⟩ (.string ⟨#[]⟩)).setCell ⟨p, 4, none⟩ (.int .i64 0)).setCell ⟨q, 0, none⟩ (.string ⟨#[]⟩)).setCell ⟨r, 0, none⟩ (.int .i64 180)).alloc (.cells #[.int .i64 180] 48)).drew ∧ Below (min p (min q r)) w x ∧ Five p (.int .i64 0) (.string ⟨#[]⟩) (.string ⟨#[]⟩) (.string ⟨#[]⟩) (.int .i64 0) x ∧ x.cell? ⟨q, 0, none⟩ = some (.string ⟨#[]⟩) ∧ x.cell? ⟨r, 0, none⟩ = some (.int .i64 180) := by
  have hpl := hp.lt
  have hql := cell_block hq
  have hrl := cell_block hr
  have n1 : q ≠ p := h1.symm
  have n2 : r ≠ p := h2.symm
  have n3 : r ≠ q := h3.symm
  refine ⟨_, rfl, ?_, ?_, ?_, ?_⟩
  · refine Below.drew (Below.alloc ?_ ?_ _)
    · refine Below.setCell (p := ⟨r, 0, none⟩) (Below.setCell (p := ⟨q, 0, none⟩) (Below.setCell (p := ⟨p, 4, none⟩) (Below.setCell (p := ⟨p, 3, none⟩) (Below.setCell (p := ⟨p, 2, none⟩) (Below.setCell (p := ⟨p, 1, none⟩) (Below.setCell (p := ⟨p, 0, none⟩) (Below.refl _ w) ?_ _) ?_ _) ?_ _) ?_ _) ?_ _) ?_ _) ?_ _
      all_goals (simp only; omega)
    · simp [World.setCell]; omega
  · exact ((((((((hp.set0 (v := .int .i64 0)).set1 (v := .string ⟨#[]⟩)).set2 (v := .string ⟨#[]⟩)).set3 (v := .string ⟨#[]⟩)).set4 (v := .int .i64 0)).other (d := q) h1).other (d := r) h2).alloc _).drew
  · rw [cell_drew]
    refine Eq.trans (cell_alloc_old (by simpa [World.setCell] using hql)) ?_
    rw [cell_set_other n3.symm]
    refine World.cell?_setCell_same (u := v5) _ _ _ ?_
    rw [cell_set_other n1, cell_set_other n1, cell_set_other n1, cell_set_other n1, cell_set_other n1]
    exact hq
  · rw [cell_drew]
    refine Eq.trans (cell_alloc_old (by simpa [World.setCell] using hrl)) ?_
    refine World.cell?_setCell_same (u := v6) _ _ _ ?_
    rw [cell_set_other n3, cell_set_other n2, cell_set_other n2, cell_set_other n2, cell_set_other n2, cell_set_other n2]
    exact hr
set_option maxHeartbeats 4000000 in
set_option maxRecDepth 100000 in
theorem rec_panics (p q r : Nat) (v0 v1 v2 v3 v4 v5 v6 : Value) (older : List PanicEntry) (w : World) (hp : Five p v0 v1 v2 v3 v4 w) (hq : w.cell? ⟨q, 0, none⟩ = some v5) (hqz : w.frozen? ⟨q, 0, none⟩ = false) (hr : w.cell? ⟨r, 0, none⟩ = some v6) (hrz : w.frozen? ⟨r, 0, none⟩ = false) (h1 : p ≠ q) (h2 : p ≠ r) (h3 : q ≠ r) :
    CallsD Tryd.prog 25 #[.pointer (some ⟨p, 0, none⟩), .pointer (some ⟨q, 0, none⟩), .pointer (some ⟨r, 0, none⟩)] (.panicking (brokenE :: older)) w fun e u' w' => e = .returned (.tuple #[]) ∧ u' = .panicking ({ brokenE with recovered := true } :: older) ∧ Below (min p (min q r)) w w' ∧
      Five p (.int .i64 0) (.string ⟨#[]⟩) (.string ⟨#[]⟩) (.string ⟨#[]⟩) (.int .i64 0) w' ∧ w'.cell? ⟨q, 0, none⟩ = some (.string ⟨#[]⟩) ∧ w'.cell? ⟨r, 0, none⟩ = some (.int .i64 180) := by
  have hA := as_broken
  have hpl := hp.lt
  have hql := cell_block hq
  have hrl := cell_block hr
  have n1 : q ≠ p := h1.symm
  have n2 : r ≠ p := h2.symm
  have n3 : r ≠ q := h3.symm
  have n4 : p ≠ w.heap.size := by omega
  have n5 : q ≠ w.heap.size := by omega
  have n6 : r ≠ w.heap.size := by omega
  obtain ⟨p0, p1, p2, p3, p4, f0, f1, f2, f3, f4⟩ := hp.cells
  refine callsD_of_wpS Tryd.func25 rfl fun c₀ cs hu => ?_
  apply wpS_seq
  apply wpS_region
  simp [wpOpsS, go_sem, recoverD, hu, Tryd.ntmps25, Exit.thenS, hA, Array.replicate]
  refine wpS_of_wp ?_
  go_wp2
  go_region
  obtain ⟨x, hx, k1, k2, k3, k4⟩ := rec_world p q r v0 v1 v2 v3 v4 v5 v6 w hp hq hr h1 h2 h3
  rw [← hx]
  clear hx
  exact ⟨rfl, _, rfl, .tuple #[], by simp [results, Tryd.results25], rfl, rfl, k1, k2, k3, k4⟩
end Go.Proofs.YtfmhkfijnflalaaDoor
