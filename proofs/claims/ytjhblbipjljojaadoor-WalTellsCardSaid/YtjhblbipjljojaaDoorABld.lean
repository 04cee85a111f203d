/- strings.Builder: what copyCheck and String do, by what of the memory turns. No claim of its own. -/
import Derived.Test.YtjhblbipjljojaaDoorAmTab
import Derived.Lib.Builder
import Derived.Lib.UnsafeStr
namespace Go.Proofs.YtjhblbipjljojaaDoor
open Go.RowKit Go.Am

theorem bld_size : (Tryd.prog.info? 85).map (·.size) = some 2 := by kernel_rfl
theorem bld_lies : liesAt Tryd.prog Tryd.prog.depth 85 (2 / Tryd.prog.cellsOf 85) 0 85 1 = true := by kernel_rfl
theorem bld_byte : Tryd.prog.cellsOf 5 = 1 := by kernel_rfl

set_option maxHeartbeats 1000000 in
set_option maxRecDepth 100000 in
theorem bld_used (b : Nat) (w : World) (h0 : w.cell? ⟨b, 0, none⟩ = some (.pointer (some ⟨b, 0, none⟩))) :
    Calls Tryd.prog 82 #[.pointer (some ⟨b, 0, none⟩)] w fun e w' => e = .returned (.tuple #[]) ∧ w' = w := by
  obtain ⟨j, hj, _⟩ := Option.map_eq_some_iff.1 bld_size
  go_enter Tryd.func82, Tryd.ntmps82
  go_wp2
  rw [Lib.run_neq_ptr_same w _ Tryd.underlying83 hj]
  go_wp2
  go_end0
  exact ⟨rfl, rfl⟩

set_option maxHeartbeats 1000000 in
set_option maxRecDepth 100000 in
theorem bld_fresh (b : Nat) (w : World) (h0 : w.cell? ⟨b, 0, none⟩ = some (.pointer none)) (hsh : w.shape? b = some (85, 2)) (hfz : w.frozen? ⟨b, 0, none⟩ = false) :
    Calls Tryd.prog 82 #[.pointer (some ⟨b, 0, none⟩)] w fun e w' => e = .returned (.tuple #[]) ∧ w' = w.setCell ⟨b, 0, none⟩ (.pointer (some ⟨b, 0, none⟩)) := by
  obtain ⟨j, hj, hjs⟩ := Option.map_eq_some_iff.1 bld_size
  go_enter Tryd.func82, Tryd.ntmps82
  go_wp2
  rw [Lib.run_to_unsafe w ⟨b, 0, none⟩ Tryd.underlying83 Tryd.underlying125 hj (by rw [hjs]; decide) hsh (Nat.zero_lt_succ 1)]
  simp only [Result.andThen]
  rw [Oper.upon_value]
  go_wp2
  rw [run_callFunc_extern Tryd.func97 (by kernel_rfl) (by kernel_rfl) (by kernel_rfl) (e := Extern.AbiNoEscape.same) (by kernel_rfl)]
  rw [Lib.run_noEscape]
  simp only [Result.andThen]
  rw [Oper.upon_value]
  go_wp2
  rw [Lib.run_from_unsafe w ⟨b, 0, none⟩ Tryd.underlying125 Tryd.underlying83 hj hsh bld_lies]
  simp only [Result.andThen]
  rw [Oper.upon_value]
  go_wp2
  go_end0
  exact ⟨rfl, rfl⟩

/-- What copyCheck turns. -/
theorem bld_copy (w : World) (c : Nat) (p u : Value) (hh : w.heap[c]? = some (.cells [p, u].toArray 85 (0, 0))) (hp : p = .pointer none ∨ p = .pointer (some ⟨c, 0, none⟩)) :
    Calls Tryd.prog 82 #[.pointer (some ⟨c, 0, none⟩)] w fun e w' => e = .returned (.tuple #[]) ∧ Wr c w w' ∧ w'.heap[c]? = some (.cells [.pointer (some ⟨c, 0, none⟩), u].toArray 85 (0, 0)) := by
  rcases hp with rfl | rfl
  · have h0 : w.cell? ⟨c, 0, none⟩ = some (.pointer none) := by rw [cell_row hh]; rfl
    have hsh : w.shape? c = some (85, 2) := by unfold World.shape?; rw [hh]; rfl
    have hfz : w.frozen? ⟨c, 0, none⟩ = false := frozen_row hh (by simp)
    obtain ⟨s1, s2, _, _⟩ := setCells_of_store c 0 [.pointer (some ⟨c, 0, none⟩)] hh (by simp) (fun o _ ho => by simp at ho) (fun u hu => by simp at hu; subst hu; rfl)
    refine (bld_fresh c w h0 hsh hfz).mono ?_
    rintro e w' ⟨rfl, rfl⟩
    exact ⟨rfl, s1, s2⟩
  · have h0 : w.cell? ⟨c, 0, none⟩ = some (.pointer (some ⟨c, 0, none⟩)) := by rw [cell_row hh]; rfl
    refine (bld_used c w h0).mono ?_
    rintro e w' ⟨rfl, rfl⟩
    exact ⟨rfl, Wr.refl _ _, hh⟩

set_option maxHeartbeats 1000000 in
set_option maxRecDepth 100000 in
theorem bld_nil (w : World) (c : Nat) (p : Value) (hh : w.heap[c]? = some (.cells [p, .slice none 0 0].toArray 85 (0, 0))) :
    Calls Tryd.prog 61 #[.pointer (some ⟨c, 0, none⟩)] w fun e w' => e = .returned (.string ⟨[].toArray⟩) ∧ Below w.heap.size w w' := by
  have hUS : ∀ W, (Builtin.unsafeString_ #[111, 3] 9 #[.pointer none, .int .i64 0]).run Tryd.prog W = .ok (.string .empty) W := fun W => Lib.run_unsafeString_none W _ _ _ none
  have c1 : w.drew.cell? ⟨c, 1, none⟩ = some (.slice none 0 0) := by rw [cell_row (w := w.drew) hh]; rfl
  have hSD : (Builtin.unsafeSliceData_ #[82] 111 #[.slice none 0 0]).run Tryd.prog w.drew = .ok (.pointer none) w.drew := rfl
  go_enter Tryd.func61, Tryd.ntmps61
  go_wp2
  go_region
  all_goals (go_wp2; go_ret; exact ⟨rfl, Below.drew (Below.refl _ w)⟩)

theorem freeze_wr (w : World) (r n : Nat) {arr : List Value} {t : TypeId} {z : Nat × Nat} (hh : w.heap[r]? = some (.cells arr.toArray t z)) :
    Wr r w (w.freeze ⟨r, 0, none⟩ n) ∧ ∀ o, (w.freeze ⟨r, 0, none⟩ n).cell? ⟨r, o, none⟩ = w.cell? ⟨r, o, none⟩ := by
  unfold World.freeze
  by_cases hn : n = 0
  · rw [if_pos hn]; exact ⟨Wr.refl _ _, fun _ => rfl⟩
  rw [if_neg hn]
  refine ⟨⟨rfl, rfl, rfl, by simp, fun k hk => by simp [Array.getElem?_modify, Ne.symm hk], ?_, fun ds hd => ?_⟩, fun o => ?_⟩
  · simp [World.shape?, Array.getElem?_modify, hh]
  · rw [hh] at hd; cases hd
  · simp [World.cell?, Array.getElem?_modify, hh]

set_option maxHeartbeats 1000000 in
set_option maxRecDepth 100000 in
theorem bld_text (s : List UInt8) (h0 : s ≠ []) (hlen : s.length ≤ 1000000000000) (w : World) (c r cap : Nat) (p : Value) (hh : w.heap[c]? = some (.cells [p, .slice (some ⟨r, 0, none⟩) s.length cap].toArray 85 (0, 0))) (hsh : w.shape? r = some (5, cap))
    (hcap : s.length ≤ cap) (hcell : ∀ j x, s[j]? = some x → w.cell? ⟨r, j, none⟩ = some (.int .u8 x.toNat)) :
    Calls Tryd.prog 61 #[.pointer (some ⟨c, 0, none⟩)] w fun e w' => e = .returned (.string ⟨s.toArray⟩) ∧ ∃ w1, Below w.heap.size w w1 ∧ w1.heap = w.heap ∧ Wr r w1 w' ∧ ∀ o, w'.cell? ⟨r, o, none⟩ = w1.cell? ⟨r, o, none⟩ := by
  have hl0 : s.length ≠ 0 := by simpa using h0
  have c1 : w.drew.cell? ⟨c, 1, none⟩ = some (.slice (some ⟨r, 0, none⟩) s.length cap) := by rw [cell_row (w := w.drew) hh]; rfl
  have hSD : (Builtin.unsafeSliceData_ #[82] 111 #[.slice (some ⟨r, 0, none⟩) s.length cap]).run Tryd.prog w.drew = .ok (.pointer (some ⟨r, 0, none⟩)) w.drew :=
    Lib.run_unsafeSliceData_row _ _ _ _ _ _ (by omega)
  have hUS : (Builtin.unsafeString_ #[111, 3] 9 #[.pointer (some ⟨r, 0, none⟩), .int .i64 s.length]).run Tryd.prog w.drew = .ok (.string ⟨s.toArray⟩) (w.drew.freeze ⟨r, 0, none⟩ s.length) := by
    refine Lib.run_unsafeString_row w.drew 111 3 9 5 Tryd.underlying111 bld_byte r cap hsh s h0 hcap (by omega) ?_
    intro j x hx
    have e : (⟨r, 0, none⟩ : Addr).add j = ⟨r, j, none⟩ := by unfold Addr.add; split <;> simp_all
    rw [e]
    exact hcell j x hx
  obtain ⟨arr, z, hr⟩ : ∃ (arr : List Value) (z : Nat × Nat), w.heap[r]? = some (.cells arr.toArray 5 z) := by
    unfold World.shape? at hsh
    split at hsh
    · rename_i cs t z e
      simp only [Option.some.injEq, Prod.mk.injEq] at hsh
      obtain ⟨rfl, _⟩ := hsh
      exact ⟨cs.toList, z, e⟩
    · cases hsh
  obtain ⟨f1, f2⟩ := freeze_wr w.drew r s.length (arr := arr) (t := 5) (z := z) hr
  clear hsh hcell hr hlen hcap
  go_enter Tryd.func61, Tryd.ntmps61
  go_wp2
  go_region
  all_goals (go_wp2; go_ret; exact ⟨rfl, w.drew, Below.drew (Below.refl _ w), rfl, f1, f2⟩)
end Go.Proofs.YtjhblbipjljojaaDoor
