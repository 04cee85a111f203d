/- make: a new slice is the call's own. Of any program. -/
import Derived.Test.YtfehckdcjgmcpaaOwn
import Derived.Test.YtfehckdcjgmcpaaUtil
import Derived.Laws.MakeOwn
namespace Go.Proofs.Ytfehckdcjgmcpaa
open Go.RowKit

theorem make_own {P : Program} (w : World) (t e : TypeId) (z : Value) (size bytes : Nat) (ht : P.underlying t = some (.slice e)) (hi : (P.info? e).map (fun i => (i.size, i.bytes, i.zero)) = some (size, bytes, some z))
    (kl kc : IntKind) (l c : Nat) (hlc : l ≤ c) (hbytes : bytes * c ≤ 281474976710656) (h63 : c ≤ maxLen) (base : Nat) (hb : base ≤ w.heap.size) :
    (Instr.makeSlice t (.int kl l) (.int kc c)).run P w = .ok (.slice (some ⟨w.heap.size, 0, none⟩) l c) (w.alloc (.cells (madeCells z.cells (c * size)) e)) ∧
      Own (w.alloc (.cells (madeCells z.cells (c * size)) e)) base size (.slice (some ⟨w.heap.size, 0, none⟩) l c) l ((madeCells z.cells (c * size)).toList.take (l * size)) := by
  cases h : P.info? e with
  | none => rw [h] at hi; cases hi
  | some i =>
    rw [h] at hi
    simp only [Option.map_some, Option.some.injEq, Prod.mk.injEq] at hi
    obtain ⟨rfl, rfl, hz⟩ := hi
    have hm : (c : Int) ≤ 9223372036854775807 := by unfold maxLen at h63; omega
    have hb' : (i.bytes : Int) * (c : Int) ≤ 281474976710656 := by
      have h : ((i.bytes * c : Nat) : Int) ≤ 281474976710656 := by omega
      rwa [Int.natCast_mul] at h
    have hr := run_make (P := P) w t e i z ht h hz kl kc l c (by omega) (by omega) hb' hm
    simp only [Int.toNat_natCast] at hr
    refine ⟨hr, ?_, .inr ⟨w.heap.size, 0, c, rfl, hb, by simp, hlc, h63, fun j hj => ?_, fun j u hu => ?_⟩⟩
    · rw [List.length_take, Array.length_toList, size_madeCells]
      exact Nat.min_eq_left (Nat.mul_le_mul_right _ hlc)
    · simp [hj, size_madeCells]
    · rw [Nat.zero_add]
      have := (List.getElem?_take (l := (madeCells z.cells (c * i.size)).toList) (i := l * i.size) (j := j)).symm.trans hu
      split at this
      · exact new_cell rfl (by simpa using this)
      · cases this
theorem made_bytes (c : Nat) : (madeCells (Value.int .u8 0).cells c).toList = cellsOf (List.replicate c 0) := by
  apply List.ext_getElem?
  intro j
  simp only [madeCells, cellsOf, Value.cells]
  by_cases hj : j < c
  · simp [hj, Nat.mod_one]
  · simp [hj]
theorem made_sectors (m c : Nat) (hm : 0 < m) : (madeCells (Value.agg (Array.replicate m (.int .u8 0))).cells c).toList = cellsOf (List.replicate c 0) := by
  apply List.ext_getElem?
  intro j
  simp only [madeCells, cellsOf, Value.cells]
  by_cases hj : j < c
  · have h := Nat.mod_lt j hm
    simp [hj, h]
  · simp [hj]
/-- append, with the element type's facts in one. -/
theorem wpList_append_own {P : Program} {w : World} {ops : Array Oper} {rest : List Oper} {o : Oper} {a : Act} {Q : Exit → Act → World → Prop} (hgd : o.guard = none) (s x : Operand) (t tx : TypeId)
    (ho : o.op = .call { callee := .builtin .append, args := #[s, x], argTypes := #[t, tx] })
    (base : Nat) (e : TypeId) (z : Value) (size bytes : Nat) (ht : P.underlying t = some (.slice e)) (hi : (P.info? e).map (fun i => (i.size, i.bytes, i.zero)) = some (size, bytes, some z)) (hzs : z.cells.size = size)
    (v : Value) (n : Nat) (xs : List Value) (hev : a.eval s = v) (hown : Own w base size v n xs) (xv : Value) (m : Nat) (news : List Value) (hxv : a.eval x = xv) (hs : Src P size tx xv m news w)
    (h63 : n + m ≤ maxLen) (hbytes : (n + m) * bytes ≤ 140737488355328) (hbase : base ≤ w.heap.size) (hmz : v = .slice none 0 0 → 0 < m)
    (h : ∀ v' w', Own w' base size v' (n + m) (xs ++ news) → w.grownBy w' v.ownBlock → (∃ a c, v' = .slice (some a) (n + m) c) → wpList P ops Q rest (a.put o.dst v') w') : wpList P ops Q (o :: rest) a w := by
  cases hh : P.info? e with
  | none => rw [hh] at hi; cases hi
  | some i =>
    rw [hh] at hi
    simp only [Option.map_some, Option.some.injEq, Prod.mk.injEq] at hi
    exact wpList_append_Own hgd s x t tx ho base e i z size bytes ht hh hi.2.2 hi.1 hi.2.1 hzs v n xs hev hown xv m news hxv hs h63 hbytes hbase hmz h
end Go.Proofs.Ytfehckdcjgmcpaa
