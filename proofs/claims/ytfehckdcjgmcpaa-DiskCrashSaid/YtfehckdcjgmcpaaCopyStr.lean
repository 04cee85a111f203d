/- copy(bytes, text): of any program. -/
import Derived.Test.YtfehckdcjgmcpaaOwn
import Derived.Test.YtfehckdcjgmcpaaUtil
namespace Go.Proofs.Ytfehckdcjgmcpaa
open Go.RowKit

section
variable {P : Program}
theorem firstCells_take (s : ByteArray) (n : Nat) (w : World) : (Builtin.firstCells 1 n (.string s)).run P w = .ok (cellsOf (s.data.toList.take n)).toArray w := by
  have e : (s.extract 0 n).data.toList = s.data.toList.take n := by rw [Lib.extract_data, List.drop_zero, Nat.sub_zero]
  simp only [Builtin.firstCells, Sem.run_pure]
  congr 1
  apply Array.ext'
  rw [Array.toList_map, e]
  rfl
theorem cells_one (l : List UInt8) : ∀ v ∈ cellsOf l, v.oneCell' = true := by
  intro v hv
  obtain ⟨c, _, rfl⟩ := List.mem_map.1 hv
  rfl
theorem run_copy_str (w : World) (dT sT ty elem : TypeId) (b o dLen dCap : Nat) (s : ByteArray) (hu : P.underlying dT = some (.slice elem)) (hs : (P.info? elem).map (·.size) = some 1)
    (hc : ∀ j, j < Nat.min s.size dLen → (w.cell? ⟨b, o + j, none⟩).isSome = true ∧ w.frozen? ⟨b, o + j, none⟩ = false) :
    (Builtin.copy_ #[dT, sT] ty #[.slice (some ⟨b, o, none⟩) dLen dCap, .string s]).run P w = .ok (goInt (Nat.min s.size dLen)) (w.setCells b o (cellsOf (s.data.toList.take (Nat.min s.size dLen)))) := by
  have hl : (cellsOf (s.data.toList.take (Nat.min s.size dLen))).length = Nat.min s.size dLen := by
    rw [cellsOf_length, List.length_take]
    exact Nat.min_eq_left (Nat.le_trans (Nat.min_le_left _ _) (Nat.le_refl _))
  have hst := run_storeCells_cells (P := P) b o (cellsOf (s.data.toList.take (Nat.min s.size dLen))) 0 w (by rw [hl]; intro j hj; simpa using (hc j hj).1) (by rw [hl]; intro j hj; simpa using (hc j hj).2) (cells_one _)
  have hf := firstCells_take (P := P) s (Nat.min s.size dLen) w
  rw [Nat.add_zero] at hst
  cases hq : P.info? elem with
  | none => simp [hq] at hs
  | some i =>
    have hi : i.size = 1 := by simpa [hq] using hs
    have hm : Nat.min s.size dLen = min s.size dLen := rfl
    rw [hm] at *
    simp [Builtin.copy_, run_underlying hu, Builtin.lenOf, sizeOf, typeInfo, hq, hi, hf, hst]

/-- THE OPERATION, for the walk. -/
theorem wpList_copy_str {w : World} {ops : Array Oper} {rest : List Oper} {o : Oper} {a : Act} {Q : Exit → Act → World → Prop} (hgd : o.guard = none) (d s : Operand) (dT sT : TypeId)
    (ho : o.op = .call { callee := .builtin .copy, args := #[d, s], argTypes := #[dT, sT] }) (elem : TypeId) (hu : P.underlying dT = some (.slice elem)) (hsz : (P.info? elem).map (·.size) = some 1)
    (b off dLen dCap : Nat) (hd : a.eval d = .slice (some ⟨b, off, none⟩) dLen dCap) (t : ByteArray) (hs : a.eval s = .string t)
    (hc : ∀ j, j < Nat.min t.size dLen → (w.cell? ⟨b, off + j, none⟩).isSome = true ∧ w.frozen? ⟨b, off + j, none⟩ = false)
    (h : wpList P ops Q rest (a.put o.dst (goInt (Nat.min t.size dLen))) (w.setCells b off (cellsOf (t.data.toList.take (Nat.min t.size dLen))))) : wpList P ops Q (o :: rest) a w := by
  refine wpList_plain hgd fun K hK => ?_
  have hr := run_copy_str (P := P) w dT sT o.type elem b off dLen dCap t hu hsz hc
  unfold Oper.wp execOp
  simp only [ho, resolve, invoke, builtin, Sem.run_bind, Sem.run_pure, Result.andThen_ok, List.map_toArray, List.map_cons, List.map_nil, hd, hs, hr]
  exact hK _ _ h
/-- THE SAME AS ONE STEP OF A REGION THAT DRAWS ITS ORDER. -/
theorem step_copy_str {w : World} {ops : Array Oper} {o : Oper} {a : Act} {K : Act → World → Prop} {Q : Exit → Act → World → Prop} {E : Prop} (hgd : o.guard = none) (d s : Operand) (dT sT : TypeId)
    (ho : o.op = .call { callee := .builtin .copy, args := #[d, s], argTypes := #[dT, sT] }) (elem : TypeId) (hu : P.underlying dT = some (.slice elem)) (hsz : (P.info? elem).map (·.size) = some 1)
    (b off dLen dCap : Nat) (hd : a.eval d = .slice (some ⟨b, off, none⟩) dLen dCap) (t : ByteArray) (hs : a.eval s = .string t)
    (hc : ∀ j, j < Nat.min t.size dLen → (w.cell? ⟨b, off + j, none⟩).isSome = true ∧ w.frozen? ⟨b, off + j, none⟩ = false)
    (h : K (a.put o.dst (goInt (Nat.min t.size dLen))) (w.setCells b off (cellsOf (t.data.toList.take (Nat.min t.size dLen))))) :
    if Region.wanted o (yielded ops a.tmps) = true then Oper.wp P o a w K Q else E := by
  have hw : Region.wanted o (yielded ops a.tmps) = true := by simp [Region.wanted, hgd]
  rw [if_pos hw]
  have hr := run_copy_str (P := P) w dT sT o.type elem b off dLen dCap t hu hsz hc
  unfold Oper.wp execOp
  simp only [ho, resolve, invoke, builtin, Sem.run_bind, Sem.run_pure, Result.andThen_ok, List.map_toArray, List.map_cons, List.map_nil, hd, hs, hr]
  exact h
end

/-- There is room for so many cells from a place on. -/
theorem Own.room {w : World} {base n : Nat} {xs : List Value} {b off cap : Nat} (h : Own w base 1 (.slice (some ⟨b, off, none⟩) n cap) n xs) (at_ m : Nat) (hfit : at_ + m ≤ n) :
    ∀ j, j < m → (w.cell? ⟨b, off + at_ + j, none⟩).isSome = true ∧ w.frozen? ⟨b, off + at_ + j, none⟩ = false := by
  rcases h.2 with ⟨h0, _⟩ | ⟨b', off', cap', h0, h3, h4, h5, h6, h7, h8⟩
  · cases h0
  · cases h0
    intro j hj
    rw [Nat.add_assoc]
    exact h7 (at_ + j) (by omega)

/-- Bytes of the call's own, behind a copy into them. -/
theorem Own.copied {w : World} {base n : Nat} {l t : List UInt8} {b off cap : Nat} (h : Own w base 1 (.slice (some ⟨b, off, none⟩) n cap) n (cellsOf l)) (at_ : Nat) (hfit : at_ + t.length ≤ l.length) :
    Own (w.setCells b (off + at_) (cellsOf t)) base 1 (.slice (some ⟨b, off, none⟩) n cap) n (cellsOf (l.take at_ ++ t ++ l.drop (at_ + t.length))) := by
  have hln : l.length = n := by have := h.1; rw [cellsOf_length] at this; omega
  refine ⟨?_, ?_⟩
  · rw [cellsOf_length]
    simp
    omega
  · rcases h.2 with ⟨h0, _⟩ | ⟨b', off', cap', h0, h3, h4, h5, h6, h7, h8⟩
    · cases h0
    · cases h0
      refine .inr ⟨b, off, cap, rfl, h3, by rw [setCells_size]; exact h4, h5, h6, fun j hj => ?_, fun j u hu => ?_⟩
      · rw [World.frozen?_setCells]
        exact ⟨setCells_isSome _ _ _ _ _ (h7 j hj).1, (h7 j hj).2⟩
      · have hjl : j < (l.take at_ ++ t ++ l.drop (at_ + t.length)).length := by
          have := (List.getElem?_eq_some_iff.1 hu).1
          rwa [cellsOf_length] at this
        have hll : (l.take at_ ++ t ++ l.drop (at_ + t.length)).length = l.length := by simp; omega
        by_cases h1 : j < at_
        · rw [World.cell?_setCells_out b _ _ _ _ (fun _ _ => Or.inl (by show off + j < off + at_; omega))]
          refine h8 j u ?_
          rw [← hu]
          unfold cellsOf
          rw [List.getElem?_map, List.getElem?_map, List.append_assoc, List.getElem?_append_left (by rw [List.length_take]; omega), List.getElem?_take_of_lt h1]
        · by_cases h2 : j < at_ + t.length
          · have h9 := World.cell?_setCells_in b (cellsOf t) (off + at_) w (fun k hk => by rw [cellsOf_length] at hk; rw [Nat.add_assoc]; exact (h7 (at_ + k) (by omega)).1) (j - at_) (by rw [cellsOf_length]; omega)
            rw [show off + at_ + (j - at_) = off + j from by omega] at h9
            rw [h9, ← hu]
            unfold cellsOf
            rw [List.getElem?_map, List.append_assoc, List.getElem?_append_right (by rw [List.length_take]; omega), List.length_take, Nat.min_eq_left (by omega), List.getElem?_append_left (by omega)]
            rw [List.getElem_map, List.getElem?_eq_getElem (by omega)]
            rfl
          · rw [World.cell?_setCells_out b _ _ _ _ (fun _ _ => Or.inr (by rw [cellsOf_length]; show off + at_ + t.length ≤ off + j; omega))]
            refine h8 j u ?_
            rw [← hu]
            unfold cellsOf
            rw [List.getElem?_map, List.getElem?_map, List.getElem?_append_right (by rw [List.length_append, List.length_take]; omega), List.length_append, List.length_take, Nat.min_eq_left (by omega), List.getElem?_drop]
            congr 2
            omega
end Go.Proofs.Ytfehckdcjgmcpaa
