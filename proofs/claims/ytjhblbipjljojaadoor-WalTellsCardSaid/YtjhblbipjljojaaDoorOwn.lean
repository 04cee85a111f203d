/- A slice of the call's own, said of its cells alone: what it holds, that all its cells (the spare ones too) are there and may be written; append onto it. Of any program. -/
import Derived.Test.YtjhblbipjljojaaDoorRows
import Derived.WalkKit
import Derived.WalkSpells
import Derived.WalkLawsBesides
import Derived.Lib.Hide
import Derived.Laws.IdiomStrings
import Derived.Laws.IdiomCopy
import Derived.Deep.AppendSrc
import Derived.Below
namespace Go.Proofs.YtjhblbipjljojaaDoor
open Go.RowKit

/-- The slice v, of n elements of 'size' cells each, holds the cells xs; it lies in a block from 'base' on, or is nil. -/
def Own (w : World) (base size : Nat) (v : Value) (n : Nat) (xs : List Value) : Prop :=
  xs.length = n * size ∧
  ((v = .slice none 0 0 ∧ n = 0) ∨
   ∃ b off cap, v = .slice (some ⟨b, off, none⟩) n cap ∧ base ≤ b ∧ b < w.heap.size ∧ n ≤ cap ∧ cap ≤ maxLen ∧
    (∀ j, j < cap * size → (w.cell? ⟨b, off + j, none⟩).isSome = true ∧ w.frozen? ⟨b, off + j, none⟩ = false) ∧
    (∀ j u, xs[j]? = some u → w.cell? ⟨b, off + j, none⟩ = some u))

theorem addr_add (b off j : Nat) : (⟨b, off, none⟩ : Addr).add j = ⟨b, off + j, none⟩ := by unfold Addr.add; split <;> simp_all

theorem Own.nil (w : World) (base size : Nat) : Own w base size (.slice none 0 0) 0 [] := ⟨by simp, .inl ⟨rfl, rfl⟩⟩

theorem Own.mono {w : World} {base base' size n : Nat} {v : Value} {xs : List Value} (h : Own w base size v n xs) (hb : base' ≤ base) : Own w base' size v n xs := by
  refine ⟨h.1, ?_⟩
  rcases h.2 with h2 | ⟨b, off, cap, hv, h3, r⟩
  · exact .inl h2
  · exact .inr ⟨b, off, cap, hv, Nat.le_trans hb h3, r⟩

/-- It stays so where its own block is as it was. -/
theorem Own.kept {w w' : World} {base size n : Nat} {v : Value} {xs : List Value} (h : Own w base size v n xs) (hs : w.heap.size ≤ w'.heap.size)
    (hb : ∀ k, v.ownBlock = some k → w'.heap[k]? = w.heap[k]?) : Own w' base size v n xs := by
  refine ⟨h.1, ?_⟩
  rcases h.2 with h2 | ⟨b, off, cap, rfl, h3, h4, h5, h6, h7, h8⟩
  · exact .inl h2
  · have hk := hb b rfl
    refine .inr ⟨b, off, cap, rfl, h3, Nat.lt_of_lt_of_le h4 hs, h5, h6, fun j hj => ?_, fun j u hu => ?_⟩
    · rw [World.cell?_of_block (a := ⟨b, off + j, none⟩) hk, World.frozen?_of_block (a := ⟨b, off + j, none⟩) hk]
      exact h7 j hj
    · rw [World.cell?_of_block (a := ⟨b, off + j, none⟩) hk]
      exact h8 j u hu
theorem Own.lt {w : World} {base size n : Nat} {v : Value} {xs : List Value} (h : Own w base size v n xs) : ∀ k, v.ownBlock = some k → base ≤ k ∧ k < w.heap.size := by
  intro k hk
  rcases h.2 with ⟨rfl, _⟩ | ⟨b, off, cap, rfl, h3, h4, _⟩
  · cases hk
  · cases hk
    exact ⟨h3, h4⟩
theorem Own.below {w w' : World} {base size n B : Nat} {v : Value} {xs : List Value} (h : Own w base size v n xs) (hb : Below B w w') (hB : w.heap.size ≤ B) : Own w' base size v n xs :=
  h.kept hb.size (fun k hk => hb.block k (Nat.lt_of_lt_of_le (h.lt k hk).2 hB))
theorem Own.alloc {w : World} {base size n : Nat} {v : Value} {xs : List Value} (h : Own w base size v n xs) (o : Obj) : Own (w.alloc o) base size v n xs :=
  h.below ((Below.refl _ _).alloc (Nat.le_refl _) o) (Nat.le_refl _)
theorem Own.drew {w : World} {base size n : Nat} {v : Value} {xs : List Value} (h : Own w base size v n xs) : Own w.drew base size v n xs :=
  h.below ((Below.refl _ _).drew) (Nat.le_refl _)
/-- The spare room is not told of. -/
theorem Own.cell {w : World} {base size n : Nat} {v : Value} {xs : List Value} {b off cap l : Nat} (h : Own w base size v n xs) (hv : v = .slice (some ⟨b, off, none⟩) l cap) {j : Nat} {u : Value} (hu : xs[j]? = some u) :
    w.cell? ⟨b, off + j, none⟩ = some u := by
  rcases h.2 with ⟨h2, _⟩ | ⟨b', off', cap', h1, _, _, _, _, _, h8⟩
  · rw [h2] at hv; cases hv
  · rw [h1] at hv
    cases hv
    exact h8 j u hu

theorem setCells_block (b : Nat) : ∀ (vs : List Value) (o : Nat) (w : World) (k : Nat), k ≠ b → (w.setCells b o vs).heap[k]? = w.heap[k]?
  | [], _, _, _, _ => rfl
  | v :: r, o, w, k, hk => by
    rw [World.setCells, setCells_block b r (o + 1) _ k hk]
    exact Below.heap_setCell _ _ _ _ hk
theorem setCells_size (b : Nat) : ∀ (vs : List Value) (o : Nat) (w : World), (w.setCells b o vs).heap.size = w.heap.size
  | [], _, _ => rfl
  | v :: r, o, w => by rw [World.setCells, setCells_size b r (o + 1)]; simp [World.setCell]
theorem setCells_grown (b : Nat) : ∀ (vs : List Value) (o : Nat) (w : World), w.grownBy (w.setCells b o vs) (some b)
  | [], _, w => ⟨rfl, rfl, rfl, Nat.le_refl _, fun _ _ _ => rfl⟩
  | v :: r, o, w => by
    have h := setCells_grown b r (o + 1) (w.setCell ⟨b, o, none⟩ v)
    rw [World.setCells]
    exact ⟨h.os, h.tape, h.output, by rw [setCells_size]; simp [World.setCell], fun k _ hne => by
      have hkb : k ≠ b := fun e => hne (by rw [e])
      rw [setCells_block b r (o + 1) _ k hkb]
      exact Below.heap_setCell _ _ _ _ hkb⟩
theorem setCells_isSome (b : Nat) (vs : List Value) (o : Nat) (w : World) (x : Addr) (h : (w.cell? x).isSome = true) : ((w.setCells b o vs).cell? x).isSome = true := by
  induction vs generalizing o w with
  | nil => exact h
  | cons v r ih =>
    rw [World.setCells]
    refine ih (o + 1) _ ?_
    obtain ⟨u, hu⟩ := Option.isSome_iff_exists.1 h
    obtain ⟨v', hv'⟩ := cell?_setCell_some (p := ⟨b, o, none⟩) (x := v) hu
    rw [hv']
    rfl

section
variable {P : Program}

/-- APPEND, whatever is appended. -/
theorem run_append_Own (w : World) (base : Nat) (t tx ty e : TypeId) (i : TypeInfo) (z : Value) (size bytes : Nat) (ht : P.underlying t = some (.slice e)) (hi : P.info? e = some i) (hz : i.zero = some z)
    (hsize : i.size = size) (hby : i.bytes = bytes) (hzs : z.cells.size = size)
    (v : Value) (n : Nat) (xs : List Value) (hown : Own w base size v n xs) (x : Value) (m : Nat) (news : List Value) (hs : Src P size tx x m news w)
    (h63 : n + m ≤ maxLen) (hbytes : (n + m) * bytes ≤ 140737488355328) (hbase : base ≤ w.heap.size) (hmz : v = .slice none 0 0 → 0 < m) :
    ∃ v' w', (Builtin.append_ #[t, tx] ty #[v, x]).run P w = .ok v' w' ∧ Own w' base size v' (n + m) (xs ++ news) ∧ w.grownBy w' v.ownBlock ∧ (∃ a c, v' = .slice (some a) (n + m) c) := by
  subst hsize
  subst hby
  have hlen : (xs ++ news).length = (n + m) * i.size := by rw [List.length_append, hown.1, hs.newsLen, Nat.add_mul]
  have h63' : ((n + m : Nat) : Int) ≤ 9223372036854775807 := by simp only [maxLen] at h63; omega
  have fresh : ∀ (C : Nat), n + m ≤ C → C ≤ maxLen → Own (w.drew.alloc (.cells ((xs ++ news).toArray ++ Builtin.zeroCells z.cells (C - (n + m))) e)) base i.size (.slice (some ⟨w.heap.size, 0, none⟩) (n + m) C) (n + m) (xs ++ news) := by
    intro C hC hCm
    have hcs : ((xs ++ news).toArray ++ Builtin.zeroCells z.cells (C - (n + m))).size = C * i.size := by
      rw [Array.size_append, size_zeroCells, hzs, List.size_toArray, hlen, ← Nat.add_mul]
      congr 1
      omega
    refine ⟨hlen, .inr ⟨w.heap.size, 0, C, rfl, hbase, by show w.heap.size < (w.heap.push _).size; simp, hC, hCm, fun j hj => ?_, fun j u hu => ?_⟩⟩
    · have h1 := World.cell?_alloc_mark w.drew ((xs ++ news).toArray ++ Builtin.zeroCells z.cells (C - (n + m))) e (0, 0) (0 + j)
      have h2 := World.frozen?_alloc_mark w.drew ((xs ++ news).toArray ++ Builtin.zeroCells z.cells (C - (n + m))) e 0 0 (0 + j)
      have e1 : (w.drew).heap.size = w.heap.size := rfl
      rw [e1] at h1 h2
      rw [h1, h2]
      refine ⟨?_, by simp⟩
      rw [Nat.zero_add, Array.getElem?_eq_getElem (by rw [hcs]; exact hj)]
      rfl
    · have h1 := World.cell?_alloc_mark w.drew ((xs ++ news).toArray ++ Builtin.zeroCells z.cells (C - (n + m))) e (0, 0) (0 + j)
      have e1 : (w.drew).heap.size = w.heap.size := rfl
      rw [e1] at h1
      rw [h1, Nat.zero_add]
      have hj : j < (xs ++ news).length := (List.getElem?_eq_some_iff.1 hu).1
      rw [Array.getElem?_append_left (by simpa using hj)]
      simpa using hu
  have hgr : ∀ o row, w.grownBy (w.drew.alloc o) row := fun o row =>
    have h := World.grownBy_alloc w.drew o row
    ⟨h.os, h.tape, h.output, h.size, h.block⟩
  rcases hown.2 with ⟨rfl, rfl⟩ | ⟨b, off, cap, rfl, h3, h4, h5, h6, h7, h8⟩
  · have hx0 : xs = [] := by have := hown.1; simpa using this
    subst hx0
    have hm := hmz rfl
    have hr := run_append_grow_src (P := P) w t tx ty e i z ht hi hz none 0 0 [] (by simp [Builtin.firstCells]) x m news hs (by omega) h63' (growslice_fits (by omega) hbytes)
    exact ⟨_, _, hr, fresh _ (grownCap_ge w (0 + m) 0 e) (grownCap_le_maxLen w (0 + m) 0 e h63), hgr _ _, _, _, rfl⟩
  · by_cases hroom : n + m ≤ cap
    · have hml : news.length = m * i.size := hs.newsLen
      have hcap : n * i.size + news.length ≤ cap * i.size := by rw [hml, ← Nat.add_mul]; exact Nat.mul_le_mul_right _ hroom
      have hr := run_append_room_src (P := P) w t tx ty e i ht hi b off n cap x m news hs hroom
        (fun j hj => by rw [Nat.add_assoc]; exact (h7 (n * i.size + j) (by omega)).1) (fun j hj => by rw [Nat.add_assoc]; exact (h7 (n * i.size + j) (by omega)).2)
      refine ⟨_, _, hr, ⟨hlen, .inr ⟨b, off, cap, rfl, h3, by rw [setCells_size]; exact h4, hroom, h6, fun j hj => ?_, fun j u hu => ?_⟩⟩, setCells_grown b _ _ _, _, _, rfl⟩
      · rw [World.frozen?_setCells]
        exact ⟨setCells_isSome _ _ _ _ _ (h7 j hj).1, (h7 j hj).2⟩
      · by_cases hj : j < xs.length
        · rw [World.cell?_setCells_out b _ _ _ _ (fun _ _ => Or.inl (by have := hown.1; show off + j < off + n * i.size; omega))]
          rw [List.getElem?_append_left hj] at hu
          exact h8 j u hu
        · rw [List.getElem?_append_right (by omega)] at hu
          have hjn : j - xs.length < news.length := (List.getElem?_eq_some_iff.1 hu).1
          have h9 := World.cell?_setCells_in b news (off + n * i.size) w (fun k hk => by rw [Nat.add_assoc]; exact (h7 (n * i.size + k) (by omega)).1) (j - xs.length) hjn
          have he : off + n * i.size + (j - xs.length) = off + j := by have := hown.1; omega
          rw [he] at h9
          rw [h9]
          rw [List.getElem?_eq_getElem hjn] at hu
          exact hu
    · have holds : ∀ j u, xs[j]? = some u → w.drew.cell? ((⟨b, off, none⟩ : Addr).add j) = some u := fun j u hu => by
        rw [addr_add]
        simpa using h8 j u hu
      have hr := run_append_grow_src (P := P) w t tx ty e i z ht hi hz (some ⟨b, off, none⟩) n cap xs (run_firstCells_some w.drew i.size n ⟨b, off, none⟩ n cap xs hown.1 holds) x m news hs (by omega) h63' (growslice_fits (by omega) hbytes)
      exact ⟨_, _, hr, fresh _ (grownCap_ge w (n + m) cap e) (grownCap_le_maxLen w (n + m) cap e h63), hgr _ _, _, _, rfl⟩

/-- THE OPERATION, for the walk. -/
theorem wpList_append_Own {w : World} {ops : Array Oper} {rest : List Oper} {o : Oper} {a : Act} {Q : Exit → Act → World → Prop} (hgd : o.guard = none) (s x : Operand) (t tx : TypeId)
    (ho : o.op = .call { callee := .builtin .append, args := #[s, x], argTypes := #[t, tx] })
    (base : Nat) (e : TypeId) (i : TypeInfo) (z : Value) (size bytes : Nat) (ht : P.underlying t = some (.slice e)) (hi : P.info? e = some i) (hz : i.zero = some z)
    (hsize : i.size = size) (hby : i.bytes = bytes) (hzs : z.cells.size = size)
    (v : Value) (n : Nat) (xs : List Value) (hev : a.eval s = v) (hown : Own w base size v n xs) (xv : Value) (m : Nat) (news : List Value) (hxv : a.eval x = xv) (hs : Src P size tx xv m news w)
    (h63 : n + m ≤ maxLen) (hbytes : (n + m) * bytes ≤ 140737488355328) (hbase : base ≤ w.heap.size) (hmz : v = .slice none 0 0 → 0 < m)
    (h : ∀ v' w', Own w' base size v' (n + m) (xs ++ news) → w.grownBy w' v.ownBlock → (∃ a c, v' = .slice (some a) (n + m) c) → wpList P ops Q rest (a.put o.dst v') w') : wpList P ops Q (o :: rest) a w := by
  refine wpList_plain hgd fun K hK => ?_
  obtain ⟨v', w', hr, h2, h3, h4⟩ := run_append_Own (P := P) w base t tx o.type e i z size bytes ht hi hz hsize hby hzs v n xs hown xv m news hs h63 hbytes hbase hmz
  unfold Oper.wp execOp
  simp only [ho, resolve, invoke, builtin, Sem.run_bind, Sem.run_pure, Result.andThen_ok, List.map_toArray, List.map_cons, List.map_nil, hev, hxv, hr]
  exact hK _ _ (h v' w' h2 h3 h4)
end

/-- A string's bytes as cells. -/
def cellsOf (l : List UInt8) : List Value := l.map fun c => Value.int .u8 (c.toNat : Int)
theorem cellsOf_length (l : List UInt8) : (cellsOf l).length = l.length := by simp [cellsOf]
theorem cellsOf_append (a b : List UInt8) : cellsOf (a ++ b) = cellsOf a ++ cellsOf b := by simp [cellsOf]

/-- What a conversion of a string to bytes makes is the call's own. -/
theorem bytes_conv_own {P : Program} (w : World) (src dst e : TypeId) (s : ByteArray) (hs : P.underlying src = some .string) (hd : P.underlying dst = some (.slice e)) (he : P.underlying e = some (.int .u8)) (hmax : s.size ≤ maxLen) (base : Nat) (hb : base ≤ w.heap.size) :
    ∃ W v, (convert src dst (.string s)).run P w = .ok v W ∧ Below w.heap.size w W ∧ Own W base 1 v s.size (cellsOf s.data.toList) ∧ (∃ c, v = .slice (some ⟨w.heap.size, 0, none⟩) s.size c) := by
  have hge := grownCap_ge w s.size 0 e
  have hcm := grownCap_le_maxLen w s.size 0 e hmax
  have hdz : s.data.size = s.size := rfl
  have hsz : (bytesRow s (grownCap w s.size 0 e)).size = grownCap w s.size 0 e := by
    simp [bytesRow]
    omega
  refine ⟨_, _, run_bytes_of_string w src dst e s hs hd he, ((Below.refl _ _).drew).alloc (Nat.le_refl _) _, ⟨by rw [cellsOf_length, Nat.mul_one]; rfl, .inr ⟨w.heap.size, 0, _, rfl, hb, ?_, hge, hcm, fun j hj => ?_, fun j u hu => ?_⟩⟩, _, rfl⟩
  · show w.heap.size < (w.heap.push _).size
    simp
  · have e1 : (w.drew).heap.size = w.heap.size := rfl
    have h1 := World.cell?_alloc_mark w.drew (bytesRow s (grownCap w s.size 0 e)) e ((bytesRow s (grownCap w s.size 0 e)).size, (bytesRow s (grownCap w s.size 0 e)).size + 1) (0 + j)
    have h2 := World.frozen?_alloc_mark w.drew (bytesRow s (grownCap w s.size 0 e)) e (bytesRow s (grownCap w s.size 0 e)).size ((bytesRow s (grownCap w s.size 0 e)).size + 1) (0 + j)
    rw [e1] at h1 h2
    rw [h1, h2]
    rw [Nat.mul_one] at hj
    refine ⟨?_, by rw [decide_eq_false (by omega), Bool.false_and]⟩
    rw [Nat.zero_add, Array.getElem?_eq_getElem (by omega)]
    rfl
  · have e1 : (w.drew).heap.size = w.heap.size := rfl
    have h1 := World.cell?_alloc_mark w.drew (bytesRow s (grownCap w s.size 0 e)) e ((bytesRow s (grownCap w s.size 0 e)).size, (bytesRow s (grownCap w s.size 0 e)).size + 1) (0 + j)
    rw [e1] at h1
    rw [h1, Nat.zero_add]
    have hj : j < s.size := by
      have := (List.getElem?_eq_some_iff.1 hu).1
      rw [cellsOf_length] at this
      exact this
    rw [bytesRow_at s _ j hj]
    have hjd : j < s.data.toList.length := hj
    rw [← hu]
    unfold cellsOf
    rw [List.getElem?_map, List.getElem?_eq_getElem hjd]
    rfl

/-- Bytes of the call's own, made a string. -/
theorem string_conv_own {P : Program} (w : World) (src dst e : TypeId) (base : Nat) (v : Value) (n : Nat) (l : List UInt8) (hs : P.underlying src = some (.slice e)) (he : P.underlying e = some (.int .u8)) (hd : P.underlying dst = some .string) (h : Own w base 1 v n (cellsOf l)) :
    (convert src dst v).run P w = .ok (.string ⟨l.toArray⟩) w := by
  have hn : n = l.length := by have := h.1; rw [cellsOf_length] at this; omega
  subst hn
  rcases h.2 with ⟨rfl, h0⟩ | ⟨b, off, cap, rfl, h3, h4, h5, h6, h7, h8⟩
  · have : l = [] := List.eq_nil_of_length_eq_zero h0
    subst this
    exact run_convert_bytes_nil w src e hs he 0 0 dst hd
  · refine run_convert_bytes_back w src dst e ⟨b, off, none⟩ cap l hs he hd ?_
    intro j hj
    rw [addr_add]
    refine h8 j _ ?_
    unfold cellsOf
    rw [List.getElem?_map, List.getElem?_eq_getElem hj]
    rfl

/-- A new slice of bytes. -/
theorem src_one {P : Program} {w : World} {tx e' : TypeId} (hk : P.underlying tx = some (.slice e')) (b c : Nat) (u : Value) (h1 : u.oneCell' = true) (hc : w.cell? ⟨b, 0, none⟩ = some u) : Src P 1 tx (.slice (some ⟨b, 0, none⟩) 1 c) 1 [u] w := by
  refine Src.ofSlice w hk ⟨b, 0, none⟩ 1 c [u] rfl ?_ (by simpa using h1)
  intro j u' hj
  match j, hj with
  | 0, hj =>
    simp at hj
    subst hj
    simpa [Addr.add] using hc
end Go.Proofs.YtjhblbipjljojaaDoor
