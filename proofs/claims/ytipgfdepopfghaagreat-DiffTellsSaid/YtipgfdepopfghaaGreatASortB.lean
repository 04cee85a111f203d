/- A list of texts sorted in place by their bytes: told without addresses. No claim of its own. -/
import Derived.Test.YtipgfdepopfghaaGreatASortT
import Derived.Test.YtipgfdepopfghaaGreatStrLay
import Derived.Test.YtipgfdepopfghaaGreatDiffLaw
import Derived.Test.YtipgfdepopfghaaGreatAmC2
import Derived.Shelf.Slices.In.SortNone
namespace Go.Proofs.YtipgfdepopfghaaGreat
open Go.Shelf Go.RowKit Go.Lib Go.Sort Go.Am

theorem sortB_ac {σ : St} {n : Nat} {K : V → St → Nat → Prop} (i len : Nat) (l : List (List UInt8)) (T : TypeId) (hlen : len = l.length) (h2 : l.length ≤ 1048576) (hs : σ (.blk i) = .mem T (flatT l))
    (hK : K (.tup []) (upd σ (.blk i) (.mem T (flatT (Gw.Diff.sortB l)))) n) : AC Tryz.prog 36 [.own i 0 1 len true] σ n K := by
  refine ⟨Am.enters_of (fn := Tryz.f36) (by kernel_rfl) rfl (by kernel_rfl), fun b g w vals h hvl hv => ?_⟩
  match vals, hvl with
  | [v1], _ =>
  obtain ⟨c, cap, ad, hc, rfl, _, _, hle, hf⟩ := (hv 0 _ v1 rfl rfl).own_inv
  obtain ⟨_, rfl, T', hsh⟩ := hf rfl
  obtain ⟨arr, z, a1, a2, a3, a4⟩ := h.mem i T (flatT l) c hs hc
  have hcl : c < w.heap.size := h.ownsz i c hc
  have hfl : (flatT l).length = l.length := List.length_map _
  have hH : Holds encStr w c 0 l.toArray := fun j hj => by
    have hj' : j < l.length := by simpa using hj
    have hja : j < arr.length := by omega
    have hx : (flatT l)[j]? = some (.str l[j]) := by unfold flatT; rw [List.getElem?_map, List.getElem?_eq_getElem hj']; rfl
    have hr := a4 j _ arr[j] hx (List.getElem?_eq_getElem hja)
    have he : arr[j] = encStr l.toArray[j]! := by
      have e1 : l.toArray[j]! = l[j] := by rw [getElem!_pos l.toArray j hj]; simp
      rw [e1]
      unfold encStr
      generalize arr[j] = u at hr
      cases hr with
      | str hb => rename_i ba; rw [← hb]
    refine ⟨?_, ?_⟩
    · rw [Nat.zero_add, ← he]
      simp [World.cell?, a1, hja]
    · rw [Nat.zero_add]
      have := a3 j hja
      simp [World.frozen?, a1]
      omega
  have hcon := Any.slices_Sort_string Tryz.sortStrs c 0 cap l w hH hcl (by omega)
  subst hlen
  refine hcon.mono ?_
  rintro e w' ⟨rfl, q, os, rfl⟩
  change HSim b σ (· < n) g w at h
  have hds : (Gw.Diff.sortB l).length = l.length := (Gw.Diff.sortB_perm l).length_eq
  have hsv : (l.mergeSort fun x y => decide (x ≤ y)) = Gw.Diff.sortB l := rfl
  rw [hsv]
  obtain ⟨g1, E1⟩ := h.grow0 (w' := Sort.ahead w q) ⟨rfl, rfl, rfl, Nat.le_refl _, fun _ _ => rfl⟩ (by show w.drawn ≤ w.drawn + q; omega)
  have hput : (putRow encStr (Sort.ahead w q) c 0 (Gw.Diff.sortB l).toArray).heap[c]? = some (.cells (putCells encStr 0 (Gw.Diff.sortB l).toArray arr.toArray) T z) := by
    show (w.heap.modify c _)[c]? = _
    rw [Array.getElem?_modify, if_pos rfl, a1]
    rfl
  have hw : Wr c (Sort.ahead w q) (putRow encStr (Sort.ahead w q) c 0 (Gw.Diff.sortB l).toArray) := by
    refine ⟨rfl, rfl, rfl, ?_, fun k hk => ?_, ?_, fun ds hd => ?_, rfl⟩
    · show (w.heap.modify c _).size = _
      rw [Array.size_modify]; rfl
    · show (w.heap.modify c _)[k]? = _
      rw [Array.getElem?_modify, if_neg (Ne.symm hk)]; rfl
    · unfold World.shape?
      rw [hput]
      show _ = (match w.heap[c]? with | some (.cells cs e _) => some (e, cs.size) | _ => none)
      rw [a1]
      simp [putCells]
    · have hd : w.heap[c]? = some (Obj.deferred ds) := hd
      rw [a1] at hd; cases hd
  obtain ⟨g2, E2⟩ := g1.write (X := .mem T (flatT (Gw.Diff.sortB l))) (by rw [hs]; rfl) hc hw (fun _ => by
    refine ⟨(putCells encStr 0 (Gw.Diff.sortB l).toArray arr.toArray).toList, z, by rw [hput], ?_, ?_, ?_⟩
    · rw [flatT, List.length_map, hds]
      simp only [putCells, Array.length_toList, Array.size_mapIdx, List.size_toArray]
      omega
    · intro o ho
      simp only [putCells, Array.length_toList, Array.size_mapIdx, List.size_toArray] at ho
      exact a3 o ho
    · intro j x v hx hvv
      have hjs : j < (Gw.Diff.sortB l).length := by
        have := (List.getElem?_eq_some_iff.1 hx).1
        rwa [flatT, List.length_map] at this
      have hja : j < arr.length := by omega
      have ex : x = .str (Gw.Diff.sortB l)[j] := by
        rw [flatT, List.getElem?_map, List.getElem?_eq_getElem hjs] at hx
        exact (Option.some.inj hx).symm
      have ev : v = encStr (Gw.Diff.sortB l).toArray[j]! := by
        simp only [putCells, Array.getElem?_toList, Array.getElem?_mapIdx, List.getElem?_toArray, List.getElem?_eq_getElem hja, Option.map_some] at hvv
        rw [if_pos ⟨Nat.zero_le _, by simpa using hjs⟩, Nat.sub_zero] at hvv
        exact (Option.some.inj hvv).symm
      have e1 : (Gw.Diff.sortB l).toArray[j]! = (Gw.Diff.sortB l)[j] := by rw [getElem!_pos (Gw.Diff.sortB l).toArray j (by simpa using hjs)]; simp
      rw [ex, ev, e1]
      exact .str rfl)
  obtain ⟨g3, E3⟩ := g2.grow0 (w' := grow (putRow encStr (Sort.ahead w q) c 0 (Gw.Diff.sortB l).toArray) os) ⟨rfl, rfl, rfl, by rw [size_grow]; omega, fun k hk => heap_grow_old _ _ hk⟩ (Nat.le_refl _)
  exact ⟨_, _, _, n, _, rfl, hK, Nat.le_refl _, .tup (vs := []) rfl (by simp), g3, (E1.trans E2).trans E3⟩
theorem sortB0_pc (q : Bool) : PC Tryz.prog 36 [.lst q 1 [] .none] (.tup []) := by
  refine ⟨Am.enters_of (fn := Tryz.f36) (by kernel_rfl) rfl (by kernel_rfl), fun w F vals _ _ hvl hv => ?_⟩
  match vals, hvl with
  | [v1], _ =>
  obtain ⟨ad, c, rfl, _, _⟩ := (Rep.pure (g := ⟨F, fun _ => none, fun _ => none⟩) (hv 0 _ v1 rfl rfl)).lst_inv
  have hcon := Any.slices_Sort_string_none Tryz.sortStrs ad c w
  change Calls Tryz.prog 36 #[.slice ad 0 c] w _ at hcon
  refine hcon.mono ?_
  rintro e w' ⟨rfl, rfl⟩
  exact ⟨_, F, rfl, ⟨Below.refl _ _, Nat.le_refl _⟩, fun _ _ h => h, fun _ _ h => .inl h, .tup (vs := []) rfl (fun i x v h => by simp at h)⟩
end Go.Proofs.YtipgfdepopfghaaGreat
