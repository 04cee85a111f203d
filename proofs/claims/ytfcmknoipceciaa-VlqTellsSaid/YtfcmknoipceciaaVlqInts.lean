/- Slices of integers: as an argument, as what is appended, as what an append has made. -/
import Derived.Test.YtfcmknoipceciaaVlqAwake
import Derived.Test.YtfcmknoipceciaaLawKit
import Derived.ChangeSlices
import Derived.OpenShut
namespace Go.Proofs.Ytfcmknoipceciaa
open Go.RowKit Go.ChangeShapes

theorem IntsAt.form {w : World} {v : Value} {zs : List Int} (h : IntsAt w v zs) : ∃ ao cap, v = .slice ao zs.length cap := by
  rcases h with ⟨rfl, ao, cap, rfl⟩ | ⟨b, off, cap, rfl, _⟩
  · exact ⟨ao, cap, rfl⟩
  · exact ⟨_, _, rfl⟩
theorem IntsAt.below {w w' : World} {v : Value} {zs : List Int} {n : Nat} (h : IntsAt w v zs) (hb : Below n w w') (hn : w.heap.size ≤ n) : IntsAt w' v zs := by
  rcases h with h | ⟨b, off, cap, rfl, h1, h2⟩
  · exact .inl h
  · exact .inr ⟨b, off, cap, rfl, Nat.lt_of_lt_of_le h1 hb.size, fun i hi => (hb.cell (p := ⟨b, off + i, none⟩) (Nat.lt_of_lt_of_le h1 hn)).trans (h2 i hi)⟩
theorem IntsAt.cell {w : World} {ao : Option Addr} {n cap : Nat} {zs : List Int} (h : IntsAt w (.slice ao n cap) zs) {i : Nat} (hi : i < zs.length) : ∃ b off, ao = some ⟨b, off, none⟩ ∧ w.cell? ⟨b, off + i, none⟩ = some (.int .i64 (zs.getD i 0)) := by
  rcases h with ⟨rfl, _⟩ | ⟨b, off, cap', h0, _, h2⟩
  · simp at hi
  · cases h0
    exact ⟨b, off, rfl, h2 i hi⟩
theorem IntsAt.src {P : Program} {w : World} {v : Value} {zs : List Int} {t e : TypeId} (ht : P.underlying t = some (.slice e)) (h : IntsAt w v zs) : Src P 1 t v zs.length (zs.map (Value.int .i64)) w := by
  rcases h with ⟨rfl, ao, cap, rfl⟩ | ⟨b, off, cap, rfl, _, h2⟩
  · cases ao with
    | none => exact Src.ofNil w ht cap
    | some a => exact Src.ofSlice w ht a 0 cap [] rfl (by simp) (by simp)
  · refine Src.ofSlice w ht ⟨b, off, none⟩ zs.length cap _ (by simp) ?_ (by intro u hu; obtain ⟨z, _, rfl⟩ := List.mem_map.1 hu; rfl)
    intro j u hj
    have hjl : j < zs.length := by have := (List.getElem?_eq_some_iff.1 hj).1; simpa using this
    rw [addr_add, h2 j hjl]
    rw [List.getElem?_map, List.getElem?_eq_getElem hjl] at hj
    rw [List.getD_eq_getElem?_getD, List.getElem?_eq_getElem hjl]
    simpa using hj
theorem Own.ints {w : World} {base n : Nat} {v : Value} {zs : List Int} (h : Own w base 1 v n (zs.map (Value.int .i64))) : IntsAt w v zs := by
  have hn : n = zs.length := by have := h.1; simp at this; omega
  subst hn
  rcases h.2 with ⟨h1, h2⟩ | ⟨b, off, cap, rfl, _, h4, _, _, _, h8⟩
  · exact .inl ⟨List.eq_nil_of_length_eq_zero h2, none, 0, h1⟩
  · refine .inr ⟨b, off, cap, rfl, h4, fun i hi => h8 i _ ?_⟩
    rw [List.getElem?_map, List.getElem?_eq_getElem hi, List.getD_eq_getElem?_getD, List.getElem?_eq_getElem hi]
    rfl
theorem own_empty (w : World) (base size : Nat) (t : TypeId) (hb : base ≤ w.heap.size) : Own (w.alloc (.cells #[] t)) base size (.slice (some ⟨w.heap.size, 0, none⟩) 0 0) 0 [] :=
  ⟨by simp, .inr ⟨_, 0, 0, rfl, hb, by simp, Nat.le_refl _, by simp [maxLen], by simp, by simp⟩⟩
theorem infoInt : (Try.prog.info? 3).map (fun i => (i.zero, i.size, i.bytes)) = some (some (.int .i64 0), 1, 8) := by kernel_rfl

theorem putL_nil (zs : List Int) : putL ⟨#[]⟩ zs = Gw.Vlq.many (zs.map Int.toNat) := by simp [putL]
theorem all_nonneg (zs : List Int) (h : ∀ z ∈ zs, 0 ≤ z) : zs.all (fun z => decide (0 ≤ z)) = true := by
  rw [List.all_eq_true]; intro z hz; exact decide_eq_true (h z hz)

/-- An argument that is a slice of integers. -/
theorem open_intsAt {H : Type} {enc : TypeId × Value → H} {P : Program} {W : World} {base : Nat} {t e : TypeId} {v : Value} {d : DataW H} {ps : List MemPlace} (ht : P.underlying t = some (.slice e)) (he : P.underlying e = some (.int .i64)) (hc : P.cellsOf e = 1)
    (hval : Value.okWide P W .any base t v) (hd : DataW.Trod enc P W 0 (fun _ => true) true t v d ps) :
    ∃ zs ao cap, v = .slice ao zs.length cap ∧ IntsAt W (.slice ao zs.length cap) zs ∧ zs.length ≤ maxLen ∧ ∀ z ∈ zs, -9223372036854775808 ≤ z ∧ z ≤ 9223372036854775807 := by
  obtain ⟨a0, len, cap, rfl⟩ := WideShapes.okWide_slice ht hval
  obtain ⟨fuel, hf⟩ := hd
  rcases open_ints ht he hc hf with ⟨hcs, _⟩ | ⟨a, len', cap', zs, hcs, _, hl, hm, hz, _, hcell, hwz⟩
  · simp [Value.cells] at hcs
    obtain ⟨rfl, rfl, rfl⟩ := hcs
    exact ⟨[], none, 0, rfl, .inl ⟨rfl, none, 0, rfl⟩, by simp, by simp⟩
  · simp [Value.cells] at hcs
    obtain ⟨rfl, rfl, rfl⟩ := hcs
    have hz' : zs.length = cap := by simpa using hz
    have hlen : (zs.take len).length = len := by rw [List.length_take]; omega
    refine ⟨zs.take len, some a, cap, by rw [hlen], ?_, by omega, fun z hz => bounds_i64 (hwz z (List.mem_of_mem_take hz))⟩
    by_cases h0 : len = 0
    · subst h0
      exact .inl ⟨by simp, some a, cap, by simp⟩
    · obtain ⟨b, off, rfl, hc2⟩ := ints_at hcell (by omega)
      refine .inr ⟨b, off, cap, rfl, ?_, fun i hi => ?_⟩
      · exact cell_lt (hc2 0 (by omega))
      · rw [hlen] at hi
        rw [hc2 i (by omega)]
        congr 2
        rw [List.getD_eq_getElem?_getD, List.getD_eq_getElem?_getD, List.getElem?_take_of_lt hi]
end Go.Proofs.Ytfcmknoipceciaa
