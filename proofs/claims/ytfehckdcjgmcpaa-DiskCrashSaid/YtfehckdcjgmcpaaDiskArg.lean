/- A disk as an argument of a law. -/
import Derived.Test.YtfehckdcjgmcpaaDiskMem
import Derived.Test.YtfehckdcjgmcpaaLawKit
import Derived.Lib.SmallJoins
import Derived.Deep.Slices
namespace Go.Proofs.Ytfehckdcjgmcpaa
open Go.ChangeShapes Go.WideShapes Go.ChangeAt Go.RowKit

theorem wf_i64 {z : Int} (h : (Lit.int .i64 z).wf = true) : -9223372036854775808 ≤ z ∧ z ≤ 9223372036854775807 := bounds_i64 h

theorem add_zero_addr (a : Addr) : a.add 0 = a := by
  obtain ⟨b, off, spot⟩ := a
  unfold Addr.add
  cases spot <;> simp
/-- A slice of patches, as it is read. -/
theorem open_patches {H : Type} {enc : TypeId × Value → H} {W : World} {fuel : Nat} {v : Value} {x : DataW H × List MemPlace}
    (hf : DataW.trod enc Try.prog W 0 (fun _ => true) true fuel 22 [v] = some x) :
    ∃ ps, PatchesAt W v ps ∧ ps.length ≤ maxLen ∧ ∀ p ∈ ps, (-9223372036854775808 ≤ p.1 ∧ p.1 ≤ 9223372036854775807) ∧ p.2.size ≤ maxLen := by
  have hC : Try.prog.cellsOf 40 = 2 := by kernel_rfl
  rcases Go.Deep.open_slice Try.underlying22 hf with ⟨hcs, _⟩ | ⟨a, len, cap, m, n, D, Pl, hcs, _, hle, hm, hmm, _, hel⟩
  · obtain rfl : v = .slice none 0 0 := by simpa using hcs
    exact ⟨[], .inl ⟨rfl, none, 0, rfl⟩, by simp, by simp⟩
  · obtain rfl : v = .slice (some a) len cap := by simpa using hcs
    obtain rfl : m = cap := by simpa using hmm
    have hex : ∀ i, ∃ p : Int × ByteArray, i < len → ((-9223372036854775808 ≤ p.1 ∧ p.1 ≤ 9223372036854775807) ∧ p.2.size ≤ maxLen) ∧ W.cell? (a.add (i * 2)) = some (.int .i64 p.1) ∧ W.cell? ((a.add (i * 2)).add 1) = some (.string p.2) := by
      intro i
      by_cases hi : i < len
      · obtain ⟨cs, hcells, ht⟩ := hel i (by omega)
        rw [hC] at hcells
        obtain ⟨_, hl2, hc2⟩ := World.cells?_some hcells
        obtain ⟨y0, y1, k, _, _, h0, h1⟩ := trod_struct2 Try.underlying40 ht
        match cs, hl2 with
        | [c0, c1], _ =>
          obtain ⟨z, hz, _, hw⟩ := DataW.trod_int Try.underlying3 (show DataW.trod enc Try.prog W 0 (fun _ => true) true k 3 [c0] = some y0 from h0)
          obtain ⟨s, hs, _, hws⟩ := DataW.trod_string Try.underlying9 (show DataW.trod enc Try.prog W 0 (fun _ => true) true k 9 [c1] = some y1 from h1)
          obtain rfl : c0 = .int .i64 z := by simpa using hz
          obtain rfl : c1 = .string s := by simpa using hs
          refine ⟨(z, s), fun _ => ⟨⟨wf_i64 hw, hws⟩, ?_, hc2 1 (by omega)⟩⟩
          have h00 := hc2 0 (by omega)
          have e : (a.add (i * 2)).add 0 = a.add (i * 2) := add_zero_addr _
          rw [e] at h00
          exact h00
      · exact ⟨(0, ByteArray.empty), fun h => absurd h hi⟩
    obtain ⟨f, hfn⟩ := Classical.skolem.1 hex
    have hlen : ((List.range len).map f).length = len := by simp
    have hget : ∀ i, i < len → ((List.range len).map f).getD i (0, ByteArray.empty) = f i := fun i hi => by
      rw [List.getD_eq_getElem?_getD, List.getElem?_map, List.getElem?_range hi]
      rfl
    refine ⟨(List.range len).map f, ?_, by omega, fun p hp => ?_⟩
    · by_cases h0 : len = 0
      · subst h0
        exact .inl ⟨rfl, some a, m, rfl⟩
      · have hs0 := (hfn 0 (by omega)).2.1
        obtain ⟨b, off, spot⟩ := a
        have hspot : spot = none := by simpa [Addr.add] using World.cell?_spot hs0
        subst hspot
        have hb := cell_lt hs0
        rw [addr_add] at hb
        refine .inr ⟨b, off, m, by rw [hlen], hb, fun i hi => ?_⟩
        rw [hlen] at hi
        have h2 := (hfn i hi).2
        rw [addr_add, addr_add] at h2
        rw [hget i hi]
        exact h2
    · obtain ⟨i, hi, rfl⟩ := List.mem_map.1 hp
      exact (hfn i (by simpa using hi)).1

/-- A disk, as an argument. -/
theorem open_disk {H : Type} {enc : TypeId × Value → H} {W : World} {base : Nat} {v : Value} {d : DataW H} {q : List MemPlace}
    (hval : Value.okWide Try.prog W .any base 24 v) (hd : DataW.Trod enc Try.prog W 0 (fun _ => true) true 24 v d q) :
    ∃ (D : Gw.Disk.Disk) (sl : Value), v = diskV D sl ∧ PatchesAt W sl D.loose ∧ D.loose.length ≤ maxLen ∧ (-9223372036854775808 ≤ D.size ∧ D.size ≤ 9223372036854775807) ∧ D.firm.size ≤ maxLen ∧
      ∀ p ∈ D.loose, (-9223372036854775808 ≤ p.1 ∧ p.1 ≤ 9223372036854775807) ∧ p.2.size ≤ maxLen := by
  obtain ⟨v0, v1, v2, y0, y1, y2, n, rfl, _, _, h0, h1, h2⟩ := Go.Joins.open_agg3 Try.underlying24 (by kernel_rfl) (by kernel_rfl) hval hd
  obtain ⟨z, hz, _, hw⟩ := DataW.trod_int Try.underlying3 h0
  obtain ⟨s, hs, _, hws⟩ := DataW.trod_string Try.underlying9 h1
  obtain ⟨ps, hps, hl, hb⟩ := open_patches h2
  obtain rfl : v0 = .int .i64 z := by simpa using hz
  obtain rfl : v1 = .string s := by simpa using hs
  exact ⟨⟨z, s, ps⟩, v2, rfl, hps, hl, wf_i64 hw, hws, hb⟩
end Go.Proofs.Ytfehckdcjgmcpaa
