/- Disks in memory: a slice of patches; a boxed disk. -/
import Derived.Test.YtfehckdcjgmcpaaRows
import Derived.Test.YtfehckdcjgmcpaaDiskFn
import Derived.Test.YtfehckdcjgmcpaaOwn
import Derived.Test.YtfehckdcjgmcpaaUtil
import Derived.Test.YtfehckdcjgmcpaaLawKit
import Derived.IntWalk
import Derived.WalkMore
namespace Go.Proofs.Ytfehckdcjgmcpaa
open Go.RowKit

/-- A slice of patches that lies in memory. -/
def PatchesAt (w : World) (v : Value) (ps : List (Int × ByteArray)) : Prop :=
  (ps = [] ∧ ∃ ao cap, v = .slice ao 0 cap) ∨ ∃ b off cap, v = .slice (some ⟨b, off, none⟩) ps.length cap ∧ b < w.heap.size ∧
    ∀ i, i < ps.length → w.cell? ⟨b, off + i * 2, none⟩ = some (.int .i64 (ps.getD i (0, ByteArray.empty)).1) ∧ w.cell? ⟨b, off + i * 2 + 1, none⟩ = some (.string (ps.getD i (0, ByteArray.empty)).2)
theorem PatchesAt.form {w : World} {v : Value} {ps : List (Int × ByteArray)} (h : PatchesAt w v ps) : ∃ ao cap, v = .slice ao ps.length cap := by
  rcases h with ⟨rfl, ao, cap, rfl⟩ | ⟨b, off, cap, rfl, _⟩
  · exact ⟨ao, cap, rfl⟩
  · exact ⟨_, _, rfl⟩
theorem PatchesAt.below {w w' : World} {v : Value} {ps : List (Int × ByteArray)} {n : Nat} (h : PatchesAt w v ps) (hb : Below n w w') (hn : w.heap.size ≤ n) : PatchesAt w' v ps := by
  rcases h with h | ⟨b, off, cap, rfl, h1, h2⟩
  · exact .inl h
  · refine .inr ⟨b, off, cap, rfl, Nat.lt_of_lt_of_le h1 hb.size, fun i hi => ⟨?_, ?_⟩⟩
    · exact (hb.cell (p := ⟨b, off + i * 2, none⟩) (Nat.lt_of_lt_of_le h1 hn)).trans (h2 i hi).1
    · exact (hb.cell (p := ⟨b, off + i * 2 + 1, none⟩) (Nat.lt_of_lt_of_le h1 hn)).trans (h2 i hi).2
theorem PatchesAt.cell {w : World} {ao : Option Addr} {n cap : Nat} {ps : List (Int × ByteArray)} (h : PatchesAt w (.slice ao n cap) ps) {i : Nat} (hi : i < ps.length) :
    ∃ b off, ao = some ⟨b, off, none⟩ ∧ b < w.heap.size ∧ w.cell? ⟨b, off + i * 2, none⟩ = some (.int .i64 (ps.getD i (0, ByteArray.empty)).1) ∧ w.cell? ⟨b, off + i * 2 + 1, none⟩ = some (.string (ps.getD i (0, ByteArray.empty)).2) := by
  rcases h with ⟨rfl, _⟩ | ⟨b, off, cap', h0, h1, h2⟩
  · simp at hi
  · cases h0
    exact ⟨b, off, rfl, h1, h2 i hi⟩
/-- The cells of patches. -/
def pcells (ps : List (Int × ByteArray)) : List Value := ps.flatMap fun p => [.int .i64 p.1, .string p.2]
theorem pcells_length (ps : List (Int × ByteArray)) : (pcells ps).length = ps.length * 2 := by
  induction ps with
  | nil => rfl
  | cons p ps ih => simp only [pcells, List.flatMap_cons, List.length_append, List.length_cons, List.length_nil] at *; omega
theorem pcells_append (a b : List (Int × ByteArray)) : pcells (a ++ b) = pcells a ++ pcells b := by simp [pcells]
theorem pcells_at (ps : List (Int × ByteArray)) (i : Nat) (hi : i < ps.length) : (pcells ps)[i * 2]? = some (.int .i64 (ps.getD i (0, ByteArray.empty)).1) ∧ (pcells ps)[i * 2 + 1]? = some (.string (ps.getD i (0, ByteArray.empty)).2) := by
  induction ps generalizing i with
  | nil => simp at hi
  | cons p ps ih =>
    cases i with
    | zero => exact ⟨rfl, rfl⟩
    | succ i =>
      have h := ih i (by simpa using hi)
      have e : (i + 1) * 2 = i * 2 + 2 := by omega
      rw [e]
      simpa [pcells] using h
theorem pcells_cell (ps : List (Int × ByteArray)) : ∀ v ∈ pcells ps, v.oneCell' = true := by
  intro v hv
  simp only [pcells, List.mem_flatMap, List.mem_cons, List.not_mem_nil, or_false] at hv
  obtain ⟨p, _, rfl | rfl⟩ := hv <;> rfl
theorem PatchesAt.src {P : Program} {w : World} {v : Value} {ps : List (Int × ByteArray)} (h : PatchesAt w v ps) {tx e : TypeId} (hk : P.underlying tx = some (.slice e)) : Src P 2 tx v ps.length (pcells ps) w := by
  rcases h with ⟨rfl, ao, cap, rfl⟩ | ⟨b, off, cap, rfl, h1, h2⟩
  · cases ao with
    | none => exact Src.ofNil w hk cap
    | some a => exact Src.ofSlice w hk a 0 cap [] rfl (fun j u h => by simp at h) (fun u h => by cases h)
  · refine Src.ofSlice w hk ⟨b, off, none⟩ _ cap _ (pcells_length ps) (fun j u hj => ?_) (pcells_cell ps)
    rw [addr_add]
    have hjl : j < ps.length * 2 := by
      have := (List.getElem?_eq_some_iff.1 hj).1
      rwa [pcells_length] at this
    have hi : j / 2 < ps.length := by omega
    have h3 := pcells_at ps (j / 2) hi
    have h4 := h2 (j / 2) hi
    rcases Nat.mod_two_eq_zero_or_one j with h0 | h0
    · have e : j / 2 * 2 = j := by omega
      rw [e] at h3 h4
      rw [h3.1] at hj
      rw [h4.1, ← hj]
    · have e : j / 2 * 2 + 1 = j := by omega
      rw [Nat.add_assoc, e] at h4
      rw [e] at h3
      rw [h3.2] at hj
      rw [h4.2, ← hj]
theorem Own.patches {w : World} {base : Nat} {v : Value} {ps : List (Int × ByteArray)} (h : Own w base 2 v ps.length (pcells ps)) : PatchesAt w v ps := by
  rcases h.2 with ⟨rfl, h0⟩ | ⟨b, off, cap, rfl, h3, h4, h5, h6, h7, h8⟩
  · exact .inl ⟨List.eq_nil_of_length_eq_zero h0, none, 0, rfl⟩
  · exact .inr ⟨b, off, cap, rfl, h4, fun i hi => by
      have h9 := pcells_at ps i hi
      refine ⟨?_, ?_⟩
      · exact h8 _ _ h9.1
      · have := h8 _ _ h9.2
        rwa [← Nat.add_assoc] at this⟩
/-- A disk as a value. -/
def diskV (d : Gw.Disk.Disk) (sl : Value) : Value := .agg #[.int .i64 d.size, .string d.firm, sl]
theorem Own.setBelow {w : World} {base size n : Nat} {v : Value} {xs : List Value} (h : Own w base size v n xs) (p : Addr) (u : Value) (hp : p.block < base) : Own (w.setCell p u) base size v n xs :=
  h.kept (by simp [World.setCell]) (fun k hk => Below.heap_setCell _ _ _ _ (by have := (h.lt k hk).1; omega))
theorem Own.form {w : World} {base size n : Nat} {v : Value} {xs : List Value} (h : Own w base size v n xs) : ∃ ao cap, v = .slice ao n cap := by
  rcases h.2 with ⟨rfl, rfl⟩ | ⟨b, off, cap, rfl, _⟩
  · exact ⟨_, _, rfl⟩
  · exact ⟨_, _, rfl⟩
/-- What a function that returns a disk answers: its slice is its own. -/
def SaidDisk (d : Gw.Disk.Disk) (w : World) (e : Ending) (w' : World) : Prop := ∃ sl, e = .returned (diskV d sl) ∧ Own w' w.heap.size 2 sl d.loose.length (pcells d.loose) ∧ Below w.heap.size w w'
/-- What a function that returns a disk and an error answers. -/
def SaidDiskErr (d : Gw.Disk.Disk) (n : Nat) (w : World) (e : Ending) (w' : World) : Prop := ∃ sl, e = .returned (.tuple #[diskV d sl, .int .i64 (n : Int)]) ∧ Own w' w.heap.size 2 sl d.loose.length (pcells d.loose) ∧ Below w.heap.size w w'
end Go.Proofs.Ytfehckdcjgmcpaa
