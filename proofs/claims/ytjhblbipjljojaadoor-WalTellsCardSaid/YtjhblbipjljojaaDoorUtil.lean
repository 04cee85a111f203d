/- Small laws over any program that several walks use: a new block of bytes made a string; casts. -/
import Derived.Test.YtjhblbipjljojaaDoorRows
import Derived.WalkKit
import Derived.WalkSpells
import Derived.WalkLawsBesides
import Derived.Lib.Hide
import Derived.Lib.Strings
import Derived.Laws.IdiomStrings
namespace Go.Proofs.YtjhblbipjljojaaDoor
open Go.RowKit

/-- A block of bytes that was laid just now, made a string. -/
theorem conv_block {P : Program} (w : World) (src e dst t : TypeId) (hs : P.underlying src = some (.slice e)) (he : P.underlying e = some (.int .u8)) (hd : P.underlying dst = some .string) (ns : List Int) (c : Nat) :
    (convert src dst (.slice (some ⟨w.heap.size, 0, none⟩) ns.length c)).run P (w.alloc (.cells (ns.map (Value.int .u8)).toArray t)) = .ok (.string (strOfNums ns)) (w.alloc (.cells (ns.map (Value.int .u8)).toArray t)) := by
  refine run_convert_bytes_arg _ src e hs he w.heap.size 0 ns.length c ns rfl ?_ dst hd
  intro i hi
  simp [List.getD_eq_getElem?_getD, List.getElem?_eq_getElem hi]

theorem ba_eq {a b : ByteArray} : (a.toList == b.toList) = true ↔ a.data.toList = b.data.toList := by
  rw [Lib.toList_data, Lib.toList_data, beq_iff_eq]

/-- A cell of the block that was laid last. -/
theorem new_cell {w : World} {c : Array Value} {t : TypeId} {n i : Nat} {v : Value} (hn : n = w.heap.size) (hv : c[i]? = some v) : (w.alloc (.cells c t)).cell? ⟨n, i, none⟩ = some v := by
  subst hn
  simpa using hv

/-- Bytes that lie in a row of cells and may be written. -/
def BytesAt (w : World) (b off : Nat) (l : List UInt8) : Prop :=
  ∀ j, j < l.length → w.cell? ⟨b, off + j, none⟩ = some (.int .u8 ((l.getD j 0).toNat : Int)) ∧ w.frozen? ⟨b, off + j, none⟩ = false

/-- What is made of a string by a conversion to bytes: a new block. -/
theorem bytes_conv {P : Program} (w : World) (src dst e : TypeId) (s : ByteArray) (hs : P.underlying src = some .string) (hd : P.underlying dst = some (.slice e)) (he : P.underlying e = some (.int .u8)) :
    ∃ W cap, (convert src dst (.string s)).run P w = .ok (.slice (some ⟨w.heap.size, 0, none⟩) s.size cap) W ∧ Below w.heap.size w W ∧ w.heap.size < W.heap.size ∧ BytesAt W w.heap.size 0 s.data.toList := by
  refine ⟨_, _, run_bytes_of_string w src dst e s hs hd he, ((Below.refl _ _).drew).alloc (Nat.le_refl _) _, ?_, ?_⟩
  · show w.heap.size < (w.heap.push _).size
    simp
  · intro j hj
    have hj' : j < s.size := by simpa using hj
    have e1 : (w.drew).heap.size = w.heap.size := rfl
    have h1 := World.cell?_alloc_mark w.drew (bytesRow s (grownCap w s.size 0 e)) e ((bytesRow s (grownCap w s.size 0 e)).size, (bytesRow s (grownCap w s.size 0 e)).size + 1) j
    have h2 := World.frozen?_alloc_mark w.drew (bytesRow s (grownCap w s.size 0 e)) e (bytesRow s (grownCap w s.size 0 e)).size ((bytesRow s (grownCap w s.size 0 e)).size + 1) j
    rw [e1] at h1 h2
    rw [Nat.zero_add, h1, h2]
    have hsz : s.size ≤ (bytesRow s (grownCap w s.size 0 e)).size := by
      have : s.data.size = s.size := rfl
      simp [bytesRow]
    refine ⟨?_, by rw [decide_eq_false (by omega), Bool.false_and]⟩
    unfold bytesRow
    rw [Array.getElem?_append_left (by simpa using hj'), Array.getElem?_map]
    have hjd : j < s.data.toList.length := hj
    rw [List.getD_eq_getElem?_getD, List.getElem?_eq_getElem hjd]
    have hja : j < s.data.size := hj'
    rw [Array.getElem?_eq_getElem hja]
    simp

theorem BytesAt.below {w w' : World} {b off n : Nat} {l : List UInt8} (h : BytesAt w b off l) (hb : Below n w w') (hn : b < n) : BytesAt w' b off l := by
  intro j hj
  have := h j hj
  exact ⟨(hb.cell (p := ⟨b, off + j, none⟩) hn).trans this.1, (hb.frozen (p := ⟨b, off + j, none⟩) hn).trans this.2⟩

/-- Bytes made a string. -/
theorem string_conv {P : Program} (w : World) (src dst e : TypeId) (b off cap : Nat) (l : List UInt8) (hs : P.underlying src = some (.slice e)) (he : P.underlying e = some (.int .u8)) (hd : P.underlying dst = some .string) (h : BytesAt w b off l) :
    (convert src dst (.slice (some ⟨b, off, none⟩) l.length cap)).run P w = .ok (.string ⟨l.toArray⟩) w := by
  refine run_convert_bytes_back w src dst e ⟨b, off, none⟩ cap l hs he hd ?_
  intro j hj
  have h1 := (h j hj).1
  rw [List.getD_eq_getElem?_getD, List.getElem?_eq_getElem hj] at h1
  have hplain : (⟨b, off, none⟩ : Addr).add j = ⟨b, off + j, none⟩ := by unfold Addr.add; split <;> simp_all
  rw [hplain]
  exact h1

/-- One of the bytes is written. -/
theorem BytesAt.set {w : World} {b off : Nat} {l : List UInt8} (h : BytesAt w b off l) (k : Nat) (hk : k < l.length) (c : UInt8) : BytesAt (w.setCell ⟨b, off + k, none⟩ (.int .u8 (c.toNat : Int))) b off (l.set k c) := by
  intro j hj
  rw [List.length_set] at hj
  have hj1 := h j hj
  by_cases hjk : j = k
  · subst hjk
    refine ⟨?_, ?_⟩
    · rw [World.cell?_setCell_same (h := hj1.1)]
      simp [List.getD_eq_getElem?_getD, hj]
    · simpa using hj1.2
  · refine ⟨?_, ?_⟩
    · rw [World.cell?_setCell_other (h := by intro e; injection e with e1 e2; omega)]
      rw [hj1.1]
      simp [List.getD_eq_getElem?_getD, Ne.symm hjk]
    · simpa using hj1.2

theorem ofNat_mod (n : Nat) : UInt8.ofNat (n % 256) = UInt8.ofNat n := by
  apply UInt8.toNat_inj.1
  simp [UInt8.toNat_ofNat']

end Go.Proofs.YtjhblbipjljojaaDoor
