/- Small laws over any program that several walks use: a new block of bytes made a string; casts. -/
import Derived.Test.YtcijaehnlemidaaDoorRows
import Derived.WalkKit
import Derived.WalkSpells
import Derived.WalkLawsBesides
import Derived.Lib.Hide
import Derived.Lib.Strings
namespace Go.Proofs.YtcijaehnlemidaaDoor
open Go.RowKit

/-- A block of bytes that was laid just now, made a string. -/
theorem conv_block {P : Program} (w : World) (src e dst t : TypeId) (hs : P.underlying src = some (.slice e)) (he : P.underlying e = some (.int .u8)) (hd : P.underlying dst = some .string) (ns : List Int) (c : Nat) :
    (convert src dst (.slice (some ⟨w.heap.size, 0, none⟩) ns.length c)).run P (w.alloc (.cells (ns.map (Value.int .u8)).toArray t)) = .ok (.string (strOfNums ns)) (w.alloc (.cells (ns.map (Value.int .u8)).toArray t)) := by
  refine run_convert_bytes_arg _ src e hs he w.heap.size 0 ns.length c ns rfl ?_ dst hd
  intro i hi
  simp [List.getD_eq_getElem?_getD, List.getElem?_eq_getElem hi]

theorem ba_eq {a b : ByteArray} : (a.toList == b.toList) = true ↔ a.data.toList = b.data.toList := by
  rw [Lib.toList_data, Lib.toList_data, beq_iff_eq]

theorem ofNat_mod (n : Nat) : UInt8.ofNat (n % 256) = UInt8.ofNat n := by
  apply UInt8.toNat_inj.1
  simp [UInt8.toNat_ofNat']

end Go.Proofs.YtcijaehnlemidaaDoor
