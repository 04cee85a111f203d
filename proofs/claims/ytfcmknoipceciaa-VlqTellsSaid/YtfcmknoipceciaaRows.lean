/-
  No cell of these rows narrows 'for every input' (looked for: loops, veiled, ifaces, maps, wideKeys, modest, calm, conditions, laid).
  DERIVED. THE GIVEN ROWS OF THIS SEAT. 6 by the template 'for every input the law returns true; each argument reads behind the call as it read before'; 0 by the template 'total and deterministic' (their statements: YtfcmknoipceciaaTotals.lean).
  GIVEN WITH THE SEED: the statements are not yours to turn. If you find one false, say at which input.
  Laid BY PROGRAM, IN A SANDBOX (cutbox-rows.mjs): the forced cells as the released guide's own fill.sh prints them over the translation 1420ea6db1b715c7… (all of the seat's roots in one cut). By AI agents, Wed Nov 11 2026. No macro, syntax, notation, axiom, sorry.
-/
import Derived.Test.YtfcmknoipceciaaChecked
import GoSem.Claim
import GoSem.ClaimJoined
import GoSem.ClaimMapViews
import Derived.JoinedTies
import Derived.KernelRfl
namespace Go.Proofs.Ytfcmknoipceciaa
/- THE CELL 'sum', in the pinned program and in every row, IS THE sha256 OF THE DUMP (.gsa) THAT YtfcmknoipceciaaProg.lean LOADS. Nothing in Lean hashes anything: it is a label: what it is worth is what the hold of that sum in a sandbox is worth. -/
noncomputable def Try.pinned : Pinned := { name := "ytfcmknoipceciaa", sum := "1420ea6db1b715c75f1767f9a87b12a5c0b8e6b0c94efa4e6623afd5ee3863e3", checked := Try.checked }
namespace Rows
def none {H : Type} : Left H := { results := [], args := [] }

/-- 'gunwalelaw04.VlqTells': WHATEVER THE INPUT: true; the input reads as it did. -/
def vlqTellsSpec : ChangeSpec := { name := "vlqTells", fn := fun _ => fun
  | [d1, d2, d3, d4] => { results := [.lit (.bool true)], args := [d1, d2, d3, d4] }
  | _ => none }
def vlqTellsRow : OpenClaim := { program := "ytfcmknoipceciaa", sum := "1420ea6db1b715c75f1767f9a87b12a5c0b8e6b0c94efa4e6623afd5ee3863e3", func := "gunwale/gunwalelaw04.VlqTells", spec := "vlqTells", recurses := true, apart := false }
def VlqTellsSaid : Prop := vlqTellsRow.holds Try.pinned (OpenSpec.ofChange vlqTellsSpec)

/-- ITS FALSE NEIGHBOUR: 'it returns false'. Refute it at one input. -/
def vlqTellsWrong : ChangeSpec := { name := "vlqTells", fn := fun _ => fun
  | [d1, d2, d3, d4] => { results := [.lit (.bool false)], args := [d1, d2, d3, d4] }
  | _ => none }
def VlqTellsWrongFalsely : Prop := vlqTellsRow.holds Try.pinned (OpenSpec.ofChange vlqTellsWrong)

/-- 'gunwalelaw04.VlqBack': WHATEVER THE INPUT: true; the input reads as it did. -/
def vlqBackSpec : ChangeSpec := { name := "vlqBack", fn := fun _ => fun
  | [d1, d2, d3] => { results := [.lit (.bool true)], args := [d1, d2, d3] }
  | _ => none }
def vlqBackRow : OpenClaim := { program := "ytfcmknoipceciaa", sum := "1420ea6db1b715c75f1767f9a87b12a5c0b8e6b0c94efa4e6623afd5ee3863e3", func := "gunwale/gunwalelaw04.VlqBack", spec := "vlqBack", apart := false }
def VlqBackSaid : Prop := vlqBackRow.holds Try.pinned (OpenSpec.ofChange vlqBackSpec)

/-- ITS FALSE NEIGHBOUR: 'it returns false'. Refute it at one input. -/
def vlqBackWrong : ChangeSpec := { name := "vlqBack", fn := fun _ => fun
  | [d1, d2, d3] => { results := [.lit (.bool false)], args := [d1, d2, d3] }
  | _ => none }
def VlqBackWrongFalsely : Prop := vlqBackRow.holds Try.pinned (OpenSpec.ofChange vlqBackWrong)

/-- 'gunwalelaw04.VlqOwn': WHATEVER THE INPUT: true; the input reads as it did. -/
def vlqOwnSpec : ChangeSpec := { name := "vlqOwn", fn := fun _ => fun
  | [d] => { results := [.lit (.bool true)], args := [d] }
  | _ => none }
def vlqOwnRow : OpenClaim := { program := "ytfcmknoipceciaa", sum := "1420ea6db1b715c75f1767f9a87b12a5c0b8e6b0c94efa4e6623afd5ee3863e3", func := "gunwale/gunwalelaw04.VlqOwn", spec := "vlqOwn", apart := false }
def VlqOwnSaid : Prop := vlqOwnRow.holds Try.pinned (OpenSpec.ofChange vlqOwnSpec)

/-- ITS FALSE NEIGHBOUR: 'it returns false'. Refute it at one input. -/
def vlqOwnWrong : ChangeSpec := { name := "vlqOwn", fn := fun _ => fun
  | [d] => { results := [.lit (.bool false)], args := [d] }
  | _ => none }
def VlqOwnWrongFalsely : Prop := vlqOwnRow.holds Try.pinned (OpenSpec.ofChange vlqOwnWrong)

/-- 'gunwalelaw04.VlqCuts': WHATEVER THE INPUT: true; the input reads as it did. -/
def vlqCutsSpec : ChangeSpec := { name := "vlqCuts", fn := fun _ => fun
  | [d1, d2, d3] => { results := [.lit (.bool true)], args := [d1, d2, d3] }
  | _ => none }
def vlqCutsRow : OpenClaim := { program := "ytfcmknoipceciaa", sum := "1420ea6db1b715c75f1767f9a87b12a5c0b8e6b0c94efa4e6623afd5ee3863e3", func := "gunwale/gunwalelaw04.VlqCuts", spec := "vlqCuts", apart := false }
def VlqCutsSaid : Prop := vlqCutsRow.holds Try.pinned (OpenSpec.ofChange vlqCutsSpec)

/-- ITS FALSE NEIGHBOUR: 'it returns false'. Refute it at one input. -/
def vlqCutsWrong : ChangeSpec := { name := "vlqCuts", fn := fun _ => fun
  | [d1, d2, d3] => { results := [.lit (.bool false)], args := [d1, d2, d3] }
  | _ => none }
def VlqCutsWrongFalsely : Prop := vlqCutsRow.holds Try.pinned (OpenSpec.ofChange vlqCutsWrong)

/-- 'gunwalelaw04.VlqSizes': WHATEVER THE INPUT: true; the input reads as it did. -/
def vlqSizesSpec : ChangeSpec := { name := "vlqSizes", fn := fun _ => fun
  | [d1, d2] => { results := [.lit (.bool true)], args := [d1, d2] }
  | _ => none }
def vlqSizesRow : OpenClaim := { program := "ytfcmknoipceciaa", sum := "1420ea6db1b715c75f1767f9a87b12a5c0b8e6b0c94efa4e6623afd5ee3863e3", func := "gunwale/gunwalelaw04.VlqSizes", spec := "vlqSizes", apart := false }
def VlqSizesSaid : Prop := vlqSizesRow.holds Try.pinned (OpenSpec.ofChange vlqSizesSpec)

/-- ITS FALSE NEIGHBOUR: 'it returns false'. Refute it at one input. -/
def vlqSizesWrong : ChangeSpec := { name := "vlqSizes", fn := fun _ => fun
  | [d1, d2] => { results := [.lit (.bool false)], args := [d1, d2] }
  | _ => none }
def VlqSizesWrongFalsely : Prop := vlqSizesRow.holds Try.pinned (OpenSpec.ofChange vlqSizesWrong)

/-- 'gunwalelaw04.VlqJoins': WHATEVER THE INPUT: true; the input reads as it did. -/
def vlqJoinsSpec : ChangeSpec := { name := "vlqJoins", fn := fun _ => fun
  | [d1, d2] => { results := [.lit (.bool true)], args := [d1, d2] }
  | _ => none }
def vlqJoinsRow : OpenClaim := { program := "ytfcmknoipceciaa", sum := "1420ea6db1b715c75f1767f9a87b12a5c0b8e6b0c94efa4e6623afd5ee3863e3", func := "gunwale/gunwalelaw04.VlqJoins", spec := "vlqJoins", apart := false }
def VlqJoinsSaid : Prop := vlqJoinsRow.holds Try.pinned (OpenSpec.ofChange vlqJoinsSpec)

/-- ITS FALSE NEIGHBOUR: 'it returns false'. Refute it at one input. -/
def vlqJoinsWrong : ChangeSpec := { name := "vlqJoins", fn := fun _ => fun
  | [d1, d2] => { results := [.lit (.bool false)], args := [d1, d2] }
  | _ => none }
def VlqJoinsWrongFalsely : Prop := vlqJoinsRow.holds Try.pinned (OpenSpec.ofChange vlqJoinsWrong)

/- THE SECOND FORM. 'bulk': how many values and letters a reading holds, each counted each time it is reached (what is shared counts as often as it is met; a slice's spare places count too). A statement '..UptoSaid' is the law's where the arguments, and the package variables that the reading takes, are together of bulk at most 1048576: NARROWER than '..Said'. Prove '..Said' where nothing that the law and all that it calls make is longer than what came in: it says more and counts as full. Else prove '..UptoSaid'. A law counts once. -/
mutual
def uptoBulk {H : Type} : DataW H → Nat
  | .lit (.string bytes) => bytes.length + 1
  | .lit _ => 1
  | .nil => 1
  | .ptr d => uptoBulk d + 1
  | .slice elems spare => uptoBulkAll elems + uptoBulkAll spare + 1
  | .agg parts => uptoBulkAll parts + 1
  | .iface _ d => uptoBulk d + 1
  | .map entries => uptoBulkEntries entries + 1
  | .held _ => 1
def uptoBulkAll {H : Type} : List (DataW H) → Nat
  | [] => 0
  | d :: r => uptoBulk d + uptoBulkAll r
def uptoBulkEntries {H : Type} : List (Lit × DataW H) → Nat
  | [] => 0
  | x :: r => uptoBulkEntry x + uptoBulkEntries r
def uptoBulkEntry {H : Type} : Lit × DataW H → Nat
  | (.string bytes, d) => bytes.length + uptoBulk d + 1
  | (_, d) => uptoBulk d + 1
 end
def uptoSmall : (H : Type) → List (DataW H) → Bool := fun _ ds => decide (uptoBulkAll ds ≤ 1048576)
def OpenSpec.upto (s : _root_.Go.ChangeSpec) : _root_.Go.OpenSpec := { _root_.Go.OpenSpec.ofChange s with cond := some uptoSmall }

/-- 'gunwalelaw04.VlqTells', WHERE WHAT IT READS IS OF BULK AT MOST 1048576: true; the input reads as it did. -/
def vlqTellsUptoRow : OpenClaim := { program := "ytfcmknoipceciaa", sum := "1420ea6db1b715c75f1767f9a87b12a5c0b8e6b0c94efa4e6623afd5ee3863e3", func := "gunwale/gunwalelaw04.VlqTells", spec := "vlqTells", recurses := true, apart := false, narrowed := true }
def VlqTellsUptoSaid : Prop := vlqTellsUptoRow.holds Try.pinned (OpenSpec.upto vlqTellsSpec)

/-- 'gunwalelaw04.VlqBack', WHERE WHAT IT READS IS OF BULK AT MOST 1048576: true; the input reads as it did. -/
def vlqBackUptoRow : OpenClaim := { program := "ytfcmknoipceciaa", sum := "1420ea6db1b715c75f1767f9a87b12a5c0b8e6b0c94efa4e6623afd5ee3863e3", func := "gunwale/gunwalelaw04.VlqBack", spec := "vlqBack", apart := false, narrowed := true }
def VlqBackUptoSaid : Prop := vlqBackUptoRow.holds Try.pinned (OpenSpec.upto vlqBackSpec)

/-- 'gunwalelaw04.VlqOwn', WHERE WHAT IT READS IS OF BULK AT MOST 1048576: true; the input reads as it did. -/
def vlqOwnUptoRow : OpenClaim := { program := "ytfcmknoipceciaa", sum := "1420ea6db1b715c75f1767f9a87b12a5c0b8e6b0c94efa4e6623afd5ee3863e3", func := "gunwale/gunwalelaw04.VlqOwn", spec := "vlqOwn", apart := false, narrowed := true }
def VlqOwnUptoSaid : Prop := vlqOwnUptoRow.holds Try.pinned (OpenSpec.upto vlqOwnSpec)

/-- 'gunwalelaw04.VlqCuts', WHERE WHAT IT READS IS OF BULK AT MOST 1048576: true; the input reads as it did. -/
def vlqCutsUptoRow : OpenClaim := { program := "ytfcmknoipceciaa", sum := "1420ea6db1b715c75f1767f9a87b12a5c0b8e6b0c94efa4e6623afd5ee3863e3", func := "gunwale/gunwalelaw04.VlqCuts", spec := "vlqCuts", apart := false, narrowed := true }
def VlqCutsUptoSaid : Prop := vlqCutsUptoRow.holds Try.pinned (OpenSpec.upto vlqCutsSpec)

/-- 'gunwalelaw04.VlqSizes', WHERE WHAT IT READS IS OF BULK AT MOST 1048576: true; the input reads as it did. -/
def vlqSizesUptoRow : OpenClaim := { program := "ytfcmknoipceciaa", sum := "1420ea6db1b715c75f1767f9a87b12a5c0b8e6b0c94efa4e6623afd5ee3863e3", func := "gunwale/gunwalelaw04.VlqSizes", spec := "vlqSizes", apart := false, narrowed := true }
def VlqSizesUptoSaid : Prop := vlqSizesUptoRow.holds Try.pinned (OpenSpec.upto vlqSizesSpec)

/-- 'gunwalelaw04.VlqJoins', WHERE WHAT IT READS IS OF BULK AT MOST 1048576: true; the input reads as it did. -/
def vlqJoinsUptoRow : OpenClaim := { program := "ytfcmknoipceciaa", sum := "1420ea6db1b715c75f1767f9a87b12a5c0b8e6b0c94efa4e6623afd5ee3863e3", func := "gunwale/gunwalelaw04.VlqJoins", spec := "vlqJoins", apart := false, narrowed := true }
def VlqJoinsUptoSaid : Prop := vlqJoinsUptoRow.holds Try.pinned (OpenSpec.upto vlqJoinsSpec)

end Rows
end Go.Proofs.Ytfcmknoipceciaa
