/-
  No cell of these rows narrows 'for every input' (looked for: loops, veiled, ifaces, maps, wideKeys, modest, calm, conditions, laid).
  DERIVED. THE GIVEN ROWS OF THIS SEAT. 6 by the template 'for every input the law returns true; each argument reads behind the call as it read before'; 0 by the template 'total and deterministic' (their statements: YtjfnelgmagmgoaaTotals.lean).
  GIVEN WITH THE SEED: the statements are not yours to turn. If you find one false, say at which input.
  Laid BY PROGRAM, IN A SANDBOX (cutbox-rows.mjs): the forced cells as the released guide's own fill.sh prints them over the translation bebe1514ff73449c… (all of the seat's roots in one cut). By AI agents, Wed Nov 11 2026. No macro, syntax, notation, axiom, sorry.
-/
import Derived.Test.YtjfnelgmagmgoaaChecked
import GoSem.Claim
import GoSem.ClaimJoined
import GoSem.ClaimMapViews
import Derived.JoinedTies
import Derived.KernelRfl
namespace Go.Proofs.Ytjfnelgmagmgoaa
/- THE CELL 'sum', in the pinned program and in every row, IS THE sha256 OF THE DUMP (.gsa) THAT YtjfnelgmagmgoaaProg.lean LOADS. Nothing in Lean hashes anything: it is a label: what it is worth is what the hold of that sum in a sandbox is worth. -/
noncomputable def Try.pinned : Pinned := { name := "ytjfnelgmagmgoaa", sum := "bebe1514ff73449c92cef6d71bc3f253bf2f1de584b625b8b1952f5f7eb62040", checked := Try.checked }
namespace Rows
def none {H : Type} : Left H := { results := [], args := [] }

/-- 'gunwalelaw05.OpTells': WHATEVER THE INPUT: true; the input reads as it did. -/
def opTellsSpec : ChangeSpec := { name := "opTells", fn := fun _ => fun
  | [d1, d2, d3, d4] => { results := [.lit (.bool true)], args := [d1, d2, d3, d4] }
  | _ => none }
def opTellsRow : OpenClaim := { program := "ytjfnelgmagmgoaa", sum := "bebe1514ff73449c92cef6d71bc3f253bf2f1de584b625b8b1952f5f7eb62040", func := "gunwale/gunwalelaw05.OpTells", spec := "opTells", inPlace := ["internal/abi.NoEscape"], unfollowed := true, recurses := true, apart := false }
def OpTellsSaid : Prop := opTellsRow.holds Try.pinned (OpenSpec.ofChange opTellsSpec)

/-- ITS FALSE NEIGHBOUR: 'it returns false'. Refute it at one input. -/
def opTellsWrong : ChangeSpec := { name := "opTells", fn := fun _ => fun
  | [d1, d2, d3, d4] => { results := [.lit (.bool false)], args := [d1, d2, d3, d4] }
  | _ => none }
def OpTellsWrongFalsely : Prop := opTellsRow.holds Try.pinned (OpenSpec.ofChange opTellsWrong)

/-- 'gunwalelaw05.OpBack': WHATEVER THE INPUT: true; the input reads as it did. -/
def opBackSpec : ChangeSpec := { name := "opBack", fn := fun _ => fun
  | [d1, d2] => { results := [.lit (.bool true)], args := [d1, d2] }
  | _ => none }
def opBackRow : OpenClaim := { program := "ytjfnelgmagmgoaa", sum := "bebe1514ff73449c92cef6d71bc3f253bf2f1de584b625b8b1952f5f7eb62040", func := "gunwale/gunwalelaw05.OpBack", spec := "opBack", inPlace := ["internal/abi.NoEscape"], unfollowed := true, recurses := true, apart := false }
def OpBackSaid : Prop := opBackRow.holds Try.pinned (OpenSpec.ofChange opBackSpec)

/-- ITS FALSE NEIGHBOUR: 'it returns false'. Refute it at one input. -/
def opBackWrong : ChangeSpec := { name := "opBack", fn := fun _ => fun
  | [d1, d2] => { results := [.lit (.bool false)], args := [d1, d2] }
  | _ => none }
def OpBackWrongFalsely : Prop := opBackRow.holds Try.pinned (OpenSpec.ofChange opBackWrong)

/-- 'gunwalelaw05.OpJoins': WHATEVER THE INPUT: true; the input reads as it did. -/
def opJoinsSpec : ChangeSpec := { name := "opJoins", fn := fun _ => fun
  | [d1, d2, d3] => { results := [.lit (.bool true)], args := [d1, d2, d3] }
  | _ => none }
def opJoinsRow : OpenClaim := { program := "ytjfnelgmagmgoaa", sum := "bebe1514ff73449c92cef6d71bc3f253bf2f1de584b625b8b1952f5f7eb62040", func := "gunwale/gunwalelaw05.OpJoins", spec := "opJoins", inPlace := ["internal/abi.NoEscape"], unfollowed := true, recurses := true, apart := false }
def OpJoinsSaid : Prop := opJoinsRow.holds Try.pinned (OpenSpec.ofChange opJoinsSpec)

/-- ITS FALSE NEIGHBOUR: 'it returns false'. Refute it at one input. -/
def opJoinsWrong : ChangeSpec := { name := "opJoins", fn := fun _ => fun
  | [d1, d2, d3] => { results := [.lit (.bool false)], args := [d1, d2, d3] }
  | _ => none }
def OpJoinsWrongFalsely : Prop := opJoinsRow.holds Try.pinned (OpenSpec.ofChange opJoinsWrong)

/-- 'gunwalelaw05.OpCuts': WHATEVER THE INPUT: true; the input reads as it did. -/
def opCutsSpec : ChangeSpec := { name := "opCuts", fn := fun _ => fun
  | [d1, d2] => { results := [.lit (.bool true)], args := [d1, d2] }
  | _ => none }
def opCutsRow : OpenClaim := { program := "ytjfnelgmagmgoaa", sum := "bebe1514ff73449c92cef6d71bc3f253bf2f1de584b625b8b1952f5f7eb62040", func := "gunwale/gunwalelaw05.OpCuts", spec := "opCuts", inPlace := ["internal/abi.NoEscape"], unfollowed := true, recurses := true, apart := false }
def OpCutsSaid : Prop := opCutsRow.holds Try.pinned (OpenSpec.ofChange opCutsSpec)

/-- ITS FALSE NEIGHBOUR: 'it returns false'. Refute it at one input. -/
def opCutsWrong : ChangeSpec := { name := "opCuts", fn := fun _ => fun
  | [d1, d2] => { results := [.lit (.bool false)], args := [d1, d2] }
  | _ => none }
def OpCutsWrongFalsely : Prop := opCutsRow.holds Try.pinned (OpenSpec.ofChange opCutsWrong)

/-- 'gunwalelaw05.OpSizes': WHATEVER THE INPUT: true; the input reads as it did. -/
def opSizesSpec : ChangeSpec := { name := "opSizes", fn := fun _ => fun
  | [d] => { results := [.lit (.bool true)], args := [d] }
  | _ => none }
def opSizesRow : OpenClaim := { program := "ytjfnelgmagmgoaa", sum := "bebe1514ff73449c92cef6d71bc3f253bf2f1de584b625b8b1952f5f7eb62040", func := "gunwale/gunwalelaw05.OpSizes", spec := "opSizes", inPlace := ["internal/abi.NoEscape"], unfollowed := true, recurses := true, apart := false }
def OpSizesSaid : Prop := opSizesRow.holds Try.pinned (OpenSpec.ofChange opSizesSpec)

/-- ITS FALSE NEIGHBOUR: 'it returns false'. Refute it at one input. -/
def opSizesWrong : ChangeSpec := { name := "opSizes", fn := fun _ => fun
  | [d] => { results := [.lit (.bool false)], args := [d] }
  | _ => none }
def OpSizesWrongFalsely : Prop := opSizesRow.holds Try.pinned (OpenSpec.ofChange opSizesWrong)

/-- 'gunwalelaw05.OpLate': WHATEVER THE INPUT: true; the input reads as it did. -/
def opLateSpec : ChangeSpec := { name := "opLate", fn := fun _ => fun
  | [d1, d2] => { results := [.lit (.bool true)], args := [d1, d2] }
  | _ => none }
def opLateRow : OpenClaim := { program := "ytjfnelgmagmgoaa", sum := "bebe1514ff73449c92cef6d71bc3f253bf2f1de584b625b8b1952f5f7eb62040", func := "gunwale/gunwalelaw05.OpLate", spec := "opLate", inPlace := ["internal/abi.NoEscape"], unfollowed := true, recurses := true, apart := false }
def OpLateSaid : Prop := opLateRow.holds Try.pinned (OpenSpec.ofChange opLateSpec)

/-- ITS FALSE NEIGHBOUR: 'it returns false'. Refute it at one input. -/
def opLateWrong : ChangeSpec := { name := "opLate", fn := fun _ => fun
  | [d1, d2] => { results := [.lit (.bool false)], args := [d1, d2] }
  | _ => none }
def OpLateWrongFalsely : Prop := opLateRow.holds Try.pinned (OpenSpec.ofChange opLateWrong)

/- THE SECOND FORM. 'bulk': how many values and letters a reading holds, each counted each time it is reached (what is shared counts as often as it is met; a slice's spare places count too). A statement '..UptoSaid' is the law's where the arguments, and the package variables that the reading takes, are together of bulk at most 1048576: NARROWER than '..Said'. Prove '..Said' where nothing that the law and all that it calls make is longer than what came in: it says more and counts as full. Else prove '..UptoSaid'. A law counts once. -/
mutual
def uptoBulk {H : Type} : DataW H → Nat
  | .lit (.string bytes) => bytes.length + 1
  | .lit _ => 1
  | .nil => 1
  | .ptr d => uptoBulk d + 1
  | .slice elems spare => uptoBulkAll elems + uptoBulkAll spare + 1
  | .agg parts => uptoBulkAll parts + 1
  | .iface _ d => uptoBulk d + 1
  | .map entries => uptoBulkEntries entries + 1
  | .held _ => 1
def uptoBulkAll {H : Type} : List (DataW H) → Nat
  | [] => 0
  | d :: r => uptoBulk d + uptoBulkAll r
def uptoBulkEntries {H : Type} : List (Lit × DataW H) → Nat
  | [] => 0
  | x :: r => uptoBulkEntry x + uptoBulkEntries r
def uptoBulkEntry {H : Type} : Lit × DataW H → Nat
  | (.string bytes, d) => bytes.length + uptoBulk d + 1
  | (_, d) => uptoBulk d + 1
 end
def uptoSmall : (H : Type) → List (DataW H) → Bool := fun _ ds => decide (uptoBulkAll ds ≤ 1048576)
def OpenSpec.upto (s : _root_.Go.ChangeSpec) : _root_.Go.OpenSpec := { _root_.Go.OpenSpec.ofChange s with cond := some uptoSmall }

/-- 'gunwalelaw05.OpTells', WHERE WHAT IT READS IS OF BULK AT MOST 1048576: true; the input reads as it did. -/
def opTellsUptoRow : OpenClaim := { program := "ytjfnelgmagmgoaa", sum := "bebe1514ff73449c92cef6d71bc3f253bf2f1de584b625b8b1952f5f7eb62040", func := "gunwale/gunwalelaw05.OpTells", spec := "opTells", inPlace := ["internal/abi.NoEscape"], unfollowed := true, recurses := true, apart := false, narrowed := true }
def OpTellsUptoSaid : Prop := opTellsUptoRow.holds Try.pinned (OpenSpec.upto opTellsSpec)

/-- 'gunwalelaw05.OpBack', WHERE WHAT IT READS IS OF BULK AT MOST 1048576: true; the input reads as it did. -/
def opBackUptoRow : OpenClaim := { program := "ytjfnelgmagmgoaa", sum := "bebe1514ff73449c92cef6d71bc3f253bf2f1de584b625b8b1952f5f7eb62040", func := "gunwale/gunwalelaw05.OpBack", spec := "opBack", inPlace := ["internal/abi.NoEscape"], unfollowed := true, recurses := true, apart := false, narrowed := true }
def OpBackUptoSaid : Prop := opBackUptoRow.holds Try.pinned (OpenSpec.upto opBackSpec)

/-- 'gunwalelaw05.OpJoins', WHERE WHAT IT READS IS OF BULK AT MOST 1048576: true; the input reads as it did. -/
def opJoinsUptoRow : OpenClaim := { program := "ytjfnelgmagmgoaa", sum := "bebe1514ff73449c92cef6d71bc3f253bf2f1de584b625b8b1952f5f7eb62040", func := "gunwale/gunwalelaw05.OpJoins", spec := "opJoins", inPlace := ["internal/abi.NoEscape"], unfollowed := true, recurses := true, apart := false, narrowed := true }
def OpJoinsUptoSaid : Prop := opJoinsUptoRow.holds Try.pinned (OpenSpec.upto opJoinsSpec)

/-- 'gunwalelaw05.OpCuts', WHERE WHAT IT READS IS OF BULK AT MOST 1048576: true; the input reads as it did. -/
def opCutsUptoRow : OpenClaim := { program := "ytjfnelgmagmgoaa", sum := "bebe1514ff73449c92cef6d71bc3f253bf2f1de584b625b8b1952f5f7eb62040", func := "gunwale/gunwalelaw05.OpCuts", spec := "opCuts", inPlace := ["internal/abi.NoEscape"], unfollowed := true, recurses := true, apart := false, narrowed := true }
def OpCutsUptoSaid : Prop := opCutsUptoRow.holds Try.pinned (OpenSpec.upto opCutsSpec)

/-- 'gunwalelaw05.OpSizes', WHERE WHAT IT READS IS OF BULK AT MOST 1048576: true; the input reads as it did. -/
def opSizesUptoRow : OpenClaim := { program := "ytjfnelgmagmgoaa", sum := "bebe1514ff73449c92cef6d71bc3f253bf2f1de584b625b8b1952f5f7eb62040", func := "gunwale/gunwalelaw05.OpSizes", spec := "opSizes", inPlace := ["internal/abi.NoEscape"], unfollowed := true, recurses := true, apart := false, narrowed := true }
def OpSizesUptoSaid : Prop := opSizesUptoRow.holds Try.pinned (OpenSpec.upto opSizesSpec)

/-- 'gunwalelaw05.OpLate', WHERE WHAT IT READS IS OF BULK AT MOST 1048576: true; the input reads as it did. -/
def opLateUptoRow : OpenClaim := { program := "ytjfnelgmagmgoaa", sum := "bebe1514ff73449c92cef6d71bc3f253bf2f1de584b625b8b1952f5f7eb62040", func := "gunwale/gunwalelaw05.OpLate", spec := "opLate", inPlace := ["internal/abi.NoEscape"], unfollowed := true, recurses := true, apart := false, narrowed := true }
def OpLateUptoSaid : Prop := opLateUptoRow.holds Try.pinned (OpenSpec.upto opLateSpec)

end Rows
end Go.Proofs.Ytjfnelgmagmgoaa
