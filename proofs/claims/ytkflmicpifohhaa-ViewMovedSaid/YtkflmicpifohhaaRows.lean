/-
  No cell of these rows narrows 'for every input' (looked for: loops, veiled, ifaces, maps, wideKeys, modest, calm, conditions, laid).
  DERIVED. THE GIVEN ROWS OF THIS SEAT. 5 by the template 'for every input the law returns true; each argument reads behind the call as it read before'; 0 by the template 'total and deterministic' (their statements: YtkflmicpifohhaaTotals.lean).
  GIVEN WITH THE SEED: the statements are not yours to turn. If you find one false, say at which input.
  Laid BY PROGRAM, IN A SANDBOX (cutbox-rows.mjs): the forced cells as the released guide's own fill.sh prints them over the translation c7f2b9500d632ddf… (all of the seat's roots in one cut). By AI agents, Wed Nov 11 2026. No macro, syntax, notation, axiom, sorry.
-/
import Derived.Test.YtkflmicpifohhaaChecked
import GoSem.Claim
import GoSem.ClaimJoined
import GoSem.ClaimMapViews
import Derived.JoinedTies
import Derived.KernelRfl
namespace Go.Proofs.Ytkflmicpifohhaa
/- THE CELL 'sum', in the pinned program and in every row, IS THE sha256 OF THE DUMP (.gsa) THAT YtkflmicpifohhaaProg.lean LOADS. Nothing in Lean hashes anything: it is a label: what it is worth is what the hold of that sum in a sandbox is worth. -/
noncomputable def Try.pinned : Pinned := { name := "ytkflmicpifohhaa", sum := "c7f2b9500d632ddf280e2ed68a9284dfa390c053f8281811a0d3dc61ddcb2418", checked := Try.checked }
namespace Rows
def none {H : Type} : Left H := { results := [], args := [] }

/-- 'gunwalelaw08.ViewBelow': WHATEVER THE INPUT: true; the input reads as it did. -/
def viewBelowSpec : ChangeSpec := { name := "viewBelow", fn := fun _ => fun
  | [d1, d2] => { results := [.lit (.bool true)], args := [d1, d2] }
  | _ => none }
def viewBelowRow : OpenClaim := { program := "ytkflmicpifohhaa", sum := "c7f2b9500d632ddf280e2ed68a9284dfa390c053f8281811a0d3dc61ddcb2418", func := "gunwale/gunwalelaw08.ViewBelow", spec := "viewBelow", unfollowed := true, recurses := true, apart := false }
def ViewBelowSaid : Prop := viewBelowRow.holds Try.pinned (OpenSpec.ofChange viewBelowSpec)

/-- ITS FALSE NEIGHBOUR: 'it returns false'. Refute it at one input. -/
def viewBelowWrong : ChangeSpec := { name := "viewBelow", fn := fun _ => fun
  | [d1, d2] => { results := [.lit (.bool false)], args := [d1, d2] }
  | _ => none }
def ViewBelowWrongFalsely : Prop := viewBelowRow.holds Try.pinned (OpenSpec.ofChange viewBelowWrong)

/-- 'gunwalelaw08.ViewMoved': WHATEVER THE INPUT: true; the input reads as it did. -/
def viewMovedSpec : ChangeSpec := { name := "viewMoved", fn := fun _ => fun
  | [d1, d2, d3] => { results := [.lit (.bool true)], args := [d1, d2, d3] }
  | _ => none }
def viewMovedRow : OpenClaim := { program := "ytkflmicpifohhaa", sum := "c7f2b9500d632ddf280e2ed68a9284dfa390c053f8281811a0d3dc61ddcb2418", func := "gunwale/gunwalelaw08.ViewMoved", spec := "viewMoved", unfollowed := true, recurses := true, apart := false }
def ViewMovedSaid : Prop := viewMovedRow.holds Try.pinned (OpenSpec.ofChange viewMovedSpec)

/-- ITS FALSE NEIGHBOUR: 'it returns false'. Refute it at one input. -/
def viewMovedWrong : ChangeSpec := { name := "viewMoved", fn := fun _ => fun
  | [d1, d2, d3] => { results := [.lit (.bool false)], args := [d1, d2, d3] }
  | _ => none }
def ViewMovedWrongFalsely : Prop := viewMovedRow.holds Try.pinned (OpenSpec.ofChange viewMovedWrong)

/-- 'gunwalelaw08.ViewFinds': WHATEVER THE INPUT: true; the input reads as it did. -/
def viewFindsSpec : ChangeSpec := { name := "viewFinds", fn := fun _ => fun
  | [d1, d2] => { results := [.lit (.bool true)], args := [d1, d2] }
  | _ => none }
def viewFindsRow : OpenClaim := { program := "ytkflmicpifohhaa", sum := "c7f2b9500d632ddf280e2ed68a9284dfa390c053f8281811a0d3dc61ddcb2418", func := "gunwale/gunwalelaw08.ViewFinds", spec := "viewFinds", unfollowed := true, recurses := true, apart := false }
def ViewFindsSaid : Prop := viewFindsRow.holds Try.pinned (OpenSpec.ofChange viewFindsSpec)

/-- ITS FALSE NEIGHBOUR: 'it returns false'. Refute it at one input. -/
def viewFindsWrong : ChangeSpec := { name := "viewFinds", fn := fun _ => fun
  | [d1, d2] => { results := [.lit (.bool false)], args := [d1, d2] }
  | _ => none }
def ViewFindsWrongFalsely : Prop := viewFindsRow.holds Try.pinned (OpenSpec.ofChange viewFindsWrong)

/-- 'gunwalelaw08.ViewOnce': WHATEVER THE INPUT: true; the input reads as it did. -/
def viewOnceSpec : ChangeSpec := { name := "viewOnce", fn := fun _ => fun
  | [d] => { results := [.lit (.bool true)], args := [d] }
  | _ => none }
def viewOnceRow : OpenClaim := { program := "ytkflmicpifohhaa", sum := "c7f2b9500d632ddf280e2ed68a9284dfa390c053f8281811a0d3dc61ddcb2418", func := "gunwale/gunwalelaw08.ViewOnce", spec := "viewOnce", unfollowed := true, recurses := true, apart := false }
def ViewOnceSaid : Prop := viewOnceRow.holds Try.pinned (OpenSpec.ofChange viewOnceSpec)

/-- ITS FALSE NEIGHBOUR: 'it returns false'. Refute it at one input. -/
def viewOnceWrong : ChangeSpec := { name := "viewOnce", fn := fun _ => fun
  | [d] => { results := [.lit (.bool false)], args := [d] }
  | _ => none }
def ViewOnceWrongFalsely : Prop := viewOnceRow.holds Try.pinned (OpenSpec.ofChange viewOnceWrong)

/-- 'gunwalelaw08.ViewLast': WHATEVER THE INPUT: true; the input reads as it did. -/
def viewLastSpec : ChangeSpec := { name := "viewLast", fn := fun _ => fun
  | [d1, d2] => { results := [.lit (.bool true)], args := [d1, d2] }
  | _ => none }
def viewLastRow : OpenClaim := { program := "ytkflmicpifohhaa", sum := "c7f2b9500d632ddf280e2ed68a9284dfa390c053f8281811a0d3dc61ddcb2418", func := "gunwale/gunwalelaw08.ViewLast", spec := "viewLast", unfollowed := true, recurses := true, apart := false }
def ViewLastSaid : Prop := viewLastRow.holds Try.pinned (OpenSpec.ofChange viewLastSpec)

/-- ITS FALSE NEIGHBOUR: 'it returns false'. Refute it at one input. -/
def viewLastWrong : ChangeSpec := { name := "viewLast", fn := fun _ => fun
  | [d1, d2] => { results := [.lit (.bool false)], args := [d1, d2] }
  | _ => none }
def ViewLastWrongFalsely : Prop := viewLastRow.holds Try.pinned (OpenSpec.ofChange viewLastWrong)

/- THE SECOND FORM. 'bulk': how many values and letters a reading holds, each counted each time it is reached (what is shared counts as often as it is met; a slice's spare places count too). A statement '..UptoSaid' is the law's where the arguments, and the package variables that the reading takes, are together of bulk at most 1048576: NARROWER than '..Said'. Prove '..Said' where nothing that the law and all that it calls make is longer than what came in: it says more and counts as full. Else prove '..UptoSaid'. A law counts once. -/
mutual
def uptoBulk {H : Type} : DataW H → Nat
  | .lit (.string bytes) => bytes.length + 1
  | .lit _ => 1
  | .nil => 1
  | .ptr d => uptoBulk d + 1
  | .slice elems spare => uptoBulkAll elems + uptoBulkAll spare + 1
  | .agg parts => uptoBulkAll parts + 1
  | .iface _ d => uptoBulk d + 1
  | .map entries => uptoBulkEntries entries + 1
  | .held _ => 1
def uptoBulkAll {H : Type} : List (DataW H) → Nat
  | [] => 0
  | d :: r => uptoBulk d + uptoBulkAll r
def uptoBulkEntries {H : Type} : List (Lit × DataW H) → Nat
  | [] => 0
  | x :: r => uptoBulkEntry x + uptoBulkEntries r
def uptoBulkEntry {H : Type} : Lit × DataW H → Nat
  | (.string bytes, d) => bytes.length + uptoBulk d + 1
  | (_, d) => uptoBulk d + 1
 end
def uptoSmall : (H : Type) → List (DataW H) → Bool := fun _ ds => decide (uptoBulkAll ds ≤ 1048576)
def OpenSpec.upto (s : _root_.Go.ChangeSpec) : _root_.Go.OpenSpec := { _root_.Go.OpenSpec.ofChange s with cond := some uptoSmall }

/-- 'gunwalelaw08.ViewBelow', WHERE WHAT IT READS IS OF BULK AT MOST 1048576: true; the input reads as it did. -/
def viewBelowUptoRow : OpenClaim := { program := "ytkflmicpifohhaa", sum := "c7f2b9500d632ddf280e2ed68a9284dfa390c053f8281811a0d3dc61ddcb2418", func := "gunwale/gunwalelaw08.ViewBelow", spec := "viewBelow", unfollowed := true, recurses := true, apart := false, narrowed := true }
def ViewBelowUptoSaid : Prop := viewBelowUptoRow.holds Try.pinned (OpenSpec.upto viewBelowSpec)

/-- 'gunwalelaw08.ViewMoved', WHERE WHAT IT READS IS OF BULK AT MOST 1048576: true; the input reads as it did. -/
def viewMovedUptoRow : OpenClaim := { program := "ytkflmicpifohhaa", sum := "c7f2b9500d632ddf280e2ed68a9284dfa390c053f8281811a0d3dc61ddcb2418", func := "gunwale/gunwalelaw08.ViewMoved", spec := "viewMoved", unfollowed := true, recurses := true, apart := false, narrowed := true }
def ViewMovedUptoSaid : Prop := viewMovedUptoRow.holds Try.pinned (OpenSpec.upto viewMovedSpec)

/-- 'gunwalelaw08.ViewFinds', WHERE WHAT IT READS IS OF BULK AT MOST 1048576: true; the input reads as it did. -/
def viewFindsUptoRow : OpenClaim := { program := "ytkflmicpifohhaa", sum := "c7f2b9500d632ddf280e2ed68a9284dfa390c053f8281811a0d3dc61ddcb2418", func := "gunwale/gunwalelaw08.ViewFinds", spec := "viewFinds", unfollowed := true, recurses := true, apart := false, narrowed := true }
def ViewFindsUptoSaid : Prop := viewFindsUptoRow.holds Try.pinned (OpenSpec.upto viewFindsSpec)

/-- 'gunwalelaw08.ViewOnce', WHERE WHAT IT READS IS OF BULK AT MOST 1048576: true; the input reads as it did. -/
def viewOnceUptoRow : OpenClaim := { program := "ytkflmicpifohhaa", sum := "c7f2b9500d632ddf280e2ed68a9284dfa390c053f8281811a0d3dc61ddcb2418", func := "gunwale/gunwalelaw08.ViewOnce", spec := "viewOnce", unfollowed := true, recurses := true, apart := false, narrowed := true }
def ViewOnceUptoSaid : Prop := viewOnceUptoRow.holds Try.pinned (OpenSpec.upto viewOnceSpec)

/-- 'gunwalelaw08.ViewLast', WHERE WHAT IT READS IS OF BULK AT MOST 1048576: true; the input reads as it did. -/
def viewLastUptoRow : OpenClaim := { program := "ytkflmicpifohhaa", sum := "c7f2b9500d632ddf280e2ed68a9284dfa390c053f8281811a0d3dc61ddcb2418", func := "gunwale/gunwalelaw08.ViewLast", spec := "viewLast", unfollowed := true, recurses := true, apart := false, narrowed := true }
def ViewLastUptoSaid : Prop := viewLastUptoRow.holds Try.pinned (OpenSpec.upto viewLastSpec)

end Rows
end Go.Proofs.Ytkflmicpifohhaa
