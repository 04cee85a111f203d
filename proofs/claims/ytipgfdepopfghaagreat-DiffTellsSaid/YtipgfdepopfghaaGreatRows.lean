/-
  No cell of these rows narrows 'for every input' (looked for: loops, veiled, ifaces, maps, wideKeys, modest, calm, conditions, laid).
  DERIVED. THE GIVEN ROWS OF THIS SEAT. 6 by the template 'for every input the law returns true; each argument reads behind the call as it read before'; 0 by the template 'total and deterministic' (their statements: YtipgfdepopfghaaGreatTotals.lean).
  GIVEN WITH THE SEED: the statements are not yours to turn. If you find one false, say at which input.
  Laid BY PROGRAM, IN A SANDBOX (cutbox-rows.mjs): the forced cells as the released guide's own fill.sh prints them over the translation a598631adced5364… (all of the seat's roots in one cut). By AI agents, Wed Nov 11 2026. No macro, syntax, notation, axiom, sorry.
-/
import Derived.Test.YtipgfdepopfghaaGreatChecked
import GoSem.Claim
import GoSem.ClaimJoined
import GoSem.ClaimMapViews
import Derived.JoinedTies
import Derived.KernelRfl
namespace Go.Proofs.YtipgfdepopfghaaGreat
/- THE CELL 'sum', in the pinned program and in every row, IS THE sha256 OF THE DUMP (.gsa) THAT YtipgfdepopfghaaGreatProg.lean LOADS. Nothing in Lean hashes anything: it is a label: what it is worth is what the hold of that sum in a sandbox is worth. -/
noncomputable def Tryz.pinned : Pinned := { name := "ytipgfdepopfghaagreat", sum := "a598631adced5364c81b5ecd701e1eee2f7d4343bba4118a3dd7bd706827508b", checked := Tryz.checked }
namespace Rows
def none {H : Type} : Left H := { results := [], args := [] }

/-- 'gunwalelaw09.DiffTells': WHATEVER THE INPUT: true; the input reads as it did. -/
def diffTellsSpec : ChangeSpec := { name := "diffTells", fn := fun _ => fun
  | [d1, d2, d3, d4, d5] => { results := [.lit (.bool true)], args := [d1, d2, d3, d4, d5] }
  | _ => none }
def diffTellsRow : OpenClaim := { program := "ytipgfdepopfghaagreat", sum := "a598631adced5364c81b5ecd701e1eee2f7d4343bba4118a3dd7bd706827508b", func := "gunwale/gunwalelaw09.DiffTells", spec := "diffTells", unfollowed := true, recurses := true, apart := false }
def DiffTellsSaid : Prop := diffTellsRow.holds Tryz.pinned (OpenSpec.ofChange diffTellsSpec)

/-- ITS FALSE NEIGHBOUR: 'it returns false'. Refute it at one input. -/
def diffTellsWrong : ChangeSpec := { name := "diffTells", fn := fun _ => fun
  | [d1, d2, d3, d4, d5] => { results := [.lit (.bool false)], args := [d1, d2, d3, d4, d5] }
  | _ => none }
def DiffTellsWrongFalsely : Prop := diffTellsRow.holds Tryz.pinned (OpenSpec.ofChange diffTellsWrong)

/-- 'gunwalelaw09.DiffPlays': WHATEVER THE INPUT: true; the input reads as it did. -/
def diffPlaysSpec : ChangeSpec := { name := "diffPlays", fn := fun _ => fun
  | [d1, d2, d3] => { results := [.lit (.bool true)], args := [d1, d2, d3] }
  | _ => none }
def diffPlaysRow : OpenClaim := { program := "ytipgfdepopfghaagreat", sum := "a598631adced5364c81b5ecd701e1eee2f7d4343bba4118a3dd7bd706827508b", func := "gunwale/gunwalelaw09.DiffPlays", spec := "diffPlays", unfollowed := true, recurses := true, apart := false }
def DiffPlaysSaid : Prop := diffPlaysRow.holds Tryz.pinned (OpenSpec.ofChange diffPlaysSpec)

/-- ITS FALSE NEIGHBOUR: 'it returns false'. Refute it at one input. -/
def diffPlaysWrong : ChangeSpec := { name := "diffPlays", fn := fun _ => fun
  | [d1, d2, d3] => { results := [.lit (.bool false)], args := [d1, d2, d3] }
  | _ => none }
def DiffPlaysWrongFalsely : Prop := diffPlaysRow.holds Tryz.pinned (OpenSpec.ofChange diffPlaysWrong)

/-- 'gunwalelaw09.DiffTurns': WHATEVER THE INPUT: true; the input reads as it did. -/
def diffTurnsSpec : ChangeSpec := { name := "diffTurns", fn := fun _ => fun
  | [d1, d2, d3] => { results := [.lit (.bool true)], args := [d1, d2, d3] }
  | _ => none }
def diffTurnsRow : OpenClaim := { program := "ytipgfdepopfghaagreat", sum := "a598631adced5364c81b5ecd701e1eee2f7d4343bba4118a3dd7bd706827508b", func := "gunwale/gunwalelaw09.DiffTurns", spec := "diffTurns", unfollowed := true, recurses := true, apart := false }
def DiffTurnsSaid : Prop := diffTurnsRow.holds Tryz.pinned (OpenSpec.ofChange diffTurnsSpec)

/-- ITS FALSE NEIGHBOUR: 'it returns false'. Refute it at one input. -/
def diffTurnsWrong : ChangeSpec := { name := "diffTurns", fn := fun _ => fun
  | [d1, d2, d3] => { results := [.lit (.bool false)], args := [d1, d2, d3] }
  | _ => none }
def DiffTurnsWrongFalsely : Prop := diffTurnsRow.holds Tryz.pinned (OpenSpec.ofChange diffTurnsWrong)

/-- 'gunwalelaw09.DiffEvents': WHATEVER THE INPUT: true; the input reads as it did. -/
def diffEventsSpec : ChangeSpec := { name := "diffEvents", fn := fun _ => fun
  | [d1, d2] => { results := [.lit (.bool true)], args := [d1, d2] }
  | _ => none }
def diffEventsRow : OpenClaim := { program := "ytipgfdepopfghaagreat", sum := "a598631adced5364c81b5ecd701e1eee2f7d4343bba4118a3dd7bd706827508b", func := "gunwale/gunwalelaw09.DiffEvents", spec := "diffEvents", unfollowed := true, recurses := true, apart := false }
def DiffEventsSaid : Prop := diffEventsRow.holds Tryz.pinned (OpenSpec.ofChange diffEventsSpec)

/-- ITS FALSE NEIGHBOUR: 'it returns false'. Refute it at one input. -/
def diffEventsWrong : ChangeSpec := { name := "diffEvents", fn := fun _ => fun
  | [d1, d2] => { results := [.lit (.bool false)], args := [d1, d2] }
  | _ => none }
def DiffEventsWrongFalsely : Prop := diffEventsRow.holds Tryz.pinned (OpenSpec.ofChange diffEventsWrong)

/-- 'gunwalelaw09.DiffParts': WHATEVER THE INPUT: true; the input reads as it did. -/
def diffPartsSpec : ChangeSpec := { name := "diffParts", fn := fun _ => fun
  | [d1, d2, d3, d4] => { results := [.lit (.bool true)], args := [d1, d2, d3, d4] }
  | _ => none }
def diffPartsRow : OpenClaim := { program := "ytipgfdepopfghaagreat", sum := "a598631adced5364c81b5ecd701e1eee2f7d4343bba4118a3dd7bd706827508b", func := "gunwale/gunwalelaw09.DiffParts", spec := "diffParts", unfollowed := true, recurses := true, apart := false }
def DiffPartsSaid : Prop := diffPartsRow.holds Tryz.pinned (OpenSpec.ofChange diffPartsSpec)

/-- ITS FALSE NEIGHBOUR: 'it returns false'. Refute it at one input. -/
def diffPartsWrong : ChangeSpec := { name := "diffParts", fn := fun _ => fun
  | [d1, d2, d3, d4] => { results := [.lit (.bool false)], args := [d1, d2, d3, d4] }
  | _ => none }
def DiffPartsWrongFalsely : Prop := diffPartsRow.holds Tryz.pinned (OpenSpec.ofChange diffPartsWrong)

/-- 'gunwalelaw09.DiffOne': WHATEVER THE INPUT: true; the input reads as it did. -/
def diffOneSpec : ChangeSpec := { name := "diffOne", fn := fun _ => fun
  | [d1, d2] => { results := [.lit (.bool true)], args := [d1, d2] }
  | _ => none }
def diffOneRow : OpenClaim := { program := "ytipgfdepopfghaagreat", sum := "a598631adced5364c81b5ecd701e1eee2f7d4343bba4118a3dd7bd706827508b", func := "gunwale/gunwalelaw09.DiffOne", spec := "diffOne", unfollowed := true, recurses := true, apart := false }
def DiffOneSaid : Prop := diffOneRow.holds Tryz.pinned (OpenSpec.ofChange diffOneSpec)

/-- ITS FALSE NEIGHBOUR: 'it returns false'. Refute it at one input. -/
def diffOneWrong : ChangeSpec := { name := "diffOne", fn := fun _ => fun
  | [d1, d2] => { results := [.lit (.bool false)], args := [d1, d2] }
  | _ => none }
def DiffOneWrongFalsely : Prop := diffOneRow.holds Tryz.pinned (OpenSpec.ofChange diffOneWrong)

/- THE SECOND FORM. 'bulk': how many values and letters a reading holds, each counted each time it is reached (what is shared counts as often as it is met; a slice's spare places count too). A statement '..UptoSaid' is the law's where the arguments, and the package variables that the reading takes, are together of bulk at most 1048576: NARROWER than '..Said'. Prove '..Said' where nothing that the law and all that it calls make is longer than what came in: it says more and counts as full. Else prove '..UptoSaid'. A law counts once. -/
mutual
def uptoBulk {H : Type} : DataW H → Nat
  | .lit (.string bytes) => bytes.length + 1
  | .lit _ => 1
  | .nil => 1
  | .ptr d => uptoBulk d + 1
  | .slice elems spare => uptoBulkAll elems + uptoBulkAll spare + 1
  | .agg parts => uptoBulkAll parts + 1
  | .iface _ d => uptoBulk d + 1
  | .map entries => uptoBulkEntries entries + 1
  | .held _ => 1
def uptoBulkAll {H : Type} : List (DataW H) → Nat
  | [] => 0
  | d :: r => uptoBulk d + uptoBulkAll r
def uptoBulkEntries {H : Type} : List (Lit × DataW H) → Nat
  | [] => 0
  | x :: r => uptoBulkEntry x + uptoBulkEntries r
def uptoBulkEntry {H : Type} : Lit × DataW H → Nat
  | (.string bytes, d) => bytes.length + uptoBulk d + 1
  | (_, d) => uptoBulk d + 1
 end
def uptoSmall : (H : Type) → List (DataW H) → Bool := fun _ ds => decide (uptoBulkAll ds ≤ 1048576)
def OpenSpec.upto (s : _root_.Go.ChangeSpec) : _root_.Go.OpenSpec := { _root_.Go.OpenSpec.ofChange s with cond := some uptoSmall }

/-- 'gunwalelaw09.DiffTells', WHERE WHAT IT READS IS OF BULK AT MOST 1048576: true; the input reads as it did. -/
def diffTellsUptoRow : OpenClaim := { program := "ytipgfdepopfghaagreat", sum := "a598631adced5364c81b5ecd701e1eee2f7d4343bba4118a3dd7bd706827508b", func := "gunwale/gunwalelaw09.DiffTells", spec := "diffTells", unfollowed := true, recurses := true, apart := false, narrowed := true }
def DiffTellsUptoSaid : Prop := diffTellsUptoRow.holds Tryz.pinned (OpenSpec.upto diffTellsSpec)

/-- 'gunwalelaw09.DiffPlays', WHERE WHAT IT READS IS OF BULK AT MOST 1048576: true; the input reads as it did. -/
def diffPlaysUptoRow : OpenClaim := { program := "ytipgfdepopfghaagreat", sum := "a598631adced5364c81b5ecd701e1eee2f7d4343bba4118a3dd7bd706827508b", func := "gunwale/gunwalelaw09.DiffPlays", spec := "diffPlays", unfollowed := true, recurses := true, apart := false, narrowed := true }
def DiffPlaysUptoSaid : Prop := diffPlaysUptoRow.holds Tryz.pinned (OpenSpec.upto diffPlaysSpec)

/-- 'gunwalelaw09.DiffTurns', WHERE WHAT IT READS IS OF BULK AT MOST 1048576: true; the input reads as it did. -/
def diffTurnsUptoRow : OpenClaim := { program := "ytipgfdepopfghaagreat", sum := "a598631adced5364c81b5ecd701e1eee2f7d4343bba4118a3dd7bd706827508b", func := "gunwale/gunwalelaw09.DiffTurns", spec := "diffTurns", unfollowed := true, recurses := true, apart := false, narrowed := true }
def DiffTurnsUptoSaid : Prop := diffTurnsUptoRow.holds Tryz.pinned (OpenSpec.upto diffTurnsSpec)

/-- 'gunwalelaw09.DiffEvents', WHERE WHAT IT READS IS OF BULK AT MOST 1048576: true; the input reads as it did. -/
def diffEventsUptoRow : OpenClaim := { program := "ytipgfdepopfghaagreat", sum := "a598631adced5364c81b5ecd701e1eee2f7d4343bba4118a3dd7bd706827508b", func := "gunwale/gunwalelaw09.DiffEvents", spec := "diffEvents", unfollowed := true, recurses := true, apart := false, narrowed := true }
def DiffEventsUptoSaid : Prop := diffEventsUptoRow.holds Tryz.pinned (OpenSpec.upto diffEventsSpec)

/-- 'gunwalelaw09.DiffParts', WHERE WHAT IT READS IS OF BULK AT MOST 1048576: true; the input reads as it did. -/
def diffPartsUptoRow : OpenClaim := { program := "ytipgfdepopfghaagreat", sum := "a598631adced5364c81b5ecd701e1eee2f7d4343bba4118a3dd7bd706827508b", func := "gunwale/gunwalelaw09.DiffParts", spec := "diffParts", unfollowed := true, recurses := true, apart := false, narrowed := true }
def DiffPartsUptoSaid : Prop := diffPartsUptoRow.holds Tryz.pinned (OpenSpec.upto diffPartsSpec)

/-- 'gunwalelaw09.DiffOne', WHERE WHAT IT READS IS OF BULK AT MOST 1048576: true; the input reads as it did. -/
def diffOneUptoRow : OpenClaim := { program := "ytipgfdepopfghaagreat", sum := "a598631adced5364c81b5ecd701e1eee2f7d4343bba4118a3dd7bd706827508b", func := "gunwale/gunwalelaw09.DiffOne", spec := "diffOne", unfollowed := true, recurses := true, apart := false, narrowed := true }
def DiffOneUptoSaid : Prop := diffOneUptoRow.holds Tryz.pinned (OpenSpec.upto diffOneSpec)

end Rows
end Go.Proofs.YtipgfdepopfghaaGreat
