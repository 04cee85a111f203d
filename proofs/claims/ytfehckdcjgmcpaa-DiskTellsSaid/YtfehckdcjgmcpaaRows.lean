/-
  No cell of these rows narrows 'for every input' (looked for: loops, veiled, ifaces, maps, wideKeys, modest, calm, conditions, laid).
  DERIVED. THE GIVEN ROWS OF THIS SEAT. 7 by the template 'for every input the law returns true; each argument reads behind the call as it read before'; 0 by the template 'total and deterministic' (their statements: YtfehckdcjgmcpaaTotals.lean).
  GIVEN WITH THE SEED: the statements are not yours to turn. If you find one false, say at which input.
  Laid BY PROGRAM, IN A SANDBOX (cutbox-rows.mjs): the forced cells as the released guide's own fill.sh prints them over the translation 5a4e4920f5cf88b5… (all of the seat's roots in one cut). By AI agents, Wed Nov 11 2026. No macro, syntax, notation, axiom, sorry.
-/
import Derived.Test.YtfehckdcjgmcpaaChecked
import GoSem.Claim
import GoSem.ClaimJoined
import GoSem.ClaimMapViews
import Derived.JoinedTies
import Derived.KernelRfl
namespace Go.Proofs.Ytfehckdcjgmcpaa
/- THE CELL 'sum', in the pinned program and in every row, IS THE sha256 OF THE DUMP (.gsa) THAT YtfehckdcjgmcpaaProg.lean LOADS. Nothing in Lean hashes anything: it is a label: what it is worth is what the hold of that sum in a sandbox is worth. -/
noncomputable def Try.pinned : Pinned := { name := "ytfehckdcjgmcpaa", sum := "5a4e4920f5cf88b5d64e8e5db7d919aa4b261f2d9dde7cc46095a1aa15b2652f", checked := Try.checked }
namespace Rows
def none {H : Type} : Left H := { results := [], args := [] }

/-- 'gunwalelaw12.DiskTells': WHATEVER THE INPUT: true; the input reads as it did. -/
def diskTellsSpec : ChangeSpec := { name := "diskTells", fn := fun _ => fun
  | [d1, d2, d3, d4, d5, d6] => { results := [.lit (.bool true)], args := [d1, d2, d3, d4, d5, d6] }
  | _ => none }
def diskTellsRow : OpenClaim := { program := "ytfehckdcjgmcpaa", sum := "5a4e4920f5cf88b5d64e8e5db7d919aa4b261f2d9dde7cc46095a1aa15b2652f", func := "gunwale/gunwalelaw12.DiskTells", spec := "diskTells", apart := false }
def DiskTellsSaid : Prop := diskTellsRow.holds Try.pinned (OpenSpec.ofChange diskTellsSpec)

/-- ITS FALSE NEIGHBOUR: 'it returns false'. Refute it at one input. -/
def diskTellsWrong : ChangeSpec := { name := "diskTells", fn := fun _ => fun
  | [d1, d2, d3, d4, d5, d6] => { results := [.lit (.bool false)], args := [d1, d2, d3, d4, d5, d6] }
  | _ => none }
def DiskTellsWrongFalsely : Prop := diskTellsRow.holds Try.pinned (OpenSpec.ofChange diskTellsWrong)

/-- 'gunwalelaw12.DiskReads': WHATEVER THE INPUT: true; the input reads as it did. -/
def diskReadsSpec : ChangeSpec := { name := "diskReads", fn := fun _ => fun
  | [d1, d2, d3, d4] => { results := [.lit (.bool true)], args := [d1, d2, d3, d4] }
  | _ => none }
def diskReadsRow : OpenClaim := { program := "ytfehckdcjgmcpaa", sum := "5a4e4920f5cf88b5d64e8e5db7d919aa4b261f2d9dde7cc46095a1aa15b2652f", func := "gunwale/gunwalelaw12.DiskReads", spec := "diskReads", apart := false }
def DiskReadsSaid : Prop := diskReadsRow.holds Try.pinned (OpenSpec.ofChange diskReadsSpec)

/-- ITS FALSE NEIGHBOUR: 'it returns false'. Refute it at one input. -/
def diskReadsWrong : ChangeSpec := { name := "diskReads", fn := fun _ => fun
  | [d1, d2, d3, d4] => { results := [.lit (.bool false)], args := [d1, d2, d3, d4] }
  | _ => none }
def DiskReadsWrongFalsely : Prop := diskReadsRow.holds Try.pinned (OpenSpec.ofChange diskReadsWrong)

/-- 'gunwalelaw12.DiskFirm': WHATEVER THE INPUT: true; the input reads as it did. -/
def diskFirmSpec : ChangeSpec := { name := "diskFirm", fn := fun _ => fun
  | [d1, d2, d3, d4] => { results := [.lit (.bool true)], args := [d1, d2, d3, d4] }
  | _ => none }
def diskFirmRow : OpenClaim := { program := "ytfehckdcjgmcpaa", sum := "5a4e4920f5cf88b5d64e8e5db7d919aa4b261f2d9dde7cc46095a1aa15b2652f", func := "gunwale/gunwalelaw12.DiskFirm", spec := "diskFirm", apart := false }
def DiskFirmSaid : Prop := diskFirmRow.holds Try.pinned (OpenSpec.ofChange diskFirmSpec)

/-- ITS FALSE NEIGHBOUR: 'it returns false'. Refute it at one input. -/
def diskFirmWrong : ChangeSpec := { name := "diskFirm", fn := fun _ => fun
  | [d1, d2, d3, d4] => { results := [.lit (.bool false)], args := [d1, d2, d3, d4] }
  | _ => none }
def DiskFirmWrongFalsely : Prop := diskFirmRow.holds Try.pinned (OpenSpec.ofChange diskFirmWrong)

/-- 'gunwalelaw12.DiskCrash': WHATEVER THE INPUT: true; the input reads as it did. -/
def diskCrashSpec : ChangeSpec := { name := "diskCrash", fn := fun _ => fun
  | [d1, d2] => { results := [.lit (.bool true)], args := [d1, d2] }
  | _ => none }
def diskCrashRow : OpenClaim := { program := "ytfehckdcjgmcpaa", sum := "5a4e4920f5cf88b5d64e8e5db7d919aa4b261f2d9dde7cc46095a1aa15b2652f", func := "gunwale/gunwalelaw12.DiskCrash", spec := "diskCrash", apart := false }
def DiskCrashSaid : Prop := diskCrashRow.holds Try.pinned (OpenSpec.ofChange diskCrashSpec)

/-- ITS FALSE NEIGHBOUR: 'it returns false'. Refute it at one input. -/
def diskCrashWrong : ChangeSpec := { name := "diskCrash", fn := fun _ => fun
  | [d1, d2] => { results := [.lit (.bool false)], args := [d1, d2] }
  | _ => none }
def DiskCrashWrongFalsely : Prop := diskCrashRow.holds Try.pinned (OpenSpec.ofChange diskCrashWrong)

/-- 'gunwalelaw12.DiskPicks': WHATEVER THE INPUT: true; the input reads as it did. -/
def diskPicksSpec : ChangeSpec := { name := "diskPicks", fn := fun _ => fun
  | [d1, d2, d3] => { results := [.lit (.bool true)], args := [d1, d2, d3] }
  | _ => none }
def diskPicksRow : OpenClaim := { program := "ytfehckdcjgmcpaa", sum := "5a4e4920f5cf88b5d64e8e5db7d919aa4b261f2d9dde7cc46095a1aa15b2652f", func := "gunwale/gunwalelaw12.DiskPicks", spec := "diskPicks", apart := false }
def DiskPicksSaid : Prop := diskPicksRow.holds Try.pinned (OpenSpec.ofChange diskPicksSpec)

/-- ITS FALSE NEIGHBOUR: 'it returns false'. Refute it at one input. -/
def diskPicksWrong : ChangeSpec := { name := "diskPicks", fn := fun _ => fun
  | [d1, d2, d3] => { results := [.lit (.bool false)], args := [d1, d2, d3] }
  | _ => none }
def DiskPicksWrongFalsely : Prop := diskPicksRow.holds Try.pinned (OpenSpec.ofChange diskPicksWrong)

/-- 'gunwalelaw12.DiskRoom': WHATEVER THE INPUT: true; the input reads as it did. -/
def diskRoomSpec : ChangeSpec := { name := "diskRoom", fn := fun _ => fun
  | [d1, d2, d3] => { results := [.lit (.bool true)], args := [d1, d2, d3] }
  | _ => none }
def diskRoomRow : OpenClaim := { program := "ytfehckdcjgmcpaa", sum := "5a4e4920f5cf88b5d64e8e5db7d919aa4b261f2d9dde7cc46095a1aa15b2652f", func := "gunwale/gunwalelaw12.DiskRoom", spec := "diskRoom", apart := false }
def DiskRoomSaid : Prop := diskRoomRow.holds Try.pinned (OpenSpec.ofChange diskRoomSpec)

/-- ITS FALSE NEIGHBOUR: 'it returns false'. Refute it at one input. -/
def diskRoomWrong : ChangeSpec := { name := "diskRoom", fn := fun _ => fun
  | [d1, d2, d3] => { results := [.lit (.bool false)], args := [d1, d2, d3] }
  | _ => none }
def DiskRoomWrongFalsely : Prop := diskRoomRow.holds Try.pinned (OpenSpec.ofChange diskRoomWrong)

/-- 'gunwalelaw12.DiskTurns': WHATEVER THE INPUT: true; the input reads as it did. -/
def diskTurnsSpec : ChangeSpec := { name := "diskTurns", fn := fun _ => fun
  | [d1, d2, d3, d4, d5] => { results := [.lit (.bool true)], args := [d1, d2, d3, d4, d5] }
  | _ => none }
def diskTurnsRow : OpenClaim := { program := "ytfehckdcjgmcpaa", sum := "5a4e4920f5cf88b5d64e8e5db7d919aa4b261f2d9dde7cc46095a1aa15b2652f", func := "gunwale/gunwalelaw12.DiskTurns", spec := "diskTurns", apart := false }
def DiskTurnsSaid : Prop := diskTurnsRow.holds Try.pinned (OpenSpec.ofChange diskTurnsSpec)

/-- ITS FALSE NEIGHBOUR: 'it returns false'. Refute it at one input. -/
def diskTurnsWrong : ChangeSpec := { name := "diskTurns", fn := fun _ => fun
  | [d1, d2, d3, d4, d5] => { results := [.lit (.bool false)], args := [d1, d2, d3, d4, d5] }
  | _ => none }
def DiskTurnsWrongFalsely : Prop := diskTurnsRow.holds Try.pinned (OpenSpec.ofChange diskTurnsWrong)

/- THE SECOND FORM. 'bulk': how many values and letters a reading holds, each counted each time it is reached (what is shared counts as often as it is met; a slice's spare places count too). A statement '..UptoSaid' is the law's where the arguments, and the package variables that the reading takes, are together of bulk at most 1048576: NARROWER than '..Said'. Prove '..Said' where nothing that the law and all that it calls make is longer than what came in: it says more and counts as full. Else prove '..UptoSaid'. A law counts once. -/
mutual
def uptoBulk {H : Type} : DataW H → Nat
  | .lit (.string bytes) => bytes.length + 1
  | .lit _ => 1
  | .nil => 1
  | .ptr d => uptoBulk d + 1
  | .slice elems spare => uptoBulkAll elems + uptoBulkAll spare + 1
  | .agg parts => uptoBulkAll parts + 1
  | .iface _ d => uptoBulk d + 1
  | .map entries => uptoBulkEntries entries + 1
  | .held _ => 1
def uptoBulkAll {H : Type} : List (DataW H) → Nat
  | [] => 0
  | d :: r => uptoBulk d + uptoBulkAll r
def uptoBulkEntries {H : Type} : List (Lit × DataW H) → Nat
  | [] => 0
  | x :: r => uptoBulkEntry x + uptoBulkEntries r
def uptoBulkEntry {H : Type} : Lit × DataW H → Nat
  | (.string bytes, d) => bytes.length + uptoBulk d + 1
  | (_, d) => uptoBulk d + 1
 end
def uptoSmall : (H : Type) → List (DataW H) → Bool := fun _ ds => decide (uptoBulkAll ds ≤ 1048576)
def OpenSpec.upto (s : _root_.Go.ChangeSpec) : _root_.Go.OpenSpec := { _root_.Go.OpenSpec.ofChange s with cond := some uptoSmall }

/-- 'gunwalelaw12.DiskTells', WHERE WHAT IT READS IS OF BULK AT MOST 1048576: true; the input reads as it did. -/
def diskTellsUptoRow : OpenClaim := { program := "ytfehckdcjgmcpaa", sum := "5a4e4920f5cf88b5d64e8e5db7d919aa4b261f2d9dde7cc46095a1aa15b2652f", func := "gunwale/gunwalelaw12.DiskTells", spec := "diskTells", apart := false, narrowed := true }
def DiskTellsUptoSaid : Prop := diskTellsUptoRow.holds Try.pinned (OpenSpec.upto diskTellsSpec)

/-- 'gunwalelaw12.DiskReads', WHERE WHAT IT READS IS OF BULK AT MOST 1048576: true; the input reads as it did. -/
def diskReadsUptoRow : OpenClaim := { program := "ytfehckdcjgmcpaa", sum := "5a4e4920f5cf88b5d64e8e5db7d919aa4b261f2d9dde7cc46095a1aa15b2652f", func := "gunwale/gunwalelaw12.DiskReads", spec := "diskReads", apart := false, narrowed := true }
def DiskReadsUptoSaid : Prop := diskReadsUptoRow.holds Try.pinned (OpenSpec.upto diskReadsSpec)

/-- 'gunwalelaw12.DiskFirm', WHERE WHAT IT READS IS OF BULK AT MOST 1048576: true; the input reads as it did. -/
def diskFirmUptoRow : OpenClaim := { program := "ytfehckdcjgmcpaa", sum := "5a4e4920f5cf88b5d64e8e5db7d919aa4b261f2d9dde7cc46095a1aa15b2652f", func := "gunwale/gunwalelaw12.DiskFirm", spec := "diskFirm", apart := false, narrowed := true }
def DiskFirmUptoSaid : Prop := diskFirmUptoRow.holds Try.pinned (OpenSpec.upto diskFirmSpec)

/-- 'gunwalelaw12.DiskCrash', WHERE WHAT IT READS IS OF BULK AT MOST 1048576: true; the input reads as it did. -/
def diskCrashUptoRow : OpenClaim := { program := "ytfehckdcjgmcpaa", sum := "5a4e4920f5cf88b5d64e8e5db7d919aa4b261f2d9dde7cc46095a1aa15b2652f", func := "gunwale/gunwalelaw12.DiskCrash", spec := "diskCrash", apart := false, narrowed := true }
def DiskCrashUptoSaid : Prop := diskCrashUptoRow.holds Try.pinned (OpenSpec.upto diskCrashSpec)

/-- 'gunwalelaw12.DiskPicks', WHERE WHAT IT READS IS OF BULK AT MOST 1048576: true; the input reads as it did. -/
def diskPicksUptoRow : OpenClaim := { program := "ytfehckdcjgmcpaa", sum := "5a4e4920f5cf88b5d64e8e5db7d919aa4b261f2d9dde7cc46095a1aa15b2652f", func := "gunwale/gunwalelaw12.DiskPicks", spec := "diskPicks", apart := false, narrowed := true }
def DiskPicksUptoSaid : Prop := diskPicksUptoRow.holds Try.pinned (OpenSpec.upto diskPicksSpec)

/-- 'gunwalelaw12.DiskRoom', WHERE WHAT IT READS IS OF BULK AT MOST 1048576: true; the input reads as it did. -/
def diskRoomUptoRow : OpenClaim := { program := "ytfehckdcjgmcpaa", sum := "5a4e4920f5cf88b5d64e8e5db7d919aa4b261f2d9dde7cc46095a1aa15b2652f", func := "gunwale/gunwalelaw12.DiskRoom", spec := "diskRoom", apart := false, narrowed := true }
def DiskRoomUptoSaid : Prop := diskRoomUptoRow.holds Try.pinned (OpenSpec.upto diskRoomSpec)

/-- 'gunwalelaw12.DiskTurns', WHERE WHAT IT READS IS OF BULK AT MOST 1048576: true; the input reads as it did. -/
def diskTurnsUptoRow : OpenClaim := { program := "ytfehckdcjgmcpaa", sum := "5a4e4920f5cf88b5d64e8e5db7d919aa4b261f2d9dde7cc46095a1aa15b2652f", func := "gunwale/gunwalelaw12.DiskTurns", spec := "diskTurns", apart := false, narrowed := true }
def DiskTurnsUptoSaid : Prop := diskTurnsUptoRow.holds Try.pinned (OpenSpec.upto diskTurnsSpec)

end Rows
end Go.Proofs.Ytfehckdcjgmcpaa
