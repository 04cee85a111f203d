/-
  NARROWER THAN 'FOR EVERY INPUT', by the rows' own cells (each row's printed sentence says how): WalTells: laid · WalKeeps: laid · WalSyncs: laid · WalFull: laid · WalTwice: laid · WalNumbers: laid.
  DERIVED. THE GIVEN ROWS OF THIS SEAT. 6 by the template 'for every input the law returns true; each argument reads behind the call as it read before'; 0 by the template 'total and deterministic' (their statements: YtjhblbipjljojaaDoorTotals.lean).
  GIVEN WITH THE SEED: the statements are not yours to turn. If you find one false, say at which input.
  Laid BY PROGRAM, IN A SANDBOX (cutbox-rows.mjs): the forced cells as the released guide's own fill.sh prints them over the translation 5b43ea14f79eca20… (all of the seat's roots in one cut). By AI agents, Wed Nov 11 2026. No macro, syntax, notation, axiom, sorry.
-/
import Derived.Test.YtjhblbipjljojaaDoorChecked
import GoSem.Claim
import GoSem.ClaimJoined
import GoSem.ClaimMapViews
import Derived.JoinedTies
import Derived.KernelRfl
namespace Go.Proofs.YtjhblbipjljojaaDoor
/- THE CELL 'sum', in the pinned program and in every row, IS THE sha256 OF THE DUMP (.gsa) THAT YtjhblbipjljojaaDoorProg.lean LOADS. Nothing in Lean hashes anything: it is a label: what it is worth is what the hold of that sum in a sandbox is worth. -/
noncomputable def Tryd.pinned : Pinned := { name := "ytjhblbipjljojaadoor", sum := "5b43ea14f79eca206283487fedc951847b547df0aad6345bb63bf4791c69cc72", checked := Tryd.checked }
namespace Rows
def none {H : Type} : Left H := { results := [], args := [] }

/- WHAT THE LISTED PACKAGE-LEVEL VARIABLES READ AS WHEN THE CALL BEGINS. Each datum BY PROGRAM (the guide's laid-datum.mjs) off the statement by which the dump's own 'gosem.cut.vars' lays the variable. In a bare row this is a premise. The card (YtjhblbipjljojaaDoorCards.lean) ties it to the program's text. -/
def laid_gunwale_sums_steps {H : Type} : DataW H := .agg [.lit (.int .u32 0), .lit (.int .u32 79764919)]

/-- 'gunwalelaw14.WalTells': WHATEVER THE INPUT: true; the input reads as it did. -/
def walTellsSpec : ChangeSpec := { name := "walTells", fn := fun _ => fun
  | [d1, d2, d3] => { results := [.lit (.bool true)], args := [d1, d2, d3] }
  | _ => none }
def walTellsRow : OpenClaim := { program := "ytjhblbipjljojaadoor", sum := "5b43ea14f79eca206283487fedc951847b547df0aad6345bb63bf4791c69cc72", func := "gunwale/gunwalelaw14.WalTells", spec := "walTells", inPlace := ["internal/abi.NoEscape"], unfollowed := true, recurses := true, named := ["gunwale/sums.steps"], apart := false, laid := [("gunwale/sums.steps", laid_gunwale_sums_steps)] }
def WalTellsSaid : Prop := walTellsRow.holds Tryd.pinned (OpenSpec.ofChange walTellsSpec)

/-- ITS FALSE NEIGHBOUR: 'it returns false'. Refute it at one input. -/
def walTellsWrong : ChangeSpec := { name := "walTells", fn := fun _ => fun
  | [d1, d2, d3] => { results := [.lit (.bool false)], args := [d1, d2, d3] }
  | _ => none }
def WalTellsWrongFalsely : Prop := walTellsRow.holds Tryd.pinned (OpenSpec.ofChange walTellsWrong)

/-- 'gunwalelaw14.WalKeeps': WHATEVER THE INPUT: true; the input reads as it did. -/
def walKeepsSpec : ChangeSpec := { name := "walKeeps", fn := fun _ => fun
  | [d1, d2] => { results := [.lit (.bool true)], args := [d1, d2] }
  | _ => none }
def walKeepsRow : OpenClaim := { program := "ytjhblbipjljojaadoor", sum := "5b43ea14f79eca206283487fedc951847b547df0aad6345bb63bf4791c69cc72", func := "gunwale/gunwalelaw14.WalKeeps", spec := "walKeeps", inPlace := ["internal/abi.NoEscape"], unfollowed := true, recurses := true, named := ["gunwale/sums.steps"], apart := false, laid := [("gunwale/sums.steps", laid_gunwale_sums_steps)] }
def WalKeepsSaid : Prop := walKeepsRow.holds Tryd.pinned (OpenSpec.ofChange walKeepsSpec)

/-- ITS FALSE NEIGHBOUR: 'it returns false'. Refute it at one input. -/
def walKeepsWrong : ChangeSpec := { name := "walKeeps", fn := fun _ => fun
  | [d1, d2] => { results := [.lit (.bool false)], args := [d1, d2] }
  | _ => none }
def WalKeepsWrongFalsely : Prop := walKeepsRow.holds Tryd.pinned (OpenSpec.ofChange walKeepsWrong)

/-- 'gunwalelaw14.WalSyncs': WHATEVER THE INPUT: true; the input reads as it did. -/
def walSyncsSpec : ChangeSpec := { name := "walSyncs", fn := fun _ => fun
  | [d1, d2, d3] => { results := [.lit (.bool true)], args := [d1, d2, d3] }
  | _ => none }
def walSyncsRow : OpenClaim := { program := "ytjhblbipjljojaadoor", sum := "5b43ea14f79eca206283487fedc951847b547df0aad6345bb63bf4791c69cc72", func := "gunwale/gunwalelaw14.WalSyncs", spec := "walSyncs", inPlace := ["internal/abi.NoEscape"], unfollowed := true, recurses := true, named := ["gunwale/sums.steps"], apart := false, laid := [("gunwale/sums.steps", laid_gunwale_sums_steps)] }
def WalSyncsSaid : Prop := walSyncsRow.holds Tryd.pinned (OpenSpec.ofChange walSyncsSpec)

/-- ITS FALSE NEIGHBOUR: 'it returns false'. Refute it at one input. -/
def walSyncsWrong : ChangeSpec := { name := "walSyncs", fn := fun _ => fun
  | [d1, d2, d3] => { results := [.lit (.bool false)], args := [d1, d2, d3] }
  | _ => none }
def WalSyncsWrongFalsely : Prop := walSyncsRow.holds Tryd.pinned (OpenSpec.ofChange walSyncsWrong)

/-- 'gunwalelaw14.WalFull': WHATEVER THE INPUT: true; the input reads as it did. -/
def walFullSpec : ChangeSpec := { name := "walFull", fn := fun _ => fun
  | [d1, d2] => { results := [.lit (.bool true)], args := [d1, d2] }
  | _ => none }
def walFullRow : OpenClaim := { program := "ytjhblbipjljojaadoor", sum := "5b43ea14f79eca206283487fedc951847b547df0aad6345bb63bf4791c69cc72", func := "gunwale/gunwalelaw14.WalFull", spec := "walFull", inPlace := ["internal/abi.NoEscape"], unfollowed := true, recurses := true, named := ["gunwale/sums.steps"], apart := false, laid := [("gunwale/sums.steps", laid_gunwale_sums_steps)] }
def WalFullSaid : Prop := walFullRow.holds Tryd.pinned (OpenSpec.ofChange walFullSpec)

/-- ITS FALSE NEIGHBOUR: 'it returns false'. Refute it at one input. -/
def walFullWrong : ChangeSpec := { name := "walFull", fn := fun _ => fun
  | [d1, d2] => { results := [.lit (.bool false)], args := [d1, d2] }
  | _ => none }
def WalFullWrongFalsely : Prop := walFullRow.holds Tryd.pinned (OpenSpec.ofChange walFullWrong)

/-- 'gunwalelaw14.WalTwice': WHATEVER THE INPUT: true; the input reads as it did. -/
def walTwiceSpec : ChangeSpec := { name := "walTwice", fn := fun _ => fun
  | [d1, d2, d3] => { results := [.lit (.bool true)], args := [d1, d2, d3] }
  | _ => none }
def walTwiceRow : OpenClaim := { program := "ytjhblbipjljojaadoor", sum := "5b43ea14f79eca206283487fedc951847b547df0aad6345bb63bf4791c69cc72", func := "gunwale/gunwalelaw14.WalTwice", spec := "walTwice", inPlace := ["internal/abi.NoEscape"], unfollowed := true, recurses := true, named := ["gunwale/sums.steps"], apart := false, laid := [("gunwale/sums.steps", laid_gunwale_sums_steps)] }
def WalTwiceSaid : Prop := walTwiceRow.holds Tryd.pinned (OpenSpec.ofChange walTwiceSpec)

/-- ITS FALSE NEIGHBOUR: 'it returns false'. Refute it at one input. -/
def walTwiceWrong : ChangeSpec := { name := "walTwice", fn := fun _ => fun
  | [d1, d2, d3] => { results := [.lit (.bool false)], args := [d1, d2, d3] }
  | _ => none }
def WalTwiceWrongFalsely : Prop := walTwiceRow.holds Tryd.pinned (OpenSpec.ofChange walTwiceWrong)

/-- 'gunwalelaw14.WalNumbers': WHATEVER THE INPUT: true; the input reads as it did. -/
def walNumbersSpec : ChangeSpec := { name := "walNumbers", fn := fun _ => fun
  | [d1, d2] => { results := [.lit (.bool true)], args := [d1, d2] }
  | _ => none }
def walNumbersRow : OpenClaim := { program := "ytjhblbipjljojaadoor", sum := "5b43ea14f79eca206283487fedc951847b547df0aad6345bb63bf4791c69cc72", func := "gunwale/gunwalelaw14.WalNumbers", spec := "walNumbers", inPlace := ["internal/abi.NoEscape"], unfollowed := true, recurses := true, named := ["gunwale/sums.steps"], apart := false, laid := [("gunwale/sums.steps", laid_gunwale_sums_steps)] }
def WalNumbersSaid : Prop := walNumbersRow.holds Tryd.pinned (OpenSpec.ofChange walNumbersSpec)

/-- ITS FALSE NEIGHBOUR: 'it returns false'. Refute it at one input. -/
def walNumbersWrong : ChangeSpec := { name := "walNumbers", fn := fun _ => fun
  | [d1, d2] => { results := [.lit (.bool false)], args := [d1, d2] }
  | _ => none }
def WalNumbersWrongFalsely : Prop := walNumbersRow.holds Tryd.pinned (OpenSpec.ofChange walNumbersWrong)

/- THE SECOND FORM. 'bulk': how many values and letters a reading holds, each counted each time it is reached (what is shared counts as often as it is met; a slice's spare places count too). A statement '..UptoSaid' is the law's where the arguments, and the package variables that the reading takes, are together of bulk at most 1048576: NARROWER than '..Said'. Prove '..Said' where nothing that the law and all that it calls make is longer than what came in: it says more and counts as full. Else prove '..UptoSaid'. A law counts once. -/
mutual
def uptoBulk {H : Type} : DataW H → Nat
  | .lit (.string bytes) => bytes.length + 1
  | .lit _ => 1
  | .nil => 1
  | .ptr d => uptoBulk d + 1
  | .slice elems spare => uptoBulkAll elems + uptoBulkAll spare + 1
  | .agg parts => uptoBulkAll parts + 1
  | .iface _ d => uptoBulk d + 1
  | .map entries => uptoBulkEntries entries + 1
  | .held _ => 1
def uptoBulkAll {H : Type} : List (DataW H) → Nat
  | [] => 0
  | d :: r => uptoBulk d + uptoBulkAll r
def uptoBulkEntries {H : Type} : List (Lit × DataW H) → Nat
  | [] => 0
  | x :: r => uptoBulkEntry x + uptoBulkEntries r
def uptoBulkEntry {H : Type} : Lit × DataW H → Nat
  | (.string bytes, d) => bytes.length + uptoBulk d + 1
  | (_, d) => uptoBulk d + 1
 end
def uptoSmall : (H : Type) → List (DataW H) → Bool := fun _ ds => decide (uptoBulkAll ds ≤ 1048576)
def OpenSpec.upto (s : _root_.Go.ChangeSpec) : _root_.Go.OpenSpec := { _root_.Go.OpenSpec.ofChange s with cond := some uptoSmall }

/-- 'gunwalelaw14.WalTells', WHERE WHAT IT READS IS OF BULK AT MOST 1048576: true; the input reads as it did. -/
def walTellsUptoRow : OpenClaim := { program := "ytjhblbipjljojaadoor", sum := "5b43ea14f79eca206283487fedc951847b547df0aad6345bb63bf4791c69cc72", func := "gunwale/gunwalelaw14.WalTells", spec := "walTells", inPlace := ["internal/abi.NoEscape"], unfollowed := true, recurses := true, named := ["gunwale/sums.steps"], apart := false, laid := [("gunwale/sums.steps", laid_gunwale_sums_steps)], narrowed := true }
def WalTellsUptoSaid : Prop := walTellsUptoRow.holds Tryd.pinned (OpenSpec.upto walTellsSpec)

/-- 'gunwalelaw14.WalKeeps', WHERE WHAT IT READS IS OF BULK AT MOST 1048576: true; the input reads as it did. -/
def walKeepsUptoRow : OpenClaim := { program := "ytjhblbipjljojaadoor", sum := "5b43ea14f79eca206283487fedc951847b547df0aad6345bb63bf4791c69cc72", func := "gunwale/gunwalelaw14.WalKeeps", spec := "walKeeps", inPlace := ["internal/abi.NoEscape"], unfollowed := true, recurses := true, named := ["gunwale/sums.steps"], apart := false, laid := [("gunwale/sums.steps", laid_gunwale_sums_steps)], narrowed := true }
def WalKeepsUptoSaid : Prop := walKeepsUptoRow.holds Tryd.pinned (OpenSpec.upto walKeepsSpec)

/-- 'gunwalelaw14.WalSyncs', WHERE WHAT IT READS IS OF BULK AT MOST 1048576: true; the input reads as it did. -/
def walSyncsUptoRow : OpenClaim := { program := "ytjhblbipjljojaadoor", sum := "5b43ea14f79eca206283487fedc951847b547df0aad6345bb63bf4791c69cc72", func := "gunwale/gunwalelaw14.WalSyncs", spec := "walSyncs", inPlace := ["internal/abi.NoEscape"], unfollowed := true, recurses := true, named := ["gunwale/sums.steps"], apart := false, laid := [("gunwale/sums.steps", laid_gunwale_sums_steps)], narrowed := true }
def WalSyncsUptoSaid : Prop := walSyncsUptoRow.holds Tryd.pinned (OpenSpec.upto walSyncsSpec)

/-- 'gunwalelaw14.WalFull', WHERE WHAT IT READS IS OF BULK AT MOST 1048576: true; the input reads as it did. -/
def walFullUptoRow : OpenClaim := { program := "ytjhblbipjljojaadoor", sum := "5b43ea14f79eca206283487fedc951847b547df0aad6345bb63bf4791c69cc72", func := "gunwale/gunwalelaw14.WalFull", spec := "walFull", inPlace := ["internal/abi.NoEscape"], unfollowed := true, recurses := true, named := ["gunwale/sums.steps"], apart := false, laid := [("gunwale/sums.steps", laid_gunwale_sums_steps)], narrowed := true }
def WalFullUptoSaid : Prop := walFullUptoRow.holds Tryd.pinned (OpenSpec.upto walFullSpec)

/-- 'gunwalelaw14.WalTwice', WHERE WHAT IT READS IS OF BULK AT MOST 1048576: true; the input reads as it did. -/
def walTwiceUptoRow : OpenClaim := { program := "ytjhblbipjljojaadoor", sum := "5b43ea14f79eca206283487fedc951847b547df0aad6345bb63bf4791c69cc72", func := "gunwale/gunwalelaw14.WalTwice", spec := "walTwice", inPlace := ["internal/abi.NoEscape"], unfollowed := true, recurses := true, named := ["gunwale/sums.steps"], apart := false, laid := [("gunwale/sums.steps", laid_gunwale_sums_steps)], narrowed := true }
def WalTwiceUptoSaid : Prop := walTwiceUptoRow.holds Tryd.pinned (OpenSpec.upto walTwiceSpec)

/-- 'gunwalelaw14.WalNumbers', WHERE WHAT IT READS IS OF BULK AT MOST 1048576: true; the input reads as it did. -/
def walNumbersUptoRow : OpenClaim := { program := "ytjhblbipjljojaadoor", sum := "5b43ea14f79eca206283487fedc951847b547df0aad6345bb63bf4791c69cc72", func := "gunwale/gunwalelaw14.WalNumbers", spec := "walNumbers", inPlace := ["internal/abi.NoEscape"], unfollowed := true, recurses := true, named := ["gunwale/sums.steps"], apart := false, laid := [("gunwale/sums.steps", laid_gunwale_sums_steps)], narrowed := true }
def WalNumbersUptoSaid : Prop := walNumbersUptoRow.holds Tryd.pinned (OpenSpec.upto walNumbersSpec)

end Rows
end Go.Proofs.YtjhblbipjljojaaDoor
