/-
  NARROWER THAN 'FOR EVERY INPUT', by the rows' own cells (each row's printed sentence says how): SumsTell: laid · SumsPart: laid · SumsBack: laid · SumsBurst: laid · SumsThree: laid.
  DERIVED. THE GIVEN ROWS OF THIS SEAT. 5 by the template 'for every input the law returns true; each argument reads behind the call as it read before'; 0 by the template 'total and deterministic' (their statements: YtcijaehnlemidaaDoorTotals.lean).
  GIVEN WITH THE SEED: the statements are not yours to turn. If you find one false, say at which input.
  Laid BY PROGRAM, IN A SANDBOX (cutbox-rows.mjs): the forced cells as the released guide's own fill.sh prints them over the translation 7d908c8a60d53088… (all of the seat's roots in one cut). By AI agents, Wed Nov 11 2026. No macro, syntax, notation, axiom, sorry.
-/
import Derived.Test.YtcijaehnlemidaaDoorChecked
import GoSem.Claim
import GoSem.ClaimJoined
import GoSem.ClaimMapViews
import Derived.JoinedTies
import Derived.KernelRfl
namespace Go.Proofs.YtcijaehnlemidaaDoor
/- THE CELL 'sum', in the pinned program and in every row, IS THE sha256 OF THE DUMP (.gsa) THAT YtcijaehnlemidaaDoorProg.lean LOADS. Nothing in Lean hashes anything: it is a label: what it is worth is what the hold of that sum in a sandbox is worth. -/
noncomputable def Tryd.pinned : Pinned := { name := "ytcijaehnlemidaadoor", sum := "7d908c8a60d53088b14f5a16eb1329e494075eb83e62c90ce83fa6a521e0d1b0", checked := Tryd.checked }
namespace Rows
def none {H : Type} : Left H := { results := [], args := [] }

/- WHAT THE LISTED PACKAGE-LEVEL VARIABLES READ AS WHEN THE CALL BEGINS. Each datum BY PROGRAM (the guide's laid-datum.mjs) off the statement by which the dump's own 'gosem.cut.vars' lays the variable. In a bare row this is a premise. The card (YtcijaehnlemidaaDoorCards.lean) ties it to the program's text. -/
def laid_gunwale_sums_steps {H : Type} : DataW H := .agg [.lit (.int .u32 0), .lit (.int .u32 79764919)]

/-- 'gunwalelaw03.SumsTell': WHATEVER THE INPUT: true; the input reads as it did. -/
def sumsTellSpec : ChangeSpec := { name := "sumsTell", fn := fun _ => fun
  | [d1, d2] => { results := [.lit (.bool true)], args := [d1, d2] }
  | _ => none }
def sumsTellRow : OpenClaim := { program := "ytcijaehnlemidaadoor", sum := "7d908c8a60d53088b14f5a16eb1329e494075eb83e62c90ce83fa6a521e0d1b0", func := "gunwale/gunwalelaw03.SumsTell", spec := "sumsTell", named := ["gunwale/sums.steps"], apart := false, laid := [("gunwale/sums.steps", laid_gunwale_sums_steps)] }
def SumsTellSaid : Prop := sumsTellRow.holds Tryd.pinned (OpenSpec.ofChange sumsTellSpec)

/-- ITS FALSE NEIGHBOUR: 'it returns false'. Refute it at one input. -/
def sumsTellWrong : ChangeSpec := { name := "sumsTell", fn := fun _ => fun
  | [d1, d2] => { results := [.lit (.bool false)], args := [d1, d2] }
  | _ => none }
def SumsTellWrongFalsely : Prop := sumsTellRow.holds Tryd.pinned (OpenSpec.ofChange sumsTellWrong)

/-- 'gunwalelaw03.SumsPart': WHATEVER THE INPUT: true; the input reads as it did. -/
def sumsPartSpec : ChangeSpec := { name := "sumsPart", fn := fun _ => fun
  | [d1, d2, d3] => { results := [.lit (.bool true)], args := [d1, d2, d3] }
  | _ => none }
def sumsPartRow : OpenClaim := { program := "ytcijaehnlemidaadoor", sum := "7d908c8a60d53088b14f5a16eb1329e494075eb83e62c90ce83fa6a521e0d1b0", func := "gunwale/gunwalelaw03.SumsPart", spec := "sumsPart", named := ["gunwale/sums.steps"], apart := false, laid := [("gunwale/sums.steps", laid_gunwale_sums_steps)] }
def SumsPartSaid : Prop := sumsPartRow.holds Tryd.pinned (OpenSpec.ofChange sumsPartSpec)

/-- ITS FALSE NEIGHBOUR: 'it returns false'. Refute it at one input. -/
def sumsPartWrong : ChangeSpec := { name := "sumsPart", fn := fun _ => fun
  | [d1, d2, d3] => { results := [.lit (.bool false)], args := [d1, d2, d3] }
  | _ => none }
def SumsPartWrongFalsely : Prop := sumsPartRow.holds Tryd.pinned (OpenSpec.ofChange sumsPartWrong)

/-- 'gunwalelaw03.SumsBack': WHATEVER THE INPUT: true; the input reads as it did. -/
def sumsBackSpec : ChangeSpec := { name := "sumsBack", fn := fun _ => fun
  | [d] => { results := [.lit (.bool true)], args := [d] }
  | _ => none }
def sumsBackRow : OpenClaim := { program := "ytcijaehnlemidaadoor", sum := "7d908c8a60d53088b14f5a16eb1329e494075eb83e62c90ce83fa6a521e0d1b0", func := "gunwale/gunwalelaw03.SumsBack", spec := "sumsBack", named := ["gunwale/sums.steps"], apart := false, laid := [("gunwale/sums.steps", laid_gunwale_sums_steps)] }
def SumsBackSaid : Prop := sumsBackRow.holds Tryd.pinned (OpenSpec.ofChange sumsBackSpec)

/-- ITS FALSE NEIGHBOUR: 'it returns false'. Refute it at one input. -/
def sumsBackWrong : ChangeSpec := { name := "sumsBack", fn := fun _ => fun
  | [d] => { results := [.lit (.bool false)], args := [d] }
  | _ => none }
def SumsBackWrongFalsely : Prop := sumsBackRow.holds Tryd.pinned (OpenSpec.ofChange sumsBackWrong)

/-- 'gunwalelaw03.SumsBurst': WHATEVER THE INPUT: true; the input reads as it did. -/
def sumsBurstSpec : ChangeSpec := { name := "sumsBurst", fn := fun _ => fun
  | [d1, d2, d3] => { results := [.lit (.bool true)], args := [d1, d2, d3] }
  | _ => none }
def sumsBurstRow : OpenClaim := { program := "ytcijaehnlemidaadoor", sum := "7d908c8a60d53088b14f5a16eb1329e494075eb83e62c90ce83fa6a521e0d1b0", func := "gunwale/gunwalelaw03.SumsBurst", spec := "sumsBurst", named := ["gunwale/sums.steps"], apart := false, laid := [("gunwale/sums.steps", laid_gunwale_sums_steps)] }
def SumsBurstSaid : Prop := sumsBurstRow.holds Tryd.pinned (OpenSpec.ofChange sumsBurstSpec)

/-- ITS FALSE NEIGHBOUR: 'it returns false'. Refute it at one input. -/
def sumsBurstWrong : ChangeSpec := { name := "sumsBurst", fn := fun _ => fun
  | [d1, d2, d3] => { results := [.lit (.bool false)], args := [d1, d2, d3] }
  | _ => none }
def SumsBurstWrongFalsely : Prop := sumsBurstRow.holds Tryd.pinned (OpenSpec.ofChange sumsBurstWrong)

/-- 'gunwalelaw03.SumsThree': WHATEVER THE INPUT: true; the input reads as it did. -/
def sumsThreeSpec : ChangeSpec := { name := "sumsThree", fn := fun _ => fun
  | [d1, d2, d3] => { results := [.lit (.bool true)], args := [d1, d2, d3] }
  | _ => none }
def sumsThreeRow : OpenClaim := { program := "ytcijaehnlemidaadoor", sum := "7d908c8a60d53088b14f5a16eb1329e494075eb83e62c90ce83fa6a521e0d1b0", func := "gunwale/gunwalelaw03.SumsThree", spec := "sumsThree", named := ["gunwale/sums.steps"], apart := false, laid := [("gunwale/sums.steps", laid_gunwale_sums_steps)] }
def SumsThreeSaid : Prop := sumsThreeRow.holds Tryd.pinned (OpenSpec.ofChange sumsThreeSpec)

/-- ITS FALSE NEIGHBOUR: 'it returns false'. Refute it at one input. -/
def sumsThreeWrong : ChangeSpec := { name := "sumsThree", fn := fun _ => fun
  | [d1, d2, d3] => { results := [.lit (.bool false)], args := [d1, d2, d3] }
  | _ => none }
def SumsThreeWrongFalsely : Prop := sumsThreeRow.holds Tryd.pinned (OpenSpec.ofChange sumsThreeWrong)

/- THE SECOND FORM. 'bulk': how many values and letters a reading holds, each counted each time it is reached (what is shared counts as often as it is met; a slice's spare places count too). A statement '..UptoSaid' is the law's where the arguments, and the package variables that the reading takes, are together of bulk at most 1048576: NARROWER than '..Said'. Prove '..Said' where nothing that the law and all that it calls make is longer than what came in: it says more and counts as full. Else prove '..UptoSaid'. A law counts once. -/
mutual
def uptoBulk {H : Type} : DataW H → Nat
  | .lit (.string bytes) => bytes.length + 1
  | .lit _ => 1
  | .nil => 1
  | .ptr d => uptoBulk d + 1
  | .slice elems spare => uptoBulkAll elems + uptoBulkAll spare + 1
  | .agg parts => uptoBulkAll parts + 1
  | .iface _ d => uptoBulk d + 1
  | .map entries => uptoBulkEntries entries + 1
  | .held _ => 1
def uptoBulkAll {H : Type} : List (DataW H) → Nat
  | [] => 0
  | d :: r => uptoBulk d + uptoBulkAll r
def uptoBulkEntries {H : Type} : List (Lit × DataW H) → Nat
  | [] => 0
  | x :: r => uptoBulkEntry x + uptoBulkEntries r
def uptoBulkEntry {H : Type} : Lit × DataW H → Nat
  | (.string bytes, d) => bytes.length + uptoBulk d + 1
  | (_, d) => uptoBulk d + 1
 end
def uptoSmall : (H : Type) → List (DataW H) → Bool := fun _ ds => decide (uptoBulkAll ds ≤ 1048576)
def OpenSpec.upto (s : _root_.Go.ChangeSpec) : _root_.Go.OpenSpec := { _root_.Go.OpenSpec.ofChange s with cond := some uptoSmall }

/-- 'gunwalelaw03.SumsTell', WHERE WHAT IT READS IS OF BULK AT MOST 1048576: true; the input reads as it did. -/
def sumsTellUptoRow : OpenClaim := { program := "ytcijaehnlemidaadoor", sum := "7d908c8a60d53088b14f5a16eb1329e494075eb83e62c90ce83fa6a521e0d1b0", func := "gunwale/gunwalelaw03.SumsTell", spec := "sumsTell", named := ["gunwale/sums.steps"], apart := false, laid := [("gunwale/sums.steps", laid_gunwale_sums_steps)], narrowed := true }
def SumsTellUptoSaid : Prop := sumsTellUptoRow.holds Tryd.pinned (OpenSpec.upto sumsTellSpec)

/-- 'gunwalelaw03.SumsPart', WHERE WHAT IT READS IS OF BULK AT MOST 1048576: true; the input reads as it did. -/
def sumsPartUptoRow : OpenClaim := { program := "ytcijaehnlemidaadoor", sum := "7d908c8a60d53088b14f5a16eb1329e494075eb83e62c90ce83fa6a521e0d1b0", func := "gunwale/gunwalelaw03.SumsPart", spec := "sumsPart", named := ["gunwale/sums.steps"], apart := false, laid := [("gunwale/sums.steps", laid_gunwale_sums_steps)], narrowed := true }
def SumsPartUptoSaid : Prop := sumsPartUptoRow.holds Tryd.pinned (OpenSpec.upto sumsPartSpec)

/-- 'gunwalelaw03.SumsBack', WHERE WHAT IT READS IS OF BULK AT MOST 1048576: true; the input reads as it did. -/
def sumsBackUptoRow : OpenClaim := { program := "ytcijaehnlemidaadoor", sum := "7d908c8a60d53088b14f5a16eb1329e494075eb83e62c90ce83fa6a521e0d1b0", func := "gunwale/gunwalelaw03.SumsBack", spec := "sumsBack", named := ["gunwale/sums.steps"], apart := false, laid := [("gunwale/sums.steps", laid_gunwale_sums_steps)], narrowed := true }
def SumsBackUptoSaid : Prop := sumsBackUptoRow.holds Tryd.pinned (OpenSpec.upto sumsBackSpec)

/-- 'gunwalelaw03.SumsBurst', WHERE WHAT IT READS IS OF BULK AT MOST 1048576: true; the input reads as it did. -/
def sumsBurstUptoRow : OpenClaim := { program := "ytcijaehnlemidaadoor", sum := "7d908c8a60d53088b14f5a16eb1329e494075eb83e62c90ce83fa6a521e0d1b0", func := "gunwale/gunwalelaw03.SumsBurst", spec := "sumsBurst", named := ["gunwale/sums.steps"], apart := false, laid := [("gunwale/sums.steps", laid_gunwale_sums_steps)], narrowed := true }
def SumsBurstUptoSaid : Prop := sumsBurstUptoRow.holds Tryd.pinned (OpenSpec.upto sumsBurstSpec)

/-- 'gunwalelaw03.SumsThree', WHERE WHAT IT READS IS OF BULK AT MOST 1048576: true; the input reads as it did. -/
def sumsThreeUptoRow : OpenClaim := { program := "ytcijaehnlemidaadoor", sum := "7d908c8a60d53088b14f5a16eb1329e494075eb83e62c90ce83fa6a521e0d1b0", func := "gunwale/gunwalelaw03.SumsThree", spec := "sumsThree", named := ["gunwale/sums.steps"], apart := false, laid := [("gunwale/sums.steps", laid_gunwale_sums_steps)], narrowed := true }
def SumsThreeUptoSaid : Prop := sumsThreeUptoRow.holds Tryd.pinned (OpenSpec.upto sumsThreeSpec)

end Rows
end Go.Proofs.YtcijaehnlemidaaDoor
