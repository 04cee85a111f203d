/-
  NARROWER THAN 'FOR EVERY INPUT', by the rows' own cells (each row's printed sentence says how): RecTells: laid · RecBack: laid · RecTorn: laid · RecCuts: laid · RecSizes: laid · RecAll: laid.
  DERIVED. THE GIVEN ROWS OF THIS SEAT. 6 by the template 'for every input the law returns true; each argument reads behind the call as it read before'; 0 by the template 'total and deterministic' (their statements: YtkempcjemeipnaaDoorTotals.lean).
  GIVEN WITH THE SEED: the statements are not yours to turn. If you find one false, say at which input.
  Laid BY PROGRAM, IN A SANDBOX (cutbox-rows.mjs): the forced cells as the released guide's own fill.sh prints them over the translation fdf670e1db307ea5… (all of the seat's roots in one cut). By AI agents, Wed Nov 11 2026. No macro, syntax, notation, axiom, sorry.
-/
import Derived.Test.YtkempcjemeipnaaDoorChecked
import GoSem.Claim
import GoSem.ClaimJoined
import GoSem.ClaimMapViews
import Derived.JoinedTies
import Derived.KernelRfl
namespace Go.Proofs.YtkempcjemeipnaaDoor
/- THE CELL 'sum', in the pinned program and in every row, IS THE sha256 OF THE DUMP (.gsa) THAT YtkempcjemeipnaaDoorProg.lean LOADS. Nothing in Lean hashes anything: it is a label: what it is worth is what the hold of that sum in a sandbox is worth. -/
noncomputable def Tryd.pinned : Pinned := { name := "ytkempcjemeipnaadoor", sum := "fdf670e1db307ea5f0caa4c5eafd06d4620b0017adb91b46a717f99341a0517a", checked := Tryd.checked }
namespace Rows
def none {H : Type} : Left H := { results := [], args := [] }

/- WHAT THE LISTED PACKAGE-LEVEL VARIABLES READ AS WHEN THE CALL BEGINS. Each datum BY PROGRAM (the guide's laid-datum.mjs) off the statement by which the dump's own 'gosem.cut.vars' lays the variable. In a bare row this is a premise. The card (YtkempcjemeipnaaDoorCards.lean) ties it to the program's text. -/
def laid_gunwale_sums_steps {H : Type} : DataW H := .agg [.lit (.int .u32 0), .lit (.int .u32 79764919)]

/-- 'gunwalelaw13.RecTells': WHATEVER THE INPUT: true; the input reads as it did. -/
def recTellsSpec : ChangeSpec := { name := "recTells", fn := fun _ => fun
  | [d1, d2, d3] => { results := [.lit (.bool true)], args := [d1, d2, d3] }
  | _ => none }
def recTellsRow : OpenClaim := { program := "ytkempcjemeipnaadoor", sum := "fdf670e1db307ea5f0caa4c5eafd06d4620b0017adb91b46a717f99341a0517a", func := "gunwale/gunwalelaw13.RecTells", spec := "recTells", unfollowed := true, recurses := true, named := ["gunwale/sums.steps"], apart := false, laid := [("gunwale/sums.steps", laid_gunwale_sums_steps)] }
def RecTellsSaid : Prop := recTellsRow.holds Tryd.pinned (OpenSpec.ofChange recTellsSpec)

/-- ITS FALSE NEIGHBOUR: 'it returns false'. Refute it at one input. -/
def recTellsWrong : ChangeSpec := { name := "recTells", fn := fun _ => fun
  | [d1, d2, d3] => { results := [.lit (.bool false)], args := [d1, d2, d3] }
  | _ => none }
def RecTellsWrongFalsely : Prop := recTellsRow.holds Tryd.pinned (OpenSpec.ofChange recTellsWrong)

/-- 'gunwalelaw13.RecBack': WHATEVER THE INPUT: true; the input reads as it did. -/
def recBackSpec : ChangeSpec := { name := "recBack", fn := fun _ => fun
  | [d1, d2, d3] => { results := [.lit (.bool true)], args := [d1, d2, d3] }
  | _ => none }
def recBackRow : OpenClaim := { program := "ytkempcjemeipnaadoor", sum := "fdf670e1db307ea5f0caa4c5eafd06d4620b0017adb91b46a717f99341a0517a", func := "gunwale/gunwalelaw13.RecBack", spec := "recBack", unfollowed := true, recurses := true, named := ["gunwale/sums.steps"], apart := false, laid := [("gunwale/sums.steps", laid_gunwale_sums_steps)] }
def RecBackSaid : Prop := recBackRow.holds Tryd.pinned (OpenSpec.ofChange recBackSpec)

/-- ITS FALSE NEIGHBOUR: 'it returns false'. Refute it at one input. -/
def recBackWrong : ChangeSpec := { name := "recBack", fn := fun _ => fun
  | [d1, d2, d3] => { results := [.lit (.bool false)], args := [d1, d2, d3] }
  | _ => none }
def RecBackWrongFalsely : Prop := recBackRow.holds Tryd.pinned (OpenSpec.ofChange recBackWrong)

/-- 'gunwalelaw13.RecTorn': WHATEVER THE INPUT: true; the input reads as it did. -/
def recTornSpec : ChangeSpec := { name := "recTorn", fn := fun _ => fun
  | [d1, d2, d3] => { results := [.lit (.bool true)], args := [d1, d2, d3] }
  | _ => none }
def recTornRow : OpenClaim := { program := "ytkempcjemeipnaadoor", sum := "fdf670e1db307ea5f0caa4c5eafd06d4620b0017adb91b46a717f99341a0517a", func := "gunwale/gunwalelaw13.RecTorn", spec := "recTorn", unfollowed := true, recurses := true, named := ["gunwale/sums.steps"], apart := false, laid := [("gunwale/sums.steps", laid_gunwale_sums_steps)] }
def RecTornSaid : Prop := recTornRow.holds Tryd.pinned (OpenSpec.ofChange recTornSpec)

/-- ITS FALSE NEIGHBOUR: 'it returns false'. Refute it at one input. -/
def recTornWrong : ChangeSpec := { name := "recTorn", fn := fun _ => fun
  | [d1, d2, d3] => { results := [.lit (.bool false)], args := [d1, d2, d3] }
  | _ => none }
def RecTornWrongFalsely : Prop := recTornRow.holds Tryd.pinned (OpenSpec.ofChange recTornWrong)

/-- 'gunwalelaw13.RecCuts': WHATEVER THE INPUT: true; the input reads as it did. -/
def recCutsSpec : ChangeSpec := { name := "recCuts", fn := fun _ => fun
  | [d1, d2, d3, d4] => { results := [.lit (.bool true)], args := [d1, d2, d3, d4] }
  | _ => none }
def recCutsRow : OpenClaim := { program := "ytkempcjemeipnaadoor", sum := "fdf670e1db307ea5f0caa4c5eafd06d4620b0017adb91b46a717f99341a0517a", func := "gunwale/gunwalelaw13.RecCuts", spec := "recCuts", unfollowed := true, recurses := true, named := ["gunwale/sums.steps"], apart := false, laid := [("gunwale/sums.steps", laid_gunwale_sums_steps)] }
def RecCutsSaid : Prop := recCutsRow.holds Tryd.pinned (OpenSpec.ofChange recCutsSpec)

/-- ITS FALSE NEIGHBOUR: 'it returns false'. Refute it at one input. -/
def recCutsWrong : ChangeSpec := { name := "recCuts", fn := fun _ => fun
  | [d1, d2, d3, d4] => { results := [.lit (.bool false)], args := [d1, d2, d3, d4] }
  | _ => none }
def RecCutsWrongFalsely : Prop := recCutsRow.holds Tryd.pinned (OpenSpec.ofChange recCutsWrong)

/-- 'gunwalelaw13.RecSizes': WHATEVER THE INPUT: true; the input reads as it did. -/
def recSizesSpec : ChangeSpec := { name := "recSizes", fn := fun _ => fun
  | [d1, d2] => { results := [.lit (.bool true)], args := [d1, d2] }
  | _ => none }
def recSizesRow : OpenClaim := { program := "ytkempcjemeipnaadoor", sum := "fdf670e1db307ea5f0caa4c5eafd06d4620b0017adb91b46a717f99341a0517a", func := "gunwale/gunwalelaw13.RecSizes", spec := "recSizes", unfollowed := true, recurses := true, named := ["gunwale/sums.steps"], apart := false, laid := [("gunwale/sums.steps", laid_gunwale_sums_steps)] }
def RecSizesSaid : Prop := recSizesRow.holds Tryd.pinned (OpenSpec.ofChange recSizesSpec)

/-- ITS FALSE NEIGHBOUR: 'it returns false'. Refute it at one input. -/
def recSizesWrong : ChangeSpec := { name := "recSizes", fn := fun _ => fun
  | [d1, d2] => { results := [.lit (.bool false)], args := [d1, d2] }
  | _ => none }
def RecSizesWrongFalsely : Prop := recSizesRow.holds Tryd.pinned (OpenSpec.ofChange recSizesWrong)

/-- 'gunwalelaw13.RecAll': WHATEVER THE INPUT: true; the input reads as it did. -/
def recAllSpec : ChangeSpec := { name := "recAll", fn := fun _ => fun
  | [d1, d2] => { results := [.lit (.bool true)], args := [d1, d2] }
  | _ => none }
def recAllRow : OpenClaim := { program := "ytkempcjemeipnaadoor", sum := "fdf670e1db307ea5f0caa4c5eafd06d4620b0017adb91b46a717f99341a0517a", func := "gunwale/gunwalelaw13.RecAll", spec := "recAll", unfollowed := true, recurses := true, named := ["gunwale/sums.steps"], apart := false, laid := [("gunwale/sums.steps", laid_gunwale_sums_steps)] }
def RecAllSaid : Prop := recAllRow.holds Tryd.pinned (OpenSpec.ofChange recAllSpec)

/-- ITS FALSE NEIGHBOUR: 'it returns false'. Refute it at one input. -/
def recAllWrong : ChangeSpec := { name := "recAll", fn := fun _ => fun
  | [d1, d2] => { results := [.lit (.bool false)], args := [d1, d2] }
  | _ => none }
def RecAllWrongFalsely : Prop := recAllRow.holds Tryd.pinned (OpenSpec.ofChange recAllWrong)

/- THE SECOND FORM. 'bulk': how many values and letters a reading holds, each counted each time it is reached (what is shared counts as often as it is met; a slice's spare places count too). A statement '..UptoSaid' is the law's where the arguments, and the package variables that the reading takes, are together of bulk at most 1048576: NARROWER than '..Said'. Prove '..Said' where nothing that the law and all that it calls make is longer than what came in: it says more and counts as full. Else prove '..UptoSaid'. A law counts once. -/
mutual
def uptoBulk {H : Type} : DataW H → Nat
  | .lit (.string bytes) => bytes.length + 1
  | .lit _ => 1
  | .nil => 1
  | .ptr d => uptoBulk d + 1
  | .slice elems spare => uptoBulkAll elems + uptoBulkAll spare + 1
  | .agg parts => uptoBulkAll parts + 1
  | .iface _ d => uptoBulk d + 1
  | .map entries => uptoBulkEntries entries + 1
  | .held _ => 1
def uptoBulkAll {H : Type} : List (DataW H) → Nat
  | [] => 0
  | d :: r => uptoBulk d + uptoBulkAll r
def uptoBulkEntries {H : Type} : List (Lit × DataW H) → Nat
  | [] => 0
  | x :: r => uptoBulkEntry x + uptoBulkEntries r
def uptoBulkEntry {H : Type} : Lit × DataW H → Nat
  | (.string bytes, d) => bytes.length + uptoBulk d + 1
  | (_, d) => uptoBulk d + 1
 end
def uptoSmall : (H : Type) → List (DataW H) → Bool := fun _ ds => decide (uptoBulkAll ds ≤ 1048576)
def OpenSpec.upto (s : _root_.Go.ChangeSpec) : _root_.Go.OpenSpec := { _root_.Go.OpenSpec.ofChange s with cond := some uptoSmall }

/-- 'gunwalelaw13.RecTells', WHERE WHAT IT READS IS OF BULK AT MOST 1048576: true; the input reads as it did. -/
def recTellsUptoRow : OpenClaim := { program := "ytkempcjemeipnaadoor", sum := "fdf670e1db307ea5f0caa4c5eafd06d4620b0017adb91b46a717f99341a0517a", func := "gunwale/gunwalelaw13.RecTells", spec := "recTells", unfollowed := true, recurses := true, named := ["gunwale/sums.steps"], apart := false, laid := [("gunwale/sums.steps", laid_gunwale_sums_steps)], narrowed := true }
def RecTellsUptoSaid : Prop := recTellsUptoRow.holds Tryd.pinned (OpenSpec.upto recTellsSpec)

/-- 'gunwalelaw13.RecBack', WHERE WHAT IT READS IS OF BULK AT MOST 1048576: true; the input reads as it did. -/
def recBackUptoRow : OpenClaim := { program := "ytkempcjemeipnaadoor", sum := "fdf670e1db307ea5f0caa4c5eafd06d4620b0017adb91b46a717f99341a0517a", func := "gunwale/gunwalelaw13.RecBack", spec := "recBack", unfollowed := true, recurses := true, named := ["gunwale/sums.steps"], apart := false, laid := [("gunwale/sums.steps", laid_gunwale_sums_steps)], narrowed := true }
def RecBackUptoSaid : Prop := recBackUptoRow.holds Tryd.pinned (OpenSpec.upto recBackSpec)

/-- 'gunwalelaw13.RecTorn', WHERE WHAT IT READS IS OF BULK AT MOST 1048576: true; the input reads as it did. -/
def recTornUptoRow : OpenClaim := { program := "ytkempcjemeipnaadoor", sum := "fdf670e1db307ea5f0caa4c5eafd06d4620b0017adb91b46a717f99341a0517a", func := "gunwale/gunwalelaw13.RecTorn", spec := "recTorn", unfollowed := true, recurses := true, named := ["gunwale/sums.steps"], apart := false, laid := [("gunwale/sums.steps", laid_gunwale_sums_steps)], narrowed := true }
def RecTornUptoSaid : Prop := recTornUptoRow.holds Tryd.pinned (OpenSpec.upto recTornSpec)

/-- 'gunwalelaw13.RecCuts', WHERE WHAT IT READS IS OF BULK AT MOST 1048576: true; the input reads as it did. -/
def recCutsUptoRow : OpenClaim := { program := "ytkempcjemeipnaadoor", sum := "fdf670e1db307ea5f0caa4c5eafd06d4620b0017adb91b46a717f99341a0517a", func := "gunwale/gunwalelaw13.RecCuts", spec := "recCuts", unfollowed := true, recurses := true, named := ["gunwale/sums.steps"], apart := false, laid := [("gunwale/sums.steps", laid_gunwale_sums_steps)], narrowed := true }
def RecCutsUptoSaid : Prop := recCutsUptoRow.holds Tryd.pinned (OpenSpec.upto recCutsSpec)

/-- 'gunwalelaw13.RecSizes', WHERE WHAT IT READS IS OF BULK AT MOST 1048576: true; the input reads as it did. -/
def recSizesUptoRow : OpenClaim := { program := "ytkempcjemeipnaadoor", sum := "fdf670e1db307ea5f0caa4c5eafd06d4620b0017adb91b46a717f99341a0517a", func := "gunwale/gunwalelaw13.RecSizes", spec := "recSizes", unfollowed := true, recurses := true, named := ["gunwale/sums.steps"], apart := false, laid := [("gunwale/sums.steps", laid_gunwale_sums_steps)], narrowed := true }
def RecSizesUptoSaid : Prop := recSizesUptoRow.holds Tryd.pinned (OpenSpec.upto recSizesSpec)

/-- 'gunwalelaw13.RecAll', WHERE WHAT IT READS IS OF BULK AT MOST 1048576: true; the input reads as it did. -/
def recAllUptoRow : OpenClaim := { program := "ytkempcjemeipnaadoor", sum := "fdf670e1db307ea5f0caa4c5eafd06d4620b0017adb91b46a717f99341a0517a", func := "gunwale/gunwalelaw13.RecAll", spec := "recAll", unfollowed := true, recurses := true, named := ["gunwale/sums.steps"], apart := false, laid := [("gunwale/sums.steps", laid_gunwale_sums_steps)], narrowed := true }
def RecAllUptoSaid : Prop := recAllUptoRow.holds Tryd.pinned (OpenSpec.upto recAllSpec)

end Rows
end Go.Proofs.YtkempcjemeipnaaDoor
