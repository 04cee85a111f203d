/-
  NARROWER THAN 'FOR EVERY INPUT', by the rows' own cells (each row's printed sentence says how): CallTells: laid · CallBack: laid · CallJoins: laid · CallApart: laid · CallMay: laid.
  DERIVED. THE GIVEN ROWS OF THIS SEAT. 5 by the template 'for every input the law returns true; each argument reads behind the call as it read before'; 0 by the template 'total and deterministic' (their statements: YtfmhkfijnflalaaDoorTotals.lean).
  GIVEN WITH THE SEED: the statements are not yours to turn. If you find one false, say at which input.
  Laid BY PROGRAM, IN A SANDBOX (cutbox-rows.mjs): the forced cells as the released guide's own fill.sh prints them over the translation a5adc0e91f4b845f… (all of the seat's roots in one cut). By AI agents, Wed Nov 11 2026. No macro, syntax, notation, axiom, sorry.
-/
import Derived.Test.YtfmhkfijnflalaaDoorChecked
import GoSem.PinnedTables
import GoSem.Claim
import GoSem.ClaimJoined
import GoSem.ClaimMapViews
import Derived.JoinedTies
import Derived.KernelRfl
namespace Go.Proofs.YtfmhkfijnflalaaDoor
/- THE CELL 'sum', in the pinned program and in every row, IS THE sha256 OF THE DUMP (.gsa) THAT YtfmhkfijnflalaaDoorProg.lean LOADS. Nothing in Lean hashes anything: it is a label: what it is worth is what the hold of that sum in a sandbox is worth. -/
noncomputable def Tryd.pinned : Pinned := { name := "ytfmhkfijnflalaadoor", sum := "a5adc0e91f4b845f30502fe69480389cb5f36e13976a81ed0f9bdb6c7593eafd", checked := Tryd.checked }
namespace Rows
def none {H : Type} : Left H := { results := [], args := [] }

/- WHAT THE LISTED PACKAGE-LEVEL VARIABLES READ AS WHEN THE CALL BEGINS. Each datum BY PROGRAM (the guide's laid-datum.mjs) off the statement by which the dump's own 'gosem.cut.vars' lays the variable. In a bare row this is a premise. The card (YtfmhkfijnflalaaDoorCards.lean) ties it to the program's text. -/
def laid_unicode_utf8_acceptRanges {H : Type} : DataW H := .agg [.agg [.lit (.int .u8 128), .lit (.int .u8 191)], .agg [.lit (.int .u8 160), .lit (.int .u8 191)], .agg [.lit (.int .u8 128), .lit (.int .u8 159)], .agg [.lit (.int .u8 144), .lit (.int .u8 191)], .agg [.lit (.int .u8 128), .lit (.int .u8 143)], .agg [.lit (.int .u8 0), .lit (.int .u8 0)], .agg [.lit (.int .u8 0), .lit (.int .u8 0)], .agg [.lit (.int .u8 0), .lit (.int .u8 0)], .agg [.lit (.int .u8 0), .lit (.int .u8 0)], .agg [.lit (.int .u8 0), .lit (.int .u8 0)], .agg [.lit (.int .u8 0), .lit (.int .u8 0)], .agg [.lit (.int .u8 0), .lit (.int .u8 0)], .agg [.lit (.int .u8 0), .lit (.int .u8 0)], .agg [.lit (.int .u8 0), .lit (.int .u8 0)], .agg [.lit (.int .u8 0), .lit (.int .u8 0)], .agg [.lit (.int .u8 0), .lit (.int .u8 0)]]
/-- One of Go's own tables, pinned by name: the form's constant. -/
def laid_unicode_utf8_first : DataW Unit := Go.Pinned.utf8First

/-- 'gunwalelaw18.CallTells': WHATEVER THE INPUT: true; the input reads as it did. -/
def callTellsSpec : ChangeSpec := { name := "callTells", fn := fun _ => fun
  | [d1, d2, d3] => { results := [.lit (.bool true)], args := [d1, d2, d3] }
  | _ => none }
def callTellsRow : OpenClaim := { program := "ytfmhkfijnflalaadoor", sum := "a5adc0e91f4b845f30502fe69480389cb5f36e13976a81ed0f9bdb6c7593eafd", func := "gunwale/gunwalelaw18.CallTells", spec := "callTells", inPlace := ["internal/bytealg.CountString", "internal/bytealg.IndexByteString", "internal/bytealg.IndexString", "internal/abi.NoEscape"], unfollowed := true, recurses := true, named := ["unicode/utf8.first", "unicode/utf8.acceptRanges", "internal/bytealg.MaxLen"], apart := false, laid := [("unicode/utf8.acceptRanges", laid_unicode_utf8_acceptRanges), ("unicode/utf8.first", laid_unicode_utf8_first)] }
def CallTellsSaid : Prop := callTellsRow.holds Tryd.pinned (OpenSpec.ofChange callTellsSpec)

/-- ITS FALSE NEIGHBOUR: 'it returns false'. Refute it at one input. -/
def callTellsWrong : ChangeSpec := { name := "callTells", fn := fun _ => fun
  | [d1, d2, d3] => { results := [.lit (.bool false)], args := [d1, d2, d3] }
  | _ => none }
def CallTellsWrongFalsely : Prop := callTellsRow.holds Tryd.pinned (OpenSpec.ofChange callTellsWrong)

/-- 'gunwalelaw18.CallBack': WHATEVER THE INPUT: true; the input reads as it did. -/
def callBackSpec : ChangeSpec := { name := "callBack", fn := fun _ => fun
  | [d1, d2] => { results := [.lit (.bool true)], args := [d1, d2] }
  | _ => none }
def callBackRow : OpenClaim := { program := "ytfmhkfijnflalaadoor", sum := "a5adc0e91f4b845f30502fe69480389cb5f36e13976a81ed0f9bdb6c7593eafd", func := "gunwale/gunwalelaw18.CallBack", spec := "callBack", inPlace := ["internal/bytealg.CountString", "internal/bytealg.IndexByteString", "internal/bytealg.IndexString", "internal/abi.NoEscape"], unfollowed := true, recurses := true, named := ["unicode/utf8.first", "unicode/utf8.acceptRanges", "internal/bytealg.MaxLen"], apart := false, laid := [("unicode/utf8.acceptRanges", laid_unicode_utf8_acceptRanges), ("unicode/utf8.first", laid_unicode_utf8_first)] }
def CallBackSaid : Prop := callBackRow.holds Tryd.pinned (OpenSpec.ofChange callBackSpec)

/-- ITS FALSE NEIGHBOUR: 'it returns false'. Refute it at one input. -/
def callBackWrong : ChangeSpec := { name := "callBack", fn := fun _ => fun
  | [d1, d2] => { results := [.lit (.bool false)], args := [d1, d2] }
  | _ => none }
def CallBackWrongFalsely : Prop := callBackRow.holds Tryd.pinned (OpenSpec.ofChange callBackWrong)

/-- 'gunwalelaw18.CallJoins': WHATEVER THE INPUT: true; the input reads as it did. -/
def callJoinsSpec : ChangeSpec := { name := "callJoins", fn := fun _ => fun
  | [d1, d2, d3] => { results := [.lit (.bool true)], args := [d1, d2, d3] }
  | _ => none }
def callJoinsRow : OpenClaim := { program := "ytfmhkfijnflalaadoor", sum := "a5adc0e91f4b845f30502fe69480389cb5f36e13976a81ed0f9bdb6c7593eafd", func := "gunwale/gunwalelaw18.CallJoins", spec := "callJoins", inPlace := ["internal/bytealg.CountString", "internal/bytealg.IndexByteString", "internal/bytealg.IndexString", "internal/abi.NoEscape"], unfollowed := true, recurses := true, named := ["unicode/utf8.first", "unicode/utf8.acceptRanges", "internal/bytealg.MaxLen"], apart := false, laid := [("unicode/utf8.acceptRanges", laid_unicode_utf8_acceptRanges), ("unicode/utf8.first", laid_unicode_utf8_first)] }
def CallJoinsSaid : Prop := callJoinsRow.holds Tryd.pinned (OpenSpec.ofChange callJoinsSpec)

/-- ITS FALSE NEIGHBOUR: 'it returns false'. Refute it at one input. -/
def callJoinsWrong : ChangeSpec := { name := "callJoins", fn := fun _ => fun
  | [d1, d2, d3] => { results := [.lit (.bool false)], args := [d1, d2, d3] }
  | _ => none }
def CallJoinsWrongFalsely : Prop := callJoinsRow.holds Tryd.pinned (OpenSpec.ofChange callJoinsWrong)

/-- 'gunwalelaw18.CallApart': WHATEVER THE INPUT: true; the input reads as it did. -/
def callApartSpec : ChangeSpec := { name := "callApart", fn := fun _ => fun
  | [d1, d2, d3] => { results := [.lit (.bool true)], args := [d1, d2, d3] }
  | _ => none }
def callApartRow : OpenClaim := { program := "ytfmhkfijnflalaadoor", sum := "a5adc0e91f4b845f30502fe69480389cb5f36e13976a81ed0f9bdb6c7593eafd", func := "gunwale/gunwalelaw18.CallApart", spec := "callApart", inPlace := ["internal/bytealg.CountString", "internal/bytealg.IndexByteString", "internal/bytealg.IndexString", "internal/abi.NoEscape"], unfollowed := true, recurses := true, named := ["unicode/utf8.first", "unicode/utf8.acceptRanges", "internal/bytealg.MaxLen"], apart := false, laid := [("unicode/utf8.acceptRanges", laid_unicode_utf8_acceptRanges), ("unicode/utf8.first", laid_unicode_utf8_first)] }
def CallApartSaid : Prop := callApartRow.holds Tryd.pinned (OpenSpec.ofChange callApartSpec)

/-- ITS FALSE NEIGHBOUR: 'it returns false'. Refute it at one input. -/
def callApartWrong : ChangeSpec := { name := "callApart", fn := fun _ => fun
  | [d1, d2, d3] => { results := [.lit (.bool false)], args := [d1, d2, d3] }
  | _ => none }
def CallApartWrongFalsely : Prop := callApartRow.holds Tryd.pinned (OpenSpec.ofChange callApartWrong)

/-- 'gunwalelaw18.CallMay': WHATEVER THE INPUT: true; the input reads as it did. -/
def callMaySpec : ChangeSpec := { name := "callMay", fn := fun _ => fun
  | [d] => { results := [.lit (.bool true)], args := [d] }
  | _ => none }
def callMayRow : OpenClaim := { program := "ytfmhkfijnflalaadoor", sum := "a5adc0e91f4b845f30502fe69480389cb5f36e13976a81ed0f9bdb6c7593eafd", func := "gunwale/gunwalelaw18.CallMay", spec := "callMay", inPlace := ["internal/bytealg.CountString", "internal/bytealg.IndexByteString", "internal/bytealg.IndexString", "internal/abi.NoEscape"], unfollowed := true, recurses := true, named := ["unicode/utf8.first", "unicode/utf8.acceptRanges", "internal/bytealg.MaxLen"], apart := false, laid := [("unicode/utf8.acceptRanges", laid_unicode_utf8_acceptRanges), ("unicode/utf8.first", laid_unicode_utf8_first)] }
def CallMaySaid : Prop := callMayRow.holds Tryd.pinned (OpenSpec.ofChange callMaySpec)

/-- ITS FALSE NEIGHBOUR: 'it returns false'. Refute it at one input. -/
def callMayWrong : ChangeSpec := { name := "callMay", fn := fun _ => fun
  | [d] => { results := [.lit (.bool false)], args := [d] }
  | _ => none }
def CallMayWrongFalsely : Prop := callMayRow.holds Tryd.pinned (OpenSpec.ofChange callMayWrong)

/- THE SECOND FORM. 'bulk': how many values and letters a reading holds, each counted each time it is reached (what is shared counts as often as it is met; a slice's spare places count too). A statement '..UptoSaid' is the law's where the arguments, and the package variables that the reading takes, are together of bulk at most 1048576: NARROWER than '..Said'. Prove '..Said' where nothing that the law and all that it calls make is longer than what came in: it says more and counts as full. Else prove '..UptoSaid'. A law counts once. -/
mutual
def uptoBulk {H : Type} : DataW H → Nat
  | .lit (.string bytes) => bytes.length + 1
  | .lit _ => 1
  | .nil => 1
  | .ptr d => uptoBulk d + 1
  | .slice elems spare => uptoBulkAll elems + uptoBulkAll spare + 1
  | .agg parts => uptoBulkAll parts + 1
  | .iface _ d => uptoBulk d + 1
  | .map entries => uptoBulkEntries entries + 1
  | .held _ => 1
def uptoBulkAll {H : Type} : List (DataW H) → Nat
  | [] => 0
  | d :: r => uptoBulk d + uptoBulkAll r
def uptoBulkEntries {H : Type} : List (Lit × DataW H) → Nat
  | [] => 0
  | x :: r => uptoBulkEntry x + uptoBulkEntries r
def uptoBulkEntry {H : Type} : Lit × DataW H → Nat
  | (.string bytes, d) => bytes.length + uptoBulk d + 1
  | (_, d) => uptoBulk d + 1
 end
def uptoSmall : (H : Type) → List (DataW H) → Bool := fun _ ds => decide (uptoBulkAll ds ≤ 1048576)
def OpenSpec.upto (s : _root_.Go.ChangeSpec) : _root_.Go.OpenSpec := { _root_.Go.OpenSpec.ofChange s with cond := some uptoSmall }

/-- 'gunwalelaw18.CallTells', WHERE WHAT IT READS IS OF BULK AT MOST 1048576: true; the input reads as it did. -/
def callTellsUptoRow : OpenClaim := { program := "ytfmhkfijnflalaadoor", sum := "a5adc0e91f4b845f30502fe69480389cb5f36e13976a81ed0f9bdb6c7593eafd", func := "gunwale/gunwalelaw18.CallTells", spec := "callTells", inPlace := ["internal/bytealg.CountString", "internal/bytealg.IndexByteString", "internal/bytealg.IndexString", "internal/abi.NoEscape"], unfollowed := true, recurses := true, named := ["unicode/utf8.first", "unicode/utf8.acceptRanges", "internal/bytealg.MaxLen"], apart := false, laid := [("unicode/utf8.acceptRanges", laid_unicode_utf8_acceptRanges), ("unicode/utf8.first", laid_unicode_utf8_first)], narrowed := true }
def CallTellsUptoSaid : Prop := callTellsUptoRow.holds Tryd.pinned (OpenSpec.upto callTellsSpec)

/-- 'gunwalelaw18.CallBack', WHERE WHAT IT READS IS OF BULK AT MOST 1048576: true; the input reads as it did. -/
def callBackUptoRow : OpenClaim := { program := "ytfmhkfijnflalaadoor", sum := "a5adc0e91f4b845f30502fe69480389cb5f36e13976a81ed0f9bdb6c7593eafd", func := "gunwale/gunwalelaw18.CallBack", spec := "callBack", inPlace := ["internal/bytealg.CountString", "internal/bytealg.IndexByteString", "internal/bytealg.IndexString", "internal/abi.NoEscape"], unfollowed := true, recurses := true, named := ["unicode/utf8.first", "unicode/utf8.acceptRanges", "internal/bytealg.MaxLen"], apart := false, laid := [("unicode/utf8.acceptRanges", laid_unicode_utf8_acceptRanges), ("unicode/utf8.first", laid_unicode_utf8_first)], narrowed := true }
def CallBackUptoSaid : Prop := callBackUptoRow.holds Tryd.pinned (OpenSpec.upto callBackSpec)

/-- 'gunwalelaw18.CallJoins', WHERE WHAT IT READS IS OF BULK AT MOST 1048576: true; the input reads as it did. -/
def callJoinsUptoRow : OpenClaim := { program := "ytfmhkfijnflalaadoor", sum := "a5adc0e91f4b845f30502fe69480389cb5f36e13976a81ed0f9bdb6c7593eafd", func := "gunwale/gunwalelaw18.CallJoins", spec := "callJoins", inPlace := ["internal/bytealg.CountString", "internal/bytealg.IndexByteString", "internal/bytealg.IndexString", "internal/abi.NoEscape"], unfollowed := true, recurses := true, named := ["unicode/utf8.first", "unicode/utf8.acceptRanges", "internal/bytealg.MaxLen"], apart := false, laid := [("unicode/utf8.acceptRanges", laid_unicode_utf8_acceptRanges), ("unicode/utf8.first", laid_unicode_utf8_first)], narrowed := true }
def CallJoinsUptoSaid : Prop := callJoinsUptoRow.holds Tryd.pinned (OpenSpec.upto callJoinsSpec)

/-- 'gunwalelaw18.CallApart', WHERE WHAT IT READS IS OF BULK AT MOST 1048576: true; the input reads as it did. -/
def callApartUptoRow : OpenClaim := { program := "ytfmhkfijnflalaadoor", sum := "a5adc0e91f4b845f30502fe69480389cb5f36e13976a81ed0f9bdb6c7593eafd", func := "gunwale/gunwalelaw18.CallApart", spec := "callApart", inPlace := ["internal/bytealg.CountString", "internal/bytealg.IndexByteString", "internal/bytealg.IndexString", "internal/abi.NoEscape"], unfollowed := true, recurses := true, named := ["unicode/utf8.first", "unicode/utf8.acceptRanges", "internal/bytealg.MaxLen"], apart := false, laid := [("unicode/utf8.acceptRanges", laid_unicode_utf8_acceptRanges), ("unicode/utf8.first", laid_unicode_utf8_first)], narrowed := true }
def CallApartUptoSaid : Prop := callApartUptoRow.holds Tryd.pinned (OpenSpec.upto callApartSpec)

/-- 'gunwalelaw18.CallMay', WHERE WHAT IT READS IS OF BULK AT MOST 1048576: true; the input reads as it did. -/
def callMayUptoRow : OpenClaim := { program := "ytfmhkfijnflalaadoor", sum := "a5adc0e91f4b845f30502fe69480389cb5f36e13976a81ed0f9bdb6c7593eafd", func := "gunwale/gunwalelaw18.CallMay", spec := "callMay", inPlace := ["internal/bytealg.CountString", "internal/bytealg.IndexByteString", "internal/bytealg.IndexString", "internal/abi.NoEscape"], unfollowed := true, recurses := true, named := ["unicode/utf8.first", "unicode/utf8.acceptRanges", "internal/bytealg.MaxLen"], apart := false, laid := [("unicode/utf8.acceptRanges", laid_unicode_utf8_acceptRanges), ("unicode/utf8.first", laid_unicode_utf8_first)], narrowed := true }
def CallMayUptoSaid : Prop := callMayUptoRow.holds Tryd.pinned (OpenSpec.upto callMaySpec)

end Rows
end Go.Proofs.YtfmhkfijnflalaaDoor
