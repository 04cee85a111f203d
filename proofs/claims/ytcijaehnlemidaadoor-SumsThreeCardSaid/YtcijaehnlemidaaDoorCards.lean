/-
  DERIVED. GIVEN WITH THE SEED: THE CARDS: each row of YtcijaehnlemidaaDoorRows.lean that lists a variable, with what it lists TIED to the program's text (the seventh form; the later family's looks); each row that meets fmt, with fmt's text TOLD by the authors' own Lean function (tested against real Go, not proved from fmt's source: count such statements apart). THE CARD IS WHAT COUNTS. Prove the row's statement (the work); the ties are given (YtcijaehnlemidaaDoorTie.lean); close each card by the builder's one call (the guide's Derived/Test/ToyasCard.lean, 'card_holds'). Laid BY PROGRAM, IN A SANDBOX (cutbox-door.mjs). By AI agents, Wed Nov 11 2026. No macro, syntax, notation, axiom, sorry.
-/
import Derived.Test.YtcijaehnlemidaaDoorRows
import GoSem.ClaimSeven
namespace Go.Proofs.YtcijaehnlemidaaDoor
namespace Rows

/-- THE TIED CARD OF 'gunwalelaw03.SumsTell'. -/
def sumsTellCard : Claim7 := { stood := { row := sumsTellRow, standIns := [], harness := (true, "c9faa32381dbcafc4b9a18bf7284bed760c30fcc318aa916331cc5346e7b795f"), looks := false }, kinds := [], alts := [], laidByText := true, laidKinds := [.data], laidTests := true, laidLooks := .later }
def SumsTellCardSaid : Prop := Claim7.holds Tryd.pinned (.plain (OpenSpec.ofChange sumsTellSpec)) sumsTellCard

/-- THE TIED CARD OF 'gunwalelaw03.SumsPart'. -/
def sumsPartCard : Claim7 := { stood := { row := sumsPartRow, standIns := [], harness := (true, "c9faa32381dbcafc4b9a18bf7284bed760c30fcc318aa916331cc5346e7b795f"), looks := false }, kinds := [], alts := [], laidByText := true, laidKinds := [.data], laidTests := true, laidLooks := .later }
def SumsPartCardSaid : Prop := Claim7.holds Tryd.pinned (.plain (OpenSpec.ofChange sumsPartSpec)) sumsPartCard

/-- THE TIED CARD OF 'gunwalelaw03.SumsBack'. -/
def sumsBackCard : Claim7 := { stood := { row := sumsBackRow, standIns := [], harness := (true, "c9faa32381dbcafc4b9a18bf7284bed760c30fcc318aa916331cc5346e7b795f"), looks := false }, kinds := [], alts := [], laidByText := true, laidKinds := [.data], laidTests := true, laidLooks := .later }
def SumsBackCardSaid : Prop := Claim7.holds Tryd.pinned (.plain (OpenSpec.ofChange sumsBackSpec)) sumsBackCard

/-- THE TIED CARD OF 'gunwalelaw03.SumsBurst'. -/
def sumsBurstCard : Claim7 := { stood := { row := sumsBurstRow, standIns := [], harness := (true, "c9faa32381dbcafc4b9a18bf7284bed760c30fcc318aa916331cc5346e7b795f"), looks := false }, kinds := [], alts := [], laidByText := true, laidKinds := [.data], laidTests := true, laidLooks := .later }
def SumsBurstCardSaid : Prop := Claim7.holds Tryd.pinned (.plain (OpenSpec.ofChange sumsBurstSpec)) sumsBurstCard

/-- THE TIED CARD OF 'gunwalelaw03.SumsThree'. -/
def sumsThreeCard : Claim7 := { stood := { row := sumsThreeRow, standIns := [], harness := (true, "c9faa32381dbcafc4b9a18bf7284bed760c30fcc318aa916331cc5346e7b795f"), looks := false }, kinds := [], alts := [], laidByText := true, laidKinds := [.data], laidTests := true, laidLooks := .later }
def SumsThreeCardSaid : Prop := Claim7.holds Tryd.pinned (.plain (OpenSpec.ofChange sumsThreeSpec)) sumsThreeCard

/-- THE SECOND FORM's CARD OF 'gunwalelaw03.SumsTell'. -/
def sumsTellUptoCard : Claim7 := { stood := { row := sumsTellUptoRow, standIns := [], harness := (true, "c9faa32381dbcafc4b9a18bf7284bed760c30fcc318aa916331cc5346e7b795f"), looks := false }, kinds := [], alts := [], laidByText := true, laidKinds := [.data], laidTests := true, laidLooks := .later }
def SumsTellUptoCardSaid : Prop := Claim7.holds Tryd.pinned (.plain (OpenSpec.upto sumsTellSpec)) sumsTellUptoCard

/-- THE SECOND FORM's CARD OF 'gunwalelaw03.SumsPart'. -/
def sumsPartUptoCard : Claim7 := { stood := { row := sumsPartUptoRow, standIns := [], harness := (true, "c9faa32381dbcafc4b9a18bf7284bed760c30fcc318aa916331cc5346e7b795f"), looks := false }, kinds := [], alts := [], laidByText := true, laidKinds := [.data], laidTests := true, laidLooks := .later }
def SumsPartUptoCardSaid : Prop := Claim7.holds Tryd.pinned (.plain (OpenSpec.upto sumsPartSpec)) sumsPartUptoCard

/-- THE SECOND FORM's CARD OF 'gunwalelaw03.SumsBack'. -/
def sumsBackUptoCard : Claim7 := { stood := { row := sumsBackUptoRow, standIns := [], harness := (true, "c9faa32381dbcafc4b9a18bf7284bed760c30fcc318aa916331cc5346e7b795f"), looks := false }, kinds := [], alts := [], laidByText := true, laidKinds := [.data], laidTests := true, laidLooks := .later }
def SumsBackUptoCardSaid : Prop := Claim7.holds Tryd.pinned (.plain (OpenSpec.upto sumsBackSpec)) sumsBackUptoCard

/-- THE SECOND FORM's CARD OF 'gunwalelaw03.SumsBurst'. -/
def sumsBurstUptoCard : Claim7 := { stood := { row := sumsBurstUptoRow, standIns := [], harness := (true, "c9faa32381dbcafc4b9a18bf7284bed760c30fcc318aa916331cc5346e7b795f"), looks := false }, kinds := [], alts := [], laidByText := true, laidKinds := [.data], laidTests := true, laidLooks := .later }
def SumsBurstUptoCardSaid : Prop := Claim7.holds Tryd.pinned (.plain (OpenSpec.upto sumsBurstSpec)) sumsBurstUptoCard

/-- THE SECOND FORM's CARD OF 'gunwalelaw03.SumsThree'. -/
def sumsThreeUptoCard : Claim7 := { stood := { row := sumsThreeUptoRow, standIns := [], harness := (true, "c9faa32381dbcafc4b9a18bf7284bed760c30fcc318aa916331cc5346e7b795f"), looks := false }, kinds := [], alts := [], laidByText := true, laidKinds := [.data], laidTests := true, laidLooks := .later }
def SumsThreeUptoCardSaid : Prop := Claim7.holds Tryd.pinned (.plain (OpenSpec.upto sumsThreeSpec)) sumsThreeUptoCard
end Rows
end Go.Proofs.YtcijaehnlemidaaDoor
