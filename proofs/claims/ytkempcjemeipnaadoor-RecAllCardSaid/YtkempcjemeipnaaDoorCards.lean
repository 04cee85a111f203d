/-
  DERIVED. GIVEN WITH THE SEED: THE CARDS: each row of YtkempcjemeipnaaDoorRows.lean that lists a variable, with what it lists TIED to the program's text (the seventh form; the later family's looks); each row that meets fmt, with fmt's text TOLD by the authors' own Lean function (tested against real Go, not proved from fmt's source: count such statements apart). THE CARD IS WHAT COUNTS. Prove the row's statement (the work); the ties are given (YtkempcjemeipnaaDoorTie.lean); close each card by the builder's one call (the guide's Derived/Test/ToyasCard.lean, 'card_holds'). Laid BY PROGRAM, IN A SANDBOX (cutbox-door.mjs). By AI agents, Wed Nov 11 2026. No macro, syntax, notation, axiom, sorry.
-/
import Derived.Test.YtkempcjemeipnaaDoorRows
import GoSem.ClaimSeven
namespace Go.Proofs.YtkempcjemeipnaaDoor
namespace Rows

/-- THE TIED CARD OF 'gunwalelaw13.RecTells'. -/
def recTellsCard : Claim7 := { stood := { row := recTellsRow, standIns := [], harness := (true, "32aa5a2707b7d915f0127a6309a8cf6869df5928b875ee442b56b709716cc839"), looks := false }, kinds := [], alts := [], laidByText := true, laidKinds := [.data], laidTests := true, laidLooks := .later }
def RecTellsCardSaid : Prop := Claim7.holds Tryd.pinned (.plain (OpenSpec.ofChange recTellsSpec)) recTellsCard

/-- THE TIED CARD OF 'gunwalelaw13.RecBack'. -/
def recBackCard : Claim7 := { stood := { row := recBackRow, standIns := [], harness := (true, "32aa5a2707b7d915f0127a6309a8cf6869df5928b875ee442b56b709716cc839"), looks := false }, kinds := [], alts := [], laidByText := true, laidKinds := [.data], laidTests := true, laidLooks := .later }
def RecBackCardSaid : Prop := Claim7.holds Tryd.pinned (.plain (OpenSpec.ofChange recBackSpec)) recBackCard

/-- THE TIED CARD OF 'gunwalelaw13.RecTorn'. -/
def recTornCard : Claim7 := { stood := { row := recTornRow, standIns := [], harness := (true, "32aa5a2707b7d915f0127a6309a8cf6869df5928b875ee442b56b709716cc839"), looks := false }, kinds := [], alts := [], laidByText := true, laidKinds := [.data], laidTests := true, laidLooks := .later }
def RecTornCardSaid : Prop := Claim7.holds Tryd.pinned (.plain (OpenSpec.ofChange recTornSpec)) recTornCard

/-- THE TIED CARD OF 'gunwalelaw13.RecCuts'. -/
def recCutsCard : Claim7 := { stood := { row := recCutsRow, standIns := [], harness := (true, "32aa5a2707b7d915f0127a6309a8cf6869df5928b875ee442b56b709716cc839"), looks := false }, kinds := [], alts := [], laidByText := true, laidKinds := [.data], laidTests := true, laidLooks := .later }
def RecCutsCardSaid : Prop := Claim7.holds Tryd.pinned (.plain (OpenSpec.ofChange recCutsSpec)) recCutsCard

/-- THE TIED CARD OF 'gunwalelaw13.RecSizes'. -/
def recSizesCard : Claim7 := { stood := { row := recSizesRow, standIns := [], harness := (true, "32aa5a2707b7d915f0127a6309a8cf6869df5928b875ee442b56b709716cc839"), looks := false }, kinds := [], alts := [], laidByText := true, laidKinds := [.data], laidTests := true, laidLooks := .later }
def RecSizesCardSaid : Prop := Claim7.holds Tryd.pinned (.plain (OpenSpec.ofChange recSizesSpec)) recSizesCard

/-- THE TIED CARD OF 'gunwalelaw13.RecAll'. -/
def recAllCard : Claim7 := { stood := { row := recAllRow, standIns := [], harness := (true, "32aa5a2707b7d915f0127a6309a8cf6869df5928b875ee442b56b709716cc839"), looks := false }, kinds := [], alts := [], laidByText := true, laidKinds := [.data], laidTests := true, laidLooks := .later }
def RecAllCardSaid : Prop := Claim7.holds Tryd.pinned (.plain (OpenSpec.ofChange recAllSpec)) recAllCard

/-- THE SECOND FORM's CARD OF 'gunwalelaw13.RecTells'. -/
def recTellsUptoCard : Claim7 := { stood := { row := recTellsUptoRow, standIns := [], harness := (true, "32aa5a2707b7d915f0127a6309a8cf6869df5928b875ee442b56b709716cc839"), looks := false }, kinds := [], alts := [], laidByText := true, laidKinds := [.data], laidTests := true, laidLooks := .later }
def RecTellsUptoCardSaid : Prop := Claim7.holds Tryd.pinned (.plain (OpenSpec.upto recTellsSpec)) recTellsUptoCard

/-- THE SECOND FORM's CARD OF 'gunwalelaw13.RecBack'. -/
def recBackUptoCard : Claim7 := { stood := { row := recBackUptoRow, standIns := [], harness := (true, "32aa5a2707b7d915f0127a6309a8cf6869df5928b875ee442b56b709716cc839"), looks := false }, kinds := [], alts := [], laidByText := true, laidKinds := [.data], laidTests := true, laidLooks := .later }
def RecBackUptoCardSaid : Prop := Claim7.holds Tryd.pinned (.plain (OpenSpec.upto recBackSpec)) recBackUptoCard

/-- THE SECOND FORM's CARD OF 'gunwalelaw13.RecTorn'. -/
def recTornUptoCard : Claim7 := { stood := { row := recTornUptoRow, standIns := [], harness := (true, "32aa5a2707b7d915f0127a6309a8cf6869df5928b875ee442b56b709716cc839"), looks := false }, kinds := [], alts := [], laidByText := true, laidKinds := [.data], laidTests := true, laidLooks := .later }
def RecTornUptoCardSaid : Prop := Claim7.holds Tryd.pinned (.plain (OpenSpec.upto recTornSpec)) recTornUptoCard

/-- THE SECOND FORM's CARD OF 'gunwalelaw13.RecCuts'. -/
def recCutsUptoCard : Claim7 := { stood := { row := recCutsUptoRow, standIns := [], harness := (true, "32aa5a2707b7d915f0127a6309a8cf6869df5928b875ee442b56b709716cc839"), looks := false }, kinds := [], alts := [], laidByText := true, laidKinds := [.data], laidTests := true, laidLooks := .later }
def RecCutsUptoCardSaid : Prop := Claim7.holds Tryd.pinned (.plain (OpenSpec.upto recCutsSpec)) recCutsUptoCard

/-- THE SECOND FORM's CARD OF 'gunwalelaw13.RecSizes'. -/
def recSizesUptoCard : Claim7 := { stood := { row := recSizesUptoRow, standIns := [], harness := (true, "32aa5a2707b7d915f0127a6309a8cf6869df5928b875ee442b56b709716cc839"), looks := false }, kinds := [], alts := [], laidByText := true, laidKinds := [.data], laidTests := true, laidLooks := .later }
def RecSizesUptoCardSaid : Prop := Claim7.holds Tryd.pinned (.plain (OpenSpec.upto recSizesSpec)) recSizesUptoCard

/-- THE SECOND FORM's CARD OF 'gunwalelaw13.RecAll'. -/
def recAllUptoCard : Claim7 := { stood := { row := recAllUptoRow, standIns := [], harness := (true, "32aa5a2707b7d915f0127a6309a8cf6869df5928b875ee442b56b709716cc839"), looks := false }, kinds := [], alts := [], laidByText := true, laidKinds := [.data], laidTests := true, laidLooks := .later }
def RecAllUptoCardSaid : Prop := Claim7.holds Tryd.pinned (.plain (OpenSpec.upto recAllSpec)) recAllUptoCard
end Rows
end Go.Proofs.YtkempcjemeipnaaDoor
