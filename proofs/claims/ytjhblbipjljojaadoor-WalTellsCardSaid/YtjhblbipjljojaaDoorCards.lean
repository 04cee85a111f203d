/-
  DERIVED. GIVEN WITH THE SEED: THE CARDS: each row of YtjhblbipjljojaaDoorRows.lean that lists a variable, with what it lists TIED to the program's text (the seventh form; the later family's looks); each row that meets fmt, with fmt's text TOLD by the authors' own Lean function (tested against real Go, not proved from fmt's source: count such statements apart). THE CARD IS WHAT COUNTS. Prove the row's statement (the work); the ties are given (YtjhblbipjljojaaDoorTie.lean); close each card by the builder's one call (the guide's Derived/Test/ToyasCard.lean, 'card_holds'). Laid BY PROGRAM, IN A SANDBOX (cutbox-door.mjs). By AI agents, Wed Nov 11 2026. No macro, syntax, notation, axiom, sorry.
-/
import Derived.Test.YtjhblbipjljojaaDoorRows
import GoSem.ClaimSeven
namespace Go.Proofs.YtjhblbipjljojaaDoor
namespace Rows

/-- THE TIED CARD OF 'gunwalelaw14.WalTells'. -/
def walTellsCard : Claim7 := { stood := { row := walTellsRow, standIns := [], harness := (true, "ba9e98ce570a3f962f8743c3a9240ece3c4d0a2040109fb6ac5e880196126976"), looks := false }, kinds := [], alts := [], laidByText := true, laidKinds := [.data], laidTests := true, laidLooks := .later }
def WalTellsCardSaid : Prop := Claim7.holds Tryd.pinned (.plain (OpenSpec.ofChange walTellsSpec)) walTellsCard

/-- THE TIED CARD OF 'gunwalelaw14.WalKeeps'. -/
def walKeepsCard : Claim7 := { stood := { row := walKeepsRow, standIns := [], harness := (true, "ba9e98ce570a3f962f8743c3a9240ece3c4d0a2040109fb6ac5e880196126976"), looks := false }, kinds := [], alts := [], laidByText := true, laidKinds := [.data], laidTests := true, laidLooks := .later }
def WalKeepsCardSaid : Prop := Claim7.holds Tryd.pinned (.plain (OpenSpec.ofChange walKeepsSpec)) walKeepsCard

/-- THE TIED CARD OF 'gunwalelaw14.WalSyncs'. -/
def walSyncsCard : Claim7 := { stood := { row := walSyncsRow, standIns := [], harness := (true, "ba9e98ce570a3f962f8743c3a9240ece3c4d0a2040109fb6ac5e880196126976"), looks := false }, kinds := [], alts := [], laidByText := true, laidKinds := [.data], laidTests := true, laidLooks := .later }
def WalSyncsCardSaid : Prop := Claim7.holds Tryd.pinned (.plain (OpenSpec.ofChange walSyncsSpec)) walSyncsCard

/-- THE TIED CARD OF 'gunwalelaw14.WalFull'. -/
def walFullCard : Claim7 := { stood := { row := walFullRow, standIns := [], harness := (true, "ba9e98ce570a3f962f8743c3a9240ece3c4d0a2040109fb6ac5e880196126976"), looks := false }, kinds := [], alts := [], laidByText := true, laidKinds := [.data], laidTests := true, laidLooks := .later }
def WalFullCardSaid : Prop := Claim7.holds Tryd.pinned (.plain (OpenSpec.ofChange walFullSpec)) walFullCard

/-- THE TIED CARD OF 'gunwalelaw14.WalTwice'. -/
def walTwiceCard : Claim7 := { stood := { row := walTwiceRow, standIns := [], harness := (true, "ba9e98ce570a3f962f8743c3a9240ece3c4d0a2040109fb6ac5e880196126976"), looks := false }, kinds := [], alts := [], laidByText := true, laidKinds := [.data], laidTests := true, laidLooks := .later }
def WalTwiceCardSaid : Prop := Claim7.holds Tryd.pinned (.plain (OpenSpec.ofChange walTwiceSpec)) walTwiceCard

/-- THE TIED CARD OF 'gunwalelaw14.WalNumbers'. -/
def walNumbersCard : Claim7 := { stood := { row := walNumbersRow, standIns := [], harness := (true, "ba9e98ce570a3f962f8743c3a9240ece3c4d0a2040109fb6ac5e880196126976"), looks := false }, kinds := [], alts := [], laidByText := true, laidKinds := [.data], laidTests := true, laidLooks := .later }
def WalNumbersCardSaid : Prop := Claim7.holds Tryd.pinned (.plain (OpenSpec.ofChange walNumbersSpec)) walNumbersCard

/-- THE SECOND FORM's CARD OF 'gunwalelaw14.WalTells'. -/
def walTellsUptoCard : Claim7 := { stood := { row := walTellsUptoRow, standIns := [], harness := (true, "ba9e98ce570a3f962f8743c3a9240ece3c4d0a2040109fb6ac5e880196126976"), looks := false }, kinds := [], alts := [], laidByText := true, laidKinds := [.data], laidTests := true, laidLooks := .later }
def WalTellsUptoCardSaid : Prop := Claim7.holds Tryd.pinned (.plain (OpenSpec.upto walTellsSpec)) walTellsUptoCard

/-- THE SECOND FORM's CARD OF 'gunwalelaw14.WalKeeps'. -/
def walKeepsUptoCard : Claim7 := { stood := { row := walKeepsUptoRow, standIns := [], harness := (true, "ba9e98ce570a3f962f8743c3a9240ece3c4d0a2040109fb6ac5e880196126976"), looks := false }, kinds := [], alts := [], laidByText := true, laidKinds := [.data], laidTests := true, laidLooks := .later }
def WalKeepsUptoCardSaid : Prop := Claim7.holds Tryd.pinned (.plain (OpenSpec.upto walKeepsSpec)) walKeepsUptoCard

/-- THE SECOND FORM's CARD OF 'gunwalelaw14.WalSyncs'. -/
def walSyncsUptoCard : Claim7 := { stood := { row := walSyncsUptoRow, standIns := [], harness := (true, "ba9e98ce570a3f962f8743c3a9240ece3c4d0a2040109fb6ac5e880196126976"), looks := false }, kinds := [], alts := [], laidByText := true, laidKinds := [.data], laidTests := true, laidLooks := .later }
def WalSyncsUptoCardSaid : Prop := Claim7.holds Tryd.pinned (.plain (OpenSpec.upto walSyncsSpec)) walSyncsUptoCard

/-- THE SECOND FORM's CARD OF 'gunwalelaw14.WalFull'. -/
def walFullUptoCard : Claim7 := { stood := { row := walFullUptoRow, standIns := [], harness := (true, "ba9e98ce570a3f962f8743c3a9240ece3c4d0a2040109fb6ac5e880196126976"), looks := false }, kinds := [], alts := [], laidByText := true, laidKinds := [.data], laidTests := true, laidLooks := .later }
def WalFullUptoCardSaid : Prop := Claim7.holds Tryd.pinned (.plain (OpenSpec.upto walFullSpec)) walFullUptoCard

/-- THE SECOND FORM's CARD OF 'gunwalelaw14.WalTwice'. -/
def walTwiceUptoCard : Claim7 := { stood := { row := walTwiceUptoRow, standIns := [], harness := (true, "ba9e98ce570a3f962f8743c3a9240ece3c4d0a2040109fb6ac5e880196126976"), looks := false }, kinds := [], alts := [], laidByText := true, laidKinds := [.data], laidTests := true, laidLooks := .later }
def WalTwiceUptoCardSaid : Prop := Claim7.holds Tryd.pinned (.plain (OpenSpec.upto walTwiceSpec)) walTwiceUptoCard

/-- THE SECOND FORM's CARD OF 'gunwalelaw14.WalNumbers'. -/
def walNumbersUptoCard : Claim7 := { stood := { row := walNumbersUptoRow, standIns := [], harness := (true, "ba9e98ce570a3f962f8743c3a9240ece3c4d0a2040109fb6ac5e880196126976"), looks := false }, kinds := [], alts := [], laidByText := true, laidKinds := [.data], laidTests := true, laidLooks := .later }
def WalNumbersUptoCardSaid : Prop := Claim7.holds Tryd.pinned (.plain (OpenSpec.upto walNumbersSpec)) walNumbersUptoCard
end Rows
end Go.Proofs.YtjhblbipjljojaaDoor
