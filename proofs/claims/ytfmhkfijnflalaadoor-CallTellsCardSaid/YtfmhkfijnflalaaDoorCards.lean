/-
  DERIVED. GIVEN WITH THE SEED: THE CARDS: each row of YtfmhkfijnflalaaDoorRows.lean that lists a variable, with what it lists TIED to the program's text (the seventh form; the later family's looks); each row that meets fmt, with fmt's text TOLD by the authors' own Lean function (tested against real Go, not proved from fmt's source: count such statements apart). THE CARD IS WHAT COUNTS. Prove the row's statement (the work); the ties are given (YtfmhkfijnflalaaDoorTie.lean); close each card by the builder's one call (the guide's Derived/Test/ToyasCard.lean, 'card_holds'). Laid BY PROGRAM, IN A SANDBOX (cutbox-door.mjs). By AI agents, Wed Nov 11 2026. No macro, syntax, notation, axiom, sorry.
-/
import Derived.Test.YtfmhkfijnflalaaDoorRows
import GoSem.ClaimSeven
namespace Go.Proofs.YtfmhkfijnflalaaDoor
namespace Rows

/-- THE TIED CARD OF 'gunwalelaw18.CallTells'. -/
def callTellsCard : Claim7 := { stood := { row := callTellsRow, standIns := [], harness := (true, "1efb5af01bc0751703ececbff02ce1a08d94bf5c51d876f921b76f72aaa9efec"), looks := true }, kinds := [], alts := [], laidByText := true, laidKinds := [.data, .pinned], laidTests := true, laidLooks := .later }
def CallTellsCardSaid : Prop := Claim7.holds Tryd.pinned (.plain (OpenSpec.ofChange callTellsSpec)) callTellsCard

/-- THE TIED CARD OF 'gunwalelaw18.CallBack'. -/
def callBackCard : Claim7 := { stood := { row := callBackRow, standIns := [], harness := (true, "1efb5af01bc0751703ececbff02ce1a08d94bf5c51d876f921b76f72aaa9efec"), looks := true }, kinds := [], alts := [], laidByText := true, laidKinds := [.data, .pinned], laidTests := true, laidLooks := .later }
def CallBackCardSaid : Prop := Claim7.holds Tryd.pinned (.plain (OpenSpec.ofChange callBackSpec)) callBackCard

/-- THE TIED CARD OF 'gunwalelaw18.CallJoins'. -/
def callJoinsCard : Claim7 := { stood := { row := callJoinsRow, standIns := [], harness := (true, "1efb5af01bc0751703ececbff02ce1a08d94bf5c51d876f921b76f72aaa9efec"), looks := true }, kinds := [], alts := [], laidByText := true, laidKinds := [.data, .pinned], laidTests := true, laidLooks := .later }
def CallJoinsCardSaid : Prop := Claim7.holds Tryd.pinned (.plain (OpenSpec.ofChange callJoinsSpec)) callJoinsCard

/-- THE TIED CARD OF 'gunwalelaw18.CallApart'. -/
def callApartCard : Claim7 := { stood := { row := callApartRow, standIns := [], harness := (true, "1efb5af01bc0751703ececbff02ce1a08d94bf5c51d876f921b76f72aaa9efec"), looks := true }, kinds := [], alts := [], laidByText := true, laidKinds := [.data, .pinned], laidTests := true, laidLooks := .later }
def CallApartCardSaid : Prop := Claim7.holds Tryd.pinned (.plain (OpenSpec.ofChange callApartSpec)) callApartCard

/-- THE TIED CARD OF 'gunwalelaw18.CallMay'. -/
def callMayCard : Claim7 := { stood := { row := callMayRow, standIns := [], harness := (true, "1efb5af01bc0751703ececbff02ce1a08d94bf5c51d876f921b76f72aaa9efec"), looks := true }, kinds := [], alts := [], laidByText := true, laidKinds := [.data, .pinned], laidTests := true, laidLooks := .later }
def CallMayCardSaid : Prop := Claim7.holds Tryd.pinned (.plain (OpenSpec.ofChange callMaySpec)) callMayCard

/-- THE SECOND FORM's CARD OF 'gunwalelaw18.CallTells'. -/
def callTellsUptoCard : Claim7 := { stood := { row := callTellsUptoRow, standIns := [], harness := (true, "1efb5af01bc0751703ececbff02ce1a08d94bf5c51d876f921b76f72aaa9efec"), looks := true }, kinds := [], alts := [], laidByText := true, laidKinds := [.data, .pinned], laidTests := true, laidLooks := .later }
def CallTellsUptoCardSaid : Prop := Claim7.holds Tryd.pinned (.plain (OpenSpec.upto callTellsSpec)) callTellsUptoCard

/-- THE SECOND FORM's CARD OF 'gunwalelaw18.CallBack'. -/
def callBackUptoCard : Claim7 := { stood := { row := callBackUptoRow, standIns := [], harness := (true, "1efb5af01bc0751703ececbff02ce1a08d94bf5c51d876f921b76f72aaa9efec"), looks := true }, kinds := [], alts := [], laidByText := true, laidKinds := [.data, .pinned], laidTests := true, laidLooks := .later }
def CallBackUptoCardSaid : Prop := Claim7.holds Tryd.pinned (.plain (OpenSpec.upto callBackSpec)) callBackUptoCard

/-- THE SECOND FORM's CARD OF 'gunwalelaw18.CallJoins'. -/
def callJoinsUptoCard : Claim7 := { stood := { row := callJoinsUptoRow, standIns := [], harness := (true, "1efb5af01bc0751703ececbff02ce1a08d94bf5c51d876f921b76f72aaa9efec"), looks := true }, kinds := [], alts := [], laidByText := true, laidKinds := [.data, .pinned], laidTests := true, laidLooks := .later }
def CallJoinsUptoCardSaid : Prop := Claim7.holds Tryd.pinned (.plain (OpenSpec.upto callJoinsSpec)) callJoinsUptoCard

/-- THE SECOND FORM's CARD OF 'gunwalelaw18.CallApart'. -/
def callApartUptoCard : Claim7 := { stood := { row := callApartUptoRow, standIns := [], harness := (true, "1efb5af01bc0751703ececbff02ce1a08d94bf5c51d876f921b76f72aaa9efec"), looks := true }, kinds := [], alts := [], laidByText := true, laidKinds := [.data, .pinned], laidTests := true, laidLooks := .later }
def CallApartUptoCardSaid : Prop := Claim7.holds Tryd.pinned (.plain (OpenSpec.upto callApartSpec)) callApartUptoCard

/-- THE SECOND FORM's CARD OF 'gunwalelaw18.CallMay'. -/
def callMayUptoCard : Claim7 := { stood := { row := callMayUptoRow, standIns := [], harness := (true, "1efb5af01bc0751703ececbff02ce1a08d94bf5c51d876f921b76f72aaa9efec"), looks := true }, kinds := [], alts := [], laidByText := true, laidKinds := [.data, .pinned], laidTests := true, laidLooks := .later }
def CallMayUptoCardSaid : Prop := Claim7.holds Tryd.pinned (.plain (OpenSpec.upto callMaySpec)) callMayUptoCard
end Rows
end Go.Proofs.YtfmhkfijnflalaaDoor
