/-
  DERIVED. GIVEN WITH THE SEED: THE CARDS: each row of YtgbahdoiogcpiaaDoorRows.lean that lists a variable, with what it lists TIED to the program's text (the seventh form; the later family's looks); each row that meets fmt, with fmt's text TOLD by the authors' own Lean function (tested against real Go, not proved from fmt's source: count such statements apart). THE CARD IS WHAT COUNTS. Prove the row's statement (the work); the ties are given (YtgbahdoiogcpiaaDoorTie.lean); close each card by the builder's one call (the guide's Derived/Test/ToyasCard.lean, 'card_holds'). Laid BY PROGRAM, IN A SANDBOX (cutbox-door.mjs). By AI agents, Wed Nov 11 2026. No macro, syntax, notation, axiom, sorry.
-/
import Derived.Test.YtgbahdoiogcpiaaDoorRows
import GoSem.ClaimSeven
namespace Go.Proofs.YtgbahdoiogcpiaaDoor
namespace Rows

/-- THE TIED CARD OF 'gunwalelaw01.NameTells'. -/
def nameTellsCard : Claim7 := { stood := { row := nameTellsRow, standIns := [], harness := (true, "f0a75b98c30351dfcc239eeaeec8591c0d8b7127e60e4327a955bc495a8daf69"), looks := false }, kinds := [], alts := [], laidByText := true, laidKinds := [.data, .pinned], laidTests := true, laidLooks := .later }
def NameTellsCardSaid : Prop := Claim7.holds Tryd.pinned (.plain (OpenSpec.ofChange nameTellsSpec)) nameTellsCard

/-- THE TIED CARD OF 'gunwalelaw01.NameBack'. -/
def nameBackCard : Claim7 := { stood := { row := nameBackRow, standIns := [], harness := (true, "f0a75b98c30351dfcc239eeaeec8591c0d8b7127e60e4327a955bc495a8daf69"), looks := false }, kinds := [], alts := [], laidByText := true, laidKinds := [.data, .pinned], laidTests := true, laidLooks := .later }
def NameBackCardSaid : Prop := Claim7.holds Tryd.pinned (.plain (OpenSpec.ofChange nameBackSpec)) nameBackCard

/-- THE TIED CARD OF 'gunwalelaw01.NameOrder'. -/
def nameOrderCard : Claim7 := { stood := { row := nameOrderRow, standIns := [], harness := (true, "f0a75b98c30351dfcc239eeaeec8591c0d8b7127e60e4327a955bc495a8daf69"), looks := false }, kinds := [], alts := [], laidByText := true, laidKinds := [.data, .pinned], laidTests := true, laidLooks := .later }
def NameOrderCardSaid : Prop := Claim7.holds Tryd.pinned (.plain (OpenSpec.ofChange nameOrderSpec)) nameOrderCard

/-- THE TIED CARD OF 'gunwalelaw01.NameBytes'. -/
def nameBytesCard : Claim7 := { stood := { row := nameBytesRow, standIns := [], harness := (true, "f0a75b98c30351dfcc239eeaeec8591c0d8b7127e60e4327a955bc495a8daf69"), looks := false }, kinds := [], alts := [], laidByText := true, laidKinds := [.data, .pinned], laidTests := true, laidLooks := .later }
def NameBytesCardSaid : Prop := Claim7.holds Tryd.pinned (.plain (OpenSpec.ofChange nameBytesSpec)) nameBytesCard

/-- THE TIED CARD OF 'gunwalelaw01.NameParts'. -/
def namePartsCard : Claim7 := { stood := { row := namePartsRow, standIns := [], harness := (true, "f0a75b98c30351dfcc239eeaeec8591c0d8b7127e60e4327a955bc495a8daf69"), looks := false }, kinds := [], alts := [], laidByText := true, laidKinds := [.data, .pinned], laidTests := true, laidLooks := .later }
def NamePartsCardSaid : Prop := Claim7.holds Tryd.pinned (.plain (OpenSpec.ofChange namePartsSpec)) namePartsCard

/-- THE TIED CARD OF 'gunwalelaw01.NameDeep'. -/
def nameDeepCard : Claim7 := { stood := { row := nameDeepRow, standIns := [], harness := (true, "f0a75b98c30351dfcc239eeaeec8591c0d8b7127e60e4327a955bc495a8daf69"), looks := false }, kinds := [], alts := [], laidByText := true, laidKinds := [.data, .pinned], laidTests := true, laidLooks := .later }
def NameDeepCardSaid : Prop := Claim7.holds Tryd.pinned (.plain (OpenSpec.ofChange nameDeepSpec)) nameDeepCard

/-- THE SECOND FORM's CARD OF 'gunwalelaw01.NameTells'. -/
def nameTellsUptoCard : Claim7 := { stood := { row := nameTellsUptoRow, standIns := [], harness := (true, "f0a75b98c30351dfcc239eeaeec8591c0d8b7127e60e4327a955bc495a8daf69"), looks := false }, kinds := [], alts := [], laidByText := true, laidKinds := [.data, .pinned], laidTests := true, laidLooks := .later }
def NameTellsUptoCardSaid : Prop := Claim7.holds Tryd.pinned (.plain (OpenSpec.upto nameTellsSpec)) nameTellsUptoCard

/-- THE SECOND FORM's CARD OF 'gunwalelaw01.NameBack'. -/
def nameBackUptoCard : Claim7 := { stood := { row := nameBackUptoRow, standIns := [], harness := (true, "f0a75b98c30351dfcc239eeaeec8591c0d8b7127e60e4327a955bc495a8daf69"), looks := false }, kinds := [], alts := [], laidByText := true, laidKinds := [.data, .pinned], laidTests := true, laidLooks := .later }
def NameBackUptoCardSaid : Prop := Claim7.holds Tryd.pinned (.plain (OpenSpec.upto nameBackSpec)) nameBackUptoCard

/-- THE SECOND FORM's CARD OF 'gunwalelaw01.NameOrder'. -/
def nameOrderUptoCard : Claim7 := { stood := { row := nameOrderUptoRow, standIns := [], harness := (true, "f0a75b98c30351dfcc239eeaeec8591c0d8b7127e60e4327a955bc495a8daf69"), looks := false }, kinds := [], alts := [], laidByText := true, laidKinds := [.data, .pinned], laidTests := true, laidLooks := .later }
def NameOrderUptoCardSaid : Prop := Claim7.holds Tryd.pinned (.plain (OpenSpec.upto nameOrderSpec)) nameOrderUptoCard

/-- THE SECOND FORM's CARD OF 'gunwalelaw01.NameBytes'. -/
def nameBytesUptoCard : Claim7 := { stood := { row := nameBytesUptoRow, standIns := [], harness := (true, "f0a75b98c30351dfcc239eeaeec8591c0d8b7127e60e4327a955bc495a8daf69"), looks := false }, kinds := [], alts := [], laidByText := true, laidKinds := [.data, .pinned], laidTests := true, laidLooks := .later }
def NameBytesUptoCardSaid : Prop := Claim7.holds Tryd.pinned (.plain (OpenSpec.upto nameBytesSpec)) nameBytesUptoCard

/-- THE SECOND FORM's CARD OF 'gunwalelaw01.NameParts'. -/
def namePartsUptoCard : Claim7 := { stood := { row := namePartsUptoRow, standIns := [], harness := (true, "f0a75b98c30351dfcc239eeaeec8591c0d8b7127e60e4327a955bc495a8daf69"), looks := false }, kinds := [], alts := [], laidByText := true, laidKinds := [.data, .pinned], laidTests := true, laidLooks := .later }
def NamePartsUptoCardSaid : Prop := Claim7.holds Tryd.pinned (.plain (OpenSpec.upto namePartsSpec)) namePartsUptoCard

/-- THE SECOND FORM's CARD OF 'gunwalelaw01.NameDeep'. -/
def nameDeepUptoCard : Claim7 := { stood := { row := nameDeepUptoRow, standIns := [], harness := (true, "f0a75b98c30351dfcc239eeaeec8591c0d8b7127e60e4327a955bc495a8daf69"), looks := false }, kinds := [], alts := [], laidByText := true, laidKinds := [.data, .pinned], laidTests := true, laidLooks := .later }
def NameDeepUptoCardSaid : Prop := Claim7.holds Tryd.pinned (.plain (OpenSpec.upto nameDeepSpec)) nameDeepUptoCard
end Rows
end Go.Proofs.YtgbahdoiogcpiaaDoor
