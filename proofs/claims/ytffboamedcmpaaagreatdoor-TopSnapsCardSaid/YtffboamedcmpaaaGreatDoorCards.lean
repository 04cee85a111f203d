/-
  DERIVED. GIVEN WITH THE SEED: THE CARDS: each row of YtffboamedcmpaaaGreatDoorRows.lean that lists a variable, with what it lists TIED to the program's text (the seventh form; the later family's looks); each row that meets fmt, with fmt's text TOLD by the authors' own Lean function (tested against real Go, not proved from fmt's source: count such statements apart). THE CARD IS WHAT COUNTS. Prove the row's statement (the work); the ties are given (YtffboamedcmpaaaGreatDoorTie.lean); close each card by the builder's one call (the guide's Derived/Test/ToyasCard.lean, 'card_holds'). Laid BY PROGRAM, IN A SANDBOX (cutbox-door.mjs). By AI agents, Wed Nov 11 2026. No macro, syntax, notation, axiom, sorry.
-/
import Derived.Test.YtffboamedcmpaaaGreatDoorRows
import GoSem.ClaimSeven
namespace Go.Proofs.YtffboamedcmpaaaGreatDoor
namespace Rows

/-- THE TIED CARD OF 'gunwaletop.TopForest'. -/
def topForestCard : Claim7 := { stood := { row := topForestRow, standIns := [], harness := (true, "1eee4f75c837a3797c30bc682d83ba9cced4bce68a426b189169bf207d2f3399"), looks := true }, kinds := [], alts := [], laidByText := true, laidKinds := [.data, .data, .pinned], laidTests := true, laidLooks := .later }
def TopForestCardSaid : Prop := Claim7.holds Tryz.pinned (.plain (OpenSpec.ofChange topForestSpec)) topForestCard

/-- THE TIED CARD OF 'gunwaletop.TopSnaps'. -/
def topSnapsCard : Claim7 := { stood := { row := topSnapsRow, standIns := [], harness := (true, "1eee4f75c837a3797c30bc682d83ba9cced4bce68a426b189169bf207d2f3399"), looks := true }, kinds := [], alts := [], laidByText := true, laidKinds := [.data, .data, .pinned], laidTests := true, laidLooks := .later }
def TopSnapsCardSaid : Prop := Claim7.holds Tryz.pinned (.plain (OpenSpec.ofChange topSnapsSpec)) topSnapsCard

/-- THE TIED CARD OF 'gunwaletop.TopReplicas'. -/
def topReplicasCard : Claim7 := { stood := { row := topReplicasRow, standIns := [], harness := (true, "1eee4f75c837a3797c30bc682d83ba9cced4bce68a426b189169bf207d2f3399"), looks := true }, kinds := [], alts := [], laidByText := true, laidKinds := [.data, .data, .pinned], laidTests := true, laidLooks := .later }
def TopReplicasCardSaid : Prop := Claim7.holds Tryz.pinned (.plain (OpenSpec.ofChange topReplicasSpec)) topReplicasCard

/-- THE SECOND FORM's CARD OF 'gunwaletop.TopForest'. -/
def topForestUptoCard : Claim7 := { stood := { row := topForestUptoRow, standIns := [], harness := (true, "1eee4f75c837a3797c30bc682d83ba9cced4bce68a426b189169bf207d2f3399"), looks := true }, kinds := [], alts := [], laidByText := true, laidKinds := [.data, .data, .pinned], laidTests := true, laidLooks := .later }
def TopForestUptoCardSaid : Prop := Claim7.holds Tryz.pinned (.plain (OpenSpec.upto topForestSpec)) topForestUptoCard

/-- THE SECOND FORM's CARD OF 'gunwaletop.TopSnaps'. -/
def topSnapsUptoCard : Claim7 := { stood := { row := topSnapsUptoRow, standIns := [], harness := (true, "1eee4f75c837a3797c30bc682d83ba9cced4bce68a426b189169bf207d2f3399"), looks := true }, kinds := [], alts := [], laidByText := true, laidKinds := [.data, .data, .pinned], laidTests := true, laidLooks := .later }
def TopSnapsUptoCardSaid : Prop := Claim7.holds Tryz.pinned (.plain (OpenSpec.upto topSnapsSpec)) topSnapsUptoCard

/-- THE SECOND FORM's CARD OF 'gunwaletop.TopReplicas'. -/
def topReplicasUptoCard : Claim7 := { stood := { row := topReplicasUptoRow, standIns := [], harness := (true, "1eee4f75c837a3797c30bc682d83ba9cced4bce68a426b189169bf207d2f3399"), looks := true }, kinds := [], alts := [], laidByText := true, laidKinds := [.data, .data, .pinned], laidTests := true, laidLooks := .later }
def TopReplicasUptoCardSaid : Prop := Claim7.holds Tryz.pinned (.plain (OpenSpec.upto topReplicasSpec)) topReplicasUptoCard
end Rows
end Go.Proofs.YtffboamedcmpaaaGreatDoor
