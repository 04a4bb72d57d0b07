/-
  DERIVED. GIVEN WITH THE SEED: THE CARDS: each row of YtknbhbppofphpaaGreatDoorRows.lean that lists a variable, with what it lists TIED to the program's text (the seventh form; the later family's looks); each row that meets fmt, with fmt's text TOLD by the authors' own Lean function (tested against real Go, not proved from fmt's source: count such statements apart). THE CARD IS WHAT COUNTS. Prove the row's statement (the work); the ties are given (YtknbhbppofphpaaGreatDoorTie.lean); close each card by the builder's one call (the guide's Derived/Test/ToyasCard.lean, 'card_holds'). Laid BY PROGRAM, IN A SANDBOX (cutbox-door.mjs). By AI agents, Wed Nov 11 2026. No macro, syntax, notation, axiom, sorry.
-/
import Derived.Test.YtknbhbppofphpaaGreatDoorRows
import GoSem.ClaimSeven
namespace Go.Proofs.YtknbhbppofphpaaGreatDoor
namespace Rows

/-- THE TIED CARD OF 'courierlaw06.PrintPlaces'. -/
def printPlacesCard : Claim7 := { stood := { row := printPlacesRow, standIns := [], harness := (true, "4c9e790d2c0d6f5e95fedc44bc5419c0d1aeb6a66e9bd84e26527bd101659779"), looks := true }, kinds := [], alts := [], laidByText := true, laidKinds := [.data, .data, .data, .data, .sentinel, .sentinel, .pinned], laidTests := true, laidLooks := .later }
def PrintPlacesCardSaid : Prop := Claim7.holds Tryz.pinned (.plain (OpenSpec.ofChange printPlacesSpec)) printPlacesCard

/-- THE TIED CARD OF 'courierlaw06.PrintFiles'. -/
def printFilesCard : Claim7 := { stood := { row := printFilesRow, standIns := [], harness := (true, "4c9e790d2c0d6f5e95fedc44bc5419c0d1aeb6a66e9bd84e26527bd101659779"), looks := true }, kinds := [], alts := [], laidByText := true, laidKinds := [.data, .data, .data, .data, .sentinel, .sentinel, .pinned], laidTests := true, laidLooks := .later }
def PrintFilesCardSaid : Prop := Claim7.holds Tryz.pinned (.plain (OpenSpec.ofChange printFilesSpec)) printFilesCard

/-- THE SECOND FORM's CARD OF 'courierlaw06.PrintPlaces'. -/
def printPlacesUptoCard : Claim7 := { stood := { row := printPlacesUptoRow, standIns := [], harness := (true, "4c9e790d2c0d6f5e95fedc44bc5419c0d1aeb6a66e9bd84e26527bd101659779"), looks := true }, kinds := [], alts := [], laidByText := true, laidKinds := [.data, .data, .data, .data, .sentinel, .sentinel, .pinned], laidTests := true, laidLooks := .later }
def PrintPlacesUptoCardSaid : Prop := Claim7.holds Tryz.pinned (.plain (OpenSpec.upto printPlacesSpec)) printPlacesUptoCard

/-- THE SECOND FORM's CARD OF 'courierlaw06.PrintFiles'. -/
def printFilesUptoCard : Claim7 := { stood := { row := printFilesUptoRow, standIns := [], harness := (true, "4c9e790d2c0d6f5e95fedc44bc5419c0d1aeb6a66e9bd84e26527bd101659779"), looks := true }, kinds := [], alts := [], laidByText := true, laidKinds := [.data, .data, .data, .data, .sentinel, .sentinel, .pinned], laidTests := true, laidLooks := .later }
def PrintFilesUptoCardSaid : Prop := Claim7.holds Tryz.pinned (.plain (OpenSpec.upto printFilesSpec)) printFilesUptoCard
end Rows
end Go.Proofs.YtknbhbppofphpaaGreatDoor
