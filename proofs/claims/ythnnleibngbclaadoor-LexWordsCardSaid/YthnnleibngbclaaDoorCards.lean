/-
  DERIVED. GIVEN WITH THE SEED: THE CARDS: each row of YthnnleibngbclaaDoorRows.lean that lists a variable, with what it lists TIED to the program's text (the seventh form; the later family's looks); each row that meets fmt, with fmt's text TOLD by the authors' own Lean function (tested against real Go, not proved from fmt's source: count such statements apart). THE CARD IS WHAT COUNTS. Prove the row's statement (the work); the ties are given (YthnnleibngbclaaDoorTie.lean); close each card by the builder's one call (the guide's Derived/Test/ToyasCard.lean, 'card_holds'). Laid BY PROGRAM, IN A SANDBOX (cutbox-door.mjs). By AI agents, Wed Nov 11 2026. No macro, syntax, notation, axiom, sorry.
-/
import Derived.Test.YthnnleibngbclaaDoorRows
import GoSem.ClaimSeven
namespace Go.Proofs.YthnnleibngbclaaDoor
namespace Rows

/-- THE TIED CARD OF 'courierlaw04.LexAgain'. -/
def lexAgainCard : Claim7 := { stood := { row := lexAgainRow, standIns := [], harness := (true, "287148281f32e85b7de6527fe54f5c2c8e7eb69cae917b7d6da6855bb2eb0c54"), looks := true }, kinds := [], alts := [], laidByText := true, laidKinds := [.data, .data, .data, .sentinel, .sentinel], laidTests := true, laidLooks := .later }
def LexAgainCardSaid : Prop := Claim7.holds Tryd.pinned (.plain (OpenSpec.ofChange lexAgainSpec)) lexAgainCard

/-- THE TIED CARD OF 'courierlaw04.LexPlaces'. -/
def lexPlacesCard : Claim7 := { stood := { row := lexPlacesRow, standIns := [], harness := (true, "287148281f32e85b7de6527fe54f5c2c8e7eb69cae917b7d6da6855bb2eb0c54"), looks := true }, kinds := [], alts := [], laidByText := true, laidKinds := [.data, .data, .data, .sentinel, .sentinel], laidTests := true, laidLooks := .later }
def LexPlacesCardSaid : Prop := Claim7.holds Tryd.pinned (.plain (OpenSpec.ofChange lexPlacesSpec)) lexPlacesCard

/-- THE TIED CARD OF 'courierlaw04.LexLines'. -/
def lexLinesCard : Claim7 := { stood := { row := lexLinesRow, standIns := [], harness := (true, "287148281f32e85b7de6527fe54f5c2c8e7eb69cae917b7d6da6855bb2eb0c54"), looks := true }, kinds := [], alts := [], laidByText := true, laidKinds := [.data, .data, .data, .sentinel, .sentinel], laidTests := true, laidLooks := .later }
def LexLinesCardSaid : Prop := Claim7.holds Tryd.pinned (.plain (OpenSpec.ofChange lexLinesSpec)) lexLinesCard

/-- THE TIED CARD OF 'courierlaw04.LexRemarks'. -/
def lexRemarksCard : Claim7 := { stood := { row := lexRemarksRow, standIns := [], harness := (true, "287148281f32e85b7de6527fe54f5c2c8e7eb69cae917b7d6da6855bb2eb0c54"), looks := true }, kinds := [], alts := [], laidByText := true, laidKinds := [.data, .data, .data, .sentinel, .sentinel], laidTests := true, laidLooks := .later }
def LexRemarksCardSaid : Prop := Claim7.holds Tryd.pinned (.plain (OpenSpec.ofChange lexRemarksSpec)) lexRemarksCard

/-- THE TIED CARD OF 'courierlaw04.LexWords'. -/
def lexWordsCard : Claim7 := { stood := { row := lexWordsRow, standIns := [], harness := (true, "287148281f32e85b7de6527fe54f5c2c8e7eb69cae917b7d6da6855bb2eb0c54"), looks := true }, kinds := [], alts := [], laidByText := true, laidKinds := [.data, .data, .data, .data, .sentinel, .sentinel, .pinned], laidTests := true, laidLooks := .later }
def LexWordsCardSaid : Prop := Claim7.holds Tryd.pinned (.plain (OpenSpec.ofChange lexWordsSpec)) lexWordsCard

/-- THE SECOND FORM's CARD OF 'courierlaw04.LexAgain'. -/
def lexAgainUptoCard : Claim7 := { stood := { row := lexAgainUptoRow, standIns := [], harness := (true, "287148281f32e85b7de6527fe54f5c2c8e7eb69cae917b7d6da6855bb2eb0c54"), looks := true }, kinds := [], alts := [], laidByText := true, laidKinds := [.data, .data, .data, .sentinel, .sentinel], laidTests := true, laidLooks := .later }
def LexAgainUptoCardSaid : Prop := Claim7.holds Tryd.pinned (.plain (OpenSpec.upto lexAgainSpec)) lexAgainUptoCard

/-- THE SECOND FORM's CARD OF 'courierlaw04.LexPlaces'. -/
def lexPlacesUptoCard : Claim7 := { stood := { row := lexPlacesUptoRow, standIns := [], harness := (true, "287148281f32e85b7de6527fe54f5c2c8e7eb69cae917b7d6da6855bb2eb0c54"), looks := true }, kinds := [], alts := [], laidByText := true, laidKinds := [.data, .data, .data, .sentinel, .sentinel], laidTests := true, laidLooks := .later }
def LexPlacesUptoCardSaid : Prop := Claim7.holds Tryd.pinned (.plain (OpenSpec.upto lexPlacesSpec)) lexPlacesUptoCard

/-- THE SECOND FORM's CARD OF 'courierlaw04.LexLines'. -/
def lexLinesUptoCard : Claim7 := { stood := { row := lexLinesUptoRow, standIns := [], harness := (true, "287148281f32e85b7de6527fe54f5c2c8e7eb69cae917b7d6da6855bb2eb0c54"), looks := true }, kinds := [], alts := [], laidByText := true, laidKinds := [.data, .data, .data, .sentinel, .sentinel], laidTests := true, laidLooks := .later }
def LexLinesUptoCardSaid : Prop := Claim7.holds Tryd.pinned (.plain (OpenSpec.upto lexLinesSpec)) lexLinesUptoCard

/-- THE SECOND FORM's CARD OF 'courierlaw04.LexRemarks'. -/
def lexRemarksUptoCard : Claim7 := { stood := { row := lexRemarksUptoRow, standIns := [], harness := (true, "287148281f32e85b7de6527fe54f5c2c8e7eb69cae917b7d6da6855bb2eb0c54"), looks := true }, kinds := [], alts := [], laidByText := true, laidKinds := [.data, .data, .data, .sentinel, .sentinel], laidTests := true, laidLooks := .later }
def LexRemarksUptoCardSaid : Prop := Claim7.holds Tryd.pinned (.plain (OpenSpec.upto lexRemarksSpec)) lexRemarksUptoCard

/-- THE SECOND FORM's CARD OF 'courierlaw04.LexWords'. -/
def lexWordsUptoCard : Claim7 := { stood := { row := lexWordsUptoRow, standIns := [], harness := (true, "287148281f32e85b7de6527fe54f5c2c8e7eb69cae917b7d6da6855bb2eb0c54"), looks := true }, kinds := [], alts := [], laidByText := true, laidKinds := [.data, .data, .data, .data, .sentinel, .sentinel, .pinned], laidTests := true, laidLooks := .later }
def LexWordsUptoCardSaid : Prop := Claim7.holds Tryd.pinned (.plain (OpenSpec.upto lexWordsSpec)) lexWordsUptoCard
end Rows
end Go.Proofs.YthnnleibngbclaaDoor
