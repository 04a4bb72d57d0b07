/-
  DERIVED. GIVEN WITH THE SEED: THE CARDS: each row of YtgegclilhjhnmaaDoorRows.lean that lists a variable, with what it lists TIED to the program's text (the seventh form; the later family's looks); each row that meets fmt, with fmt's text TOLD by the authors' own Lean function (tested against real Go, not proved from fmt's source: count such statements apart). THE CARD IS WHAT COUNTS. Prove the row's statement (the work); the ties are given (YtgegclilhjhnmaaDoorTie.lean); close each card by the builder's one call (the guide's Derived/Test/ToyasCard.lean, 'card_holds'). Laid BY PROGRAM, IN A SANDBOX (cutbox-door.mjs). By AI agents, Wed Nov 11 2026. No macro, syntax, notation, axiom, sorry.
-/
import Derived.Test.YtgegclilhjhnmaaDoorRows
import GoSem.ClaimSeven
namespace Go.Proofs.YtgegclilhjhnmaaDoor
namespace Rows

/-- THE TIED CARD OF 'courierlaw12.TextQuotes'. -/
def textQuotesCard : Claim7 := { stood := { row := textQuotesRow, standIns := [], harness := (true, "18b1ed913c968c3ac9e63982edc37a87470daf76b5cda2eb10d2ae370bed455a"), looks := false }, kinds := [], alts := [], laidByText := true, laidKinds := [.data, .pinned], laidTests := true, laidLooks := .later }
def TextQuotesCardSaid : Prop := Claim7.holds Tryd.pinned (.plain (OpenSpec.ofChange textQuotesSpec)) textQuotesCard

/-- THE TIED CARD OF 'courierlaw03.IdentNames'. -/
def identNamesCard : Claim7 := { stood := { row := identNamesRow, standIns := [], harness := (true, "18b1ed913c968c3ac9e63982edc37a87470daf76b5cda2eb10d2ae370bed455a"), looks := false }, kinds := [], alts := [], laidByText := true, laidKinds := [.data, .pinned], laidTests := true, laidLooks := .later }
def IdentNamesCardSaid : Prop := Claim7.holds Tryd.pinned (.plain (OpenSpec.ofChange identNamesSpec)) identNamesCard

/-- THE TIED CARD OF 'courierlaw03.IdentCamels'. -/
def identCamelsCard : Claim7 := { stood := { row := identCamelsRow, standIns := [], harness := (true, "18b1ed913c968c3ac9e63982edc37a87470daf76b5cda2eb10d2ae370bed455a"), looks := false }, kinds := [], alts := [], laidByText := true, laidKinds := [.data, .pinned], laidTests := true, laidLooks := .later }
def IdentCamelsCardSaid : Prop := Claim7.holds Tryd.pinned (.plain (OpenSpec.ofChange identCamelsSpec)) identCamelsCard

/-- THE TIED CARD OF 'courierlaw03.IdentSnakes'. -/
def identSnakesCard : Claim7 := { stood := { row := identSnakesRow, standIns := [], harness := (true, "18b1ed913c968c3ac9e63982edc37a87470daf76b5cda2eb10d2ae370bed455a"), looks := false }, kinds := [], alts := [], laidByText := true, laidKinds := [.data, .pinned], laidTests := true, laidLooks := .later }
def IdentSnakesCardSaid : Prop := Claim7.holds Tryd.pinned (.plain (OpenSpec.ofChange identSnakesSpec)) identSnakesCard

/-- THE TIED CARD OF 'courierlaw03.IdentPaths'. -/
def identPathsCard : Claim7 := { stood := { row := identPathsRow, standIns := [], harness := (true, "18b1ed913c968c3ac9e63982edc37a87470daf76b5cda2eb10d2ae370bed455a"), looks := false }, kinds := [], alts := [], laidByText := true, laidKinds := [.data, .pinned], laidTests := true, laidLooks := .later }
def IdentPathsCardSaid : Prop := Claim7.holds Tryd.pinned (.plain (OpenSpec.ofChange identPathsSpec)) identPathsCard

/-- THE SECOND FORM's CARD OF 'courierlaw12.TextQuotes'. -/
def textQuotesUptoCard : Claim7 := { stood := { row := textQuotesUptoRow, standIns := [], harness := (true, "18b1ed913c968c3ac9e63982edc37a87470daf76b5cda2eb10d2ae370bed455a"), looks := false }, kinds := [], alts := [], laidByText := true, laidKinds := [.data, .pinned], laidTests := true, laidLooks := .later }
def TextQuotesUptoCardSaid : Prop := Claim7.holds Tryd.pinned (.plain (OpenSpec.upto textQuotesSpec)) textQuotesUptoCard

/-- THE SECOND FORM's CARD OF 'courierlaw03.IdentNames'. -/
def identNamesUptoCard : Claim7 := { stood := { row := identNamesUptoRow, standIns := [], harness := (true, "18b1ed913c968c3ac9e63982edc37a87470daf76b5cda2eb10d2ae370bed455a"), looks := false }, kinds := [], alts := [], laidByText := true, laidKinds := [.data, .pinned], laidTests := true, laidLooks := .later }
def IdentNamesUptoCardSaid : Prop := Claim7.holds Tryd.pinned (.plain (OpenSpec.upto identNamesSpec)) identNamesUptoCard

/-- THE SECOND FORM's CARD OF 'courierlaw03.IdentCamels'. -/
def identCamelsUptoCard : Claim7 := { stood := { row := identCamelsUptoRow, standIns := [], harness := (true, "18b1ed913c968c3ac9e63982edc37a87470daf76b5cda2eb10d2ae370bed455a"), looks := false }, kinds := [], alts := [], laidByText := true, laidKinds := [.data, .pinned], laidTests := true, laidLooks := .later }
def IdentCamelsUptoCardSaid : Prop := Claim7.holds Tryd.pinned (.plain (OpenSpec.upto identCamelsSpec)) identCamelsUptoCard

/-- THE SECOND FORM's CARD OF 'courierlaw03.IdentSnakes'. -/
def identSnakesUptoCard : Claim7 := { stood := { row := identSnakesUptoRow, standIns := [], harness := (true, "18b1ed913c968c3ac9e63982edc37a87470daf76b5cda2eb10d2ae370bed455a"), looks := false }, kinds := [], alts := [], laidByText := true, laidKinds := [.data, .pinned], laidTests := true, laidLooks := .later }
def IdentSnakesUptoCardSaid : Prop := Claim7.holds Tryd.pinned (.plain (OpenSpec.upto identSnakesSpec)) identSnakesUptoCard

/-- THE SECOND FORM's CARD OF 'courierlaw03.IdentPaths'. -/
def identPathsUptoCard : Claim7 := { stood := { row := identPathsUptoRow, standIns := [], harness := (true, "18b1ed913c968c3ac9e63982edc37a87470daf76b5cda2eb10d2ae370bed455a"), looks := false }, kinds := [], alts := [], laidByText := true, laidKinds := [.data, .pinned], laidTests := true, laidLooks := .later }
def IdentPathsUptoCardSaid : Prop := Claim7.holds Tryd.pinned (.plain (OpenSpec.upto identPathsSpec)) identPathsUptoCard
end Rows
end Go.Proofs.YtgegclilhjhnmaaDoor
