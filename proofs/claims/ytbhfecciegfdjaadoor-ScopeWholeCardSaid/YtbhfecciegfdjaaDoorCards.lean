/-
  DERIVED. GIVEN WITH THE SEED: THE CARDS: each row of YtbhfecciegfdjaaDoorRows.lean that lists a variable, with what it lists TIED to the program's text (the seventh form; the later family's looks); each row that meets fmt, with fmt's text TOLD by the authors' own Lean function (tested against real Go, not proved from fmt's source: count such statements apart). THE CARD IS WHAT COUNTS. Prove the row's statement (the work); the ties are given (YtbhfecciegfdjaaDoorTie.lean); close each card by the builder's one call (the guide's Derived/Test/ToyasCard.lean, 'card_holds'). Laid BY PROGRAM, IN A SANDBOX (cutbox-door.mjs). By AI agents, Wed Nov 11 2026. No macro, syntax, notation, axiom, sorry.
-/
import Derived.Test.YtbhfecciegfdjaaDoorRows
import GoSem.ClaimSeven
namespace Go.Proofs.YtbhfecciegfdjaaDoor
namespace Rows

/-- THE TIED CARD OF 'courierlaw07.ScopeAll'. -/
def scopeAllCard : Claim7 := { stood := { row := scopeAllRow, standIns := [], harness := (true, "761e1fe2a0588b0115e13b0950d3f2dbdfb7ed4de99c1889b1b8128bdc2c1104"), looks := false }, kinds := [], alts := [], laidByText := true, laidKinds := [.data, .pinned], laidTests := true, laidLooks := .later }
def ScopeAllCardSaid : Prop := Claim7.holds Tryd.pinned (.plain (OpenSpec.ofChange scopeAllSpec)) scopeAllCard

/-- THE TIED CARD OF 'courierlaw07.ScopeWhole'. -/
def scopeWholeCard : Claim7 := { stood := { row := scopeWholeRow, standIns := [], harness := (true, "761e1fe2a0588b0115e13b0950d3f2dbdfb7ed4de99c1889b1b8128bdc2c1104"), looks := false }, kinds := [], alts := [], laidByText := true, laidKinds := [.data, .pinned], laidTests := true, laidLooks := .later }
def ScopeWholeCardSaid : Prop := Claim7.holds Tryd.pinned (.plain (OpenSpec.ofChange scopeWholeSpec)) scopeWholeCard

/-- THE SECOND FORM's CARD OF 'courierlaw07.ScopeAll'. -/
def scopeAllUptoCard : Claim7 := { stood := { row := scopeAllUptoRow, standIns := [], harness := (true, "761e1fe2a0588b0115e13b0950d3f2dbdfb7ed4de99c1889b1b8128bdc2c1104"), looks := false }, kinds := [], alts := [], laidByText := true, laidKinds := [.data, .pinned], laidTests := true, laidLooks := .later }
def ScopeAllUptoCardSaid : Prop := Claim7.holds Tryd.pinned (.plain (OpenSpec.upto scopeAllSpec)) scopeAllUptoCard

/-- THE SECOND FORM's CARD OF 'courierlaw07.ScopeWhole'. -/
def scopeWholeUptoCard : Claim7 := { stood := { row := scopeWholeUptoRow, standIns := [], harness := (true, "761e1fe2a0588b0115e13b0950d3f2dbdfb7ed4de99c1889b1b8128bdc2c1104"), looks := false }, kinds := [], alts := [], laidByText := true, laidKinds := [.data, .pinned], laidTests := true, laidLooks := .later }
def ScopeWholeUptoCardSaid : Prop := Claim7.holds Tryd.pinned (.plain (OpenSpec.upto scopeWholeSpec)) scopeWholeUptoCard
end Rows
end Go.Proofs.YtbhfecciegfdjaaDoor
