/-
  DERIVED. GIVEN WITH THE SEED: THE CARDS: each row of YtpcmoecaaphjmaaGreatDoorRows.lean that lists a variable, with what it lists TIED to the program's text (the seventh form; the later family's looks); each row that meets fmt, with fmt's text TOLD by the authors' own Lean function (tested against real Go, not proved from fmt's source: count such statements apart). THE CARD IS WHAT COUNTS. Prove the row's statement (the work); the ties are given (YtpcmoecaaphjmaaGreatDoorTie.lean); close each card by the builder's one call (the guide's Derived/Test/ToyasCard.lean, 'card_holds'). Laid BY PROGRAM, IN A SANDBOX (cutbox-door.mjs). By AI agents, Wed Nov 11 2026. No macro, syntax, notation, axiom, sorry.
-/
import Derived.Test.YtpcmoecaaphjmaaGreatDoorRows
import GoSem.ClaimSeven
namespace Go.Proofs.YtpcmoecaaphjmaaGreatDoor
namespace Rows

/-- THE TIED CARD OF 'antecedelaw33.IrreducibleLeast'. -/
def irreducibleLeastCard : Claim7 := { stood := { row := irreducibleLeastRow, standIns := [], harness := (true, "ff6e78b51be076750842e076a1beb29822758a3d2608063dd5af195d080d3cc1"), looks := true }, kinds := [], alts := [], laidByText := true, laidKinds := [.data], laidTests := true, laidLooks := .later }
def IrreducibleLeastCardSaid : Prop := Claim7.holds Tryz.pinned (.plain (OpenSpec.ofChange irreducibleLeastSpec)) irreducibleLeastCard

/-- THE TIED CARD OF 'antecedelaw33.IrreducibleEvents'. -/
def irreducibleEventsCard : Claim7 := { stood := { row := irreducibleEventsRow, standIns := [], harness := (true, "ff6e78b51be076750842e076a1beb29822758a3d2608063dd5af195d080d3cc1"), looks := true }, kinds := [], alts := [], laidByText := true, laidKinds := [.data], laidTests := true, laidLooks := .later }
def IrreducibleEventsCardSaid : Prop := Claim7.holds Tryz.pinned (.plain (OpenSpec.ofChange irreducibleEventsSpec)) irreducibleEventsCard

/-- THE TIED CARD OF 'antecedelaw33.IrreducibleLists'. -/
def irreducibleListsCard : Claim7 := { stood := { row := irreducibleListsRow, standIns := [], harness := (true, "ff6e78b51be076750842e076a1beb29822758a3d2608063dd5af195d080d3cc1"), looks := true }, kinds := [], alts := [], laidByText := true, laidKinds := [.data], laidTests := true, laidLooks := .later }
def IrreducibleListsCardSaid : Prop := Claim7.holds Tryz.pinned (.plain (OpenSpec.ofChange irreducibleListsSpec)) irreducibleListsCard

/-- THE SECOND FORM's CARD OF 'antecedelaw33.IrreducibleLeast'. -/
def irreducibleLeastUptoCard : Claim7 := { stood := { row := irreducibleLeastUptoRow, standIns := [], harness := (true, "ff6e78b51be076750842e076a1beb29822758a3d2608063dd5af195d080d3cc1"), looks := true }, kinds := [], alts := [], laidByText := true, laidKinds := [.data], laidTests := true, laidLooks := .later }
def IrreducibleLeastUptoCardSaid : Prop := Claim7.holds Tryz.pinned (.plain (OpenSpec.upto irreducibleLeastSpec)) irreducibleLeastUptoCard

/-- THE SECOND FORM's CARD OF 'antecedelaw33.IrreducibleEvents'. -/
def irreducibleEventsUptoCard : Claim7 := { stood := { row := irreducibleEventsUptoRow, standIns := [], harness := (true, "ff6e78b51be076750842e076a1beb29822758a3d2608063dd5af195d080d3cc1"), looks := true }, kinds := [], alts := [], laidByText := true, laidKinds := [.data], laidTests := true, laidLooks := .later }
def IrreducibleEventsUptoCardSaid : Prop := Claim7.holds Tryz.pinned (.plain (OpenSpec.upto irreducibleEventsSpec)) irreducibleEventsUptoCard

/-- THE SECOND FORM's CARD OF 'antecedelaw33.IrreducibleLists'. -/
def irreducibleListsUptoCard : Claim7 := { stood := { row := irreducibleListsUptoRow, standIns := [], harness := (true, "ff6e78b51be076750842e076a1beb29822758a3d2608063dd5af195d080d3cc1"), looks := true }, kinds := [], alts := [], laidByText := true, laidKinds := [.data], laidTests := true, laidLooks := .later }
def IrreducibleListsUptoCardSaid : Prop := Claim7.holds Tryz.pinned (.plain (OpenSpec.upto irreducibleListsSpec)) irreducibleListsUptoCard
end Rows
end Go.Proofs.YtpcmoecaaphjmaaGreatDoor
