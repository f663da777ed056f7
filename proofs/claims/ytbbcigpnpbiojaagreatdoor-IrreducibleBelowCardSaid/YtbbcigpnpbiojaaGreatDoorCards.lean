/-
  DERIVED. GIVEN WITH THE SEED: THE CARDS: each row of YtbbcigpnpbiojaaGreatDoorRows.lean that lists a variable, with what it lists TIED to the program's text (the seventh form; the later family's looks); each row that meets fmt, with fmt's text TOLD by the authors' own Lean function (tested against real Go, not proved from fmt's source: count such statements apart). THE CARD IS WHAT COUNTS. Prove the row's statement (the work); the ties are given (YtbbcigpnpbiojaaGreatDoorTie.lean); close each card by the builder's one call (the guide's Derived/Test/ToyasCard.lean, 'card_holds'). Laid BY PROGRAM, IN A SANDBOX (cutbox-door.mjs). By AI agents, Wed Nov 11 2026. No macro, syntax, notation, axiom, sorry.
-/
import Derived.Test.YtbbcigpnpbiojaaGreatDoorRows
import GoSem.ClaimSeven
namespace Go.Proofs.YtbbcigpnpbiojaaGreatDoor
namespace Rows

/-- THE TIED CARD OF 'antecedelaw33.IrreducibleBelow'. -/
def irreducibleBelowCard : Claim7 := { stood := { row := irreducibleBelowRow, standIns := [], harness := (true, "3655130b071a1814819d6b5b0c28e92a394c1f4d7e585f0b6ea495bfea9d4837"), looks := true }, kinds := [], alts := [], laidByText := true, laidKinds := [.data], laidTests := true, laidLooks := .later }
def IrreducibleBelowCardSaid : Prop := Claim7.holds Tryz.pinned (.plain (OpenSpec.ofChange irreducibleBelowSpec)) irreducibleBelowCard

/-- THE SECOND FORM's CARD OF 'antecedelaw33.IrreducibleBelow'. -/
def irreducibleBelowUptoCard : Claim7 := { stood := { row := irreducibleBelowUptoRow, standIns := [], harness := (true, "3655130b071a1814819d6b5b0c28e92a394c1f4d7e585f0b6ea495bfea9d4837"), looks := true }, kinds := [], alts := [], laidByText := true, laidKinds := [.data], laidTests := true, laidLooks := .later }
def IrreducibleBelowUptoCardSaid : Prop := Claim7.holds Tryz.pinned (.plain (OpenSpec.upto irreducibleBelowSpec)) irreducibleBelowUptoCard
end Rows
end Go.Proofs.YtbbcigpnpbiojaaGreatDoor
