/-
  DERIVED. GIVEN WITH THE SEED: THE CARDS: each row of YtbijcgljnecakaaGreatDoorRows.lean that lists a variable, with what it lists TIED to the program's text (the seventh form; the later family's looks); each row that meets fmt, with fmt's text TOLD by the authors' own Lean function (tested against real Go, not proved from fmt's source: count such statements apart). THE CARD IS WHAT COUNTS. Prove the row's statement (the work); the ties are given (YtbijcgljnecakaaGreatDoorTie.lean); close each card by the builder's one call (the guide's Derived/Test/ToyasCard.lean, 'card_holds'). Laid BY PROGRAM, IN A SANDBOX (cutbox-door.mjs). By AI agents, Wed Nov 11 2026. No macro, syntax, notation, axiom, sorry.
-/
import Derived.Test.YtbijcgljnecakaaGreatDoorRows
import GoSem.ClaimSeven
namespace Go.Proofs.YtbijcgljnecakaaGreatDoor
namespace Rows

/-- THE TIED CARD OF 'antecedetop.TopIdeals'. -/
def topIdealsCard : Claim7 := { stood := { row := topIdealsRow, standIns := [], harness := (true, "25d66e9f9a0b67e21a8f77620fa0655e09a89b7dccc8fa2d1a0703d70c24f996"), looks := false }, kinds := [], alts := [], laidByText := true, laidKinds := [.data], laidTests := true, laidLooks := .later }
def TopIdealsCardSaid : Prop := Claim7.holds Tryz.pinned (.plain (OpenSpec.ofChange topIdealsSpec)) topIdealsCard

/-- THE SECOND FORM's CARD OF 'antecedetop.TopIdeals'. -/
def topIdealsUptoCard : Claim7 := { stood := { row := topIdealsUptoRow, standIns := [], harness := (true, "25d66e9f9a0b67e21a8f77620fa0655e09a89b7dccc8fa2d1a0703d70c24f996"), looks := false }, kinds := [], alts := [], laidByText := true, laidKinds := [.data], laidTests := true, laidLooks := .later }
def TopIdealsUptoCardSaid : Prop := Claim7.holds Tryz.pinned (.plain (OpenSpec.upto topIdealsSpec)) topIdealsUptoCard
end Rows
end Go.Proofs.YtbijcgljnecakaaGreatDoor
