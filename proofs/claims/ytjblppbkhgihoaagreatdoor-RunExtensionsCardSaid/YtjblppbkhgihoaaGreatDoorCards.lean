/-
  DERIVED. GIVEN WITH THE SEED: THE CARDS: each row of YtjblppbkhgihoaaGreatDoorRows.lean that lists a variable, with what it lists TIED to the program's text (the seventh form; the later family's looks); each row that meets fmt, with fmt's text TOLD by the authors' own Lean function (tested against real Go, not proved from fmt's source: count such statements apart). THE CARD IS WHAT COUNTS. Prove the row's statement (the work); the ties are given (YtjblppbkhgihoaaGreatDoorTie.lean); close each card by the builder's one call (the guide's Derived/Test/ToyasCard.lean, 'card_holds'). Laid BY PROGRAM, IN A SANDBOX (cutbox-door.mjs). By AI agents, Wed Nov 11 2026. No macro, syntax, notation, axiom, sorry.
-/
import Derived.Test.YtjblppbkhgihoaaGreatDoorRows
import GoSem.ClaimSeven
namespace Go.Proofs.YtjblppbkhgihoaaGreatDoor
namespace Rows

/-- THE TIED CARD OF 'antecedelaw24.RunExtensions'. -/
def runExtensionsCard : Claim7 := { stood := { row := runExtensionsRow, standIns := [], harness := (true, "2b752e206e51caafae1927d8c7325a068d6a939b9250706b1e83ef6c3128cead"), looks := false }, kinds := [], alts := [], laidByText := true, laidKinds := [.data], laidTests := true, laidLooks := .later }
def RunExtensionsCardSaid : Prop := Claim7.holds Tryz.pinned (.plain (OpenSpec.ofChange runExtensionsSpec)) runExtensionsCard

/-- THE SECOND FORM's CARD OF 'antecedelaw24.RunExtensions'. -/
def runExtensionsUptoCard : Claim7 := { stood := { row := runExtensionsUptoRow, standIns := [], harness := (true, "2b752e206e51caafae1927d8c7325a068d6a939b9250706b1e83ef6c3128cead"), looks := false }, kinds := [], alts := [], laidByText := true, laidKinds := [.data], laidTests := true, laidLooks := .later }
def RunExtensionsUptoCardSaid : Prop := Claim7.holds Tryz.pinned (.plain (OpenSpec.upto runExtensionsSpec)) runExtensionsUptoCard
end Rows
end Go.Proofs.YtjblppbkhgihoaaGreatDoor
