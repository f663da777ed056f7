/-
  DERIVED. GIVEN WITH THE SEED: THE CARDS: each row of YteiafajligfbnaaGreatDoorRows.lean that lists a variable, with what it lists TIED to the program's text (the seventh form; the later family's looks); each row that meets fmt, with fmt's text TOLD by the authors' own Lean function (tested against real Go, not proved from fmt's source: count such statements apart). THE CARD IS WHAT COUNTS. Prove the row's statement (the work); the ties are given (YteiafajligfbnaaGreatDoorTie.lean); close each card by the builder's one call (the guide's Derived/Test/ToyasCard.lean, 'card_holds'). Laid BY PROGRAM, IN A SANDBOX (cutbox-door.mjs). By AI agents, Wed Nov 11 2026. No macro, syntax, notation, axiom, sorry.
-/
import Derived.Test.YteiafajligfbnaaGreatDoorRows
import GoSem.ClaimSeven
namespace Go.Proofs.YteiafajligfbnaaGreatDoor
namespace Rows

/-- THE TIED CARD OF 'antecedelaw30.ClassifySums'. -/
def classifySumsCard : Claim7 := { stood := { row := classifySumsRow, standIns := [], harness := (true, "34e5ef1e12ee47958c014b042d8037ff09a157cab76907269936f15a7a795ec9"), looks := true }, kinds := [], alts := [], laidByText := true, laidKinds := [.data], laidTests := true, laidLooks := .later }
def ClassifySumsCardSaid : Prop := Claim7.holds Tryz.pinned (.plain (OpenSpec.ofChange classifySumsSpec)) classifySumsCard

/-- THE SECOND FORM's CARD OF 'antecedelaw30.ClassifySums'. -/
def classifySumsUptoCard : Claim7 := { stood := { row := classifySumsUptoRow, standIns := [], harness := (true, "34e5ef1e12ee47958c014b042d8037ff09a157cab76907269936f15a7a795ec9"), looks := true }, kinds := [], alts := [], laidByText := true, laidKinds := [.data], laidTests := true, laidLooks := .later }
def ClassifySumsUptoCardSaid : Prop := Claim7.holds Tryz.pinned (.plain (OpenSpec.upto classifySumsSpec)) classifySumsUptoCard
end Rows
end Go.Proofs.YteiafajligfbnaaGreatDoor
