/-
  DERIVED. GIVEN WITH THE SEED: THE CARDS: each row of YtcgmgbmhnmeadaaGreatDoorRows.lean that lists a variable, with what it lists TIED to the program's text (the seventh form; the later family's looks); each row that meets fmt, with fmt's text TOLD by the authors' own Lean function (tested against real Go, not proved from fmt's source: count such statements apart). THE CARD IS WHAT COUNTS. Prove the row's statement (the work); the ties are given (YtcgmgbmhnmeadaaGreatDoorTie.lean); close each card by the builder's one call (the guide's Derived/Test/ToyasCard.lean, 'card_holds'). Laid BY PROGRAM, IN A SANDBOX (cutbox-door.mjs). By AI agents, Wed Nov 11 2026. No macro, syntax, notation, axiom, sorry.
-/
import Derived.Test.YtcgmgbmhnmeadaaGreatDoorRows
import GoSem.ClaimSeven
namespace Go.Proofs.YtcgmgbmhnmeadaaGreatDoor
namespace Rows

/-- THE TIED CARD OF 'antecedelaw37.ConjunctiveLattice'. -/
def conjunctiveLatticeCard : Claim7 := { stood := { row := conjunctiveLatticeRow, standIns := [], harness := (true, "0bd628c6b009e0d1b206652ce9194454392b786398306245155b6c14273f46cf"), looks := false }, kinds := [], alts := [], laidByText := true, laidKinds := [.data], laidTests := true, laidLooks := .later }
def ConjunctiveLatticeCardSaid : Prop := Claim7.holds Tryz.pinned (.plain (OpenSpec.ofChange conjunctiveLatticeSpec)) conjunctiveLatticeCard

/-- THE SECOND FORM's CARD OF 'antecedelaw37.ConjunctiveLattice'. -/
def conjunctiveLatticeUptoCard : Claim7 := { stood := { row := conjunctiveLatticeUptoRow, standIns := [], harness := (true, "0bd628c6b009e0d1b206652ce9194454392b786398306245155b6c14273f46cf"), looks := false }, kinds := [], alts := [], laidByText := true, laidKinds := [.data], laidTests := true, laidLooks := .later }
def ConjunctiveLatticeUptoCardSaid : Prop := Claim7.holds Tryz.pinned (.plain (OpenSpec.upto conjunctiveLatticeSpec)) conjunctiveLatticeUptoCard
end Rows
end Go.Proofs.YtcgmgbmhnmeadaaGreatDoor
