/-
  DERIVED. GIVEN WITH THE SEED: THE CARDS: each row of YtkkcgocdmaodbaaGreatDoorRows.lean that lists a variable, with what it lists TIED to the program's text (the seventh form; the later family's looks); each row that meets fmt, with fmt's text TOLD by the authors' own Lean function (tested against real Go, not proved from fmt's source: count such statements apart). THE CARD IS WHAT COUNTS. Prove the row's statement (the work); the ties are given (YtkkcgocdmaodbaaGreatDoorTie.lean); close each card by the builder's one call (the guide's Derived/Test/ToyasCard.lean, 'card_holds'). Laid BY PROGRAM, IN A SANDBOX (cutbox-door.mjs). By AI agents, Wed Nov 11 2026. No macro, syntax, notation, axiom, sorry.
-/
import Derived.Test.YtkkcgocdmaodbaaGreatDoorRows
import GoSem.ClaimSeven
namespace Go.Proofs.YtkkcgocdmaodbaaGreatDoor
namespace Rows

/-- THE TIED CARD OF 'antecedelaw44.ControlRuns'. -/
def controlRunsCard : Claim7 := { stood := { row := controlRunsRow, standIns := [], harness := (true, "234dca6cc18b8ccfa45a751f90b11e16044610c19161bd77f204c906f7af3a4e"), looks := false }, kinds := [], alts := [], laidByText := true, laidKinds := [.data], laidTests := true, laidLooks := .later }
def ControlRunsCardSaid : Prop := Claim7.holds Tryz.pinned (.plain (OpenSpec.ofChange controlRunsSpec)) controlRunsCard

/-- THE TIED CARD OF 'antecedelaw44.ControlRefused'. -/
def controlRefusedCard : Claim7 := { stood := { row := controlRefusedRow, standIns := [], harness := (true, "234dca6cc18b8ccfa45a751f90b11e16044610c19161bd77f204c906f7af3a4e"), looks := false }, kinds := [], alts := [], laidByText := true, laidKinds := [.data], laidTests := true, laidLooks := .later }
def ControlRefusedCardSaid : Prop := Claim7.holds Tryz.pinned (.plain (OpenSpec.ofChange controlRefusedSpec)) controlRefusedCard

/-- THE TIED CARD OF 'antecedelaw44.ControlChecks'. -/
def controlChecksCard : Claim7 := { stood := { row := controlChecksRow, standIns := [], harness := (true, "234dca6cc18b8ccfa45a751f90b11e16044610c19161bd77f204c906f7af3a4e"), looks := false }, kinds := [], alts := [], laidByText := true, laidKinds := [.data], laidTests := true, laidLooks := .later }
def ControlChecksCardSaid : Prop := Claim7.holds Tryz.pinned (.plain (OpenSpec.ofChange controlChecksSpec)) controlChecksCard

/-- THE SECOND FORM's CARD OF 'antecedelaw44.ControlRuns'. -/
def controlRunsUptoCard : Claim7 := { stood := { row := controlRunsUptoRow, standIns := [], harness := (true, "234dca6cc18b8ccfa45a751f90b11e16044610c19161bd77f204c906f7af3a4e"), looks := false }, kinds := [], alts := [], laidByText := true, laidKinds := [.data], laidTests := true, laidLooks := .later }
def ControlRunsUptoCardSaid : Prop := Claim7.holds Tryz.pinned (.plain (OpenSpec.upto controlRunsSpec)) controlRunsUptoCard

/-- THE SECOND FORM's CARD OF 'antecedelaw44.ControlRefused'. -/
def controlRefusedUptoCard : Claim7 := { stood := { row := controlRefusedUptoRow, standIns := [], harness := (true, "234dca6cc18b8ccfa45a751f90b11e16044610c19161bd77f204c906f7af3a4e"), looks := false }, kinds := [], alts := [], laidByText := true, laidKinds := [.data], laidTests := true, laidLooks := .later }
def ControlRefusedUptoCardSaid : Prop := Claim7.holds Tryz.pinned (.plain (OpenSpec.upto controlRefusedSpec)) controlRefusedUptoCard

/-- THE SECOND FORM's CARD OF 'antecedelaw44.ControlChecks'. -/
def controlChecksUptoCard : Claim7 := { stood := { row := controlChecksUptoRow, standIns := [], harness := (true, "234dca6cc18b8ccfa45a751f90b11e16044610c19161bd77f204c906f7af3a4e"), looks := false }, kinds := [], alts := [], laidByText := true, laidKinds := [.data], laidTests := true, laidLooks := .later }
def ControlChecksUptoCardSaid : Prop := Claim7.holds Tryz.pinned (.plain (OpenSpec.upto controlChecksSpec)) controlChecksUptoCard
end Rows
end Go.Proofs.YtkkcgocdmaodbaaGreatDoor
