/-
  DERIVED. GIVEN WITH THE SEED: THE CARDS: each row of YtbegiibjiidkmaaGreatDoorRows.lean that lists a variable, with what it lists TIED to the program's text (the seventh form; the later family's looks); each row that meets fmt, with fmt's text TOLD by the authors' own Lean function (tested against real Go, not proved from fmt's source: count such statements apart). THE CARD IS WHAT COUNTS. Prove the row's statement (the work); the ties are given (YtbegiibjiidkmaaGreatDoorTie.lean); close each card by the builder's one call (the guide's Derived/Test/ToyasCard.lean, 'card_holds'). Laid BY PROGRAM, IN A SANDBOX (cutbox-door.mjs). By AI agents, Wed Nov 11 2026. No macro, syntax, notation, axiom, sorry.
-/
import Derived.Test.YtbegiibjiidkmaaGreatDoorRows
import GoSem.ClaimSeven
namespace Go.Proofs.YtbegiibjiidkmaaGreatDoor
namespace Rows

/-- THE TIED CARD OF 'antecedelaw44.ControlChecks'. -/
def controlChecksCard : Claim7 := { stood := { row := controlChecksRow, standIns := [], harness := (true, "20fc4bb658e06bb9aa0460cd1c7000575d2d60702e2ab478c69a8f2cd2462002"), looks := false }, kinds := [], alts := [], laidByText := true, laidKinds := [.data], laidTests := true, laidLooks := .later }
def ControlChecksCardSaid : Prop := Claim7.holds Tryz.pinned (.plain (OpenSpec.ofChange controlChecksSpec)) controlChecksCard

/-- THE TIED CARD OF 'antecedelaw44.ControlExtends'. -/
def controlExtendsCard : Claim7 := { stood := { row := controlExtendsRow, standIns := [], harness := (true, "20fc4bb658e06bb9aa0460cd1c7000575d2d60702e2ab478c69a8f2cd2462002"), looks := false }, kinds := [], alts := [], laidByText := true, laidKinds := [.data, .data], laidTests := true, laidLooks := .later }
def ControlExtendsCardSaid : Prop := Claim7.holds Tryz.pinned (.plain (OpenSpec.ofChange controlExtendsSpec)) controlExtendsCard

/-- THE SECOND FORM's CARD OF 'antecedelaw44.ControlChecks'. -/
def controlChecksUptoCard : Claim7 := { stood := { row := controlChecksUptoRow, standIns := [], harness := (true, "20fc4bb658e06bb9aa0460cd1c7000575d2d60702e2ab478c69a8f2cd2462002"), looks := false }, kinds := [], alts := [], laidByText := true, laidKinds := [.data], laidTests := true, laidLooks := .later }
def ControlChecksUptoCardSaid : Prop := Claim7.holds Tryz.pinned (.plain (OpenSpec.upto controlChecksSpec)) controlChecksUptoCard

/-- THE SECOND FORM's CARD OF 'antecedelaw44.ControlExtends'. -/
def controlExtendsUptoCard : Claim7 := { stood := { row := controlExtendsUptoRow, standIns := [], harness := (true, "20fc4bb658e06bb9aa0460cd1c7000575d2d60702e2ab478c69a8f2cd2462002"), looks := false }, kinds := [], alts := [], laidByText := true, laidKinds := [.data, .data], laidTests := true, laidLooks := .later }
def ControlExtendsUptoCardSaid : Prop := Claim7.holds Tryz.pinned (.plain (OpenSpec.upto controlExtendsSpec)) controlExtendsUptoCard
end Rows
end Go.Proofs.YtbegiibjiidkmaaGreatDoor
