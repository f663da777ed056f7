/-
  DERIVED. GIVEN WITH THE SEED: THE CARDS: each row of YtnpagaiphamfaaaGreatDoorRows.lean that lists a variable, with what it lists TIED to the program's text (the seventh form; the later family's looks); each row that meets fmt, with fmt's text TOLD by the authors' own Lean function (tested against real Go, not proved from fmt's source: count such statements apart). THE CARD IS WHAT COUNTS. Prove the row's statement (the work); the ties are given (YtnpagaiphamfaaaGreatDoorTie.lean); close each card by the builder's one call (the guide's Derived/Test/ToyasCard.lean, 'card_holds'). Laid BY PROGRAM, IN A SANDBOX (cutbox-door.mjs). By AI agents, Wed Nov 11 2026. No macro, syntax, notation, axiom, sorry.
-/
import Derived.Test.YtnpagaiphamfaaaGreatDoorRows
import GoSem.ClaimSeven
namespace Go.Proofs.YtnpagaiphamfaaaGreatDoor
namespace Rows

/-- THE TIED CARD OF 'antecedelaw38.StrongBoxes'. -/
def strongBoxesCard : Claim7 := { stood := { row := strongBoxesRow, standIns := [], harness := (true, "9763ee2d1190aab62ea4adeec5de8b330e469d1a534a2d2883b352253da087c9"), looks := false }, kinds := [], alts := [], laidByText := true, laidKinds := [.data], laidTests := true, laidLooks := .later }
def StrongBoxesCardSaid : Prop := Claim7.holds Tryz.pinned (.plain (OpenSpec.ofChange strongBoxesSpec)) strongBoxesCard

/-- THE TIED CARD OF 'antecedelaw38.StrongBarrier'. -/
def strongBarrierCard : Claim7 := { stood := { row := strongBarrierRow, standIns := [], harness := (true, "9763ee2d1190aab62ea4adeec5de8b330e469d1a534a2d2883b352253da087c9"), looks := false }, kinds := [], alts := [], laidByText := true, laidKinds := [.data], laidTests := true, laidLooks := .later }
def StrongBarrierCardSaid : Prop := Claim7.holds Tryz.pinned (.plain (OpenSpec.ofChange strongBarrierSpec)) strongBarrierCard

/-- THE TIED CARD OF 'antecedelaw38.StrongLattice'. -/
def strongLatticeCard : Claim7 := { stood := { row := strongLatticeRow, standIns := [], harness := (true, "9763ee2d1190aab62ea4adeec5de8b330e469d1a534a2d2883b352253da087c9"), looks := false }, kinds := [], alts := [], laidByText := true, laidKinds := [.data], laidTests := true, laidLooks := .later }
def StrongLatticeCardSaid : Prop := Claim7.holds Tryz.pinned (.plain (OpenSpec.ofChange strongLatticeSpec)) strongLatticeCard

/-- THE SECOND FORM's CARD OF 'antecedelaw38.StrongBoxes'. -/
def strongBoxesUptoCard : Claim7 := { stood := { row := strongBoxesUptoRow, standIns := [], harness := (true, "9763ee2d1190aab62ea4adeec5de8b330e469d1a534a2d2883b352253da087c9"), looks := false }, kinds := [], alts := [], laidByText := true, laidKinds := [.data], laidTests := true, laidLooks := .later }
def StrongBoxesUptoCardSaid : Prop := Claim7.holds Tryz.pinned (.plain (OpenSpec.upto strongBoxesSpec)) strongBoxesUptoCard

/-- THE SECOND FORM's CARD OF 'antecedelaw38.StrongBarrier'. -/
def strongBarrierUptoCard : Claim7 := { stood := { row := strongBarrierUptoRow, standIns := [], harness := (true, "9763ee2d1190aab62ea4adeec5de8b330e469d1a534a2d2883b352253da087c9"), looks := false }, kinds := [], alts := [], laidByText := true, laidKinds := [.data], laidTests := true, laidLooks := .later }
def StrongBarrierUptoCardSaid : Prop := Claim7.holds Tryz.pinned (.plain (OpenSpec.upto strongBarrierSpec)) strongBarrierUptoCard

/-- THE SECOND FORM's CARD OF 'antecedelaw38.StrongLattice'. -/
def strongLatticeUptoCard : Claim7 := { stood := { row := strongLatticeUptoRow, standIns := [], harness := (true, "9763ee2d1190aab62ea4adeec5de8b330e469d1a534a2d2883b352253da087c9"), looks := false }, kinds := [], alts := [], laidByText := true, laidKinds := [.data], laidTests := true, laidLooks := .later }
def StrongLatticeUptoCardSaid : Prop := Claim7.holds Tryz.pinned (.plain (OpenSpec.upto strongLatticeSpec)) strongLatticeUptoCard
end Rows
end Go.Proofs.YtnpagaiphamfaaaGreatDoor
