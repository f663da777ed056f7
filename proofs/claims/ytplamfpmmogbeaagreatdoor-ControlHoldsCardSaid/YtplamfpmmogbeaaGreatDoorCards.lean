/-
  DERIVED. GIVEN WITH THE SEED: THE CARDS: each row of YtplamfpmmogbeaaGreatDoorRows.lean that lists a variable, with what it lists TIED to the program's text (the seventh form; the later family's looks); each row that meets fmt, with fmt's text TOLD by the authors' own Lean function (tested against real Go, not proved from fmt's source: count such statements apart). THE CARD IS WHAT COUNTS. Prove the row's statement (the work); the ties are given (YtplamfpmmogbeaaGreatDoorTie.lean); close each card by the builder's one call (the guide's Derived/Test/ToyasCard.lean, 'card_holds'). Laid BY PROGRAM, IN A SANDBOX (cutbox-door.mjs). By AI agents, Wed Nov 11 2026. No macro, syntax, notation, axiom, sorry.
-/
import Derived.Test.YtplamfpmmogbeaaGreatDoorRows
import GoSem.ClaimSeven
namespace Go.Proofs.YtplamfpmmogbeaaGreatDoor
namespace Rows

/-- THE TIED CARD OF 'antecedelaw44.ControlHolds'. -/
def controlHoldsCard : Claim7 := { stood := { row := controlHoldsRow, standIns := [], harness := (true, "c44e5c4d09644702a4fcbd77e27c11c3e5913cbaa7f83b25e4e33929e4799ab1"), looks := false }, kinds := [], alts := [], laidByText := true, laidKinds := [.data], laidTests := true, laidLooks := .later }
def ControlHoldsCardSaid : Prop := Claim7.holds Tryz.pinned (.plain (OpenSpec.ofChange controlHoldsSpec)) controlHoldsCard

/-- THE TIED CARD OF 'antecedelaw44.ControlOrders'. -/
def controlOrdersCard : Claim7 := { stood := { row := controlOrdersRow, standIns := [], harness := (true, "c44e5c4d09644702a4fcbd77e27c11c3e5913cbaa7f83b25e4e33929e4799ab1"), looks := false }, kinds := [], alts := [], laidByText := true, laidKinds := [.data], laidTests := true, laidLooks := .later }
def ControlOrdersCardSaid : Prop := Claim7.holds Tryz.pinned (.plain (OpenSpec.ofChange controlOrdersSpec)) controlOrdersCard

/-- THE TIED CARD OF 'antecedelaw44.ControlStretches'. -/
def controlStretchesCard : Claim7 := { stood := { row := controlStretchesRow, standIns := [], harness := (true, "c44e5c4d09644702a4fcbd77e27c11c3e5913cbaa7f83b25e4e33929e4799ab1"), looks := false }, kinds := [], alts := [], laidByText := true, laidKinds := [.data], laidTests := true, laidLooks := .later }
def ControlStretchesCardSaid : Prop := Claim7.holds Tryz.pinned (.plain (OpenSpec.ofChange controlStretchesSpec)) controlStretchesCard

/-- THE SECOND FORM's CARD OF 'antecedelaw44.ControlHolds'. -/
def controlHoldsUptoCard : Claim7 := { stood := { row := controlHoldsUptoRow, standIns := [], harness := (true, "c44e5c4d09644702a4fcbd77e27c11c3e5913cbaa7f83b25e4e33929e4799ab1"), looks := false }, kinds := [], alts := [], laidByText := true, laidKinds := [.data], laidTests := true, laidLooks := .later }
def ControlHoldsUptoCardSaid : Prop := Claim7.holds Tryz.pinned (.plain (OpenSpec.upto controlHoldsSpec)) controlHoldsUptoCard

/-- THE SECOND FORM's CARD OF 'antecedelaw44.ControlOrders'. -/
def controlOrdersUptoCard : Claim7 := { stood := { row := controlOrdersUptoRow, standIns := [], harness := (true, "c44e5c4d09644702a4fcbd77e27c11c3e5913cbaa7f83b25e4e33929e4799ab1"), looks := false }, kinds := [], alts := [], laidByText := true, laidKinds := [.data], laidTests := true, laidLooks := .later }
def ControlOrdersUptoCardSaid : Prop := Claim7.holds Tryz.pinned (.plain (OpenSpec.upto controlOrdersSpec)) controlOrdersUptoCard

/-- THE SECOND FORM's CARD OF 'antecedelaw44.ControlStretches'. -/
def controlStretchesUptoCard : Claim7 := { stood := { row := controlStretchesUptoRow, standIns := [], harness := (true, "c44e5c4d09644702a4fcbd77e27c11c3e5913cbaa7f83b25e4e33929e4799ab1"), looks := false }, kinds := [], alts := [], laidByText := true, laidKinds := [.data], laidTests := true, laidLooks := .later }
def ControlStretchesUptoCardSaid : Prop := Claim7.holds Tryz.pinned (.plain (OpenSpec.upto controlStretchesSpec)) controlStretchesUptoCard
end Rows
end Go.Proofs.YtplamfpmmogbeaaGreatDoor
