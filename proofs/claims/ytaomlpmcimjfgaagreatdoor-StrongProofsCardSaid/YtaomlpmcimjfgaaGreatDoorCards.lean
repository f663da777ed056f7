/-
  DERIVED. GIVEN WITH THE SEED: THE CARDS: each row of YtaomlpmcimjfgaaGreatDoorRows.lean that lists a variable, with what it lists TIED to the program's text (the seventh form; the later family's looks); each row that meets fmt, with fmt's text TOLD by the authors' own Lean function (tested against real Go, not proved from fmt's source: count such statements apart). THE CARD IS WHAT COUNTS. Prove the row's statement (the work); the ties are given (YtaomlpmcimjfgaaGreatDoorTie.lean); close each card by the builder's one call (the guide's Derived/Test/ToyasCard.lean, 'card_holds'). Laid BY PROGRAM, IN A SANDBOX (cutbox-door.mjs). By AI agents, Wed Nov 11 2026. No macro, syntax, notation, axiom, sorry.
-/
import Derived.Test.YtaomlpmcimjfgaaGreatDoorRows
import GoSem.ClaimSeven
namespace Go.Proofs.YtaomlpmcimjfgaaGreatDoor
namespace Rows

/-- THE TIED CARD OF 'antecedelaw38.StrongAnswers'. -/
def strongAnswersCard : Claim7 := { stood := { row := strongAnswersRow, standIns := [], harness := (true, "feb4ae6c391a5ee27601d7ed0597ba81bf03c540b3eb534930d4f4f112ae939f"), looks := false }, kinds := [], alts := [], laidByText := true, laidKinds := [.data], laidTests := true, laidLooks := .later }
def StrongAnswersCardSaid : Prop := Claim7.holds Tryz.pinned (.plain (OpenSpec.ofChange strongAnswersSpec)) strongAnswersCard

/-- THE TIED CARD OF 'antecedelaw38.StrongOverlaps'. -/
def strongOverlapsCard : Claim7 := { stood := { row := strongOverlapsRow, standIns := [], harness := (true, "feb4ae6c391a5ee27601d7ed0597ba81bf03c540b3eb534930d4f4f112ae939f"), looks := false }, kinds := [], alts := [], laidByText := true, laidKinds := [.data], laidTests := true, laidLooks := .later }
def StrongOverlapsCardSaid : Prop := Claim7.holds Tryz.pinned (.plain (OpenSpec.ofChange strongOverlapsSpec)) strongOverlapsCard

/-- THE TIED CARD OF 'antecedelaw38.StrongChecks'. -/
def strongChecksCard : Claim7 := { stood := { row := strongChecksRow, standIns := [], harness := (true, "feb4ae6c391a5ee27601d7ed0597ba81bf03c540b3eb534930d4f4f112ae939f"), looks := false }, kinds := [], alts := [], laidByText := true, laidKinds := [.data], laidTests := true, laidLooks := .later }
def StrongChecksCardSaid : Prop := Claim7.holds Tryz.pinned (.plain (OpenSpec.ofChange strongChecksSpec)) strongChecksCard

/-- THE TIED CARD OF 'antecedelaw38.StrongProofs'. -/
def strongProofsCard : Claim7 := { stood := { row := strongProofsRow, standIns := [], harness := (true, "feb4ae6c391a5ee27601d7ed0597ba81bf03c540b3eb534930d4f4f112ae939f"), looks := false }, kinds := [], alts := [], laidByText := true, laidKinds := [.data], laidTests := true, laidLooks := .later }
def StrongProofsCardSaid : Prop := Claim7.holds Tryz.pinned (.plain (OpenSpec.ofChange strongProofsSpec)) strongProofsCard

/-- THE SECOND FORM's CARD OF 'antecedelaw38.StrongAnswers'. -/
def strongAnswersUptoCard : Claim7 := { stood := { row := strongAnswersUptoRow, standIns := [], harness := (true, "feb4ae6c391a5ee27601d7ed0597ba81bf03c540b3eb534930d4f4f112ae939f"), looks := false }, kinds := [], alts := [], laidByText := true, laidKinds := [.data], laidTests := true, laidLooks := .later }
def StrongAnswersUptoCardSaid : Prop := Claim7.holds Tryz.pinned (.plain (OpenSpec.upto strongAnswersSpec)) strongAnswersUptoCard

/-- THE SECOND FORM's CARD OF 'antecedelaw38.StrongOverlaps'. -/
def strongOverlapsUptoCard : Claim7 := { stood := { row := strongOverlapsUptoRow, standIns := [], harness := (true, "feb4ae6c391a5ee27601d7ed0597ba81bf03c540b3eb534930d4f4f112ae939f"), looks := false }, kinds := [], alts := [], laidByText := true, laidKinds := [.data], laidTests := true, laidLooks := .later }
def StrongOverlapsUptoCardSaid : Prop := Claim7.holds Tryz.pinned (.plain (OpenSpec.upto strongOverlapsSpec)) strongOverlapsUptoCard

/-- THE SECOND FORM's CARD OF 'antecedelaw38.StrongChecks'. -/
def strongChecksUptoCard : Claim7 := { stood := { row := strongChecksUptoRow, standIns := [], harness := (true, "feb4ae6c391a5ee27601d7ed0597ba81bf03c540b3eb534930d4f4f112ae939f"), looks := false }, kinds := [], alts := [], laidByText := true, laidKinds := [.data], laidTests := true, laidLooks := .later }
def StrongChecksUptoCardSaid : Prop := Claim7.holds Tryz.pinned (.plain (OpenSpec.upto strongChecksSpec)) strongChecksUptoCard

/-- THE SECOND FORM's CARD OF 'antecedelaw38.StrongProofs'. -/
def strongProofsUptoCard : Claim7 := { stood := { row := strongProofsUptoRow, standIns := [], harness := (true, "feb4ae6c391a5ee27601d7ed0597ba81bf03c540b3eb534930d4f4f112ae939f"), looks := false }, kinds := [], alts := [], laidByText := true, laidKinds := [.data], laidTests := true, laidLooks := .later }
def StrongProofsUptoCardSaid : Prop := Claim7.holds Tryz.pinned (.plain (OpenSpec.upto strongProofsSpec)) strongProofsUptoCard
end Rows
end Go.Proofs.YtaomlpmcimjfgaaGreatDoor
