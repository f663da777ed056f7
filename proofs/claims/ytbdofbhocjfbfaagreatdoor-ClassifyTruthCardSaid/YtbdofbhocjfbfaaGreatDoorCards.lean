/-
  DERIVED. GIVEN WITH THE SEED: THE CARDS: each row of YtbdofbhocjfbfaaGreatDoorRows.lean that lists a variable, with what it lists TIED to the program's text (the seventh form; the later family's looks); each row that meets fmt, with fmt's text TOLD by the authors' own Lean function (tested against real Go, not proved from fmt's source: count such statements apart). THE CARD IS WHAT COUNTS. Prove the row's statement (the work); the ties are given (YtbdofbhocjfbfaaGreatDoorTie.lean); close each card by the builder's one call (the guide's Derived/Test/ToyasCard.lean, 'card_holds'). Laid BY PROGRAM, IN A SANDBOX (cutbox-door.mjs). By AI agents, Wed Nov 11 2026. No macro, syntax, notation, axiom, sorry.
-/
import Derived.Test.YtbdofbhocjfbfaaGreatDoorRows
import GoSem.ClaimSeven
namespace Go.Proofs.YtbdofbhocjfbfaaGreatDoor
namespace Rows

/-- THE TIED CARD OF 'antecedelaw30.ClassifyForms'. -/
def classifyFormsCard : Claim7 := { stood := { row := classifyFormsRow, standIns := [], harness := (true, "c4042b8265ddba8512b8b45dea96d179adf40543f8b9af76ba2ce93af1bb9ba7"), looks := true }, kinds := [], alts := [], laidByText := true, laidKinds := [.data], laidTests := true, laidLooks := .later }
def ClassifyFormsCardSaid : Prop := Claim7.holds Tryz.pinned (.plain (OpenSpec.ofChange classifyFormsSpec)) classifyFormsCard

/-- THE TIED CARD OF 'antecedelaw30.ClassifyNormals'. -/
def classifyNormalsCard : Claim7 := { stood := { row := classifyNormalsRow, standIns := [], harness := (true, "c4042b8265ddba8512b8b45dea96d179adf40543f8b9af76ba2ce93af1bb9ba7"), looks := true }, kinds := [], alts := [], laidByText := true, laidKinds := [.data], laidTests := true, laidLooks := .later }
def ClassifyNormalsCardSaid : Prop := Claim7.holds Tryz.pinned (.plain (OpenSpec.ofChange classifyNormalsSpec)) classifyNormalsCard

/-- THE TIED CARD OF 'antecedelaw30.ClassifyTruth'. -/
def classifyTruthCard : Claim7 := { stood := { row := classifyTruthRow, standIns := [], harness := (true, "c4042b8265ddba8512b8b45dea96d179adf40543f8b9af76ba2ce93af1bb9ba7"), looks := true }, kinds := [], alts := [], laidByText := true, laidKinds := [.data], laidTests := true, laidLooks := .later }
def ClassifyTruthCardSaid : Prop := Claim7.holds Tryz.pinned (.plain (OpenSpec.ofChange classifyTruthSpec)) classifyTruthCard

/-- THE SECOND FORM's CARD OF 'antecedelaw30.ClassifyForms'. -/
def classifyFormsUptoCard : Claim7 := { stood := { row := classifyFormsUptoRow, standIns := [], harness := (true, "c4042b8265ddba8512b8b45dea96d179adf40543f8b9af76ba2ce93af1bb9ba7"), looks := true }, kinds := [], alts := [], laidByText := true, laidKinds := [.data], laidTests := true, laidLooks := .later }
def ClassifyFormsUptoCardSaid : Prop := Claim7.holds Tryz.pinned (.plain (OpenSpec.upto classifyFormsSpec)) classifyFormsUptoCard

/-- THE SECOND FORM's CARD OF 'antecedelaw30.ClassifyNormals'. -/
def classifyNormalsUptoCard : Claim7 := { stood := { row := classifyNormalsUptoRow, standIns := [], harness := (true, "c4042b8265ddba8512b8b45dea96d179adf40543f8b9af76ba2ce93af1bb9ba7"), looks := true }, kinds := [], alts := [], laidByText := true, laidKinds := [.data], laidTests := true, laidLooks := .later }
def ClassifyNormalsUptoCardSaid : Prop := Claim7.holds Tryz.pinned (.plain (OpenSpec.upto classifyNormalsSpec)) classifyNormalsUptoCard

/-- THE SECOND FORM's CARD OF 'antecedelaw30.ClassifyTruth'. -/
def classifyTruthUptoCard : Claim7 := { stood := { row := classifyTruthUptoRow, standIns := [], harness := (true, "c4042b8265ddba8512b8b45dea96d179adf40543f8b9af76ba2ce93af1bb9ba7"), looks := true }, kinds := [], alts := [], laidByText := true, laidKinds := [.data], laidTests := true, laidLooks := .later }
def ClassifyTruthUptoCardSaid : Prop := Claim7.holds Tryz.pinned (.plain (OpenSpec.upto classifyTruthSpec)) classifyTruthUptoCard
end Rows
end Go.Proofs.YtbdofbhocjfbfaaGreatDoor
