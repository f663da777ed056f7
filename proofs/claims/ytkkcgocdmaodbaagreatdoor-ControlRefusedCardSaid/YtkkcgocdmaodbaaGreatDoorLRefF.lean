/- antecedelaw44.ControlRefused returns true whatever the input, and the input reads as it did. No condition. -/
import Derived.Test.YtkkcgocdmaodbaaGreatDoorRows
import Derived.JoinedOf
import Derived.ProofKit
namespace Go.Proofs.YtkkcgocdmaodbaaGreatDoor
open Go.ChangeShapes Go.WideShapes Go.ChangeAt Go.RowKit
theorem controlRefused_facts : joinedFacts Tryz.checked.prog 4 Tryz.f4 Rows.controlRefusedSpec Rows.controlRefusedRow = true := by kernel_rfl
end Go.Proofs.YtkkcgocdmaodbaaGreatDoor
