/- antecedelaw44.ControlRuns returns true whatever the input, and the input reads as it did. No condition. -/
import Derived.Test.YtkkcgocdmaodbaaGreatDoorRows
import Derived.JoinedOf
import Derived.ProofKit
namespace Go.Proofs.YtkkcgocdmaodbaaGreatDoor
open Go.ChangeShapes Go.WideShapes Go.ChangeAt Go.RowKit
theorem controlRuns_facts : joinedFacts Tryz.checked.prog 3 Tryz.f3 Rows.controlRunsSpec Rows.controlRunsRow = true := by kernel_rfl
end Go.Proofs.YtkkcgocdmaodbaaGreatDoor
