/- antecedelaw38.StrongChecks returns true whatever the input, and the input reads as it did. No condition. -/
import Derived.Test.YtaomlpmcimjfgaaGreatDoorRows
import Derived.JoinedOf
import Derived.ProofKit
namespace Go.Proofs.YtaomlpmcimjfgaaGreatDoor
open Go.ChangeShapes Go.WideShapes Go.ChangeAt Go.RowKit
theorem strongChecks_facts : joinedFacts Tryz.checked.prog 5 Tryz.f5 Rows.strongChecksSpec Rows.strongChecksRow = true := by kernel_rfl
end Go.Proofs.YtaomlpmcimjfgaaGreatDoor
