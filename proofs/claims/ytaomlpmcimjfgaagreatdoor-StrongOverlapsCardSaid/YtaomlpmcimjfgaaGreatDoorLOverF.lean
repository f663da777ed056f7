/- antecedelaw38.StrongOverlaps returns true whatever the input, and the input reads as it did. No condition. -/
import Derived.Test.YtaomlpmcimjfgaaGreatDoorRows
import Derived.JoinedOf
import Derived.ProofKit
namespace Go.Proofs.YtaomlpmcimjfgaaGreatDoor
open Go.ChangeShapes Go.WideShapes Go.ChangeAt Go.RowKit
theorem strongOverlaps_facts : joinedFacts Tryz.checked.prog 4 Tryz.f4 Rows.strongOverlapsSpec Rows.strongOverlapsRow = true := by kernel_rfl
end Go.Proofs.YtaomlpmcimjfgaaGreatDoor
