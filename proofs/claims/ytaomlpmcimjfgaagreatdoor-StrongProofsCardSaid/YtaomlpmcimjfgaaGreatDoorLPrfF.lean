/- antecedelaw38.StrongProofs returns true whatever the input, and the input reads as it did. No condition. -/
import Derived.Test.YtaomlpmcimjfgaaGreatDoorRows
import Derived.JoinedOf
import Derived.ProofKit
namespace Go.Proofs.YtaomlpmcimjfgaaGreatDoor
open Go.ChangeShapes Go.WideShapes Go.ChangeAt Go.RowKit
theorem strongProofs_facts : joinedFacts Tryz.checked.prog 6 Tryz.f6 Rows.strongProofsSpec Rows.strongProofsRow = true := by kernel_rfl
end Go.Proofs.YtaomlpmcimjfgaaGreatDoor
