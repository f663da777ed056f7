/- antecedelaw44.ControlStretches returns true whatever the input, and the input reads as it did. No condition. -/
import Derived.Test.YtplamfpmmogbeaaGreatDoorRows
import Derived.JoinedOf
import Derived.ProofKit
namespace Go.Proofs.YtplamfpmmogbeaaGreatDoor
open Go.ChangeShapes Go.WideShapes Go.ChangeAt Go.RowKit
theorem controlStretches_facts : joinedFacts Tryz.checked.prog 5 Tryz.f5 Rows.controlStretchesSpec Rows.controlStretchesRow = true := by kernel_rfl
end Go.Proofs.YtplamfpmmogbeaaGreatDoor
