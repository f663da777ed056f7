/- antecedelaw44.ControlHolds returns true whatever the input, and the input reads as it did. No condition. -/
import Derived.Test.YtplamfpmmogbeaaGreatDoorRows
import Derived.JoinedOf
import Derived.ProofKit
namespace Go.Proofs.YtplamfpmmogbeaaGreatDoor
open Go.ChangeShapes Go.WideShapes Go.ChangeAt Go.RowKit
theorem controlHolds_facts : joinedFacts Tryz.checked.prog 3 Tryz.f3 Rows.controlHoldsSpec Rows.controlHoldsRow = true := by kernel_rfl
end Go.Proofs.YtplamfpmmogbeaaGreatDoor
