/- antecedelaw44.ControlOrders returns true whatever the input, and the input reads as it did. No condition. -/
import Derived.Test.YtplamfpmmogbeaaGreatDoorRows
import Derived.JoinedOf
import Derived.ProofKit
namespace Go.Proofs.YtplamfpmmogbeaaGreatDoor
open Go.ChangeShapes Go.WideShapes Go.ChangeAt Go.RowKit
theorem controlOrders_facts : joinedFacts Tryz.checked.prog 4 Tryz.f4 Rows.controlOrdersSpec Rows.controlOrdersRow = true := by kernel_rfl
end Go.Proofs.YtplamfpmmogbeaaGreatDoor
