/- antecedelaw33.IrreducibleEvents returns true whatever the input, and the input reads as it did. No condition. -/
import Derived.Test.YtpcmoecaaphjmaaGreatDoorRows
import Derived.JoinedOf
import Derived.ProofKit
namespace Go.Proofs.YtpcmoecaaphjmaaGreatDoor
open Go.ChangeShapes Go.WideShapes Go.ChangeAt Go.RowKit
theorem irreducibleEvents_facts : joinedFacts Tryz.checked.prog 4 Tryz.f4 Rows.irreducibleEventsSpec Rows.irreducibleEventsRow = true := by kernel_rfl
end Go.Proofs.YtpcmoecaaphjmaaGreatDoor
