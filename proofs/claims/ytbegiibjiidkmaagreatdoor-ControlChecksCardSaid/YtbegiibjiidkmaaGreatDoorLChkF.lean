/- antecedelaw44.ControlChecks returns true whatever the input, and the input reads as it did. No condition. -/
import Derived.Test.YtbegiibjiidkmaaGreatDoorRows
import Derived.JoinedOf
import Derived.ProofKit
namespace Go.Proofs.YtbegiibjiidkmaaGreatDoor
open Go.ChangeShapes Go.WideShapes Go.ChangeAt Go.RowKit
theorem controlChecks_facts : joinedFacts Tryz.checked.prog 3 Tryz.f3 Rows.controlChecksSpec Rows.controlChecksRow = true := by kernel_rfl
end Go.Proofs.YtbegiibjiidkmaaGreatDoor
