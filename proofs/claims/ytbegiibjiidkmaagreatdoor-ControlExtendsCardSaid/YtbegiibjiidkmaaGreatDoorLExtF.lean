/- antecedelaw44.ControlExtends returns true whatever the input, and the input reads as it did. No condition. -/
import Derived.Test.YtbegiibjiidkmaaGreatDoorRows
import Derived.JoinedOf
import Derived.ProofKit
namespace Go.Proofs.YtbegiibjiidkmaaGreatDoor
open Go.ChangeShapes Go.WideShapes Go.ChangeAt Go.RowKit
theorem controlExtends_facts : joinedFacts Tryz.checked.prog 4 Tryz.f4 Rows.controlExtendsSpec Rows.controlExtendsRow = true := by kernel_rfl
end Go.Proofs.YtbegiibjiidkmaaGreatDoor
