/- antecedelaw38.StrongBoxes returns true whatever the input, and the input reads as it did. No condition. -/
import Derived.Test.YtnpagaiphamfaaaGreatDoorRows
import Derived.JoinedOf
import Derived.ProofKit
namespace Go.Proofs.YtnpagaiphamfaaaGreatDoor
open Go.ChangeShapes Go.WideShapes Go.ChangeAt Go.RowKit
theorem strongBoxes_facts : joinedFacts Tryz.checked.prog 3 Tryz.f3 Rows.strongBoxesSpec Rows.strongBoxesRow = true := by kernel_rfl
end Go.Proofs.YtnpagaiphamfaaaGreatDoor
