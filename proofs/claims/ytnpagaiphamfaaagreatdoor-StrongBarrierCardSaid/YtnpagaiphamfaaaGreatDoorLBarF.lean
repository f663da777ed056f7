/- antecedelaw38.StrongBarrier returns true whatever the input, and the input reads as it did. No condition. -/
import Derived.Test.YtnpagaiphamfaaaGreatDoorRows
import Derived.JoinedOf
import Derived.ProofKit
namespace Go.Proofs.YtnpagaiphamfaaaGreatDoor
open Go.ChangeShapes Go.WideShapes Go.ChangeAt Go.RowKit
theorem strongBarrier_facts : joinedFacts Tryz.checked.prog 4 Tryz.f4 Rows.strongBarrierSpec Rows.strongBarrierRow = true := by kernel_rfl
end Go.Proofs.YtnpagaiphamfaaaGreatDoor
