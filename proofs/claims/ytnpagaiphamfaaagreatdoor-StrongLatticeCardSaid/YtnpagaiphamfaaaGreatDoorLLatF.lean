/- antecedelaw38.StrongLattice returns true whatever the input, and the input reads as it did. No condition. -/
import Derived.Test.YtnpagaiphamfaaaGreatDoorRows
import Derived.JoinedOf
import Derived.ProofKit
namespace Go.Proofs.YtnpagaiphamfaaaGreatDoor
open Go.ChangeShapes Go.WideShapes Go.ChangeAt Go.RowKit
theorem strongLattice_facts : joinedFacts Tryz.checked.prog 5 Tryz.f5 Rows.strongLatticeSpec Rows.strongLatticeRow = true := by kernel_rfl
end Go.Proofs.YtnpagaiphamfaaaGreatDoor
