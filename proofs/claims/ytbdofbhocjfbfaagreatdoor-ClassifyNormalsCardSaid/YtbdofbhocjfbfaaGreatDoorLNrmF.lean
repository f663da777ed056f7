/- antecedelaw30.ClassifyNormals returns true whatever the input, and the input reads as it did. No condition. -/
import Derived.Test.YtbdofbhocjfbfaaGreatDoorRows
import Derived.JoinedOf
import Derived.ProofKit
namespace Go.Proofs.YtbdofbhocjfbfaaGreatDoor
open Go.ChangeShapes Go.WideShapes Go.ChangeAt Go.RowKit
theorem classifyNormals_facts : joinedFacts Tryz.checked.prog 4 Tryz.f4 Rows.classifyNormalsSpec Rows.classifyNormalsRow = true := by kernel_rfl
end Go.Proofs.YtbdofbhocjfbfaaGreatDoor
