/- antecedelaw30.ClassifyTruth returns true whatever the input, and the input reads as it did. No condition. -/
import Derived.Test.YtbdofbhocjfbfaaGreatDoorRows
import Derived.JoinedOf
import Derived.ProofKit
namespace Go.Proofs.YtbdofbhocjfbfaaGreatDoor
open Go.ChangeShapes Go.WideShapes Go.ChangeAt Go.RowKit
theorem classifyTruth_facts : joinedFacts Tryz.checked.prog 5 Tryz.f5 Rows.classifyTruthSpec Rows.classifyTruthRow = true := by kernel_rfl
end Go.Proofs.YtbdofbhocjfbfaaGreatDoor
