/- antecedelaw30.ClassifyForms returns true whatever the input, and the input reads as it did. No condition. -/
import Derived.Test.YtbdofbhocjfbfaaGreatDoorRows
import Derived.JoinedOf
import Derived.ProofKit
namespace Go.Proofs.YtbdofbhocjfbfaaGreatDoor
open Go.ChangeShapes Go.WideShapes Go.ChangeAt Go.RowKit
theorem classifyForms_facts : joinedFacts Tryz.checked.prog 3 Tryz.f3 Rows.classifyFormsSpec Rows.classifyFormsRow = true := by kernel_rfl
end Go.Proofs.YtbdofbhocjfbfaaGreatDoor
