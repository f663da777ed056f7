/- antecedelaw38.StrongAnswers returns true whatever the input, and the input reads as it did. No condition. -/
import Derived.Test.YtaomlpmcimjfgaaGreatDoorRows
import Derived.JoinedOf
import Derived.ProofKit
namespace Go.Proofs.YtaomlpmcimjfgaaGreatDoor
open Go.ChangeShapes Go.WideShapes Go.ChangeAt Go.RowKit
theorem strongAnswers_facts : joinedFacts Tryz.checked.prog 3 Tryz.f3 Rows.strongAnswersSpec Rows.strongAnswersRow = true := by kernel_rfl
end Go.Proofs.YtaomlpmcimjfgaaGreatDoor
