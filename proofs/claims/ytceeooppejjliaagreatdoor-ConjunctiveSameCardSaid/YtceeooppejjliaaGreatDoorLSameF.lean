/- antecedelaw37.ConjunctiveSame returns true whatever the input, and the input reads as it did. No condition. -/
import Derived.Test.YtceeooppejjliaaGreatDoorRows
import Derived.JoinedOf
import Derived.ProofKit
namespace Go.Proofs.YtceeooppejjliaaGreatDoor
open Go.ChangeShapes Go.WideShapes Go.ChangeAt Go.RowKit
theorem conjunctiveSame_facts : joinedFacts Tryz.checked.prog 7 Tryz.f7 Rows.conjunctiveSameSpec Rows.conjunctiveSameRow = true := by kernel_rfl
end Go.Proofs.YtceeooppejjliaaGreatDoor
