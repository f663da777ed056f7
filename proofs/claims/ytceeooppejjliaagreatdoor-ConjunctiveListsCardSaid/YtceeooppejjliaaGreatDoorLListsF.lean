/- antecedelaw37.ConjunctiveLists returns true whatever the input, and the input reads as it did. No condition. -/
import Derived.Test.YtceeooppejjliaaGreatDoorRows
import Derived.JoinedOf
import Derived.ProofKit
namespace Go.Proofs.YtceeooppejjliaaGreatDoor
open Go.ChangeShapes Go.WideShapes Go.ChangeAt Go.RowKit
theorem conjunctiveLists_facts : joinedFacts Tryz.checked.prog 4 Tryz.f4 Rows.conjunctiveListsSpec Rows.conjunctiveListsRow = true := by kernel_rfl
end Go.Proofs.YtceeooppejjliaaGreatDoor
