/- antecedelaw37.ConjunctiveSpans returns true whatever the input, and the input reads as it did. No condition. -/
import Derived.Test.YtceeooppejjliaaGreatDoorRows
import Derived.JoinedOf
import Derived.ProofKit
namespace Go.Proofs.YtceeooppejjliaaGreatDoor
open Go.ChangeShapes Go.WideShapes Go.ChangeAt Go.RowKit
theorem conjunctiveSpans_facts : joinedFacts Tryz.checked.prog 3 Tryz.f3 Rows.conjunctiveSpansSpec Rows.conjunctiveSpansRow = true := by kernel_rfl
end Go.Proofs.YtceeooppejjliaaGreatDoor
