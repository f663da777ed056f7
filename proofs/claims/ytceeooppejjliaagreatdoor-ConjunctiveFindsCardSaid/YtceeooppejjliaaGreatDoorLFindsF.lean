/- antecedelaw37.ConjunctiveFinds returns true whatever the input, and the input reads as it did. No condition. -/
import Derived.Test.YtceeooppejjliaaGreatDoorRows
import Derived.JoinedOf
import Derived.ProofKit
namespace Go.Proofs.YtceeooppejjliaaGreatDoor
open Go.ChangeShapes Go.WideShapes Go.ChangeAt Go.RowKit
theorem conjunctiveFinds_facts : joinedFacts Tryz.checked.prog 6 Tryz.f6 Rows.conjunctiveFindsSpec Rows.conjunctiveFindsRow = true := by kernel_rfl
end Go.Proofs.YtceeooppejjliaaGreatDoor
