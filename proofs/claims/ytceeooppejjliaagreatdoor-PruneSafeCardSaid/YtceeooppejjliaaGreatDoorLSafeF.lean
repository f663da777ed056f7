/- antecedelaw49.PruneSafe returns true whatever the input, and the input reads as it did. No condition. -/
import Derived.Test.YtceeooppejjliaaGreatDoorRows
import Derived.JoinedOf
import Derived.ProofKit
namespace Go.Proofs.YtceeooppejjliaaGreatDoor
open Go.ChangeShapes Go.WideShapes Go.ChangeAt Go.RowKit
theorem pruneSafe_facts : joinedFacts Tryz.checked.prog 9 Tryz.f9 Rows.pruneSafeSpec Rows.pruneSafeRow = true := by kernel_rfl
end Go.Proofs.YtceeooppejjliaaGreatDoor
