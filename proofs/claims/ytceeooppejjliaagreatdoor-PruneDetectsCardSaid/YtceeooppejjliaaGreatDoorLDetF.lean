/- antecedelaw49.PruneDetects returns true whatever the input, and the input reads as it did. No condition. -/
import Derived.Test.YtceeooppejjliaaGreatDoorRows
import Derived.JoinedOf
import Derived.ProofKit
namespace Go.Proofs.YtceeooppejjliaaGreatDoor
open Go.ChangeShapes Go.WideShapes Go.ChangeAt Go.RowKit
theorem pruneDetects_facts : joinedFacts Tryz.checked.prog 8 Tryz.f8 Rows.pruneDetectsSpec Rows.pruneDetectsRow = true := by kernel_rfl
end Go.Proofs.YtceeooppejjliaaGreatDoor
