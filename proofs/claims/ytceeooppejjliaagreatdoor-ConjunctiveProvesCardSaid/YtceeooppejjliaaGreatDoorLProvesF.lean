/- antecedelaw37.ConjunctiveProves returns true whatever the input, and the input reads as it did. No condition. -/
import Derived.Test.YtceeooppejjliaaGreatDoorRows
import Derived.JoinedOf
import Derived.ProofKit
namespace Go.Proofs.YtceeooppejjliaaGreatDoor
open Go.ChangeShapes Go.WideShapes Go.ChangeAt Go.RowKit
theorem conjunctiveProves_facts : joinedFacts Tryz.checked.prog 5 Tryz.f5 Rows.conjunctiveProvesSpec Rows.conjunctiveProvesRow = true := by kernel_rfl
end Go.Proofs.YtceeooppejjliaaGreatDoor
