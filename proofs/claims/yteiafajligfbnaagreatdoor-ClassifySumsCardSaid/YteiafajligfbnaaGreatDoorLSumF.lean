/- antecedelaw30.ClassifySums returns true whatever the input, and the input reads as it did. No condition. -/
import Derived.Test.YteiafajligfbnaaGreatDoorRows
import Derived.JoinedOf
import Derived.ProofKit
namespace Go.Proofs.YteiafajligfbnaaGreatDoor
open Go.ChangeShapes Go.WideShapes Go.ChangeAt Go.RowKit
theorem classifySums_facts : joinedFacts Tryz.checked.prog 3 Tryz.f3 Rows.classifySumsSpec Rows.classifySumsRow = true := by kernel_rfl
end Go.Proofs.YteiafajligfbnaaGreatDoor
