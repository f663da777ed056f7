/- antecedelaw37.ConjunctiveLattice returns true whatever the input, and the input reads as it did. No condition. -/
import Derived.Test.YtcgmgbmhnmeadaaGreatDoorRows
import Derived.JoinedOf
import Derived.ProofKit
namespace Go.Proofs.YtcgmgbmhnmeadaaGreatDoor
open Go.ChangeShapes Go.WideShapes Go.ChangeAt Go.RowKit
theorem conjunctiveLattice_facts : joinedFacts Tryz.checked.prog 3 Tryz.f3 Rows.conjunctiveLatticeSpec Rows.conjunctiveLatticeRow = true := by kernel_rfl
end Go.Proofs.YtcgmgbmhnmeadaaGreatDoor
