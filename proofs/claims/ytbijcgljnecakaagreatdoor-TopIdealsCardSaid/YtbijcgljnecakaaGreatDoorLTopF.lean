/- antecedetop.TopIdeals returns true whatever the input, and the input reads as it did. No condition. -/
import Derived.Test.YtbijcgljnecakaaGreatDoorRows
import Derived.JoinedOf
import Derived.ProofKit
namespace Go.Proofs.YtbijcgljnecakaaGreatDoor
open Go.ChangeShapes Go.WideShapes Go.ChangeAt Go.RowKit
theorem topIdeals_facts : joinedFacts Tryz.checked.prog 3 Tryz.f3 Rows.topIdealsSpec Rows.topIdealsRow = true := by kernel_rfl
end Go.Proofs.YtbijcgljnecakaaGreatDoor
