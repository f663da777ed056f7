/- antecedelaw33.IrreducibleBelow returns true whatever the input, and the input reads as it did. No condition. -/
import Derived.Test.YtbbcigpnpbiojaaGreatDoorRows
import Derived.JoinedOf
import Derived.ProofKit
namespace Go.Proofs.YtbbcigpnpbiojaaGreatDoor
open Go.ChangeShapes Go.WideShapes Go.ChangeAt Go.RowKit
theorem irreducibleBelow_facts : joinedFacts Tryz.checked.prog 3 Tryz.f3 Rows.irreducibleBelowSpec Rows.irreducibleBelowRow = true := by kernel_rfl
end Go.Proofs.YtbbcigpnpbiojaaGreatDoor
