/- antecedelaw24.RunExtensions returns true whatever the input, and the input reads as it did. No condition. -/
import Derived.Test.YtjblppbkhgihoaaGreatDoorRows
import Derived.JoinedOf
import Derived.ProofKit
namespace Go.Proofs.YtjblppbkhgihoaaGreatDoor
open Go.ChangeShapes Go.WideShapes Go.ChangeAt Go.RowKit
theorem runExtensions_facts : joinedFacts Tryz.checked.prog 3 Tryz.f3 Rows.runExtensionsSpec Rows.runExtensionsRow = true := by kernel_rfl
end Go.Proofs.YtjblppbkhgihoaaGreatDoor
