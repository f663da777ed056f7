/- antecedelaw24.RunExtensions returns true whatever the input, and the input reads as it did. No condition. -/
import Derived.Test.YtjblppbkhgihoaaGreatDoorLExtF
import Derived.Test.YtjblppbkhgihoaaGreatDoorLExtA
import Derived.Test.YtjblppbkhgihoaaGreatDoorRows
import Derived.Test.YtjblppbkhgihoaaGreatDoorCards
import Derived.Test.YtjblppbkhgihoaaGreatDoorTie
import Derived.SevenTiedAt
namespace Go.Proofs.YtjblppbkhgihoaaGreatDoor
open Go.ChangeShapes Go.WideShapes Go.ChangeAt Go.RowKit Go.AL
theorem runExtensions_row : Rows.RunExtensionsSaid :=
  OpenClaim.holds_of_wide 3 Tryz.f3 rfl rfl rfl rfl rfl rfl rfl ⟨rfl, rfl, rfl, rfl, rfl⟩ rfl rfl rfl rfl rfl (by kernel_rfl) Tryz.func3 runExtensions_facts
    (of_decide_eq_true (by kernel_rfl)) (by unfold Func.isWrapper; rw [if_neg (by decide +kernel)]; exact ⟨rfl, rfl⟩)
    (fun os started H enc _ => runExtensions_lifted os started H enc)
end Go.Proofs.YtjblppbkhgihoaaGreatDoor
