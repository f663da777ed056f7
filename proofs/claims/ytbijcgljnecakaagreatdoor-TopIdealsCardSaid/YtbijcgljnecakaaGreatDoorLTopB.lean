/- antecedetop.TopIdeals returns true whatever the input, and the input reads as it did. No condition. -/
import Derived.Test.YtbijcgljnecakaaGreatDoorLTopF
import Derived.Test.YtbijcgljnecakaaGreatDoorLTopA
import Derived.Test.YtbijcgljnecakaaGreatDoorRows
import Derived.Test.YtbijcgljnecakaaGreatDoorCards
import Derived.Test.YtbijcgljnecakaaGreatDoorTie
import Derived.SevenTiedAt
namespace Go.Proofs.YtbijcgljnecakaaGreatDoor
open Go.ChangeShapes Go.WideShapes Go.ChangeAt Go.RowKit Go.AL
theorem topIdeals_row : Rows.TopIdealsSaid :=
  OpenClaim.holds_of_wide 3 Tryz.f3 rfl rfl rfl rfl rfl rfl rfl ⟨rfl, rfl, rfl, rfl, rfl⟩ rfl rfl rfl rfl rfl (by kernel_rfl) Tryz.func3 topIdeals_facts
    (of_decide_eq_true (by kernel_rfl)) (by unfold Func.isWrapper; rw [if_neg (by decide +kernel)]; exact ⟨rfl, rfl⟩)
    (fun os started H enc _ => topIdeals_lifted os started H enc)
end Go.Proofs.YtbijcgljnecakaaGreatDoor
