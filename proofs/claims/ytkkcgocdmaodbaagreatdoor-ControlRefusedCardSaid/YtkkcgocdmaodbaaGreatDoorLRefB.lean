/- antecedelaw44.ControlRefused returns true whatever the input, and the input reads as it did. No condition. -/
import Derived.Test.YtkkcgocdmaodbaaGreatDoorLRefF
import Derived.Test.YtkkcgocdmaodbaaGreatDoorLRefA
import Derived.Test.YtkkcgocdmaodbaaGreatDoorRows
import Derived.Test.YtkkcgocdmaodbaaGreatDoorCards
import Derived.Test.YtkkcgocdmaodbaaGreatDoorTie
import Derived.SevenTiedAt
namespace Go.Proofs.YtkkcgocdmaodbaaGreatDoor
open Go.ChangeShapes Go.WideShapes Go.ChangeAt Go.RowKit Go.AL
theorem controlRefused_row : Rows.ControlRefusedSaid :=
  OpenClaim.holds_of_wide 4 Tryz.f4 rfl rfl rfl rfl rfl rfl rfl ⟨rfl, rfl, rfl, rfl, rfl⟩ rfl rfl rfl rfl rfl (by kernel_rfl) Tryz.func4 controlRefused_facts
    (of_decide_eq_true (by kernel_rfl)) (by unfold Func.isWrapper; rw [if_neg (by decide +kernel)]; exact ⟨rfl, rfl⟩)
    (fun os started H enc _ => controlRefused_lifted os started H enc)
end Go.Proofs.YtkkcgocdmaodbaaGreatDoor
