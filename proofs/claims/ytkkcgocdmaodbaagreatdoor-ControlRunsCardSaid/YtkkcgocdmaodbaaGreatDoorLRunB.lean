/- antecedelaw44.ControlRuns returns true whatever the input, and the input reads as it did. No condition. -/
import Derived.Test.YtkkcgocdmaodbaaGreatDoorLRunF
import Derived.Test.YtkkcgocdmaodbaaGreatDoorLRunA
import Derived.Test.YtkkcgocdmaodbaaGreatDoorRows
import Derived.Test.YtkkcgocdmaodbaaGreatDoorCards
import Derived.Test.YtkkcgocdmaodbaaGreatDoorTie
import Derived.SevenTiedAt
namespace Go.Proofs.YtkkcgocdmaodbaaGreatDoor
open Go.ChangeShapes Go.WideShapes Go.ChangeAt Go.RowKit Go.AL
theorem controlRuns_row : Rows.ControlRunsSaid :=
  OpenClaim.holds_of_wide 3 Tryz.f3 rfl rfl rfl rfl rfl rfl rfl ⟨rfl, rfl, rfl, rfl, rfl⟩ rfl rfl rfl rfl rfl (by kernel_rfl) Tryz.func3 controlRuns_facts
    (of_decide_eq_true (by kernel_rfl)) (by unfold Func.isWrapper; rw [if_neg (by decide +kernel)]; exact ⟨rfl, rfl⟩)
    (fun os started H enc _ => controlRuns_lifted os started H enc)
end Go.Proofs.YtkkcgocdmaodbaaGreatDoor
