/- antecedelaw44.ControlStretches returns true whatever the input, and the input reads as it did. No condition. -/
import Derived.Test.YtplamfpmmogbeaaGreatDoorLStrF
import Derived.Test.YtplamfpmmogbeaaGreatDoorLStrA
import Derived.Test.YtplamfpmmogbeaaGreatDoorRows
import Derived.Test.YtplamfpmmogbeaaGreatDoorCards
import Derived.Test.YtplamfpmmogbeaaGreatDoorTie
import Derived.SevenTiedAt
namespace Go.Proofs.YtplamfpmmogbeaaGreatDoor
open Go.ChangeShapes Go.WideShapes Go.ChangeAt Go.RowKit Go.AL
theorem controlStretches_row : Rows.ControlStretchesSaid :=
  OpenClaim.holds_of_wide 5 Tryz.f5 rfl rfl rfl rfl rfl rfl rfl ⟨rfl, rfl, rfl, rfl, rfl⟩ rfl rfl rfl rfl rfl (by kernel_rfl) Tryz.func5 controlStretches_facts
    (of_decide_eq_true (by kernel_rfl)) (by unfold Func.isWrapper; rw [if_neg (by decide +kernel)]; exact ⟨rfl, rfl⟩)
    (fun os started H enc _ => controlStretches_lifted os started H enc)
end Go.Proofs.YtplamfpmmogbeaaGreatDoor
