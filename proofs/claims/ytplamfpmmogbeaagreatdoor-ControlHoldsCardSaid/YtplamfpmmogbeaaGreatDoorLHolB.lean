/- antecedelaw44.ControlHolds returns true whatever the input, and the input reads as it did. No condition. -/
import Derived.Test.YtplamfpmmogbeaaGreatDoorLHolF
import Derived.Test.YtplamfpmmogbeaaGreatDoorLHolA
import Derived.Test.YtplamfpmmogbeaaGreatDoorRows
import Derived.Test.YtplamfpmmogbeaaGreatDoorCards
import Derived.Test.YtplamfpmmogbeaaGreatDoorTie
import Derived.SevenTiedAt
namespace Go.Proofs.YtplamfpmmogbeaaGreatDoor
open Go.ChangeShapes Go.WideShapes Go.ChangeAt Go.RowKit Go.AL
theorem controlHolds_row : Rows.ControlHoldsSaid :=
  OpenClaim.holds_of_wide 3 Tryz.f3 rfl rfl rfl rfl rfl rfl rfl ⟨rfl, rfl, rfl, rfl, rfl⟩ rfl rfl rfl rfl rfl (by kernel_rfl) Tryz.func3 controlHolds_facts
    (of_decide_eq_true (by kernel_rfl)) (by unfold Func.isWrapper; rw [if_neg (by decide +kernel)]; exact ⟨rfl, rfl⟩)
    (fun os started H enc _ => controlHolds_lifted os started H enc)
end Go.Proofs.YtplamfpmmogbeaaGreatDoor
