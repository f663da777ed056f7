/- antecedelaw44.ControlOrders returns true whatever the input, and the input reads as it did. No condition. -/
import Derived.Test.YtplamfpmmogbeaaGreatDoorLOrdF
import Derived.Test.YtplamfpmmogbeaaGreatDoorLOrdA
import Derived.Test.YtplamfpmmogbeaaGreatDoorRows
import Derived.Test.YtplamfpmmogbeaaGreatDoorCards
import Derived.Test.YtplamfpmmogbeaaGreatDoorTie
import Derived.SevenTiedAt
namespace Go.Proofs.YtplamfpmmogbeaaGreatDoor
open Go.ChangeShapes Go.WideShapes Go.ChangeAt Go.RowKit Go.AL
theorem controlOrders_row : Rows.ControlOrdersSaid :=
  OpenClaim.holds_of_wide 4 Tryz.f4 rfl rfl rfl rfl rfl rfl rfl ⟨rfl, rfl, rfl, rfl, rfl⟩ rfl rfl rfl rfl rfl (by kernel_rfl) Tryz.func4 controlOrders_facts
    (of_decide_eq_true (by kernel_rfl)) (by unfold Func.isWrapper; rw [if_neg (by decide +kernel)]; exact ⟨rfl, rfl⟩)
    (fun os started H enc _ => controlOrders_lifted os started H enc)
end Go.Proofs.YtplamfpmmogbeaaGreatDoor
