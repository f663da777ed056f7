/- antecedelaw30.ClassifySums returns true whatever the input, and the input reads as it did. No condition. -/
import Derived.Test.YteiafajligfbnaaGreatDoorLSumF
import Derived.Test.YteiafajligfbnaaGreatDoorLSumA
import Derived.Test.YteiafajligfbnaaGreatDoorRows
import Derived.Test.YteiafajligfbnaaGreatDoorCards
import Derived.Test.YteiafajligfbnaaGreatDoorTie
import Derived.SevenTiedAt
namespace Go.Proofs.YteiafajligfbnaaGreatDoor
open Go.ChangeShapes Go.WideShapes Go.ChangeAt Go.RowKit Go.AL
theorem classifySums_row : Rows.ClassifySumsSaid :=
  OpenClaim.holds_of_wide 3 Tryz.f3 rfl rfl rfl rfl rfl rfl rfl ⟨rfl, rfl, rfl, rfl, rfl⟩ rfl rfl rfl rfl rfl (by kernel_rfl) Tryz.func3 classifySums_facts
    (of_decide_eq_true (by kernel_rfl)) (by unfold Func.isWrapper; rw [if_neg (by decide +kernel)]; exact ⟨rfl, rfl⟩)
    (fun os started H enc _ => classifySums_lifted os started H enc)
end Go.Proofs.YteiafajligfbnaaGreatDoor
