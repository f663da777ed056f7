/- antecedelaw30.ClassifyNormals returns true whatever the input, and the input reads as it did. No condition. -/
import Derived.Test.YtbdofbhocjfbfaaGreatDoorLNrmF
import Derived.Test.YtbdofbhocjfbfaaGreatDoorLNrmA
import Derived.Test.YtbdofbhocjfbfaaGreatDoorRows
import Derived.Test.YtbdofbhocjfbfaaGreatDoorCards
import Derived.Test.YtbdofbhocjfbfaaGreatDoorTie
import Derived.SevenTiedAt
namespace Go.Proofs.YtbdofbhocjfbfaaGreatDoor
open Go.ChangeShapes Go.WideShapes Go.ChangeAt Go.RowKit Go.AL
theorem classifyNormals_row : Rows.ClassifyNormalsSaid :=
  OpenClaim.holds_of_wide 4 Tryz.f4 rfl rfl rfl rfl rfl rfl rfl ⟨rfl, rfl, rfl, rfl, rfl⟩ rfl rfl rfl rfl rfl (by kernel_rfl) Tryz.func4 classifyNormals_facts
    (of_decide_eq_true (by kernel_rfl)) (by unfold Func.isWrapper; rw [if_neg (by decide +kernel)]; exact ⟨rfl, rfl⟩)
    (fun os started H enc _ => classifyNormals_lifted os started H enc)
end Go.Proofs.YtbdofbhocjfbfaaGreatDoor
