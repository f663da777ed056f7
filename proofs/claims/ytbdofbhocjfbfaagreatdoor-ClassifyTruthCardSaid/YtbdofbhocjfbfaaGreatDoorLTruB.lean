/- antecedelaw30.ClassifyTruth returns true whatever the input, and the input reads as it did. No condition. -/
import Derived.Test.YtbdofbhocjfbfaaGreatDoorLTruF
import Derived.Test.YtbdofbhocjfbfaaGreatDoorLTruA
import Derived.Test.YtbdofbhocjfbfaaGreatDoorRows
import Derived.Test.YtbdofbhocjfbfaaGreatDoorCards
import Derived.Test.YtbdofbhocjfbfaaGreatDoorTie
import Derived.SevenTiedAt
namespace Go.Proofs.YtbdofbhocjfbfaaGreatDoor
open Go.ChangeShapes Go.WideShapes Go.ChangeAt Go.RowKit Go.AL
theorem classifyTruth_row : Rows.ClassifyTruthSaid :=
  OpenClaim.holds_of_wide 5 Tryz.f5 rfl rfl rfl rfl rfl rfl rfl ⟨rfl, rfl, rfl, rfl, rfl⟩ rfl rfl rfl rfl rfl (by kernel_rfl) Tryz.func5 classifyTruth_facts
    (of_decide_eq_true (by kernel_rfl)) (by unfold Func.isWrapper; rw [if_neg (by decide +kernel)]; exact ⟨rfl, rfl⟩)
    (fun os started H enc _ => classifyTruth_lifted os started H enc)
end Go.Proofs.YtbdofbhocjfbfaaGreatDoor
