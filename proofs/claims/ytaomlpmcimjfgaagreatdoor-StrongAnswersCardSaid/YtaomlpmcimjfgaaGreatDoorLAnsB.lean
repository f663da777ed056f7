/- antecedelaw38.StrongAnswers returns true whatever the input, and the input reads as it did. No condition. -/
import Derived.Test.YtaomlpmcimjfgaaGreatDoorLAnsF
import Derived.Test.YtaomlpmcimjfgaaGreatDoorLAnsA
import Derived.Test.YtaomlpmcimjfgaaGreatDoorRows
import Derived.Test.YtaomlpmcimjfgaaGreatDoorCards
import Derived.Test.YtaomlpmcimjfgaaGreatDoorTie
import Derived.SevenTiedAt
namespace Go.Proofs.YtaomlpmcimjfgaaGreatDoor
open Go.ChangeShapes Go.WideShapes Go.ChangeAt Go.RowKit Go.AL
theorem strongAnswers_row : Rows.StrongAnswersSaid :=
  OpenClaim.holds_of_wide 3 Tryz.f3 rfl rfl rfl rfl rfl rfl rfl ⟨rfl, rfl, rfl, rfl, rfl⟩ rfl rfl rfl rfl rfl (by kernel_rfl) Tryz.func3 strongAnswers_facts
    (of_decide_eq_true (by kernel_rfl)) (by unfold Func.isWrapper; rw [if_neg (by decide +kernel)]; exact ⟨rfl, rfl⟩)
    (fun os started H enc _ => strongAnswers_lifted os started H enc)
end Go.Proofs.YtaomlpmcimjfgaaGreatDoor
