/- antecedelaw38.StrongChecks returns true whatever the input, and the input reads as it did. No condition. -/
import Derived.Test.YtaomlpmcimjfgaaGreatDoorLChkF
import Derived.Test.YtaomlpmcimjfgaaGreatDoorLChkA
import Derived.Test.YtaomlpmcimjfgaaGreatDoorRows
import Derived.Test.YtaomlpmcimjfgaaGreatDoorCards
import Derived.Test.YtaomlpmcimjfgaaGreatDoorTie
import Derived.SevenTiedAt
namespace Go.Proofs.YtaomlpmcimjfgaaGreatDoor
open Go.ChangeShapes Go.WideShapes Go.ChangeAt Go.RowKit Go.AL
theorem strongChecks_row : Rows.StrongChecksSaid :=
  OpenClaim.holds_of_wide 5 Tryz.f5 rfl rfl rfl rfl rfl rfl rfl ⟨rfl, rfl, rfl, rfl, rfl⟩ rfl rfl rfl rfl rfl (by kernel_rfl) Tryz.func5 strongChecks_facts
    (of_decide_eq_true (by kernel_rfl)) (by unfold Func.isWrapper; rw [if_neg (by decide +kernel)]; exact ⟨rfl, rfl⟩)
    (fun os started H enc _ => strongChecks_lifted os started H enc)
end Go.Proofs.YtaomlpmcimjfgaaGreatDoor
