/- antecedelaw38.StrongOverlaps returns true whatever the input, and the input reads as it did. No condition. -/
import Derived.Test.YtaomlpmcimjfgaaGreatDoorLOverF
import Derived.Test.YtaomlpmcimjfgaaGreatDoorLOverA
import Derived.Test.YtaomlpmcimjfgaaGreatDoorRows
import Derived.Test.YtaomlpmcimjfgaaGreatDoorCards
import Derived.Test.YtaomlpmcimjfgaaGreatDoorTie
import Derived.SevenTiedAt
namespace Go.Proofs.YtaomlpmcimjfgaaGreatDoor
open Go.ChangeShapes Go.WideShapes Go.ChangeAt Go.RowKit Go.AL
theorem strongOverlaps_row : Rows.StrongOverlapsSaid :=
  OpenClaim.holds_of_wide 4 Tryz.f4 rfl rfl rfl rfl rfl rfl rfl ⟨rfl, rfl, rfl, rfl, rfl⟩ rfl rfl rfl rfl rfl (by kernel_rfl) Tryz.func4 strongOverlaps_facts
    (of_decide_eq_true (by kernel_rfl)) (by unfold Func.isWrapper; rw [if_neg (by decide +kernel)]; exact ⟨rfl, rfl⟩)
    (fun os started H enc _ => strongOverlaps_lifted os started H enc)
end Go.Proofs.YtaomlpmcimjfgaaGreatDoor
