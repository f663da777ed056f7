/- antecedelaw38.StrongProofs returns true whatever the input, and the input reads as it did. No condition. -/
import Derived.Test.YtaomlpmcimjfgaaGreatDoorLPrfF
import Derived.Test.YtaomlpmcimjfgaaGreatDoorLPrfA
import Derived.Test.YtaomlpmcimjfgaaGreatDoorRows
import Derived.Test.YtaomlpmcimjfgaaGreatDoorCards
import Derived.Test.YtaomlpmcimjfgaaGreatDoorTie
import Derived.SevenTiedAt
namespace Go.Proofs.YtaomlpmcimjfgaaGreatDoor
open Go.ChangeShapes Go.WideShapes Go.ChangeAt Go.RowKit Go.AL
theorem strongProofs_row : Rows.StrongProofsSaid :=
  OpenClaim.holds_of_wide 6 Tryz.f6 rfl rfl rfl rfl rfl rfl rfl ⟨rfl, rfl, rfl, rfl, rfl⟩ rfl rfl rfl rfl rfl (by kernel_rfl) Tryz.func6 strongProofs_facts
    (of_decide_eq_true (by kernel_rfl)) (by unfold Func.isWrapper; rw [if_neg (by decide +kernel)]; exact ⟨rfl, rfl⟩)
    (fun os started H enc _ => strongProofs_lifted os started H enc)
end Go.Proofs.YtaomlpmcimjfgaaGreatDoor
