/- antecedelaw49.PruneDetects returns true whatever the input, and the input reads as it did. No condition. -/
import Derived.Test.YtceeooppejjliaaGreatDoorLDetF
import Derived.Test.YtceeooppejjliaaGreatDoorLDetA
import Derived.Test.YtceeooppejjliaaGreatDoorRows
import Derived.Test.YtceeooppejjliaaGreatDoorCards
import Derived.Test.YtceeooppejjliaaGreatDoorTie
import Derived.SevenTiedAt
namespace Go.Proofs.YtceeooppejjliaaGreatDoor
open Go.ChangeShapes Go.WideShapes Go.ChangeAt Go.RowKit Go.AL
theorem pruneDetects_row : Rows.PruneDetectsSaid :=
  OpenClaim.holds_of_wide 8 Tryz.f8 rfl rfl rfl rfl rfl rfl rfl ⟨rfl, rfl, rfl, rfl, rfl⟩ rfl rfl rfl rfl rfl (by kernel_rfl) Tryz.func8 pruneDetects_facts
    (of_decide_eq_true (by kernel_rfl)) (by unfold Func.isWrapper; rw [if_neg (by decide +kernel)]; exact ⟨rfl, rfl⟩)
    (fun os started H enc _ => pruneDetects_lifted os started H enc)
end Go.Proofs.YtceeooppejjliaaGreatDoor
