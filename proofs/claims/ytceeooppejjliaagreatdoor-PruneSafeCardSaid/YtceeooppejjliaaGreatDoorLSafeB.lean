/- antecedelaw49.PruneSafe returns true whatever the input, and the input reads as it did. No condition. -/
import Derived.Test.YtceeooppejjliaaGreatDoorLSafeF
import Derived.Test.YtceeooppejjliaaGreatDoorLSafeA
import Derived.Test.YtceeooppejjliaaGreatDoorRows
import Derived.Test.YtceeooppejjliaaGreatDoorCards
import Derived.Test.YtceeooppejjliaaGreatDoorTie
import Derived.SevenTiedAt
namespace Go.Proofs.YtceeooppejjliaaGreatDoor
open Go.ChangeShapes Go.WideShapes Go.ChangeAt Go.RowKit Go.AL
theorem pruneSafe_row : Rows.PruneSafeSaid :=
  OpenClaim.holds_of_wide 9 Tryz.f9 rfl rfl rfl rfl rfl rfl rfl ⟨rfl, rfl, rfl, rfl, rfl⟩ rfl rfl rfl rfl rfl (by kernel_rfl) Tryz.func9 pruneSafe_facts
    (of_decide_eq_true (by kernel_rfl)) (by unfold Func.isWrapper; rw [if_neg (by decide +kernel)]; exact ⟨rfl, rfl⟩)
    (fun os started H enc _ => pruneSafe_lifted os started H enc)
end Go.Proofs.YtceeooppejjliaaGreatDoor
