/- antecedelaw37.ConjunctiveSame returns true whatever the input, and the input reads as it did. No condition. -/
import Derived.Test.YtceeooppejjliaaGreatDoorLSameF
import Derived.Test.YtceeooppejjliaaGreatDoorLSameA
import Derived.Test.YtceeooppejjliaaGreatDoorRows
import Derived.Test.YtceeooppejjliaaGreatDoorCards
import Derived.Test.YtceeooppejjliaaGreatDoorTie
import Derived.SevenTiedAt
namespace Go.Proofs.YtceeooppejjliaaGreatDoor
open Go.ChangeShapes Go.WideShapes Go.ChangeAt Go.RowKit Go.AL
theorem conjunctiveSame_row : Rows.ConjunctiveSameSaid :=
  OpenClaim.holds_of_wide 7 Tryz.f7 rfl rfl rfl rfl rfl rfl rfl ⟨rfl, rfl, rfl, rfl, rfl⟩ rfl rfl rfl rfl rfl (by kernel_rfl) Tryz.func7 conjunctiveSame_facts
    (of_decide_eq_true (by kernel_rfl)) (by unfold Func.isWrapper; rw [if_neg (by decide +kernel)]; exact ⟨rfl, rfl⟩)
    (fun os started H enc _ => conjunctiveSame_lifted os started H enc)
end Go.Proofs.YtceeooppejjliaaGreatDoor
