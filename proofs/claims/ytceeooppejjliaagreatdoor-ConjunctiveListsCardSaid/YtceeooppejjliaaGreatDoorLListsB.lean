/- antecedelaw37.ConjunctiveLists returns true whatever the input, and the input reads as it did. No condition. -/
import Derived.Test.YtceeooppejjliaaGreatDoorLListsF
import Derived.Test.YtceeooppejjliaaGreatDoorLListsA
import Derived.Test.YtceeooppejjliaaGreatDoorRows
import Derived.Test.YtceeooppejjliaaGreatDoorCards
import Derived.Test.YtceeooppejjliaaGreatDoorTie
import Derived.SevenTiedAt
namespace Go.Proofs.YtceeooppejjliaaGreatDoor
open Go.ChangeShapes Go.WideShapes Go.ChangeAt Go.RowKit Go.AL
theorem conjunctiveLists_row : Rows.ConjunctiveListsSaid :=
  OpenClaim.holds_of_wide 4 Tryz.f4 rfl rfl rfl rfl rfl rfl rfl ⟨rfl, rfl, rfl, rfl, rfl⟩ rfl rfl rfl rfl rfl (by kernel_rfl) Tryz.func4 conjunctiveLists_facts
    (of_decide_eq_true (by kernel_rfl)) (by unfold Func.isWrapper; rw [if_neg (by decide +kernel)]; exact ⟨rfl, rfl⟩)
    (fun os started H enc _ => conjunctiveLists_lifted os started H enc)
end Go.Proofs.YtceeooppejjliaaGreatDoor
