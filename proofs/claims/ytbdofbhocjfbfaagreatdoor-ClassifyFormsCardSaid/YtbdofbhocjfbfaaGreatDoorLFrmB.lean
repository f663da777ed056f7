/- antecedelaw30.ClassifyForms returns true whatever the input, and the input reads as it did. No condition. -/
import Derived.Test.YtbdofbhocjfbfaaGreatDoorLFrmF
import Derived.Test.YtbdofbhocjfbfaaGreatDoorLFrmA
import Derived.Test.YtbdofbhocjfbfaaGreatDoorRows
import Derived.Test.YtbdofbhocjfbfaaGreatDoorCards
import Derived.Test.YtbdofbhocjfbfaaGreatDoorTie
import Derived.SevenTiedAt
namespace Go.Proofs.YtbdofbhocjfbfaaGreatDoor
open Go.ChangeShapes Go.WideShapes Go.ChangeAt Go.RowKit Go.AL
theorem classifyForms_row : Rows.ClassifyFormsSaid :=
  OpenClaim.holds_of_wide 3 Tryz.f3 rfl rfl rfl rfl rfl rfl rfl ⟨rfl, rfl, rfl, rfl, rfl⟩ rfl rfl rfl rfl rfl (by kernel_rfl) Tryz.func3 classifyForms_facts
    (of_decide_eq_true (by kernel_rfl)) (by unfold Func.isWrapper; rw [if_neg (by decide +kernel)]; exact ⟨rfl, rfl⟩)
    (fun os started H enc _ => classifyForms_lifted os started H enc)
end Go.Proofs.YtbdofbhocjfbfaaGreatDoor
