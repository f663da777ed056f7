/- antecedelaw38.StrongBoxes returns true whatever the input, and the input reads as it did. No condition. -/
import Derived.Test.YtnpagaiphamfaaaGreatDoorLBoxF
import Derived.Test.YtnpagaiphamfaaaGreatDoorLBoxA
import Derived.Test.YtnpagaiphamfaaaGreatDoorRows
import Derived.Test.YtnpagaiphamfaaaGreatDoorCards
import Derived.Test.YtnpagaiphamfaaaGreatDoorTie
import Derived.SevenTiedAt
namespace Go.Proofs.YtnpagaiphamfaaaGreatDoor
open Go.ChangeShapes Go.WideShapes Go.ChangeAt Go.RowKit Go.AL
theorem strongBoxes_row : Rows.StrongBoxesSaid :=
  OpenClaim.holds_of_wide 3 Tryz.f3 rfl rfl rfl rfl rfl rfl rfl ⟨rfl, rfl, rfl, rfl, rfl⟩ rfl rfl rfl rfl rfl (by kernel_rfl) Tryz.func3 strongBoxes_facts
    (of_decide_eq_true (by kernel_rfl)) (by unfold Func.isWrapper; rw [if_neg (by decide +kernel)]; exact ⟨rfl, rfl⟩)
    (fun os started H enc _ => strongBoxes_lifted os started H enc)
end Go.Proofs.YtnpagaiphamfaaaGreatDoor
