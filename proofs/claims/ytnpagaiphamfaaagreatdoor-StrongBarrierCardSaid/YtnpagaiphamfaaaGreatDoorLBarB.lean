/- antecedelaw38.StrongBarrier returns true whatever the input, and the input reads as it did. No condition. -/
import Derived.Test.YtnpagaiphamfaaaGreatDoorLBarF
import Derived.Test.YtnpagaiphamfaaaGreatDoorLBarA
import Derived.Test.YtnpagaiphamfaaaGreatDoorRows
import Derived.Test.YtnpagaiphamfaaaGreatDoorCards
import Derived.Test.YtnpagaiphamfaaaGreatDoorTie
import Derived.SevenTiedAt
namespace Go.Proofs.YtnpagaiphamfaaaGreatDoor
open Go.ChangeShapes Go.WideShapes Go.ChangeAt Go.RowKit Go.AL
theorem strongBarrier_row : Rows.StrongBarrierSaid :=
  OpenClaim.holds_of_wide 4 Tryz.f4 rfl rfl rfl rfl rfl rfl rfl ⟨rfl, rfl, rfl, rfl, rfl⟩ rfl rfl rfl rfl rfl (by kernel_rfl) Tryz.func4 strongBarrier_facts
    (of_decide_eq_true (by kernel_rfl)) (by unfold Func.isWrapper; rw [if_neg (by decide +kernel)]; exact ⟨rfl, rfl⟩)
    (fun os started H enc _ => strongBarrier_lifted os started H enc)
end Go.Proofs.YtnpagaiphamfaaaGreatDoor
