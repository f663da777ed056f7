/- antecedelaw38.StrongLattice returns true whatever the input, and the input reads as it did. No condition. -/
import Derived.Test.YtnpagaiphamfaaaGreatDoorLLatF
import Derived.Test.YtnpagaiphamfaaaGreatDoorLLatA
import Derived.Test.YtnpagaiphamfaaaGreatDoorRows
import Derived.Test.YtnpagaiphamfaaaGreatDoorCards
import Derived.Test.YtnpagaiphamfaaaGreatDoorTie
import Derived.SevenTiedAt
namespace Go.Proofs.YtnpagaiphamfaaaGreatDoor
open Go.ChangeShapes Go.WideShapes Go.ChangeAt Go.RowKit Go.AL
theorem strongLattice_row : Rows.StrongLatticeSaid :=
  OpenClaim.holds_of_wide 5 Tryz.f5 rfl rfl rfl rfl rfl rfl rfl ⟨rfl, rfl, rfl, rfl, rfl⟩ rfl rfl rfl rfl rfl (by kernel_rfl) Tryz.func5 strongLattice_facts
    (of_decide_eq_true (by kernel_rfl)) (by unfold Func.isWrapper; rw [if_neg (by decide +kernel)]; exact ⟨rfl, rfl⟩)
    (fun os started H enc _ => strongLattice_lifted os started H enc)
end Go.Proofs.YtnpagaiphamfaaaGreatDoor
