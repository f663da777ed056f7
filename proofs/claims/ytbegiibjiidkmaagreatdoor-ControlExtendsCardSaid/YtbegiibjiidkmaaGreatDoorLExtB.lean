/- antecedelaw44.ControlExtends returns true whatever the input, and the input reads as it did. No condition. -/
import Derived.Test.YtbegiibjiidkmaaGreatDoorLExtF
import Derived.Test.YtbegiibjiidkmaaGreatDoorLExtA
import Derived.Test.YtbegiibjiidkmaaGreatDoorRows
import Derived.Test.YtbegiibjiidkmaaGreatDoorCards
import Derived.Test.YtbegiibjiidkmaaGreatDoorTie
import Derived.SevenTiedAt
namespace Go.Proofs.YtbegiibjiidkmaaGreatDoor
open Go.ChangeShapes Go.WideShapes Go.ChangeAt Go.RowKit Go.AL
theorem controlExtends_row : Rows.ControlExtendsSaid :=
  OpenClaim.holds_of_wide 4 Tryz.f4 rfl rfl rfl rfl rfl rfl rfl ⟨rfl, rfl, rfl, rfl, rfl⟩ rfl rfl rfl rfl rfl (by kernel_rfl) Tryz.func4 controlExtends_facts
    (of_decide_eq_true (by kernel_rfl)) (by unfold Func.isWrapper; rw [if_neg (by decide +kernel)]; exact ⟨rfl, rfl⟩)
    (fun os started H enc _ => controlExtends_lifted os started H enc)
end Go.Proofs.YtbegiibjiidkmaaGreatDoor
