/- antecedelaw44.ControlChecks returns true whatever the input, and the input reads as it did. No condition. -/
import Derived.Test.YtbegiibjiidkmaaGreatDoorLChkF
import Derived.Test.YtbegiibjiidkmaaGreatDoorLChkA
import Derived.Test.YtbegiibjiidkmaaGreatDoorRows
import Derived.Test.YtbegiibjiidkmaaGreatDoorCards
import Derived.Test.YtbegiibjiidkmaaGreatDoorTie
import Derived.SevenTiedAt
namespace Go.Proofs.YtbegiibjiidkmaaGreatDoor
open Go.ChangeShapes Go.WideShapes Go.ChangeAt Go.RowKit Go.AL
theorem controlChecks_row : Rows.ControlChecksSaid :=
  OpenClaim.holds_of_wide 3 Tryz.f3 rfl rfl rfl rfl rfl rfl rfl ⟨rfl, rfl, rfl, rfl, rfl⟩ rfl rfl rfl rfl rfl (by kernel_rfl) Tryz.func3 controlChecks_facts
    (of_decide_eq_true (by kernel_rfl)) (by unfold Func.isWrapper; rw [if_neg (by decide +kernel)]; exact ⟨rfl, rfl⟩)
    (fun os started H enc _ => controlChecks_lifted os started H enc)
end Go.Proofs.YtbegiibjiidkmaaGreatDoor
