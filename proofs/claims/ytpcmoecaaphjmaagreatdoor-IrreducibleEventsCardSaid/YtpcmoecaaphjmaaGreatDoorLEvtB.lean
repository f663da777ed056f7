/- antecedelaw33.IrreducibleEvents returns true whatever the input, and the input reads as it did. No condition. -/
import Derived.Test.YtpcmoecaaphjmaaGreatDoorLEvtF
import Derived.Test.YtpcmoecaaphjmaaGreatDoorLEvtA
import Derived.Test.YtpcmoecaaphjmaaGreatDoorRows
import Derived.Test.YtpcmoecaaphjmaaGreatDoorCards
import Derived.Test.YtpcmoecaaphjmaaGreatDoorTie
import Derived.SevenTiedAt
namespace Go.Proofs.YtpcmoecaaphjmaaGreatDoor
open Go.ChangeShapes Go.WideShapes Go.ChangeAt Go.RowKit Go.AL
theorem irreducibleEvents_row : Rows.IrreducibleEventsSaid :=
  OpenClaim.holds_of_wide 4 Tryz.f4 rfl rfl rfl rfl rfl rfl rfl ⟨rfl, rfl, rfl, rfl, rfl⟩ rfl rfl rfl rfl rfl (by kernel_rfl) Tryz.func4 irreducibleEvents_facts
    (of_decide_eq_true (by kernel_rfl)) (by unfold Func.isWrapper; rw [if_neg (by decide +kernel)]; exact ⟨rfl, rfl⟩)
    (fun os started H enc _ => irreducibleEvents_lifted os started H enc)
end Go.Proofs.YtpcmoecaaphjmaaGreatDoor
