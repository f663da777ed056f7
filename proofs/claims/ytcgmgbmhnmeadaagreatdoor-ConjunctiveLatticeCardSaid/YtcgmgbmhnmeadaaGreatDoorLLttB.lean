/- antecedelaw37.ConjunctiveLattice returns true whatever the input, and the input reads as it did. No condition. -/
import Derived.Test.YtcgmgbmhnmeadaaGreatDoorLLttF
import Derived.Test.YtcgmgbmhnmeadaaGreatDoorLLttA
import Derived.Test.YtcgmgbmhnmeadaaGreatDoorRows
import Derived.Test.YtcgmgbmhnmeadaaGreatDoorCards
import Derived.Test.YtcgmgbmhnmeadaaGreatDoorTie
import Derived.SevenTiedAt
namespace Go.Proofs.YtcgmgbmhnmeadaaGreatDoor
open Go.ChangeShapes Go.WideShapes Go.ChangeAt Go.RowKit Go.AL
theorem conjunctiveLattice_row : Rows.ConjunctiveLatticeSaid :=
  OpenClaim.holds_of_wide 3 Tryz.f3 rfl rfl rfl rfl rfl rfl rfl ⟨rfl, rfl, rfl, rfl, rfl⟩ rfl rfl rfl rfl rfl (by kernel_rfl) Tryz.func3 conjunctiveLattice_facts
    (of_decide_eq_true (by kernel_rfl)) (by unfold Func.isWrapper; rw [if_neg (by decide +kernel)]; exact ⟨rfl, rfl⟩)
    (fun os started H enc _ => conjunctiveLattice_lifted os started H enc)
end Go.Proofs.YtcgmgbmhnmeadaaGreatDoor
