/- antecedelaw33.IrreducibleBelow returns true whatever the input, and the input reads as it did. No condition. -/
import Derived.Test.YtbbcigpnpbiojaaGreatDoorLBelF
import Derived.Test.YtbbcigpnpbiojaaGreatDoorLBelA
import Derived.Test.YtbbcigpnpbiojaaGreatDoorRows
import Derived.Test.YtbbcigpnpbiojaaGreatDoorCards
import Derived.Test.YtbbcigpnpbiojaaGreatDoorTie
import Derived.SevenTiedAt
namespace Go.Proofs.YtbbcigpnpbiojaaGreatDoor
open Go.ChangeShapes Go.WideShapes Go.ChangeAt Go.RowKit Go.AL
theorem irreducibleBelow_row : Rows.IrreducibleBelowSaid :=
  OpenClaim.holds_of_wide 3 Tryz.f3 rfl rfl rfl rfl rfl rfl rfl ⟨rfl, rfl, rfl, rfl, rfl⟩ rfl rfl rfl rfl rfl (by kernel_rfl) Tryz.func3 irreducibleBelow_facts
    (of_decide_eq_true (by kernel_rfl)) (by unfold Func.isWrapper; rw [if_neg (by decide +kernel)]; exact ⟨rfl, rfl⟩)
    (fun os started H enc _ => irreducibleBelow_lifted os started H enc)
end Go.Proofs.YtbbcigpnpbiojaaGreatDoor
