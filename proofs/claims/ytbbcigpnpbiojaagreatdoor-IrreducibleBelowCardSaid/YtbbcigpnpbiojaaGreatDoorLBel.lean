/- antecedelaw33.IrreducibleBelow returns true whatever the input, and the input reads as it did. No condition. -/
import Derived.Test.YtbbcigpnpbiojaaGreatDoorLBelB
import Derived.Test.YtbbcigpnpbiojaaGreatDoorRows
import Derived.Test.YtbbcigpnpbiojaaGreatDoorCards
import Derived.Test.YtbbcigpnpbiojaaGreatDoorTie
import Derived.SevenTiedAt
namespace Go.Proofs.YtbbcigpnpbiojaaGreatDoor
open Go.ChangeShapes Go.WideShapes Go.ChangeAt Go.RowKit Go.AL
theorem irreducibleBelow_holds : Rows.IrreducibleBelowCardSaid :=
  Claim7.holds_tied_plain_at .later [] [.data] true _ true irreducibleBelow_row (fun _ h => by cases h) (by kernel_rfl) (fun _ h => by cases h) irreducibleBelow_row_tie rfl ⟨rfl, rfl⟩ (by kernel_rfl) rfl
    (fun f fn hf hfn => by
      obtain rfl : f = 3 := Option.some.inj ((show Tryz.prog.funcNamed Rows.irreducibleBelowRow.func = some 3 by kernel_rfl).symm.trans hf) |>.symm
      obtain rfl : fn = Tryz.f3 := (Option.some.inj (Tryz.func3.symm.trans hfn)).symm
      exact ⟨by kernel_rfl, fun j t ht => by
        rw [Tryz.params3] at ht
        rcases j with _ | _ | _ | _ | j
        · cases ht; kernel_rfl
        · cases ht; kernel_rfl
        · cases ht; kernel_rfl
        · cases ht; kernel_rfl
        · simp at ht⟩)
    (by kernel_rfl)
end Go.Proofs.YtbbcigpnpbiojaaGreatDoor
