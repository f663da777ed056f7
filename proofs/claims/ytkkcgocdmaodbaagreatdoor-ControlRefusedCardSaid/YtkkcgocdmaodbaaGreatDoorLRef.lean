/- antecedelaw44.ControlRefused returns true whatever the input, and the input reads as it did. No condition. -/
import Derived.Test.YtkkcgocdmaodbaaGreatDoorLRefB
import Derived.Test.YtkkcgocdmaodbaaGreatDoorRows
import Derived.Test.YtkkcgocdmaodbaaGreatDoorCards
import Derived.Test.YtkkcgocdmaodbaaGreatDoorTie
import Derived.SevenTiedAt
namespace Go.Proofs.YtkkcgocdmaodbaaGreatDoor
open Go.ChangeShapes Go.WideShapes Go.ChangeAt Go.RowKit Go.AL
theorem controlRefused_holds : Rows.ControlRefusedCardSaid :=
  Claim7.holds_tied_plain_at .later [] [.data] true _ false controlRefused_row (fun _ h => by cases h) (by kernel_rfl) (fun _ h => by cases h) controlRefused_row_tie rfl ⟨rfl, rfl⟩ (by kernel_rfl) rfl
    (fun f fn hf hfn => by
      obtain rfl : f = 4 := Option.some.inj ((show Tryz.prog.funcNamed Rows.controlRefusedRow.func = some 4 by kernel_rfl).symm.trans hf) |>.symm
      obtain rfl : fn = Tryz.f4 := (Option.some.inj (Tryz.func4.symm.trans hfn)).symm
      exact ⟨by kernel_rfl, fun j t ht => by
        rw [Tryz.params4] at ht
        rcases j with _ | _ | _ | j
        · cases ht; kernel_rfl
        · cases ht; kernel_rfl
        · cases ht; kernel_rfl
        · simp at ht⟩)
    (by kernel_rfl)
end Go.Proofs.YtkkcgocdmaodbaaGreatDoor
