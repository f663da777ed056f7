/- antecedelaw44.ControlStretches returns true whatever the input, and the input reads as it did. No condition. -/
import Derived.Test.YtplamfpmmogbeaaGreatDoorLStrB
import Derived.Test.YtplamfpmmogbeaaGreatDoorRows
import Derived.Test.YtplamfpmmogbeaaGreatDoorCards
import Derived.Test.YtplamfpmmogbeaaGreatDoorTie
import Derived.SevenTiedAt
namespace Go.Proofs.YtplamfpmmogbeaaGreatDoor
open Go.ChangeShapes Go.WideShapes Go.ChangeAt Go.RowKit Go.AL
theorem controlStretches_holds : Rows.ControlStretchesCardSaid :=
  Claim7.holds_tied_plain_at .later [] [.data] true _ false controlStretches_row (fun _ h => by cases h) (by kernel_rfl) (fun _ h => by cases h) controlStretches_row_tie rfl ⟨rfl, rfl⟩ (by kernel_rfl) rfl
    (fun f fn hf hfn => by
      obtain rfl : f = 5 := Option.some.inj ((show Tryz.prog.funcNamed Rows.controlStretchesRow.func = some 5 by kernel_rfl).symm.trans hf) |>.symm
      obtain rfl : fn = Tryz.f5 := (Option.some.inj (Tryz.func5.symm.trans hfn)).symm
      exact ⟨by kernel_rfl, fun j t ht => by
        rw [Tryz.params5] at ht
        rcases j with _ | _ | _ | j
        · cases ht; kernel_rfl
        · cases ht; kernel_rfl
        · cases ht; kernel_rfl
        · simp at ht⟩)
    (by kernel_rfl)
end Go.Proofs.YtplamfpmmogbeaaGreatDoor
