/- antecedelaw30.ClassifyTruth returns true whatever the input, and the input reads as it did. No condition. -/
import Derived.Test.YtbdofbhocjfbfaaGreatDoorLTruB
import Derived.Test.YtbdofbhocjfbfaaGreatDoorRows
import Derived.Test.YtbdofbhocjfbfaaGreatDoorCards
import Derived.Test.YtbdofbhocjfbfaaGreatDoorTie
import Derived.SevenTiedAt
namespace Go.Proofs.YtbdofbhocjfbfaaGreatDoor
open Go.ChangeShapes Go.WideShapes Go.ChangeAt Go.RowKit Go.AL
theorem classifyTruth_holds : Rows.ClassifyTruthCardSaid :=
  Claim7.holds_tied_plain_at .later [] [.data] true _ true classifyTruth_row (fun _ h => by cases h) (by kernel_rfl) (fun _ h => by cases h) classifyTruth_row_tie rfl ⟨rfl, rfl⟩ (by kernel_rfl) rfl
    (fun f fn hf hfn => by
      obtain rfl : f = 5 := Option.some.inj ((show Tryz.prog.funcNamed Rows.classifyTruthRow.func = some 5 by kernel_rfl).symm.trans hf) |>.symm
      obtain rfl : fn = Tryz.f5 := (Option.some.inj (Tryz.func5.symm.trans hfn)).symm
      exact ⟨by kernel_rfl, fun j t ht => by
        rw [Tryz.params5] at ht
        rcases j with _ | _ | _ | j
        · cases ht; kernel_rfl
        · cases ht; kernel_rfl
        · cases ht; kernel_rfl
        · simp at ht⟩)
    (by kernel_rfl)
end Go.Proofs.YtbdofbhocjfbfaaGreatDoor
