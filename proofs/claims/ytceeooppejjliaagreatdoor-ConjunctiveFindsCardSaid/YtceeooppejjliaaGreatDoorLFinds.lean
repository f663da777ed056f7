/- antecedelaw37.ConjunctiveFinds returns true whatever the input, and the input reads as it did. No condition. -/
import Derived.Test.YtceeooppejjliaaGreatDoorLFindsB
import Derived.Test.YtceeooppejjliaaGreatDoorRows
import Derived.Test.YtceeooppejjliaaGreatDoorCards
import Derived.Test.YtceeooppejjliaaGreatDoorTie
import Derived.SevenTiedAt
namespace Go.Proofs.YtceeooppejjliaaGreatDoor
open Go.ChangeShapes Go.WideShapes Go.ChangeAt Go.RowKit Go.AL
theorem conjunctiveFinds_holds : Rows.ConjunctiveFindsCardSaid :=
  Claim7.holds_tied_plain_at .later [] [.data] true _ false conjunctiveFinds_row (fun _ h => by cases h) (by kernel_rfl) (fun _ h => by cases h) conjunctiveFinds_row_tie rfl ⟨rfl, rfl⟩ (by kernel_rfl) rfl
    (fun f fn hf hfn => by
      obtain rfl : f = 6 := Option.some.inj ((show Tryz.prog.funcNamed Rows.conjunctiveFindsRow.func = some 6 by kernel_rfl).symm.trans hf) |>.symm
      obtain rfl : fn = Tryz.f6 := (Option.some.inj (Tryz.func6.symm.trans hfn)).symm
      exact ⟨by kernel_rfl, fun j t ht => by
        rw [Tryz.params6] at ht
        rcases j with _ | _ | j
        · cases ht; kernel_rfl
        · cases ht; kernel_rfl
        · simp at ht⟩)
    (by kernel_rfl)
end Go.Proofs.YtceeooppejjliaaGreatDoor
