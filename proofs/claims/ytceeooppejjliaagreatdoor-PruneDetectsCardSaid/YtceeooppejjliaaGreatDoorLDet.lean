/- antecedelaw49.PruneDetects returns true whatever the input, and the input reads as it did. No condition. -/
import Derived.Test.YtceeooppejjliaaGreatDoorLDetB
import Derived.Test.YtceeooppejjliaaGreatDoorRows
import Derived.Test.YtceeooppejjliaaGreatDoorCards
import Derived.Test.YtceeooppejjliaaGreatDoorTie
import Derived.SevenTiedAt
namespace Go.Proofs.YtceeooppejjliaaGreatDoor
open Go.ChangeShapes Go.WideShapes Go.ChangeAt Go.RowKit Go.AL
theorem pruneDetects_holds : Rows.PruneDetectsCardSaid :=
  Claim7.holds_tied_plain_at .later [] [.data] true _ false pruneDetects_row (fun _ h => by cases h) (by kernel_rfl) (fun _ h => by cases h) pruneDetects_row_tie rfl ⟨rfl, rfl⟩ (by kernel_rfl) rfl
    (fun f fn hf hfn => by
      obtain rfl : f = 8 := Option.some.inj ((show Tryz.prog.funcNamed Rows.pruneDetectsRow.func = some 8 by kernel_rfl).symm.trans hf) |>.symm
      obtain rfl : fn = Tryz.f8 := (Option.some.inj (Tryz.func8.symm.trans hfn)).symm
      exact ⟨by kernel_rfl, fun j t ht => by
        rw [Tryz.params8] at ht
        rcases j with _ | _ | _ | j
        · cases ht; kernel_rfl
        · cases ht; kernel_rfl
        · cases ht; kernel_rfl
        · simp at ht⟩)
    (by kernel_rfl)
end Go.Proofs.YtceeooppejjliaaGreatDoor
