/- antecedelaw24.RunExtensions returns true whatever the input, and the input reads as it did. No condition. -/
import Derived.Test.YtjblppbkhgihoaaGreatDoorLExtB
import Derived.Test.YtjblppbkhgihoaaGreatDoorRows
import Derived.Test.YtjblppbkhgihoaaGreatDoorCards
import Derived.Test.YtjblppbkhgihoaaGreatDoorTie
import Derived.SevenTiedAt
namespace Go.Proofs.YtjblppbkhgihoaaGreatDoor
open Go.ChangeShapes Go.WideShapes Go.ChangeAt Go.RowKit Go.AL
theorem runExtensions_holds : Rows.RunExtensionsCardSaid :=
  Claim7.holds_tied_plain_at .later [] [.data] true _ false runExtensions_row (fun _ h => by cases h) (by kernel_rfl) (fun _ h => by cases h) runExtensions_row_tie rfl ⟨rfl, rfl⟩ (by kernel_rfl) rfl
    (fun f fn hf hfn => by
      obtain rfl : f = 3 := Option.some.inj ((show Tryz.prog.funcNamed Rows.runExtensionsRow.func = some 3 by kernel_rfl).symm.trans hf) |>.symm
      obtain rfl : fn = Tryz.f3 := (Option.some.inj (Tryz.func3.symm.trans hfn)).symm
      exact ⟨by kernel_rfl, fun j t ht => by
        rw [Tryz.params3] at ht
        rcases j with _ | j
        · cases ht; kernel_rfl
        · simp at ht⟩)
    (by kernel_rfl)
end Go.Proofs.YtjblppbkhgihoaaGreatDoor
