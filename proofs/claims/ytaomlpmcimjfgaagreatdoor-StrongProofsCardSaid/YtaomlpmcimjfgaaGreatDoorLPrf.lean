/- antecedelaw38.StrongProofs returns true whatever the input, and the input reads as it did. No condition. -/
import Derived.Test.YtaomlpmcimjfgaaGreatDoorLPrfB
import Derived.Test.YtaomlpmcimjfgaaGreatDoorRows
import Derived.Test.YtaomlpmcimjfgaaGreatDoorCards
import Derived.Test.YtaomlpmcimjfgaaGreatDoorTie
import Derived.SevenTiedAt
namespace Go.Proofs.YtaomlpmcimjfgaaGreatDoor
open Go.ChangeShapes Go.WideShapes Go.ChangeAt Go.RowKit Go.AL
theorem strongProofs_holds : Rows.StrongProofsCardSaid :=
  Claim7.holds_tied_plain_at .later [] [.data] true _ false strongProofs_row (fun _ h => by cases h) (by kernel_rfl) (fun _ h => by cases h) strongProofs_row_tie rfl ⟨rfl, rfl⟩ (by kernel_rfl) rfl
    (fun f fn hf hfn => by
      obtain rfl : f = 6 := Option.some.inj ((show Tryz.prog.funcNamed Rows.strongProofsRow.func = some 6 by kernel_rfl).symm.trans hf) |>.symm
      obtain rfl : fn = Tryz.f6 := (Option.some.inj (Tryz.func6.symm.trans hfn)).symm
      exact ⟨by kernel_rfl, fun j t ht => by
        rw [Tryz.params6] at ht
        rcases j with _ | _ | _ | j
        · cases ht; kernel_rfl
        · cases ht; kernel_rfl
        · cases ht; kernel_rfl
        · simp at ht⟩)
    (by kernel_rfl)
end Go.Proofs.YtaomlpmcimjfgaaGreatDoor
