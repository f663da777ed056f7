/-
  No cell of these rows narrows 'for every input' (looked for: loops, veiled, ifaces, maps, wideKeys, modest, calm, conditions, laid).
  DERIVED. THE GIVEN ROWS OF THIS SEAT. 6 by the template 'for every input the law returns true; each argument reads behind the call as it read before'; 0 by the template 'total and deterministic' (their statements: YtmnabhohlflkkaaGreatTotals.lean).
  GIVEN WITH THE SEED: the statements are not yours to turn. If you find one false, say at which input.
  Laid BY PROGRAM, IN A SANDBOX (cutbox-rows.mjs): the forced cells as the released guide's own fill.sh prints them over the translation 08478630e00610f4… (all of the seat's roots in one cut). By AI agents, Wed Nov 11 2026. No macro, syntax, notation, axiom, sorry.
-/
import Derived.Test.YtmnabhohlflkkaaGreatChecked
import GoSem.Claim
import GoSem.ClaimJoined
import GoSem.ClaimMapViews
import Derived.JoinedTies
import Derived.KernelRfl
namespace Go.Proofs.YtmnabhohlflkkaaGreat
/- THE CELL 'sum', in the pinned program and in every row, IS THE sha256 OF THE DUMP (.gsa) THAT YtmnabhohlflkkaaGreatProg.lean LOADS. Nothing in Lean hashes anything: it is a label: what it is worth is what the hold of that sum in a sandbox is worth. -/
noncomputable def Tryz.pinned : Pinned := { name := "ytmnabhohlflkkaagreat", sum := "08478630e00610f44f3f28e53b539e5c689b7637dde7476352d47aeb2dc08819", checked := Tryz.checked }
namespace Rows
def none {H : Type} : Left H := { results := [], args := [] }

/-- 'antecedelaw24.RunCounts': WHATEVER THE INPUT: true; the input reads as it did. -/
def runCountsSpec : ChangeSpec := { name := "runCounts", fn := fun _ => fun
  | [d] => { results := [.lit (.bool true)], args := [d] }
  | _ => none }
def runCountsRow : OpenClaim := { program := "ytmnabhohlflkkaagreat", sum := "08478630e00610f44f3f28e53b539e5c689b7637dde7476352d47aeb2dc08819", func := "antecede/antecedelaw24.RunCounts", spec := "runCounts", unfollowed := true, recurses := true, plainKeys := false, apart := false }
def RunCountsSaid : Prop := runCountsRow.holds Tryz.pinned (OpenSpec.ofChange runCountsSpec)

/-- ITS FALSE NEIGHBOUR: 'it returns false'. Refute it at one input. -/
def runCountsWrong : ChangeSpec := { name := "runCounts", fn := fun _ => fun
  | [d] => { results := [.lit (.bool false)], args := [d] }
  | _ => none }
def RunCountsWrongFalsely : Prop := runCountsRow.holds Tryz.pinned (OpenSpec.ofChange runCountsWrong)

/-- 'antecedelaw24.RunAvoids': WHATEVER THE INPUT: true; the input reads as it did. -/
def runAvoidsSpec : ChangeSpec := { name := "runAvoids", fn := fun _ => fun
  | [d1, d2] => { results := [.lit (.bool true)], args := [d1, d2] }
  | _ => none }
def runAvoidsRow : OpenClaim := { program := "ytmnabhohlflkkaagreat", sum := "08478630e00610f44f3f28e53b539e5c689b7637dde7476352d47aeb2dc08819", func := "antecede/antecedelaw24.RunAvoids", spec := "runAvoids", unfollowed := true, recurses := true, plainKeys := false, apart := false }
def RunAvoidsSaid : Prop := runAvoidsRow.holds Tryz.pinned (OpenSpec.ofChange runAvoidsSpec)

/-- ITS FALSE NEIGHBOUR: 'it returns false'. Refute it at one input. -/
def runAvoidsWrong : ChangeSpec := { name := "runAvoids", fn := fun _ => fun
  | [d1, d2] => { results := [.lit (.bool false)], args := [d1, d2] }
  | _ => none }
def RunAvoidsWrongFalsely : Prop := runAvoidsRow.holds Tryz.pinned (OpenSpec.ofChange runAvoidsWrong)

/-- 'antecedelaw24.RunLeast': WHATEVER THE INPUT: true; the input reads as it did. -/
def runLeastSpec : ChangeSpec := { name := "runLeast", fn := fun _ => fun
  | [d1, d2] => { results := [.lit (.bool true)], args := [d1, d2] }
  | _ => none }
def runLeastRow : OpenClaim := { program := "ytmnabhohlflkkaagreat", sum := "08478630e00610f44f3f28e53b539e5c689b7637dde7476352d47aeb2dc08819", func := "antecede/antecedelaw24.RunLeast", spec := "runLeast", unfollowed := true, recurses := true, plainKeys := false, apart := false }
def RunLeastSaid : Prop := runLeastRow.holds Tryz.pinned (OpenSpec.ofChange runLeastSpec)

/-- ITS FALSE NEIGHBOUR: 'it returns false'. Refute it at one input. -/
def runLeastWrong : ChangeSpec := { name := "runLeast", fn := fun _ => fun
  | [d1, d2] => { results := [.lit (.bool false)], args := [d1, d2] }
  | _ => none }
def RunLeastWrongFalsely : Prop := runLeastRow.holds Tryz.pinned (OpenSpec.ofChange runLeastWrong)

/-- 'antecedelaw24.RunBarriers': WHATEVER THE INPUT: true; the input reads as it did. -/
def runBarriersSpec : ChangeSpec := { name := "runBarriers", fn := fun _ => fun
  | [d1, d2, d3, d4] => { results := [.lit (.bool true)], args := [d1, d2, d3, d4] }
  | _ => none }
def runBarriersRow : OpenClaim := { program := "ytmnabhohlflkkaagreat", sum := "08478630e00610f44f3f28e53b539e5c689b7637dde7476352d47aeb2dc08819", func := "antecede/antecedelaw24.RunBarriers", spec := "runBarriers", unfollowed := true, recurses := true, plainKeys := false, apart := false }
def RunBarriersSaid : Prop := runBarriersRow.holds Tryz.pinned (OpenSpec.ofChange runBarriersSpec)

/-- ITS FALSE NEIGHBOUR: 'it returns false'. Refute it at one input. -/
def runBarriersWrong : ChangeSpec := { name := "runBarriers", fn := fun _ => fun
  | [d1, d2, d3, d4] => { results := [.lit (.bool false)], args := [d1, d2, d3, d4] }
  | _ => none }
def RunBarriersWrongFalsely : Prop := runBarriersRow.holds Tryz.pinned (OpenSpec.ofChange runBarriersWrong)

/-- 'antecedelaw24.RunChecks': WHATEVER THE INPUT: true; the input reads as it did. -/
def runChecksSpec : ChangeSpec := { name := "runChecks", fn := fun _ => fun
  | [d1, d2, d3] => { results := [.lit (.bool true)], args := [d1, d2, d3] }
  | _ => none }
def runChecksRow : OpenClaim := { program := "ytmnabhohlflkkaagreat", sum := "08478630e00610f44f3f28e53b539e5c689b7637dde7476352d47aeb2dc08819", func := "antecede/antecedelaw24.RunChecks", spec := "runChecks", unfollowed := true, recurses := true, plainKeys := false, apart := false }
def RunChecksSaid : Prop := runChecksRow.holds Tryz.pinned (OpenSpec.ofChange runChecksSpec)

/-- ITS FALSE NEIGHBOUR: 'it returns false'. Refute it at one input. -/
def runChecksWrong : ChangeSpec := { name := "runChecks", fn := fun _ => fun
  | [d1, d2, d3] => { results := [.lit (.bool false)], args := [d1, d2, d3] }
  | _ => none }
def RunChecksWrongFalsely : Prop := runChecksRow.holds Tryz.pinned (OpenSpec.ofChange runChecksWrong)

/-- 'antecedelaw24.RunOrders': WHATEVER THE INPUT: true; the input reads as it did. -/
def runOrdersSpec : ChangeSpec := { name := "runOrders", fn := fun _ => fun
  | [d1, d2, d3] => { results := [.lit (.bool true)], args := [d1, d2, d3] }
  | _ => none }
def runOrdersRow : OpenClaim := { program := "ytmnabhohlflkkaagreat", sum := "08478630e00610f44f3f28e53b539e5c689b7637dde7476352d47aeb2dc08819", func := "antecede/antecedelaw24.RunOrders", spec := "runOrders", unfollowed := true, recurses := true, plainKeys := false, apart := false }
def RunOrdersSaid : Prop := runOrdersRow.holds Tryz.pinned (OpenSpec.ofChange runOrdersSpec)

/-- ITS FALSE NEIGHBOUR: 'it returns false'. Refute it at one input. -/
def runOrdersWrong : ChangeSpec := { name := "runOrders", fn := fun _ => fun
  | [d1, d2, d3] => { results := [.lit (.bool false)], args := [d1, d2, d3] }
  | _ => none }
def RunOrdersWrongFalsely : Prop := runOrdersRow.holds Tryz.pinned (OpenSpec.ofChange runOrdersWrong)

/- THE SECOND FORM. 'bulk': how many values and letters a reading holds, each counted each time it is reached (what is shared counts as often as it is met; a slice's spare places count too). A statement '..UptoSaid' is the law's where the arguments, and the package variables that the reading takes, are together of bulk at most 1048576: NARROWER than '..Said'. Prove '..Said' where nothing that the law and all that it calls make is longer than what came in: it says more and counts as full. Else prove '..UptoSaid'. A law counts once. -/
mutual
def uptoBulk {H : Type} : DataW H → Nat
  | .lit (.string bytes) => bytes.length + 1
  | .lit _ => 1
  | .nil => 1
  | .ptr d => uptoBulk d + 1
  | .slice elems spare => uptoBulkAll elems + uptoBulkAll spare + 1
  | .agg parts => uptoBulkAll parts + 1
  | .iface _ d => uptoBulk d + 1
  | .map entries => uptoBulkEntries entries + 1
  | .held _ => 1
def uptoBulkAll {H : Type} : List (DataW H) → Nat
  | [] => 0
  | d :: r => uptoBulk d + uptoBulkAll r
def uptoBulkEntries {H : Type} : List (Lit × DataW H) → Nat
  | [] => 0
  | x :: r => uptoBulkEntry x + uptoBulkEntries r
def uptoBulkEntry {H : Type} : Lit × DataW H → Nat
  | (.string bytes, d) => bytes.length + uptoBulk d + 1
  | (_, d) => uptoBulk d + 1
 end
def uptoSmall : (H : Type) → List (DataW H) → Bool := fun _ ds => decide (uptoBulkAll ds ≤ 1048576)
def OpenSpec.upto (s : _root_.Go.ChangeSpec) : _root_.Go.OpenSpec := { _root_.Go.OpenSpec.ofChange s with cond := some uptoSmall }

/-- 'antecedelaw24.RunCounts', WHERE WHAT IT READS IS OF BULK AT MOST 1048576: true; the input reads as it did. -/
def runCountsUptoRow : OpenClaim := { program := "ytmnabhohlflkkaagreat", sum := "08478630e00610f44f3f28e53b539e5c689b7637dde7476352d47aeb2dc08819", func := "antecede/antecedelaw24.RunCounts", spec := "runCounts", unfollowed := true, recurses := true, plainKeys := false, apart := false, narrowed := true }
def RunCountsUptoSaid : Prop := runCountsUptoRow.holds Tryz.pinned (OpenSpec.upto runCountsSpec)

/-- 'antecedelaw24.RunAvoids', WHERE WHAT IT READS IS OF BULK AT MOST 1048576: true; the input reads as it did. -/
def runAvoidsUptoRow : OpenClaim := { program := "ytmnabhohlflkkaagreat", sum := "08478630e00610f44f3f28e53b539e5c689b7637dde7476352d47aeb2dc08819", func := "antecede/antecedelaw24.RunAvoids", spec := "runAvoids", unfollowed := true, recurses := true, plainKeys := false, apart := false, narrowed := true }
def RunAvoidsUptoSaid : Prop := runAvoidsUptoRow.holds Tryz.pinned (OpenSpec.upto runAvoidsSpec)

/-- 'antecedelaw24.RunLeast', WHERE WHAT IT READS IS OF BULK AT MOST 1048576: true; the input reads as it did. -/
def runLeastUptoRow : OpenClaim := { program := "ytmnabhohlflkkaagreat", sum := "08478630e00610f44f3f28e53b539e5c689b7637dde7476352d47aeb2dc08819", func := "antecede/antecedelaw24.RunLeast", spec := "runLeast", unfollowed := true, recurses := true, plainKeys := false, apart := false, narrowed := true }
def RunLeastUptoSaid : Prop := runLeastUptoRow.holds Tryz.pinned (OpenSpec.upto runLeastSpec)

/-- 'antecedelaw24.RunBarriers', WHERE WHAT IT READS IS OF BULK AT MOST 1048576: true; the input reads as it did. -/
def runBarriersUptoRow : OpenClaim := { program := "ytmnabhohlflkkaagreat", sum := "08478630e00610f44f3f28e53b539e5c689b7637dde7476352d47aeb2dc08819", func := "antecede/antecedelaw24.RunBarriers", spec := "runBarriers", unfollowed := true, recurses := true, plainKeys := false, apart := false, narrowed := true }
def RunBarriersUptoSaid : Prop := runBarriersUptoRow.holds Tryz.pinned (OpenSpec.upto runBarriersSpec)

/-- 'antecedelaw24.RunChecks', WHERE WHAT IT READS IS OF BULK AT MOST 1048576: true; the input reads as it did. -/
def runChecksUptoRow : OpenClaim := { program := "ytmnabhohlflkkaagreat", sum := "08478630e00610f44f3f28e53b539e5c689b7637dde7476352d47aeb2dc08819", func := "antecede/antecedelaw24.RunChecks", spec := "runChecks", unfollowed := true, recurses := true, plainKeys := false, apart := false, narrowed := true }
def RunChecksUptoSaid : Prop := runChecksUptoRow.holds Tryz.pinned (OpenSpec.upto runChecksSpec)

/-- 'antecedelaw24.RunOrders', WHERE WHAT IT READS IS OF BULK AT MOST 1048576: true; the input reads as it did. -/
def runOrdersUptoRow : OpenClaim := { program := "ytmnabhohlflkkaagreat", sum := "08478630e00610f44f3f28e53b539e5c689b7637dde7476352d47aeb2dc08819", func := "antecede/antecedelaw24.RunOrders", spec := "runOrders", unfollowed := true, recurses := true, plainKeys := false, apart := false, narrowed := true }
def RunOrdersUptoSaid : Prop := runOrdersUptoRow.holds Tryz.pinned (OpenSpec.upto runOrdersSpec)

end Rows
end Go.Proofs.YtmnabhohlflkkaaGreat
