/-
  NARROWER THAN 'FOR EVERY INPUT', by the rows' own cells (each row's printed sentence says how): StrongAnswers: loops, laid · StrongOverlaps: laid · StrongChecks: loops, laid · StrongProofs: loops, laid.
  DERIVED. THE GIVEN ROWS OF THIS SEAT. 4 by the template 'for every input the law returns true; each argument reads behind the call as it read before'; 0 by the template 'total and deterministic' (their statements: YtaomlpmcimjfgaaGreatDoorTotals.lean).
  GIVEN WITH THE SEED: the statements are not yours to turn. If you find one false, say at which input.
  Laid BY PROGRAM, IN A SANDBOX (cutbox-rows.mjs): the forced cells as the released guide's own fill.sh prints them over the translation ab7b704935a35d45… (all of the seat's roots in one cut). By AI agents, Wed Nov 11 2026. No macro, syntax, notation, axiom, sorry.
-/
import Derived.Test.YtaomlpmcimjfgaaGreatDoorChecked
import GoSem.Claim
import GoSem.ClaimJoined
import GoSem.ClaimMapViews
import Derived.JoinedTies
import Derived.KernelRfl
namespace Go.Proofs.YtaomlpmcimjfgaaGreatDoor
/- THE CELL 'sum', in the pinned program and in every row, IS THE sha256 OF THE DUMP (.gsa) THAT YtaomlpmcimjfgaaGreatDoorProg.lean LOADS. Nothing in Lean hashes anything: it is a label: what it is worth is what the hold of that sum in a sandbox is worth. -/
noncomputable def Tryz.pinned : Pinned := { name := "ytaomlpmcimjfgaagreatdoor", sum := "ab7b704935a35d45df6d879043e77a2b49a6147bc9d799dec197b81f93fbd815", checked := Tryz.checked }
namespace Rows
def none {H : Type} : Left H := { results := [], args := [] }

/- WHAT THE LISTED PACKAGE-LEVEL VARIABLES READ AS WHEN THE CALL BEGINS. Each datum BY PROGRAM (the guide's laid-datum.mjs) off the statement by which the dump's own 'gosem.cut.vars' lays the variable. In a bare row this is a premise. The card (YtaomlpmcimjfgaaGreatDoorCards.lean) ties it to the program's text. -/
def laid_antecede_predtype_parts {H : Type} : DataW H := .agg [.lit (.int .i64 (-1)), .lit (.int .i64 0), .lit (.int .i64 0), .lit (.int .i64 0), .lit (.int .i64 0), .lit (.int .i64 1), .lit (.int .i64 2), .lit (.int .i64 2), .lit (.int .i64 2), .lit (.int .i64 2), .lit (.int .i64 2), .lit (.int .i64 2), .lit (.int .i64 2), .lit (.int .i64 0), .lit (.int .i64 0), .lit (.int .i64 1), .lit (.int .i64 2), .lit (.int .i64 2), .lit (.int .i64 1), .lit (.int .i64 1), .lit (.int .i64 1), .lit (.int .i64 1)]

/-- 'antecedelaw38.StrongAnswers': WHATEVER THE INPUT: true; the input reads as it did. -/
def strongAnswersSpec : ChangeSpec := { name := "strongAnswers", fn := fun _ => fun
  | [d1, d2] => { results := [.lit (.bool true)], args := [d1, d2] }
  | _ => none }
def strongAnswersRow : OpenClaim := { program := "ytaomlpmcimjfgaagreatdoor", sum := "ab7b704935a35d45df6d879043e77a2b49a6147bc9d799dec197b81f93fbd815", func := "antecede/antecedelaw38.StrongAnswers", spec := "strongAnswers", unfollowed := true, recurses := true, named := ["antecede/predtype.parts"], loops := true, plainKeys := false, apart := false, laid := [("antecede/predtype.parts", laid_antecede_predtype_parts)] }
def StrongAnswersSaid : Prop := strongAnswersRow.holds Tryz.pinned (OpenSpec.ofChange strongAnswersSpec)

/-- ITS FALSE NEIGHBOUR: 'it returns false'. Refute it at one input. -/
def strongAnswersWrong : ChangeSpec := { name := "strongAnswers", fn := fun _ => fun
  | [d1, d2] => { results := [.lit (.bool false)], args := [d1, d2] }
  | _ => none }
def StrongAnswersWrongFalsely : Prop := strongAnswersRow.holds Tryz.pinned (OpenSpec.ofChange strongAnswersWrong)

/-- 'antecedelaw38.StrongOverlaps': WHATEVER THE INPUT: true; the input reads as it did. -/
def strongOverlapsSpec : ChangeSpec := { name := "strongOverlaps", fn := fun _ => fun
  | [d1, d2] => { results := [.lit (.bool true)], args := [d1, d2] }
  | _ => none }
def strongOverlapsRow : OpenClaim := { program := "ytaomlpmcimjfgaagreatdoor", sum := "ab7b704935a35d45df6d879043e77a2b49a6147bc9d799dec197b81f93fbd815", func := "antecede/antecedelaw38.StrongOverlaps", spec := "strongOverlaps", unfollowed := true, recurses := true, named := ["antecede/predtype.parts"], plainKeys := false, apart := false, laid := [("antecede/predtype.parts", laid_antecede_predtype_parts)] }
def StrongOverlapsSaid : Prop := strongOverlapsRow.holds Tryz.pinned (OpenSpec.ofChange strongOverlapsSpec)

/-- ITS FALSE NEIGHBOUR: 'it returns false'. Refute it at one input. -/
def strongOverlapsWrong : ChangeSpec := { name := "strongOverlaps", fn := fun _ => fun
  | [d1, d2] => { results := [.lit (.bool false)], args := [d1, d2] }
  | _ => none }
def StrongOverlapsWrongFalsely : Prop := strongOverlapsRow.holds Tryz.pinned (OpenSpec.ofChange strongOverlapsWrong)

/-- 'antecedelaw38.StrongChecks': WHATEVER THE INPUT: true; the input reads as it did. -/
def strongChecksSpec : ChangeSpec := { name := "strongChecks", fn := fun _ => fun
  | [d1, d2, d3] => { results := [.lit (.bool true)], args := [d1, d2, d3] }
  | _ => none }
def strongChecksRow : OpenClaim := { program := "ytaomlpmcimjfgaagreatdoor", sum := "ab7b704935a35d45df6d879043e77a2b49a6147bc9d799dec197b81f93fbd815", func := "antecede/antecedelaw38.StrongChecks", spec := "strongChecks", unfollowed := true, recurses := true, named := ["antecede/predtype.parts"], loops := true, plainKeys := false, apart := false, laid := [("antecede/predtype.parts", laid_antecede_predtype_parts)] }
def StrongChecksSaid : Prop := strongChecksRow.holds Tryz.pinned (OpenSpec.ofChange strongChecksSpec)

/-- ITS FALSE NEIGHBOUR: 'it returns false'. Refute it at one input. -/
def strongChecksWrong : ChangeSpec := { name := "strongChecks", fn := fun _ => fun
  | [d1, d2, d3] => { results := [.lit (.bool false)], args := [d1, d2, d3] }
  | _ => none }
def StrongChecksWrongFalsely : Prop := strongChecksRow.holds Tryz.pinned (OpenSpec.ofChange strongChecksWrong)

/-- 'antecedelaw38.StrongProofs': WHATEVER THE INPUT: true; the input reads as it did. -/
def strongProofsSpec : ChangeSpec := { name := "strongProofs", fn := fun _ => fun
  | [d1, d2, d3] => { results := [.lit (.bool true)], args := [d1, d2, d3] }
  | _ => none }
def strongProofsRow : OpenClaim := { program := "ytaomlpmcimjfgaagreatdoor", sum := "ab7b704935a35d45df6d879043e77a2b49a6147bc9d799dec197b81f93fbd815", func := "antecede/antecedelaw38.StrongProofs", spec := "strongProofs", unfollowed := true, recurses := true, named := ["antecede/predtype.parts"], loops := true, plainKeys := false, apart := false, laid := [("antecede/predtype.parts", laid_antecede_predtype_parts)] }
def StrongProofsSaid : Prop := strongProofsRow.holds Tryz.pinned (OpenSpec.ofChange strongProofsSpec)

/-- ITS FALSE NEIGHBOUR: 'it returns false'. Refute it at one input. -/
def strongProofsWrong : ChangeSpec := { name := "strongProofs", fn := fun _ => fun
  | [d1, d2, d3] => { results := [.lit (.bool false)], args := [d1, d2, d3] }
  | _ => none }
def StrongProofsWrongFalsely : Prop := strongProofsRow.holds Tryz.pinned (OpenSpec.ofChange strongProofsWrong)

/- THE SECOND FORM. 'bulk': how many values and letters a reading holds, each counted each time it is reached (what is shared counts as often as it is met; a slice's spare places count too). A statement '..UptoSaid' is the law's where the arguments, and the package variables that the reading takes, are together of bulk at most 1048576: NARROWER than '..Said'. Prove '..Said' where nothing that the law and all that it calls make is longer than what came in: it says more and counts as full. Else prove '..UptoSaid'. A law counts once. -/
mutual
def uptoBulk {H : Type} : DataW H → Nat
  | .lit (.string bytes) => bytes.length + 1
  | .lit _ => 1
  | .nil => 1
  | .ptr d => uptoBulk d + 1
  | .slice elems spare => uptoBulkAll elems + uptoBulkAll spare + 1
  | .agg parts => uptoBulkAll parts + 1
  | .iface _ d => uptoBulk d + 1
  | .map entries => uptoBulkEntries entries + 1
  | .held _ => 1
def uptoBulkAll {H : Type} : List (DataW H) → Nat
  | [] => 0
  | d :: r => uptoBulk d + uptoBulkAll r
def uptoBulkEntries {H : Type} : List (Lit × DataW H) → Nat
  | [] => 0
  | x :: r => uptoBulkEntry x + uptoBulkEntries r
def uptoBulkEntry {H : Type} : Lit × DataW H → Nat
  | (.string bytes, d) => bytes.length + uptoBulk d + 1
  | (_, d) => uptoBulk d + 1
 end
def uptoSmall : (H : Type) → List (DataW H) → Bool := fun _ ds => decide (uptoBulkAll ds ≤ 1048576)
def OpenSpec.upto (s : _root_.Go.ChangeSpec) : _root_.Go.OpenSpec := { _root_.Go.OpenSpec.ofChange s with cond := some uptoSmall }

/-- 'antecedelaw38.StrongAnswers', WHERE WHAT IT READS IS OF BULK AT MOST 1048576: true; the input reads as it did. -/
def strongAnswersUptoRow : OpenClaim := { program := "ytaomlpmcimjfgaagreatdoor", sum := "ab7b704935a35d45df6d879043e77a2b49a6147bc9d799dec197b81f93fbd815", func := "antecede/antecedelaw38.StrongAnswers", spec := "strongAnswers", unfollowed := true, recurses := true, named := ["antecede/predtype.parts"], loops := true, plainKeys := false, apart := false, laid := [("antecede/predtype.parts", laid_antecede_predtype_parts)], narrowed := true }
def StrongAnswersUptoSaid : Prop := strongAnswersUptoRow.holds Tryz.pinned (OpenSpec.upto strongAnswersSpec)

/-- 'antecedelaw38.StrongOverlaps', WHERE WHAT IT READS IS OF BULK AT MOST 1048576: true; the input reads as it did. -/
def strongOverlapsUptoRow : OpenClaim := { program := "ytaomlpmcimjfgaagreatdoor", sum := "ab7b704935a35d45df6d879043e77a2b49a6147bc9d799dec197b81f93fbd815", func := "antecede/antecedelaw38.StrongOverlaps", spec := "strongOverlaps", unfollowed := true, recurses := true, named := ["antecede/predtype.parts"], plainKeys := false, apart := false, laid := [("antecede/predtype.parts", laid_antecede_predtype_parts)], narrowed := true }
def StrongOverlapsUptoSaid : Prop := strongOverlapsUptoRow.holds Tryz.pinned (OpenSpec.upto strongOverlapsSpec)

/-- 'antecedelaw38.StrongChecks', WHERE WHAT IT READS IS OF BULK AT MOST 1048576: true; the input reads as it did. -/
def strongChecksUptoRow : OpenClaim := { program := "ytaomlpmcimjfgaagreatdoor", sum := "ab7b704935a35d45df6d879043e77a2b49a6147bc9d799dec197b81f93fbd815", func := "antecede/antecedelaw38.StrongChecks", spec := "strongChecks", unfollowed := true, recurses := true, named := ["antecede/predtype.parts"], loops := true, plainKeys := false, apart := false, laid := [("antecede/predtype.parts", laid_antecede_predtype_parts)], narrowed := true }
def StrongChecksUptoSaid : Prop := strongChecksUptoRow.holds Tryz.pinned (OpenSpec.upto strongChecksSpec)

/-- 'antecedelaw38.StrongProofs', WHERE WHAT IT READS IS OF BULK AT MOST 1048576: true; the input reads as it did. -/
def strongProofsUptoRow : OpenClaim := { program := "ytaomlpmcimjfgaagreatdoor", sum := "ab7b704935a35d45df6d879043e77a2b49a6147bc9d799dec197b81f93fbd815", func := "antecede/antecedelaw38.StrongProofs", spec := "strongProofs", unfollowed := true, recurses := true, named := ["antecede/predtype.parts"], loops := true, plainKeys := false, apart := false, laid := [("antecede/predtype.parts", laid_antecede_predtype_parts)], narrowed := true }
def StrongProofsUptoSaid : Prop := strongProofsUptoRow.holds Tryz.pinned (OpenSpec.upto strongProofsSpec)

end Rows
end Go.Proofs.YtaomlpmcimjfgaaGreatDoor
