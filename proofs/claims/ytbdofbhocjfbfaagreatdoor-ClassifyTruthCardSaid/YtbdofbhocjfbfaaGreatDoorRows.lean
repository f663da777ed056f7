/-
  NARROWER THAN 'FOR EVERY INPUT', by the rows' own cells (each row's printed sentence says how): ClassifyForms: loops, laid · ClassifyNormals: loops, laid · ClassifyTruth: loops, laid.
  DERIVED. THE GIVEN ROWS OF THIS SEAT. 3 by the template 'for every input the law returns true; each argument reads behind the call as it read before'; 0 by the template 'total and deterministic' (their statements: YtbdofbhocjfbfaaGreatDoorTotals.lean).
  GIVEN WITH THE SEED: the statements are not yours to turn. If you find one false, say at which input.
  Laid BY PROGRAM, IN A SANDBOX (cutbox-rows.mjs): the forced cells as the released guide's own fill.sh prints them over the translation 744395c4f28584ce… (all of the seat's roots in one cut). By AI agents, Wed Nov 11 2026. No macro, syntax, notation, axiom, sorry.
-/
import Derived.Test.YtbdofbhocjfbfaaGreatDoorChecked
import GoSem.Claim
import GoSem.ClaimJoined
import GoSem.ClaimMapViews
import Derived.JoinedTies
import Derived.KernelRfl
namespace Go.Proofs.YtbdofbhocjfbfaaGreatDoor
/- THE CELL 'sum', in the pinned program and in every row, IS THE sha256 OF THE DUMP (.gsa) THAT YtbdofbhocjfbfaaGreatDoorProg.lean LOADS. Nothing in Lean hashes anything: it is a label: what it is worth is what the hold of that sum in a sandbox is worth. -/
noncomputable def Tryz.pinned : Pinned := { name := "ytbdofbhocjfbfaagreatdoor", sum := "744395c4f28584ce992297daf3a3f5733972292f6f8dd5ef8bb47983ff1f49c6", checked := Tryz.checked }
namespace Rows
def none {H : Type} : Left H := { results := [], args := [] }

/- WHAT THE LISTED PACKAGE-LEVEL VARIABLES READ AS WHEN THE CALL BEGINS. Each datum BY PROGRAM (the guide's laid-datum.mjs) off the statement by which the dump's own 'gosem.cut.vars' lays the variable. In a bare row this is a premise. The card (YtbdofbhocjfbfaaGreatDoorCards.lean) ties it to the program's text. -/
def laid_antecede_predtype_parts {H : Type} : DataW H := .agg [.lit (.int .i64 (-1)), .lit (.int .i64 0), .lit (.int .i64 0), .lit (.int .i64 0), .lit (.int .i64 0), .lit (.int .i64 1), .lit (.int .i64 2), .lit (.int .i64 2), .lit (.int .i64 2), .lit (.int .i64 2), .lit (.int .i64 2), .lit (.int .i64 2), .lit (.int .i64 2), .lit (.int .i64 0), .lit (.int .i64 0), .lit (.int .i64 1), .lit (.int .i64 2), .lit (.int .i64 2), .lit (.int .i64 1), .lit (.int .i64 1), .lit (.int .i64 1), .lit (.int .i64 1)]

/-- 'antecedelaw30.ClassifyForms': WHATEVER THE INPUT: true; the input reads as it did. -/
def classifyFormsSpec : ChangeSpec := { name := "classifyForms", fn := fun _ => fun
  | [d] => { results := [.lit (.bool true)], args := [d] }
  | _ => none }
def classifyFormsRow : OpenClaim := { program := "ytbdofbhocjfbfaagreatdoor", sum := "744395c4f28584ce992297daf3a3f5733972292f6f8dd5ef8bb47983ff1f49c6", func := "antecede/antecedelaw30.ClassifyForms", spec := "classifyForms", inPlace := ["maps.clone"], unfollowed := true, recurses := true, named := ["antecede/predtype.parts"], loops := true, plainKeys := false, apart := false, laid := [("antecede/predtype.parts", laid_antecede_predtype_parts)] }
def ClassifyFormsSaid : Prop := classifyFormsRow.holds Tryz.pinned (OpenSpec.ofChange classifyFormsSpec)

/-- ITS FALSE NEIGHBOUR: 'it returns false'. Refute it at one input. -/
def classifyFormsWrong : ChangeSpec := { name := "classifyForms", fn := fun _ => fun
  | [d] => { results := [.lit (.bool false)], args := [d] }
  | _ => none }
def ClassifyFormsWrongFalsely : Prop := classifyFormsRow.holds Tryz.pinned (OpenSpec.ofChange classifyFormsWrong)

/-- 'antecedelaw30.ClassifyNormals': WHATEVER THE INPUT: true; the input reads as it did. -/
def classifyNormalsSpec : ChangeSpec := { name := "classifyNormals", fn := fun _ => fun
  | [d1, d2] => { results := [.lit (.bool true)], args := [d1, d2] }
  | _ => none }
def classifyNormalsRow : OpenClaim := { program := "ytbdofbhocjfbfaagreatdoor", sum := "744395c4f28584ce992297daf3a3f5733972292f6f8dd5ef8bb47983ff1f49c6", func := "antecede/antecedelaw30.ClassifyNormals", spec := "classifyNormals", inPlace := ["maps.clone"], unfollowed := true, recurses := true, named := ["antecede/predtype.parts"], loops := true, plainKeys := false, apart := false, laid := [("antecede/predtype.parts", laid_antecede_predtype_parts)] }
def ClassifyNormalsSaid : Prop := classifyNormalsRow.holds Tryz.pinned (OpenSpec.ofChange classifyNormalsSpec)

/-- ITS FALSE NEIGHBOUR: 'it returns false'. Refute it at one input. -/
def classifyNormalsWrong : ChangeSpec := { name := "classifyNormals", fn := fun _ => fun
  | [d1, d2] => { results := [.lit (.bool false)], args := [d1, d2] }
  | _ => none }
def ClassifyNormalsWrongFalsely : Prop := classifyNormalsRow.holds Tryz.pinned (OpenSpec.ofChange classifyNormalsWrong)

/-- 'antecedelaw30.ClassifyTruth': WHATEVER THE INPUT: true; the input reads as it did. -/
def classifyTruthSpec : ChangeSpec := { name := "classifyTruth", fn := fun _ => fun
  | [d1, d2, d3] => { results := [.lit (.bool true)], args := [d1, d2, d3] }
  | _ => none }
def classifyTruthRow : OpenClaim := { program := "ytbdofbhocjfbfaagreatdoor", sum := "744395c4f28584ce992297daf3a3f5733972292f6f8dd5ef8bb47983ff1f49c6", func := "antecede/antecedelaw30.ClassifyTruth", spec := "classifyTruth", inPlace := ["maps.clone"], unfollowed := true, recurses := true, named := ["antecede/predtype.parts"], loops := true, plainKeys := false, apart := false, laid := [("antecede/predtype.parts", laid_antecede_predtype_parts)] }
def ClassifyTruthSaid : Prop := classifyTruthRow.holds Tryz.pinned (OpenSpec.ofChange classifyTruthSpec)

/-- ITS FALSE NEIGHBOUR: 'it returns false'. Refute it at one input. -/
def classifyTruthWrong : ChangeSpec := { name := "classifyTruth", fn := fun _ => fun
  | [d1, d2, d3] => { results := [.lit (.bool false)], args := [d1, d2, d3] }
  | _ => none }
def ClassifyTruthWrongFalsely : Prop := classifyTruthRow.holds Tryz.pinned (OpenSpec.ofChange classifyTruthWrong)

/- THE SECOND FORM. 'bulk': how many values and letters a reading holds, each counted each time it is reached (what is shared counts as often as it is met; a slice's spare places count too). A statement '..UptoSaid' is the law's where the arguments, and the package variables that the reading takes, are together of bulk at most 1048576: NARROWER than '..Said'. Prove '..Said' where nothing that the law and all that it calls make is longer than what came in: it says more and counts as full. Else prove '..UptoSaid'. A law counts once. -/
mutual
def uptoBulk {H : Type} : DataW H → Nat
  | .lit (.string bytes) => bytes.length + 1
  | .lit _ => 1
  | .nil => 1
  | .ptr d => uptoBulk d + 1
  | .slice elems spare => uptoBulkAll elems + uptoBulkAll spare + 1
  | .agg parts => uptoBulkAll parts + 1
  | .iface _ d => uptoBulk d + 1
  | .map entries => uptoBulkEntries entries + 1
  | .held _ => 1
def uptoBulkAll {H : Type} : List (DataW H) → Nat
  | [] => 0
  | d :: r => uptoBulk d + uptoBulkAll r
def uptoBulkEntries {H : Type} : List (Lit × DataW H) → Nat
  | [] => 0
  | x :: r => uptoBulkEntry x + uptoBulkEntries r
def uptoBulkEntry {H : Type} : Lit × DataW H → Nat
  | (.string bytes, d) => bytes.length + uptoBulk d + 1
  | (_, d) => uptoBulk d + 1
 end
def uptoSmall : (H : Type) → List (DataW H) → Bool := fun _ ds => decide (uptoBulkAll ds ≤ 1048576)
def OpenSpec.upto (s : _root_.Go.ChangeSpec) : _root_.Go.OpenSpec := { _root_.Go.OpenSpec.ofChange s with cond := some uptoSmall }

/-- 'antecedelaw30.ClassifyForms', WHERE WHAT IT READS IS OF BULK AT MOST 1048576: true; the input reads as it did. -/
def classifyFormsUptoRow : OpenClaim := { program := "ytbdofbhocjfbfaagreatdoor", sum := "744395c4f28584ce992297daf3a3f5733972292f6f8dd5ef8bb47983ff1f49c6", func := "antecede/antecedelaw30.ClassifyForms", spec := "classifyForms", inPlace := ["maps.clone"], unfollowed := true, recurses := true, named := ["antecede/predtype.parts"], loops := true, plainKeys := false, apart := false, laid := [("antecede/predtype.parts", laid_antecede_predtype_parts)], narrowed := true }
def ClassifyFormsUptoSaid : Prop := classifyFormsUptoRow.holds Tryz.pinned (OpenSpec.upto classifyFormsSpec)

/-- 'antecedelaw30.ClassifyNormals', WHERE WHAT IT READS IS OF BULK AT MOST 1048576: true; the input reads as it did. -/
def classifyNormalsUptoRow : OpenClaim := { program := "ytbdofbhocjfbfaagreatdoor", sum := "744395c4f28584ce992297daf3a3f5733972292f6f8dd5ef8bb47983ff1f49c6", func := "antecede/antecedelaw30.ClassifyNormals", spec := "classifyNormals", inPlace := ["maps.clone"], unfollowed := true, recurses := true, named := ["antecede/predtype.parts"], loops := true, plainKeys := false, apart := false, laid := [("antecede/predtype.parts", laid_antecede_predtype_parts)], narrowed := true }
def ClassifyNormalsUptoSaid : Prop := classifyNormalsUptoRow.holds Tryz.pinned (OpenSpec.upto classifyNormalsSpec)

/-- 'antecedelaw30.ClassifyTruth', WHERE WHAT IT READS IS OF BULK AT MOST 1048576: true; the input reads as it did. -/
def classifyTruthUptoRow : OpenClaim := { program := "ytbdofbhocjfbfaagreatdoor", sum := "744395c4f28584ce992297daf3a3f5733972292f6f8dd5ef8bb47983ff1f49c6", func := "antecede/antecedelaw30.ClassifyTruth", spec := "classifyTruth", inPlace := ["maps.clone"], unfollowed := true, recurses := true, named := ["antecede/predtype.parts"], loops := true, plainKeys := false, apart := false, laid := [("antecede/predtype.parts", laid_antecede_predtype_parts)], narrowed := true }
def ClassifyTruthUptoSaid : Prop := classifyTruthUptoRow.holds Tryz.pinned (OpenSpec.upto classifyTruthSpec)

end Rows
end Go.Proofs.YtbdofbhocjfbfaaGreatDoor
