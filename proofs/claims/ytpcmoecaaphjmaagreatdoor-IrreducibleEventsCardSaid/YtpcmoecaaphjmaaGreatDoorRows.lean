/-
  NARROWER THAN 'FOR EVERY INPUT', by the rows' own cells (each row's printed sentence says how): IrreducibleLeast: loops, laid · IrreducibleEvents: loops, laid · IrreducibleLists: loops, laid.
  DERIVED. THE GIVEN ROWS OF THIS SEAT. 3 by the template 'for every input the law returns true; each argument reads behind the call as it read before'; 0 by the template 'total and deterministic' (their statements: YtpcmoecaaphjmaaGreatDoorTotals.lean).
  GIVEN WITH THE SEED: the statements are not yours to turn. If you find one false, say at which input.
  Laid BY PROGRAM, IN A SANDBOX (cutbox-rows.mjs): the forced cells as the released guide's own fill.sh prints them over the translation 5336c09dbe200f24… (all of the seat's roots in one cut). By AI agents, Wed Nov 11 2026. No macro, syntax, notation, axiom, sorry.
-/
import Derived.Test.YtpcmoecaaphjmaaGreatDoorChecked
import GoSem.Claim
import GoSem.ClaimJoined
import GoSem.ClaimMapViews
import Derived.JoinedTies
import Derived.KernelRfl
namespace Go.Proofs.YtpcmoecaaphjmaaGreatDoor
/- THE CELL 'sum', in the pinned program and in every row, IS THE sha256 OF THE DUMP (.gsa) THAT YtpcmoecaaphjmaaGreatDoorProg.lean LOADS. Nothing in Lean hashes anything: it is a label: what it is worth is what the hold of that sum in a sandbox is worth. -/
noncomputable def Tryz.pinned : Pinned := { name := "ytpcmoecaaphjmaagreatdoor", sum := "5336c09dbe200f247de34658d01cfff068fd84fe552255d85b1c7d4d64cef7db", checked := Tryz.checked }
namespace Rows
def none {H : Type} : Left H := { results := [], args := [] }

/- WHAT THE LISTED PACKAGE-LEVEL VARIABLES READ AS WHEN THE CALL BEGINS. Each datum BY PROGRAM (the guide's laid-datum.mjs) off the statement by which the dump's own 'gosem.cut.vars' lays the variable. In a bare row this is a premise. The card (YtpcmoecaaphjmaaGreatDoorCards.lean) ties it to the program's text. -/
def laid_antecede_predtype_parts {H : Type} : DataW H := .agg [.lit (.int .i64 (-1)), .lit (.int .i64 0), .lit (.int .i64 0), .lit (.int .i64 0), .lit (.int .i64 0), .lit (.int .i64 1), .lit (.int .i64 2), .lit (.int .i64 2), .lit (.int .i64 2), .lit (.int .i64 2), .lit (.int .i64 2), .lit (.int .i64 2), .lit (.int .i64 2), .lit (.int .i64 0), .lit (.int .i64 0), .lit (.int .i64 1), .lit (.int .i64 2), .lit (.int .i64 2), .lit (.int .i64 1), .lit (.int .i64 1), .lit (.int .i64 1), .lit (.int .i64 1)]

/-- 'antecedelaw33.IrreducibleLeast': WHATEVER THE INPUT: true; the input reads as it did. -/
def irreducibleLeastSpec : ChangeSpec := { name := "irreducibleLeast", fn := fun _ => fun
  | [d1, d2, d3] => { results := [.lit (.bool true)], args := [d1, d2, d3] }
  | _ => none }
def irreducibleLeastRow : OpenClaim := { program := "ytpcmoecaaphjmaagreatdoor", sum := "5336c09dbe200f247de34658d01cfff068fd84fe552255d85b1c7d4d64cef7db", func := "antecede/antecedelaw33.IrreducibleLeast", spec := "irreducibleLeast", inPlace := ["maps.clone"], unfollowed := true, recurses := true, named := ["antecede/predtype.parts"], loops := true, plainKeys := false, apart := false, laid := [("antecede/predtype.parts", laid_antecede_predtype_parts)] }
def IrreducibleLeastSaid : Prop := irreducibleLeastRow.holds Tryz.pinned (OpenSpec.ofChange irreducibleLeastSpec)

/-- ITS FALSE NEIGHBOUR: 'it returns false'. Refute it at one input. -/
def irreducibleLeastWrong : ChangeSpec := { name := "irreducibleLeast", fn := fun _ => fun
  | [d1, d2, d3] => { results := [.lit (.bool false)], args := [d1, d2, d3] }
  | _ => none }
def IrreducibleLeastWrongFalsely : Prop := irreducibleLeastRow.holds Tryz.pinned (OpenSpec.ofChange irreducibleLeastWrong)

/-- 'antecedelaw33.IrreducibleEvents': WHATEVER THE INPUT: true; the input reads as it did. -/
def irreducibleEventsSpec : ChangeSpec := { name := "irreducibleEvents", fn := fun _ => fun
  | [d1, d2, d3] => { results := [.lit (.bool true)], args := [d1, d2, d3] }
  | _ => none }
def irreducibleEventsRow : OpenClaim := { program := "ytpcmoecaaphjmaagreatdoor", sum := "5336c09dbe200f247de34658d01cfff068fd84fe552255d85b1c7d4d64cef7db", func := "antecede/antecedelaw33.IrreducibleEvents", spec := "irreducibleEvents", inPlace := ["maps.clone"], unfollowed := true, recurses := true, named := ["antecede/predtype.parts"], loops := true, plainKeys := false, apart := false, laid := [("antecede/predtype.parts", laid_antecede_predtype_parts)] }
def IrreducibleEventsSaid : Prop := irreducibleEventsRow.holds Tryz.pinned (OpenSpec.ofChange irreducibleEventsSpec)

/-- ITS FALSE NEIGHBOUR: 'it returns false'. Refute it at one input. -/
def irreducibleEventsWrong : ChangeSpec := { name := "irreducibleEvents", fn := fun _ => fun
  | [d1, d2, d3] => { results := [.lit (.bool false)], args := [d1, d2, d3] }
  | _ => none }
def IrreducibleEventsWrongFalsely : Prop := irreducibleEventsRow.holds Tryz.pinned (OpenSpec.ofChange irreducibleEventsWrong)

/-- 'antecedelaw33.IrreducibleLists': WHATEVER THE INPUT: true; the input reads as it did. -/
def irreducibleListsSpec : ChangeSpec := { name := "irreducibleLists", fn := fun _ => fun
  | [d1, d2, d3, d4] => { results := [.lit (.bool true)], args := [d1, d2, d3, d4] }
  | _ => none }
def irreducibleListsRow : OpenClaim := { program := "ytpcmoecaaphjmaagreatdoor", sum := "5336c09dbe200f247de34658d01cfff068fd84fe552255d85b1c7d4d64cef7db", func := "antecede/antecedelaw33.IrreducibleLists", spec := "irreducibleLists", inPlace := ["maps.clone"], unfollowed := true, recurses := true, named := ["antecede/predtype.parts"], loops := true, plainKeys := false, apart := false, laid := [("antecede/predtype.parts", laid_antecede_predtype_parts)] }
def IrreducibleListsSaid : Prop := irreducibleListsRow.holds Tryz.pinned (OpenSpec.ofChange irreducibleListsSpec)

/-- ITS FALSE NEIGHBOUR: 'it returns false'. Refute it at one input. -/
def irreducibleListsWrong : ChangeSpec := { name := "irreducibleLists", fn := fun _ => fun
  | [d1, d2, d3, d4] => { results := [.lit (.bool false)], args := [d1, d2, d3, d4] }
  | _ => none }
def IrreducibleListsWrongFalsely : Prop := irreducibleListsRow.holds Tryz.pinned (OpenSpec.ofChange irreducibleListsWrong)

/- THE SECOND FORM. 'bulk': how many values and letters a reading holds, each counted each time it is reached (what is shared counts as often as it is met; a slice's spare places count too). A statement '..UptoSaid' is the law's where the arguments, and the package variables that the reading takes, are together of bulk at most 1048576: NARROWER than '..Said'. Prove '..Said' where nothing that the law and all that it calls make is longer than what came in: it says more and counts as full. Else prove '..UptoSaid'. A law counts once. -/
mutual
def uptoBulk {H : Type} : DataW H → Nat
  | .lit (.string bytes) => bytes.length + 1
  | .lit _ => 1
  | .nil => 1
  | .ptr d => uptoBulk d + 1
  | .slice elems spare => uptoBulkAll elems + uptoBulkAll spare + 1
  | .agg parts => uptoBulkAll parts + 1
  | .iface _ d => uptoBulk d + 1
  | .map entries => uptoBulkEntries entries + 1
  | .held _ => 1
def uptoBulkAll {H : Type} : List (DataW H) → Nat
  | [] => 0
  | d :: r => uptoBulk d + uptoBulkAll r
def uptoBulkEntries {H : Type} : List (Lit × DataW H) → Nat
  | [] => 0
  | x :: r => uptoBulkEntry x + uptoBulkEntries r
def uptoBulkEntry {H : Type} : Lit × DataW H → Nat
  | (.string bytes, d) => bytes.length + uptoBulk d + 1
  | (_, d) => uptoBulk d + 1
 end
def uptoSmall : (H : Type) → List (DataW H) → Bool := fun _ ds => decide (uptoBulkAll ds ≤ 1048576)
def OpenSpec.upto (s : _root_.Go.ChangeSpec) : _root_.Go.OpenSpec := { _root_.Go.OpenSpec.ofChange s with cond := some uptoSmall }

/-- 'antecedelaw33.IrreducibleLeast', WHERE WHAT IT READS IS OF BULK AT MOST 1048576: true; the input reads as it did. -/
def irreducibleLeastUptoRow : OpenClaim := { program := "ytpcmoecaaphjmaagreatdoor", sum := "5336c09dbe200f247de34658d01cfff068fd84fe552255d85b1c7d4d64cef7db", func := "antecede/antecedelaw33.IrreducibleLeast", spec := "irreducibleLeast", inPlace := ["maps.clone"], unfollowed := true, recurses := true, named := ["antecede/predtype.parts"], loops := true, plainKeys := false, apart := false, laid := [("antecede/predtype.parts", laid_antecede_predtype_parts)], narrowed := true }
def IrreducibleLeastUptoSaid : Prop := irreducibleLeastUptoRow.holds Tryz.pinned (OpenSpec.upto irreducibleLeastSpec)

/-- 'antecedelaw33.IrreducibleEvents', WHERE WHAT IT READS IS OF BULK AT MOST 1048576: true; the input reads as it did. -/
def irreducibleEventsUptoRow : OpenClaim := { program := "ytpcmoecaaphjmaagreatdoor", sum := "5336c09dbe200f247de34658d01cfff068fd84fe552255d85b1c7d4d64cef7db", func := "antecede/antecedelaw33.IrreducibleEvents", spec := "irreducibleEvents", inPlace := ["maps.clone"], unfollowed := true, recurses := true, named := ["antecede/predtype.parts"], loops := true, plainKeys := false, apart := false, laid := [("antecede/predtype.parts", laid_antecede_predtype_parts)], narrowed := true }
def IrreducibleEventsUptoSaid : Prop := irreducibleEventsUptoRow.holds Tryz.pinned (OpenSpec.upto irreducibleEventsSpec)

/-- 'antecedelaw33.IrreducibleLists', WHERE WHAT IT READS IS OF BULK AT MOST 1048576: true; the input reads as it did. -/
def irreducibleListsUptoRow : OpenClaim := { program := "ytpcmoecaaphjmaagreatdoor", sum := "5336c09dbe200f247de34658d01cfff068fd84fe552255d85b1c7d4d64cef7db", func := "antecede/antecedelaw33.IrreducibleLists", spec := "irreducibleLists", inPlace := ["maps.clone"], unfollowed := true, recurses := true, named := ["antecede/predtype.parts"], loops := true, plainKeys := false, apart := false, laid := [("antecede/predtype.parts", laid_antecede_predtype_parts)], narrowed := true }
def IrreducibleListsUptoSaid : Prop := irreducibleListsUptoRow.holds Tryz.pinned (OpenSpec.upto irreducibleListsSpec)

end Rows
end Go.Proofs.YtpcmoecaaphjmaaGreatDoor
