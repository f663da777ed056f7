/-
  NARROWER THAN 'FOR EVERY INPUT', by the rows' own cells (each row's printed sentence says how): ControlRuns: loops, laid · ControlRefused: loops, laid · ControlChecks: loops, laid.
  DERIVED. THE GIVEN ROWS OF THIS SEAT. 3 by the template 'for every input the law returns true; each argument reads behind the call as it read before'; 0 by the template 'total and deterministic' (their statements: YtkkcgocdmaodbaaGreatDoorTotals.lean).
  GIVEN WITH THE SEED: the statements are not yours to turn. If you find one false, say at which input.
  Laid BY PROGRAM, IN A SANDBOX (cutbox-rows.mjs): the forced cells as the released guide's own fill.sh prints them over the translation fb81329be50000b1… (all of the seat's roots in one cut). By AI agents, Wed Nov 11 2026. No macro, syntax, notation, axiom, sorry.
-/
import Derived.Test.YtkkcgocdmaodbaaGreatDoorChecked
import GoSem.Claim
import GoSem.ClaimJoined
import GoSem.ClaimMapViews
import Derived.JoinedTies
import Derived.KernelRfl
namespace Go.Proofs.YtkkcgocdmaodbaaGreatDoor
/- THE CELL 'sum', in the pinned program and in every row, IS THE sha256 OF THE DUMP (.gsa) THAT YtkkcgocdmaodbaaGreatDoorProg.lean LOADS. Nothing in Lean hashes anything: it is a label: what it is worth is what the hold of that sum in a sandbox is worth. -/
noncomputable def Tryz.pinned : Pinned := { name := "ytkkcgocdmaodbaagreatdoor", sum := "fb81329be50000b1ef60f74240deedca5fa488a378fbde6c64293db5de3784ca", checked := Tryz.checked }
namespace Rows
def none {H : Type} : Left H := { results := [], args := [] }

/- WHAT THE LISTED PACKAGE-LEVEL VARIABLES READ AS WHEN THE CALL BEGINS. Each datum BY PROGRAM (the guide's laid-datum.mjs) off the statement by which the dump's own 'gosem.cut.vars' lays the variable. In a bare row this is a premise. The card (YtkkcgocdmaodbaaGreatDoorCards.lean) ties it to the program's text. -/
def laid_antecede_predtype_parts {H : Type} : DataW H := .agg [.lit (.int .i64 (-1)), .lit (.int .i64 0), .lit (.int .i64 0), .lit (.int .i64 0), .lit (.int .i64 0), .lit (.int .i64 1), .lit (.int .i64 2), .lit (.int .i64 2), .lit (.int .i64 2), .lit (.int .i64 2), .lit (.int .i64 2), .lit (.int .i64 2), .lit (.int .i64 2), .lit (.int .i64 0), .lit (.int .i64 0), .lit (.int .i64 1), .lit (.int .i64 2), .lit (.int .i64 2), .lit (.int .i64 1), .lit (.int .i64 1), .lit (.int .i64 1), .lit (.int .i64 1)]

/-- 'antecedelaw44.ControlRuns': WHATEVER THE INPUT: true; the input reads as it did. -/
def controlRunsSpec : ChangeSpec := { name := "controlRuns", fn := fun _ => fun
  | [d1, d2] => { results := [.lit (.bool true)], args := [d1, d2] }
  | _ => none }
def controlRunsRow : OpenClaim := { program := "ytkkcgocdmaodbaagreatdoor", sum := "fb81329be50000b1ef60f74240deedca5fa488a378fbde6c64293db5de3784ca", func := "antecede/antecedelaw44.ControlRuns", spec := "controlRuns", unfollowed := true, recurses := true, named := ["antecede/predtype.parts"], loops := true, plainKeys := false, apart := false, laid := [("antecede/predtype.parts", laid_antecede_predtype_parts)] }
def ControlRunsSaid : Prop := controlRunsRow.holds Tryz.pinned (OpenSpec.ofChange controlRunsSpec)

/-- ITS FALSE NEIGHBOUR: 'it returns false'. Refute it at one input. -/
def controlRunsWrong : ChangeSpec := { name := "controlRuns", fn := fun _ => fun
  | [d1, d2] => { results := [.lit (.bool false)], args := [d1, d2] }
  | _ => none }
def ControlRunsWrongFalsely : Prop := controlRunsRow.holds Tryz.pinned (OpenSpec.ofChange controlRunsWrong)

/-- 'antecedelaw44.ControlRefused': WHATEVER THE INPUT: true; the input reads as it did. -/
def controlRefusedSpec : ChangeSpec := { name := "controlRefused", fn := fun _ => fun
  | [d1, d2, d3] => { results := [.lit (.bool true)], args := [d1, d2, d3] }
  | _ => none }
def controlRefusedRow : OpenClaim := { program := "ytkkcgocdmaodbaagreatdoor", sum := "fb81329be50000b1ef60f74240deedca5fa488a378fbde6c64293db5de3784ca", func := "antecede/antecedelaw44.ControlRefused", spec := "controlRefused", unfollowed := true, recurses := true, named := ["antecede/predtype.parts"], loops := true, plainKeys := false, apart := false, laid := [("antecede/predtype.parts", laid_antecede_predtype_parts)] }
def ControlRefusedSaid : Prop := controlRefusedRow.holds Tryz.pinned (OpenSpec.ofChange controlRefusedSpec)

/-- ITS FALSE NEIGHBOUR: 'it returns false'. Refute it at one input. -/
def controlRefusedWrong : ChangeSpec := { name := "controlRefused", fn := fun _ => fun
  | [d1, d2, d3] => { results := [.lit (.bool false)], args := [d1, d2, d3] }
  | _ => none }
def ControlRefusedWrongFalsely : Prop := controlRefusedRow.holds Tryz.pinned (OpenSpec.ofChange controlRefusedWrong)

/-- 'antecedelaw44.ControlChecks': WHATEVER THE INPUT: true; the input reads as it did. -/
def controlChecksSpec : ChangeSpec := { name := "controlChecks", fn := fun _ => fun
  | [d1, d2, d3] => { results := [.lit (.bool true)], args := [d1, d2, d3] }
  | _ => none }
def controlChecksRow : OpenClaim := { program := "ytkkcgocdmaodbaagreatdoor", sum := "fb81329be50000b1ef60f74240deedca5fa488a378fbde6c64293db5de3784ca", func := "antecede/antecedelaw44.ControlChecks", spec := "controlChecks", unfollowed := true, recurses := true, named := ["antecede/predtype.parts"], loops := true, plainKeys := false, apart := false, laid := [("antecede/predtype.parts", laid_antecede_predtype_parts)] }
def ControlChecksSaid : Prop := controlChecksRow.holds Tryz.pinned (OpenSpec.ofChange controlChecksSpec)

/-- ITS FALSE NEIGHBOUR: 'it returns false'. Refute it at one input. -/
def controlChecksWrong : ChangeSpec := { name := "controlChecks", fn := fun _ => fun
  | [d1, d2, d3] => { results := [.lit (.bool false)], args := [d1, d2, d3] }
  | _ => none }
def ControlChecksWrongFalsely : Prop := controlChecksRow.holds Tryz.pinned (OpenSpec.ofChange controlChecksWrong)

/- THE SECOND FORM. 'bulk': how many values and letters a reading holds, each counted each time it is reached (what is shared counts as often as it is met; a slice's spare places count too). A statement '..UptoSaid' is the law's where the arguments, and the package variables that the reading takes, are together of bulk at most 1048576: NARROWER than '..Said'. Prove '..Said' where nothing that the law and all that it calls make is longer than what came in: it says more and counts as full. Else prove '..UptoSaid'. A law counts once. -/
mutual
def uptoBulk {H : Type} : DataW H → Nat
  | .lit (.string bytes) => bytes.length + 1
  | .lit _ => 1
  | .nil => 1
  | .ptr d => uptoBulk d + 1
  | .slice elems spare => uptoBulkAll elems + uptoBulkAll spare + 1
  | .agg parts => uptoBulkAll parts + 1
  | .iface _ d => uptoBulk d + 1
  | .map entries => uptoBulkEntries entries + 1
  | .held _ => 1
def uptoBulkAll {H : Type} : List (DataW H) → Nat
  | [] => 0
  | d :: r => uptoBulk d + uptoBulkAll r
def uptoBulkEntries {H : Type} : List (Lit × DataW H) → Nat
  | [] => 0
  | x :: r => uptoBulkEntry x + uptoBulkEntries r
def uptoBulkEntry {H : Type} : Lit × DataW H → Nat
  | (.string bytes, d) => bytes.length + uptoBulk d + 1
  | (_, d) => uptoBulk d + 1
 end
def uptoSmall : (H : Type) → List (DataW H) → Bool := fun _ ds => decide (uptoBulkAll ds ≤ 1048576)
def OpenSpec.upto (s : _root_.Go.ChangeSpec) : _root_.Go.OpenSpec := { _root_.Go.OpenSpec.ofChange s with cond := some uptoSmall }

/-- 'antecedelaw44.ControlRuns', WHERE WHAT IT READS IS OF BULK AT MOST 1048576: true; the input reads as it did. -/
def controlRunsUptoRow : OpenClaim := { program := "ytkkcgocdmaodbaagreatdoor", sum := "fb81329be50000b1ef60f74240deedca5fa488a378fbde6c64293db5de3784ca", func := "antecede/antecedelaw44.ControlRuns", spec := "controlRuns", unfollowed := true, recurses := true, named := ["antecede/predtype.parts"], loops := true, plainKeys := false, apart := false, laid := [("antecede/predtype.parts", laid_antecede_predtype_parts)], narrowed := true }
def ControlRunsUptoSaid : Prop := controlRunsUptoRow.holds Tryz.pinned (OpenSpec.upto controlRunsSpec)

/-- 'antecedelaw44.ControlRefused', WHERE WHAT IT READS IS OF BULK AT MOST 1048576: true; the input reads as it did. -/
def controlRefusedUptoRow : OpenClaim := { program := "ytkkcgocdmaodbaagreatdoor", sum := "fb81329be50000b1ef60f74240deedca5fa488a378fbde6c64293db5de3784ca", func := "antecede/antecedelaw44.ControlRefused", spec := "controlRefused", unfollowed := true, recurses := true, named := ["antecede/predtype.parts"], loops := true, plainKeys := false, apart := false, laid := [("antecede/predtype.parts", laid_antecede_predtype_parts)], narrowed := true }
def ControlRefusedUptoSaid : Prop := controlRefusedUptoRow.holds Tryz.pinned (OpenSpec.upto controlRefusedSpec)

/-- 'antecedelaw44.ControlChecks', WHERE WHAT IT READS IS OF BULK AT MOST 1048576: true; the input reads as it did. -/
def controlChecksUptoRow : OpenClaim := { program := "ytkkcgocdmaodbaagreatdoor", sum := "fb81329be50000b1ef60f74240deedca5fa488a378fbde6c64293db5de3784ca", func := "antecede/antecedelaw44.ControlChecks", spec := "controlChecks", unfollowed := true, recurses := true, named := ["antecede/predtype.parts"], loops := true, plainKeys := false, apart := false, laid := [("antecede/predtype.parts", laid_antecede_predtype_parts)], narrowed := true }
def ControlChecksUptoSaid : Prop := controlChecksUptoRow.holds Tryz.pinned (OpenSpec.upto controlChecksSpec)

end Rows
end Go.Proofs.YtkkcgocdmaodbaaGreatDoor
