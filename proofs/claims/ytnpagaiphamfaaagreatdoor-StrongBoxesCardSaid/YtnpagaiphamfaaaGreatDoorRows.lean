/-
  NARROWER THAN 'FOR EVERY INPUT', by the rows' own cells (each row's printed sentence says how): StrongBoxes: laid · StrongBarrier: loops, laid · StrongLattice: loops, laid.
  DERIVED. THE GIVEN ROWS OF THIS SEAT. 3 by the template 'for every input the law returns true; each argument reads behind the call as it read before'; 0 by the template 'total and deterministic' (their statements: YtnpagaiphamfaaaGreatDoorTotals.lean).
  GIVEN WITH THE SEED: the statements are not yours to turn. If you find one false, say at which input.
  Laid BY PROGRAM, IN A SANDBOX (cutbox-rows.mjs): the forced cells as the released guide's own fill.sh prints them over the translation feb074ea8b3db8c3… (all of the seat's roots in one cut). By AI agents, Wed Nov 11 2026. No macro, syntax, notation, axiom, sorry.
-/
import Derived.Test.YtnpagaiphamfaaaGreatDoorChecked
import GoSem.Claim
import GoSem.ClaimJoined
import GoSem.ClaimMapViews
import Derived.JoinedTies
import Derived.KernelRfl
namespace Go.Proofs.YtnpagaiphamfaaaGreatDoor
/- THE CELL 'sum', in the pinned program and in every row, IS THE sha256 OF THE DUMP (.gsa) THAT YtnpagaiphamfaaaGreatDoorProg.lean LOADS. Nothing in Lean hashes anything: it is a label: what it is worth is what the hold of that sum in a sandbox is worth. -/
noncomputable def Tryz.pinned : Pinned := { name := "ytnpagaiphamfaaagreatdoor", sum := "feb074ea8b3db8c309b202409b459a05c896819006f4e4fa78f5047b213c5903", checked := Tryz.checked }
namespace Rows
def none {H : Type} : Left H := { results := [], args := [] }

/- WHAT THE LISTED PACKAGE-LEVEL VARIABLES READ AS WHEN THE CALL BEGINS. Each datum BY PROGRAM (the guide's laid-datum.mjs) off the statement by which the dump's own 'gosem.cut.vars' lays the variable. In a bare row this is a premise. The card (YtnpagaiphamfaaaGreatDoorCards.lean) ties it to the program's text. -/
def laid_antecede_predtype_parts {H : Type} : DataW H := .agg [.lit (.int .i64 (-1)), .lit (.int .i64 0), .lit (.int .i64 0), .lit (.int .i64 0), .lit (.int .i64 0), .lit (.int .i64 1), .lit (.int .i64 2), .lit (.int .i64 2), .lit (.int .i64 2), .lit (.int .i64 2), .lit (.int .i64 2), .lit (.int .i64 2), .lit (.int .i64 2), .lit (.int .i64 0), .lit (.int .i64 0), .lit (.int .i64 1), .lit (.int .i64 2), .lit (.int .i64 2), .lit (.int .i64 1), .lit (.int .i64 1), .lit (.int .i64 1), .lit (.int .i64 1)]

/-- 'antecedelaw38.StrongBoxes': WHATEVER THE INPUT: true; the input reads as it did. -/
def strongBoxesSpec : ChangeSpec := { name := "strongBoxes", fn := fun _ => fun
  | [d1, d2] => { results := [.lit (.bool true)], args := [d1, d2] }
  | _ => none }
def strongBoxesRow : OpenClaim := { program := "ytnpagaiphamfaaagreatdoor", sum := "feb074ea8b3db8c309b202409b459a05c896819006f4e4fa78f5047b213c5903", func := "antecede/antecedelaw38.StrongBoxes", spec := "strongBoxes", unfollowed := true, recurses := true, named := ["antecede/predtype.parts"], plainKeys := false, apart := false, laid := [("antecede/predtype.parts", laid_antecede_predtype_parts)] }
def StrongBoxesSaid : Prop := strongBoxesRow.holds Tryz.pinned (OpenSpec.ofChange strongBoxesSpec)

/-- ITS FALSE NEIGHBOUR: 'it returns false'. Refute it at one input. -/
def strongBoxesWrong : ChangeSpec := { name := "strongBoxes", fn := fun _ => fun
  | [d1, d2] => { results := [.lit (.bool false)], args := [d1, d2] }
  | _ => none }
def StrongBoxesWrongFalsely : Prop := strongBoxesRow.holds Tryz.pinned (OpenSpec.ofChange strongBoxesWrong)

/-- 'antecedelaw38.StrongBarrier': WHATEVER THE INPUT: true; the input reads as it did. -/
def strongBarrierSpec : ChangeSpec := { name := "strongBarrier", fn := fun _ => fun
  | [d1, d2] => { results := [.lit (.bool true)], args := [d1, d2] }
  | _ => none }
def strongBarrierRow : OpenClaim := { program := "ytnpagaiphamfaaagreatdoor", sum := "feb074ea8b3db8c309b202409b459a05c896819006f4e4fa78f5047b213c5903", func := "antecede/antecedelaw38.StrongBarrier", spec := "strongBarrier", unfollowed := true, recurses := true, named := ["antecede/predtype.parts"], loops := true, plainKeys := false, apart := false, laid := [("antecede/predtype.parts", laid_antecede_predtype_parts)] }
def StrongBarrierSaid : Prop := strongBarrierRow.holds Tryz.pinned (OpenSpec.ofChange strongBarrierSpec)

/-- ITS FALSE NEIGHBOUR: 'it returns false'. Refute it at one input. -/
def strongBarrierWrong : ChangeSpec := { name := "strongBarrier", fn := fun _ => fun
  | [d1, d2] => { results := [.lit (.bool false)], args := [d1, d2] }
  | _ => none }
def StrongBarrierWrongFalsely : Prop := strongBarrierRow.holds Tryz.pinned (OpenSpec.ofChange strongBarrierWrong)

/-- 'antecedelaw38.StrongLattice': WHATEVER THE INPUT: true; the input reads as it did. -/
def strongLatticeSpec : ChangeSpec := { name := "strongLattice", fn := fun _ => fun
  | [d1, d2] => { results := [.lit (.bool true)], args := [d1, d2] }
  | _ => none }
def strongLatticeRow : OpenClaim := { program := "ytnpagaiphamfaaagreatdoor", sum := "feb074ea8b3db8c309b202409b459a05c896819006f4e4fa78f5047b213c5903", func := "antecede/antecedelaw38.StrongLattice", spec := "strongLattice", unfollowed := true, recurses := true, named := ["antecede/predtype.parts"], loops := true, plainKeys := false, apart := false, laid := [("antecede/predtype.parts", laid_antecede_predtype_parts)] }
def StrongLatticeSaid : Prop := strongLatticeRow.holds Tryz.pinned (OpenSpec.ofChange strongLatticeSpec)

/-- ITS FALSE NEIGHBOUR: 'it returns false'. Refute it at one input. -/
def strongLatticeWrong : ChangeSpec := { name := "strongLattice", fn := fun _ => fun
  | [d1, d2] => { results := [.lit (.bool false)], args := [d1, d2] }
  | _ => none }
def StrongLatticeWrongFalsely : Prop := strongLatticeRow.holds Tryz.pinned (OpenSpec.ofChange strongLatticeWrong)

/- THE SECOND FORM. 'bulk': how many values and letters a reading holds, each counted each time it is reached (what is shared counts as often as it is met; a slice's spare places count too). A statement '..UptoSaid' is the law's where the arguments, and the package variables that the reading takes, are together of bulk at most 1048576: NARROWER than '..Said'. Prove '..Said' where nothing that the law and all that it calls make is longer than what came in: it says more and counts as full. Else prove '..UptoSaid'. A law counts once. -/
mutual
def uptoBulk {H : Type} : DataW H → Nat
  | .lit (.string bytes) => bytes.length + 1
  | .lit _ => 1
  | .nil => 1
  | .ptr d => uptoBulk d + 1
  | .slice elems spare => uptoBulkAll elems + uptoBulkAll spare + 1
  | .agg parts => uptoBulkAll parts + 1
  | .iface _ d => uptoBulk d + 1
  | .map entries => uptoBulkEntries entries + 1
  | .held _ => 1
def uptoBulkAll {H : Type} : List (DataW H) → Nat
  | [] => 0
  | d :: r => uptoBulk d + uptoBulkAll r
def uptoBulkEntries {H : Type} : List (Lit × DataW H) → Nat
  | [] => 0
  | x :: r => uptoBulkEntry x + uptoBulkEntries r
def uptoBulkEntry {H : Type} : Lit × DataW H → Nat
  | (.string bytes, d) => bytes.length + uptoBulk d + 1
  | (_, d) => uptoBulk d + 1
 end
def uptoSmall : (H : Type) → List (DataW H) → Bool := fun _ ds => decide (uptoBulkAll ds ≤ 1048576)
def OpenSpec.upto (s : _root_.Go.ChangeSpec) : _root_.Go.OpenSpec := { _root_.Go.OpenSpec.ofChange s with cond := some uptoSmall }

/-- 'antecedelaw38.StrongBoxes', WHERE WHAT IT READS IS OF BULK AT MOST 1048576: true; the input reads as it did. -/
def strongBoxesUptoRow : OpenClaim := { program := "ytnpagaiphamfaaagreatdoor", sum := "feb074ea8b3db8c309b202409b459a05c896819006f4e4fa78f5047b213c5903", func := "antecede/antecedelaw38.StrongBoxes", spec := "strongBoxes", unfollowed := true, recurses := true, named := ["antecede/predtype.parts"], plainKeys := false, apart := false, laid := [("antecede/predtype.parts", laid_antecede_predtype_parts)], narrowed := true }
def StrongBoxesUptoSaid : Prop := strongBoxesUptoRow.holds Tryz.pinned (OpenSpec.upto strongBoxesSpec)

/-- 'antecedelaw38.StrongBarrier', WHERE WHAT IT READS IS OF BULK AT MOST 1048576: true; the input reads as it did. -/
def strongBarrierUptoRow : OpenClaim := { program := "ytnpagaiphamfaaagreatdoor", sum := "feb074ea8b3db8c309b202409b459a05c896819006f4e4fa78f5047b213c5903", func := "antecede/antecedelaw38.StrongBarrier", spec := "strongBarrier", unfollowed := true, recurses := true, named := ["antecede/predtype.parts"], loops := true, plainKeys := false, apart := false, laid := [("antecede/predtype.parts", laid_antecede_predtype_parts)], narrowed := true }
def StrongBarrierUptoSaid : Prop := strongBarrierUptoRow.holds Tryz.pinned (OpenSpec.upto strongBarrierSpec)

/-- 'antecedelaw38.StrongLattice', WHERE WHAT IT READS IS OF BULK AT MOST 1048576: true; the input reads as it did. -/
def strongLatticeUptoRow : OpenClaim := { program := "ytnpagaiphamfaaagreatdoor", sum := "feb074ea8b3db8c309b202409b459a05c896819006f4e4fa78f5047b213c5903", func := "antecede/antecedelaw38.StrongLattice", spec := "strongLattice", unfollowed := true, recurses := true, named := ["antecede/predtype.parts"], loops := true, plainKeys := false, apart := false, laid := [("antecede/predtype.parts", laid_antecede_predtype_parts)], narrowed := true }
def StrongLatticeUptoSaid : Prop := strongLatticeUptoRow.holds Tryz.pinned (OpenSpec.upto strongLatticeSpec)

end Rows
end Go.Proofs.YtnpagaiphamfaaaGreatDoor
