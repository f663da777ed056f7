/-
  NARROWER THAN 'FOR EVERY INPUT', by the rows' own cells (each row's printed sentence says how): PruneDrops: loops, laid · PruneTruths: loops, laid · PruneDetects: loops, laid · PruneSafe: loops, laid.
  DERIVED. THE GIVEN ROWS OF THIS SEAT. 4 by the template 'for every input the law returns true; each argument reads behind the call as it read before'; 0 by the template 'total and deterministic' (their statements: YtkfkdmefabefkaaGreatDoorTotals.lean).
  GIVEN WITH THE SEED: the statements are not yours to turn. If you find one false, say at which input.
  Laid BY PROGRAM, IN A SANDBOX (cutbox-rows.mjs): the forced cells as the released guide's own fill.sh prints them over the translation 9488888fd0315b94… (all of the seat's roots in one cut). By AI agents, Wed Nov 11 2026. No macro, syntax, notation, axiom, sorry.
-/
import Derived.Test.YtkfkdmefabefkaaGreatDoorChecked
import GoSem.Claim
import GoSem.ClaimJoined
import GoSem.ClaimMapViews
import Derived.JoinedTies
import Derived.KernelRfl
namespace Go.Proofs.YtkfkdmefabefkaaGreatDoor
/- THE CELL 'sum', in the pinned program and in every row, IS THE sha256 OF THE DUMP (.gsa) THAT YtkfkdmefabefkaaGreatDoorProg.lean LOADS. Nothing in Lean hashes anything: it is a label: what it is worth is what the hold of that sum in a sandbox is worth. -/
noncomputable def Tryz.pinned : Pinned := { name := "ytkfkdmefabefkaagreatdoor", sum := "9488888fd0315b943b869e5640452ec92a35e5b0cd38523d95d47f490258c52b", checked := Tryz.checked }
namespace Rows
def none {H : Type} : Left H := { results := [], args := [] }

/- WHAT THE LISTED PACKAGE-LEVEL VARIABLES READ AS WHEN THE CALL BEGINS. Each datum BY PROGRAM (the guide's laid-datum.mjs) off the statement by which the dump's own 'gosem.cut.vars' lays the variable. In a bare row this is a premise. The card (YtkfkdmefabefkaaGreatDoorCards.lean) ties it to the program's text. -/
def laid_antecede_predtype_parts {H : Type} : DataW H := .agg [.lit (.int .i64 (-1)), .lit (.int .i64 0), .lit (.int .i64 0), .lit (.int .i64 0), .lit (.int .i64 0), .lit (.int .i64 1), .lit (.int .i64 2), .lit (.int .i64 2), .lit (.int .i64 2), .lit (.int .i64 2), .lit (.int .i64 2), .lit (.int .i64 2), .lit (.int .i64 2), .lit (.int .i64 0), .lit (.int .i64 0), .lit (.int .i64 1), .lit (.int .i64 2), .lit (.int .i64 2), .lit (.int .i64 1), .lit (.int .i64 1), .lit (.int .i64 1), .lit (.int .i64 1)]

/-- 'antecedelaw49.PruneDrops': WHATEVER THE INPUT: true; the input reads as it did. -/
def pruneDropsSpec : ChangeSpec := { name := "pruneDrops", fn := fun _ => fun
  | [d1, d2, d3, d4] => { results := [.lit (.bool true)], args := [d1, d2, d3, d4] }
  | _ => none }
def pruneDropsRow : OpenClaim := { program := "ytkfkdmefabefkaagreatdoor", sum := "9488888fd0315b943b869e5640452ec92a35e5b0cd38523d95d47f490258c52b", func := "antecede/antecedelaw49.PruneDrops", spec := "pruneDrops", unfollowed := true, recurses := true, named := ["antecede/predtype.parts"], loops := true, plainKeys := false, apart := false, laid := [("antecede/predtype.parts", laid_antecede_predtype_parts)] }
def PruneDropsSaid : Prop := pruneDropsRow.holds Tryz.pinned (OpenSpec.ofChange pruneDropsSpec)

/-- ITS FALSE NEIGHBOUR: 'it returns false'. Refute it at one input. -/
def pruneDropsWrong : ChangeSpec := { name := "pruneDrops", fn := fun _ => fun
  | [d1, d2, d3, d4] => { results := [.lit (.bool false)], args := [d1, d2, d3, d4] }
  | _ => none }
def PruneDropsWrongFalsely : Prop := pruneDropsRow.holds Tryz.pinned (OpenSpec.ofChange pruneDropsWrong)

/-- 'antecedelaw49.PruneTruths': WHATEVER THE INPUT: true; the input reads as it did. -/
def pruneTruthsSpec : ChangeSpec := { name := "pruneTruths", fn := fun _ => fun
  | [d1, d2, d3, d4] => { results := [.lit (.bool true)], args := [d1, d2, d3, d4] }
  | _ => none }
def pruneTruthsRow : OpenClaim := { program := "ytkfkdmefabefkaagreatdoor", sum := "9488888fd0315b943b869e5640452ec92a35e5b0cd38523d95d47f490258c52b", func := "antecede/antecedelaw49.PruneTruths", spec := "pruneTruths", unfollowed := true, recurses := true, named := ["antecede/predtype.parts"], loops := true, plainKeys := false, apart := false, laid := [("antecede/predtype.parts", laid_antecede_predtype_parts)] }
def PruneTruthsSaid : Prop := pruneTruthsRow.holds Tryz.pinned (OpenSpec.ofChange pruneTruthsSpec)

/-- ITS FALSE NEIGHBOUR: 'it returns false'. Refute it at one input. -/
def pruneTruthsWrong : ChangeSpec := { name := "pruneTruths", fn := fun _ => fun
  | [d1, d2, d3, d4] => { results := [.lit (.bool false)], args := [d1, d2, d3, d4] }
  | _ => none }
def PruneTruthsWrongFalsely : Prop := pruneTruthsRow.holds Tryz.pinned (OpenSpec.ofChange pruneTruthsWrong)

/-- 'antecedelaw49.PruneDetects': WHATEVER THE INPUT: true; the input reads as it did. -/
def pruneDetectsSpec : ChangeSpec := { name := "pruneDetects", fn := fun _ => fun
  | [d1, d2, d3] => { results := [.lit (.bool true)], args := [d1, d2, d3] }
  | _ => none }
def pruneDetectsRow : OpenClaim := { program := "ytkfkdmefabefkaagreatdoor", sum := "9488888fd0315b943b869e5640452ec92a35e5b0cd38523d95d47f490258c52b", func := "antecede/antecedelaw49.PruneDetects", spec := "pruneDetects", unfollowed := true, recurses := true, named := ["antecede/predtype.parts"], loops := true, plainKeys := false, apart := false, laid := [("antecede/predtype.parts", laid_antecede_predtype_parts)] }
def PruneDetectsSaid : Prop := pruneDetectsRow.holds Tryz.pinned (OpenSpec.ofChange pruneDetectsSpec)

/-- ITS FALSE NEIGHBOUR: 'it returns false'. Refute it at one input. -/
def pruneDetectsWrong : ChangeSpec := { name := "pruneDetects", fn := fun _ => fun
  | [d1, d2, d3] => { results := [.lit (.bool false)], args := [d1, d2, d3] }
  | _ => none }
def PruneDetectsWrongFalsely : Prop := pruneDetectsRow.holds Tryz.pinned (OpenSpec.ofChange pruneDetectsWrong)

/-- 'antecedelaw49.PruneSafe': WHATEVER THE INPUT: true; the input reads as it did. -/
def pruneSafeSpec : ChangeSpec := { name := "pruneSafe", fn := fun _ => fun
  | [d1, d2, d3, d4] => { results := [.lit (.bool true)], args := [d1, d2, d3, d4] }
  | _ => none }
def pruneSafeRow : OpenClaim := { program := "ytkfkdmefabefkaagreatdoor", sum := "9488888fd0315b943b869e5640452ec92a35e5b0cd38523d95d47f490258c52b", func := "antecede/antecedelaw49.PruneSafe", spec := "pruneSafe", unfollowed := true, recurses := true, named := ["antecede/predtype.parts"], loops := true, plainKeys := false, apart := false, laid := [("antecede/predtype.parts", laid_antecede_predtype_parts)] }
def PruneSafeSaid : Prop := pruneSafeRow.holds Tryz.pinned (OpenSpec.ofChange pruneSafeSpec)

/-- ITS FALSE NEIGHBOUR: 'it returns false'. Refute it at one input. -/
def pruneSafeWrong : ChangeSpec := { name := "pruneSafe", fn := fun _ => fun
  | [d1, d2, d3, d4] => { results := [.lit (.bool false)], args := [d1, d2, d3, d4] }
  | _ => none }
def PruneSafeWrongFalsely : Prop := pruneSafeRow.holds Tryz.pinned (OpenSpec.ofChange pruneSafeWrong)

/- THE SECOND FORM. 'bulk': how many values and letters a reading holds, each counted each time it is reached (what is shared counts as often as it is met; a slice's spare places count too). A statement '..UptoSaid' is the law's where the arguments, and the package variables that the reading takes, are together of bulk at most 1048576: NARROWER than '..Said'. Prove '..Said' where nothing that the law and all that it calls make is longer than what came in: it says more and counts as full. Else prove '..UptoSaid'. A law counts once. -/
mutual
def uptoBulk {H : Type} : DataW H → Nat
  | .lit (.string bytes) => bytes.length + 1
  | .lit _ => 1
  | .nil => 1
  | .ptr d => uptoBulk d + 1
  | .slice elems spare => uptoBulkAll elems + uptoBulkAll spare + 1
  | .agg parts => uptoBulkAll parts + 1
  | .iface _ d => uptoBulk d + 1
  | .map entries => uptoBulkEntries entries + 1
  | .held _ => 1
def uptoBulkAll {H : Type} : List (DataW H) → Nat
  | [] => 0
  | d :: r => uptoBulk d + uptoBulkAll r
def uptoBulkEntries {H : Type} : List (Lit × DataW H) → Nat
  | [] => 0
  | x :: r => uptoBulkEntry x + uptoBulkEntries r
def uptoBulkEntry {H : Type} : Lit × DataW H → Nat
  | (.string bytes, d) => bytes.length + uptoBulk d + 1
  | (_, d) => uptoBulk d + 1
 end
def uptoSmall : (H : Type) → List (DataW H) → Bool := fun _ ds => decide (uptoBulkAll ds ≤ 1048576)
def OpenSpec.upto (s : _root_.Go.ChangeSpec) : _root_.Go.OpenSpec := { _root_.Go.OpenSpec.ofChange s with cond := some uptoSmall }

/-- 'antecedelaw49.PruneDrops', WHERE WHAT IT READS IS OF BULK AT MOST 1048576: true; the input reads as it did. -/
def pruneDropsUptoRow : OpenClaim := { program := "ytkfkdmefabefkaagreatdoor", sum := "9488888fd0315b943b869e5640452ec92a35e5b0cd38523d95d47f490258c52b", func := "antecede/antecedelaw49.PruneDrops", spec := "pruneDrops", unfollowed := true, recurses := true, named := ["antecede/predtype.parts"], loops := true, plainKeys := false, apart := false, laid := [("antecede/predtype.parts", laid_antecede_predtype_parts)], narrowed := true }
def PruneDropsUptoSaid : Prop := pruneDropsUptoRow.holds Tryz.pinned (OpenSpec.upto pruneDropsSpec)

/-- 'antecedelaw49.PruneTruths', WHERE WHAT IT READS IS OF BULK AT MOST 1048576: true; the input reads as it did. -/
def pruneTruthsUptoRow : OpenClaim := { program := "ytkfkdmefabefkaagreatdoor", sum := "9488888fd0315b943b869e5640452ec92a35e5b0cd38523d95d47f490258c52b", func := "antecede/antecedelaw49.PruneTruths", spec := "pruneTruths", unfollowed := true, recurses := true, named := ["antecede/predtype.parts"], loops := true, plainKeys := false, apart := false, laid := [("antecede/predtype.parts", laid_antecede_predtype_parts)], narrowed := true }
def PruneTruthsUptoSaid : Prop := pruneTruthsUptoRow.holds Tryz.pinned (OpenSpec.upto pruneTruthsSpec)

/-- 'antecedelaw49.PruneDetects', WHERE WHAT IT READS IS OF BULK AT MOST 1048576: true; the input reads as it did. -/
def pruneDetectsUptoRow : OpenClaim := { program := "ytkfkdmefabefkaagreatdoor", sum := "9488888fd0315b943b869e5640452ec92a35e5b0cd38523d95d47f490258c52b", func := "antecede/antecedelaw49.PruneDetects", spec := "pruneDetects", unfollowed := true, recurses := true, named := ["antecede/predtype.parts"], loops := true, plainKeys := false, apart := false, laid := [("antecede/predtype.parts", laid_antecede_predtype_parts)], narrowed := true }
def PruneDetectsUptoSaid : Prop := pruneDetectsUptoRow.holds Tryz.pinned (OpenSpec.upto pruneDetectsSpec)

/-- 'antecedelaw49.PruneSafe', WHERE WHAT IT READS IS OF BULK AT MOST 1048576: true; the input reads as it did. -/
def pruneSafeUptoRow : OpenClaim := { program := "ytkfkdmefabefkaagreatdoor", sum := "9488888fd0315b943b869e5640452ec92a35e5b0cd38523d95d47f490258c52b", func := "antecede/antecedelaw49.PruneSafe", spec := "pruneSafe", unfollowed := true, recurses := true, named := ["antecede/predtype.parts"], loops := true, plainKeys := false, apart := false, laid := [("antecede/predtype.parts", laid_antecede_predtype_parts)], narrowed := true }
def PruneSafeUptoSaid : Prop := pruneSafeUptoRow.holds Tryz.pinned (OpenSpec.upto pruneSafeSpec)

end Rows
end Go.Proofs.YtkfkdmefabefkaaGreatDoor
