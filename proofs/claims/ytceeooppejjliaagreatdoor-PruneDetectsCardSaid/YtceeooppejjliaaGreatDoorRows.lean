/-
  NARROWER THAN 'FOR EVERY INPUT', by the rows' own cells (each row's printed sentence says how): ConjunctiveSpans: loops, laid · ConjunctiveLists: laid · ConjunctiveProves: loops, laid · ConjunctiveFinds: loops, laid · ConjunctiveSame: loops, laid · PruneDetects: loops, laid · PruneSafe: loops, laid · ConjunctiveLattice: loops, laid.
  DERIVED. THE GIVEN ROWS OF THIS SEAT. 8 by the template 'for every input the law returns true; each argument reads behind the call as it read before'; 0 by the template 'total and deterministic' (their statements: YtceeooppejjliaaGreatDoorTotals.lean).
  GIVEN WITH THE SEED: the statements are not yours to turn. If you find one false, say at which input.
  Laid BY PROGRAM, IN A SANDBOX (cutbox-rows.mjs): the forced cells as the released guide's own fill.sh prints them over the translation f3d66bf9dfda1452… (all of the seat's roots in one cut). By AI agents, Wed Nov 11 2026. No macro, syntax, notation, axiom, sorry.
-/
import Derived.Test.YtceeooppejjliaaGreatDoorChecked
import GoSem.Claim
import GoSem.ClaimJoined
import GoSem.ClaimMapViews
import Derived.JoinedTies
import Derived.KernelRfl
namespace Go.Proofs.YtceeooppejjliaaGreatDoor
/- THE CELL 'sum', in the pinned program and in every row, IS THE sha256 OF THE DUMP (.gsa) THAT YtceeooppejjliaaGreatDoorProg.lean LOADS. Nothing in Lean hashes anything: it is a label: what it is worth is what the hold of that sum in a sandbox is worth. -/
noncomputable def Tryz.pinned : Pinned := { name := "ytceeooppejjliaagreatdoor", sum := "f3d66bf9dfda14528cfef89df76809d570edb71d56ddcbb27de83ae396090981", checked := Tryz.checked }
namespace Rows
def none {H : Type} : Left H := { results := [], args := [] }

/- WHAT THE LISTED PACKAGE-LEVEL VARIABLES READ AS WHEN THE CALL BEGINS. Each datum BY PROGRAM (the guide's laid-datum.mjs) off the statement by which the dump's own 'gosem.cut.vars' lays the variable. In a bare row this is a premise. The card (YtceeooppejjliaaGreatDoorCards.lean) ties it to the program's text. -/
def laid_antecede_predtype_parts {H : Type} : DataW H := .agg [.lit (.int .i64 (-1)), .lit (.int .i64 0), .lit (.int .i64 0), .lit (.int .i64 0), .lit (.int .i64 0), .lit (.int .i64 1), .lit (.int .i64 2), .lit (.int .i64 2), .lit (.int .i64 2), .lit (.int .i64 2), .lit (.int .i64 2), .lit (.int .i64 2), .lit (.int .i64 2), .lit (.int .i64 0), .lit (.int .i64 0), .lit (.int .i64 1), .lit (.int .i64 2), .lit (.int .i64 2), .lit (.int .i64 1), .lit (.int .i64 1), .lit (.int .i64 1), .lit (.int .i64 1)]

/-- 'antecedelaw37.ConjunctiveSpans': WHATEVER THE INPUT: true; the input reads as it did. -/
def conjunctiveSpansSpec : ChangeSpec := { name := "conjunctiveSpans", fn := fun _ => fun
  | [d1, d2, d3] => { results := [.lit (.bool true)], args := [d1, d2, d3] }
  | _ => none }
def conjunctiveSpansRow : OpenClaim := { program := "ytceeooppejjliaagreatdoor", sum := "f3d66bf9dfda14528cfef89df76809d570edb71d56ddcbb27de83ae396090981", func := "antecede/antecedelaw37.ConjunctiveSpans", spec := "conjunctiveSpans", unfollowed := true, recurses := true, named := ["antecede/predtype.parts"], loops := true, plainKeys := false, apart := false, laid := [("antecede/predtype.parts", laid_antecede_predtype_parts)] }
def ConjunctiveSpansSaid : Prop := conjunctiveSpansRow.holds Tryz.pinned (OpenSpec.ofChange conjunctiveSpansSpec)

/-- ITS FALSE NEIGHBOUR: 'it returns false'. Refute it at one input. -/
def conjunctiveSpansWrong : ChangeSpec := { name := "conjunctiveSpans", fn := fun _ => fun
  | [d1, d2, d3] => { results := [.lit (.bool false)], args := [d1, d2, d3] }
  | _ => none }
def ConjunctiveSpansWrongFalsely : Prop := conjunctiveSpansRow.holds Tryz.pinned (OpenSpec.ofChange conjunctiveSpansWrong)

/-- 'antecedelaw37.ConjunctiveLists': WHATEVER THE INPUT: true; the input reads as it did. -/
def conjunctiveListsSpec : ChangeSpec := { name := "conjunctiveLists", fn := fun _ => fun
  | [d1, d2] => { results := [.lit (.bool true)], args := [d1, d2] }
  | _ => none }
def conjunctiveListsRow : OpenClaim := { program := "ytceeooppejjliaagreatdoor", sum := "f3d66bf9dfda14528cfef89df76809d570edb71d56ddcbb27de83ae396090981", func := "antecede/antecedelaw37.ConjunctiveLists", spec := "conjunctiveLists", unfollowed := true, recurses := true, named := ["antecede/predtype.parts"], plainKeys := false, apart := false, laid := [("antecede/predtype.parts", laid_antecede_predtype_parts)] }
def ConjunctiveListsSaid : Prop := conjunctiveListsRow.holds Tryz.pinned (OpenSpec.ofChange conjunctiveListsSpec)

/-- ITS FALSE NEIGHBOUR: 'it returns false'. Refute it at one input. -/
def conjunctiveListsWrong : ChangeSpec := { name := "conjunctiveLists", fn := fun _ => fun
  | [d1, d2] => { results := [.lit (.bool false)], args := [d1, d2] }
  | _ => none }
def ConjunctiveListsWrongFalsely : Prop := conjunctiveListsRow.holds Tryz.pinned (OpenSpec.ofChange conjunctiveListsWrong)

/-- 'antecedelaw37.ConjunctiveProves': WHATEVER THE INPUT: true; the input reads as it did. -/
def conjunctiveProvesSpec : ChangeSpec := { name := "conjunctiveProves", fn := fun _ => fun
  | [d1, d2, d3] => { results := [.lit (.bool true)], args := [d1, d2, d3] }
  | _ => none }
def conjunctiveProvesRow : OpenClaim := { program := "ytceeooppejjliaagreatdoor", sum := "f3d66bf9dfda14528cfef89df76809d570edb71d56ddcbb27de83ae396090981", func := "antecede/antecedelaw37.ConjunctiveProves", spec := "conjunctiveProves", unfollowed := true, recurses := true, named := ["antecede/predtype.parts"], loops := true, plainKeys := false, apart := false, laid := [("antecede/predtype.parts", laid_antecede_predtype_parts)] }
def ConjunctiveProvesSaid : Prop := conjunctiveProvesRow.holds Tryz.pinned (OpenSpec.ofChange conjunctiveProvesSpec)

/-- ITS FALSE NEIGHBOUR: 'it returns false'. Refute it at one input. -/
def conjunctiveProvesWrong : ChangeSpec := { name := "conjunctiveProves", fn := fun _ => fun
  | [d1, d2, d3] => { results := [.lit (.bool false)], args := [d1, d2, d3] }
  | _ => none }
def ConjunctiveProvesWrongFalsely : Prop := conjunctiveProvesRow.holds Tryz.pinned (OpenSpec.ofChange conjunctiveProvesWrong)

/-- 'antecedelaw37.ConjunctiveFinds': WHATEVER THE INPUT: true; the input reads as it did. -/
def conjunctiveFindsSpec : ChangeSpec := { name := "conjunctiveFinds", fn := fun _ => fun
  | [d1, d2] => { results := [.lit (.bool true)], args := [d1, d2] }
  | _ => none }
def conjunctiveFindsRow : OpenClaim := { program := "ytceeooppejjliaagreatdoor", sum := "f3d66bf9dfda14528cfef89df76809d570edb71d56ddcbb27de83ae396090981", func := "antecede/antecedelaw37.ConjunctiveFinds", spec := "conjunctiveFinds", unfollowed := true, recurses := true, named := ["antecede/predtype.parts"], loops := true, plainKeys := false, apart := false, laid := [("antecede/predtype.parts", laid_antecede_predtype_parts)] }
def ConjunctiveFindsSaid : Prop := conjunctiveFindsRow.holds Tryz.pinned (OpenSpec.ofChange conjunctiveFindsSpec)

/-- ITS FALSE NEIGHBOUR: 'it returns false'. Refute it at one input. -/
def conjunctiveFindsWrong : ChangeSpec := { name := "conjunctiveFinds", fn := fun _ => fun
  | [d1, d2] => { results := [.lit (.bool false)], args := [d1, d2] }
  | _ => none }
def ConjunctiveFindsWrongFalsely : Prop := conjunctiveFindsRow.holds Tryz.pinned (OpenSpec.ofChange conjunctiveFindsWrong)

/-- 'antecedelaw37.ConjunctiveSame': WHATEVER THE INPUT: true; the input reads as it did. -/
def conjunctiveSameSpec : ChangeSpec := { name := "conjunctiveSame", fn := fun _ => fun
  | [d1, d2] => { results := [.lit (.bool true)], args := [d1, d2] }
  | _ => none }
def conjunctiveSameRow : OpenClaim := { program := "ytceeooppejjliaagreatdoor", sum := "f3d66bf9dfda14528cfef89df76809d570edb71d56ddcbb27de83ae396090981", func := "antecede/antecedelaw37.ConjunctiveSame", spec := "conjunctiveSame", unfollowed := true, recurses := true, named := ["antecede/predtype.parts"], loops := true, plainKeys := false, apart := false, laid := [("antecede/predtype.parts", laid_antecede_predtype_parts)] }
def ConjunctiveSameSaid : Prop := conjunctiveSameRow.holds Tryz.pinned (OpenSpec.ofChange conjunctiveSameSpec)

/-- ITS FALSE NEIGHBOUR: 'it returns false'. Refute it at one input. -/
def conjunctiveSameWrong : ChangeSpec := { name := "conjunctiveSame", fn := fun _ => fun
  | [d1, d2] => { results := [.lit (.bool false)], args := [d1, d2] }
  | _ => none }
def ConjunctiveSameWrongFalsely : Prop := conjunctiveSameRow.holds Tryz.pinned (OpenSpec.ofChange conjunctiveSameWrong)

/-- 'antecedelaw49.PruneDetects': WHATEVER THE INPUT: true; the input reads as it did. -/
def pruneDetectsSpec : ChangeSpec := { name := "pruneDetects", fn := fun _ => fun
  | [d1, d2, d3] => { results := [.lit (.bool true)], args := [d1, d2, d3] }
  | _ => none }
def pruneDetectsRow : OpenClaim := { program := "ytceeooppejjliaagreatdoor", sum := "f3d66bf9dfda14528cfef89df76809d570edb71d56ddcbb27de83ae396090981", func := "antecede/antecedelaw49.PruneDetects", spec := "pruneDetects", unfollowed := true, recurses := true, named := ["antecede/predtype.parts"], loops := true, plainKeys := false, apart := false, laid := [("antecede/predtype.parts", laid_antecede_predtype_parts)] }
def PruneDetectsSaid : Prop := pruneDetectsRow.holds Tryz.pinned (OpenSpec.ofChange pruneDetectsSpec)

/-- ITS FALSE NEIGHBOUR: 'it returns false'. Refute it at one input. -/
def pruneDetectsWrong : ChangeSpec := { name := "pruneDetects", fn := fun _ => fun
  | [d1, d2, d3] => { results := [.lit (.bool false)], args := [d1, d2, d3] }
  | _ => none }
def PruneDetectsWrongFalsely : Prop := pruneDetectsRow.holds Tryz.pinned (OpenSpec.ofChange pruneDetectsWrong)

/-- 'antecedelaw49.PruneSafe': WHATEVER THE INPUT: true; the input reads as it did. -/
def pruneSafeSpec : ChangeSpec := { name := "pruneSafe", fn := fun _ => fun
  | [d1, d2, d3, d4] => { results := [.lit (.bool true)], args := [d1, d2, d3, d4] }
  | _ => none }
def pruneSafeRow : OpenClaim := { program := "ytceeooppejjliaagreatdoor", sum := "f3d66bf9dfda14528cfef89df76809d570edb71d56ddcbb27de83ae396090981", func := "antecede/antecedelaw49.PruneSafe", spec := "pruneSafe", unfollowed := true, recurses := true, named := ["antecede/predtype.parts"], loops := true, plainKeys := false, apart := false, laid := [("antecede/predtype.parts", laid_antecede_predtype_parts)] }
def PruneSafeSaid : Prop := pruneSafeRow.holds Tryz.pinned (OpenSpec.ofChange pruneSafeSpec)

/-- ITS FALSE NEIGHBOUR: 'it returns false'. Refute it at one input. -/
def pruneSafeWrong : ChangeSpec := { name := "pruneSafe", fn := fun _ => fun
  | [d1, d2, d3, d4] => { results := [.lit (.bool false)], args := [d1, d2, d3, d4] }
  | _ => none }
def PruneSafeWrongFalsely : Prop := pruneSafeRow.holds Tryz.pinned (OpenSpec.ofChange pruneSafeWrong)

/-- 'antecedelaw37.ConjunctiveLattice': WHATEVER THE INPUT: true; the input reads as it did. -/
def conjunctiveLatticeSpec : ChangeSpec := { name := "conjunctiveLattice", fn := fun _ => fun
  | [d1, d2] => { results := [.lit (.bool true)], args := [d1, d2] }
  | _ => none }
def conjunctiveLatticeRow : OpenClaim := { program := "ytceeooppejjliaagreatdoor", sum := "f3d66bf9dfda14528cfef89df76809d570edb71d56ddcbb27de83ae396090981", func := "antecede/antecedelaw37.ConjunctiveLattice", spec := "conjunctiveLattice", unfollowed := true, recurses := true, named := ["antecede/predtype.parts"], loops := true, plainKeys := false, apart := false, laid := [("antecede/predtype.parts", laid_antecede_predtype_parts)] }
def ConjunctiveLatticeSaid : Prop := conjunctiveLatticeRow.holds Tryz.pinned (OpenSpec.ofChange conjunctiveLatticeSpec)

/-- ITS FALSE NEIGHBOUR: 'it returns false'. Refute it at one input. -/
def conjunctiveLatticeWrong : ChangeSpec := { name := "conjunctiveLattice", fn := fun _ => fun
  | [d1, d2] => { results := [.lit (.bool false)], args := [d1, d2] }
  | _ => none }
def ConjunctiveLatticeWrongFalsely : Prop := conjunctiveLatticeRow.holds Tryz.pinned (OpenSpec.ofChange conjunctiveLatticeWrong)

/- THE SECOND FORM. 'bulk': how many values and letters a reading holds, each counted each time it is reached (what is shared counts as often as it is met; a slice's spare places count too). A statement '..UptoSaid' is the law's where the arguments, and the package variables that the reading takes, are together of bulk at most 1048576: NARROWER than '..Said'. Prove '..Said' where nothing that the law and all that it calls make is longer than what came in: it says more and counts as full. Else prove '..UptoSaid'. A law counts once. -/
mutual
def uptoBulk {H : Type} : DataW H → Nat
  | .lit (.string bytes) => bytes.length + 1
  | .lit _ => 1
  | .nil => 1
  | .ptr d => uptoBulk d + 1
  | .slice elems spare => uptoBulkAll elems + uptoBulkAll spare + 1
  | .agg parts => uptoBulkAll parts + 1
  | .iface _ d => uptoBulk d + 1
  | .map entries => uptoBulkEntries entries + 1
  | .held _ => 1
def uptoBulkAll {H : Type} : List (DataW H) → Nat
  | [] => 0
  | d :: r => uptoBulk d + uptoBulkAll r
def uptoBulkEntries {H : Type} : List (Lit × DataW H) → Nat
  | [] => 0
  | x :: r => uptoBulkEntry x + uptoBulkEntries r
def uptoBulkEntry {H : Type} : Lit × DataW H → Nat
  | (.string bytes, d) => bytes.length + uptoBulk d + 1
  | (_, d) => uptoBulk d + 1
 end
def uptoSmall : (H : Type) → List (DataW H) → Bool := fun _ ds => decide (uptoBulkAll ds ≤ 1048576)
def OpenSpec.upto (s : _root_.Go.ChangeSpec) : _root_.Go.OpenSpec := { _root_.Go.OpenSpec.ofChange s with cond := some uptoSmall }

/-- 'antecedelaw37.ConjunctiveSpans', WHERE WHAT IT READS IS OF BULK AT MOST 1048576: true; the input reads as it did. -/
def conjunctiveSpansUptoRow : OpenClaim := { program := "ytceeooppejjliaagreatdoor", sum := "f3d66bf9dfda14528cfef89df76809d570edb71d56ddcbb27de83ae396090981", func := "antecede/antecedelaw37.ConjunctiveSpans", spec := "conjunctiveSpans", unfollowed := true, recurses := true, named := ["antecede/predtype.parts"], loops := true, plainKeys := false, apart := false, laid := [("antecede/predtype.parts", laid_antecede_predtype_parts)], narrowed := true }
def ConjunctiveSpansUptoSaid : Prop := conjunctiveSpansUptoRow.holds Tryz.pinned (OpenSpec.upto conjunctiveSpansSpec)

/-- 'antecedelaw37.ConjunctiveLists', WHERE WHAT IT READS IS OF BULK AT MOST 1048576: true; the input reads as it did. -/
def conjunctiveListsUptoRow : OpenClaim := { program := "ytceeooppejjliaagreatdoor", sum := "f3d66bf9dfda14528cfef89df76809d570edb71d56ddcbb27de83ae396090981", func := "antecede/antecedelaw37.ConjunctiveLists", spec := "conjunctiveLists", unfollowed := true, recurses := true, named := ["antecede/predtype.parts"], plainKeys := false, apart := false, laid := [("antecede/predtype.parts", laid_antecede_predtype_parts)], narrowed := true }
def ConjunctiveListsUptoSaid : Prop := conjunctiveListsUptoRow.holds Tryz.pinned (OpenSpec.upto conjunctiveListsSpec)

/-- 'antecedelaw37.ConjunctiveProves', WHERE WHAT IT READS IS OF BULK AT MOST 1048576: true; the input reads as it did. -/
def conjunctiveProvesUptoRow : OpenClaim := { program := "ytceeooppejjliaagreatdoor", sum := "f3d66bf9dfda14528cfef89df76809d570edb71d56ddcbb27de83ae396090981", func := "antecede/antecedelaw37.ConjunctiveProves", spec := "conjunctiveProves", unfollowed := true, recurses := true, named := ["antecede/predtype.parts"], loops := true, plainKeys := false, apart := false, laid := [("antecede/predtype.parts", laid_antecede_predtype_parts)], narrowed := true }
def ConjunctiveProvesUptoSaid : Prop := conjunctiveProvesUptoRow.holds Tryz.pinned (OpenSpec.upto conjunctiveProvesSpec)

/-- 'antecedelaw37.ConjunctiveFinds', WHERE WHAT IT READS IS OF BULK AT MOST 1048576: true; the input reads as it did. -/
def conjunctiveFindsUptoRow : OpenClaim := { program := "ytceeooppejjliaagreatdoor", sum := "f3d66bf9dfda14528cfef89df76809d570edb71d56ddcbb27de83ae396090981", func := "antecede/antecedelaw37.ConjunctiveFinds", spec := "conjunctiveFinds", unfollowed := true, recurses := true, named := ["antecede/predtype.parts"], loops := true, plainKeys := false, apart := false, laid := [("antecede/predtype.parts", laid_antecede_predtype_parts)], narrowed := true }
def ConjunctiveFindsUptoSaid : Prop := conjunctiveFindsUptoRow.holds Tryz.pinned (OpenSpec.upto conjunctiveFindsSpec)

/-- 'antecedelaw37.ConjunctiveSame', WHERE WHAT IT READS IS OF BULK AT MOST 1048576: true; the input reads as it did. -/
def conjunctiveSameUptoRow : OpenClaim := { program := "ytceeooppejjliaagreatdoor", sum := "f3d66bf9dfda14528cfef89df76809d570edb71d56ddcbb27de83ae396090981", func := "antecede/antecedelaw37.ConjunctiveSame", spec := "conjunctiveSame", unfollowed := true, recurses := true, named := ["antecede/predtype.parts"], loops := true, plainKeys := false, apart := false, laid := [("antecede/predtype.parts", laid_antecede_predtype_parts)], narrowed := true }
def ConjunctiveSameUptoSaid : Prop := conjunctiveSameUptoRow.holds Tryz.pinned (OpenSpec.upto conjunctiveSameSpec)

/-- 'antecedelaw49.PruneDetects', WHERE WHAT IT READS IS OF BULK AT MOST 1048576: true; the input reads as it did. -/
def pruneDetectsUptoRow : OpenClaim := { program := "ytceeooppejjliaagreatdoor", sum := "f3d66bf9dfda14528cfef89df76809d570edb71d56ddcbb27de83ae396090981", func := "antecede/antecedelaw49.PruneDetects", spec := "pruneDetects", unfollowed := true, recurses := true, named := ["antecede/predtype.parts"], loops := true, plainKeys := false, apart := false, laid := [("antecede/predtype.parts", laid_antecede_predtype_parts)], narrowed := true }
def PruneDetectsUptoSaid : Prop := pruneDetectsUptoRow.holds Tryz.pinned (OpenSpec.upto pruneDetectsSpec)

/-- 'antecedelaw49.PruneSafe', WHERE WHAT IT READS IS OF BULK AT MOST 1048576: true; the input reads as it did. -/
def pruneSafeUptoRow : OpenClaim := { program := "ytceeooppejjliaagreatdoor", sum := "f3d66bf9dfda14528cfef89df76809d570edb71d56ddcbb27de83ae396090981", func := "antecede/antecedelaw49.PruneSafe", spec := "pruneSafe", unfollowed := true, recurses := true, named := ["antecede/predtype.parts"], loops := true, plainKeys := false, apart := false, laid := [("antecede/predtype.parts", laid_antecede_predtype_parts)], narrowed := true }
def PruneSafeUptoSaid : Prop := pruneSafeUptoRow.holds Tryz.pinned (OpenSpec.upto pruneSafeSpec)

/-- 'antecedelaw37.ConjunctiveLattice', WHERE WHAT IT READS IS OF BULK AT MOST 1048576: true; the input reads as it did. -/
def conjunctiveLatticeUptoRow : OpenClaim := { program := "ytceeooppejjliaagreatdoor", sum := "f3d66bf9dfda14528cfef89df76809d570edb71d56ddcbb27de83ae396090981", func := "antecede/antecedelaw37.ConjunctiveLattice", spec := "conjunctiveLattice", unfollowed := true, recurses := true, named := ["antecede/predtype.parts"], loops := true, plainKeys := false, apart := false, laid := [("antecede/predtype.parts", laid_antecede_predtype_parts)], narrowed := true }
def ConjunctiveLatticeUptoSaid : Prop := conjunctiveLatticeUptoRow.holds Tryz.pinned (OpenSpec.upto conjunctiveLatticeSpec)

end Rows
end Go.Proofs.YtceeooppejjliaaGreatDoor
