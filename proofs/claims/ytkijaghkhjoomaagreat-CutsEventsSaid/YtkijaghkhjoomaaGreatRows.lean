/-
  No cell of these rows narrows 'for every input' (looked for: loops, veiled, ifaces, maps, wideKeys, modest, calm, conditions, laid).
  DERIVED. THE GIVEN ROWS OF THIS SEAT. 5 by the template 'for every input the law returns true; each argument reads behind the call as it read before'; 0 by the template 'total and deterministic' (their statements: YtkijaghkhjoomaaGreatTotals.lean).
  GIVEN WITH THE SEED: the statements are not yours to turn. If you find one false, say at which input.
  Laid BY PROGRAM, IN A SANDBOX (cutbox-rows.mjs): the forced cells as the released guide's own fill.sh prints them over the translation 98d90f9a1d20645d… (all of the seat's roots in one cut). By AI agents, Wed Nov 11 2026. No macro, syntax, notation, axiom, sorry.
-/
import Derived.Test.YtkijaghkhjoomaaGreatChecked
import GoSem.Claim
import GoSem.ClaimJoined
import GoSem.ClaimMapViews
import Derived.JoinedTies
import Derived.KernelRfl
namespace Go.Proofs.YtkijaghkhjoomaaGreat
/- THE CELL 'sum', in the pinned program and in every row, IS THE sha256 OF THE DUMP (.gsa) THAT YtkijaghkhjoomaaGreatProg.lean LOADS. Nothing in Lean hashes anything: it is a label: what it is worth is what the hold of that sum in a sandbox is worth. -/
noncomputable def Tryz.pinned : Pinned := { name := "ytkijaghkhjoomaagreat", sum := "98d90f9a1d20645d51cc3d0a77f11cacfb9939ac7b3213152a76f32493711130", checked := Tryz.checked }
namespace Rows
def none {H : Type} : Left H := { results := [], args := [] }

/-- 'antecedelaw23.CutsLists': WHATEVER THE INPUT: true; the input reads as it did. -/
def cutsListsSpec : ChangeSpec := { name := "cutsLists", fn := fun _ => fun
  | [d1, d2] => { results := [.lit (.bool true)], args := [d1, d2] }
  | _ => none }
def cutsListsRow : OpenClaim := { program := "ytkijaghkhjoomaagreat", sum := "98d90f9a1d20645d51cc3d0a77f11cacfb9939ac7b3213152a76f32493711130", func := "antecede/antecedelaw23.CutsLists", spec := "cutsLists", unfollowed := true, recurses := true, plainKeys := false, apart := false }
def CutsListsSaid : Prop := cutsListsRow.holds Tryz.pinned (OpenSpec.ofChange cutsListsSpec)

/-- ITS FALSE NEIGHBOUR: 'it returns false'. Refute it at one input. -/
def cutsListsWrong : ChangeSpec := { name := "cutsLists", fn := fun _ => fun
  | [d1, d2] => { results := [.lit (.bool false)], args := [d1, d2] }
  | _ => none }
def CutsListsWrongFalsely : Prop := cutsListsRow.holds Tryz.pinned (OpenSpec.ofChange cutsListsWrong)

/-- 'antecedelaw23.CutsLattice': WHATEVER THE INPUT: true; the input reads as it did. -/
def cutsLatticeSpec : ChangeSpec := { name := "cutsLattice", fn := fun _ => fun
  | [d1, d2, d3] => { results := [.lit (.bool true)], args := [d1, d2, d3] }
  | _ => none }
def cutsLatticeRow : OpenClaim := { program := "ytkijaghkhjoomaagreat", sum := "98d90f9a1d20645d51cc3d0a77f11cacfb9939ac7b3213152a76f32493711130", func := "antecede/antecedelaw23.CutsLattice", spec := "cutsLattice", unfollowed := true, recurses := true, plainKeys := false, apart := false }
def CutsLatticeSaid : Prop := cutsLatticeRow.holds Tryz.pinned (OpenSpec.ofChange cutsLatticeSpec)

/-- ITS FALSE NEIGHBOUR: 'it returns false'. Refute it at one input. -/
def cutsLatticeWrong : ChangeSpec := { name := "cutsLattice", fn := fun _ => fun
  | [d1, d2, d3] => { results := [.lit (.bool false)], args := [d1, d2, d3] }
  | _ => none }
def CutsLatticeWrongFalsely : Prop := cutsLatticeRow.holds Tryz.pinned (OpenSpec.ofChange cutsLatticeWrong)

/-- 'antecedelaw23.CutsEvents': WHATEVER THE INPUT: true; the input reads as it did. -/
def cutsEventsSpec : ChangeSpec := { name := "cutsEvents", fn := fun _ => fun
  | [d1, d2] => { results := [.lit (.bool true)], args := [d1, d2] }
  | _ => none }
def cutsEventsRow : OpenClaim := { program := "ytkijaghkhjoomaagreat", sum := "98d90f9a1d20645d51cc3d0a77f11cacfb9939ac7b3213152a76f32493711130", func := "antecede/antecedelaw23.CutsEvents", spec := "cutsEvents", unfollowed := true, recurses := true, plainKeys := false, apart := false }
def CutsEventsSaid : Prop := cutsEventsRow.holds Tryz.pinned (OpenSpec.ofChange cutsEventsSpec)

/-- ITS FALSE NEIGHBOUR: 'it returns false'. Refute it at one input. -/
def cutsEventsWrong : ChangeSpec := { name := "cutsEvents", fn := fun _ => fun
  | [d1, d2] => { results := [.lit (.bool false)], args := [d1, d2] }
  | _ => none }
def CutsEventsWrongFalsely : Prop := cutsEventsRow.holds Tryz.pinned (OpenSpec.ofChange cutsEventsWrong)

/-- 'antecedelaw23.CutsPlaces': WHATEVER THE INPUT: true; the input reads as it did. -/
def cutsPlacesSpec : ChangeSpec := { name := "cutsPlaces", fn := fun _ => fun
  | [d1, d2, d3] => { results := [.lit (.bool true)], args := [d1, d2, d3] }
  | _ => none }
def cutsPlacesRow : OpenClaim := { program := "ytkijaghkhjoomaagreat", sum := "98d90f9a1d20645d51cc3d0a77f11cacfb9939ac7b3213152a76f32493711130", func := "antecede/antecedelaw23.CutsPlaces", spec := "cutsPlaces", unfollowed := true, recurses := true, plainKeys := false, apart := false }
def CutsPlacesSaid : Prop := cutsPlacesRow.holds Tryz.pinned (OpenSpec.ofChange cutsPlacesSpec)

/-- ITS FALSE NEIGHBOUR: 'it returns false'. Refute it at one input. -/
def cutsPlacesWrong : ChangeSpec := { name := "cutsPlaces", fn := fun _ => fun
  | [d1, d2, d3] => { results := [.lit (.bool false)], args := [d1, d2, d3] }
  | _ => none }
def CutsPlacesWrongFalsely : Prop := cutsPlacesRow.holds Tryz.pinned (OpenSpec.ofChange cutsPlacesWrong)

/-- 'antecedelaw49.PruneCuts': WHATEVER THE INPUT: true; the input reads as it did. -/
def pruneCutsSpec : ChangeSpec := { name := "pruneCuts", fn := fun _ => fun
  | [d1, d2, d3] => { results := [.lit (.bool true)], args := [d1, d2, d3] }
  | _ => none }
def pruneCutsRow : OpenClaim := { program := "ytkijaghkhjoomaagreat", sum := "98d90f9a1d20645d51cc3d0a77f11cacfb9939ac7b3213152a76f32493711130", func := "antecede/antecedelaw49.PruneCuts", spec := "pruneCuts", unfollowed := true, recurses := true, plainKeys := false, apart := false }
def PruneCutsSaid : Prop := pruneCutsRow.holds Tryz.pinned (OpenSpec.ofChange pruneCutsSpec)

/-- ITS FALSE NEIGHBOUR: 'it returns false'. Refute it at one input. -/
def pruneCutsWrong : ChangeSpec := { name := "pruneCuts", fn := fun _ => fun
  | [d1, d2, d3] => { results := [.lit (.bool false)], args := [d1, d2, d3] }
  | _ => none }
def PruneCutsWrongFalsely : Prop := pruneCutsRow.holds Tryz.pinned (OpenSpec.ofChange pruneCutsWrong)

/- THE SECOND FORM. 'bulk': how many values and letters a reading holds, each counted each time it is reached (what is shared counts as often as it is met; a slice's spare places count too). A statement '..UptoSaid' is the law's where the arguments, and the package variables that the reading takes, are together of bulk at most 1048576: NARROWER than '..Said'. Prove '..Said' where nothing that the law and all that it calls make is longer than what came in: it says more and counts as full. Else prove '..UptoSaid'. A law counts once. -/
mutual
def uptoBulk {H : Type} : DataW H → Nat
  | .lit (.string bytes) => bytes.length + 1
  | .lit _ => 1
  | .nil => 1
  | .ptr d => uptoBulk d + 1
  | .slice elems spare => uptoBulkAll elems + uptoBulkAll spare + 1
  | .agg parts => uptoBulkAll parts + 1
  | .iface _ d => uptoBulk d + 1
  | .map entries => uptoBulkEntries entries + 1
  | .held _ => 1
def uptoBulkAll {H : Type} : List (DataW H) → Nat
  | [] => 0
  | d :: r => uptoBulk d + uptoBulkAll r
def uptoBulkEntries {H : Type} : List (Lit × DataW H) → Nat
  | [] => 0
  | x :: r => uptoBulkEntry x + uptoBulkEntries r
def uptoBulkEntry {H : Type} : Lit × DataW H → Nat
  | (.string bytes, d) => bytes.length + uptoBulk d + 1
  | (_, d) => uptoBulk d + 1
 end
def uptoSmall : (H : Type) → List (DataW H) → Bool := fun _ ds => decide (uptoBulkAll ds ≤ 1048576)
def OpenSpec.upto (s : _root_.Go.ChangeSpec) : _root_.Go.OpenSpec := { _root_.Go.OpenSpec.ofChange s with cond := some uptoSmall }

/-- 'antecedelaw23.CutsLists', WHERE WHAT IT READS IS OF BULK AT MOST 1048576: true; the input reads as it did. -/
def cutsListsUptoRow : OpenClaim := { program := "ytkijaghkhjoomaagreat", sum := "98d90f9a1d20645d51cc3d0a77f11cacfb9939ac7b3213152a76f32493711130", func := "antecede/antecedelaw23.CutsLists", spec := "cutsLists", unfollowed := true, recurses := true, plainKeys := false, apart := false, narrowed := true }
def CutsListsUptoSaid : Prop := cutsListsUptoRow.holds Tryz.pinned (OpenSpec.upto cutsListsSpec)

/-- 'antecedelaw23.CutsLattice', WHERE WHAT IT READS IS OF BULK AT MOST 1048576: true; the input reads as it did. -/
def cutsLatticeUptoRow : OpenClaim := { program := "ytkijaghkhjoomaagreat", sum := "98d90f9a1d20645d51cc3d0a77f11cacfb9939ac7b3213152a76f32493711130", func := "antecede/antecedelaw23.CutsLattice", spec := "cutsLattice", unfollowed := true, recurses := true, plainKeys := false, apart := false, narrowed := true }
def CutsLatticeUptoSaid : Prop := cutsLatticeUptoRow.holds Tryz.pinned (OpenSpec.upto cutsLatticeSpec)

/-- 'antecedelaw23.CutsEvents', WHERE WHAT IT READS IS OF BULK AT MOST 1048576: true; the input reads as it did. -/
def cutsEventsUptoRow : OpenClaim := { program := "ytkijaghkhjoomaagreat", sum := "98d90f9a1d20645d51cc3d0a77f11cacfb9939ac7b3213152a76f32493711130", func := "antecede/antecedelaw23.CutsEvents", spec := "cutsEvents", unfollowed := true, recurses := true, plainKeys := false, apart := false, narrowed := true }
def CutsEventsUptoSaid : Prop := cutsEventsUptoRow.holds Tryz.pinned (OpenSpec.upto cutsEventsSpec)

/-- 'antecedelaw23.CutsPlaces', WHERE WHAT IT READS IS OF BULK AT MOST 1048576: true; the input reads as it did. -/
def cutsPlacesUptoRow : OpenClaim := { program := "ytkijaghkhjoomaagreat", sum := "98d90f9a1d20645d51cc3d0a77f11cacfb9939ac7b3213152a76f32493711130", func := "antecede/antecedelaw23.CutsPlaces", spec := "cutsPlaces", unfollowed := true, recurses := true, plainKeys := false, apart := false, narrowed := true }
def CutsPlacesUptoSaid : Prop := cutsPlacesUptoRow.holds Tryz.pinned (OpenSpec.upto cutsPlacesSpec)

/-- 'antecedelaw49.PruneCuts', WHERE WHAT IT READS IS OF BULK AT MOST 1048576: true; the input reads as it did. -/
def pruneCutsUptoRow : OpenClaim := { program := "ytkijaghkhjoomaagreat", sum := "98d90f9a1d20645d51cc3d0a77f11cacfb9939ac7b3213152a76f32493711130", func := "antecede/antecedelaw49.PruneCuts", spec := "pruneCuts", unfollowed := true, recurses := true, plainKeys := false, apart := false, narrowed := true }
def PruneCutsUptoSaid : Prop := pruneCutsUptoRow.holds Tryz.pinned (OpenSpec.upto pruneCutsSpec)

end Rows
end Go.Proofs.YtkijaghkhjoomaaGreat
