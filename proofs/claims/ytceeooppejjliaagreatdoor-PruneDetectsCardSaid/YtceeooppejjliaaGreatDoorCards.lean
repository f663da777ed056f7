/-
  DERIVED. GIVEN WITH THE SEED: THE CARDS: each row of YtceeooppejjliaaGreatDoorRows.lean that lists a variable, with what it lists TIED to the program's text (the seventh form; the later family's looks); each row that meets fmt, with fmt's text TOLD by the authors' own Lean function (tested against real Go, not proved from fmt's source: count such statements apart). THE CARD IS WHAT COUNTS. Prove the row's statement (the work); the ties are given (YtceeooppejjliaaGreatDoorTie.lean); close each card by the builder's one call (the guide's Derived/Test/ToyasCard.lean, 'card_holds'). Laid BY PROGRAM, IN A SANDBOX (cutbox-door.mjs). By AI agents, Wed Nov 11 2026. No macro, syntax, notation, axiom, sorry.
-/
import Derived.Test.YtceeooppejjliaaGreatDoorRows
import GoSem.ClaimSeven
namespace Go.Proofs.YtceeooppejjliaaGreatDoor
namespace Rows

/-- THE TIED CARD OF 'antecedelaw37.ConjunctiveSpans'. -/
def conjunctiveSpansCard : Claim7 := { stood := { row := conjunctiveSpansRow, standIns := [], harness := (true, "6038c8df7a1bee4c25dbb94819ddb69b10a03d6fd6d905fe2de43251a1f7a7bf"), looks := false }, kinds := [], alts := [], laidByText := true, laidKinds := [.data], laidTests := true, laidLooks := .later }
def ConjunctiveSpansCardSaid : Prop := Claim7.holds Tryz.pinned (.plain (OpenSpec.ofChange conjunctiveSpansSpec)) conjunctiveSpansCard

/-- THE TIED CARD OF 'antecedelaw37.ConjunctiveLists'. -/
def conjunctiveListsCard : Claim7 := { stood := { row := conjunctiveListsRow, standIns := [], harness := (true, "6038c8df7a1bee4c25dbb94819ddb69b10a03d6fd6d905fe2de43251a1f7a7bf"), looks := false }, kinds := [], alts := [], laidByText := true, laidKinds := [.data], laidTests := true, laidLooks := .later }
def ConjunctiveListsCardSaid : Prop := Claim7.holds Tryz.pinned (.plain (OpenSpec.ofChange conjunctiveListsSpec)) conjunctiveListsCard

/-- THE TIED CARD OF 'antecedelaw37.ConjunctiveProves'. -/
def conjunctiveProvesCard : Claim7 := { stood := { row := conjunctiveProvesRow, standIns := [], harness := (true, "6038c8df7a1bee4c25dbb94819ddb69b10a03d6fd6d905fe2de43251a1f7a7bf"), looks := false }, kinds := [], alts := [], laidByText := true, laidKinds := [.data], laidTests := true, laidLooks := .later }
def ConjunctiveProvesCardSaid : Prop := Claim7.holds Tryz.pinned (.plain (OpenSpec.ofChange conjunctiveProvesSpec)) conjunctiveProvesCard

/-- THE TIED CARD OF 'antecedelaw37.ConjunctiveFinds'. -/
def conjunctiveFindsCard : Claim7 := { stood := { row := conjunctiveFindsRow, standIns := [], harness := (true, "6038c8df7a1bee4c25dbb94819ddb69b10a03d6fd6d905fe2de43251a1f7a7bf"), looks := false }, kinds := [], alts := [], laidByText := true, laidKinds := [.data], laidTests := true, laidLooks := .later }
def ConjunctiveFindsCardSaid : Prop := Claim7.holds Tryz.pinned (.plain (OpenSpec.ofChange conjunctiveFindsSpec)) conjunctiveFindsCard

/-- THE TIED CARD OF 'antecedelaw37.ConjunctiveSame'. -/
def conjunctiveSameCard : Claim7 := { stood := { row := conjunctiveSameRow, standIns := [], harness := (true, "6038c8df7a1bee4c25dbb94819ddb69b10a03d6fd6d905fe2de43251a1f7a7bf"), looks := false }, kinds := [], alts := [], laidByText := true, laidKinds := [.data], laidTests := true, laidLooks := .later }
def ConjunctiveSameCardSaid : Prop := Claim7.holds Tryz.pinned (.plain (OpenSpec.ofChange conjunctiveSameSpec)) conjunctiveSameCard

/-- THE TIED CARD OF 'antecedelaw49.PruneDetects'. -/
def pruneDetectsCard : Claim7 := { stood := { row := pruneDetectsRow, standIns := [], harness := (true, "6038c8df7a1bee4c25dbb94819ddb69b10a03d6fd6d905fe2de43251a1f7a7bf"), looks := false }, kinds := [], alts := [], laidByText := true, laidKinds := [.data], laidTests := true, laidLooks := .later }
def PruneDetectsCardSaid : Prop := Claim7.holds Tryz.pinned (.plain (OpenSpec.ofChange pruneDetectsSpec)) pruneDetectsCard

/-- THE TIED CARD OF 'antecedelaw49.PruneSafe'. -/
def pruneSafeCard : Claim7 := { stood := { row := pruneSafeRow, standIns := [], harness := (true, "6038c8df7a1bee4c25dbb94819ddb69b10a03d6fd6d905fe2de43251a1f7a7bf"), looks := false }, kinds := [], alts := [], laidByText := true, laidKinds := [.data], laidTests := true, laidLooks := .later }
def PruneSafeCardSaid : Prop := Claim7.holds Tryz.pinned (.plain (OpenSpec.ofChange pruneSafeSpec)) pruneSafeCard

/-- THE TIED CARD OF 'antecedelaw37.ConjunctiveLattice'. -/
def conjunctiveLatticeCard : Claim7 := { stood := { row := conjunctiveLatticeRow, standIns := [], harness := (true, "6038c8df7a1bee4c25dbb94819ddb69b10a03d6fd6d905fe2de43251a1f7a7bf"), looks := false }, kinds := [], alts := [], laidByText := true, laidKinds := [.data], laidTests := true, laidLooks := .later }
def ConjunctiveLatticeCardSaid : Prop := Claim7.holds Tryz.pinned (.plain (OpenSpec.ofChange conjunctiveLatticeSpec)) conjunctiveLatticeCard

/-- THE SECOND FORM's CARD OF 'antecedelaw37.ConjunctiveSpans'. -/
def conjunctiveSpansUptoCard : Claim7 := { stood := { row := conjunctiveSpansUptoRow, standIns := [], harness := (true, "6038c8df7a1bee4c25dbb94819ddb69b10a03d6fd6d905fe2de43251a1f7a7bf"), looks := false }, kinds := [], alts := [], laidByText := true, laidKinds := [.data], laidTests := true, laidLooks := .later }
def ConjunctiveSpansUptoCardSaid : Prop := Claim7.holds Tryz.pinned (.plain (OpenSpec.upto conjunctiveSpansSpec)) conjunctiveSpansUptoCard

/-- THE SECOND FORM's CARD OF 'antecedelaw37.ConjunctiveLists'. -/
def conjunctiveListsUptoCard : Claim7 := { stood := { row := conjunctiveListsUptoRow, standIns := [], harness := (true, "6038c8df7a1bee4c25dbb94819ddb69b10a03d6fd6d905fe2de43251a1f7a7bf"), looks := false }, kinds := [], alts := [], laidByText := true, laidKinds := [.data], laidTests := true, laidLooks := .later }
def ConjunctiveListsUptoCardSaid : Prop := Claim7.holds Tryz.pinned (.plain (OpenSpec.upto conjunctiveListsSpec)) conjunctiveListsUptoCard

/-- THE SECOND FORM's CARD OF 'antecedelaw37.ConjunctiveProves'. -/
def conjunctiveProvesUptoCard : Claim7 := { stood := { row := conjunctiveProvesUptoRow, standIns := [], harness := (true, "6038c8df7a1bee4c25dbb94819ddb69b10a03d6fd6d905fe2de43251a1f7a7bf"), looks := false }, kinds := [], alts := [], laidByText := true, laidKinds := [.data], laidTests := true, laidLooks := .later }
def ConjunctiveProvesUptoCardSaid : Prop := Claim7.holds Tryz.pinned (.plain (OpenSpec.upto conjunctiveProvesSpec)) conjunctiveProvesUptoCard

/-- THE SECOND FORM's CARD OF 'antecedelaw37.ConjunctiveFinds'. -/
def conjunctiveFindsUptoCard : Claim7 := { stood := { row := conjunctiveFindsUptoRow, standIns := [], harness := (true, "6038c8df7a1bee4c25dbb94819ddb69b10a03d6fd6d905fe2de43251a1f7a7bf"), looks := false }, kinds := [], alts := [], laidByText := true, laidKinds := [.data], laidTests := true, laidLooks := .later }
def ConjunctiveFindsUptoCardSaid : Prop := Claim7.holds Tryz.pinned (.plain (OpenSpec.upto conjunctiveFindsSpec)) conjunctiveFindsUptoCard

/-- THE SECOND FORM's CARD OF 'antecedelaw37.ConjunctiveSame'. -/
def conjunctiveSameUptoCard : Claim7 := { stood := { row := conjunctiveSameUptoRow, standIns := [], harness := (true, "6038c8df7a1bee4c25dbb94819ddb69b10a03d6fd6d905fe2de43251a1f7a7bf"), looks := false }, kinds := [], alts := [], laidByText := true, laidKinds := [.data], laidTests := true, laidLooks := .later }
def ConjunctiveSameUptoCardSaid : Prop := Claim7.holds Tryz.pinned (.plain (OpenSpec.upto conjunctiveSameSpec)) conjunctiveSameUptoCard

/-- THE SECOND FORM's CARD OF 'antecedelaw49.PruneDetects'. -/
def pruneDetectsUptoCard : Claim7 := { stood := { row := pruneDetectsUptoRow, standIns := [], harness := (true, "6038c8df7a1bee4c25dbb94819ddb69b10a03d6fd6d905fe2de43251a1f7a7bf"), looks := false }, kinds := [], alts := [], laidByText := true, laidKinds := [.data], laidTests := true, laidLooks := .later }
def PruneDetectsUptoCardSaid : Prop := Claim7.holds Tryz.pinned (.plain (OpenSpec.upto pruneDetectsSpec)) pruneDetectsUptoCard

/-- THE SECOND FORM's CARD OF 'antecedelaw49.PruneSafe'. -/
def pruneSafeUptoCard : Claim7 := { stood := { row := pruneSafeUptoRow, standIns := [], harness := (true, "6038c8df7a1bee4c25dbb94819ddb69b10a03d6fd6d905fe2de43251a1f7a7bf"), looks := false }, kinds := [], alts := [], laidByText := true, laidKinds := [.data], laidTests := true, laidLooks := .later }
def PruneSafeUptoCardSaid : Prop := Claim7.holds Tryz.pinned (.plain (OpenSpec.upto pruneSafeSpec)) pruneSafeUptoCard

/-- THE SECOND FORM's CARD OF 'antecedelaw37.ConjunctiveLattice'. -/
def conjunctiveLatticeUptoCard : Claim7 := { stood := { row := conjunctiveLatticeUptoRow, standIns := [], harness := (true, "6038c8df7a1bee4c25dbb94819ddb69b10a03d6fd6d905fe2de43251a1f7a7bf"), looks := false }, kinds := [], alts := [], laidByText := true, laidKinds := [.data], laidTests := true, laidLooks := .later }
def ConjunctiveLatticeUptoCardSaid : Prop := Claim7.holds Tryz.pinned (.plain (OpenSpec.upto conjunctiveLatticeSpec)) conjunctiveLatticeUptoCard
end Rows
end Go.Proofs.YtceeooppejjliaaGreatDoor
