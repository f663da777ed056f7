/-
  DERIVED. GIVEN WITH THE SEED: THE CARDS: each row of YtkfkdmefabefkaaGreatDoorRows.lean that lists a variable, with what it lists TIED to the program's text (the seventh form; the later family's looks); each row that meets fmt, with fmt's text TOLD by the authors' own Lean function (tested against real Go, not proved from fmt's source: count such statements apart). THE CARD IS WHAT COUNTS. Prove the row's statement (the work); the ties are given (YtkfkdmefabefkaaGreatDoorTie.lean); close each card by the builder's one call (the guide's Derived/Test/ToyasCard.lean, 'card_holds'). Laid BY PROGRAM, IN A SANDBOX (cutbox-door.mjs). By AI agents, Wed Nov 11 2026. No macro, syntax, notation, axiom, sorry.
-/
import Derived.Test.YtkfkdmefabefkaaGreatDoorRows
import GoSem.ClaimSeven
namespace Go.Proofs.YtkfkdmefabefkaaGreatDoor
namespace Rows

/-- THE TIED CARD OF 'antecedelaw49.PruneDrops'. -/
def pruneDropsCard : Claim7 := { stood := { row := pruneDropsRow, standIns := [], harness := (true, "4429981ac2d2ae38b6325314c9ee21fbb539ce69bb6a8df3041e3bd69c9bbdb7"), looks := false }, kinds := [], alts := [], laidByText := true, laidKinds := [.data], laidTests := true, laidLooks := .later }
def PruneDropsCardSaid : Prop := Claim7.holds Tryz.pinned (.plain (OpenSpec.ofChange pruneDropsSpec)) pruneDropsCard

/-- THE TIED CARD OF 'antecedelaw49.PruneTruths'. -/
def pruneTruthsCard : Claim7 := { stood := { row := pruneTruthsRow, standIns := [], harness := (true, "4429981ac2d2ae38b6325314c9ee21fbb539ce69bb6a8df3041e3bd69c9bbdb7"), looks := false }, kinds := [], alts := [], laidByText := true, laidKinds := [.data], laidTests := true, laidLooks := .later }
def PruneTruthsCardSaid : Prop := Claim7.holds Tryz.pinned (.plain (OpenSpec.ofChange pruneTruthsSpec)) pruneTruthsCard

/-- THE TIED CARD OF 'antecedelaw49.PruneDetects'. -/
def pruneDetectsCard : Claim7 := { stood := { row := pruneDetectsRow, standIns := [], harness := (true, "4429981ac2d2ae38b6325314c9ee21fbb539ce69bb6a8df3041e3bd69c9bbdb7"), looks := false }, kinds := [], alts := [], laidByText := true, laidKinds := [.data], laidTests := true, laidLooks := .later }
def PruneDetectsCardSaid : Prop := Claim7.holds Tryz.pinned (.plain (OpenSpec.ofChange pruneDetectsSpec)) pruneDetectsCard

/-- THE TIED CARD OF 'antecedelaw49.PruneSafe'. -/
def pruneSafeCard : Claim7 := { stood := { row := pruneSafeRow, standIns := [], harness := (true, "4429981ac2d2ae38b6325314c9ee21fbb539ce69bb6a8df3041e3bd69c9bbdb7"), looks := false }, kinds := [], alts := [], laidByText := true, laidKinds := [.data], laidTests := true, laidLooks := .later }
def PruneSafeCardSaid : Prop := Claim7.holds Tryz.pinned (.plain (OpenSpec.ofChange pruneSafeSpec)) pruneSafeCard

/-- THE SECOND FORM's CARD OF 'antecedelaw49.PruneDrops'. -/
def pruneDropsUptoCard : Claim7 := { stood := { row := pruneDropsUptoRow, standIns := [], harness := (true, "4429981ac2d2ae38b6325314c9ee21fbb539ce69bb6a8df3041e3bd69c9bbdb7"), looks := false }, kinds := [], alts := [], laidByText := true, laidKinds := [.data], laidTests := true, laidLooks := .later }
def PruneDropsUptoCardSaid : Prop := Claim7.holds Tryz.pinned (.plain (OpenSpec.upto pruneDropsSpec)) pruneDropsUptoCard

/-- THE SECOND FORM's CARD OF 'antecedelaw49.PruneTruths'. -/
def pruneTruthsUptoCard : Claim7 := { stood := { row := pruneTruthsUptoRow, standIns := [], harness := (true, "4429981ac2d2ae38b6325314c9ee21fbb539ce69bb6a8df3041e3bd69c9bbdb7"), looks := false }, kinds := [], alts := [], laidByText := true, laidKinds := [.data], laidTests := true, laidLooks := .later }
def PruneTruthsUptoCardSaid : Prop := Claim7.holds Tryz.pinned (.plain (OpenSpec.upto pruneTruthsSpec)) pruneTruthsUptoCard

/-- THE SECOND FORM's CARD OF 'antecedelaw49.PruneDetects'. -/
def pruneDetectsUptoCard : Claim7 := { stood := { row := pruneDetectsUptoRow, standIns := [], harness := (true, "4429981ac2d2ae38b6325314c9ee21fbb539ce69bb6a8df3041e3bd69c9bbdb7"), looks := false }, kinds := [], alts := [], laidByText := true, laidKinds := [.data], laidTests := true, laidLooks := .later }
def PruneDetectsUptoCardSaid : Prop := Claim7.holds Tryz.pinned (.plain (OpenSpec.upto pruneDetectsSpec)) pruneDetectsUptoCard

/-- THE SECOND FORM's CARD OF 'antecedelaw49.PruneSafe'. -/
def pruneSafeUptoCard : Claim7 := { stood := { row := pruneSafeUptoRow, standIns := [], harness := (true, "4429981ac2d2ae38b6325314c9ee21fbb539ce69bb6a8df3041e3bd69c9bbdb7"), looks := false }, kinds := [], alts := [], laidByText := true, laidKinds := [.data], laidTests := true, laidLooks := .later }
def PruneSafeUptoCardSaid : Prop := Claim7.holds Tryz.pinned (.plain (OpenSpec.upto pruneSafeSpec)) pruneSafeUptoCard
end Rows
end Go.Proofs.YtkfkdmefabefkaaGreatDoor
