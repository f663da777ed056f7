/- What is read of arguments that are traces or lists. No condition. -/
import Derived.Test.YtkfkdmefabefkaaAlBr2
import Derived.Test.YtkfkdmefabefkaaWDt
namespace Go.AL
open Go Go.RowKit
set_option maxRecDepth 100000
section
variable {H : Type} {enc : TypeId × Value → H} {W : World}
theorem rdInts : Rd enc Go.Proofs.Try.prog W 25 1 aInts (fun l => l.length ≤ maxLen) :=
  (Rd.slice Go.Proofs.Try.underlying25 (by kernel_rfl : Program.cellsOf Go.Proofs.Try.prog 3 = 1) (by decide) (Rd.int Go.Proofs.Try.underlying3)).map id (fun _ => rfl) (fun _ h => h.1)
theorem rdAsg : Rd enc Go.Proofs.Try.prog W 75 2 aAsg (fun _ => True) :=
  (Rd.struct (ts := [3, 3]) Go.Proofs.Try.underlying75 rfl rfl (by kernel_rfl) (by kernel_rfl)
    (.cons (Rd.int Go.Proofs.Try.underlying3) (fun _ => ⟨rfl, rfl⟩) (.cons (Rd.int Go.Proofs.Try.underlying3) (fun _ => ⟨rfl, rfl⟩) .nil))).map (fun (y : Int × Int × Unit) => (y.1, y.2.1)) (fun _ => rfl) (fun _ _ => trivial)
theorem rdAsgs : Rd enc Go.Proofs.Try.prog W 46 1 aAsgs (fun _ => True) :=
  (Rd.slice Go.Proofs.Try.underlying46 (by kernel_rfl : Program.cellsOf Go.Proofs.Try.prog 75 = 2) (by decide) rdAsg).map id (fun _ => rfl) (fun _ _ => trivial)
theorem rdVar : Rd enc Go.Proofs.Try.prog W 72 2 aVar (fun _ => True) :=
  (Rd.struct (ts := [9, 3]) Go.Proofs.Try.underlying72 rfl rfl (by kernel_rfl) (by kernel_rfl)
    (.cons (Rd.str Go.Proofs.Try.underlying9) (fun _ => ⟨rfl, rfl⟩) (.cons (Rd.int Go.Proofs.Try.underlying3) (fun _ => ⟨rfl, rfl⟩) .nil))).map (fun (y : ByteArray × Int × Unit) => (y.1, y.2.1)) (fun _ => rfl) (fun _ _ => trivial)
theorem rdVars : Rd enc Go.Proofs.Try.prog W 50 1 aVars (fun _ => True) :=
  (Rd.slice Go.Proofs.Try.underlying50 (by kernel_rfl : Program.cellsOf Go.Proofs.Try.prog 72 = 2) (by decide) rdVar).map id (fun _ => rfl) (fun _ _ => trivial)
theorem rdEv : Rd enc Go.Proofs.Try.prog W 48 5 aEv (fun _ => True) :=
  (Rd.struct (ts := [3, 3, 3, 3, 46]) Go.Proofs.Try.underlying48 rfl rfl (by kernel_rfl) (by kernel_rfl)
    (.cons (Rd.int Go.Proofs.Try.underlying3) (fun _ => ⟨rfl, rfl⟩) (.cons (Rd.int Go.Proofs.Try.underlying3) (fun _ => ⟨rfl, rfl⟩) (.cons (Rd.int Go.Proofs.Try.underlying3) (fun _ => ⟨rfl, rfl⟩)
      (.cons (Rd.int Go.Proofs.Try.underlying3) (fun _ => ⟨rfl, rfl⟩) (.cons rdAsgs (fun _ => ⟨rfl, rfl⟩) .nil)))))).map (fun (y : Int × Int × Int × Int × List (Int × Int) × Unit) => ⟨y.1, y.2.1, y.2.2.1, y.2.2.2.1, y.2.2.2.2.1⟩) (fun _ => rfl) (fun _ _ => trivial)
theorem rdEvs : Rd enc Go.Proofs.Try.prog W 49 1 aEvs (fun _ => True) :=
  (Rd.slice Go.Proofs.Try.underlying49 (by kernel_rfl : Program.cellsOf Go.Proofs.Try.prog 48 = 5) (by decide) rdEv).map id (fun _ => rfl) (fun _ _ => trivial)
theorem rdPr : Rd enc Go.Proofs.Try.prog W 52 3 aPr (fun _ => True) :=
  (Rd.struct (ts := [9, 50, 49]) Go.Proofs.Try.underlying52 rfl rfl (by kernel_rfl) (by kernel_rfl)
    (.cons (Rd.str Go.Proofs.Try.underlying9) (fun _ => ⟨rfl, rfl⟩) (.cons rdVars (fun _ => ⟨rfl, rfl⟩) (.cons rdEvs (fun _ => ⟨rfl, rfl⟩) .nil)))).map (fun (y : ByteArray × List (ByteArray × Int) × List Ev × Unit) => ⟨y.1, y.2.1, y.2.2.1⟩) (fun _ => rfl) (fun _ _ => trivial)
theorem rdPrs : Rd enc Go.Proofs.Try.prog W 36 1 aPrs (fun _ => True) :=
  (Rd.slice Go.Proofs.Try.underlying36 (by kernel_rfl : Program.cellsOf Go.Proofs.Try.prog 52 = 3) (by decide) rdPr).map id (fun _ => rfl) (fun _ _ => trivial)
theorem rdTr : Rd enc Go.Proofs.Try.prog W 38 1 aTr (fun _ => True) :=
  (Rd.struct (ts := [36]) Go.Proofs.Try.underlying38 rfl rfl (by kernel_rfl) (by kernel_rfl) (.cons rdPrs (fun _ => ⟨rfl, rfl⟩) .nil)).map (fun (y : List Pr × Unit) => y.1) (fun _ => rfl) (fun _ _ => trivial)
end
end Go.AL
