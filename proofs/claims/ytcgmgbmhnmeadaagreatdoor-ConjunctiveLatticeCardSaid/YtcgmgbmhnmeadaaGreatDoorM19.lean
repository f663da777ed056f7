/- Texts of this claim's proof: WRt, WRt2. No condition. -/
import Derived.Test.YtcgmgbmhnmeadaaGreatDoorM12
import Derived.Test.YtcgmgbmhnmeadaaGreatDoorM4
import Derived.Test.YtcgmgbmhnmeadaaGreatDoorM7
section
namespace Go.AL
open Go Go.RowKit
set_option maxRecDepth 100000
section
variable {H:Type} {enc:TypeId × Value→H} {W:World}
theorem rdAsg:Rd enc Proofs.Tryz.prog W 86 2 aAsg (fun _=>True) :=
 (Rd.struct (ts:=[3,3]) Proofs.Tryz.underlying86 rfl rfl (by kernel_rfl) (by kernel_rfl)
  (.cons (Rd.int Proofs.Tryz.underlying3) (fun _=>⟨rfl,rfl⟩) (.cons (Rd.int Proofs.Tryz.underlying3) (fun _=>⟨rfl,rfl⟩) .nil))).map (fun (y:Int × Int × Unit)=>(y.1,y.2.1)) (fun _=>rfl) (fun _ _=>trivial)
theorem rdAsgs:Rd enc Proofs.Tryz.prog W 61 1 aAsgs (fun _=>True) :=
 (Rd.slice Proofs.Tryz.underlying61 (by kernel_rfl:Program.cellsOf Proofs.Tryz.prog 86=2) (by decide) rdAsg).map id (fun _=>rfl) (fun _ _=>trivial)
theorem rdVar:Rd enc Proofs.Tryz.prog W 89 2 aVar (fun _=>True) :=
 (Rd.struct (ts:=[9,3]) Proofs.Tryz.underlying89 rfl rfl (by kernel_rfl) (by kernel_rfl)
  (.cons (Rd.str Proofs.Tryz.underlying9) (fun _=>⟨rfl,rfl⟩) (.cons (Rd.int Proofs.Tryz.underlying3) (fun _=>⟨rfl,rfl⟩) .nil))).map (fun (y:ByteArray × Int × Unit)=>(y.1,y.2.1)) (fun _=>rfl) (fun _ _=>trivial)
theorem rdVars:Rd enc Proofs.Tryz.prog W 56 1 aVars (fun _=>True) :=
 (Rd.slice Proofs.Tryz.underlying56 (by kernel_rfl:Program.cellsOf Proofs.Tryz.prog 89=2) (by decide) rdVar).map id (fun _=>rfl) (fun _ _=>trivial)
theorem rdEv:Rd enc Proofs.Tryz.prog W 63 5 aEv (fun _=>True) :=
 (Rd.struct (ts:=[3,3,3,3,61]) Proofs.Tryz.underlying63 rfl rfl (by kernel_rfl) (by kernel_rfl)
  (.cons (Rd.int Proofs.Tryz.underlying3) (fun _=>⟨rfl,rfl⟩) (.cons (Rd.int Proofs.Tryz.underlying3) (fun _=>⟨rfl,rfl⟩) (.cons (Rd.int Proofs.Tryz.underlying3) (fun _=>⟨rfl,rfl⟩)
   (.cons (Rd.int Proofs.Tryz.underlying3) (fun _=>⟨rfl,rfl⟩) (.cons rdAsgs (fun _=>⟨rfl,rfl⟩) .nil)))))).map (fun (y:Int × Int × Int × Int × List (Int × Int) × Unit)=>⟨y.1,y.2.1,y.2.2.1,y.2.2.2.1,y.2.2.2.2.1⟩) (fun _=>rfl) (fun _ _=>trivial)
theorem rdEvs:Rd enc Proofs.Tryz.prog W 57 1 aEvs (fun _=>True) :=
 (Rd.slice Proofs.Tryz.underlying57 (by kernel_rfl:Program.cellsOf Proofs.Tryz.prog 63=5) (by decide) rdEv).map id (fun _=>rfl) (fun _ _=>trivial)
theorem rdPr:Rd enc Proofs.Tryz.prog W 59 3 aPr (fun _=>True) :=
 (Rd.struct (ts:=[9,56,57]) Proofs.Tryz.underlying59 rfl rfl (by kernel_rfl) (by kernel_rfl)
  (.cons (Rd.str Proofs.Tryz.underlying9) (fun _=>⟨rfl,rfl⟩) (.cons rdVars (fun _=>⟨rfl,rfl⟩) (.cons rdEvs (fun _=>⟨rfl,rfl⟩) .nil)))).map (fun (y:ByteArray × List (ByteArray × Int) × List Ev × Unit)=>⟨y.1,y.2.1,y.2.2.1⟩) (fun _=>rfl) (fun _ _=>trivial)
theorem rdPrs:Rd enc Proofs.Tryz.prog W 22 1 aPrs (fun _=>True) :=
 (Rd.slice Proofs.Tryz.underlying22 (by kernel_rfl:Program.cellsOf Proofs.Tryz.prog 59=3) (by decide) rdPr).map id (fun _=>rfl) (fun _ _=>trivial)
theorem rdTr:Rd enc Proofs.Tryz.prog W 24 1 aTr (fun _=>True) :=
 (Rd.struct (ts:=[22]) Proofs.Tryz.underlying24 rfl rfl (by kernel_rfl) (by kernel_rfl) (.cons rdPrs (fun _=>⟨rfl,rfl⟩) .nil)).map (fun (y:List Pr × Unit)=>y.1) (fun _=>rfl) (fun _ _=>trivial)
end
end Go.AL
end
section
namespace Go.AL
open Go Go.RowKit
set_option maxRecDepth 100000
section
variable {H:Type} {enc:TypeId × Value→H} {W:World}
theorem rdPredN:∀N,RdF enc Proofs.Tryz.prog W N 44 6 aPd (fun _=>True)
 | 0 => .zero
 | N+1 =>
  (RdF.struct (ts:=[3,3,3,3,9,25]) Proofs.Tryz.underlying44 rfl rfl (by kernel_rfl) (by kernel_rfl)
   (.cons ((Rd.int Proofs.Tryz.underlying3).bounded N) (fun _=>⟨rfl,rfl⟩) (.cons ((Rd.int Proofs.Tryz.underlying3).bounded N) (fun _=>⟨rfl,rfl⟩) (.cons ((Rd.int Proofs.Tryz.underlying3).bounded N) (fun _=>⟨rfl,rfl⟩)
    (.cons ((Rd.int Proofs.Tryz.underlying3).bounded N) (fun _=>⟨rfl,rfl⟩) (.cons ((Rd.str Proofs.Tryz.underlying9).bounded N) (fun _=>⟨rfl,rfl⟩)
     (.cons ((RdF.slice Proofs.Tryz.underlying25 (by kernel_rfl:Program.cellsOf Proofs.Tryz.prog 44=6) (by decide) (rdPredN N)).mono (Nat.le_succ N)) (fun _=>⟨rfl,rfl⟩) .nil))))))).map
   (fun (y:Int × Int × Int × Int × ByteArray × List Pd × Unit)=>Pd.mk y.1 y.2.1 y.2.2.1 y.2.2.2.1 y.2.2.2.2.1 y.2.2.2.2.2.1) (fun _=>(aPd_mk _ _ _ _ _ _).symm) (fun _ _=>trivial)
theorem rdPreds:Rd enc Proofs.Tryz.prog W 25 1 (fun l:List Pd => .sl 6 (l.map aPd)) (fun l=>l.length≤maxLen) :=
 (Rd.slice Proofs.Tryz.underlying25 (by kernel_rfl:Program.cellsOf Proofs.Tryz.prog 44=6) (by decide) (RdF.all rdPredN)).map id (fun _=>rfl) (fun _ h=>h.1)
end
end Go.AL
end
