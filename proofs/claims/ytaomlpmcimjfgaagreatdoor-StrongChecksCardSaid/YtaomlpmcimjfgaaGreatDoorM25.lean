/- Texts of this claim's proof: WRt, WRt7, WRt2, WRt3. No condition. -/
import Derived.Test.YtaomlpmcimjfgaaGreatDoorM10
import Derived.Test.YtaomlpmcimjfgaaGreatDoorM4
import Derived.Test.YtaomlpmcimjfgaaGreatDoorM8
import Derived.Test.YtaomlpmcimjfgaaGreatDoorM13
section
namespace Go.AL
open Go Go.RowKit
set_option maxRecDepth 100000
section
variable {H:Type} {enc:TypeId × Value→H} {W:World}
theorem rdInts:Rd enc Proofs.Tryz.prog W 29 1 aInts (fun l=>l.length≤maxLen) :=
 (Rd.slice Proofs.Tryz.underlying29 (by kernel_rfl:Program.cellsOf Proofs.Tryz.prog 3=1) (by decide) (Rd.int Proofs.Tryz.underlying3)).map id (fun _=>rfl) (fun _ h=>h.1)
theorem rdRows:Rd enc Proofs.Tryz.prog W 30 1 aRows (fun l=>l.length≤maxLen) :=
 (Rd.slice Proofs.Tryz.underlying30 (by kernel_rfl:Program.cellsOf Proofs.Tryz.prog 29=1) (by decide) rdInts).map id (fun _=>rfl) (fun _ h=>h.1)
theorem rdAsg:Rd enc Proofs.Tryz.prog W 120 2 aAsg (fun _=>True) :=
 (Rd.struct (ts:=[3,3]) Proofs.Tryz.underlying120 rfl rfl (by kernel_rfl) (by kernel_rfl)
  (.cons (Rd.int Proofs.Tryz.underlying3) (fun _=>⟨rfl,rfl⟩) (.cons (Rd.int Proofs.Tryz.underlying3) (fun _=>⟨rfl,rfl⟩) .nil))).map (fun (y:Int × Int × Unit)=>(y.1,y.2.1)) (fun _=>rfl) (fun _ _=>trivial)
theorem rdAsgs:Rd enc Proofs.Tryz.prog W 68 1 aAsgs (fun _=>True) :=
 (Rd.slice Proofs.Tryz.underlying68 (by kernel_rfl:Program.cellsOf Proofs.Tryz.prog 120=2) (by decide) rdAsg).map id (fun _=>rfl) (fun _ _=>trivial)
theorem rdVar:Rd enc Proofs.Tryz.prog W 74 2 aVar (fun _=>True) :=
 (Rd.struct (ts:=[9,3]) Proofs.Tryz.underlying74 rfl rfl (by kernel_rfl) (by kernel_rfl)
  (.cons (Rd.str Proofs.Tryz.underlying9) (fun _=>⟨rfl,rfl⟩) (.cons (Rd.int Proofs.Tryz.underlying3) (fun _=>⟨rfl,rfl⟩) .nil))).map (fun (y:ByteArray × Int × Unit)=>(y.1,y.2.1)) (fun _=>rfl) (fun _ _=>trivial)
theorem rdVars:Rd enc Proofs.Tryz.prog W 63 1 aVars (fun _=>True) :=
 (Rd.slice Proofs.Tryz.underlying63 (by kernel_rfl:Program.cellsOf Proofs.Tryz.prog 74=2) (by decide) rdVar).map id (fun _=>rfl) (fun _ _=>trivial)
theorem rdEv:Rd enc Proofs.Tryz.prog W 70 5 aEv (fun _=>True) :=
 (Rd.struct (ts:=[3,3,3,3,68]) Proofs.Tryz.underlying70 rfl rfl (by kernel_rfl) (by kernel_rfl)
  (.cons (Rd.int Proofs.Tryz.underlying3) (fun _=>⟨rfl,rfl⟩) (.cons (Rd.int Proofs.Tryz.underlying3) (fun _=>⟨rfl,rfl⟩) (.cons (Rd.int Proofs.Tryz.underlying3) (fun _=>⟨rfl,rfl⟩)
   (.cons (Rd.int Proofs.Tryz.underlying3) (fun _=>⟨rfl,rfl⟩) (.cons rdAsgs (fun _=>⟨rfl,rfl⟩) .nil)))))).map (fun (y:Int × Int × Int × Int × List (Int × Int) × Unit)=>⟨y.1,y.2.1,y.2.2.1,y.2.2.2.1,y.2.2.2.2.1⟩) (fun _=>rfl) (fun _ _=>trivial)
end
end Go.AL
end
section
namespace Go.AL
open Go Go.RowKit
set_option maxRecDepth 100000
section
variable {H:Type} {enc:TypeId × Value→H} {W:World}
theorem rdEvsM:Rd enc Proofs.Tryz.prog W 64 1 aEvs (fun l=>l.length≤maxLen) :=
 (Rd.slice Proofs.Tryz.underlying64 (by kernel_rfl:Program.cellsOf Proofs.Tryz.prog 70=5) (by decide) rdEv).map id (fun _=>rfl) (fun _ h=>h.1)
theorem rdPrM:Rd enc Proofs.Tryz.prog W 66 3 aPr (fun p=>p.evs.length≤maxLen) :=
 (Rd.struct (ts:=[9,63,64]) Proofs.Tryz.underlying66 rfl rfl (by kernel_rfl) (by kernel_rfl)
  (.cons (Rd.str Proofs.Tryz.underlying9) (fun _=>⟨rfl,rfl⟩) (.cons rdVars (fun _=>⟨rfl,rfl⟩) (.cons rdEvsM (fun _=>⟨rfl,rfl⟩) .nil)))).map (fun (y:ByteArray × List (ByteArray × Int) × List Ev × Unit)=>⟨y.1,y.2.1,y.2.2.1⟩) (fun _=>rfl) (fun _ h=>h.2.2.1)
theorem rdPrsM:Rd enc Proofs.Tryz.prog W 22 1 aPrs (fun l=>l.length≤maxLen∧∀p ∈ l,p.evs.length≤9223372036854775807) :=
 (Rd.slice Proofs.Tryz.underlying22 (by kernel_rfl:Program.cellsOf Proofs.Tryz.prog 66=3) (by decide) rdPrM).map id (fun _=>rfl) (fun _ h=>h)
theorem rdTrM:Rd enc Proofs.Tryz.prog W 24 1 aTr (fun l=>l.length≤maxLen∧∀p ∈ l,p.evs.length≤9223372036854775807) :=
 (Rd.struct (ts:=[22]) Proofs.Tryz.underlying24 rfl rfl (by kernel_rfl) (by kernel_rfl) (.cons rdPrsM (fun _=>⟨rfl,rfl⟩) .nil)).map (fun (y:List Pr × Unit)=>y.1) (fun _=>rfl) (fun _ h=>h.1)
end
end Go.AL
end
section
namespace Go.AL
open Go Go.RowKit
set_option maxRecDepth 100000
def aPdC:Pd→List AV | .mk k n p q s l=>[ai k,ai n,ai p,ai q,astr s,.sl 6 (l.map aPd)]
section
variable {H:Type} {enc:TypeId × Value→H} {W:World}
theorem rdPredN:∀N,RdF enc Proofs.Tryz.prog W N 61 6 aPd (fun _=>True)
 | 0 => .zero
 | N+1 =>
  (RdF.struct (ts:=[3,3,3,3,9,25]) Proofs.Tryz.underlying61 rfl rfl (by kernel_rfl) (by kernel_rfl)
   (.cons ((Rd.int Proofs.Tryz.underlying3).bounded N) (fun _=>⟨rfl,rfl⟩) (.cons ((Rd.int Proofs.Tryz.underlying3).bounded N) (fun _=>⟨rfl,rfl⟩) (.cons ((Rd.int Proofs.Tryz.underlying3).bounded N) (fun _=>⟨rfl,rfl⟩)
    (.cons ((Rd.int Proofs.Tryz.underlying3).bounded N) (fun _=>⟨rfl,rfl⟩) (.cons ((Rd.str Proofs.Tryz.underlying9).bounded N) (fun _=>⟨rfl,rfl⟩)
     (.cons ((RdF.slice Proofs.Tryz.underlying25 (by kernel_rfl:Program.cellsOf Proofs.Tryz.prog 61=6) (by decide) (rdPredN N)).mono (Nat.le_succ N)) (fun _=>⟨rfl,rfl⟩) .nil))))))).map
   (fun (y:Int × Int × Int × Int × ByteArray × List Pd × Unit)=>Pd.mk y.1 y.2.1 y.2.2.1 y.2.2.2.1 y.2.2.2.2.1 y.2.2.2.2.2.1) (fun _=>(aPd_mk _ _ _ _ _ _).symm) (fun _ _=>trivial)
theorem rdPreds:Rd enc Proofs.Tryz.prog W 25 1 (fun l:List Pd => .sl 6 (l.map aPd)) (fun l=>l.length≤maxLen) :=
 (Rd.slice Proofs.Tryz.underlying25 (by kernel_rfl:Program.cellsOf Proofs.Tryz.prog 61=6) (by decide) (RdF.all rdPredN)).map id (fun _=>rfl) (fun _ h=>h.1)
end
end Go.AL
end
section
namespace Go.AL
open Go Go.RowKit
set_option maxRecDepth 100000
section
variable {H:Type} {enc:TypeId × Value→H} {W:World}
theorem Rd.bool {P:Program} {t:TypeId} (ht:P.underlying t=some .bool):Rd enc P W t 1 ab (fun _=>True):=by
 intro fuel cs x h
 obtain⟨n,rfl,_⟩:=DataW.trod_bool ht h
 refine⟨n,trivial,⟨rfl,rfl⟩,rfl,fun i c u h1 h2 => ?_⟩
 cases i with
 | zero=>cases h1;cases h2;exact .v _
 | succ i=>cases h2
theorem rdSpan:Rd enc Proofs.Tryz.prog W 57 3 aSp (fun _=>True) :=
 (Rd.struct (ts:=[3,3,3]) Proofs.Tryz.underlying57 rfl rfl (by kernel_rfl) (by kernel_rfl)
  (.cons (Rd.int Proofs.Tryz.underlying3) (fun _=>⟨rfl,rfl⟩) (.cons (Rd.int Proofs.Tryz.underlying3) (fun _=>⟨rfl,rfl⟩) (.cons (Rd.int Proofs.Tryz.underlying3) (fun _=>⟨rfl,rfl⟩) .nil)))).map (fun (y:Int × Int × Int × Unit)=>(y.1,y.2.1,y.2.2.1)) (fun _=>rfl) (fun _ _=>trivial)
theorem rdSpans:Rd enc Proofs.Tryz.prog W 31 1 aSps (fun _=>True) :=
 (Rd.slice Proofs.Tryz.underlying31 (by kernel_rfl:Program.cellsOf Proofs.Tryz.prog 57=3) (by decide) rdSpan).map id (fun _=>rfl) (fun _ _=>trivial)
theorem rdAns:Rd enc Proofs.Tryz.prog W 33 8 aAns (fun _=>True) :=
 (Rd.struct (ts:=[3,4,3,29,30,30,31,3]) Proofs.Tryz.underlying33 rfl rfl (by kernel_rfl) (by kernel_rfl)
  (.cons (Rd.int Proofs.Tryz.underlying3) (fun _=>⟨rfl,rfl⟩) (.cons (Rd.bool Proofs.Tryz.underlying4) (fun _=>⟨rfl,rfl⟩) (.cons (Rd.int Proofs.Tryz.underlying3) (fun _=>⟨rfl,rfl⟩)
   (.cons rdInts (fun _=>⟨rfl,rfl⟩) (.cons rdRows (fun _=>⟨rfl,rfl⟩) (.cons rdRows (fun _=>⟨rfl,rfl⟩) (.cons rdSpans (fun _=>⟨rfl,rfl⟩) (.cons (Rd.int Proofs.Tryz.underlying3) (fun _=>⟨rfl,rfl⟩) .nil))))))))).map
  (fun (y:Int × Bool × Int × List Int × List (List Int) × List (List Int) × List (Int × Int × Int) × Int × Unit)=>⟨y.1,y.2.1,y.2.2.1,y.2.2.2.1,y.2.2.2.2.1,y.2.2.2.2.2.1,y.2.2.2.2.2.2.1,y.2.2.2.2.2.2.2.1⟩) (fun _=>rfl) (fun _ _=>trivial)
end
end Go.AL
end
