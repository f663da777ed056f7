/- Texts of this claim's proof: WY38, WRt, WRt7, WRt2. No condition. -/
import Derived.Test.YtplamfpmmogbeaaGreatDoorM28
import Derived.Test.YtplamfpmmogbeaaGreatDoorM10
import Derived.Test.YtplamfpmmogbeaaGreatDoorM4
import Derived.Test.YtplamfpmmogbeaaGreatDoorM7
section
namespace Go.AL
open Go Go.RowKit
set_option maxRecDepth 4000
set_option maxHeartbeats 1000000 in
theorem law44_ControlHolds (ps:List Pr) (ts:List Pd) (hpl:ps.length≤9223372036854775807) (hev:∀p ∈ ps,p.evs.length≤9223372036854775807) (htl:ts.length≤9223372036854775807):PC Proofs.Tryz.prog 3 [aTr ps,.sl 6 (ts.map aPd)] (ab true):=by
 have haw:=law44_awake
 have hsz:=law44_size ps hpl hev
 have hfw:=law44_few ts
 by_cases hS:24<szW ps
 ·generalize ts.map aPd=TL at *
  generalize szW ps=z at *
  refine PC.enter 82 [.tmp 4] [2] Proofs.Tryz.func3 rfl rfl rfl rfl rfl (by simp) (AWp.of ?_);simp only[go_sem]
  refine Wk ?_
  refine Sd ?_
  refine(haw).val.use ?_;simp only[go_sem]
  refine Wk ?_
  refine Sd ?_
  refine(hsz).val.use ?_;simp only[go_sem,hS]
  refine GCall.use .any (fun h=>absurd h (by simp)) ?_
  simp only[go_sem]
  refine W1 hS ?_
  refine ret_eq ?_;simp only[go_sem]
 have hvd:Vd ps:=vd_of (szW_sm (m:=24) (by decide) (by omega))
 cases hf:fwT ts with
 | false =>
  rw[hf] at hfw
  generalize ts.map aPd=TL at *
  generalize szW ps=z at *
  refine PC.enter 82 [.tmp 4] [2] Proofs.Tryz.func3 rfl rfl rfl rfl rfl (by simp) (AWp.of ?_);simp only[go_sem]
  refine Wk ?_
  refine Sd ?_
  refine(haw).val.use ?_;simp only[go_sem]
  refine Wk ?_
  refine Sd ?_
  refine(hsz).val.use ?_;simp only[go_sem,hS]
  refine Sd ?_
  refine GCall.use (ab false) (fun _=>⟨At,(hfw).val.use ⟨rfl,rfl⟩⟩) ?_;simp only[go_sem]
  refine Sd ?_
  refine W1 hS ?_
  refine ret_eq ?_;simp only[go_sem]
 | true =>
 rw[hf] at hfw
 obtain⟨f1,f2⟩:=fwT_spec hf
 cases hv:validF ps with
 | false =>
  have hva:=hvd.val
  have hrv:=hvd.rval
  rw[hv] at hva hrv
  have g1:=control_Control_bad hva ts
  have g2:=ref37_Fault_bad hrv ts htl
  generalize ts.map aPd=TL at *
  generalize szW ps=z at *
  refine PC.enter 82 [.tmp 4] [2] Proofs.Tryz.func3 rfl rfl rfl rfl rfl (by simp) (AWp.of ?_);simp only[go_sem]
  refine Wk ?_
  refine Sd ?_
  refine(haw).val.use ?_;simp only[go_sem]
  refine Wk ?_
  refine Sd ?_
  refine(hsz).val.use ?_;simp only[go_sem,hS]
  refine Sd ?_
  refine GCall.use (ab true) (fun _=>⟨At,(hfw).val.use ⟨rfl,rfl⟩⟩) ?_;simp only[go_sem]
  refine Sd ?_
  refine W1 hS ?_
  refine Sd ?_
  refine(g1).val.use ?_;simp only[go_sem]
  refine Wk ?_
  refine Sd ?_
  refine(g2).val.use ?_;simp only[go_sem]
  repeat(first|((with_reducible refine AWp.ofC ?_ ?_);exact rfl;simp only[go_sem,Int.reduceEq])|((with_reducible refine an ?_ ?_);exact Au))
  refine ret_eq ?_;simp only[go_sem]
  all_goals rfl
 | true =>
 have hs:=hvd.sm hv
 have hz:∀t ∈ ts,szF t≤1000000:=fun t ht=>Nat.le_trans (f2 t ht) (by decide)
 have htl2:ts.length≤1000000:=by omega
 have g1:=control_Control ps hs ts hz htl2
 have g2:=ref37_Fault ps hs ts hz htl2
 obtain⟨cs,b,hcs,hb,g3⟩:=law44_lattice ps hs hv hS hsz
 have g4:=fun h=>ref44_Refuse ps hs ts hz htl2 h
 have g5:=fun l h=>ref44_Syncs ps hs hv l h
 have g6:=fun hC l hl hll hcl=>ref44_Controls ps hs ts hz htl2 hC l hl hll cs hcl hcs
 have hro:=rowsX_ok ps ts
 have haR:aRows cs = .sl 1 (cs.map aInts):=rfl
 rw[haR] at g3 g6
 have hlz:=fun b0 R l=>ctl_syE (ps:=ps) (b:=b0) (R:=R) (l:=l) hv
 have hca:=fun (hC:conF ps ts=0) l (hl:SynOk ps l) h=>ctl_all (ps:=ps) (ts:=ts) (l:=l) hC hl h cs
 generalize hTL:ts.map aPd=TL at *
 generalize szW ps=z at *
 refine PC.enter 82 [.tmp 4] [2] Proofs.Tryz.func3 rfl rfl rfl rfl rfl (by simp) (AWp.of ?_);simp only[go_sem]
 refine Wk ?_
 refine Sd ?_
 refine(haw).val.use ?_;simp only[go_sem]
 refine Wk ?_
 refine Sd ?_
 refine(hsz).val.use ?_;simp only[go_sem,hS]
 refine Sd ?_
 refine GCall.use (ab true) (fun _=>⟨At,(hfw).val.use ⟨rfl,rfl⟩⟩) ?_;simp only[go_sem]
 refine Sd ?_
 refine W1 hS ?_
 refine g1.val.mono ?_
 rintro r L ⟨rfl,hr⟩
 rcases hr with ⟨hC,rfl⟩|⟨hC,hT,rfl⟩|⟨hC,hT,R,l,hD,hsu,hct,_,rfl⟩
 ·simp only[go_sem]
  refine Wk ?_
  refine Sd ?_
  refine(g2).val.use ?_;simp only[go_sem]
  refine W1 hC ?_
  refine ret_eq ?_;simp only[go_sem]
  all_goals rfl
 ·rw[hC] at g2
  obtain⟨a,ha⟩:=least_ex hro hT
  have g4:=g4 hC
  rw[aLeast_some ha] at g4
  generalize (chcL ps.length (rowsX ps ts) a).map aStp=XX at *
  simp only[go_sem]
  refine Wk ?_
  refine Sd ?_
  refine(g2).val.use ?_;simp only[go_sem]
  refine Wk ?_
  refine Sd ?_
  refine(g3).val.use ?_;simp only[go_sem]
  cases b with
  | false =>
   refine Wk ?_
   refine ret_eq ?_;simp only[go_sem]
  | true =>
   refine Wk ?_
   refine Sd ?_
   refine(g4).val.use ?_;simp only[go_sem]
   refine Wk ?_
   refine ret_eq ?_;simp only[go_sem]
   all_goals rfl
 ·rw[hC] at g2
  have g4:=g4 hC
  rw[aLeast_none hT] at g4
  obtain⟨l1,l2,l3⟩:=hlz _ R l hD hsu
  have g5:=g5 l (by omega)
  rw[l3] at g5
  have hlm:(l.map aSyn).length=l.length:=List.length_map _
  have hl1:(l.length:Int)≤1000:=by omega
  cases b with
  | false =>
   generalize l.map aSyn=SL at *
   simp only[go_sem]
   refine Wk ?_
   refine Sd ?_
   refine(g2).val.use ?_;simp only[go_sem]
   refine Wk ?_
   refine Sd ?_
   refine(g3).val.use ?_;simp only[go_sem]
   refine Wk ?_
   refine ret_eq ?_;simp only[go_sem]
  | true =>
   have g6:=g6 hC l l2 (by omega) (by have:=hb rfl;omega)
   rw[hca hC l l2 hct] at g6
   generalize l.map aSyn=SL at *
   generalize cs.map aInts=CC at *
   simp only[go_sem]
   refine Wk ?_
   refine Sd ?_
   refine(g2).val.use ?_;simp only[go_sem]
   refine Wk ?_
   refine Sd ?_
   refine(g3).val.use ?_;simp only[go_sem]
   refine Wk ?_
   refine Sd ?_
   refine(g4).val.use ?_;simp only[go_sem]
   refine W2 hlm hl1 ?_
   refine Sd ?_
   refine GCall.use (ai 0) (fun _=>⟨At,(g5).val.use ⟨rfl,rfl⟩⟩) ?_;simp only[go_sem]
   refine Sd ?_
   refine GCall.use (ab true) (fun _=>⟨At,(g6).val.use ⟨rfl,rfl⟩⟩) ?_;simp only[go_sem]
   refine Sd ?_
   refine W2 hlm hl1 ?_
   refine ret_eq ?_;simp only[go_sem]
end Go.AL
end
section
namespace Go.AL
open Go Go.RowKit
set_option maxRecDepth 100000
section
variable {H:Type} {enc:TypeId × Value→H} {W:World}
theorem rdAsg:Rd enc Proofs.Tryz.prog W 204 2 aAsg (fun _=>True) :=
 (Rd.struct (ts:=[3,3]) Proofs.Tryz.underlying204 rfl rfl (by kernel_rfl) (by kernel_rfl)
  (.cons (Rd.int Proofs.Tryz.underlying3) (fun _=>⟨rfl,rfl⟩) (.cons (Rd.int Proofs.Tryz.underlying3) (fun _=>⟨rfl,rfl⟩) .nil))).map (fun (y:Int × Int × Unit)=>(y.1,y.2.1)) (fun _=>rfl) (fun _ _=>trivial)
theorem rdAsgs:Rd enc Proofs.Tryz.prog W 63 1 aAsgs (fun _=>True) :=
 (Rd.slice Proofs.Tryz.underlying63 (by kernel_rfl:Program.cellsOf Proofs.Tryz.prog 204=2) (by decide) rdAsg).map id (fun _=>rfl) (fun _ _=>trivial)
theorem rdVar:Rd enc Proofs.Tryz.prog W 201 2 aVar (fun _=>True) :=
 (Rd.struct (ts:=[9,3]) Proofs.Tryz.underlying201 rfl rfl (by kernel_rfl) (by kernel_rfl)
  (.cons (Rd.str Proofs.Tryz.underlying9) (fun _=>⟨rfl,rfl⟩) (.cons (Rd.int Proofs.Tryz.underlying3) (fun _=>⟨rfl,rfl⟩) .nil))).map (fun (y:ByteArray × Int × Unit)=>(y.1,y.2.1)) (fun _=>rfl) (fun _ _=>trivial)
theorem rdVars:Rd enc Proofs.Tryz.prog W 67 1 aVars (fun _=>True) :=
 (Rd.slice Proofs.Tryz.underlying67 (by kernel_rfl:Program.cellsOf Proofs.Tryz.prog 201=2) (by decide) rdVar).map id (fun _=>rfl) (fun _ _=>trivial)
theorem rdEv:Rd enc Proofs.Tryz.prog W 65 5 aEv (fun _=>True) :=
 (Rd.struct (ts:=[3,3,3,3,63]) Proofs.Tryz.underlying65 rfl rfl (by kernel_rfl) (by kernel_rfl)
  (.cons (Rd.int Proofs.Tryz.underlying3) (fun _=>⟨rfl,rfl⟩) (.cons (Rd.int Proofs.Tryz.underlying3) (fun _=>⟨rfl,rfl⟩) (.cons (Rd.int Proofs.Tryz.underlying3) (fun _=>⟨rfl,rfl⟩)
   (.cons (Rd.int Proofs.Tryz.underlying3) (fun _=>⟨rfl,rfl⟩) (.cons rdAsgs (fun _=>⟨rfl,rfl⟩) .nil)))))).map (fun (y:Int × Int × Int × Int × List (Int × Int) × Unit)=>⟨y.1,y.2.1,y.2.2.1,y.2.2.2.1,y.2.2.2.2.1⟩) (fun _=>rfl) (fun _ _=>trivial)
end
end Go.AL
end
section
namespace Go.AL
open Go Go.RowKit
set_option maxRecDepth 100000
section
variable {H:Type} {enc:TypeId × Value→H} {W:World}
theorem rdEvsM:Rd enc Proofs.Tryz.prog W 66 1 aEvs (fun l=>l.length≤maxLen) :=
 (Rd.slice Proofs.Tryz.underlying66 (by kernel_rfl:Program.cellsOf Proofs.Tryz.prog 65=5) (by decide) rdEv).map id (fun _=>rfl) (fun _ h=>h.1)
theorem rdPrM:Rd enc Proofs.Tryz.prog W 69 3 aPr (fun p=>p.evs.length≤maxLen) :=
 (Rd.struct (ts:=[9,67,66]) Proofs.Tryz.underlying69 rfl rfl (by kernel_rfl) (by kernel_rfl)
  (.cons (Rd.str Proofs.Tryz.underlying9) (fun _=>⟨rfl,rfl⟩) (.cons rdVars (fun _=>⟨rfl,rfl⟩) (.cons rdEvsM (fun _=>⟨rfl,rfl⟩) .nil)))).map (fun (y:ByteArray × List (ByteArray × Int) × List Ev × Unit)=>⟨y.1,y.2.1,y.2.2.1⟩) (fun _=>rfl) (fun _ h=>h.2.2.1)
theorem rdPrsM:Rd enc Proofs.Tryz.prog W 22 1 aPrs (fun l=>l.length≤maxLen∧∀p ∈ l,p.evs.length≤9223372036854775807) :=
 (Rd.slice Proofs.Tryz.underlying22 (by kernel_rfl:Program.cellsOf Proofs.Tryz.prog 69=3) (by decide) rdPrM).map id (fun _=>rfl) (fun _ h=>h)
theorem rdTrM:Rd enc Proofs.Tryz.prog W 24 1 aTr (fun l=>l.length≤maxLen∧∀p ∈ l,p.evs.length≤9223372036854775807) :=
 (Rd.struct (ts:=[22]) Proofs.Tryz.underlying24 rfl rfl (by kernel_rfl) (by kernel_rfl) (.cons rdPrsM (fun _=>⟨rfl,rfl⟩) .nil)).map (fun (y:List Pr × Unit)=>y.1) (fun _=>rfl) (fun _ h=>h.1)
end
end Go.AL
end
section
namespace Go.AL
open Go Go.RowKit
set_option maxRecDepth 100000
section
variable {H:Type} {enc:TypeId × Value→H} {W:World}
theorem rdPredN:∀N,RdF enc Proofs.Tryz.prog W N 71 6 aPd (fun _=>True)
 | 0 => .zero
 | N+1 =>
  (RdF.struct (ts:=[3,3,3,3,9,25]) Proofs.Tryz.underlying71 rfl rfl (by kernel_rfl) (by kernel_rfl)
   (.cons ((Rd.int Proofs.Tryz.underlying3).bounded N) (fun _=>⟨rfl,rfl⟩) (.cons ((Rd.int Proofs.Tryz.underlying3).bounded N) (fun _=>⟨rfl,rfl⟩) (.cons ((Rd.int Proofs.Tryz.underlying3).bounded N) (fun _=>⟨rfl,rfl⟩)
    (.cons ((Rd.int Proofs.Tryz.underlying3).bounded N) (fun _=>⟨rfl,rfl⟩) (.cons ((Rd.str Proofs.Tryz.underlying9).bounded N) (fun _=>⟨rfl,rfl⟩)
     (.cons ((RdF.slice Proofs.Tryz.underlying25 (by kernel_rfl:Program.cellsOf Proofs.Tryz.prog 71=6) (by decide) (rdPredN N)).mono (Nat.le_succ N)) (fun _=>⟨rfl,rfl⟩) .nil))))))).map
   (fun (y:Int × Int × Int × Int × ByteArray × List Pd × Unit)=>Pd.mk y.1 y.2.1 y.2.2.1 y.2.2.2.1 y.2.2.2.2.1 y.2.2.2.2.2.1) (fun _=>(aPd_mk _ _ _ _ _ _).symm) (fun _ _=>trivial)
theorem rdPreds:Rd enc Proofs.Tryz.prog W 25 1 (fun l:List Pd => .sl 6 (l.map aPd)) (fun l=>l.length≤maxLen) :=
 (Rd.slice Proofs.Tryz.underlying25 (by kernel_rfl:Program.cellsOf Proofs.Tryz.prog 71=6) (by decide) (RdF.all rdPredN)).map id (fun _=>rfl) (fun _ h=>h.1)
end
end Go.AL
end
