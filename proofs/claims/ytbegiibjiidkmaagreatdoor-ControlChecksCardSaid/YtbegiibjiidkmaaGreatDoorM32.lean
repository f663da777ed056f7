/- Texts of this claim's proof: WZ16, WRt, WRt7, WRt2, WRt4, WRt6, WRt8. No condition. -/
import Derived.Test.YtbegiibjiidkmaaGreatDoorM31
import Derived.Test.YtbegiibjiidkmaaGreatDoorM10
import Derived.Test.YtbegiibjiidkmaaGreatDoorM4
import Derived.Test.YtbegiibjiidkmaaGreatDoorM11
import Derived.Test.YtbegiibjiidkmaaGreatDoorM5
import Derived.Test.YtbegiibjiidkmaaGreatDoorM27
import Derived.ChangeSame
section
namespace Go.AL
open Go Go.RowKit Proofs.Tryz
set_option maxRecDepth 4000
theorem checks_val (ps:List Pr)(hs:Sm ps)(hv:validF ps=true)(h5:(cutsF ps).length<=5000)(t:Pd)(hz:szF t<=1000000)(l:List Syn)(hll:l.length<=1000000) :
  ∃(b:Bool) (e:Int),PC prog 11 [aTr ps,aPd t,.sl 4 (l.map aSyn)] (.tup [ab b,ai e])/\PC prog 12 [aTr ps,aPd t,.sl 4 (l.map aSyn)] (.tup [ab b,ai e]):=by
 have hr:=ref29_Table ps hs hv t hz
 by_cases hE:whE ps t=0
 ·rw[if_pos hE] at hr
  have hT:=evaluate_TableH (evaluate_allC ps hs t hz hE)
  have e1:((cutsF ps).map fun c=>ab (truF (cutO ps c (undF ps c)) t))=((cutsF ps).map fun c=>truF (cutO ps c (undF ps c)) t).map ab:=by rw[List.map_map];rfl
  rw[e1] at hr hT
  have hk:((cutsF ps).map fun c=>truF (cutO ps c (undF ps c)) t).length=(cutsF ps).length:=List.length_map _
  exact⟨_,_,control_CheckH ps hs hv h5 t _ hk l hll hT,ref44_CheckH ps hs hv h5 t _ hk l hll hr⟩
 ·rw[if_neg hE] at hr
  exact⟨_,_,control_CheckE hE (evaluate_TableH (evaluate_all_bad ps hs t hz hE)) _,ref44_CheckE hE hr _⟩
theorem checks_bad {ps:List Pr}(h1:PC prog 71 [aTr ps] (ab false))(h2:PC prog 10 [aTr ps] (ab false))(t:Pd)(l:List Syn) :
  ∃(b:Bool) (e:Int),PC prog 11 [aTr ps,aPd t,.sl 4 (l.map aSyn)] (.tup [ab b,ai e])/\PC prog 12 [aTr ps,aPd t,.sl 4 (l.map aSyn)] (.tup [ab b,ai e]) :=
 ⟨_,_,control_CheckE (e:=1) (by decide) (evaluate_TableH (evaluate_allE (by decide) (predtype_Check_bad h1 t))) _,ref44_CheckE (by decide) (ref29_TableE (by decide) (ref29_TreeE (by decide) (ref28_Check_bad h2 t) 2)) _⟩
set_option maxHeartbeats 2000000 in
theorem law44_ControlChecks (ps:List Pr)(t:Pd)(l:List Syn)(hpl:ps.length<=9223372036854775807)(hev:∀p ∈ ps,p.evs.length<=9223372036854775807)(hll:l.length<=9223372036854775807):PC prog 3 [aTr ps,aPd t,aSyns l] (ab true):=by
 have haw:=law44_awake
 have hsz:=law44_size ps hpl hev
 have hfw:=law44_few [t]
 have hsi:=ref28_Size t
 have hR:aSyns l = .sl 4 (l.map aSyn):=rfl
 have hlm:(l.map aSyn).length=l.length:=List.length_map _
 have hmt:[t].map aPd=[aPd t]:=rfl
 rw[hmt] at hfw
 rw[hR]
 clear hR hmt
 have hcs:=fun hs hv h5 hz h6=>checks_val ps hs hv h5 t hz l h6
 have hcb:=fun h1 h2=>checks_bad (ps:=ps) h1 h2 t l
 have hzf:fwT [t]=true->szF t<=1000000:=fun h=>Nat.le_trans ((fwT_spec h).2 t (by simp)) (by decide)
 generalize szF t=zt at *
 generalize cntF zt 200=ct at *
 generalize fwT [t]=fw at *
 have hla:=law44_latticeG ps hpl hev
 have haR:aRows (cutsF ps) = .sl 1 ((cutsF ps).map aInts):=rfl
 rw[haR] at hla
 have hvd:¬24<szW ps->Vd ps:=fun h=>vd_of (szW_sm (m:=24) (by decide) (by omega))
 have hth:PC prog 3 [aTr ps,aPd t,.sl 4 (l.map aSyn)] (ab true):=by
  generalize szW ps=z at *
  generalize hLL:l.map aSyn=SL at *
  obtain⟨k,n,p,q,s,tl⟩:=t
  simp only[aPd_mk] at *
  by_cases hS:24<z
  ·refine PE 77 [.tmp 6] [3,4,20] func3 ?_;simp only[go_sem]
   refine Wk ?_
   refine Sd ?_
   refine Vu haw ?_
   refine Wk ?_
   refine Sd ?_
   refine(hsz).val.use ?_;simp only[go_sem,hS,hlm]
   refine GCall.use .any (fun h=>absurd h (by simp)) ?_
   simp only[go_sem]
   refine GCall.use .any (fun h=>absurd h (by simp)) ?_
   simp only[go_sem]
   refine W2 hS hlm ?_
   exact Rz
  have hv0:=hvd hS
  have hval:=hv0.val
  have hrval:=hv0.rval
  cases fw with
  | false =>
   refine PE 77 [.tmp 6] [3,4,20] func3 ?_;simp only[go_sem]
   refine Wk ?_
   refine Sd ?_
   refine Vu haw ?_
   refine Wk ?_
   refine Sd ?_
   refine(hsz).val.use ?_;simp only[go_sem,hS,hlm]
   refine Sd ?_
   refine GCall.use (ab false) (fun _=>⟨At,(hfw).val.use ⟨rfl,rfl⟩⟩) ?_;simp only[go_sem,hS,hlm]
   refine GCall.use .any (fun h=>absurd h (by simp)) ?_
   simp only[go_sem]
   refine W2 hS hlm ?_
   exact Rz
  | true =>
  have hz:=hzf rfl
  by_cases hS2:(100:Int)<ct
  ·refine PE 77 [.tmp 6] [3,4,20] func3 ?_;simp only[go_sem]
   refine Wk ?_
   refine Sd ?_
   refine Vu haw ?_
   refine Wk ?_
   refine Sd ?_
   refine(hsz).val.use ?_;simp only[go_sem,hS,hlm]
   refine Sd ?_
   refine GCall.use (ab true) (fun _=>⟨At,(hfw).val.use ⟨rfl,rfl⟩⟩) ?_;simp only[go_sem,hS,hlm]
   refine Sd ?_
   refine GCall.use (ai ct) (fun _=>⟨At,(hsi).val.use ⟨rfl,rfl⟩⟩) ?_;simp only[go_sem,hS,hlm,hS2]
   refine Sd ?_
   refine W3 hS hlm hS2 ?_
   exact Rz
  by_cases hL:(decide ((100:Int)<l.length) && decide ((l.length:Int)<=1000))=true
  ·have hL1:(100:Int)<l.length:=by simp only[Bool.and_eq_true,decide_eq_true_eq] at hL;exact hL.1
   have hL2:(l.length:Int)<=1000:=by simp only[Bool.and_eq_true,decide_eq_true_eq] at hL;exact hL.2
   refine PE 77 [.tmp 6] [3,4,20] func3 ?_;simp only[go_sem]
   refine Wk ?_
   refine Sd ?_
   refine Vu haw ?_
   refine Wk ?_
   refine Sd ?_
   refine(hsz).val.use ?_;simp only[go_sem,hS,hlm]
   refine Sd ?_
   refine GCall.use (ab true) (fun _=>⟨At,(hfw).val.use ⟨rfl,rfl⟩⟩) ?_;simp only[go_sem,hS,hlm]
   refine Sd ?_
   refine GCall.use (ai ct) (fun _=>⟨At,(hsi).val.use ⟨rfl,rfl⟩⟩) ?_;simp only[go_sem,hS,hlm,hS2]
   refine Sd ?_
   refine W5 hS hlm hS2 hL1 hL2 ?_
   exact Rz
  by_cases hM:(1005:Int)<l.length
  ·refine PE 77 [.tmp 6] [3,4,20] func3 ?_;simp only[go_sem]
   refine Wk ?_
   refine Sd ?_
   refine Vu haw ?_
   refine Wk ?_
   refine Sd ?_
   refine(hsz).val.use ?_;simp only[go_sem,hS,hlm]
   refine Sd ?_
   refine GCall.use (ab true) (fun _=>⟨At,(hfw).val.use ⟨rfl,rfl⟩⟩) ?_;simp only[go_sem,hS,hlm]
   refine Sd ?_
   refine GCall.use (ai ct) (fun _=>⟨At,(hsi).val.use ⟨rfl,rfl⟩⟩) ?_;simp only[go_sem,hS,hlm,hS2]
   refine Sd ?_
   refine W5 hS hlm hS2 hL hM ?_
   exact Rz
  have h6:l.length<=1000000:=by omega
  have hL':(decide ((100:Int)<l.length) && decide ((l.length:Int)<=1000))=false:=by simpa using hL
  rcases hla with ⟨xs,hla⟩|⟨hs,hv,h250,hla⟩
  ·cases hv:validF ps with
   | true =>
    rw[hv] at hrval
    refine PE 77 [.tmp 6] [3,4,20] func3 ?_;simp only[go_sem]
    refine Wk ?_
    refine Sd ?_
    refine Vu haw ?_
    refine Wk ?_
    refine Sd ?_
    refine(hsz).val.use ?_;simp only[go_sem,hS,hlm]
    refine Sd ?_
    refine GCall.use (ab true) (fun _=>⟨At,(hfw).val.use ⟨rfl,rfl⟩⟩) ?_;simp only[go_sem,hS,hlm]
    refine Sd ?_
    refine GCall.use (ai ct) (fun _=>⟨At,(hsi).val.use ⟨rfl,rfl⟩⟩) ?_;simp only[go_sem,hS,hlm,hS2]
    refine Sd ?_
    refine W5 hS hlm hS2 hL' hM ?_
    refine Sd ?_
    refine Vu hla ?_
    refine Wk ?_
    refine Sd ?_
    refine Gc hrval ?_
    refine Sd ?_
    refine Wk ?_
    exact Rz
   | false =>
    rw[hv] at hrval hval
    obtain⟨b,e,h1,h2⟩:=hcb hval hrval
    refine PE 77 [.tmp 6] [3,4,20] func3 ?_;simp only[go_sem]
    refine Wk ?_
    refine Sd ?_
    refine Vu haw ?_
    refine Wk ?_
    refine Sd ?_
    refine(hsz).val.use ?_;simp only[go_sem,hS,hlm]
    refine Sd ?_
    refine GCall.use (ab true) (fun _=>⟨At,(hfw).val.use ⟨rfl,rfl⟩⟩) ?_;simp only[go_sem,hS,hlm]
    refine Sd ?_
    refine GCall.use (ai ct) (fun _=>⟨At,(hsi).val.use ⟨rfl,rfl⟩⟩) ?_;simp only[go_sem,hS,hlm,hS2]
    refine Sd ?_
    refine W5 hS hlm hS2 hL' hM ?_
    refine Sd ?_
    refine Vu hla ?_
    refine Wk ?_
    refine Sd ?_
    refine Gc hrval ?_
    refine Sd ?_
    refine Wk ?_
    refine Sd ?_
    refine Vu h1 ?_
    refine Wk ?_
    refine Sd ?_
    refine Vu h2 ?_
    refine Wk ?_
    exact Rz
  ·obtain⟨b,e,h1,h2⟩:=hcs hs hv (by omega) hz h6
   refine PE 77 [.tmp 6] [3,4,20] func3 ?_;simp only[go_sem]
   refine Wk ?_
   refine Sd ?_
   refine Vu haw ?_
   refine Wk ?_
   refine Sd ?_
   refine(hsz).val.use ?_;simp only[go_sem,hS,hlm]
   refine Sd ?_
   refine GCall.use (ab true) (fun _=>⟨At,(hfw).val.use ⟨rfl,rfl⟩⟩) ?_;simp only[go_sem,hS,hlm]
   refine Sd ?_
   refine GCall.use (ai ct) (fun _=>⟨At,(hsi).val.use ⟨rfl,rfl⟩⟩) ?_;simp only[go_sem,hS,hlm,hS2]
   refine Sd ?_
   refine W5 hS hlm hS2 hL' hM ?_
   refine Sd ?_
   refine Vu hla ?_
   refine Wk ?_
   refine GCall.use .any (fun h=>absurd h (by simp)) ?_
   simp only[go_sem]
   refine Wk ?_
   refine Sd ?_
   refine Vu h1 ?_
   refine Wk ?_
   refine Sd ?_
   refine Vu h2 ?_
   refine Wk ?_
   exact Rz
 exact hth
end Go.AL
end
section
namespace Go.AL
open Go Go.RowKit Proofs.Tryz
set_option maxRecDepth 100000
section
variable {H:Type} {enc:TypeId × Value->H} {W:World}
theorem rdAsg:Rd enc prog W 181 2 aAsg (fun _=>True) :=
 (Rd.struct (ts:=[3,3]) underlying181 rfl rfl (by kernel_rfl) (by kernel_rfl)
  (.cons (Rd.int underlying3) (fun _=>⟨rfl,rfl⟩) (.cons (Rd.int underlying3) (fun _=>⟨rfl,rfl⟩) .nil))).map (fun (y:Int × Int × Unit)=>(y.1,y.2.1)) (fun _=>rfl) (fun _ _=>trivial)
theorem rdAsgs:Rd enc prog W 59 1 aAsgs (fun _=>True) :=
 (Rd.slice underlying59 (by kernel_rfl:Program.cellsOf prog 181=2) (by decide) rdAsg).map id (fun _=>rfl) (fun _ _=>trivial)
theorem rdVar:Rd enc prog W 178 2 aVar (fun _=>True) :=
 (Rd.struct (ts:=[9,3]) underlying178 rfl rfl (by kernel_rfl) (by kernel_rfl)
  (.cons (Rd.str underlying9) (fun _=>⟨rfl,rfl⟩) (.cons (Rd.int underlying3) (fun _=>⟨rfl,rfl⟩) .nil))).map (fun (y:ByteArray × Int × Unit)=>(y.1,y.2.1)) (fun _=>rfl) (fun _ _=>trivial)
theorem rdVars:Rd enc prog W 63 1 aVars (fun _=>True) :=
 (Rd.slice underlying63 (by kernel_rfl:Program.cellsOf prog 178=2) (by decide) rdVar).map id (fun _=>rfl) (fun _ _=>trivial)
theorem rdEv:Rd enc prog W 61 5 aEv (fun _=>True) :=
 (Rd.struct (ts:=[3,3,3,3,59]) underlying61 rfl rfl (by kernel_rfl) (by kernel_rfl)
  (.cons (Rd.int underlying3) (fun _=>⟨rfl,rfl⟩) (.cons (Rd.int underlying3) (fun _=>⟨rfl,rfl⟩) (.cons (Rd.int underlying3) (fun _=>⟨rfl,rfl⟩)
   (.cons (Rd.int underlying3) (fun _=>⟨rfl,rfl⟩) (.cons rdAsgs (fun _=>⟨rfl,rfl⟩) .nil)))))).map (fun (y:Int × Int × Int × Int × List (Int × Int) × Unit)=>⟨y.1,y.2.1,y.2.2.1,y.2.2.2.1,y.2.2.2.2.1⟩) (fun _=>rfl) (fun _ _=>trivial)
end
end Go.AL
end
section
namespace Go.AL
open Go Go.RowKit Proofs.Tryz
set_option maxRecDepth 100000
section
variable {H:Type} {enc:TypeId × Value->H} {W:World}
theorem rdEvsM:Rd enc prog W 62 1 aEvs (fun l=>l.length<=maxLen) :=
 (Rd.slice underlying62 (by kernel_rfl:Program.cellsOf prog 61=5) (by decide) rdEv).map id (fun _=>rfl) (fun _ h=>h.1)
theorem rdPrM:Rd enc prog W 65 3 aPr (fun p=>p.evs.length<=maxLen) :=
 (Rd.struct (ts:=[9,63,62]) underlying65 rfl rfl (by kernel_rfl) (by kernel_rfl)
  (.cons (Rd.str underlying9) (fun _=>⟨rfl,rfl⟩) (.cons rdVars (fun _=>⟨rfl,rfl⟩) (.cons rdEvsM (fun _=>⟨rfl,rfl⟩) .nil)))).map (fun (y:ByteArray × List (ByteArray × Int) × List Ev × Unit)=>⟨y.1,y.2.1,y.2.2.1⟩) (fun _=>rfl) (fun _ h=>h.2.2.1)
theorem rdPrsM:Rd enc prog W 22 1 aPrs (fun l=>l.length<=maxLen/\∀p ∈ l,p.evs.length<=9223372036854775807) :=
 (Rd.slice underlying22 (by kernel_rfl:Program.cellsOf prog 65=3) (by decide) rdPrM).map id (fun _=>rfl) (fun _ h=>h)
theorem rdTrM:Rd enc prog W 24 1 aTr (fun l=>l.length<=maxLen/\∀p ∈ l,p.evs.length<=9223372036854775807) :=
 (Rd.struct (ts:=[22]) underlying24 rfl rfl (by kernel_rfl) (by kernel_rfl) (.cons rdPrsM (fun _=>⟨rfl,rfl⟩) .nil)).map (fun (y:List Pr × Unit)=>y.1) (fun _=>rfl) (fun _ h=>h.1)
end
end Go.AL
end
section
namespace Go.AL
open Go Go.RowKit Proofs.Tryz
set_option maxRecDepth 100000
def aPdC:Pd->List AV | .mk k n p q s l=>[ai k,ai n,ai p,ai q,astr s,.sl 6 (l.map aPd)]
theorem aPd_agg:∀y,aPd y = .agg (aPdC y):=fun ⟨k,n,p,q,s,l⟩=>by rw[aPd_mk];rfl
section
variable {H:Type} {enc:TypeId × Value->H} {W:World}
theorem rdPredN:∀N,RdF enc prog W N 27 6 aPd (fun _=>True)
 | 0=>.zero
 | N+1 =>
  (RdF.struct (ts:=[3,3,3,3,9,25]) underlying27 rfl rfl (by kernel_rfl) (by kernel_rfl)
   (.cons ((Rd.int underlying3).bounded N) (fun _=>⟨rfl,rfl⟩) (.cons ((Rd.int underlying3).bounded N) (fun _=>⟨rfl,rfl⟩) (.cons ((Rd.int underlying3).bounded N) (fun _=>⟨rfl,rfl⟩)
    (.cons ((Rd.int underlying3).bounded N) (fun _=>⟨rfl,rfl⟩) (.cons ((Rd.str underlying9).bounded N) (fun _=>⟨rfl,rfl⟩)
     (.cons ((RdF.slice underlying25 (by kernel_rfl:Program.cellsOf prog 27=6) (by decide) (rdPredN N)).mono (Nat.le_succ N)) (fun _=>⟨rfl,rfl⟩) .nil))))))).map
   (fun (y:Int × Int × Int × Int × ByteArray × List Pd × Unit)=>Pd.mk y.1 y.2.1 y.2.2.1 y.2.2.2.1 y.2.2.2.2.1 y.2.2.2.2.2.1) (fun _=>(aPd_mk _ _ _ _ _ _).symm) (fun _ _=>trivial)
theorem rdPred:Rd enc prog W 27 6 aPd (fun _=>True):=RdF.all rdPredN
end
end Go.AL
end
section
namespace Go.AL
open Go Go.RowKit Proofs.Tryz
set_option maxRecDepth 100000
section
variable {H:Type} {enc:TypeId × Value->H} {W:World}
end
end Go.AL
end
section
namespace Go.AL
open Go Go.RowKit Proofs.Tryz
set_option maxRecDepth 100000
section
variable {H:Type} {enc:TypeId × Value->H} {W:World}
theorem rdEid:Rd enc prog W 53 2 aEid (fun _=>True) :=
 (Rd.struct (ts:=[3,3]) underlying53 rfl rfl (by kernel_rfl) (by kernel_rfl)
  (.cons (Rd.int underlying3) (fun _=>⟨rfl,rfl⟩) (.cons (Rd.int underlying3) (fun _=>⟨rfl,rfl⟩) .nil))).map (fun (y:Int × Int × Unit)=>(y.1,y.2.1)) (fun _=>rfl) (fun _ _=>trivial)
end
end Go.AL
end
section
namespace Go.AL
open Go Go.RowKit Proofs.Tryz
set_option maxRecDepth 100000
section
variable {H:Type} {enc:TypeId × Value->H} {W:World}
theorem rd_two {P:Program}{t t1 t2:TypeId}{f0 f1:Field}{k1 k2:Nat}{α β:Type}{F1:α->List AV}{F2:β->List AV}{ok1:α->Prop}{ok2:β->Prop}(ht:P.underlying t=some (.struct #[f0,f1]))(h1t:f0.type=t1)(h2t:f1.type=t2)
  (o1:f0.offset=0) (o2:f1.offset=k1) (c1:P.cellsOf t1=k1) (c2:P.cellsOf t2=k2) (c:P.cellsOf t=k1+k2) (h1:Rd enc P W t1 k1 (fun y=>.agg (F1 y)) ok1) (h2:Rd enc P W t2 k2 (fun y=>.agg (F2 y)) ok2) :
  Rd enc P W t (k1+k2) (fun y:α × β=>.agg (F1 y.1 ++ F2 y.2)) (fun y=>ok1 y.1/\ok2 y.2):=by
 intro fuel cs x hx
 obtain⟨xs,n,_,_,hl,hlen,hf⟩:=DataW.trod_struct ht hx
 have g1:=hf 0 f0 rfl
 have g2:=hf 1 f1 rfl
 rw[h1t,o1,c1,List.drop_zero] at g1
 rw[h2t,o2,c2] at g2
 have hx0:∃x0 x1,xs=[x0,x1]:=by
  match xs,hlen with
  | [x0,x1],_=>exact⟨x0,x1,rfl⟩
 obtain⟨x0,x1,rfl⟩:=hx0
 obtain⟨a,a1,a2,a3,a4⟩:=h1 _ _ _ g1
 obtain⟨b,b1,b2,b3,b4⟩:=h2 _ _ _ g2
 have al:(F1 a).length=k1:=a2.1
 have bl:(F2 b).length=k2:=b2.1
 have ao:(F1 a).all one=true:=a2.2
 have bo:(F2 b).all one=true:=b2.2
 have a4:∀(i:Nat) c u,(F1 a)[i]?=some c->(cs.take k1)[i]?=some u->Rel W (fun b=>b<W.heap.size) c u:=a4
 have b4:∀(i:Nat) c u,(F2 b)[i]?=some c->((cs.drop k1).take k2)[i]?=some u->Rel W (fun b=>b<W.heap.size) c u:=b4
 refine⟨(a,b),⟨a1,b1⟩,⟨?_,?_⟩,by omega,fun i cc u hc hu=>?_⟩
 ·show (F1 a ++ F2 b).length=_
  rw[List.length_append];omega
 ·show (F1 a ++ F2 b).all one=true
  rw[List.all_append,ao,bo];rfl
 ·have hc:(F1 a ++ F2 b)[i]?=some cc:=hc
  by_cases hi:i<k1
  ·refine a4 i cc u ?_ ?_
   ·rwa [List.getElem?_append_left (by omega)] at hc
   ·rw[List.getElem?_take,if_pos hi];exact hu
  ·rw[List.getElem?_append_right (by omega)] at hc
   refine b4 (i - k1) cc u (by rw[<- al];exact hc) ?_
   have hi2:i - (F1 a).length<(F2 b).length:=(List.getElem?_eq_some_iff.1 hc).1
   rw[List.getElem?_take,if_pos (by omega),List.getElem?_drop,show k1+(i - k1)=i by omega];exact hu
theorem rdSyn:Rd enc prog W 55 4 aSyn (fun _=>True) :=
 (rd_two (t1:=53) (t2:=53) underlying55 rfl rfl rfl rfl (by kernel_rfl) (by kernel_rfl) (by kernel_rfl) (F1:=fun x:Eid=>[ai x.1,ai x.2]) (F2:=fun x:Eid=>[ai x.1,ai x.2]) rdEid rdEid).map (fun y:Eid × Eid=>y) (fun _=>rfl) (fun _ _=>trivial)
theorem rdSyns:Rd enc prog W 28 1 aSyns (fun l=>l.length<=maxLen) :=
 (Rd.slice underlying28 (by kernel_rfl:Program.cellsOf prog 55=4) (by decide) rdSyn).map id (fun _=>rfl) (fun _ h=>h.1)
end
end Go.AL
end
