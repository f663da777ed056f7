/- Texts of this claim's proof: WY30, WRt, WRt7, WRt4, WRt6, WRt8. No condition. -/
import Derived.Test.YtplamfpmmogbeaaGreatDoorM22
import Derived.Test.YtplamfpmmogbeaaGreatDoorM17
import Derived.Test.YtplamfpmmogbeaaGreatDoorM9
import Derived.Test.YtplamfpmmogbeaaGreatDoorM4
import Derived.ChangeSame
section
namespace Go.AL
open Go Go.RowKit
set_option maxRecDepth 4000
set_option maxHeartbeats 1000000 in
theorem law44_ControlOrders (ps:List Pr) (l:List Syn) (hpl:ps.length≤9223372036854775807) (hev:∀p ∈ ps,p.evs.length≤9223372036854775807) (hll:l.length≤9223372036854775807):PC Proofs.Tryz.prog 4 [aTr ps,aSyns l] (ab true):=by
 have haw:=law44_awake
 have hsz:=law44_size ps hpl hev
 have hR:aSyns l = .sl 4 (l.map aSyn):=rfl
 have hlm:(l.map aSyn).length=l.length:=List.length_map _
 rw[hR]
 by_cases hS:24<szW ps
 ·clear hR
  generalize l.map aSyn=SL at *
  generalize szW ps=z at *
  refine PC.enter 49 [.tmp 4] [2,5,7] Proofs.Tryz.func4 rfl rfl rfl rfl rfl (by simp) (AWp.of ?_);simp only[go_sem]
  refine Wk ?_
  refine Sd ?_
  refine(haw).val.use ?_;simp only[go_sem]
  refine Wk ?_
  refine Sd ?_
  refine(hsz).val.use ?_;simp only[go_sem,hS,hlm]
  refine W2 hS hlm ?_
  refine ret_eq ?_;simp only[go_sem]
 have hvd:Vd ps:=vd_of (szW_sm (m:=24) (by decide) (by omega))
 have hq:∀b:Bool,(decide ((100:Int)<l.length) && decide ((l.length:Int)≤1000) || decide ((1005:Int)<l.length))=b→b=true∨l.length≤1005:=fun b h=>by
  cases b with
  | true=>exact .inl rfl
  | false =>
   rw[Bool.or_eq_false_iff,decide_eq_false_iff_not] at h
   exact .inr (by omega)
 generalize hqb:(decide ((100:Int)<l.length) && decide ((l.length:Int)≤1000) || decide ((1005:Int)<l.length))=qb at *
 have hq:=hq qb rfl
 cases qb with
 | true =>
  clear hR
  generalize l.map aSyn=SL at *
  generalize szW ps=z at *
  refine PC.enter 49 [.tmp 4] [2,5,7] Proofs.Tryz.func4 rfl rfl rfl rfl rfl (by simp) (AWp.of ?_);simp only[go_sem]
  refine Wk ?_
  refine Sd ?_
  refine(haw).val.use ?_;simp only[go_sem]
  refine Wk ?_
  refine Sd ?_
  refine(hsz).val.use ?_;simp only[go_sem,hS,hlm,hqb]
  refine W3 hS hlm hqb ?_
  refine ret_eq ?_;simp only[go_sem]
 | false =>
  have hl5:l.length≤1005:=hq.resolve_left (by decide)
  have fin:∀(n:Nat) (rs:List (List Nat)) (e:Int),PC Proofs.Tryz.prog 17 [aRelR n rs,aRelR n rs] (ab true)→PC Proofs.Tryz.prog 15 [aTr ps,.sl 4 (l.map aSyn)] (.tup [aRelR n rs,ai e])→PC Proofs.Tryz.prog 16 [aTr ps,.sl 4 (l.map aSyn)] (.tup [aRelR n rs,ai e])→PC Proofs.Tryz.prog 4 [aTr ps,.sl 4 (l.map aSyn)] (ab true):=fun n rs e h1 h2 h3=>by
   have hA:aRelR n rs = .agg [.sl 2 (rs.map (aBits n))]:=rfl
   rw[hA] at h1 h2 h3
   clear hR
   generalize rs.map (aBits n)=RR at *
   generalize l.map aSyn=SL at *
   generalize szW ps=z at *
   refine PC.enter 49 [.tmp 4] [2,5,7] Proofs.Tryz.func4 rfl rfl rfl rfl rfl (by simp) (AWp.of ?_);simp only[go_sem]
   refine Wk ?_
   refine Sd ?_
   refine(haw).val.use ?_;simp only[go_sem]
   refine Wk ?_
   refine Sd ?_
   refine(hsz).val.use ?_;simp only[go_sem,hS,hlm,hqb]
   refine W3 hS hlm hqb ?_
   refine Sd ?_
   refine(h2).val.use ?_;simp only[go_sem]
   refine Wk ?_
   intro b5
   refine Wk ?_
   refine Sd ?_
   refine(h3).val.use ?_;simp only[go_sem]
   refine Wk ?_
   intro b7
   refine Wk ?_
   refine Sd ?_
   refine(h1).val.use ?_;simp only[go_sem]
   refine Wk ?_
   refine ret_eq ?_;simp only[go_sem]
  cases hv:validF ps with
  | false =>
   have hva:=hvd.val
   have hrv:=hvd.rval
   rw[hv] at hva hrv
   exact fin 0 [] 1 (ref44_Same 0 [] (by simp) (by simp)) (control_Order_bad hva l 0) (ref44_Order_bad hrv l 0)
  | true =>
   have hs:=hvd.sm hv
   have h1:=control_Order ps hs l (by omega)
   have h2:=ref44_Order ps hs l (by omega)
   have hN:=valid_off hv
   refine fin _ _ _ (ref44_Same _ _ ?_ ?_) h1 h2
   ·split
    ·simp [relX];omega
    ·simp
   ·intro r hr
    split at hr
    ·obtain⟨i,_,rfl⟩:=List.mem_map.1 hr
     rw[words_len];unfold nW;omega
    ·cases hr
end Go.AL
end
section
namespace Go.AL
open Go Go.RowKit
set_option maxRecDepth 100000
section
variable {H:Type} {enc:TypeId × Value→H} {W:World}
theorem rdAsg:Rd enc Proofs.Tryz.prog W 204 2 aAsg (fun _=>True) :=
 (Rd.struct (ts:=[3,3]) Proofs.Tryz.underlying204 rfl rfl (by kernel_rfl) (by kernel_rfl)
  (.cons (Rd.int Proofs.Tryz.underlying3) (fun _=>⟨rfl,rfl⟩) (.cons (Rd.int Proofs.Tryz.underlying3) (fun _=>⟨rfl,rfl⟩) .nil))).map (fun (y:Int × Int × Unit)=>(y.1,y.2.1)) (fun _=>rfl) (fun _ _=>trivial)
theorem rdAsgs:Rd enc Proofs.Tryz.prog W 63 1 aAsgs (fun _=>True) :=
 (Rd.slice Proofs.Tryz.underlying63 (by kernel_rfl:Program.cellsOf Proofs.Tryz.prog 204=2) (by decide) rdAsg).map id (fun _=>rfl) (fun _ _=>trivial)
theorem rdVar:Rd enc Proofs.Tryz.prog W 201 2 aVar (fun _=>True) :=
 (Rd.struct (ts:=[9,3]) Proofs.Tryz.underlying201 rfl rfl (by kernel_rfl) (by kernel_rfl)
  (.cons (Rd.str Proofs.Tryz.underlying9) (fun _=>⟨rfl,rfl⟩) (.cons (Rd.int Proofs.Tryz.underlying3) (fun _=>⟨rfl,rfl⟩) .nil))).map (fun (y:ByteArray × Int × Unit)=>(y.1,y.2.1)) (fun _=>rfl) (fun _ _=>trivial)
theorem rdVars:Rd enc Proofs.Tryz.prog W 67 1 aVars (fun _=>True) :=
 (Rd.slice Proofs.Tryz.underlying67 (by kernel_rfl:Program.cellsOf Proofs.Tryz.prog 201=2) (by decide) rdVar).map id (fun _=>rfl) (fun _ _=>trivial)
theorem rdEv:Rd enc Proofs.Tryz.prog W 65 5 aEv (fun _=>True) :=
 (Rd.struct (ts:=[3,3,3,3,63]) Proofs.Tryz.underlying65 rfl rfl (by kernel_rfl) (by kernel_rfl)
  (.cons (Rd.int Proofs.Tryz.underlying3) (fun _=>⟨rfl,rfl⟩) (.cons (Rd.int Proofs.Tryz.underlying3) (fun _=>⟨rfl,rfl⟩) (.cons (Rd.int Proofs.Tryz.underlying3) (fun _=>⟨rfl,rfl⟩)
   (.cons (Rd.int Proofs.Tryz.underlying3) (fun _=>⟨rfl,rfl⟩) (.cons rdAsgs (fun _=>⟨rfl,rfl⟩) .nil)))))).map (fun (y:Int × Int × Int × Int × List (Int × Int) × Unit)=>⟨y.1,y.2.1,y.2.2.1,y.2.2.2.1,y.2.2.2.2.1⟩) (fun _=>rfl) (fun _ _=>trivial)
end
end Go.AL
end
section
namespace Go.AL
open Go Go.RowKit
set_option maxRecDepth 100000
section
variable {H:Type} {enc:TypeId × Value→H} {W:World}
theorem rdEvsM:Rd enc Proofs.Tryz.prog W 66 1 aEvs (fun l=>l.length≤maxLen) :=
 (Rd.slice Proofs.Tryz.underlying66 (by kernel_rfl:Program.cellsOf Proofs.Tryz.prog 65=5) (by decide) rdEv).map id (fun _=>rfl) (fun _ h=>h.1)
theorem rdPrM:Rd enc Proofs.Tryz.prog W 69 3 aPr (fun p=>p.evs.length≤maxLen) :=
 (Rd.struct (ts:=[9,67,66]) Proofs.Tryz.underlying69 rfl rfl (by kernel_rfl) (by kernel_rfl)
  (.cons (Rd.str Proofs.Tryz.underlying9) (fun _=>⟨rfl,rfl⟩) (.cons rdVars (fun _=>⟨rfl,rfl⟩) (.cons rdEvsM (fun _=>⟨rfl,rfl⟩) .nil)))).map (fun (y:ByteArray × List (ByteArray × Int) × List Ev × Unit)=>⟨y.1,y.2.1,y.2.2.1⟩) (fun _=>rfl) (fun _ h=>h.2.2.1)
theorem rdPrsM:Rd enc Proofs.Tryz.prog W 22 1 aPrs (fun l=>l.length≤maxLen∧∀p ∈ l,p.evs.length≤9223372036854775807) :=
 (Rd.slice Proofs.Tryz.underlying22 (by kernel_rfl:Program.cellsOf Proofs.Tryz.prog 69=3) (by decide) rdPrM).map id (fun _=>rfl) (fun _ h=>h)
theorem rdTrM:Rd enc Proofs.Tryz.prog W 24 1 aTr (fun l=>l.length≤maxLen∧∀p ∈ l,p.evs.length≤9223372036854775807) :=
 (Rd.struct (ts:=[22]) Proofs.Tryz.underlying24 rfl rfl (by kernel_rfl) (by kernel_rfl) (.cons rdPrsM (fun _=>⟨rfl,rfl⟩) .nil)).map (fun (y:List Pr × Unit)=>y.1) (fun _=>rfl) (fun _ h=>h.1)
end
end Go.AL
end
section
namespace Go.AL
open Go Go.RowKit
set_option maxRecDepth 100000
section
variable {H:Type} {enc:TypeId × Value→H} {W:World}
end
end Go.AL
end
section
namespace Go.AL
open Go Go.RowKit
set_option maxRecDepth 100000
section
variable {H:Type} {enc:TypeId × Value→H} {W:World}
theorem rdEid:Rd enc Proofs.Tryz.prog W 74 2 aEid (fun _=>True) :=
 (Rd.struct (ts:=[3,3]) Proofs.Tryz.underlying74 rfl rfl (by kernel_rfl) (by kernel_rfl)
  (.cons (Rd.int Proofs.Tryz.underlying3) (fun _=>⟨rfl,rfl⟩) (.cons (Rd.int Proofs.Tryz.underlying3) (fun _=>⟨rfl,rfl⟩) .nil))).map (fun (y:Int × Int × Unit)=>(y.1,y.2.1)) (fun _=>rfl) (fun _ _=>trivial)
end
end Go.AL
end
section
namespace Go.AL
open Go Go.RowKit
set_option maxRecDepth 100000
section
variable {H:Type} {enc:TypeId × Value→H} {W:World}
theorem rd_two {P:Program} {t t1 t2:TypeId} {f0 f1:Field} {k1 k2:Nat} {α β:Type} {F1:α→List AV} {F2:β→List AV} {ok1:α→Prop} {ok2:β→Prop} (ht:P.underlying t=some (.struct #[f0,f1])) (h1t:f0.type=t1) (h2t:f1.type=t2)
  (o1:f0.offset=0) (o2:f1.offset=k1) (c1:P.cellsOf t1=k1) (c2:P.cellsOf t2=k2) (c:P.cellsOf t=k1+k2) (h1:Rd enc P W t1 k1 (fun y => .agg (F1 y)) ok1) (h2:Rd enc P W t2 k2 (fun y => .agg (F2 y)) ok2) :
  Rd enc P W t (k1+k2) (fun y:α × β => .agg (F1 y.1 ++ F2 y.2)) (fun y=>ok1 y.1∧ok2 y.2):=by
 intro fuel cs x hx
 obtain⟨xs,n,_,_,hl,hlen,hf⟩:=DataW.trod_struct ht hx
 have g1:=hf 0 f0 rfl
 have g2:=hf 1 f1 rfl
 rw[h1t,o1,c1,List.drop_zero] at g1
 rw[h2t,o2,c2] at g2
 have hx0:∃x0 x1,xs=[x0,x1]:=by
  match xs,hlen with
  | [x0,x1],_=>exact⟨x0,x1,rfl⟩
 obtain⟨x0,x1,rfl⟩:=hx0
 obtain⟨a,a1,a2,a3,a4⟩:=h1 _ _ _ g1
 obtain⟨b,b1,b2,b3,b4⟩:=h2 _ _ _ g2
 have al:(F1 a).length=k1:=a2.1
 have bl:(F2 b).length=k2:=b2.1
 have ao:(F1 a).all one=true:=a2.2
 have bo:(F2 b).all one=true:=b2.2
 have a4:∀(i:Nat) c u,(F1 a)[i]?=some c→(cs.take k1)[i]?=some u→Rel W (fun b=>b<W.heap.size) c u:=a4
 have b4:∀(i:Nat) c u,(F2 b)[i]?=some c→((cs.drop k1).take k2)[i]?=some u→Rel W (fun b=>b<W.heap.size) c u:=b4
 refine⟨(a,b),⟨a1,b1⟩,⟨?_,?_⟩,by omega,fun i cc u hc hu => ?_⟩
 ·show (F1 a ++ F2 b).length=_
  rw[List.length_append];omega
 ·show (F1 a ++ F2 b).all one=true
  rw[List.all_append,ao,bo];rfl
 ·have hc:(F1 a ++ F2 b)[i]?=some cc:=hc
  by_cases hi:i<k1
  ·refine a4 i cc u ?_ ?_
   ·rwa [List.getElem?_append_left (by omega)] at hc
   ·rw[List.getElem?_take,if_pos hi];exact hu
  ·rw[List.getElem?_append_right (by omega)] at hc
   refine b4 (i - k1) cc u (by rw[← al];exact hc) ?_
   have hi2:i - (F1 a).length<(F2 b).length:=(List.getElem?_eq_some_iff.1 hc).1
   rw[List.getElem?_take,if_pos (by omega),List.getElem?_drop,show k1+(i - k1)=i by omega];exact hu
theorem rdSyn:Rd enc Proofs.Tryz.prog W 76 4 aSyn (fun _=>True) :=
 (rd_two (t1:=74) (t2:=74) Proofs.Tryz.underlying76 rfl rfl rfl rfl (by kernel_rfl) (by kernel_rfl) (by kernel_rfl) (F1:=fun x:Eid=>[ai x.1,ai x.2]) (F2:=fun x:Eid=>[ai x.1,ai x.2]) rdEid rdEid).map (fun y:Eid × Eid=>y) (fun _=>rfl) (fun _ _=>trivial)
theorem rdSyns:Rd enc Proofs.Tryz.prog W 29 1 aSyns (fun l=>l.length≤maxLen) :=
 (Rd.slice Proofs.Tryz.underlying29 (by kernel_rfl:Program.cellsOf Proofs.Tryz.prog 76=4) (by decide) rdSyn).map id (fun _=>rfl) (fun _ h=>h.1)
end
end Go.AL
end
