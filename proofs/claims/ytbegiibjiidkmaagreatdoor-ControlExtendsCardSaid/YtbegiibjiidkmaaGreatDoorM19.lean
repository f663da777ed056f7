/- Texts of this claim's proof: WY15, WY16. No condition. -/
import Derived.Test.YtbegiibjiidkmaaGreatDoorM18
import Derived.Test.YtbegiibjiidkmaaGreatDoorM16
section
namespace Go.AL
open Go Go.RowKit Proofs.Tryz
set_option maxRecDepth 4000
theorem chn_all {ps:List Pr} : ∀ {R:List (List Int)} {c:List Int},chnF ps c R=true->∀d ∈ R,isF ps d=true
 | [],_,_,d,hd=>nomatch hd
 | a :: R,c,h,d,hd=>by
  have e:chnF ps c (a :: R)=((isF ps a && decide (0<=stepF c a)) && chnF ps a R):=rfl
  rw[e,Bool.and_eq_true,Bool.and_eq_true] at h
  rcases List.mem_cons.1 hd with rfl|hd
  ·exact h.1.1
  ·exact chn_all h.2 d hd
theorem chn_between {ps:List Pr}{R:List (List Int)}{c to:List Int}(hc:isF ps c=true)(h:chnF ps c R=true)(hl:(c :: R).getLast?=some to):∀d ∈ R,isF ps d=true/\leqF c d=true/\leqF d to=true:=fun d hd=>by
 have htl:=(chn_last hc h hl).1
 obtain⟨i,hi,rfl⟩:=List.getElem_of_mem hd
 have hlast:(c :: R)[R.length]'(by simp)=to:=by
  rw[List.getLast?_eq_getElem?,List.length_cons,Nat.add_sub_cancel,List.getElem?_eq_getElem (by simp)] at hl
  exact Option.some.inj hl
 have hcl:=(isF_iff.1 hc).1
 have e1:(c :: R)[i+1]'(by simp;exact hi)=R[i]:=rfl
 have hi1:isF ps R[i]=true:=by
  have:=chn_all h
  exact this _ hd
 have hdl:=(isF_iff.1 hi1).1
 refine⟨hi1,(leq_at hcl hdl).2 fun q hq=>?_,(leq_at hdl (isF_iff.1 htl).1).2 fun q hq=>?_⟩
 ·have:=chn_mono hc h (i:=0) (by simp) (i+1) (by rw[List.length_cons];omega) q hq
  have e:(c :: R)[0+(i+1)]'(by rw[List.length_cons];omega)=R[i]:=by simp
  rw[e] at this
  exact this
 ·have:=chn_mono hc h (i:=i+1) (by simp;exact hi) (R.length - (i+1)) (by rw[List.length_cons];omega) q hq
  have e:(c :: R)[i+1+(R.length - (i+1))]'(by rw[List.length_cons];omega)=to:=by
   rw[<- hlast];congr 1;omega
  rw[e] at this
  exact this
set_option maxHeartbeats 2000000 in
theorem order_dodge (ps:List Pr)(hs:Sm ps)(hv:validF ps=true)(w:Bool){b:Nat->Nat->Bool}{rows:Nat->List Stp}(hR:RowsOk ps b rows)(hlen:∀p,p<ps.length->(rows p).length<=1000000)(hT:¬ ∃t,TgtS ps rows t) :
  MCalls prog 57 [aOrd ps (exF ps []) w,aStss ((List.range ps.length).map rows)] [] fun r L=>L=[]/\∃R,DodgeR ps b (zeroC ps :: R)/\r = .sl 2 ((evtG (zeroC ps) R).map aEid):=by
 obtain⟨hl1,hl8⟩:=valid_len hv
 have hps:=hs.procs
 have hoff:=valid_off hv
 refine MCalls.toS (K:=fun r L=>∃R,DodgeR ps b (zeroC ps :: R)/\AppSt 53 2 ((evtG (zeroC ps) R).map aEid) r L) ?_ (fun r L ⟨R,h1,h2⟩=>⟨_,by have:=h2.vw [];rwa [List.append_nil] at this,R,h1,rfl⟩)
 have hcr:=fun c hc x hx=>order_cross hv hs w hR hlen (c:=c) hc (x:=x) hx
 have hadv:=fun bc bx c to hc ht hle E hE L hL=>order_advance hs hv w bc bx (c:=c) (to:=to) hc ht hle E hE (L:=L) hL
 have hord:=fun p hp i hi=>ord_at hv (p:=p) hp (i:=i) hi
 obtain⟨T,hT0⟩:∃T,T=(List.range ps.length).map fun p=>AV.sl 1 ((exF ps [] p).map aInts):=⟨_,rfl⟩
 have hTl:T.length=ps.length:=by rw[hT0];simp
 have hX:aOrd ps (exF ps []) w = .rp 3 [.agg [.sl 3 (ps.map aPr),.sl 1 T,ab w]] 0 0:=by rw[hT0];rfl
 simp only[<- hT0] at hord
 simp only[hX] at hcr hadv
 rw[hX]
 clear hX hT0
 have hrl:((List.range ps.length).map rows).length=ps.length:=by simp
 have hcl:=sts_cloneO ((List.range ps.length).map rows) (by omega)
 rw[rowsD_zero] at hcl
 have hss:aStss ((List.range ps.length).map rows) = .sl 1 (rowsD ps.length rows fun _=>0):=by rw[<- rowsD_zero];rfl
 rw[hss] at hcl ⊢
 have hz:(List.replicate ps.length (ai 0))=(zeroC ps).map ai:=by unfold zeroC;rw[List.map_replicate]
 have hl0:=rowsD_len ps.length rows fun _=>0
 refine MCalls.enter' 143 [.tmp 4] [2,5,17] func57 rfl rfl rfl rfl rfl (by simp) (AWp.of ?_);simp only[go_sem]
 refine W1 hl0 ?_
 intro bc bj hbj
 refine W1 hl0 ?_
 intro bx hx1
 have n1:¬bc=bx:=by omega
 have n2:¬bx=bc:=by omega
 refine W1 hl0 ?_
 refine(MVal.frame (Lm:=[]) (Lr:=[(bx,.row 102 1 [anil] 1),(bc,.row 3 1 (List.replicate ps.length (ai 0)) ps.length)]) hcl.val).mono ?_
 rintro r L ⟨L1,rfl,hA⟩
 rcases hA.inv with ⟨e1,_,_⟩|⟨bl,cap,rfl,rfl⟩
 ·have:=congrArg List.length e1
  rw[rowsD_len,List.length_nil] at this
  omega
 rw[rowsD_len,hz]
 clear hcl hss
 simp only[go_sem,List.cons_append,List.nil_append]
 refine AWp.perm (L':=(bl,.row 72 1 (rowsD ps.length rows fun _=>0) cap) :: (bc,.row 3 1 ((zeroC ps).map ai) ps.length) :: (bx,.row 102 1 [anil] 1) :: []) ((List.Perm.swap _ _ _).cons _) ?_
 have hza:=zero_avoid hR hT
 have hA0:AdvL ps.length bc bx (zeroC ps) (evtG (zeroC ps) []) [(bc,.row 3 1 ((zeroC ps).map ai) ps.length),(bx,.row 102 1 [anil] 1)]:=⟨anil,[],rfl,.nil,n1,fun y hy=>by cases hy⟩
 have hz0:(zeroC ps).sum=0:=by unfold zeroC;simp
 have hel:=fun p (hp:p<ps.length) i (hi:i<(rows p).length)=>(hR p hp).el _ (List.getElem_mem hi)
 have hnb:=fun p (hp:p<ps.length)=>show nev ps p<=1000000 by rw[nev_get hp];exact hs.evs _ (List.getElem_mem hp)
 have hfi:=fullC_is hv
 refine AWp.cut [2,5,6,7] (fun vs L=>∃(R:List (List Int)) (d:List Int),DgO ps b (zeroC ps :: R) d/\AdvL ps.length bc bx d (evtG (zeroC ps) R) L/\(∃p,p<ps.length/\∀s ∈ rows p,(s.2.2:Int)<cAt d p) /\
  vs=[.rp 1 [.rp 3 [.agg [.sl 3 (ps.map aPr),.sl 1 T,ab w]] 0 0] 0 0,.rp 1 [.ls bc 1 0 ps.length ps.length] 0 0,.lp bx 1 0 0,.clo 100 [.rp 1 [.ls bc 1 0 ps.length ps.length] 0 0,.rp 1 [.rp 3 [.agg [.sl 3 (ps.map aPr),.sl 1 T,ab w]] 0 0] 0 0,.lp bx 1 0 0]]) ?_ ?_
 ·refine Sd ?_
  refine Ao ?_
  refine AWp.block (AWp.count 24 1000 [] [1,2,5,6,7] (fun k vs L=>vs=[]/\∃(R:List (List Int)) (d:List Int) (x:Nat->Nat) (L1:AHeap),L=(bl,.row 72 1 (rowsD ps.length rows x) cap) :: L1/\DgO ps b (zeroC ps :: R) d/\DgI ps rows d/\AdvL ps.length bc bx d (evtG (zeroC ps) R) L1/\(k:Int)<=d.sum /\
   (∀p,p<ps.length->x p<=(rows p).length)/\∀p,p<ps.length->∀j,j<x p->((fSp rows p j).2.2:Int)<cAt d p) rfl rfl ⟨rfl,[],zeroC ps,fun _=>0,_,rfl,.start hza,dg_zero,hA0,by rw[hz0];exact Int.le_refl _,fun _ _=>Nat.zero_le _,fun _ _ j h=>absurd h (Nat.not_lt_zero _)⟩ ?_)
  rintro k vs L hk - ⟨rfl,R,d,x0,L1,rfl,hO,hI,hL1,hks,hxl0,hxb0⟩
  obtain⟨hdl,hdr,_⟩:=isF_iff.1 hI.is
  have hds:=sum_le_off hI.is
  simp only[go_sem]
  refine Wk ?_
  constructor<;>intro h1
  ·obtain⟨v,Le,rfl,hA,hne,hnl⟩:=id hL1
   refine AWp.nodup fun hnd=>?_
   obtain⟨⟨m1,m2⟩,⟨m3,m4⟩,⟨m5,m6⟩,m7⟩:=nd3 hnd
   have hdm:(d.map ai).length=ps.length:=by rw[List.length_map,hdl]
   have hdg:∀q (hq:q<ps.length),(d.map ai).getD q .any=ai (cAt d q):=fun q hq=>by rw[getD_map (by omega),<- cAt_nat]
   refine Wk ?_
   refine AWp.range' ps.length [8] [1,2,5,6,7,24,27] (fun p vs L=>∃(x:Nat->Nat) (ov:Bool),vs=[ab ov]/\L=(bl,.row 72 1 (rowsD ps.length rows x) cap) :: (bc,.row 3 1 (d.map ai) ps.length) :: (bx,.row 102 1 [v] 1) :: Le /\
    (∀p,p<ps.length->x p<=(rows p).length)/\(∀p,p<ps.length->∀j,j<x p->((fSp rows p j).2.2:Int)<cAt d p)/\(ov=true->∃q,q<p/\x q=(rows q).length)/\(ov=false->∀q,q<p->x q<(rows q).length/\cAt d q<=((fSp rows q (x q)).2.2:Int))/\∀q,p<=q->x q=x0 q) (by omega) rfl rfl rfl
    ⟨x0,false,rfl,rfl,hxl0,hxb0,fun h=>(by cases h),fun _ q h=>absurd h (Nat.not_lt_zero _),fun _ _=>rfl⟩ ?_ ?_
   ·rintro p vs L hp - ⟨x1,ov,rfl,rfl,hxl1,hxb1,hov1,hno1,hsm1⟩
    simp only[go_sem]
    refine AWp.block ?_
    refine Sd ?_
    refine Ao ?_
    refine AWp.cut [1,2,5,6,7,8,9,24,27,28] (fun vs L=>∃x:Nat->Nat,L=(bl,.row 72 1 (rowsD ps.length rows x) cap) :: (bc,.row 3 1 (d.map ai) ps.length) :: (bx,.row 102 1 [v] 1) :: Le/\(∀q,q ≠ p->x q=x1 q)/\x p<=(rows p).length/\(∀j,j<x p->((fSp rows p j).2.2:Int)<cAt d p)/\(x p<(rows p).length->cAt d p<=((fSp rows p (x p)).2.2:Int)) /\
     vs=[.ls bl 1 0 ps.length cap,.rp 1 [.rp 3 [.agg [.sl 3 (ps.map aPr),.sl 1 T,ab w]] 0 0] 0 0,.rp 1 [.ls bc 1 0 ps.length ps.length] 0 0,.lp bx 1 0 0,.clo 100 [.rp 1 [.ls bc 1 0 ps.length ps.length] 0 0,.rp 1 [.rp 3 [.agg [.sl 3 (ps.map aPr),.sl 1 T,ab w]] 0 0] 0 0,.lp bx 1 0 0],ab ov,ai p,ai k,ai ps.length,ai p]) ?_ ?_
    ·refine AWp.block (AWp.loopN [] [1,2,5,6,7,8,9,24,27,28] (fun m vs L=>vs=[]/\∃x:Nat->Nat,L=(bl,.row 72 1 (rowsD ps.length rows x) cap) :: (bc,.row 3 1 (d.map ai) ps.length) :: (bx,.row 102 1 [v] 1) :: Le/\(∀q,q ≠ p->x q=x1 q)/\x p<=(rows p).length/\(∀j,j<x p->((fSp rows p j).2.2:Int)<cAt d p)/\m=(rows p).length - x p)
      _ ⟨rfl,x1,rfl,fun _ _=>rfl,hxl1 p hp,hxb1 p hp,rfl⟩ ?_)
     rintro m vs L - ⟨rfl,x2,rfl,hq2,hl2,hb2,rfl⟩
     have g1:=rowsD_get hp rows x2
     have hrl2:=rowsD_len ps.length rows x2
     have gd:=hdg p hp
     have hset:=rowsD_set (n:=ps.length) (q:=p) rows x2
     have hlr:=hlen p hp
     have hXl:(((rows p).drop (x2 p)).map aStp).length=(rows p).length - x2 p:=by rw[List.length_map,List.length_drop]
     have hrow:(rows p).length=x2 p\/x2 p<(rows p).length:=by omega
     simp only[go_sem]
     rcases hrow with he|hlt
     ·have hX0:(((rows p).drop (x2 p)).map aStp).getD 0 .any = .any:=by rw[List.drop_of_length_le (by omega)];rfl
      have hXn:¬(0:Int)<((((rows p).drop (x2 p)).map aStp).length:Int):=by omega
      generalize hXX:((rows p).drop (x2 p)).map aStp=X at *
      refine AWp.seq ?_
      refine Sq ?_
      refine AWp.read mixed [0,1,2,3,4,5,6,7,8,9,10,11,12,13,14,15,16,17,18,19] (by kernel_rfl) ?_;simp only[go_sem,g1,gd,hX0,hXn,hrl2,hdm,m1,m2,m3,m4,m5,m6,List.getD_nil]
      refine Sd ?_
      refine Wk ?_
      exact⟨_,.refl _,x2,rfl,hq2,hl2,hb2,fun h=>by omega⟩
     ·have hd1:=rowsD_hd hlt
      have hel2:=hel p hp (x2 p) hlt
      rw[<- fSp_eq] at hel2
      have es:aStp (fSp rows p (x2 p)) = .agg [ai (fSp rows p (x2 p)).1,ai (fSp rows p (x2 p)).2.1,ai (fSp rows p (x2 p)).2.2]:=rfl
      rw[es] at hd1
      obtain⟨_,_,he3,_⟩:=hel2
      have hnbp:=hnb p hp
      generalize hXX:((rows p).drop (x2 p)).map aStp=X at *
      refine AWp.seq ?_
      refine Sq ?_
      refine AWp.read mixed [0,1,2,3,4,5,6,7,8,9,10,11,12,13,14,15,16,17,18,19] (by kernel_rfl) ?_;simp only[go_sem,g1,gd,hd1,hrl2,hdm,m1,m2,m3,m4,m5,m6]
      refine Sd ?_
      repeat(first|((with_reducible refine AWp.ofC ?_ ?_);exact rfl;simp only[go_sem,g1,gd,hd1,hrl2,hdm,m1,m2,m3,m4,m5,m6])|((with_reducible refine an ?_ ?_);exact Au))
      refine⟨fun h2 h3=>?_,fun h2=>?_⟩
      ·refine AWp.block ?_
       repeat(first|((with_reducible refine AWp.ofC ?_ ?_);exact rfl;simp only[go_sem,g1,gd,hd1,hrl2,hdm,m1,m2,m3,m4,m5,m6])|((with_reducible refine an ?_ ?_);exact Au))
       refine Sd ?_
       rw[hset]
       refine⟨_,.refl _,(rows p).length - (x2 p+1),by omega,updN x2 p (x2 p+1),rfl,fun q hq=>by rw[updN_ne hq];exact hq2 q hq,by rw[updN_self];omega,fun j hj=>?_,by rw[updN_self]⟩
       rw[updN_self] at hj
       by_cases e:j=x2 p
       ·subst e;exact h3
       ·exact hb2 j (by omega)
      ·refine⟨_,.refl _,x2,rfl,hq2,hl2,hb2,fun _=>?_⟩
       have:=h2 (by omega)
       omega
    ·rintro vs L - ⟨x2,rfl,hq2,hl2,hb2,hg2,rfl⟩
     have g1:=rowsD_get hp rows x2
     have hrl2:=rowsD_len ps.length rows x2
     have hlr:=hlen p hp
     have hXl:(((rows p).drop (x2 p)).map aStp).length=(rows p).length - x2 p:=by rw[List.length_map,List.length_drop]
     have hXd:((rows p).drop (x2 p)).length=(rows p).length - x2 p:=List.length_drop
     simp only[go_sem]
     repeat(first|((with_reducible refine AWp.ofC ?_ ?_);exact rfl;simp only[go_sem,g1,hrl2,m1,m2,m3,m4,m5,m6])|((with_reducible refine an ?_ ?_);exact Au))
     refine⟨_,.refl _,x2,_,rfl,rfl,fun q hq=>?_,fun q hq=>?_,fun h=>?_,fun h q hq=>?_,fun q hq=>by rw[hq2 q (by omega)];exact hsm1 q (by omega)⟩
     ·by_cases e:q=p
      ·subst e;exact hl2
      ·rw[hq2 q e];exact hxl1 q hq
     ·by_cases e:q=p
      ·subst e;exact hb2
      ·rw[hq2 q e];exact hxb1 q hq
     ·rw[Bool.or_eq_true,decide_eq_true_eq] at h
      rcases h with h|h
      ·obtain⟨q,hq,hxq⟩:=hov1 h
       exact⟨q,by omega,by rw[hq2 q (by omega)];exact hxq⟩
      ·exact⟨p,by omega,by omega⟩
     ·rw[Bool.or_eq_false_iff,decide_eq_false_iff_not] at h
      by_cases e:q=p
      ·subst e
       exact⟨by omega,hg2 (by omega)⟩
      ·rw[hq2 q e];exact hno1 h.1 q (by omega)
   ·rintro vs L - ⟨x,ov,rfl,rfl,hxl,hxb,hov,hno,-⟩
    simp only[go_sem]
    refine Wk ?_
    constructor<;>intro h2
    ·obtain⟨q,hq,hxq⟩:=hov (by simpa using h2)
     refine⟨_,List.sublist_cons_self _ _,R,d,hO,hL1,q,hq,fun s hs=>?_⟩
     obtain⟨j,hj,rfl⟩:=List.getElem_of_mem hs
     have:=hxb q hq j (by omega)
     rwa [fSp_eq hj] at this
    ·have hxx:=hno (by simpa using h2)
     have hCom:Com ps rows d x:=⟨fun p hp=>(hxx p hp).1,fun p hp=>(hxx p hp).2,hxb⟩
     have hcrs:=hcr d hI.is x hCom.lt
     rcases crs_cases ps.length (crP ps rows x d) with ⟨i,j,hi,hj,hP,hE⟩|⟨hP,_⟩
     ·rw[hE] at hcrs
      unfold crP at hP
      simp only[Bool.and_eq_true,decide_eq_true_eq,Bool.not_eq_true'] at hP
      obtain⟨hij,hci,hbg⟩:=hP
      obtain⟨s1,s2,s3,s4,s5⟩:=dg_step hv hR hI hCom hi hj hci hbg
      have hvw:Vws ((bl,.row 72 1 (rowsD ps.length rows x) cap) :: (bc,.row 3 1 (d.map ai) ps.length) :: (bx,.row 102 1 [v] 1) :: Le) [.rp 3 [.agg [.sl 3 (ps.map aPr),.sl 1 T,ab w]] 0 0,.ls bc 1 0 ps.length ps.length,.ls bl 1 0 ps.length cap] [.rp 3 [.agg [.sl 3 (ps.map aPr),.sl 1 T,ab w]] 0 0,.sl 1 (d.map ai),.sl 1 (rowsD ps.length rows x)] :=
       Vws.cons (.refl _) (Vws.cons (Vw.ofLs (t:=3) (cap:=ps.length) (by simp only[lk,m2,if_false,if_true]) hdm.symm) (Vws.cons (Vw.ofLs (t:=72) (cap:=cap) (if_pos rfl) (rowsD_len _ _ _).symm) .nil))
      have hown:Own (.tup [ai i,ai j]):=Own.tup fun w hw=>by
       simp only[List.mem_cons,List.not_mem_nil,or_false] at hw
       rcases hw with rfl|rfl <;> exact Own.v _
      have hin:¬(i:Int)<0:=by omega
      refine W6 m1 m2 m3 m4 m5 m6 ?_
      refine(PC.view hvw hcrs hown ?_).val
      simp only[go_sem]
      repeat(first|((with_reducible refine AWp.ofC ?_ ?_);exact rfl;simp only[go_sem,hin,m1,m2,m3,m4,m5,m6])|((with_reducible refine an ?_ ?_);exact Au))
      have hdL:d.length<=1000000:=by omega
      refine(MCalls.viewed (Vws.cons (Vw.ofLs (t:=3) (cap:=ps.length) (by simp only[lk,m2,if_false,if_true]) hdm.symm) .nil) (ints_cloneO d hdL) (fun r L1 h=>h.own (own_ints _))).val.mono ?_
      rintro r L' ⟨L5,rfl,hA5⟩
      rcases hA5.inv with ⟨e1,_,_⟩|⟨bt,capt,rfl,rfl⟩
      ·have:d.length=0:=by simpa using congrArg List.length e1
       omega
      rw[hdm]
      simp only[go_sem,List.cons_append,List.nil_append]
      refine AWp.nodup fun hnd2=>?_
      obtain⟨⟨t1,t2⟩,⟨t3,t4⟩,_,t7⟩:=nd3 hnd2
      obtain⟨t5,t6⟩:=(t7 (bx,_) List.mem_cons_self).1
      simp only at t5 t6
      clear hnd2 t7
      have hxj:=(hxx j hj).1
      have g1:=rowsD_get hj rows x
      have g2:=rowsD_hd hxj
      have hrl2:=rowsD_len ps.length rows x
      have hlj:=hlen j hj
      have hXl:(((rows j).drop (x j)).map aStp).length=(rows j).length - x j:=by rw[List.length_map,List.length_drop]
      have es:aStp (fSp rows j (x j)) = .agg [ai (fSp rows j (x j)).1,ai (fSp rows j (x j)).2.1,ai (fSp rows j (x j)).2.2]:=rfl
      rw[es] at g2
      have hnbj:=hnb j hj
      obtain⟨o1,o2,o3,o4⟩:=hord j hj _ s1
      have g6:((((fSp rows j (x j)).2.2:Nat):Int)+1).toNat=(fSp rows j (x j)).2.2+1:=by omega
      generalize ((rows j).drop (x j)).map aStp=X at *
      generalize (fSp rows j (x j)).2.2=se at *
      generalize (fSp rows j (x j)).2.1=sf at *
      generalize (fSp rows j (x j)).1=sp at *
      generalize ptF ps j se=w0 at *
      refine Sq ?_
      refine AWp.read mixed [0,1,2,3,4,5,6,7,8,9,10,11,12,13,14,15,16,17,18] (by kernel_rfl) ?_;simp only[go_sem,g1,g2,g6,hrl2,hTl,o1,o2,o3,m1,m2,m3,m4,m5,m6,t1,t2,t3,t4,t5,t6]
      refine Sd ?_
      have hwl:w0.length=ps.length:=o4
      have hJl:(joinL d w0).length=d.length:=join_len (by omega)
      refine AWp.range' ps.length [] [1,2,5,6,7,12,24,97,98] (fun i vs L=>vs=[]/\L=(bt,.row 3 1 ((mixJ (joinL d w0) d i).map ai) capt) :: (bl,.row 72 1 (rowsD ps.length rows x) cap) :: (bc,.row 3 1 (d.map ai) ps.length) :: (bx,.row 102 1 [v] 1) :: Le) (by omega) rfl (by rw[<- hwl];simp [get]) rfl ⟨rfl,by rw[mixJ_zero]⟩ ?_ ?_
      ·rintro i vs L hi - ⟨rfl,rfl⟩
       have hic:i<d.length:=by omega
       have hml:=mixJ_len hJl (show i<=d.length by omega)
       have hmg:=mixJ_get hJl hic
       have hms:=mixJ_set hJl hic
       have hgm:=getD_map (f:=ai) (l:=mixJ (joinL d w0) d i) (k:=i) (by omega)
       rw[hmg] at hgm
       have hgP:=getD_map (f:=ai) (l:=w0) (k:=i) (by omega)
       have hJi:(joinL d w0)[i]'(by omega)=if d[i]<w0[i]'(by omega) then w0[i]'(by omega) else d[i]:=by unfold joinL;rw[List.getElem_zipWith]
       rw[hJi] at hms
       have hms2:((mixJ (joinL d w0) d i).map ai).set i (ai (if d[i]<w0[i]'(by omega) then w0[i]'(by omega) else d[i]))=(mixJ (joinL d w0) d (i+1)).map ai:=by rw[map_set_ai,hms]
       have hmml:((mixJ (joinL d w0) d i).map ai).length=ps.length:=by rw[List.length_map,hml,hdl]
       generalize (mixJ (joinL d w0) d (i+1)).map ai=ys' at *
       generalize (mixJ (joinL d w0) d i).map ai=ys at *
       generalize d[i]=z1 at *
       generalize w0[i]'_=z2 at *
       simp only[go_sem]
       repeat(first|((with_reducible refine AWp.ofC ?_ ?_);exact rfl;simp only[go_sem,hgm,hgP,hmml,m1,m2,m3,m4,m5,m6,t1,t2,t3,t4,t5,t6])|((with_reducible refine an ?_ ?_);exact Au))
       exact⟨_,.refl _,by rw[hms2]⟩
      ·rintro vs L - ⟨rfl,rfl⟩
       have hmf:=mixJ_full hJl
       rw[hdl] at hmf
       rw[hmf]
       generalize hJ:joinL d w0=J at *
       refine AWp.viewP (Lf:=[(bt,.row 3 1 (J.map ai) capt)]) (Lk:=(bl,.row 72 1 (rowsD ps.length rows x) cap) :: (bc,.row 3 1 (d.map ai) ps.length) :: (bx,.row 102 1 [v] 1) :: Le) (L':=(bl,.row 72 1 (rowsD ps.length rows x) cap) :: (bc,.row 3 1 (d.map ai) ps.length) :: (bx,.row 102 1 [v] 1) :: Le) (List.Perm.refl _) (LVw.refl _) [(12,.sl 1 (J.map ai))] (fun z hz=>?_) ?_
       ·obtain rfl:=List.mem_singleton.1 hz
        simp only[go_sem]
        exact Vw.ofLs (t:=3) (cap:=capt) (if_pos rfl) (by rw[List.length_map];omega)
       have hJs:=sum_le_off s2.is
       have hdsum:=hO.is.2
       rw[List.length_cons] at hdsum
       have hE:(evtG (zeroC ps) R).length+(J.sum - d.sum).toNat<=1000:=by rw[evtG_len];omega
       have had:=hadv bc bx d J hI.is s2.is s3 (evtG (zeroC ps) R) hE _ hL1
       simp only[go_sem]
       refine Wk ?_
       refine(MVal.perm (L':=((bc,.row 3 1 (d.map ai) ps.length) :: (bx,.row 102 1 [v] 1) :: Le) ++ [(bl,.row 72 1 (rowsD ps.length rows x) cap)]) (List.perm_append_comm (l₂:=[_])) (MVal.frame (MCalls.clo (args:=[_]) (caps:=[_,_,_]) had))).mono ?_
       rintro r L ⟨L2,rfl,rfl,R',hch',hla',hL'⟩
       simp only[go_sem]
       refine AWp.perm (List.perm_append_comm (l₂:=[_])) ?_
       simp only[List.cons_append,List.nil_append]
       refine Wk ?_
       have hdJ:=(leq_at hdl (isF_iff.1 s2.is).1).1 s3
       refine⟨_,.refl _,R ++ R',J,x,L2,rfl,hO.go hch' hla' (fun e he=>?_),s2,by rw[evtG_app hO.last];exact hL',by omega,hxl,fun p hp jj hjj=>Int.lt_of_lt_of_le (hxb p hp jj hjj) (hdJ p hp)⟩
       obtain⟨b1,b2,b3⟩:=chn_between hI.is hch' hla' e he
       exact s5 e b1 b2 b3
     ·exfalso
      refine hT ⟨x,dg_tight hv hR hI hCom fun i k hi hk hik hc=>?_⟩
      have:=hP i hi k hk
      unfold crP at this
      simpa [hik,hc] using this
  ·exfalso
   omega
 ·rintro vs L - ⟨R,d,hO,hL1,⟨p,hp,hpe⟩,rfl⟩
  obtain⟨hdI,hdsum⟩:=hO.is
  obtain⟨v,Le,rfl,hA,hne,hnl⟩:=id hL1
  have hfl:(fullC ps).length=ps.length:=by unfold fullC;rw[List.length_map]
  have hfsum:=fullC_sum ps
  have q1:¬bc=bx:=hne
  have q2:¬bx=bc:=fun e=>hne e.symm
  rw[List.length_cons] at hdsum
  simp only[go_sem]
  refine W2 q1 q2 ?_
  intro bf q3 q4
  intros
  have q5:¬bf=bc:=by omega
  have q6:¬bf=bx:=by omega
  have q7:¬bc=bf:=by omega
  have q8:¬bx=bf:=by omega
  refine W6 q1 q2 q5 q6 q7 q8 ?_
  refine AWp.range' ps.length [] [6,7,15,125,126] (fun k vs L=>vs=[]/\L=(bf,.row 3 1 ((fillZ (fullC ps) ps.length k).map ai) ps.length) :: (bc,.row 3 1 (d.map ai) ps.length) :: (bx,.row 102 1 [v] 1) :: Le) (by omega) rfl rfl rfl ⟨rfl,by rw[fillZ_zero,replicate_ai]⟩ ?_ ?_
  ·rintro k vs L hk - ⟨rfl,rfl⟩
   have hg:=getD_map (f:=aPr) hk
   have hevk:=hs.evs _ (List.getElem_mem hk)
   have hfs:=fillZ_set hfl hk
   have hfk:(fullC ps)[k]'(by omega)=(ps[k].evs.length:Nat):=by
    have:=fullC_at (ps:=ps) hk
    rw[cAt_nat (by omega)] at this
    exact this
   have hfll:=fillZ_length hfl (show k<=ps.length by omega)
   rw[hfk] at hfs
   have hfs2:((fillZ (fullC ps) ps.length k).map ai).set k (ai (ps[k].evs.length:Nat))=(fillZ (fullC ps) ps.length (k+1)).map ai:=by rw[map_set_ai,hfs]
   have hml:((fillZ (fullC ps) ps.length k).map ai).length=ps.length:=by rw[List.length_map,hfll]
   have hgk:=getD_map (f:=ai) (l:=fillZ (fullC ps) ps.length k) (k:=k) (by rw[hfll];exact hk)
   generalize (fillZ (fullC ps) ps.length k)[k]'_=z0 at *
   generalize (fillZ (fullC ps) ps.length (k+1)).map ai=ys' at *
   generalize (fillZ (fullC ps) ps.length k).map ai=ys at *
   simp only[go_sem]
   repeat(first|((with_reducible refine AWp.ofC ?_ ?_);exact rfl;simp only[go_sem,hg,q1,q2,q5,q6,q7,q8,hml,hgk])|((with_reducible refine an ?_ ?_);exact Au))
   intros
   repeat(first|((with_reducible refine AWp.ofC ?_ ?_);exact rfl;simp only[go_sem,hg,q1,q2,q5,q6,q7,q8,hml,hgk])|((with_reducible refine an ?_ ?_);exact Au))
   exact⟨_,.refl _,by rw[hfs2]⟩
  ·rintro vs L - ⟨rfl,rfl⟩
   rw[fillZ_full hfl]
   refine AWp.viewP (Lf:=[(bf,.row 3 1 ((fullC ps).map ai) ps.length)]) (Lk:=(bc,.row 3 1 (d.map ai) ps.length) :: (bx,.row 102 1 [v] 1) :: Le) (L':=(bc,.row 3 1 (d.map ai) ps.length) :: (bx,.row 102 1 [v] 1) :: Le) (List.Perm.refl _) (LVw.refl _) [(15,.sl 1 ((fullC ps).map ai))] (fun z hz=>?_) ?_
   ·obtain rfl:=List.mem_singleton.1 hz
    simp only[go_sem]
    exact Vw.ofLs (t:=3) (cap:=ps.length) (if_pos rfl) (by rw[List.length_map,hfl])
   have hds:=sum_le_off hdI
   have hE:(evtG (zeroC ps) R).length+((fullC ps).sum - d.sum).toNat<=1000:=by rw[evtG_len];omega
   have had:=hadv bc bx d (fullC ps) hdI hfi (leq_full hdI) (evtG (zeroC ps) R) hE _ hL1
   simp only[go_sem]
   refine Wk ?_
   refine(MCalls.clo (args:=[_]) (caps:=[_,_,_]) had).mono ?_
   rintro r L ⟨rfl,R',hch',hla',hL'⟩
   obtain⟨v',Le',rfl,hA',-,hnl'⟩:=hL'
   have hdone:DodgeR ps b (zeroC ps :: (R ++ R')):=(hO.go hch' hla' fun e he=>by
    obtain⟨b1,b2,_⟩:=chn_between hdI hch' hla' e he
    exact dg_end hR hdI hp hpe e b1 b2).done
   rw[<- evtG_app hO.last] at hA'
   rcases hA'.inv with ⟨e1,rfl,rfl⟩|⟨be,cap2,rfl,rfl⟩
   ·simp only[go_sem]
    refine W2 q1 q2 ?_
    refine ret_sub [] ((List.sublist_cons_self _ _).trans (List.sublist_cons_self _ _)) ?_
    simp only[go_sem]
    exact⟨R ++ R',hdone,hA'⟩
   ·simp only[go_sem]
    refine W2 q1 q2 ?_
    refine ret_sub [(be,_)] ((List.sublist_cons_self _ _).trans (List.sublist_cons_self _ _)) ?_
    simp only[go_sem]
    rw[List.length_map] at hA'
    exact⟨R ++ R',hdone,hA'⟩
theorem synL_snoc (x y:Eid):∀l:List Eid,synL (l ++ [x,y])=synL (l ++ [x]) ++ if x.1 ≠ y.1 then [(x,y)] else []
 | []=>by
  show (if x.1 ≠ y.1 then [(x,y)] else []) ++ synL [y]=[] ++ _
  simp [synL]
 | [a]=>by
  show (if a.1 ≠ x.1 then [(a,x)] else []) ++ synL ([] ++ [x,y])=((if a.1 ≠ x.1 then [(a,x)] else []) ++ synL ([] ++ [x])) ++ _
  rw[synL_snoc x y [],List.append_assoc]
 | a :: b :: l=>by
  show (if a.1 ≠ b.1 then [(a,b)] else []) ++ synL ((b :: l) ++ [x,y])=((if a.1 ≠ b.1 then [(a,b)] else []) ++ synL ((b :: l) ++ [x])) ++ _
  rw[synL_snoc x y (b :: l),List.append_assoc]
theorem synL_take {es:List Eid}{i:Nat}(h1:1<=i)(h2:i<es.length):synL (es.take (i+1))=synL (es.take i) ++ if (es[i - 1]).1 ≠ (es[i]).1 then [(es[i - 1],es[i])] else []:=by
 obtain⟨k,rfl⟩:∃k,i=k+1:=⟨i - 1,by omega⟩
 have e1:es.take (k+1+1)=es.take k ++ [es[k],es[k+1]]:=by
  rw[List.take_succ_eq_append_getElem h2,List.take_succ_eq_append_getElem (by omega),List.append_assoc];rfl
 have e2:es.take (k+1)=es.take k ++ [es[k]]:=List.take_succ_eq_append_getElem (by omega)
 rw[e1,e2,synL_snoc];rfl
theorem synL_takeO {es:List Eid}{i:Nat}(h1:1<=i){x y:Eid}(hx:es[i - 1]?=some x)(hy:es[i]?=some y):synL (es.take (i+1))=synL (es.take i) ++ if x.1 ≠ y.1 then [(x,y)] else []:=by
 obtain⟨h3,rfl⟩:=List.getElem?_eq_some_iff.1 hx
 obtain⟨h4,rfl⟩:=List.getElem?_eq_some_iff.1 hy
 exact synL_take h1 h4
theorem synL_one {es:List Eid} : synL (es.take 1)=[]:=by
 cases es with
 | nil=>rfl
 | cons a l=>rfl
theorem synL_len:∀es:List Eid,(synL es).length<=es.length
 | []=>by simp [synL]
 | [a]=>by simp [synL]
 | a :: b :: l=>by
  have:=synL_len (b :: l)
  show ((if a.1 ≠ b.1 then [(a,b)] else []) ++ synL (b :: l)).length<=_
  rw[List.length_append]
  split <;> simp only[List.length_cons,List.length_nil] at this ⊢ <;> omega
theorem rowsX_ok (ps:List Pr)(ts:List Pd):RowsOk ps (badX ps ts) (rowsX ps ts):=fun p _=>spL_ok _ p _
theorem rowsX_len (ps:List Pr)(hs:Sm ps)(hv:validF ps=true)(ts:List Pd):∀p,p<ps.length->(rowsX ps ts p).length<=1000000:=fun p hp=>by
 have h1:=spL_len (b:=badX ps ts p) (p:=p) (nev ps p+1)
 have h2:=valid_off hv
 have h3:=off_le hp
 have h5:=nev_get hp
 unfold rowsX
 omega
theorem PC.nilB {P:Program}{f:FuncId}{a r:AV}{k:Nat}(h:PC P f [a,.sl k []] r):PC P f [a,anil] r:=⟨h.1,fun n w A vs hL hr=>by
 obtain⟨u,us',rfl,h1,h2⟩:=hr.inv_cons
 obtain⟨u2,us2,rfl,h3,h4⟩:=h2.inv_cons
 obtain rfl:=h4.inv_nil
 cases h3
 exact h.2 n w A _ hL (.cons h1 (.cons (.sl0 k none 0 (by decide)) .nil))⟩
theorem ctl_mono {ps:List Pr}{l:List Syn}{bad:Nat->Nat->Bool}(h:ctlB ps [] bad=true):ctlB ps l bad=true:=by
 rw[ctlB_true] at h ⊢
 rintro⟨d,hd⟩
 refine h ⟨d,hd.rng,hd.bad,fun a ha i hi hia y hy=>hd.clo a ha i hi hia y ?_⟩
 unfold dirX at hy ⊢
 rcases List.mem_append.1 hy with hy|hy
 ·exact List.mem_append_left _ hy
 ·obtain⟨s,h1,_⟩:=List.mem_map.1 hy
  exact absurd (List.mem_filter.1 h1).1 (List.not_mem_nil)
def CtlA (ps:List Pr)(ts:List Pd)(r:AV):Prop :=
 (conF ps ts ≠ 0/\r = .tup [.sl 4 [],ai (conF ps ts)])\/(conF ps ts=0/\(∃t,TgtS ps (rowsX ps ts) t)/\r = .tup [.sl 4 [],ai 7]) \/
 (conF ps ts=0/\(¬ ∃t,TgtS ps (rowsX ps ts) t)/\∃(R:List (List Int)) (l:List Syn),DodgeR ps (badX ps ts) (zeroC ps :: R)/\l.Sublist (synL (evtG (zeroC ps) R))/\ctlB ps l (badX ps ts)=true/\(ctlB ps [] (badX ps ts)=true->l=[])/\r = .tup [.sl 4 (l.map aSyn),ai 0])
set_option maxHeartbeats 2000000 in
theorem control_Control (ps:List Pr)(hs:Sm ps)(ts:List Pd)(hz:∀t ∈ ts,szF t<=1000000)(htl:ts.length<=1000000) :
  MCalls prog 20 [aTr ps,.sl 6 (ts.map aPd)] [] fun r L=>L=[]/\CtlA ps ts r:=by
 have h1:=control_falsehoods ps hs ts hz htl
 have hps:=hs.procs
 by_cases hC:conF ps ts=0
 ·rw[if_pos hC] at h1
  obtain⟨hv,hlen,_⟩:=conF_inv hC
  have hR:=rowsX_ok ps ts
  have hRl:=rowsX_len ps hs hv ts
  have hti:=order_tight ps hs hv (decide (lftX ps (exF ps [])=0)) hR hRl
  have hdo:=order_dodge ps hs hv (decide (lftX ps (exF ps [])=0)) hR hRl
  have hex0:=control_extended ps hs hv [] (synOk_nil ps) (by simp)
  have hst:=fun p=>control_stretches (badX ps ts p) p (nev ps p+1)
  have hnb:=fun p (hp:p<ps.length)=>show nev ps p<=1000000 by rw[nev_get hp];exact hs.evs _ (List.getElem_mem hp)
  have hss:aStss ((List.range ps.length).map (rowsX ps ts))=aRowsX ps ts:=by unfold aStss aRowsX;rw[List.map_map];rfl
  rw[hss] at hti hdo
  obtain⟨X,hX⟩:∃X,aOrd ps (exF ps []) (decide (lftX ps (exF ps [])=0)) = .rp 3 X 0 0:=⟨_,rfl⟩
  rw[hX] at hti hdo hex0
  unfold falT at h1
  unfold aRowsX at hti hdo
  refine MCalls.toS (K:=fun r L=>∃r0,Vw L r r0/\CtlA ps ts r0) ?_ (fun r L h=>h)
  refine MCalls.enter' 116 [.tmp 4,.tmp 5] [2,39,83] func20 rfl rfl rfl rfl rfl (by simp) (AWp.of ?_);simp only[go_sem]
  refine Wk ?_
  refine Sd ?_
  refine Vu h1 ?_
  repeat(first|((with_reducible refine AWp.ofC ?_ ?_);exact rfl;simp only[go_sem,List.length_range])|((with_reducible refine an ?_ ?_);exact Au))
  refine AWp.range' ps.length [8] [2,6,28,29] (fun p vs L=>∃v,vs=[v]/\AppSt 72 1 ((List.range p).map fun p=>.sl 3 ((rowsX ps ts p).map aStp)) v L) (by omega) rfl rfl rfl ⟨anil,rfl,.nil⟩ ?_ ?_
  ·rintro p vs L hp - ⟨v,rfl,hA⟩
   have hg:((List.range ps.length).map fun p=>AV.sl 1 (falL ps ts p)).getD p .any = .sl 1 (falL ps ts p):=map_range_getD hp _
   have h2:=hst p (by have:=hnb p hp;omega)
   have hyl:((List.range p).map fun p=>AV.sl 3 ((rowsX ps ts p).map aStp)).length=p:=by simp
   have hys:((List.range (p+1)).map fun p=>AV.sl 3 ((rowsX ps ts p).map aStp))=((List.range p).map fun p=>AV.sl 3 ((rowsX ps ts p).map aStp)) ++ [.sl 3 ((rowsX ps ts p).map aStp)]:=by rw[List.range_succ,List.map_append];rfl
   rw[hys]
   change PC _ _ [_,.sl 1 (falL ps ts p)] (.sl 3 ((rowsX ps ts p).map aStp)) at h2
   clear hys hti hdo hss
   generalize (List.range p).map (fun p=>AV.sl 3 ((rowsX ps ts p).map aStp))=ys at *
   generalize (rowsX ps ts p).map aStp=row at *
   generalize falL ps ts p=fl at *
   rcases hA.inv with ⟨e1,rfl,rfl⟩|⟨bq,cq,rfl,rfl⟩
   ·simp only[go_sem]
    refine W1 hg ?_
    refine Sd ?_
    refine AWp.of ?_;simp only[go_sem,hg]
    refine Sd ?_
    refine(h2).val.use ?_;simp only[go_sem,hg]
    refine W1 hg ?_
    intro b' cap' g8
    refine Wk ?_
    exact⟨_,.refl _,_,rfl,by rw[e1];exact .row _ _ _⟩
   ·simp only[go_sem]
    refine W1 hg ?_
    refine Sd ?_
    refine AWp.of ?_;simp only[go_sem,hg]
    refine Sd ?_
    refine(h2).val.use ?_;simp only[go_sem,hg]
    refine W1 hg ?_
    refine Sd ?_
    intro b' cap' g8
    refine Wk ?_
    exact⟨_,.refl _,_,rfl,AppSt.snoc _ _ _ rfl⟩
  ·rintro vs L - ⟨v,rfl,hA⟩
   refine AWp.viewA (L:=[]) (j:=8) hA rfl ?_
   generalize (List.range ps.length).map (fun p=>AV.sl 3 ((rowsX ps ts p).map aStp))=RW at *
   have hex1:PC prog 55 [aTr ps,anil] (.rp 3 X 0 0):=PC.nilB (k:=4) hex0
   simp only[go_sem]
   refine Wk ?_
   refine Sd ?_
   refine Vu hex1 ?_
   refine Wk ?_
   by_cases hT:∃t,TgtS ps (rowsX ps ts) t
   ·obtain⟨a,ha⟩:=least_ex hR hT
    rw[aTgt_some ha] at hti
    refine Sd ?_
    refine Vu hti ?_
    refine Wk ?_
    refine ret_own ?_
    simp only[go_sem]
    exact⟨.tup [.sl 4 [],ai 7],.mkTup (Vws.cons (.nil 4) (Vws.refl _)),.inr (.inl ⟨hC,hT,rfl⟩)⟩
   have hdo:=hdo hT
   rw[aTgt_none hT] at hti
   refine Sd ?_
   refine Vu hti ?_
   refine Wk ?_
   refine hdo.val.mono ?_
   rintro r L ⟨rfl,R,hD,rfl⟩
   obtain⟨R',hR',hch,hla⟩:=isrun_inv hD.run
   obtain rfl:R=R':=by injection hR'
   have hlR:=evtG_len R (zeroC ps)
   have hoff:=valid_off hv
   have hsum:=(chn_last (zeroC_is ps) hch hla).2
   have hz0:(zeroC ps).sum=0:=by unfold zeroC;simp
   rw[fullC_sum,hz0] at hsum
   have hsok:=syn_ok hch
   have hsct:=syn_ctl hD
   have hrnk:=syn_rnk hv hch hla
   clear hch hla hR'
   have hfinal:∀l:List Syn,l.Sublist (synL (evtG (zeroC ps) R))->ctlB ps l (badX ps ts)=true->(ctlB ps [] (badX ps ts)=true->l=[])->CtlA ps ts (.tup [.sl 4 (l.map aSyn),ai 0]):=fun l h1 h2 h3=>.inr (.inr ⟨hC,hT,R,l,hD,h1,h2,h3,rfl⟩)
   clear hdo hti hD
   have hsl:=synL_len (evtG (zeroC ps) R)
   generalize evtG (zeroC ps) R=es at *
   generalize rkO (zeroC ps :: R)=rk at *
   have hel:es.length<=512:=by omega
   simp only[go_sem]
   refine Wk ?_
   refine AWp.block (AWp.loopN [14,16] [2,6,15] (fun m vs L=>∃(i:Nat) (v:AV),vs=[v,ai i]/\1<=i/\i<=513/\AppSt 55 4 ((synL (es.take i)).map aSyn) v L/\m=es.length - i) _ ⟨1,anil,rfl,Nat.le_refl _,by omega,by rw[synL_one];exact .nil,rfl⟩ ?_)
   rintro m vs L - ⟨i,v,rfl,hi1,hi5,hA,rfl⟩
   have hfo:=hA.fo
   have hesl:(es.map aEid).length=es.length:=List.length_map _
   simp only[go_sem,hfo]
   refine W2 hfo hesl ?_
   constructor<;>intro h2
   ·have hil:i<es.length:=by omega
    have gi:((i:Int) - 1).toNat=i - 1:=by omega
    have htl2:=synL_len (es.take i)
    rw[List.length_take] at htl2
    obtain⟨⟨a1,a2⟩,hx⟩:∃x,es[i - 1]?=some x:=⟨_,List.getElem?_eq_getElem (by omega)⟩
    obtain⟨⟨b1,b2⟩,hy⟩:∃y,es[i]?=some y:=⟨_,List.getElem?_eq_getElem hil⟩
    have hst:=synL_takeO hi1 hx hy
    have g1:(es.map aEid).getD (i - 1) .any = .agg [ai a1,ai a2]:=by rw[List.getD_eq_getElem?_getD,List.getElem?_map,hx];rfl
    have g2:(es.map aEid).getD i .any = .agg [ai b1,ai b2]:=by rw[List.getD_eq_getElem?_getD,List.getElem?_map,hy];rfl
    have hst1:a1 ≠ b1->(synL (es.take (i+1))).map aSyn=(synL (es.take i)).map aSyn ++ [.agg [ai a1,ai a2,ai b1,ai b2]]:=fun h=>by rw[hst,if_pos h,List.map_append];rfl
    have hst2:¬a1 ≠ b1->(synL (es.take (i+1))).map aSyn=(synL (es.take i)).map aSyn:=fun h=>by rw[hst,if_neg h,List.append_nil]
    have hyl:((synL (es.take i)).map aSyn).length<=1000:=by rw[List.length_map];omega
    clear hst hx hy
    generalize hys:(synL (es.take i)).map aSyn=ys at *
    generalize hEE:es.map aEid=EE at *
    rcases hA.inv with ⟨e1,rfl,rfl⟩|⟨bq,cq,rfl,rfl⟩
    ·refine Sq ?_
     refine AWp.read mixed [0,1,2,3,4,5,6,7,8,9,10,11] (by kernel_rfl) ?_;simp only[go_sem,g1,g2,gi,hesl]
     refine Sd ?_
     refine Wk ?_
     constructor<;>intro h3
     ·refine Sq ?_
      refine AWp.mix mixed [0,1,2,3,4,5,6,7,8,9,10] (.step 11 (.step 12 (.step 13 .done .done) .done) .done) (by kernel_rfl) ?_;simp only[go_sem,g1,g2,gi,hesl]
      refine Sd ?_
      intro b' cap' _
      refine Wk ?_
      exact⟨_,.refl _,es.length - (i+1),by omega,i+1,_,rfl,by omega,by omega,by rw[hst1 h3,e1];exact .row _ [_] _,rfl⟩
     ·refine Wk ?_
      exact⟨_,.refl _,es.length - (i+1),by omega,i+1,_,rfl,by omega,by omega,by rw[hst2 fun h=>h h3];exact hA,rfl⟩
    ·refine Sq ?_
     refine AWp.read mixed [0,1,2,3,4,5,6,7,8,9,10,11] (by kernel_rfl) ?_;simp only[go_sem,g1,g2,gi,hesl]
     refine Sd ?_
     refine Wk ?_
     constructor<;>intro h3
     ·refine Sq ?_
      refine AWp.mix mixed [0,1,2,3,4,5,6,7,8,9,10] (.step 11 (.step 12 (.step 13 .done .done) .done) .done) (by kernel_rfl) ?_;simp only[go_sem,g1,g2,gi,hesl]
      refine Sd ?_
      intro b' cap' _
      refine Wk ?_
      exact⟨_,.refl _,es.length - (i+1),by omega,i+1,_,rfl,by omega,by omega,by rw[hst1 h3];exact AppSt.snoc _ _ _ rfl,rfl⟩
     ·refine Wk ?_
      exact⟨_,.refl _,es.length - (i+1),by omega,i+1,_,rfl,by omega,by omega,by rw[hst2 fun h=>h h3];exact hA,rfl⟩
   ·rw[List.take_of_length_le (by omega)] at hA
    have hext:=fun l hl hll=>control_extended ps hs hv l hl hll
    have hcon:=fun l hl S hG hW w=>order_controls ps hs hv l hl S hG hW w (badX ps ts)
    have hfl:AV.sl 1 ((List.range ps.length).map fun p=>.sl 1 (falL ps ts p))=AV.sl 1 ((List.range ps.length).map fun p=>.sl 1 ((List.range (nev ps p+1)).map fun k=>ab (badX ps ts p k))):=rfl
    rw[<- hfl] at hcon
    generalize (List.range ps.length).map (fun p=>AV.sl 1 (falL ps ts p))=FL at *
    refine AWp.viewA (L:=[]) (j:=14) hA rfl ?_
    have hsml:((synL es).map aSyn).length=(synL es).length:=List.length_map _
    refine W1 hsml ?_
    refine AWp.block (AWp.loopN [14,17] [2,6] (fun m vs L=>∃(l:List Syn) (i:Int),vs=[.sl 4 (l.map aSyn),ai i]/\L=[]/\l.Sublist (synL es)/\ctlB ps l (badX ps ts)=true/\(ctlB ps [] (badX ps ts)=true->(l.length:Int)=i+1) /\ -1<=i/\i<l.length/\m=(i+1).toNat) _ ⟨synL es,_,rfl,rfl,List.Sublist.refl _,hsct,fun _=>by omega,by omega,by omega,rfl⟩ ?_)
    rintro m vs L - ⟨l,i,rfl,rfl,hsub,hct,hnn,hi1,hi2,rfl⟩
    have hlm:(l.map aSyn).length=l.length:=List.length_map _
    have hll:l.length<=512:=Nat.le_trans hsub.length_le (by omega)
    simp only[go_sem]
    refine W1 hlm ?_
    constructor<;>intro h3
    ·obtain⟨k,rfl⟩:∃k:Nat,i=k:=⟨i.toNat,by omega⟩
     have hkl:k<l.length:=by omega
     have hcl:l.length ≠ 0:=by omega
     obtain⟨c,hc⟩:∃c,l.length=c+1:=⟨l.length - 1,by omega⟩
     have hn:((l.length:Int) - 1).toNat=c:=by omega
     have htk:(l.take k).length=k:=by rw[List.length_take];omega
     have hmn:min k c=k:=by omega
     have hgk:((k:Int)+1).toNat=k+1:=by omega
     refine W1 hlm ?_
     intro bf
     refine W1 hlm ?_
     rw[hn,htk,hmn,List.take_take,Nat.min_self,htk,List.drop_replicate]
     refine⟨by rw[List.length_replicate];exact Nat.le_refl _,?_⟩
     have hRl:((l.take k).map aSyn ++ List.replicate (c - k) (AV.agg [AV.v (Value.int IntKind.i64 0),AV.v (Value.int IntKind.i64 0),AV.v (Value.int IntKind.i64 0),AV.v (Value.int IntKind.i64 0)])).length=c:=by rw[List.length_append,List.length_map,htk,List.length_replicate];omega
     have hRt:((l.take k).map aSyn ++ List.replicate (c - k) (AV.agg [AV.v (Value.int IntKind.i64 0),AV.v (Value.int IntKind.i64 0),AV.v (Value.int IntKind.i64 0),AV.v (Value.int IntKind.i64 0)])).take k=(l.take k).map aSyn:=List.take_left' (by rw[List.length_map,htk])
     generalize (l.take k).map aSyn ++ List.replicate (c - k) (AV.agg [AV.v (Value.int IntKind.i64 0),AV.v (Value.int IntKind.i64 0),AV.v (Value.int IntKind.i64 0),AV.v (Value.int IntKind.i64 0)])=RR at *
     refine AWp.seq ?_
     refine AWp.drawn mixed 7 (by kernel_rfl) ?_;simp only[go_sem,hlm,hRl,hRt,hgk,hc]
     refine Sd ?_
     have hd1:l.take (c+1)=l:=List.take_of_length_le (by omega)
     have hdl:(l.drop (k+1)).length=c - k:=by rw[List.length_drop];omega
     have hd2:(l.drop (k+1)).take (c - k)=l.drop (k+1):=List.take_of_length_le (by omega)
     have hd3:RR.drop (k+(c - k))=[]:=List.drop_of_length_le (by omega)
     rw[hd1,hdl,Nat.min_self,hd2,hdl,hd3,List.append_nil,<- List.eraseIdx_eq_take_drop_succ]
     have hel':(l.eraseIdx k).length=c:=by rw[List.length_eraseIdx,if_pos hkl,hc];rfl
     have hsub':(l.eraseIdx k).Sublist (synL es):=(List.eraseIdx_sublist l k).trans hsub
     have hok':SynOk ps (l.eraseIdx k):=synOk_sub (fun s hs=>hsub'.subset hs) hsok
     have hW':WhlX ps (exF ps (l.eraseIdx k)):=whl_of hv hok' (rnk_sub (fun s hs=>hsub'.subset hs) hrnk) (exF_gen _ _) (exF_stop _ _)
     have hx1:=hext (l.eraseIdx k) hok' (by omega)
     have hx2:=hcon (l.eraseIdx k) hok' _ (exF_gen _ _) hW' (decide (lftX ps (exF ps (l.eraseIdx k))=0))
     have hmo:ctlB ps [] (badX ps ts)=true->ctlB ps (l.eraseIdx k) (badX ps ts)=true:=ctl_mono
     generalize l.eraseIdx k=l' at *
     obtain⟨X',hX'⟩:∃X',aOrd ps (exF ps l') (decide (lftX ps (exF ps l')=0)) = .rp 3 X' 0 0:=⟨_,rfl⟩
     rw[hX'] at hx1 hx2
     refine AWp.viewP (Lf:=[(bf,.row 55 4 (l'.map aSyn) c)]) (Lk:=[]) (L':=[]) (List.Perm.refl _) .nil [(18,.sl 4 (l'.map aSyn))] (fun z hz=>?_) ?_
     ·obtain rfl:=List.mem_singleton.1 hz
      simp only[go_sem]
      exact Vw.ofLs (t:=55) (cap:=c) (if_pos rfl) (by rw[List.length_map,hel'])
     simp only[go_sem]
     refine Wk ?_
     refine Sd ?_
     refine Vu hx1 ?_
     refine Wk ?_
     refine Sd ?_
     refine Vu hx2 ?_
     generalize hcc:ctlB ps l' (badX ps ts)=cc at *
     refine Wk ?_
     constructor<;>intro h5
     ·refine Wk ?_
      exact⟨_,.refl _,k,by omega,l',(k:Int) - 1,rfl,rfl,hsub',by rw[hcc];exact h5,(fun h=>by have:=hnn h;omega),by omega,by omega,by omega⟩
     ·refine Wk ?_
      exact⟨_,.refl _,k,by omega,l,(k:Int) - 1,rfl,rfl,hsub,hct,(fun h=>absurd ((hcc ▸ hmo h:cc=true)) (by simpa using h5)),by omega,by omega,by omega⟩
    ·refine W1 hlm ?_
     refine ret_own ?_
     simp only[go_sem]
     exact⟨_,.refl _,hfinal l hsub hct fun h=>List.eq_nil_of_length_eq_zero (by have:=hnn h;omega)⟩
 ·rw[if_neg hC] at h1
  generalize hCC:conF ps ts=C at *
  refine MCalls.toS (K:=fun r L=>∃r0,Vw L r r0/\CtlA ps ts r0) ?_ (fun r L h=>h)
  refine MCalls.enter' 116 [.tmp 4,.tmp 5] [2,39,83] func20 rfl rfl rfl rfl rfl (by simp) (AWp.of ?_);simp only[go_sem]
  refine Wk ?_
  refine Sd ?_
  refine Vu h1 ?_
  refine W1 hC ?_
  refine ret_own ?_
  simp only[go_sem]
  exact⟨.tup [.sl 4 [],ai C],.mkTup (Vws.cons (.nil 4) (Vws.refl _)),.inl ⟨by rw[hCC];exact hC,by rw[hCC]⟩⟩
end Go.AL
end
