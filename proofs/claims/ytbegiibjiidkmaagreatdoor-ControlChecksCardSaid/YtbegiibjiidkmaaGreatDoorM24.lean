/- Texts of this claim's proof: WY15. No condition. -/
import Derived.Test.YtbegiibjiidkmaaGreatDoorM23
section
namespace Go.AL
open Go Go.RowKit Proofs.Tryz
set_option maxRecDepth 4000
theorem chn_all {ps:List Pr} : ∀ {R:List (List Int)} {c:List Int},chnF ps c R=true->∀d ∈ R,isF ps d=true
 | [],_,_,d,hd=>nomatch hd
 | a :: R,c,h,d,hd=>by
  have e:chnF ps c (a :: R)=((isF ps a && decide (0<=stepF c a)) && chnF ps a R):=rfl
  rw[e,Bool.and_eq_true,Bool.and_eq_true] at h
  rcases List.mem_cons.1 hd with rfl|hd
  ·exact h.1.1
  ·exact chn_all h.2 d hd
theorem chn_between {ps:List Pr}{R:List (List Int)}{c to:List Int}(hc:isF ps c=true)(h:chnF ps c R=true)(hl:(c :: R).getLast?=some to):∀d ∈ R,isF ps d=true/\leqF c d=true/\leqF d to=true:=fun d hd=>by
 have htl:=(chn_last hc h hl).1
 obtain⟨i,hi,rfl⟩:=List.getElem_of_mem hd
 have hlast:(c :: R)[R.length]'(by simp)=to:=by
  rw[List.getLast?_eq_getElem?,List.length_cons,Nat.add_sub_cancel,List.getElem?_eq_getElem (by simp)] at hl
  exact Option.some.inj hl
 have hcl:=(isF_iff.1 hc).1
 have e1:(c :: R)[i+1]'(by simp;exact hi)=R[i]:=rfl
 have hi1:isF ps R[i]=true:=by
  have:=chn_all h
  exact this _ hd
 have hdl:=(isF_iff.1 hi1).1
 refine⟨hi1,(leq_at hcl hdl).2 fun q hq=>?_,(leq_at hdl (isF_iff.1 htl).1).2 fun q hq=>?_⟩
 ·have:=chn_mono hc h (i:=0) (by simp) (i+1) (by rw[List.length_cons];omega) q hq
  have e:(c :: R)[0+(i+1)]'(by rw[List.length_cons];omega)=R[i]:=by simp
  rw[e] at this
  exact this
 ·have:=chn_mono hc h (i:=i+1) (by simp;exact hi) (R.length - (i+1)) (by rw[List.length_cons];omega) q hq
  have e:(c :: R)[i+1+(R.length - (i+1))]'(by rw[List.length_cons];omega)=to:=by
   rw[<- hlast];congr 1;omega
  rw[e] at this
  exact this
set_option maxHeartbeats 2000000 in
theorem order_dodge (ps:List Pr)(hs:Sm ps)(hv:validF ps=true)(w:Bool){b:Nat->Nat->Bool}{rows:Nat->List Stp}(hR:RowsOk ps b rows)(hlen:∀p,p<ps.length->(rows p).length<=1000000)(hT:¬ ∃t,TgtS ps rows t) :
  MCalls prog 57 [aOrd ps (exF ps []) w,aStss ((List.range ps.length).map rows)] [] fun r L=>L=[]/\∃R,DodgeR ps b (zeroC ps :: R)/\r = .sl 2 ((evtG (zeroC ps) R).map aEid):=by
 obtain⟨hl1,hl8⟩:=valid_len hv
 have hps:=hs.procs
 have hoff:=valid_off hv
 refine MCalls.toS (K:=fun r L=>∃R,DodgeR ps b (zeroC ps :: R)/\AppSt 53 2 ((evtG (zeroC ps) R).map aEid) r L) ?_ (fun r L ⟨R,h1,h2⟩=>⟨_,by have:=h2.vw [];rwa [List.append_nil] at this,R,h1,rfl⟩)
 have hcr:=fun c hc x hx=>order_cross hv hs w hR hlen (c:=c) hc (x:=x) hx
 have hadv:=fun bc bx c to hc ht hle E hE L hL=>order_advance hs hv w bc bx (c:=c) (to:=to) hc ht hle E hE (L:=L) hL
 have hord:=fun p hp i hi=>ord_at hv (p:=p) hp (i:=i) hi
 obtain⟨T,hT0⟩:∃T,T=(List.range ps.length).map fun p=>AV.sl 1 ((exF ps [] p).map aInts):=⟨_,rfl⟩
 have hTl:T.length=ps.length:=by rw[hT0];simp
 have hX:aOrd ps (exF ps []) w = .rp 3 [.agg [.sl 3 (ps.map aPr),.sl 1 T,ab w]] 0 0:=by rw[hT0];rfl
 simp only[<- hT0] at hord
 simp only[hX] at hcr hadv
 rw[hX]
 clear hX hT0
 have hrl:((List.range ps.length).map rows).length=ps.length:=by simp
 have hcl:=sts_cloneO ((List.range ps.length).map rows) (by omega)
 rw[rowsD_zero] at hcl
 have hss:aStss ((List.range ps.length).map rows) = .sl 1 (rowsD ps.length rows fun _=>0):=by rw[<- rowsD_zero];rfl
 rw[hss] at hcl ⊢
 have hz:(List.replicate ps.length (ai 0))=(zeroC ps).map ai:=by unfold zeroC;rw[List.map_replicate]
 have hl0:=rowsD_len ps.length rows fun _=>0
 refine MCalls.enter' 143 [.tmp 4] [2,5,17] func57 rfl rfl rfl rfl rfl (by simp) (AWp.of ?_);simp only[go_sem]
 refine W1 hl0 ?_
 intro bc bj hbj
 refine W1 hl0 ?_
 intro bx hx1
 have n1:¬bc=bx:=by omega
 have n2:¬bx=bc:=by omega
 refine W1 hl0 ?_
 refine(MVal.frame (Lm:=[]) (Lr:=[(bx,.row 102 1 [anil] 1),(bc,.row 3 1 (List.replicate ps.length (ai 0)) ps.length)]) hcl.val).mono ?_
 rintro r L ⟨L1,rfl,hA⟩
 rcases hA.inv with ⟨e1,_,_⟩|⟨bl,cap,rfl,rfl⟩
 ·have:=congrArg List.length e1
  rw[rowsD_len,List.length_nil] at this
  omega
 rw[rowsD_len,hz]
 clear hcl hss
 simp only[go_sem,List.cons_append,List.nil_append]
 refine AWp.perm (L':=(bl,.row 72 1 (rowsD ps.length rows fun _=>0) cap) :: (bc,.row 3 1 ((zeroC ps).map ai) ps.length) :: (bx,.row 102 1 [anil] 1) :: []) ((List.Perm.swap _ _ _).cons _) ?_
 have hza:=zero_avoid hR hT
 have hA0:AdvL ps.length bc bx (zeroC ps) (evtG (zeroC ps) []) [(bc,.row 3 1 ((zeroC ps).map ai) ps.length),(bx,.row 102 1 [anil] 1)]:=⟨anil,[],rfl,.nil,n1,fun y hy=>by cases hy⟩
 have hz0:(zeroC ps).sum=0:=by unfold zeroC;simp
 have hel:=fun p (hp:p<ps.length) i (hi:i<(rows p).length)=>(hR p hp).el _ (List.getElem_mem hi)
 have hnb:=fun p (hp:p<ps.length)=>show nev ps p<=1000000 by rw[nev_get hp];exact hs.evs _ (List.getElem_mem hp)
 have hfi:=fullC_is hv
 refine AWp.cut [2,5,6,7] (fun vs L=>∃(R:List (List Int)) (d:List Int),DgO ps b (zeroC ps :: R) d/\AdvL ps.length bc bx d (evtG (zeroC ps) R) L/\(∃p,p<ps.length/\∀s ∈ rows p,(s.2.2:Int)<cAt d p) /\
  vs=[.rp 1 [.rp 3 [.agg [.sl 3 (ps.map aPr),.sl 1 T,ab w]] 0 0] 0 0,.rp 1 [.ls bc 1 0 ps.length ps.length] 0 0,.lp bx 1 0 0,.clo 100 [.rp 1 [.ls bc 1 0 ps.length ps.length] 0 0,.rp 1 [.rp 3 [.agg [.sl 3 (ps.map aPr),.sl 1 T,ab w]] 0 0] 0 0,.lp bx 1 0 0]]) ?_ ?_
 ·refine Sd ?_
  refine Ao ?_
  refine AWp.block (AWp.count 24 1000 [] [1,2,5,6,7] (fun k vs L=>vs=[]/\∃(R:List (List Int)) (d:List Int) (x:Nat->Nat) (L1:AHeap),L=(bl,.row 72 1 (rowsD ps.length rows x) cap) :: L1/\DgO ps b (zeroC ps :: R) d/\DgI ps rows d/\AdvL ps.length bc bx d (evtG (zeroC ps) R) L1/\(k:Int)<=d.sum /\
   (∀p,p<ps.length->x p<=(rows p).length)/\∀p,p<ps.length->∀j,j<x p->((fSp rows p j).2.2:Int)<cAt d p) rfl rfl ⟨rfl,[],zeroC ps,fun _=>0,_,rfl,.start hza,dg_zero,hA0,by rw[hz0];exact Int.le_refl _,fun _ _=>Nat.zero_le _,fun _ _ j h=>absurd h (Nat.not_lt_zero _)⟩ ?_)
  rintro k vs L hk - ⟨rfl,R,d,x0,L1,rfl,hO,hI,hL1,hks,hxl0,hxb0⟩
  obtain⟨hdl,hdr,_⟩:=isF_iff.1 hI.is
  have hds:=sum_le_off hI.is
  simp only[go_sem]
  refine Wk ?_
  constructor<;>intro h1
  ·obtain⟨v,Le,rfl,hA,hne,hnl⟩:=id hL1
   refine AWp.nodup fun hnd=>?_
   obtain⟨⟨m1,m2⟩,⟨m3,m4⟩,⟨m5,m6⟩,m7⟩:=nd3 hnd
   have hdm:(d.map ai).length=ps.length:=by rw[List.length_map,hdl]
   have hdg:∀q (hq:q<ps.length),(d.map ai).getD q .any=ai (cAt d q):=fun q hq=>by rw[getD_map (by omega),<- cAt_nat]
   refine Wk ?_
   refine AWp.range' ps.length [8] [1,2,5,6,7,24,27] (fun p vs L=>∃(x:Nat->Nat) (ov:Bool),vs=[ab ov]/\L=(bl,.row 72 1 (rowsD ps.length rows x) cap) :: (bc,.row 3 1 (d.map ai) ps.length) :: (bx,.row 102 1 [v] 1) :: Le /\
    (∀p,p<ps.length->x p<=(rows p).length)/\(∀p,p<ps.length->∀j,j<x p->((fSp rows p j).2.2:Int)<cAt d p)/\(ov=true->∃q,q<p/\x q=(rows q).length)/\(ov=false->∀q,q<p->x q<(rows q).length/\cAt d q<=((fSp rows q (x q)).2.2:Int))/\∀q,p<=q->x q=x0 q) (by omega) rfl rfl rfl
    ⟨x0,false,rfl,rfl,hxl0,hxb0,fun h=>(by cases h),fun _ q h=>absurd h (Nat.not_lt_zero _),fun _ _=>rfl⟩ ?_ ?_
   ·rintro p vs L hp - ⟨x1,ov,rfl,rfl,hxl1,hxb1,hov1,hno1,hsm1⟩
    simp only[go_sem]
    refine AWp.block ?_
    refine Sd ?_
    refine Ao ?_
    refine AWp.cut [1,2,5,6,7,8,9,24,27,28] (fun vs L=>∃x:Nat->Nat,L=(bl,.row 72 1 (rowsD ps.length rows x) cap) :: (bc,.row 3 1 (d.map ai) ps.length) :: (bx,.row 102 1 [v] 1) :: Le/\(∀q,q ≠ p->x q=x1 q)/\x p<=(rows p).length/\(∀j,j<x p->((fSp rows p j).2.2:Int)<cAt d p)/\(x p<(rows p).length->cAt d p<=((fSp rows p (x p)).2.2:Int)) /\
     vs=[.ls bl 1 0 ps.length cap,.rp 1 [.rp 3 [.agg [.sl 3 (ps.map aPr),.sl 1 T,ab w]] 0 0] 0 0,.rp 1 [.ls bc 1 0 ps.length ps.length] 0 0,.lp bx 1 0 0,.clo 100 [.rp 1 [.ls bc 1 0 ps.length ps.length] 0 0,.rp 1 [.rp 3 [.agg [.sl 3 (ps.map aPr),.sl 1 T,ab w]] 0 0] 0 0,.lp bx 1 0 0],ab ov,ai p,ai k,ai ps.length,ai p]) ?_ ?_
    ·refine AWp.block (AWp.loopN [] [1,2,5,6,7,8,9,24,27,28] (fun m vs L=>vs=[]/\∃x:Nat->Nat,L=(bl,.row 72 1 (rowsD ps.length rows x) cap) :: (bc,.row 3 1 (d.map ai) ps.length) :: (bx,.row 102 1 [v] 1) :: Le/\(∀q,q ≠ p->x q=x1 q)/\x p<=(rows p).length/\(∀j,j<x p->((fSp rows p j).2.2:Int)<cAt d p)/\m=(rows p).length - x p)
      _ ⟨rfl,x1,rfl,fun _ _=>rfl,hxl1 p hp,hxb1 p hp,rfl⟩ ?_)
     rintro m vs L - ⟨rfl,x2,rfl,hq2,hl2,hb2,rfl⟩
     have g1:=rowsD_get hp rows x2
     have hrl2:=rowsD_len ps.length rows x2
     have gd:=hdg p hp
     have hset:=rowsD_set (n:=ps.length) (q:=p) rows x2
     have hlr:=hlen p hp
     have hXl:(((rows p).drop (x2 p)).map aStp).length=(rows p).length - x2 p:=by rw[List.length_map,List.length_drop]
     have hrow:(rows p).length=x2 p\/x2 p<(rows p).length:=by omega
     simp only[go_sem]
     rcases hrow with he|hlt
     ·have hX0:(((rows p).drop (x2 p)).map aStp).getD 0 .any = .any:=by rw[List.drop_of_length_le (by omega)];rfl
      have hXn:¬(0:Int)<((((rows p).drop (x2 p)).map aStp).length:Int):=by omega
      generalize hXX:((rows p).drop (x2 p)).map aStp=X at *
      refine AWp.seq ?_
      refine Sq ?_
      refine AWp.read mixed [0,1,2,3,4,5,6,7,8,9,10,11,12,13,14,15,16,17,18,19] (by kernel_rfl) ?_;simp only[go_sem,g1,gd,hX0,hXn,hrl2,hdm,m1,m2,m3,m4,m5,m6,List.getD_nil]
      refine Sd ?_
      refine Wk ?_
      exact⟨_,.refl _,x2,rfl,hq2,hl2,hb2,fun h=>by omega⟩
     ·have hd1:=rowsD_hd hlt
      have hel2:=hel p hp (x2 p) hlt
      rw[<- fSp_eq] at hel2
      have es:aStp (fSp rows p (x2 p)) = .agg [ai (fSp rows p (x2 p)).1,ai (fSp rows p (x2 p)).2.1,ai (fSp rows p (x2 p)).2.2]:=rfl
      rw[es] at hd1
      obtain⟨_,_,he3,_⟩:=hel2
      have hnbp:=hnb p hp
      generalize hXX:((rows p).drop (x2 p)).map aStp=X at *
      refine AWp.seq ?_
      refine Sq ?_
      refine AWp.read mixed [0,1,2,3,4,5,6,7,8,9,10,11,12,13,14,15,16,17,18,19] (by kernel_rfl) ?_;simp only[go_sem,g1,gd,hd1,hrl2,hdm,m1,m2,m3,m4,m5,m6]
      refine Sd ?_
      repeat(first|((with_reducible refine AWp.ofC ?_ ?_);exact rfl;simp only[go_sem,g1,gd,hd1,hrl2,hdm,m1,m2,m3,m4,m5,m6])|((with_reducible refine an ?_ ?_);exact Au))
      refine⟨fun h2 h3=>?_,fun h2=>?_⟩
      ·refine AWp.block ?_
       repeat(first|((with_reducible refine AWp.ofC ?_ ?_);exact rfl;simp only[go_sem,g1,gd,hd1,hrl2,hdm,m1,m2,m3,m4,m5,m6])|((with_reducible refine an ?_ ?_);exact Au))
       refine Sd ?_
       rw[hset]
       refine⟨_,.refl _,(rows p).length - (x2 p+1),by omega,updN x2 p (x2 p+1),rfl,fun q hq=>by rw[updN_ne hq];exact hq2 q hq,by rw[updN_self];omega,fun j hj=>?_,by rw[updN_self]⟩
       rw[updN_self] at hj
       by_cases e:j=x2 p
       ·subst e;exact h3
       ·exact hb2 j (by omega)
      ·refine⟨_,.refl _,x2,rfl,hq2,hl2,hb2,fun _=>?_⟩
       have:=h2 (by omega)
       omega
    ·rintro vs L - ⟨x2,rfl,hq2,hl2,hb2,hg2,rfl⟩
     have g1:=rowsD_get hp rows x2
     have hrl2:=rowsD_len ps.length rows x2
     have hlr:=hlen p hp
     have hXl:(((rows p).drop (x2 p)).map aStp).length=(rows p).length - x2 p:=by rw[List.length_map,List.length_drop]
     have hXd:((rows p).drop (x2 p)).length=(rows p).length - x2 p:=List.length_drop
     simp only[go_sem]
     repeat(first|((with_reducible refine AWp.ofC ?_ ?_);exact rfl;simp only[go_sem,g1,hrl2,m1,m2,m3,m4,m5,m6])|((with_reducible refine an ?_ ?_);exact Au))
     refine⟨_,.refl _,x2,_,rfl,rfl,fun q hq=>?_,fun q hq=>?_,fun h=>?_,fun h q hq=>?_,fun q hq=>by rw[hq2 q (by omega)];exact hsm1 q (by omega)⟩
     ·by_cases e:q=p
      ·subst e;exact hl2
      ·rw[hq2 q e];exact hxl1 q hq
     ·by_cases e:q=p
      ·subst e;exact hb2
      ·rw[hq2 q e];exact hxb1 q hq
     ·rw[Bool.or_eq_true,decide_eq_true_eq] at h
      rcases h with h|h
      ·obtain⟨q,hq,hxq⟩:=hov1 h
       exact⟨q,by omega,by rw[hq2 q (by omega)];exact hxq⟩
      ·exact⟨p,by omega,by omega⟩
     ·rw[Bool.or_eq_false_iff,decide_eq_false_iff_not] at h
      by_cases e:q=p
      ·subst e
       exact⟨by omega,hg2 (by omega)⟩
      ·rw[hq2 q e];exact hno1 h.1 q (by omega)
   ·rintro vs L - ⟨x,ov,rfl,rfl,hxl,hxb,hov,hno,-⟩
    simp only[go_sem]
    refine Wk ?_
    constructor<;>intro h2
    ·obtain⟨q,hq,hxq⟩:=hov (by simpa using h2)
     refine⟨_,List.sublist_cons_self _ _,R,d,hO,hL1,q,hq,fun s hs=>?_⟩
     obtain⟨j,hj,rfl⟩:=List.getElem_of_mem hs
     have:=hxb q hq j (by omega)
     rwa [fSp_eq hj] at this
    ·have hxx:=hno (by simpa using h2)
     have hCom:Com ps rows d x:=⟨fun p hp=>(hxx p hp).1,fun p hp=>(hxx p hp).2,hxb⟩
     have hcrs:=hcr d hI.is x hCom.lt
     rcases crs_cases ps.length (crP ps rows x d) with ⟨i,j,hi,hj,hP,hE⟩|⟨hP,_⟩
     ·rw[hE] at hcrs
      unfold crP at hP
      simp only[Bool.and_eq_true,decide_eq_true_eq,Bool.not_eq_true'] at hP
      obtain⟨hij,hci,hbg⟩:=hP
      obtain⟨s1,s2,s3,s4,s5⟩:=dg_step hv hR hI hCom hi hj hci hbg
      have hvw:Vws ((bl,.row 72 1 (rowsD ps.length rows x) cap) :: (bc,.row 3 1 (d.map ai) ps.length) :: (bx,.row 102 1 [v] 1) :: Le) [.rp 3 [.agg [.sl 3 (ps.map aPr),.sl 1 T,ab w]] 0 0,.ls bc 1 0 ps.length ps.length,.ls bl 1 0 ps.length cap] [.rp 3 [.agg [.sl 3 (ps.map aPr),.sl 1 T,ab w]] 0 0,.sl 1 (d.map ai),.sl 1 (rowsD ps.length rows x)] :=
       Vws.cons (.refl _) (Vws.cons (Vw.ofLs (t:=3) (cap:=ps.length) (by simp only[lk,m2,if_false,if_true]) hdm.symm) (Vws.cons (Vw.ofLs (t:=72) (cap:=cap) (if_pos rfl) (rowsD_len _ _ _).symm) .nil))
      have hown:Own (.tup [ai i,ai j]):=Own.tup fun w hw=>by
       simp only[List.mem_cons,List.not_mem_nil,or_false] at hw
       rcases hw with rfl|rfl <;> exact Own.v _
      have hin:¬(i:Int)<0:=by omega
      refine W6 m1 m2 m3 m4 m5 m6 ?_
      refine(PC.view hvw hcrs hown ?_).val
      simp only[go_sem]
      repeat(first|((with_reducible refine AWp.ofC ?_ ?_);exact rfl;simp only[go_sem,hin,m1,m2,m3,m4,m5,m6])|((with_reducible refine an ?_ ?_);exact Au))
      have hdL:d.length<=1000000:=by omega
      refine(MCalls.viewed (Vws.cons (Vw.ofLs (t:=3) (cap:=ps.length) (by simp only[lk,m2,if_false,if_true]) hdm.symm) .nil) (ints_cloneO d hdL) (fun r L1 h=>h.own (own_ints _))).val.mono ?_
      rintro r L' ⟨L5,rfl,hA5⟩
      rcases hA5.inv with ⟨e1,_,_⟩|⟨bt,capt,rfl,rfl⟩
      ·have:d.length=0:=by simpa using congrArg List.length e1
       omega
      rw[hdm]
      simp only[go_sem,List.cons_append,List.nil_append]
      refine AWp.nodup fun hnd2=>?_
      obtain⟨⟨t1,t2⟩,⟨t3,t4⟩,_,t7⟩:=nd3 hnd2
      obtain⟨t5,t6⟩:=(t7 (bx,_) List.mem_cons_self).1
      simp only at t5 t6
      clear hnd2 t7
      have hxj:=(hxx j hj).1
      have g1:=rowsD_get hj rows x
      have g2:=rowsD_hd hxj
      have hrl2:=rowsD_len ps.length rows x
      have hlj:=hlen j hj
      have hXl:(((rows j).drop (x j)).map aStp).length=(rows j).length - x j:=by rw[List.length_map,List.length_drop]
      have es:aStp (fSp rows j (x j)) = .agg [ai (fSp rows j (x j)).1,ai (fSp rows j (x j)).2.1,ai (fSp rows j (x j)).2.2]:=rfl
      rw[es] at g2
      have hnbj:=hnb j hj
      obtain⟨o1,o2,o3,o4⟩:=hord j hj _ s1
      have g6:((((fSp rows j (x j)).2.2:Nat):Int)+1).toNat=(fSp rows j (x j)).2.2+1:=by omega
      generalize ((rows j).drop (x j)).map aStp=X at *
      generalize (fSp rows j (x j)).2.2=se at *
      generalize (fSp rows j (x j)).2.1=sf at *
      generalize (fSp rows j (x j)).1=sp at *
      generalize ptF ps j se=w0 at *
      refine Sq ?_
      refine AWp.read mixed [0,1,2,3,4,5,6,7,8,9,10,11,12,13,14,15,16,17,18] (by kernel_rfl) ?_;simp only[go_sem,g1,g2,g6,hrl2,hTl,o1,o2,o3,m1,m2,m3,m4,m5,m6,t1,t2,t3,t4,t5,t6]
      refine Sd ?_
      have hwl:w0.length=ps.length:=o4
      have hJl:(joinL d w0).length=d.length:=join_len (by omega)
      refine AWp.range' ps.length [] [1,2,5,6,7,12,24,97,98] (fun i vs L=>vs=[]/\L=(bt,.row 3 1 ((mixJ (joinL d w0) d i).map ai) capt) :: (bl,.row 72 1 (rowsD ps.length rows x) cap) :: (bc,.row 3 1 (d.map ai) ps.length) :: (bx,.row 102 1 [v] 1) :: Le) (by omega) rfl (by rw[<- hwl];simp [get]) rfl ⟨rfl,by rw[mixJ_zero]⟩ ?_ ?_
      ·rintro i vs L hi - ⟨rfl,rfl⟩
       have hic:i<d.length:=by omega
       have hml:=mixJ_len hJl (show i<=d.length by omega)
       have hmg:=mixJ_get hJl hic
       have hms:=mixJ_set hJl hic
       have hgm:=getD_map (f:=ai) (l:=mixJ (joinL d w0) d i) (k:=i) (by omega)
       rw[hmg] at hgm
       have hgP:=getD_map (f:=ai) (l:=w0) (k:=i) (by omega)
       have hJi:(joinL d w0)[i]'(by omega)=if d[i]<w0[i]'(by omega) then w0[i]'(by omega) else d[i]:=by unfold joinL;rw[List.getElem_zipWith]
       rw[hJi] at hms
       have hms2:((mixJ (joinL d w0) d i).map ai).set i (ai (if d[i]<w0[i]'(by omega) then w0[i]'(by omega) else d[i]))=(mixJ (joinL d w0) d (i+1)).map ai:=by rw[map_set_ai,hms]
       have hmml:((mixJ (joinL d w0) d i).map ai).length=ps.length:=by rw[List.length_map,hml,hdl]
       generalize (mixJ (joinL d w0) d (i+1)).map ai=ys' at *
       generalize (mixJ (joinL d w0) d i).map ai=ys at *
       generalize d[i]=z1 at *
       generalize w0[i]'_=z2 at *
       simp only[go_sem]
       repeat(first|((with_reducible refine AWp.ofC ?_ ?_);exact rfl;simp only[go_sem,hgm,hgP,hmml,m1,m2,m3,m4,m5,m6,t1,t2,t3,t4,t5,t6])|((with_reducible refine an ?_ ?_);exact Au))
       exact⟨_,.refl _,by rw[hms2]⟩
      ·rintro vs L - ⟨rfl,rfl⟩
       have hmf:=mixJ_full hJl
       rw[hdl] at hmf
       rw[hmf]
       generalize hJ:joinL d w0=J at *
       refine AWp.viewP (Lf:=[(bt,.row 3 1 (J.map ai) capt)]) (Lk:=(bl,.row 72 1 (rowsD ps.length rows x) cap) :: (bc,.row 3 1 (d.map ai) ps.length) :: (bx,.row 102 1 [v] 1) :: Le) (L':=(bl,.row 72 1 (rowsD ps.length rows x) cap) :: (bc,.row 3 1 (d.map ai) ps.length) :: (bx,.row 102 1 [v] 1) :: Le) (List.Perm.refl _) (LVw.refl _) [(12,.sl 1 (J.map ai))] (fun z hz=>?_) ?_
       ·obtain rfl:=List.mem_singleton.1 hz
        simp only[go_sem]
        exact Vw.ofLs (t:=3) (cap:=capt) (if_pos rfl) (by rw[List.length_map];omega)
       have hJs:=sum_le_off s2.is
       have hdsum:=hO.is.2
       rw[List.length_cons] at hdsum
       have hE:(evtG (zeroC ps) R).length+(J.sum - d.sum).toNat<=1000:=by rw[evtG_len];omega
       have had:=hadv bc bx d J hI.is s2.is s3 (evtG (zeroC ps) R) hE _ hL1
       simp only[go_sem]
       refine Wk ?_
       refine(MVal.perm (L':=((bc,.row 3 1 (d.map ai) ps.length) :: (bx,.row 102 1 [v] 1) :: Le) ++ [(bl,.row 72 1 (rowsD ps.length rows x) cap)]) (List.perm_append_comm (l₂:=[_])) (MVal.frame (MCalls.clo (args:=[_]) (caps:=[_,_,_]) had))).mono ?_
       rintro r L ⟨L2,rfl,rfl,R',hch',hla',hL'⟩
       simp only[go_sem]
       refine AWp.perm (List.perm_append_comm (l₂:=[_])) ?_
       simp only[List.cons_append,List.nil_append]
       refine Wk ?_
       have hdJ:=(leq_at hdl (isF_iff.1 s2.is).1).1 s3
       refine⟨_,.refl _,R ++ R',J,x,L2,rfl,hO.go hch' hla' (fun e he=>?_),s2,by rw[evtG_app hO.last];exact hL',by omega,hxl,fun p hp jj hjj=>Int.lt_of_lt_of_le (hxb p hp jj hjj) (hdJ p hp)⟩
       obtain⟨b1,b2,b3⟩:=chn_between hI.is hch' hla' e he
       exact s5 e b1 b2 b3
     ·exfalso
      refine hT ⟨x,dg_tight hv hR hI hCom fun i k hi hk hik hc=>?_⟩
      have:=hP i hi k hk
      unfold crP at this
      simpa [hik,hc] using this
  ·exfalso
   omega
 ·rintro vs L - ⟨R,d,hO,hL1,⟨p,hp,hpe⟩,rfl⟩
  obtain⟨hdI,hdsum⟩:=hO.is
  obtain⟨v,Le,rfl,hA,hne,hnl⟩:=id hL1
  have hfl:(fullC ps).length=ps.length:=by unfold fullC;rw[List.length_map]
  have hfsum:=fullC_sum ps
  have q1:¬bc=bx:=hne
  have q2:¬bx=bc:=fun e=>hne e.symm
  rw[List.length_cons] at hdsum
  simp only[go_sem]
  refine W2 q1 q2 ?_
  intro bf q3 q4
  intros
  have q5:¬bf=bc:=by omega
  have q6:¬bf=bx:=by omega
  have q7:¬bc=bf:=by omega
  have q8:¬bx=bf:=by omega
  refine W6 q1 q2 q5 q6 q7 q8 ?_
  refine AWp.range' ps.length [] [6,7,15,125,126] (fun k vs L=>vs=[]/\L=(bf,.row 3 1 ((fillZ (fullC ps) ps.length k).map ai) ps.length) :: (bc,.row 3 1 (d.map ai) ps.length) :: (bx,.row 102 1 [v] 1) :: Le) (by omega) rfl rfl rfl ⟨rfl,by rw[fillZ_zero,replicate_ai]⟩ ?_ ?_
  ·rintro k vs L hk - ⟨rfl,rfl⟩
   have hg:=getD_map (f:=aPr) hk
   have hevk:=hs.evs _ (List.getElem_mem hk)
   have hfs:=fillZ_set hfl hk
   have hfk:(fullC ps)[k]'(by omega)=(ps[k].evs.length:Nat):=by
    have:=fullC_at (ps:=ps) hk
    rw[cAt_nat (by omega)] at this
    exact this
   have hfll:=fillZ_length hfl (show k<=ps.length by omega)
   rw[hfk] at hfs
   have hfs2:((fillZ (fullC ps) ps.length k).map ai).set k (ai (ps[k].evs.length:Nat))=(fillZ (fullC ps) ps.length (k+1)).map ai:=by rw[map_set_ai,hfs]
   have hml:((fillZ (fullC ps) ps.length k).map ai).length=ps.length:=by rw[List.length_map,hfll]
   have hgk:=getD_map (f:=ai) (l:=fillZ (fullC ps) ps.length k) (k:=k) (by rw[hfll];exact hk)
   generalize (fillZ (fullC ps) ps.length k)[k]'_=z0 at *
   generalize (fillZ (fullC ps) ps.length (k+1)).map ai=ys' at *
   generalize (fillZ (fullC ps) ps.length k).map ai=ys at *
   simp only[go_sem]
   repeat(first|((with_reducible refine AWp.ofC ?_ ?_);exact rfl;simp only[go_sem,hg,q1,q2,q5,q6,q7,q8,hml,hgk])|((with_reducible refine an ?_ ?_);exact Au))
   intros
   repeat(first|((with_reducible refine AWp.ofC ?_ ?_);exact rfl;simp only[go_sem,hg,q1,q2,q5,q6,q7,q8,hml,hgk])|((with_reducible refine an ?_ ?_);exact Au))
   exact⟨_,.refl _,by rw[hfs2]⟩
  ·rintro vs L - ⟨rfl,rfl⟩
   rw[fillZ_full hfl]
   refine AWp.viewP (Lf:=[(bf,.row 3 1 ((fullC ps).map ai) ps.length)]) (Lk:=(bc,.row 3 1 (d.map ai) ps.length) :: (bx,.row 102 1 [v] 1) :: Le) (L':=(bc,.row 3 1 (d.map ai) ps.length) :: (bx,.row 102 1 [v] 1) :: Le) (List.Perm.refl _) (LVw.refl _) [(15,.sl 1 ((fullC ps).map ai))] (fun z hz=>?_) ?_
   ·obtain rfl:=List.mem_singleton.1 hz
    simp only[go_sem]
    exact Vw.ofLs (t:=3) (cap:=ps.length) (if_pos rfl) (by rw[List.length_map,hfl])
   have hds:=sum_le_off hdI
   have hE:(evtG (zeroC ps) R).length+((fullC ps).sum - d.sum).toNat<=1000:=by rw[evtG_len];omega
   have had:=hadv bc bx d (fullC ps) hdI hfi (leq_full hdI) (evtG (zeroC ps) R) hE _ hL1
   simp only[go_sem]
   refine Wk ?_
   refine(MCalls.clo (args:=[_]) (caps:=[_,_,_]) had).mono ?_
   rintro r L ⟨rfl,R',hch',hla',hL'⟩
   obtain⟨v',Le',rfl,hA',-,hnl'⟩:=hL'
   have hdone:DodgeR ps b (zeroC ps :: (R ++ R')):=(hO.go hch' hla' fun e he=>by
    obtain⟨b1,b2,_⟩:=chn_between hdI hch' hla' e he
    exact dg_end hR hdI hp hpe e b1 b2).done
   rw[<- evtG_app hO.last] at hA'
   rcases hA'.inv with ⟨e1,rfl,rfl⟩|⟨be,cap2,rfl,rfl⟩
   ·simp only[go_sem]
    refine W2 q1 q2 ?_
    refine ret_sub [] ((List.sublist_cons_self _ _).trans (List.sublist_cons_self _ _)) ?_
    simp only[go_sem]
    exact⟨R ++ R',hdone,hA'⟩
   ·simp only[go_sem]
    refine W2 q1 q2 ?_
    refine ret_sub [(be,_)] ((List.sublist_cons_self _ _).trans (List.sublist_cons_self _ _)) ?_
    simp only[go_sem]
    rw[List.length_map] at hA'
    exact⟨R ++ R',hdone,hA'⟩
end Go.AL
end
