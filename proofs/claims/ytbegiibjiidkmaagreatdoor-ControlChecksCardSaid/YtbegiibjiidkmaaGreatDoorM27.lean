/- Texts of this claim's proof: WY16, WY39, WY31, WY20, WY35, WY36, WY32, WY33. No condition. -/
import Derived.Test.YtbegiibjiidkmaaGreatDoorM24
import Derived.Test.YtbegiibjiidkmaaGreatDoorM26
import Derived.Test.YtbegiibjiidkmaaGreatDoorM20
import Derived.Test.YtbegiibjiidkmaaGreatDoorM21
import Derived.Test.YtbegiibjiidkmaaGreatDoorM19
section
namespace Go.AL
open Go Go.RowKit Proofs.Tryz
set_option maxRecDepth 4000
theorem synL_snoc (x y:Eid):∀l:List Eid,synL (l ++ [x,y])=synL (l ++ [x]) ++ if x.1 ≠ y.1 then [(x,y)] else []
 | []=>by
  show (if x.1 ≠ y.1 then [(x,y)] else []) ++ synL [y]=[] ++ _
  simp [synL]
 | [a]=>by
  show (if a.1 ≠ x.1 then [(a,x)] else []) ++ synL ([] ++ [x,y])=((if a.1 ≠ x.1 then [(a,x)] else []) ++ synL ([] ++ [x])) ++ _
  rw[synL_snoc x y [],List.append_assoc]
 | a :: b :: l=>by
  show (if a.1 ≠ b.1 then [(a,b)] else []) ++ synL ((b :: l) ++ [x,y])=((if a.1 ≠ b.1 then [(a,b)] else []) ++ synL ((b :: l) ++ [x])) ++ _
  rw[synL_snoc x y (b :: l),List.append_assoc]
theorem synL_take {es:List Eid}{i:Nat}(h1:1<=i)(h2:i<es.length):synL (es.take (i+1))=synL (es.take i) ++ if (es[i - 1]).1 ≠ (es[i]).1 then [(es[i - 1],es[i])] else []:=by
 obtain⟨k,rfl⟩:∃k,i=k+1:=⟨i - 1,by omega⟩
 have e1:es.take (k+1+1)=es.take k ++ [es[k],es[k+1]]:=by
  rw[List.take_succ_eq_append_getElem h2,List.take_succ_eq_append_getElem (by omega),List.append_assoc];rfl
 have e2:es.take (k+1)=es.take k ++ [es[k]]:=List.take_succ_eq_append_getElem (by omega)
 rw[e1,e2,synL_snoc];rfl
theorem synL_takeO {es:List Eid}{i:Nat}(h1:1<=i){x y:Eid}(hx:es[i - 1]?=some x)(hy:es[i]?=some y):synL (es.take (i+1))=synL (es.take i) ++ if x.1 ≠ y.1 then [(x,y)] else []:=by
 obtain⟨h3,rfl⟩:=List.getElem?_eq_some_iff.1 hx
 obtain⟨h4,rfl⟩:=List.getElem?_eq_some_iff.1 hy
 exact synL_take h1 h4
theorem synL_one {es:List Eid} : synL (es.take 1)=[]:=by
 cases es with
 | nil=>rfl
 | cons a l=>rfl
theorem synL_len:∀es:List Eid,(synL es).length<=es.length
 | []=>by simp [synL]
 | [a]=>by simp [synL]
 | a :: b :: l=>by
  have:=synL_len (b :: l)
  show ((if a.1 ≠ b.1 then [(a,b)] else []) ++ synL (b :: l)).length<=_
  rw[List.length_append]
  split <;> simp only[List.length_cons,List.length_nil] at this ⊢ <;> omega
theorem rowsX_ok (ps:List Pr)(ts:List Pd):RowsOk ps (badX ps ts) (rowsX ps ts):=fun p _=>spL_ok _ p _
theorem rowsX_len (ps:List Pr)(hs:Sm ps)(hv:validF ps=true)(ts:List Pd):∀p,p<ps.length->(rowsX ps ts p).length<=1000000:=fun p hp=>by
 have h1:=spL_len (b:=badX ps ts p) (p:=p) (nev ps p+1)
 have h2:=valid_off hv
 have h3:=off_le hp
 have h5:=nev_get hp
 unfold rowsX
 omega
theorem PC.nilB {P:Program}{f:FuncId}{a r:AV}{k:Nat}(h:PC P f [a,.sl k []] r):PC P f [a,anil] r:=⟨h.1,fun n w A vs hL hr=>by
 obtain⟨u,us',rfl,h1,h2⟩:=hr.inv_cons
 obtain⟨u2,us2,rfl,h3,h4⟩:=h2.inv_cons
 obtain rfl:=h4.inv_nil
 cases h3
 exact h.2 n w A _ hL (.cons h1 (.cons (.sl0 k none 0 (by decide)) .nil))⟩
theorem ctl_mono {ps:List Pr}{l:List Syn}{bad:Nat->Nat->Bool}(h:ctlB ps [] bad=true):ctlB ps l bad=true:=by
 rw[ctlB_true] at h ⊢
 rintro⟨d,hd⟩
 refine h ⟨d,hd.rng,hd.bad,fun a ha i hi hia y hy=>hd.clo a ha i hi hia y ?_⟩
 unfold dirX at hy ⊢
 rcases List.mem_append.1 hy with hy|hy
 ·exact List.mem_append_left _ hy
 ·obtain⟨s,h1,_⟩:=List.mem_map.1 hy
  exact absurd (List.mem_filter.1 h1).1 (List.not_mem_nil)
def CtlA (ps:List Pr)(ts:List Pd)(r:AV):Prop :=
 (conF ps ts ≠ 0/\r = .tup [.sl 4 [],ai (conF ps ts)])\/(conF ps ts=0/\(∃t,TgtS ps (rowsX ps ts) t)/\r = .tup [.sl 4 [],ai 7]) \/
 (conF ps ts=0/\(¬ ∃t,TgtS ps (rowsX ps ts) t)/\∃(R:List (List Int)) (l:List Syn),DodgeR ps (badX ps ts) (zeroC ps :: R)/\l.Sublist (synL (evtG (zeroC ps) R))/\ctlB ps l (badX ps ts)=true/\(ctlB ps [] (badX ps ts)=true->l=[])/\r = .tup [.sl 4 (l.map aSyn),ai 0])
set_option maxHeartbeats 2000000 in
theorem control_Control (ps:List Pr)(hs:Sm ps)(ts:List Pd)(hz:∀t ∈ ts,szF t<=1000000)(htl:ts.length<=1000000) :
  MCalls prog 20 [aTr ps,.sl 6 (ts.map aPd)] [] fun r L=>L=[]/\CtlA ps ts r:=by
 have h1:=control_falsehoods ps hs ts hz htl
 have hps:=hs.procs
 by_cases hC:conF ps ts=0
 ·rw[if_pos hC] at h1
  obtain⟨hv,hlen,_⟩:=conF_inv hC
  have hR:=rowsX_ok ps ts
  have hRl:=rowsX_len ps hs hv ts
  have hti:=order_tight ps hs hv (decide (lftX ps (exF ps [])=0)) hR hRl
  have hdo:=order_dodge ps hs hv (decide (lftX ps (exF ps [])=0)) hR hRl
  have hex0:=control_extended ps hs hv [] (synOk_nil ps) (by simp)
  have hst:=fun p=>control_stretches (badX ps ts p) p (nev ps p+1)
  have hnb:=fun p (hp:p<ps.length)=>show nev ps p<=1000000 by rw[nev_get hp];exact hs.evs _ (List.getElem_mem hp)
  have hss:aStss ((List.range ps.length).map (rowsX ps ts))=aRowsX ps ts:=by unfold aStss aRowsX;rw[List.map_map];rfl
  rw[hss] at hti hdo
  obtain⟨X,hX⟩:∃X,aOrd ps (exF ps []) (decide (lftX ps (exF ps [])=0)) = .rp 3 X 0 0:=⟨_,rfl⟩
  rw[hX] at hti hdo hex0
  unfold falT at h1
  unfold aRowsX at hti hdo
  refine MCalls.toS (K:=fun r L=>∃r0,Vw L r r0/\CtlA ps ts r0) ?_ (fun r L h=>h)
  refine MCalls.enter' 116 [.tmp 4,.tmp 5] [2,39,83] func20 rfl rfl rfl rfl rfl (by simp) (AWp.of ?_);simp only[go_sem]
  refine Wk ?_
  refine Sd ?_
  refine Vu h1 ?_
  repeat(first|((with_reducible refine AWp.ofC ?_ ?_);exact rfl;simp only[go_sem,List.length_range])|((with_reducible refine an ?_ ?_);exact Au))
  refine AWp.range' ps.length [8] [2,6,28,29] (fun p vs L=>∃v,vs=[v]/\AppSt 72 1 ((List.range p).map fun p=>.sl 3 ((rowsX ps ts p).map aStp)) v L) (by omega) rfl rfl rfl ⟨anil,rfl,.nil⟩ ?_ ?_
  ·rintro p vs L hp - ⟨v,rfl,hA⟩
   have hg:((List.range ps.length).map fun p=>AV.sl 1 (falL ps ts p)).getD p .any = .sl 1 (falL ps ts p):=map_range_getD hp _
   have h2:=hst p (by have:=hnb p hp;omega)
   have hyl:((List.range p).map fun p=>AV.sl 3 ((rowsX ps ts p).map aStp)).length=p:=by simp
   have hys:((List.range (p+1)).map fun p=>AV.sl 3 ((rowsX ps ts p).map aStp))=((List.range p).map fun p=>AV.sl 3 ((rowsX ps ts p).map aStp)) ++ [.sl 3 ((rowsX ps ts p).map aStp)]:=by rw[List.range_succ,List.map_append];rfl
   rw[hys]
   change PC _ _ [_,.sl 1 (falL ps ts p)] (.sl 3 ((rowsX ps ts p).map aStp)) at h2
   clear hys hti hdo hss
   generalize (List.range p).map (fun p=>AV.sl 3 ((rowsX ps ts p).map aStp))=ys at *
   generalize (rowsX ps ts p).map aStp=row at *
   generalize falL ps ts p=fl at *
   rcases hA.inv with ⟨e1,rfl,rfl⟩|⟨bq,cq,rfl,rfl⟩
   ·simp only[go_sem]
    refine W1 hg ?_
    refine Sd ?_
    refine AWp.of ?_;simp only[go_sem,hg]
    refine Sd ?_
    refine(h2).val.use ?_;simp only[go_sem,hg]
    refine W1 hg ?_
    intro b' cap' g8
    refine Wk ?_
    exact⟨_,.refl _,_,rfl,by rw[e1];exact .row _ _ _⟩
   ·simp only[go_sem]
    refine W1 hg ?_
    refine Sd ?_
    refine AWp.of ?_;simp only[go_sem,hg]
    refine Sd ?_
    refine(h2).val.use ?_;simp only[go_sem,hg]
    refine W1 hg ?_
    refine Sd ?_
    intro b' cap' g8
    refine Wk ?_
    exact⟨_,.refl _,_,rfl,AppSt.snoc _ _ _ rfl⟩
  ·rintro vs L - ⟨v,rfl,hA⟩
   refine AWp.viewA (L:=[]) (j:=8) hA rfl ?_
   generalize (List.range ps.length).map (fun p=>AV.sl 3 ((rowsX ps ts p).map aStp))=RW at *
   have hex1:PC prog 55 [aTr ps,anil] (.rp 3 X 0 0):=PC.nilB (k:=4) hex0
   simp only[go_sem]
   refine Wk ?_
   refine Sd ?_
   refine Vu hex1 ?_
   refine Wk ?_
   by_cases hT:∃t,TgtS ps (rowsX ps ts) t
   ·obtain⟨a,ha⟩:=least_ex hR hT
    rw[aTgt_some ha] at hti
    refine Sd ?_
    refine Vu hti ?_
    refine Wk ?_
    refine ret_own ?_
    simp only[go_sem]
    exact⟨.tup [.sl 4 [],ai 7],.mkTup (Vws.cons (.nil 4) (Vws.refl _)),.inr (.inl ⟨hC,hT,rfl⟩)⟩
   have hdo:=hdo hT
   rw[aTgt_none hT] at hti
   refine Sd ?_
   refine Vu hti ?_
   refine Wk ?_
   refine hdo.val.mono ?_
   rintro r L ⟨rfl,R,hD,rfl⟩
   obtain⟨R',hR',hch,hla⟩:=isrun_inv hD.run
   obtain rfl:R=R':=by injection hR'
   have hlR:=evtG_len R (zeroC ps)
   have hoff:=valid_off hv
   have hsum:=(chn_last (zeroC_is ps) hch hla).2
   have hz0:(zeroC ps).sum=0:=by unfold zeroC;simp
   rw[fullC_sum,hz0] at hsum
   have hsok:=syn_ok hch
   have hsct:=syn_ctl hD
   have hrnk:=syn_rnk hv hch hla
   clear hch hla hR'
   have hfinal:∀l:List Syn,l.Sublist (synL (evtG (zeroC ps) R))->ctlB ps l (badX ps ts)=true->(ctlB ps [] (badX ps ts)=true->l=[])->CtlA ps ts (.tup [.sl 4 (l.map aSyn),ai 0]):=fun l h1 h2 h3=>.inr (.inr ⟨hC,hT,R,l,hD,h1,h2,h3,rfl⟩)
   clear hdo hti hD
   have hsl:=synL_len (evtG (zeroC ps) R)
   generalize evtG (zeroC ps) R=es at *
   generalize rkO (zeroC ps :: R)=rk at *
   have hel:es.length<=512:=by omega
   simp only[go_sem]
   refine Wk ?_
   refine AWp.block (AWp.loopN [14,16] [2,6,15] (fun m vs L=>∃(i:Nat) (v:AV),vs=[v,ai i]/\1<=i/\i<=513/\AppSt 55 4 ((synL (es.take i)).map aSyn) v L/\m=es.length - i) _ ⟨1,anil,rfl,Nat.le_refl _,by omega,by rw[synL_one];exact .nil,rfl⟩ ?_)
   rintro m vs L - ⟨i,v,rfl,hi1,hi5,hA,rfl⟩
   have hfo:=hA.fo
   have hesl:(es.map aEid).length=es.length:=List.length_map _
   simp only[go_sem,hfo]
   refine W2 hfo hesl ?_
   constructor<;>intro h2
   ·have hil:i<es.length:=by omega
    have gi:((i:Int) - 1).toNat=i - 1:=by omega
    have htl2:=synL_len (es.take i)
    rw[List.length_take] at htl2
    obtain⟨⟨a1,a2⟩,hx⟩:∃x,es[i - 1]?=some x:=⟨_,List.getElem?_eq_getElem (by omega)⟩
    obtain⟨⟨b1,b2⟩,hy⟩:∃y,es[i]?=some y:=⟨_,List.getElem?_eq_getElem hil⟩
    have hst:=synL_takeO hi1 hx hy
    have g1:(es.map aEid).getD (i - 1) .any = .agg [ai a1,ai a2]:=by rw[List.getD_eq_getElem?_getD,List.getElem?_map,hx];rfl
    have g2:(es.map aEid).getD i .any = .agg [ai b1,ai b2]:=by rw[List.getD_eq_getElem?_getD,List.getElem?_map,hy];rfl
    have hst1:a1 ≠ b1->(synL (es.take (i+1))).map aSyn=(synL (es.take i)).map aSyn ++ [.agg [ai a1,ai a2,ai b1,ai b2]]:=fun h=>by rw[hst,if_pos h,List.map_append];rfl
    have hst2:¬a1 ≠ b1->(synL (es.take (i+1))).map aSyn=(synL (es.take i)).map aSyn:=fun h=>by rw[hst,if_neg h,List.append_nil]
    have hyl:((synL (es.take i)).map aSyn).length<=1000:=by rw[List.length_map];omega
    clear hst hx hy
    generalize hys:(synL (es.take i)).map aSyn=ys at *
    generalize hEE:es.map aEid=EE at *
    rcases hA.inv with ⟨e1,rfl,rfl⟩|⟨bq,cq,rfl,rfl⟩
    ·refine Sq ?_
     refine AWp.read mixed [0,1,2,3,4,5,6,7,8,9,10,11] (by kernel_rfl) ?_;simp only[go_sem,g1,g2,gi,hesl]
     refine Sd ?_
     refine Wk ?_
     constructor<;>intro h3
     ·refine Sq ?_
      refine AWp.mix mixed [0,1,2,3,4,5,6,7,8,9,10] (.step 11 (.step 12 (.step 13 .done .done) .done) .done) (by kernel_rfl) ?_;simp only[go_sem,g1,g2,gi,hesl]
      refine Sd ?_
      intro b' cap' _
      refine Wk ?_
      exact⟨_,.refl _,es.length - (i+1),by omega,i+1,_,rfl,by omega,by omega,by rw[hst1 h3,e1];exact .row _ [_] _,rfl⟩
     ·refine Wk ?_
      exact⟨_,.refl _,es.length - (i+1),by omega,i+1,_,rfl,by omega,by omega,by rw[hst2 fun h=>h h3];exact hA,rfl⟩
    ·refine Sq ?_
     refine AWp.read mixed [0,1,2,3,4,5,6,7,8,9,10,11] (by kernel_rfl) ?_;simp only[go_sem,g1,g2,gi,hesl]
     refine Sd ?_
     refine Wk ?_
     constructor<;>intro h3
     ·refine Sq ?_
      refine AWp.mix mixed [0,1,2,3,4,5,6,7,8,9,10] (.step 11 (.step 12 (.step 13 .done .done) .done) .done) (by kernel_rfl) ?_;simp only[go_sem,g1,g2,gi,hesl]
      refine Sd ?_
      intro b' cap' _
      refine Wk ?_
      exact⟨_,.refl _,es.length - (i+1),by omega,i+1,_,rfl,by omega,by omega,by rw[hst1 h3];exact AppSt.snoc _ _ _ rfl,rfl⟩
     ·refine Wk ?_
      exact⟨_,.refl _,es.length - (i+1),by omega,i+1,_,rfl,by omega,by omega,by rw[hst2 fun h=>h h3];exact hA,rfl⟩
   ·rw[List.take_of_length_le (by omega)] at hA
    have hext:=fun l hl hll=>control_extended ps hs hv l hl hll
    have hcon:=fun l hl S hG hW w=>order_controls ps hs hv l hl S hG hW w (badX ps ts)
    have hfl:AV.sl 1 ((List.range ps.length).map fun p=>.sl 1 (falL ps ts p))=AV.sl 1 ((List.range ps.length).map fun p=>.sl 1 ((List.range (nev ps p+1)).map fun k=>ab (badX ps ts p k))):=rfl
    rw[<- hfl] at hcon
    generalize (List.range ps.length).map (fun p=>AV.sl 1 (falL ps ts p))=FL at *
    refine AWp.viewA (L:=[]) (j:=14) hA rfl ?_
    have hsml:((synL es).map aSyn).length=(synL es).length:=List.length_map _
    refine W1 hsml ?_
    refine AWp.block (AWp.loopN [14,17] [2,6] (fun m vs L=>∃(l:List Syn) (i:Int),vs=[.sl 4 (l.map aSyn),ai i]/\L=[]/\l.Sublist (synL es)/\ctlB ps l (badX ps ts)=true/\(ctlB ps [] (badX ps ts)=true->(l.length:Int)=i+1) /\ -1<=i/\i<l.length/\m=(i+1).toNat) _ ⟨synL es,_,rfl,rfl,List.Sublist.refl _,hsct,fun _=>by omega,by omega,by omega,rfl⟩ ?_)
    rintro m vs L - ⟨l,i,rfl,rfl,hsub,hct,hnn,hi1,hi2,rfl⟩
    have hlm:(l.map aSyn).length=l.length:=List.length_map _
    have hll:l.length<=512:=Nat.le_trans hsub.length_le (by omega)
    simp only[go_sem]
    refine W1 hlm ?_
    constructor<;>intro h3
    ·obtain⟨k,rfl⟩:∃k:Nat,i=k:=⟨i.toNat,by omega⟩
     have hkl:k<l.length:=by omega
     have hcl:l.length ≠ 0:=by omega
     obtain⟨c,hc⟩:∃c,l.length=c+1:=⟨l.length - 1,by omega⟩
     have hn:((l.length:Int) - 1).toNat=c:=by omega
     have htk:(l.take k).length=k:=by rw[List.length_take];omega
     have hmn:min k c=k:=by omega
     have hgk:((k:Int)+1).toNat=k+1:=by omega
     refine W1 hlm ?_
     intro bf
     refine W1 hlm ?_
     rw[hn,htk,hmn,List.take_take,Nat.min_self,htk,List.drop_replicate]
     refine⟨by rw[List.length_replicate];exact Nat.le_refl _,?_⟩
     have hRl:((l.take k).map aSyn ++ List.replicate (c - k) (AV.agg [AV.v (Value.int IntKind.i64 0),AV.v (Value.int IntKind.i64 0),AV.v (Value.int IntKind.i64 0),AV.v (Value.int IntKind.i64 0)])).length=c:=by rw[List.length_append,List.length_map,htk,List.length_replicate];omega
     have hRt:((l.take k).map aSyn ++ List.replicate (c - k) (AV.agg [AV.v (Value.int IntKind.i64 0),AV.v (Value.int IntKind.i64 0),AV.v (Value.int IntKind.i64 0),AV.v (Value.int IntKind.i64 0)])).take k=(l.take k).map aSyn:=List.take_left' (by rw[List.length_map,htk])
     generalize (l.take k).map aSyn ++ List.replicate (c - k) (AV.agg [AV.v (Value.int IntKind.i64 0),AV.v (Value.int IntKind.i64 0),AV.v (Value.int IntKind.i64 0),AV.v (Value.int IntKind.i64 0)])=RR at *
     refine AWp.seq ?_
     refine AWp.drawn mixed 7 (by kernel_rfl) ?_;simp only[go_sem,hlm,hRl,hRt,hgk,hc]
     refine Sd ?_
     have hd1:l.take (c+1)=l:=List.take_of_length_le (by omega)
     have hdl:(l.drop (k+1)).length=c - k:=by rw[List.length_drop];omega
     have hd2:(l.drop (k+1)).take (c - k)=l.drop (k+1):=List.take_of_length_le (by omega)
     have hd3:RR.drop (k+(c - k))=[]:=List.drop_of_length_le (by omega)
     rw[hd1,hdl,Nat.min_self,hd2,hdl,hd3,List.append_nil,<- List.eraseIdx_eq_take_drop_succ]
     have hel':(l.eraseIdx k).length=c:=by rw[List.length_eraseIdx,if_pos hkl,hc];rfl
     have hsub':(l.eraseIdx k).Sublist (synL es):=(List.eraseIdx_sublist l k).trans hsub
     have hok':SynOk ps (l.eraseIdx k):=synOk_sub (fun s hs=>hsub'.subset hs) hsok
     have hW':WhlX ps (exF ps (l.eraseIdx k)):=whl_of hv hok' (rnk_sub (fun s hs=>hsub'.subset hs) hrnk) (exF_gen _ _) (exF_stop _ _)
     have hx1:=hext (l.eraseIdx k) hok' (by omega)
     have hx2:=hcon (l.eraseIdx k) hok' _ (exF_gen _ _) hW' (decide (lftX ps (exF ps (l.eraseIdx k))=0))
     have hmo:ctlB ps [] (badX ps ts)=true->ctlB ps (l.eraseIdx k) (badX ps ts)=true:=ctl_mono
     generalize l.eraseIdx k=l' at *
     obtain⟨X',hX'⟩:∃X',aOrd ps (exF ps l') (decide (lftX ps (exF ps l')=0)) = .rp 3 X' 0 0:=⟨_,rfl⟩
     rw[hX'] at hx1 hx2
     refine AWp.viewP (Lf:=[(bf,.row 55 4 (l'.map aSyn) c)]) (Lk:=[]) (L':=[]) (List.Perm.refl _) .nil [(18,.sl 4 (l'.map aSyn))] (fun z hz=>?_) ?_
     ·obtain rfl:=List.mem_singleton.1 hz
      simp only[go_sem]
      exact Vw.ofLs (t:=55) (cap:=c) (if_pos rfl) (by rw[List.length_map,hel'])
     simp only[go_sem]
     refine Wk ?_
     refine Sd ?_
     refine Vu hx1 ?_
     refine Wk ?_
     refine Sd ?_
     refine Vu hx2 ?_
     generalize hcc:ctlB ps l' (badX ps ts)=cc at *
     refine Wk ?_
     constructor<;>intro h5
     ·refine Wk ?_
      exact⟨_,.refl _,k,by omega,l',(k:Int) - 1,rfl,rfl,hsub',by rw[hcc];exact h5,(fun h=>by have:=hnn h;omega),by omega,by omega,by omega⟩
     ·refine Wk ?_
      exact⟨_,.refl _,k,by omega,l,(k:Int) - 1,rfl,rfl,hsub,hct,(fun h=>absurd ((hcc ▸ hmo h:cc=true)) (by simpa using h5)),by omega,by omega,by omega⟩
    ·refine W1 hlm ?_
     refine ret_own ?_
     simp only[go_sem]
     exact⟨_,.refl _,hfinal l hsub hct fun h=>List.eq_nil_of_length_eq_zero (by have:=hnn h;omega)⟩
 ·rw[if_neg hC] at h1
  generalize hCC:conF ps ts=C at *
  refine MCalls.toS (K:=fun r L=>∃r0,Vw L r r0/\CtlA ps ts r0) ?_ (fun r L h=>h)
  refine MCalls.enter' 116 [.tmp 4,.tmp 5] [2,39,83] func20 rfl rfl rfl rfl rfl (by simp) (AWp.of ?_);simp only[go_sem]
  refine Wk ?_
  refine Sd ?_
  refine Vu h1 ?_
  refine W1 hC ?_
  refine ret_own ?_
  simp only[go_sem]
  exact⟨.tup [.sl 4 [],ai C],.mkTup (Vws.cons (.nil 4) (Vws.refl _)),.inl ⟨by rw[hCC];exact hC,by rw[hCC]⟩⟩
section
variable {ps:List Pr} {bad:List Int->Bool} {c:List Int}
def FwdX (ps:List Pr)(bad:List Int->Bool)(c:List Int):Prop:=∃R,chnF ps (zeroC ps) R=true/\(zeroC ps :: R).getLast?=some c/\∀d ∈ zeroC ps :: R,bad d=false
open Classical in
noncomputable def opnL (ps:List Pr)(bad:List Int->Bool)(cs:List (List Int)):List (List Int):=cs.filter fun c=>decide (FwdX ps bad c)
end
section
variable {ps:List Pr} {b:Nat->Nat->Bool}
end
def aSyns (l:List Syn):AV:=.sl 4 (l.map aSyn)
theorem syns_indexFunc (l:List Syn)(hl:l.length<=1000000)(g:AV)(hgf:fo g=(True,g))(p:Syn->Bool)(hg:∀x ∈ l,PV prog g [aSyn x] (ab (p x))) :
  PC prog 74 [aSyns l,g] (ai (match l.findIdx? p with|some i=>(i:Int)|none=>-1)):=by
 refine PE 19 [.tmp 4] [] func74 ?_;simp only[go_sem]
 refine Sd ?_
 refine AWp.of ?_;simp only[go_sem,aSyns]
 refine AWp.range' l.length [] [0,1,7] (fun k vs L=>L=[]/\∀i (h:i<l.length),i<k->p l[i]=false) (by omega) rfl rfl rfl ⟨rfl,by omega⟩ ?_ ?_
 ·rintro k vs L' hk hvs ⟨rfl,hI⟩
  simp only[go_sem]
  refine Sd ?_
  refine Ao ?_
  have hgk:=hg l[k] (List.getElem_mem hk)
  try simp only[go_sem,aSyn] at hgk
  refine Sd ?_
  refine AWp.of ?_;simp only[go_sem,getD_map hk,hgf,aSyn]
  refine⟨⟨by omega,by omega⟩,hk,hgk.use (AWp.of ?_)⟩;simp only[go_sem]
  refine⟨fun ht=>?_,fun hf=>?_⟩
  ·refine Sd ?_
   refine Ao ?_
   refine Rq ?_
   have:l.findIdx? p=some k:=by rw[List.findIdx?_eq_some_iff_getElem];exact⟨hk,ht,fun j hj=>by simpa using hI j (by omega) hj⟩
   rw[this]
  ·refine⟨[],List.Sublist.refl _,rfl,fun i h hi=>?_⟩
   by_cases e:i=k
   ·subst e;exact hf
   ·exact hI i h (by omega)
 ·rintro vs L' hvs ⟨rfl,hI⟩
  simp only[go_sem]
  refine Sd ?_
  refine Ao ?_
  refine Sd ?_
  refine Ao ?_
  refine Rq ?_
  have:l.findIdx? p=none:=by rw[List.findIdx?_eq_none_iff];intro x hx;obtain⟨i,hi,rfl⟩:=List.getElem_of_mem hx;exact hI i hi hi
  rw[this]
theorem syns_containsFunc (l:List Syn)(hl:l.length<=1000000)(g:AV)(hgf:fo g=(True,g))(p:Syn->Bool)(hg:∀x ∈ l,PV prog g [aSyn x] (ab (p x))) :
  PC prog 35 [aSyns l,g] (ab (l.any p)):=by
 refine PE 9 [.tmp 4] [] func35 ?_;simp only[go_sem]
 refine Sd ?_
 refine AWp.of ?_;simp only[go_sem,hgf,aSyns]
 refine(syns_indexFunc l hl g hgf p hg).val.use ?_
 simp only[go_sem]
 refine Sd ?_
 refine Ao ?_
 refine Rq ?_
 congr 2;exact findIdx_any l p
def badSy (ps:List Pr)(s:Syn):Bool:=!eidOk ps s.1 || !eidOk ps s.2
theorem syn_bad {ps:List Pr}{l:List Syn} : l.any (badSy ps)=false↔SynOk ps l:=by
 have he:∀x:Eid,eidOk ps x=true↔0<=x.1/\x.1<ps.length/\1<=x.2/\x.2<=nev ps x.1.toNat:=fun x=>by
  unfold eidOk
  simp only[Bool.and_eq_true,decide_eq_true_eq]
 rw[List.any_eq_false]
 constructor
 ·intro h s hs
  have:=h s hs
  unfold badSy at this
  rw[Bool.not_eq_true,Bool.or_eq_false_iff,Bool.not_eq_false',Bool.not_eq_false'] at this
  exact⟨(he _).1 this.1,(he _).1 this.2⟩
 ·intro h s hs
  obtain⟨h1,h2⟩:=h s hs
  unfold badSy
  rw[(he _).2 h1,(he _).2 h2];simp
theorem ref44_event (ps:List Pr)(hs:Sm ps)(x:Eid):PC prog 78 [aTr ps,aEid x] (ab (eidOk ps x)):=by
 have hel:∀(p:Nat) (hp:p<ps.length),ps[p].evs.length<=1000000:=fun p hp=>hs.evs _ (List.getElem_mem hp)
 obtain⟨x1,x2⟩:=x
 have hv:eidOk ps (x1,x2)=(decide (0<=x1) && (decide (x1<ps.length) && (decide (1<=x2) && decide (x2<=nev ps x1.toNat)))):=rfl
 have haE:aEid (x1,x2) = .agg [ai x1,ai x2]:=rfl
 rw[haE]
 by_cases hp:x1.toNat<ps.length
 ·have hg:=getD_map (f:=aPr) hp
  rw[nev_get hp] at hv
  generalize ps[x1.toNat]=y at *
  refine PE 34 [.tmp 4] [2,3] func78 ?_;simp only[go_sem]
  refine Wk ?_
  refine AWp.seq ?_
  refine Sq ?_
  refine AWp.read mixed [0,1,2,3,4,5,6,7,8,9,10,11,12,13,14,15,16,17,18,19,20,21,22,23,24,25,26,27,28,29] (by kernel_rfl) ?_;simp only[go_sem,hg]
  refine⟨fun h1 h2 h3=>⟨⟨⟨h1,h2⟩,h3⟩,h1,h2⟩,fun h1 h2 h3=>⟨⟨⟨h1,h2⟩,h3⟩,hp⟩,?_⟩
  refine Wk ?_
  refine Rq ?_
  rw[hv,Bool.and_assoc,Bool.and_assoc]
 ·have hg:(ps.map aPr).getD x1.toNat .any = .any:=by rw[List.getD_eq_getElem?_getD,List.getElem?_eq_none (by rw[List.length_map];omega)];rfl
  have hx:¬(x1<ps.length)\/x1<0:=by omega
  refine PE 34 [.tmp 4] [2,3] func78 ?_;simp only[go_sem]
  refine Wk ?_
  refine AWp.seq ?_
  have hnc:¬((0<=x1/\x1<ps.length)/\1<=x2):=by omega
  refine Sq ?_
  refine AWp.read mixed [0,1,2,3,4,5,6,7,8,9,10,11,12,13,14,15,16,17,18,19,20,21,22,23,24,25,26,27,28,29] (by kernel_rfl) ?_;simp only[go_sem,hg,List.getD_nil,hnc]
  refine Wk ?_
  refine Rq ?_
  have:(decide (0<=x1) && decide (x1<ps.length) && decide (1<=x2))=false:=by
   rw[<- Bool.not_eq_true]
   simpa using hnc
  rw[hv,<- Bool.and_assoc,<- Bool.and_assoc,this];rfl
theorem control_check1 (ps:List Pr)(hs:Sm ps)(x:Eid):PC prog 70 [aEid x,.rp 1 [aTr ps] 0 0] (ab (eidOk ps x)):=by
 have hel:∀(p:Nat) (hp:p<ps.length),ps[p].evs.length<=1000000:=fun p hp=>hs.evs _ (List.getElem_mem hp)
 obtain⟨x1,x2⟩:=x
 have hv:eidOk ps (x1,x2)=(decide (0<=x1) && (decide (x1<ps.length) && (decide (1<=x2) && decide (x2<=nev ps x1.toNat)))):=rfl
 have haE:aEid (x1,x2) = .agg [ai x1,ai x2]:=rfl
 rw[haE]
 by_cases hp:x1.toNat<ps.length
 ·have hg:=getD_map (f:=aPr) hp
  rw[nev_get hp] at hv
  generalize ps[x1.toNat]=y at *
  refine PE 33 [.tmp 3] [2] func70 ?_;simp only[go_sem]
  refine Wk ?_
  refine AWp.seq ?_
  refine Sq ?_
  refine AWp.read mixed [0,1,2,3,4,5,6,7,8,9,10,11,12,13,14,15,16,17,18,19,20,21,22,23,24,25,26,27,28,29] (by kernel_rfl) ?_;simp only[go_sem,hg]
  refine⟨fun h1 h2 h3=>⟨⟨⟨h1,h2⟩,h3⟩,h1,h2⟩,fun h1 h2 h3=>⟨⟨⟨h1,h2⟩,h3⟩,hp⟩,?_⟩
  refine Wk ?_
  refine Rq ?_
  rw[hv,Bool.and_assoc,Bool.and_assoc]
 ·have hg:(ps.map aPr).getD x1.toNat .any = .any:=by rw[List.getD_eq_getElem?_getD,List.getElem?_eq_none (by rw[List.length_map];omega)];rfl
  have hx:¬(x1<ps.length)\/x1<0:=by omega
  refine PE 33 [.tmp 3] [2] func70 ?_;simp only[go_sem]
  refine Wk ?_
  refine AWp.seq ?_
  have hnc:¬((0<=x1/\x1<ps.length)/\1<=x2):=by omega
  refine Sq ?_
  refine AWp.read mixed [0,1,2,3,4,5,6,7,8,9,10,11,12,13,14,15,16,17,18,19,20,21,22,23,24,25,26,27,28,29] (by kernel_rfl) ?_;simp only[go_sem,hg,List.getD_nil,hnc]
  refine Wk ?_
  refine Rq ?_
  have:(decide (0<=x1) && decide (x1<ps.length) && decide (1<=x2))=false:=by
   rw[<- Bool.not_eq_true]
   simpa using hnc
  rw[hv,<- Bool.and_assoc,<- Bool.and_assoc,this];rfl
theorem control_check2 (ps:List Pr)(hs:Sm ps)(s:Syn):PC prog 72 [aSyn s,.rp 1 [.clo 70 [.rp 1 [aTr ps] 0 0]] 0 0] (ab (badSy ps s)):=by
 obtain⟨⟨a,b⟩,c,d⟩:=s
 have h1:=(control_check1 ps hs (a,b)).clo (args:=[_]) (caps:=[_])
 have h2:=(control_check1 ps hs (c,d)).clo (args:=[_]) (caps:=[_])
 have hB:badSy ps ((a,b),(c,d))=(!eidOk ps (a,b) || !eidOk ps (c,d)):=rfl
 have e1:aSyn ((a,b),(c,d)) = .agg [ai a,ai b,ai c,ai d]:=rfl
 have e2:aEid (a,b) = .agg [ai a,ai b]:=rfl
 have e3:aEid (c,d) = .agg [ai c,ai d]:=rfl
 rw[e2] at h1
 rw[e3] at h2
 rw[e1,hB]
 generalize eidOk ps (a,b)=x at *
 generalize eidOk ps (c,d)=y at *
 refine PE 16 [.tmp 3] [2] func72 ?_;simp only[go_sem]
 refine Wk ?_
 refine h1.use ?_
 simp only[go_sem]
 refine Wk ?_
 refine GCall.use (ab y) (fun _=>⟨At,h2.use ⟨rfl,rfl⟩⟩) ?_
 simp only[go_sem]
 refine Wk ?_
 exact Rz
noncomputable def syE (ps:List Pr)(l:List Syn):Int:=if 1000<l.length then 5 else if l.any (badSy ps)=true then 2 else if lftX ps (exF ps l)=0 then 0 else 10
noncomputable def aChk (ps:List Pr)(l:List Syn):AV:=if validF ps=false then .tup [.v (.pointer none),ai 1] else if syE ps l=0 then .tup [aOrd ps (exF ps l) true,ai 0] else .tup [.v (.pointer none),ai (syE ps l)]
theorem control_check_bad {ps:List Pr}(hva:PC prog 71 [aTr ps] (ab false))(l:List Syn):PC prog 33 [aTr ps,.sl 4 (l.map aSyn)] (.tup [.v (.pointer none),ai 1]):=by
 refine PE 30 [.tmp 4,.tmp 5] [2,6] func33 ?_;simp only[go_sem]
 refine Wk ?_
 intros
 refine Wk ?_
 refine Sd ?_
 refine Vu hva ?_
 refine Wk ?_
 exact Rz
theorem control_check (ps:List Pr)(hs:Sm ps)(l:List Syn)(hll:l.length<=1000000):PC prog 33 [aTr ps,.sl 4 (l.map aSyn)] (aChk ps l):=by
 have h1:=trace_Valid ps hs
 cases hv:validF ps with
 | false =>
  unfold aChk
  rw[if_pos hv]
  rw[hv] at h1
  exact control_check_bad h1 l
 | true =>
  rw[hv] at h1
  have hA:aChk ps l=if syE ps l=0 then .tup [aOrd ps (exF ps l) true,ai 0] else .tup [.v (.pointer none),ai (syE ps l)]:=by unfold aChk;rw[if_neg (by rw[hv];decide)]
  have hE:syE ps l=if 1000<l.length then 5 else if l.any (badSy ps)=true then 2 else if lftX ps (exF ps l)=0 then 0 else 10:=rfl
  have hlm:(l.map aSyn).length=l.length:=List.length_map _
  by_cases hl:1000<l.length
  ·rw[if_pos hl] at hE
   have hli:(1000:Int)<l.length:=by omega
   rw[hA,hE,if_neg (by decide)]
   refine PE 30 [.tmp 4,.tmp 5] [2,6] func33 ?_;simp only[go_sem]
   refine Wk ?_
   intros
   refine Wk ?_
   refine Sd ?_
   refine(h1).val.use ?_;simp only[go_sem,hlm,hli]
   refine W2 hlm hli ?_
   exact Rz
  ·rw[if_neg hl] at hE
   have hli:¬(1000:Int)<l.length:=by omega
   have hcf:=syns_containsFunc l hll (.clo 72 [.rp 1 [.clo 70 [.rp 1 [aTr ps] 0 0]] 0 0]) rfl (badSy ps) fun s _=>(control_check2 ps hs s).clo (args:=[_]) (caps:=[_])
   have haS:aSyns l = .sl 4 (l.map aSyn):=rfl
   rw[haS] at hcf
   by_cases hb:l.any (badSy ps)=true
   ·rw[if_pos hb] at hE
    rw[hb] at hcf
    rw[hA,hE,if_neg (by decide)]
    refine PE 30 [.tmp 4,.tmp 5] [2,6] func33 ?_;simp only[go_sem]
    refine Wk ?_
    intros
    refine Wk ?_
    refine Sd ?_
    refine(h1).val.use ?_;simp only[go_sem,hlm,hli]
    refine W2 hlm hli ?_
    refine Sd ?_
    refine Vu hcf ?_
    refine Wk ?_
    exact Rz
   ·rw[if_neg hb] at hE
    have hb':l.any (badSy ps)=false:=by simpa using hb
    have hok:=syn_bad.1 hb'
    have hx:=control_extended ps hs hv l hok hll
    rw[hb'] at hcf
    have hO:∀w,aOrd ps (exF ps l) w = .rp 3 [.agg [aPrs ps,.sl 1 ((List.range ps.length).map fun p=>.sl 1 ((exF ps l p).map aInts)),ab w]] 0 0:=fun _=>rfl
    by_cases h0:lftX ps (exF ps l)=0
    ·rw[if_pos h0] at hE
     rw[hA,hE,if_pos rfl]
     rw[decide_eq_true h0] at hx
     rw[hO] at hx ⊢
     generalize (List.range ps.length).map (fun p=>AV.sl 1 ((exF ps l p).map aInts))=TT at *
     refine PE 30 [.tmp 4,.tmp 5] [2,6] func33 ?_;simp only[go_sem]
     refine Wk ?_
     intros
     refine Wk ?_
     refine Sd ?_
     refine(h1).val.use ?_;simp only[go_sem,hlm,hli]
     refine W2 hlm hli ?_
     refine Sd ?_
     refine Vu hcf ?_
     refine Wk ?_
     refine Sd ?_
     refine Vu hx ?_
     refine Wk ?_
     exact Rz
    ·rw[if_neg h0] at hE
     rw[hA,hE,if_neg (by decide)]
     rw[decide_eq_false h0,hO] at hx
     generalize (List.range ps.length).map (fun p=>AV.sl 1 ((exF ps l p).map aInts))=TT at *
     refine PE 30 [.tmp 4,.tmp 5] [2,6] func33 ?_;simp only[go_sem]
     refine Wk ?_
     intros
     refine Wk ?_
     refine Sd ?_
     refine(h1).val.use ?_;simp only[go_sem,hlm,hli]
     refine W2 hlm hli ?_
     refine Sd ?_
     refine Vu hcf ?_
     refine Wk ?_
     refine Sd ?_
     refine Vu hx ?_
     refine Wk ?_
     exact Rz
def brkB (c:List Int)(s:Syn):Bool:=decide (s.2.2<=cAt c s.2.1.toNat) && decide (cAt c s.1.1.toNat<s.1.2)
def prmB (ps:List Pr)(l:List Syn)(c:List Int):Bool:=isF ps c && l.all fun s=>!brkB c s
set_option maxHeartbeats 1000000 in
theorem ref44_Permitted (ps:List Pr)(hs:Sm ps)(hv:validF ps=true)(l:List Syn)(hl:SynOk ps l)(hll:l.length<=1000000)(c:List Int):PC prog 39 [aTr ps,.sl 4 (l.map aSyn),aInts c] (ab (prmB ps l c)):=by
 have h1:=ref22_Consistent ps hs hv c
 have hP:prmB ps l c=(isF ps c && l.all fun s=>!brkB c s):=rfl
 have hlm:(l.map aSyn).length=l.length:=List.length_map _
 generalize prmB ps l c=B at *
 cases hc:isF ps c with
 | false =>
  rw[hc] at h1 hP
  rw[hP,Bool.false_and]
  generalize l.map aSyn=SL at *
  refine PE 52 [.tmp 6] [3] func39 ?_;simp only[go_sem]
  refine Wk ?_
  refine Sd ?_
  refine Vu h1 ?_
  refine Wk ?_
  exact Rz
 | true =>
  rw[hc] at h1 hP
  rw[Bool.true_and] at hP
  obtain⟨hcl,_,_⟩:=isF_iff.1 hc
  have haI:aInts c = .sl 1 (c.map ai):=rfl
  rw[haI] at *
  have hgS:∀k (h:k<l.length),(l.map aSyn).getD k .any=aSyn l[k]:=fun k h=>getD_map h
  generalize l.map aSyn=SL at *
  refine PE 52 [.tmp 6] [3] func39 ?_;simp only[go_sem]
  refine Wk ?_
  refine Sd ?_
  refine Vu h1 ?_
  refine Wk ?_
  refine AWp.block (AWp.count 7 l.length [] [1,2] (fun k vs L=>L=[]/\∀i (h:i<l.length),i<k->brkB c l[i]=false) rfl rfl ⟨rfl,fun i _ h=>by omega⟩ ?_)
  rintro k vs L hk - ⟨rfl,hI⟩
  simp only[go_sem]
  refine W1 hlm ?_
  constructor<;>intro h
  ·have hkl:k<l.length:=by omega
   have hg:=hgS k hkl
   have hno:brkB c l[k]=true->B=false:=fun h=>by
    rw[hP,List.all_eq_false]
    exact⟨_,List.getElem_mem hkl,by rw[h];decide⟩
   have hye:brkB c l[k]=false->∀i (h:i<l.length),i<k+1->brkB c l[i]=false:=fun h i hi hik=>by
    by_cases e:i=k
    ·subst e;exact h
    ·exact hI i hi (by omega)
   obtain⟨⟨s1,s2,_,_⟩,t1,t2,_,_⟩:=hl l[k] (List.getElem_mem hkl)
   generalize l[k]=s at *
   obtain⟨⟨a,b⟩,p,q⟩:=s
   have s1:0<=a:=s1
   have s2:a<ps.length:=s2
   have t1:0<=p:=t1
   have t2:p<ps.length:=t2
   have hg:SL.getD k .any = .agg [ai a,ai b,ai p,ai q]:=hg
   have hb:brkB c ((a,b),(p,q))=(decide (q<=cAt c p.toNat) && decide (cAt c a.toNat<b)):=rfl
   have ga:(c.map ai).getD a.toNat .any=ai (cAt c a.toNat):=by rw[getD_map (show a.toNat<c.length by omega),cAt_nat]
   have gp:(c.map ai).getD p.toNat .any=ai (cAt c p.toNat):=by rw[getD_map (show p.toNat<c.length by omega),cAt_nat]
   rw[hb] at hno hye
   generalize cAt c a.toNat=ca at *
   generalize cAt c p.toNat=cp at *
   refine Sq ?_
   refine AWp.read mixed [0,1,2,3,4,5,6,7,8,9,10,11,12,13,14,15,16,17,18,19,20,21,22,23,24,25,26,27,28,29,30,31,32,33] (by kernel_rfl) ?_;simp only[go_sem,hg,hlm,ga,gp]
   refine Sd ?_
   cases hd:(decide (q<=cp) && decide (ca<b)) with
   | true =>
    rw[hno hd]
    refine W1 hd ?_
    exact Rz
   | false =>
    refine W1 hd ?_
    exact⟨_,.refl _,rfl,hye hd⟩
  ·have:k=l.length:=by omega
   subst this
   have:B=true:=by
    rw[hP,List.all_eq_true]
    intro x hx
    obtain⟨i,hi,rfl⟩:=List.getElem_of_mem hx
    rw[hI i hi hi];rfl
   rw[this]
   refine W1 hlm ?_
   exact Rz
end Go.AL
end
