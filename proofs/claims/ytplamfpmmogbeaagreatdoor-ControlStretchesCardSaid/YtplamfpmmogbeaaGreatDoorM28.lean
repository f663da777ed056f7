/- Texts of this claim's proof: WY16, WY10, WY17, WY18. No condition. -/
import Derived.Test.YtplamfpmmogbeaaGreatDoorM25
import Derived.Test.YtplamfpmmogbeaaGreatDoorM27
import Derived.Test.YtplamfpmmogbeaaGreatDoorM21
import Derived.Test.YtplamfpmmogbeaaGreatDoorM18
section
namespace Go.AL
open Go Go.RowKit
set_option maxRecDepth 4000
theorem synL_snoc (x y:Eid):∀l:List Eid,synL (l ++ [x,y])=synL (l ++ [x]) ++ if x.1 ≠ y.1 then [(x,y)] else []
 | []=>by
  show (if x.1 ≠ y.1 then [(x,y)] else []) ++ synL [y]=[] ++ _
  simp [synL]
 | [a]=>by
  show (if a.1 ≠ x.1 then [(a,x)] else []) ++ synL ([] ++ [x,y])=((if a.1 ≠ x.1 then [(a,x)] else []) ++ synL ([] ++ [x])) ++ _
  rw[synL_snoc x y [],List.append_assoc]
 | a :: b :: l=>by
  show (if a.1 ≠ b.1 then [(a,b)] else []) ++ synL ((b :: l) ++ [x,y])=((if a.1 ≠ b.1 then [(a,b)] else []) ++ synL ((b :: l) ++ [x])) ++ _
  rw[synL_snoc x y (b :: l),List.append_assoc]
theorem synL_take {es:List Eid} {i:Nat} (h1:1≤i) (h2:i<es.length):synL (es.take (i+1))=synL (es.take i) ++ if (es[i - 1]).1 ≠ (es[i]).1 then [(es[i - 1],es[i])] else []:=by
 obtain⟨k,rfl⟩:∃k,i=k+1:=⟨i - 1,by omega⟩
 have e1:es.take (k+1+1)=es.take k ++ [es[k],es[k+1]]:=by
  rw[List.take_succ_eq_append_getElem h2,List.take_succ_eq_append_getElem (by omega),List.append_assoc];rfl
 have e2:es.take (k+1)=es.take k ++ [es[k]]:=List.take_succ_eq_append_getElem (by omega)
 rw[e1,e2,synL_snoc];rfl
theorem synL_takeO {es:List Eid} {i:Nat} (h1:1≤i) {x y:Eid} (hx:es[i - 1]?=some x) (hy:es[i]?=some y):synL (es.take (i+1))=synL (es.take i) ++ if x.1 ≠ y.1 then [(x,y)] else []:=by
 obtain⟨h3,rfl⟩:=List.getElem?_eq_some_iff.1 hx
 obtain⟨h4,rfl⟩:=List.getElem?_eq_some_iff.1 hy
 exact synL_take h1 h4
theorem synL_one {es:List Eid} : synL (es.take 1)=[]:=by
 cases es with
 | nil=>rfl
 | cons a l=>rfl
theorem synL_len:∀es:List Eid,(synL es).length≤es.length
 | []=>by simp [synL]
 | [a]=>by simp [synL]
 | a :: b :: l=>by
  have:=synL_len (b :: l)
  show ((if a.1 ≠ b.1 then [(a,b)] else []) ++ synL (b :: l)).length≤_
  rw[List.length_append]
  split <;> simp only[List.length_cons,List.length_nil] at this ⊢ <;> omega
theorem rowsX_ok (ps:List Pr) (ts:List Pd):RowsOk ps (badX ps ts) (rowsX ps ts):=fun p _=>spL_ok _ p _
theorem rowsX_len (ps:List Pr) (_hs:Sm ps) (hv:validF ps=true) (ts:List Pd):∀p,p<ps.length→(rowsX ps ts p).length≤1000000:=fun p hp=>by
 have h1:=spL_len (b:=badX ps ts p) (p:=p) (nev ps p+1)
 have h2:=valid_off hv
 have h3:=off_le hp
 have h5:=nev_get hp
 unfold rowsX
 omega
theorem PC.nilB {P:Program} {f:FuncId} {a r:AV} {k:Nat} (h:PC P f [a,.sl k []] r):PC P f [a,anil] r:=⟨h.1,fun n w A vs hL hr=>by
 obtain⟨u,us',rfl,h1,h2⟩:=hr.inv_cons
 obtain⟨u2,us2,rfl,h3,h4⟩:=h2.inv_cons
 obtain rfl:=h4.inv_nil
 cases h3
 exact h.2 n w A _ hL (.cons h1 (.cons (.sl0 k none 0 (by decide)) .nil))⟩
theorem ctl_mono {ps:List Pr} {l:List Syn} {bad:Nat→Nat→Bool} (h:ctlB ps [] bad=true):ctlB ps l bad=true:=by
 rw[ctlB_true] at h ⊢
 rintro⟨d,hd⟩
 refine h ⟨d,hd.rng,hd.bad,fun a ha i hi hia y hy=>hd.clo a ha i hi hia y ?_⟩
 unfold dirX at hy ⊢
 rcases List.mem_append.1 hy with hy|hy
 ·exact List.mem_append_left _ hy
 ·obtain⟨s,h1,_⟩:=List.mem_map.1 hy
  exact absurd (List.mem_filter.1 h1).1 (List.not_mem_nil)
def CtlA (ps:List Pr) (ts:List Pd) (r:AV):Prop :=
 (conF ps ts ≠ 0∧r = .tup [.sl 4 [],ai (conF ps ts)])∨(conF ps ts=0∧(∃t,TgtS ps (rowsX ps ts) t)∧r = .tup [.sl 4 [],ai 7]) ∨
 (conF ps ts=0∧(¬ ∃t,TgtS ps (rowsX ps ts) t)∧∃(R:List (List Int)) (l:List Syn),DodgeR ps (badX ps ts) (zeroC ps :: R)∧l.Sublist (synL (evtG (zeroC ps) R))∧ctlB ps l (badX ps ts)=true∧(ctlB ps [] (badX ps ts)=true→l=[])∧r = .tup [.sl 4 (l.map aSyn),ai 0])
set_option maxHeartbeats 2000000 in
theorem control_Control (ps:List Pr) (hs:Sm ps) (ts:List Pd) (hz:∀t ∈ ts,szF t≤1000000) (htl:ts.length≤1000000) :
  MCalls Proofs.Tryz.prog 9 [aTr ps,.sl 6 (ts.map aPd)] [] fun r L=>L=[]∧CtlA ps ts r:=by
 have h1:=control_falsehoods ps hs ts hz htl
 have hps:=hs.procs
 by_cases hC:conF ps ts=0
 ·rw[if_pos hC] at h1
  obtain⟨hv,hlen,_⟩:=conF_inv hC
  have hR:=rowsX_ok ps ts
  have hRl:=rowsX_len ps hs hv ts
  have hti:=order_tight ps hs hv (decide (lftX ps (exF ps [])=0)) hR hRl
  have hdo:=order_dodge ps hs hv (decide (lftX ps (exF ps [])=0)) hR hRl
  have hex0:=control_extended ps hs hv [] (synOk_nil ps) (by simp)
  have hst:=fun p=>control_stretches (badX ps ts p) p (nev ps p+1)
  have hnb:=fun p (hp:p<ps.length)=>show nev ps p≤1000000 by rw[nev_get hp];exact hs.evs _ (List.getElem_mem hp)
  have hss:aStss ((List.range ps.length).map (rowsX ps ts))=aRowsX ps ts:=by unfold aStss aRowsX;rw[List.map_map];rfl
  rw[hss] at hti hdo
  obtain⟨X,hX⟩:∃X,aOrd ps (exF ps []) (decide (lftX ps (exF ps [])=0)) = .rp 3 X 0 0:=⟨_,rfl⟩
  rw[hX] at hti hdo hex0
  unfold falT at h1
  unfold aRowsX at hti hdo
  refine MCalls.toS (K:=fun r L=>∃r0,Vw L r r0∧CtlA ps ts r0) ?_ (fun r L h=>h)
  refine MCalls.enter' 116 [.tmp 4,.tmp 5] [2,39,83] Proofs.Tryz.func9 rfl rfl rfl rfl rfl (by simp) (AWp.of ?_);simp only[go_sem]
  refine Wk ?_
  refine Sd ?_
  refine(h1).val.use ?_;simp only[go_sem]
  repeat(first|((with_reducible refine AWp.ofC ?_ ?_);exact rfl;simp only[go_sem,List.length_range])|((with_reducible refine an ?_ ?_);exact Au))
  refine AWp.range' ps.length [8] [2,6,28,29] (fun p vs L=>∃v,vs=[v]∧AppSt 37 1 ((List.range p).map fun p => .sl 3 ((rowsX ps ts p).map aStp)) v L) (by omega) rfl rfl rfl ⟨anil,rfl,.nil⟩ ?_ ?_
  ·rintro p vs L hp - ⟨v,rfl,hA⟩
   have hg:((List.range ps.length).map fun p=>AV.sl 1 (falL ps ts p)).getD p .any = .sl 1 (falL ps ts p):=map_range_getD hp _
   have h2:=hst p (by have:=hnb p hp;omega)
   have hyl:((List.range p).map fun p=>AV.sl 3 ((rowsX ps ts p).map aStp)).length=p:=by simp
   have hys:((List.range (p+1)).map fun p=>AV.sl 3 ((rowsX ps ts p).map aStp))=((List.range p).map fun p=>AV.sl 3 ((rowsX ps ts p).map aStp)) ++ [.sl 3 ((rowsX ps ts p).map aStp)]:=by rw[List.range_succ,List.map_append];rfl
   rw[hys]
   change PC _ _ [_,.sl 1 (falL ps ts p)] (.sl 3 ((rowsX ps ts p).map aStp)) at h2
   clear hys hti hdo hss
   generalize (List.range p).map (fun p=>AV.sl 3 ((rowsX ps ts p).map aStp))=ys at *
   generalize (rowsX ps ts p).map aStp=row at *
   generalize falL ps ts p=fl at *
   rcases hA.inv with ⟨e1,rfl,rfl⟩|⟨bq,cq,rfl,rfl⟩
   ·simp only[go_sem]
    refine W1 hg ?_
    refine Sd ?_
    refine AWp.of ?_;simp only[go_sem]
    refine Sd ?_
    refine(h2).val.use ?_;simp only[go_sem]
    refine W1 hg ?_
    intro b' cap' g8
    refine Wk ?_
    exact⟨_,List.Sublist.refl _,_,rfl,by rw[e1];exact .row _ _ _⟩
   ·simp only[go_sem]
    refine W1 hg ?_
    refine Sd ?_
    refine AWp.of ?_;simp only[go_sem]
    refine Sd ?_
    refine(h2).val.use ?_;simp only[go_sem]
    refine W1 hg ?_
    refine Sd ?_
    intro b' cap' g8
    refine Wk ?_
    exact⟨_,List.Sublist.refl _,_,rfl,AppSt.snoc _ _ _ rfl⟩
  ·rintro vs L - ⟨v,rfl,hA⟩
   refine AWp.viewA (L:=[]) (j:=8) hA rfl ?_
   generalize (List.range ps.length).map (fun p=>AV.sl 3 ((rowsX ps ts p).map aStp))=RW at *
   have hex1:PC Proofs.Tryz.prog 33 [aTr ps,anil] (.rp 3 X 0 0):=PC.nilB (k:=4) hex0
   simp only[go_sem]
   refine Wk ?_
   refine Sd ?_
   refine(hex1).val.use ?_;simp only[go_sem]
   refine Wk ?_
   by_cases hT:∃t,TgtS ps (rowsX ps ts) t
   ·obtain⟨a,ha⟩:=least_ex hR hT
    rw[aTgt_some ha] at hti
    refine Sd ?_
    refine(hti).val.use ?_;simp only[go_sem]
    refine Wk ?_
    refine ret_own ?_
    simp only[go_sem]
    exact⟨.tup [.sl 4 [],ai 7],.mkTup (Vws.cons (.nil 4) (Vws.refl _)),.inr (.inl ⟨hC,hT,rfl⟩)⟩
   have hdo:=hdo hT
   rw[aTgt_none hT] at hti
   refine Sd ?_
   refine(hti).val.use ?_;simp only[go_sem]
   refine Wk ?_
   refine hdo.val.mono ?_
   rintro r L ⟨rfl,R,hD,rfl⟩
   obtain⟨R',hR',hch,hla⟩:=isrun_inv hD.run
   obtain rfl:R=R':=by injection hR'
   have hlR:=evtG_len R (zeroC ps)
   have hoff:=valid_off hv
   have hsum:=(chn_last (zeroC_is ps) hch hla).2
   have hz0:(zeroC ps).sum=0:=by unfold zeroC;simp
   rw[fullC_sum,hz0] at hsum
   have hsok:=syn_ok hch
   have hsct:=syn_ctl hD
   have hrnk:=syn_rnk hv hch hla
   clear hch hla hR'
   have hfinal:∀l:List Syn,l.Sublist (synL (evtG (zeroC ps) R))→ctlB ps l (badX ps ts)=true→(ctlB ps [] (badX ps ts)=true→l=[])→CtlA ps ts (.tup [.sl 4 (l.map aSyn),ai 0]):=fun l h1 h2 h3 => .inr (.inr ⟨hC,hT,R,l,hD,h1,h2,h3,rfl⟩)
   clear hdo hti hD
   have hsl:=synL_len (evtG (zeroC ps) R)
   generalize evtG (zeroC ps) R=es at *
   generalize rkO (zeroC ps :: R)=rk at *
   have hel:es.length≤512:=by omega
   simp only[go_sem]
   refine Wk ?_
   refine AWp.block (AWp.loopN [14,16] [2,6,15] (fun m vs L=>∃(i:Nat) (v:AV),vs=[v,ai i]∧1≤i∧i≤513∧AppSt 76 4 ((synL (es.take i)).map aSyn) v L∧m=es.length - i) _ ⟨1,anil,rfl,Nat.le_refl _,by omega,by rw[synL_one];exact .nil,rfl⟩ ?_)
   rintro m vs L - ⟨i,v,rfl,hi1,hi5,hA,rfl⟩
   have hfo:=hA.fo
   have hesl:(es.map aEid).length=es.length:=List.length_map _
   simp only[go_sem]
   refine W2 hfo hesl ?_
   refine⟨fun h2 => ?_,fun h2 => ?_⟩
   ·have hil:i<es.length:=by omega
    have gi:((i:Int) - 1).toNat=i - 1:=by omega
    have htl2:=synL_len (es.take i)
    rw[List.length_take] at htl2
    obtain⟨⟨a1,a2⟩,hx⟩:∃x,es[i - 1]?=some x:=⟨_,List.getElem?_eq_getElem (by omega)⟩
    obtain⟨⟨b1,b2⟩,hy⟩:∃y,es[i]?=some y:=⟨_,List.getElem?_eq_getElem hil⟩
    have hst:=synL_takeO hi1 hx hy
    have g1:(es.map aEid).getD (i - 1) .any = .agg [ai a1,ai a2]:=by rw[List.getD_eq_getElem?_getD,List.getElem?_map,hx];rfl
    have g2:(es.map aEid).getD i .any = .agg [ai b1,ai b2]:=by rw[List.getD_eq_getElem?_getD,List.getElem?_map,hy];rfl
    have hst1:a1 ≠ b1→(synL (es.take (i+1))).map aSyn=(synL (es.take i)).map aSyn ++ [.agg [ai a1,ai a2,ai b1,ai b2]]:=fun h=>by rw[hst,if_pos h,List.map_append];rfl
    have hst2:¬a1 ≠ b1→(synL (es.take (i+1))).map aSyn=(synL (es.take i)).map aSyn:=fun h=>by rw[hst,if_neg h,List.append_nil]
    have hyl:((synL (es.take i)).map aSyn).length≤1000:=by rw[List.length_map];omega
    clear hst hx hy
    generalize hys:(synL (es.take i)).map aSyn=ys at *
    generalize hEE:es.map aEid=EE at *
    rcases hA.inv with ⟨e1,rfl,rfl⟩|⟨bq,cq,rfl,rfl⟩
    ·repeat(first|(with_reducible refine AWp.seq ?_)|(with_reducible refine AWp.block ?_))
     refine AWp.read mixed [0,1,2,3,4,5,6,7,8,9,10,11] (by kernel_rfl) ?_;simp only[go_sem,g1,g2,gi,hesl]
     refine Sd ?_
     refine Wk ?_
     refine⟨fun h3 => ?_,fun h3 => ?_⟩
     ·repeat(first|(with_reducible refine AWp.seq ?_)|(with_reducible refine AWp.block ?_))
      refine AWp.mix mixed [0,1,2,3,4,5,6,7,8,9,10] (.step 11 (.step 12 (.step 13 .done .done) .done) .done) (by kernel_rfl) ?_;simp only[go_sem,g1,g2,gi,hesl]
      refine Sd ?_
      intro b' cap' _
      refine Wk ?_
      exact⟨_,List.Sublist.refl _,es.length - (i+1),by omega,i+1,_,rfl,by omega,by omega,by rw[hst1 h3,e1];exact .row _ [_] _,rfl⟩
     ·refine Wk ?_
      exact⟨_,List.Sublist.refl _,es.length - (i+1),by omega,i+1,_,rfl,by omega,by omega,by rw[hst2 fun h=>h h3];exact hA,rfl⟩
    ·repeat(first|(with_reducible refine AWp.seq ?_)|(with_reducible refine AWp.block ?_))
     refine AWp.read mixed [0,1,2,3,4,5,6,7,8,9,10,11] (by kernel_rfl) ?_;simp only[go_sem,g1,g2,gi,hesl]
     refine Sd ?_
     refine Wk ?_
     refine⟨fun h3 => ?_,fun h3 => ?_⟩
     ·repeat(first|(with_reducible refine AWp.seq ?_)|(with_reducible refine AWp.block ?_))
      refine AWp.mix mixed [0,1,2,3,4,5,6,7,8,9,10] (.step 11 (.step 12 (.step 13 .done .done) .done) .done) (by kernel_rfl) ?_;simp only[go_sem,g1,g2,gi,hesl]
      refine Sd ?_
      intro b' cap' _
      refine Wk ?_
      exact⟨_,List.Sublist.refl _,es.length - (i+1),by omega,i+1,_,rfl,by omega,by omega,by rw[hst1 h3];exact AppSt.snoc _ _ _ rfl,rfl⟩
     ·refine Wk ?_
      exact⟨_,List.Sublist.refl _,es.length - (i+1),by omega,i+1,_,rfl,by omega,by omega,by rw[hst2 fun h=>h h3];exact hA,rfl⟩
   ·rw[List.take_of_length_le (by omega)] at hA
    have hext:=fun l hl hll=>control_extended ps hs hv l hl hll
    have hcon:=fun l hl S hG hW w=>order_controls ps hs hv l hl S hG hW w (badX ps ts)
    have hfl:AV.sl 1 ((List.range ps.length).map fun p => .sl 1 (falL ps ts p))=AV.sl 1 ((List.range ps.length).map fun p => .sl 1 ((List.range (nev ps p+1)).map fun k=>ab (badX ps ts p k))):=rfl
    rw[← hfl] at hcon
    generalize (List.range ps.length).map (fun p=>AV.sl 1 (falL ps ts p))=FL at *
    refine AWp.viewA (L:=[]) (j:=14) hA rfl ?_
    have hsml:((synL es).map aSyn).length=(synL es).length:=List.length_map _
    refine W1 hsml ?_
    refine AWp.block (AWp.loopN [14,17] [2,6] (fun m vs L=>∃(l:List Syn) (i:Int),vs=[.sl 4 (l.map aSyn),ai i]∧L=[]∧l.Sublist (synL es)∧ctlB ps l (badX ps ts)=true∧(ctlB ps [] (badX ps ts)=true→(l.length:Int)=i+1) ∧ -1≤i∧i<l.length∧m=(i+1).toNat) _ ⟨synL es,_,rfl,rfl,List.Sublist.refl _,hsct,fun _=>by omega,by omega,by omega,rfl⟩ ?_)
    rintro m vs L - ⟨l,i,rfl,rfl,hsub,hct,hnn,hi1,hi2,rfl⟩
    have hlm:(l.map aSyn).length=l.length:=List.length_map _
    have hll:l.length≤512:=Nat.le_trans hsub.length_le (by omega)
    simp only[go_sem]
    refine W1 hlm ?_
    refine⟨fun h3 => ?_,fun h3 => ?_⟩
    ·obtain⟨k,rfl⟩:∃k:Nat,i=k:=⟨i.toNat,by omega⟩
     have hkl:k<l.length:=by omega
     have hcl:l.length ≠ 0:=by omega
     obtain⟨c,hc⟩:∃c,l.length=c+1:=⟨l.length - 1,by omega⟩
     have hn:((l.length:Int) - 1).toNat=c:=by omega
     have htk:(l.take k).length=k:=by rw[List.length_take];omega
     have hmn:min k c=k:=by omega
     have hgk:((k:Int)+1).toNat=k+1:=by omega
     refine W1 hlm ?_
     intro bf
     refine W1 hlm ?_
     rw[hn,htk,hmn,List.take_take,Nat.min_self,htk,List.drop_replicate]
     refine⟨by rw[List.length_replicate];exact Nat.le_refl _,?_⟩
     have hRl:((l.take k).map aSyn ++ List.replicate (c - k) (AV.agg [AV.v (Value.int IntKind.i64 0),AV.v (Value.int IntKind.i64 0),AV.v (Value.int IntKind.i64 0),AV.v (Value.int IntKind.i64 0)])).length=c:=by rw[List.length_append,List.length_map,htk,List.length_replicate];omega
     have hRt:((l.take k).map aSyn ++ List.replicate (c - k) (AV.agg [AV.v (Value.int IntKind.i64 0),AV.v (Value.int IntKind.i64 0),AV.v (Value.int IntKind.i64 0),AV.v (Value.int IntKind.i64 0)])).take k=(l.take k).map aSyn:=List.take_left' (by rw[List.length_map,htk])
     generalize (l.take k).map aSyn ++ List.replicate (c - k) (AV.agg [AV.v (Value.int IntKind.i64 0),AV.v (Value.int IntKind.i64 0),AV.v (Value.int IntKind.i64 0),AV.v (Value.int IntKind.i64 0)])=RR at *
     refine AWp.seq ?_
     refine AWp.drawn mixed 7 (by kernel_rfl) ?_;simp only[go_sem,hlm,hRl,hRt,hgk,hc]
     refine Sd ?_
     have hd1:l.take (c+1)=l:=List.take_of_length_le (by omega)
     have hdl:(l.drop (k+1)).length=c - k:=by rw[List.length_drop];omega
     have hd2:(l.drop (k+1)).take (c - k)=l.drop (k+1):=List.take_of_length_le (by omega)
     have hd3:RR.drop (k+(c - k))=[]:=List.drop_of_length_le (by omega)
     rw[hd1,hdl,Nat.min_self,hd2,hdl,hd3,List.append_nil,← List.eraseIdx_eq_take_drop_succ]
     have hel':(l.eraseIdx k).length=c:=by rw[List.length_eraseIdx,if_pos hkl,hc];rfl
     have hsub':(l.eraseIdx k).Sublist (synL es):=(List.eraseIdx_sublist l k).trans hsub
     have hok':SynOk ps (l.eraseIdx k):=synOk_sub (fun s hs=>hsub'.subset hs) hsok
     have hW':WhlX ps (exF ps (l.eraseIdx k)):=whl_of hv hok' (rnk_sub (fun s hs=>hsub'.subset hs) hrnk) (exF_gen _ _) (exF_stop _ _)
     have hx1:=hext (l.eraseIdx k) hok' (by omega)
     have hx2:=hcon (l.eraseIdx k) hok' _ (exF_gen _ _) hW' (decide (lftX ps (exF ps (l.eraseIdx k))=0))
     have hmo:ctlB ps [] (badX ps ts)=true→ctlB ps (l.eraseIdx k) (badX ps ts)=true:=ctl_mono
     generalize l.eraseIdx k=l' at *
     obtain⟨X',hX'⟩:∃X',aOrd ps (exF ps l') (decide (lftX ps (exF ps l')=0)) = .rp 3 X' 0 0:=⟨_,rfl⟩
     rw[hX'] at hx1 hx2
     refine AWp.viewP (Lf:=[(bf,.row 76 4 (l'.map aSyn) c)]) (Lk:=[]) (L':=[]) (List.Perm.refl _) .nil [(18,.sl 4 (l'.map aSyn))] (fun z hz => ?_) ?_
     ·obtain rfl:=List.mem_singleton.1 hz
      simp only[go_sem]
      exact Vw.ofLs (t:=76) (cap:=c) (if_pos rfl) (by rw[List.length_map,hel'])
     simp only[go_sem]
     refine Wk ?_
     refine Sd ?_
     refine(hx1).val.use ?_;simp only[go_sem]
     refine Wk ?_
     refine Sd ?_
     refine(hx2).val.use ?_;simp only[go_sem]
     generalize hcc:ctlB ps l' (badX ps ts)=cc at *
     refine Wk ?_
     refine⟨fun h5 => ?_,fun h5 => ?_⟩
     ·refine Wk ?_
      exact⟨_,List.Sublist.refl _,k,by omega,l',(k:Int) - 1,rfl,rfl,hsub',by rw[hcc];exact h5,(fun h=>by have:=hnn h;omega),by omega,by omega,by omega⟩
     ·refine Wk ?_
      exact⟨_,List.Sublist.refl _,k,by omega,l,(k:Int) - 1,rfl,rfl,hsub,hct,(fun h=>absurd ((hcc ▸ hmo h:cc=true)) (by simpa using h5)),by omega,by omega,by omega⟩
    ·refine W1 hlm ?_
     refine ret_own ?_
     simp only[go_sem]
     exact⟨_,.refl _,hfinal l hsub hct fun h=>List.eq_nil_of_length_eq_zero (by have:=hnn h;omega)⟩
 ·rw[if_neg hC] at h1
  generalize hCC:conF ps ts=C at *
  refine MCalls.toS (K:=fun r L=>∃r0,Vw L r r0∧CtlA ps ts r0) ?_ (fun r L h=>h)
  refine MCalls.enter' 116 [.tmp 4,.tmp 5] [2,39,83] Proofs.Tryz.func9 rfl rfl rfl rfl rfl (by simp) (AWp.of ?_);simp only[go_sem]
  refine Wk ?_
  refine Sd ?_
  refine(h1).val.use ?_;simp only[go_sem]
  refine W1 hC ?_
  refine ret_own ?_
  simp only[go_sem]
  exact⟨.tup [.sl 4 [],ai C],.mkTup (Vws.cons (.nil 4) (Vws.refl _)),.inl ⟨by rw[hCC];exact hC,by rw[hCC]⟩⟩
def psE:List Pr:=[⟨⟨#[97]⟩,[],[⟨1,0,0,0,[]⟩,⟨1,0,0,0,[]⟩]⟩,⟨⟨#[98]⟩,[],[⟨1,0,0,0,[]⟩,⟨1,0,0,0,[]⟩]⟩]
def notE (p:Int):Pd:=.mk 10 0 0 0 ByteArray.empty [.mk 3 0 p 0 ByteArray.empty [],.mk 1 1 0 0 ByteArray.empty []]
def tsE:List Pd:=[notE 0,notE 1]
theorem psE_valid:validF psE=true:=by
 unfold validF faultF
 rw[if_neg (by decide),show procFirst psE=none from rfl,show evFirst psE=none from rfl,show msgF psE=none from rfl,cycF_rank (fun x=>x.2) (by decide)]
 rfl
theorem psE_sm:Sm psE:=⟨by decide,by decide,by decide,by decide⟩
theorem lclE {p:Int} {t:Pd} (h1:formedB t=true) (h2:allB (resB psE) t=true) (h3:typedB t=true) (h4:fitB psE t=true) (h5:0≤p∧p<2) (h7:¬t.kind≤8) (h8:allB (lclB p) t=true):lclF psE p 0 t=0:=by
 have hc:checkF psE t=0:=by
  unfold checkF
  rw[psE_valid,h1,h2,h3,h4];rfl
 have hn:0≤evN psE p:=by
  unfold evN;split <;> omega
 have hl:(psE.length:Int)=2:=rfl
 unfold lclF
 rw[hc,if_neg (by decide),if_neg (by omega),if_neg h7,h8];rfl
theorem conF_E:conF psE tsE=0:=conF_zero ⟨psE_valid,rfl⟩ fun q hq=>by
 have hq:q<2:=hq
 rcases q with _|_|q
 ·exact lclE rfl rfl rfl rfl (by decide) (show ¬(_:Int)≤8 from by simp [tsE,notE,Pd.kind]) rfl
 ·exact lclE rfl rfl rfl rfl (by decide) (show ¬(_:Int)≤8 from by simp [tsE,notE,Pd.kind]) rfl
 ·omega
theorem bad_E:badX psE tsE 0 1=true∧badX psE tsE 1 1=true:=⟨rfl,rfl⟩
theorem ctl_E:ctlB psE [] (badX psE tsE)=false:=by
 cases h:ctlB psE [] (badX psE tsE) with
 | false=>rfl
 | true =>
  refine absurd ⟨fun _=>1,fun p hp => ?_,fun p hp => ?_,fun a ha i hi hd y hy => ?_⟩ (ctlB_true.1 h)
  ·have hp:p<2:=hp
   rcases p with _|_|p
   ·decide
   ·decide
   ·omega
  ·have hp:p<2:=hp
   rcases p with _|_|p
   ·exact bad_E.1
   ·exact bad_E.2
   ·omega
  ·have hi0:i=0:=by omega
   subst hi0
   have ha:a<2:=ha
   rcases a with _|_|a
   ·have:dirX psE [] 0 0=[]:=rfl
    rw[this] at hy;cases hy
   ·have:dirX psE [] 1 0=[]:=rfl
    rw[this] at hy;cases hy
   ·omega
theorem stepE {c:List Int} {R:List (List Int)} (hc:isF psE c=true) (h:chnF psE c R=true):R=[]∨∃q R',(q=0∨q=1)∧rdyF psE c q=true∧R=stpC c q :: R'∧isF psE (stpC c q)=true∧chnF psE (stpC c q) R'=true:=by
 cases R with
 | nil=>exact .inl rfl
 | cons b R =>
  obtain⟨q,q1,q2,rfl,_,q5⟩:=(chn_cons hc).1 h
  have q1:q<2:=q1
  exact .inr ⟨q,R,by omega,q2,rfl,rdy_is q2,q5⟩
theorem runs_E {R:List (List Int)} (hD:DodgeR psE (badX psE tsE) (zeroC psE :: R)):synL (evtG (zeroC psE) R)=[(((0,2):Eid),((1,1):Eid))]∨synL (evtG (zeroC psE) R)=[(((1,2):Eid),((0,1):Eid))]:=by
 obtain⟨R0,hR0,h,hl⟩:=isrun_inv hD.run
 have:R=R0:=by injection hR0
 subst this
 have hav:=hD.av
 have hbad:[(1:Int),1] ∈ zeroC psE :: R→False:=fun hm=>by
  obtain⟨p,hp,hb⟩:=hav _ hm
  have hp:p<2:=hp
  rcases p with _|_|p
  ·have:badX psE tsE 0 1=false:=hb
   rw[bad_E.1] at this;cases this
  ·have:badX psE tsE 1 1=false:=hb
   rw[bad_E.2] at this;cases this
  ·omega
 clear hD hav
 have hz:zeroC psE=[0,0]:=rfl
 have hf:fullC psE=[2,2]:=rfl
 have e0:isF psE [0,0]=true:=by rw[← hz];exact zeroC_is psE
 rw[hz,hf] at *
 have n1:rdyF psE [2,0] 0=false:=by decide
 have n2:rdyF psE [2,1] 0=false:=by decide
 have n3:rdyF psE [2,2] 0=false:=by decide
 have n4:rdyF psE [2,2] 1=false:=by decide
 have n5:rdyF psE [0,2] 1=false:=by decide
 have n6:rdyF psE [1,2] 1=false:=by decide
 rcases stepE e0 h with rfl|⟨q,R1,hq,hr,rfl,f1,h1⟩
 ·exact absurd (Option.some.inj hl) (by decide)
 rcases hq with rfl|rfl
 ·skip
  rcases stepE f1 h1 with rfl|⟨q,R2,hq,hr,rfl,f2,h2⟩
  ·exact absurd (Option.some.inj hl) (by decide)
  rcases hq with rfl|rfl
  ·skip
   rcases stepE f2 h2 with rfl|⟨q,R3,hq,hr,rfl,f3,h3⟩
   ·exact absurd (Option.some.inj hl) (by decide)
   rcases hq with rfl|rfl
   ·exact absurd (n1.symm.trans hr) (by decide)
   ·skip
    rcases stepE f3 h3 with rfl|⟨q,R4,hq,hr,rfl,f4,h4⟩
    ·exact absurd (Option.some.inj hl) (by decide)
    rcases hq with rfl|rfl
    ·exact absurd (n2.symm.trans hr) (by decide)
    ·skip
     rcases stepE f4 h4 with rfl|⟨q,R5,hq,hr,rfl,_,_⟩
     ·exact .inl rfl
     ·rcases hq with rfl|rfl
      ·exact absurd (n3.symm.trans hr) (by decide)
      ·exact absurd (n4.symm.trans hr) (by decide)
  ·exact(hbad (List.mem_cons_of_mem _ (List.mem_cons_of_mem _ List.mem_cons_self))).elim
 ·skip
  rcases stepE f1 h1 with rfl|⟨q,R2,hq,hr,rfl,f2,h2⟩
  ·exact absurd (Option.some.inj hl) (by decide)
  rcases hq with rfl|rfl
  ·exact(hbad (List.mem_cons_of_mem _ (List.mem_cons_of_mem _ List.mem_cons_self))).elim
  ·skip
   rcases stepE f2 h2 with rfl|⟨q,R3,hq,hr,rfl,f3,h3⟩
   ·exact absurd (Option.some.inj hl) (by decide)
   rcases hq with rfl|rfl
   ·skip
    rcases stepE f3 h3 with rfl|⟨q,R4,hq,hr,rfl,f4,h4⟩
    ·exact absurd (Option.some.inj hl) (by decide)
    rcases hq with rfl|rfl
    ·skip
     rcases stepE f4 h4 with rfl|⟨q,R5,hq,hr,rfl,_,_⟩
     ·exact .inr rfl
     ·rcases hq with rfl|rfl
      ·exact absurd (n3.symm.trans hr) (by decide)
      ·exact absurd (n4.symm.trans hr) (by decide)
    ·exact absurd (n6.symm.trans hr) (by decide)
   ·exact absurd (n5.symm.trans hr) (by decide)
theorem one_E {R:List (List Int)} {l:List Syn} (hD:DodgeR psE (badX psE tsE) (zeroC psE :: R)) (hs:l.Sublist (synL (evtG (zeroC psE) R))) (hc:ctlB psE l (badX psE tsE)=true):l=[(((0,2):Eid),((1,1):Eid))]∨l=[(((1,2):Eid),((0,1):Eid))]:=by
 have hne:l ≠ []:=fun e=>by rw[e,ctl_E] at hc;cases hc
 rcases runs_E hD with e|e
 ·rw[e] at hs
  left
  cases hs with
  | cons _ h=>cases h;exact absurd rfl hne
  | cons_cons _ h=>cases h;rfl
 ·rw[e] at hs
  right
  cases hs with
  | cons _ h=>cases h;exact absurd rfl hne
  | cons_cons _ h=>cases h;rfl
noncomputable def aRfs (ps:List Pr) (ts:List Pd):AV:=if conF ps ts=0 then (match tgtO ps (rowsX ps ts) with
 | some a => .tup [.sl 3 ((chcL ps.length (rowsX ps ts) a).map aStp),ai 0]
 | none => .tup [.sl 3 [],ai 7]) else .tup [.sl 3 [],ai (conF ps ts)]
theorem aRfs_some {ps:List Pr} {ts:List Pd} (h0:conF ps ts=0) {a:Nat→Nat} (h:LeastS ps (rowsX ps ts) a):aRfs ps ts = .tup [.sl 3 ((chcL ps.length (rowsX ps ts) a).map aStp),ai 0]:=by
 obtain⟨a',h1,h2⟩:=tgtO_some h
 unfold aRfs
 rw[if_pos h0,h1];dsimp only;rw[chcL_congr h2]
theorem aRfs_none {ps:List Pr} {ts:List Pd} (h0:conF ps ts=0) (h:¬ ∃t,TgtS ps (rowsX ps ts) t):aRfs ps ts = .tup [.sl 3 [],ai 7]:=by
 unfold aRfs;rw[if_pos h0,tgtO_none h]
theorem control_Refuse (ps:List Pr) (hs:Sm ps) (ts:List Pd) (hz:∀t ∈ ts,szF t≤1000000) (htl:ts.length≤1000000):PC Proofs.Tryz.prog 19 [aTr ps,.sl 6 (ts.map aPd)] (aRfs ps ts):=by
 have h1:=control_False ps hs ts hz htl
 by_cases hC:conF ps ts=0
 ·rw[if_pos hC] at h1
  obtain⟨hv,hlen,_⟩:=conF_inv hC
  have hR:=rowsX_ok ps ts
  have hRl:=rowsX_len ps hs hv ts
  have hti:=order_tight ps hs hv (decide (lftX ps (exF ps [])=0)) hR hRl
  have hex0:=control_extended ps hs hv [] (synOk_nil ps) (by simp)
  have hss:aStss ((List.range ps.length).map (rowsX ps ts))=aRowsX ps ts:=by unfold aStss aRowsX;rw[List.map_map];rfl
  rw[hss] at hti
  obtain⟨X,hX⟩:∃X,aOrd ps (exF ps []) (decide (lftX ps (exF ps [])=0)) = .rp 3 X 0 0:=⟨_,rfl⟩
  rw[hX] at hti hex0
  unfold aRowsX at h1 hti
  have hex1:PC Proofs.Tryz.prog 33 [aTr ps,anil] (.rp 3 X 0 0):=PC.nilB (k:=4) hex0
  generalize (List.range ps.length).map (fun p=>AV.sl 3 ((rowsX ps ts p).map aStp))=RW at *
  by_cases hT:∃t,TgtS ps (rowsX ps ts) t
  ·obtain⟨a,ha⟩:=least_ex hR hT
   rw[aTgt_some ha] at hti
   rw[aRfs_some hC ha]
   refine PC.enter 29 [.tmp 4,.tmp 5] [2] Proofs.Tryz.func19 rfl rfl rfl rfl rfl (by simp) (AWp.of ?_);simp only[go_sem]
   refine Wk ?_
   refine Sd ?_
   refine(h1).val.use ?_;simp only[go_sem]
   refine Wk ?_
   refine Sd ?_
   refine(hex1).val.use ?_;simp only[go_sem]
   refine Sd ?_
   refine(hti).val.use ?_;simp only[go_sem]
   refine Wk ?_
   refine ret_eq ?_;simp only[go_sem]
  ·rw[aTgt_none hT] at hti
   rw[aRfs_none hC hT]
   refine PC.enter 29 [.tmp 4,.tmp 5] [2] Proofs.Tryz.func19 rfl rfl rfl rfl rfl (by simp) (AWp.of ?_);simp only[go_sem]
   refine Wk ?_
   refine Sd ?_
   refine(h1).val.use ?_;simp only[go_sem]
   refine Wk ?_
   refine Sd ?_
   refine(hex1).val.use ?_;simp only[go_sem]
   refine Sd ?_
   refine(hti).val.use ?_;simp only[go_sem]
   refine Wk ?_
   refine ret_view [] ?_;simp only[go_sem]
   exact .mkTup (Vws.cons (.nil 3) (Vws.refl _))
 ·rw[if_neg hC] at h1
  unfold aRfs
  rw[if_neg hC]
  generalize conF ps ts=C at *
  refine PC.enter 29 [.tmp 4,.tmp 5] [2] Proofs.Tryz.func19 rfl rfl rfl rfl rfl (by simp) (AWp.of ?_);simp only[go_sem]
  refine Wk ?_
  refine Sd ?_
  refine(h1).val.use ?_;simp only[go_sem]
  refine W1 hC ?_
  refine ret_view [] ?_;simp only[go_sem]
  exact .mkTup (Vws.cons (.nil 3) (Vws.refl _))
theorem none_E:¬ ∃t,TgtS psE (rowsX psE tsE) t:=fun ⟨t,h1,h2⟩=>by
 have a0:=h1 0 (by decide)
 have a1:=h1 1 (by decide)
 have e0:lenSp (rowsX psE tsE) 0=1:=rfl
 have e1:lenSp (rowsX psE tsE) 1=1:=rfl
 have z0:t 0=0:=by omega
 have z1:t 1=0:=by omega
 have h3:=h2 0 1 (by decide) (by decide) (by decide)
 rw[z0,z1] at h3
 have f0:fSp (rowsX psE tsE) 0 0=(0,1,1):=rfl
 have f1:fSp (rowsX psE tsE) 1 0=(1,1,1):=rfl
 rw[f0,f1] at h3
 revert h3
 decide
theorem law44_part (p:Int):PC Proofs.Tryz.prog 25 [ai p] (aPd (notE p)):=by
 have hP:aPd (notE p) = .agg [ai 10,ai 0,ai 0,ai 0,astr ByteArray.empty,.sl 6 [.agg [ai 3,ai 0,ai p,ai 0,astr ByteArray.empty,.sl 6 []],.agg [ai 1,ai 1,ai 0,ai 0,astr ByteArray.empty,.sl 6 []]]]:=by
  unfold notE
  rw[aPd_mk,List.map_cons,List.map_cons,List.map_nil,aPd_mk,aPd_mk];rfl
 rw[hP]
 refine PC.enter 8 [.cell 2 71] [6] Proofs.Tryz.func25 rfl rfl rfl rfl rfl (by simp) (AWp.of ?_);simp only[go_sem]
 refine Wk ?_
 intro b4
 refine Wk ?_
 refine ret_view [] ?_;simp only[go_sem]
 refine .mkAgg ?_
 refine Vws.cons (.refl _) (Vws.cons (.refl _) (Vws.cons (.refl _) (Vws.cons (.refl _) (Vws.cons (.refl _) (Vws.cons (Vw.mkSl ?_) .nil)))))
 refine Vws.cons (.mkAgg ?_) (Vws.cons (.mkAgg ?_) .nil)
 ·exact Vws.cons (.refl _) (Vws.cons (.refl _) (Vws.cons (.refl _) (Vws.cons (.refl _) (Vws.cons (.refl _) (Vws.cons (.nil 6) .nil)))))
 ·exact Vws.cons (.refl _) (Vws.cons (.refl _) (Vws.cons (.refl _) (Vws.cons (.refl _) (Vws.cons (.refl _) (Vws.cons (.nil 6) .nil)))))
set_option maxHeartbeats 1000000 in
theorem law44_awake:PC Proofs.Tryz.prog 6 [] (ab true):=by
 have hzS:∀t ∈ tsE,szF t≤1000000:=fun t ht=>by
  simp only[tsE,List.mem_cons,List.not_mem_nil,or_false] at ht
  rcases ht with rfl|rfl <;> decide
 have h1:MCalls Proofs.Tryz.prog 9 [aTr psE,.sl 6 (tsE.map aPd)] [] fun r L=>L=[]∧∃a b c d:Int,((a=0∧b=2∧c=1∧d=1)∨(a=1∧b=2∧c=0∧d=1))∧r = .tup [.sl 4 [.agg [ai a,ai b,ai c,ai d]],ai 0] :=
  (control_Control psE psE_sm tsE hzS (by decide)).mono fun r L ⟨e,h⟩=>⟨e,by
   rcases h with ⟨h,_⟩|⟨_,h,_⟩|⟨_,_,R,l,hD,hs,hc,_,rfl⟩
   ·exact absurd conF_E h
   ·exact absurd h none_E
   ·rcases one_E hD hs hc with rfl|rfl
    ·exact⟨0,2,1,1,.inl ⟨rfl,rfl,rfl,rfl⟩,rfl⟩
    ·exact⟨1,2,0,1,.inr ⟨rfl,rfl,rfl,rfl⟩,rfl⟩⟩
 have h2:=control_False psE psE_sm tsE hzS (by decide)
 have h3:=control_Refuse psE psE_sm tsE hzS (by decide)
 rw[if_pos conF_E] at h2
 rw[aRfs_none conF_E none_E] at h3
 have hrw:aRowsX psE tsE = .sl 1 [.sl 3 [.agg [ai 0,ai 1,ai 1]],.sl 3 [.agg [ai 1,ai 1,ai 1]]]:=rfl
 rw[hrw] at h2
 have h4:=spans_equal [(1,1,1)] [(1,1,1)] (by decide)
 rw[decide_eq_true rfl] at h4
 have haS:aSps [(1,1,1)] = .sl 3 [.agg [ai 1,ai 1,ai 1]]:=rfl
 rw[haS] at h4
 have p0:=law44_part 0
 have p1:=law44_part 1
 obtain⟨l0,hk0⟩:∃l,aPd (notE 0) = .agg [ai 10,ai 0,ai 0,ai 0,astr ByteArray.empty,.sl 6 l]:=⟨_,aPd_mk _ _ _ _ _ _⟩
 obtain⟨l1,hk1⟩:∃l,aPd (notE 1) = .agg [ai 10,ai 0,ai 0,ai 0,astr ByteArray.empty,.sl 6 l]:=⟨_,aPd_mk _ _ _ _ _ _⟩
 have hS:tsE.map aPd=[aPd (notE 0),aPd (notE 1)]:=rfl
 rw[hS] at h1 h2 h3
 rw[hk0] at p0 h1 h2 h3
 rw[hk1] at p1 h1 h2 h3
 have hT:aTr psE = .agg [.sl 3 [.agg [astr ⟨#[97]⟩,.sl 2 [],.sl 5 [.agg [ai 1,ai 0,ai 0,ai 0,.sl 2 []],.agg [ai 1,ai 0,ai 0,ai 0,.sl 2 []]]],.agg [astr ⟨#[98]⟩,.sl 2 [],.sl 5 [.agg [ai 1,ai 0,ai 0,ai 0,.sl 2 []],.agg [ai 1,ai 0,ai 0,ai 0,.sl 2 []]]]]]:=rfl
 rw[hT] at h1 h2 h3
 refine PC.enter 97 [.tmp 0] [2,7,8,9,10,17,22,28,90] Proofs.Tryz.func6 rfl rfl rfl rfl rfl (by simp) (AWp.of ?_);simp only[go_sem]
 refine Wk ?_
 intros
 refine Wk ?_
 intros
 refine Wk ?_
 intros
 refine Wk ?_
 refine Sd ?_
 refine(p0).val.use ?_;simp only[go_sem]
 refine Wk ?_
 refine Sd ?_
 refine(p1).val.use ?_;simp only[go_sem]
 refine Wk ?_
 intros
 refine Wk ?_
 have ve:Vw [] (.agg [ai 1,ai 0,ai 0,ai 0,anil]) (.agg [ai 1,ai 0,ai 0,ai 0,.sl 2 []]):=.mkAgg (Vws.cons (.refl _) (Vws.cons (.refl _) (Vws.cons (.refl _) (Vws.cons (.refl _) (Vws.cons (.nil 2) .nil)))))
 have vE:Vw [] (.sl 5 [.agg [ai 1,ai 0,ai 0,ai 0,anil],.agg [ai 1,ai 0,ai 0,ai 0,anil]]) (.sl 5 [.agg [ai 1,ai 0,ai 0,ai 0,.sl 2 []],.agg [ai 1,ai 0,ai 0,ai 0,.sl 2 []]]):=.mkSl (Vws.cons ve (Vws.cons ve .nil))
 have vP:=fun s:AV=>show Vw [] (.agg [s,anil,.sl 5 [.agg [ai 1,ai 0,ai 0,ai 0,anil],.agg [ai 1,ai 0,ai 0,ai 0,anil]]]) (.agg [s,.sl 2 [],.sl 5 [.agg [ai 1,ai 0,ai 0,ai 0,.sl 2 []],.agg [ai 1,ai 0,ai 0,ai 0,.sl 2 []]]]) from .mkAgg (Vws.cons (.refl _) (Vws.cons (.nil 2) (Vws.cons vE .nil)))
 have vT:=Vw.mkAgg (L:=[]) (Vws.cons (Vw.mkSl (k:=3) (Vws.cons (vP (astr ⟨#[97]⟩)) (Vws.cons (vP (astr ⟨#[98]⟩)) .nil))) .nil)
 clear ve vE vP
 refine MVal.pass (Lf:=[]) (Li:=[]) (Lr:=[]) (by simp) (Vws.cons vT (Vws.refl _)) h1.val ?_
 rintro r L1 ⟨rfl,a,b,c,d,habcd,rfl⟩
 refine⟨[],.refl _,?_⟩
 simp only[go_sem]
 refine Wk ?_
 intro bA
 refine Wk ?_
 intro bB hAB
 have nA:¬bA=bB:=by omega
 have nB:¬bB=bA:=by omega
 simp only[go_sem,nA]
 refine Sd ?_
 refine Wk ?_
 intro bC
 refine Wk ?_
 intro bD hCD
 have nC:¬bC=bD:=by omega
 have nD:¬bD=bC:=by omega
 simp only[go_sem,nC]
 refine Sd ?_
 refine Wk ?_
 refine MVal.pass (Lf:=[]) (Li:=[]) (Lr:=[]) (by simp) (Vws.cons vT (Vws.refl _)) h2.val ?_
 rintro r L1 ⟨rfl,rfl⟩
 refine⟨[],.refl _,?_⟩
 simp only[go_sem]
 refine Wk ?_
 refine MVal.pass (Lf:=[]) (Li:=[]) (Lr:=[]) (by simp) (Vws.cons vT (Vws.refl _)) h3.val ?_
 rintro r L1 ⟨rfl,rfl⟩
 refine⟨[],.refl _,?_⟩
 simp only[go_sem]
 refine Wk ?_
 have c1:((1:Nat):Int)=1:=rfl
 have c2:((2:Nat):Int)=2:=rfl
 rcases habcd with ⟨rfl,rfl,rfl,rfl⟩|⟨rfl,rfl,rfl,rfl⟩
 ·repeat(first|(with_reducible refine AWp.seq ?_)|(with_reducible refine AWp.block ?_))
  refine AWp.mix mixed [0,1,2,3,4,5,6,7,8,9,10,11,12,13,14,15,16,17,18,19,20,21,22,23,24,25,26,27,28,29,30,31,32,33,34,35,36,37,38,39,40,41,42,43,44,45,46] .done (by kernel_rfl) ?_;simp only[go_sem,c1,c2]
  refine Sd ?_
  refine Sd ?_
  refine GCall.use (ab true) (fun _=>⟨At,(h4).val.use ⟨rfl,rfl⟩⟩) ?_;simp only[go_sem]
  refine Sd ?_
  refine Wk ?_
  refine ret_eq ?_;simp only[go_sem]
 ·repeat(first|(with_reducible refine AWp.seq ?_)|(with_reducible refine AWp.block ?_))
  refine AWp.mix mixed [0,1,2,3,4,5,6,7,8,9,10,11,12,13,14,15,16,17,18,19,20,21,22,23,24,25,26,27,28,29,30,31,32,33,34,35,36,37,38,39,40,41,42,43,44,45,46] .done (by kernel_rfl) ?_;simp only[go_sem,c1,c2]
  refine Sd ?_
  refine Sd ?_
  refine GCall.use (ab true) (fun _=>⟨At,(h4).val.use ⟨rfl,rfl⟩⟩) ?_;simp only[go_sem]
  refine Sd ?_
  refine Wk ?_
  refine ret_eq ?_;simp only[go_sem]
def szW (ps:List Pr):Int:=if 10<ps.length then 1000 else if ps.all smP=true then smW ps ps.length else 1000
theorem szW_sm {ps:List Pr} {m:Int} (hm:m<1000) (h:szW ps≤m):smF ps m=true:=by
 unfold szW at h
 unfold smF
 split at h
 ·omega
 ·split at h
  ·rename_i h1 h2
   rw[h2,decide_eq_true (by omega),decide_eq_true h];rfl
  ·omega
theorem law44_size1 (e:Ev):PC Proofs.Tryz.prog 27 [aEv e] (ab (asg12 e)):=by
 refine PC.enter 7 [.tmp 2] [1] Proofs.Tryz.func27 rfl rfl rfl rfl rfl (by simp) (AWp.of ?_);simp only[go_sem]
 refine Wk ?_
 refine ret_eq ?_;simp only[go_sem]
 rfl
theorem law44_size (ps:List Pr) (hpl:ps.length≤9223372036854775807) (hl:∀p ∈ ps,p.evs.length≤9223372036854775807):PC Proofs.Tryz.prog 7 [aTr ps] (ai (szW ps)):=by
 by_cases h10:ps.length≤10
 ·have h10i:¬(10:Int)<(ps.length:Int):=by omega
  have hsf:szW ps=if ps.all smP=true then smW ps ps.length else 1000:=by unfold szW;rw[if_neg (by omega)]
  refine PC.enter 33 [.tmp 2] [1,5] Proofs.Tryz.func7 rfl rfl rfl rfl rfl (by simp) (AWp.of ?_);simp only[go_sem]
  repeat(first|((with_reducible refine AWp.ofC ?_ ?_);exact rfl;simp only[go_sem,h10i])|((with_reducible refine an ?_ ?_);exact Au))
  refine AWp.range1' ps.length [3] [11,12] (fun k vs L=>L=[]∧vs=[ai (smW ps k)]∧∀(j:Nat) (hj:j<ps.length),j<k→smP ps[j]=true) (by omega) rfl rfl rfl ⟨rfl,rfl,fun _ _ h=>by omega⟩ ?_ ?_
  ·rintro k vs L hk - ⟨rfl,rfl,hI⟩
   have hgp:=getD_map (f:=aPr) hk
   have hfp:smP ps[k] = !(decide (12<(ps[k].vars.length:Int)) || ps[k].evs.any asg12):=rfl
   have hsw:smW ps (k+1)=addW (smW ps k) ps[k].evs.length:=by rw[← nev_get hk];rfl
   have hin:=smW_in ps k
   have hel:=hl _ (List.getElem_mem hk)
   have hall:smP ps[k]=false→szW ps=1000:=fun h=>by
    rw[hsf,if_neg]
    rw[Bool.not_eq_true]
    exact List.all_eq_false.2 ⟨_,List.getElem_mem hk,by rw[h];decide⟩
   have hI':smP ps[k]=true→∀(j:Nat) (hj:j<ps.length),j<k+1→smP ps[j]=true:=fun h j hj hjk=>by
    by_cases e:j=k
    ·subst e;exact h
    ·exact hI j hj (by omega)
   have hcf:=events_containsFuncB ps[k].evs hel (.v (.func (.func 27) #[] #[])) rfl asg12 fun e _=>(law44_size1 e).val
   clear hI
   generalize szW ps=Z at *
   generalize ps[k]=x at *
   simp only[go_sem]
   refine Sd ?_
   refine AWp.of ?_;simp only[go_sem,hgp]
   refine Sd ?_
   intros
   refine AWp.seq (AWp.regionW ?_)
   simp only[go_sem]
   rw[← hsw]
   generalize smW ps (k+1)=z' at *
   generalize smW ps k=z at *
   refine Wk ?_
   refine Sd ?_
   refine Gc hcf ?_
   refine Wk ?_
   refine⟨fun h => ?_,fun h1 h2 => ?_⟩
   ·have hx:smP x=false:=by
     rw[hfp,Bool.not_eq_false']
     simpa using h
    rw[hall hx]
    refine Wk ?_
    refine ret_eq ?_;simp only[go_sem]
   ·have hx:smP x=true:=by
     rw[hfp,h2]
     simp
     omega
    refine Wk ?_
    exact⟨_,List.Sublist.refl _,rfl,hI' hx⟩
  ·rintro vs L - ⟨rfl,rfl,hI⟩
   have hz:szW ps=smW ps ps.length:=by
    rw[hsf,if_pos]
    rw[List.all_eq_true]
    intro x hx
    obtain⟨j,hj,rfl⟩:=List.getElem_of_mem hx
    exact hI j hj hj
   rw[hz]
   simp only[go_sem]
   refine Wk ?_
   refine ret_eq ?_;simp only[go_sem]
 ·have h10i:(10:Int)<(ps.length:Int):=by omega
  have hz:szW ps=1000:=by unfold szW;rw[if_pos (by omega)]
  rw[hz]
  refine PC.enter 33 [.tmp 2] [1,5] Proofs.Tryz.func7 rfl rfl rfl rfl rfl (by simp) (AWp.of ?_);simp only[go_sem]
  repeat(first|((with_reducible refine AWp.ofC ?_ ?_);exact rfl;simp only[go_sem,h10i])|((with_reducible refine an ?_ ?_);exact Au))
  refine ret_eq ?_;simp only[go_sem]
end Go.AL
end
