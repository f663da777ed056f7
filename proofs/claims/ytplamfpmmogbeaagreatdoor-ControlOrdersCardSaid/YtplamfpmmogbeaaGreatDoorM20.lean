/- Texts of this claim's proof: WY16, WU15, WY23, WY24. No condition. -/
import Derived.Test.YtplamfpmmogbeaaGreatDoorM19
import Derived.Test.YtplamfpmmogbeaaGreatDoorM16
import Derived.Test.YtplamfpmmogbeaaGreatDoorM13
import Derived.Test.YtplamfpmmogbeaaGreatDoorM12
import Derived.Test.YtplamfpmmogbeaaGreatDoorM17
import Derived.Test.YtplamfpmmogbeaaGreatDoorM10
section
namespace Go.AL
open Go Go.RowKit
set_option maxRecDepth 4000
theorem synL_snoc (x y:Eid):∀l:List Eid,synL (l ++ [x,y])=synL (l ++ [x]) ++ if x.1 ≠ y.1 then [(x,y)] else []
 | []=>by
  show (if x.1 ≠ y.1 then [(x,y)] else []) ++ synL [y]=[] ++ _
  simp [synL]
 | [a]=>by
  show (if a.1 ≠ x.1 then [(a,x)] else []) ++ synL ([] ++ [x,y])=((if a.1 ≠ x.1 then [(a,x)] else []) ++ synL ([] ++ [x])) ++ _
  rw[synL_snoc x y [],List.append_assoc]
 | a :: b :: l=>by
  show (if a.1 ≠ b.1 then [(a,b)] else []) ++ synL ((b :: l) ++ [x,y])=((if a.1 ≠ b.1 then [(a,b)] else []) ++ synL ((b :: l) ++ [x])) ++ _
  rw[synL_snoc x y (b :: l),List.append_assoc]
theorem synL_take {es:List Eid} {i:Nat} (h1:1≤i) (h2:i<es.length):synL (es.take (i+1))=synL (es.take i) ++ if (es[i - 1]).1 ≠ (es[i]).1 then [(es[i - 1],es[i])] else []:=by
 obtain⟨k,rfl⟩:∃k,i=k+1:=⟨i - 1,by omega⟩
 have e1:es.take (k+1+1)=es.take k ++ [es[k],es[k+1]]:=by
  rw[List.take_succ_eq_append_getElem h2,List.take_succ_eq_append_getElem (by omega),List.append_assoc];rfl
 have e2:es.take (k+1)=es.take k ++ [es[k]]:=List.take_succ_eq_append_getElem (by omega)
 rw[e1,e2,synL_snoc];rfl
theorem synL_takeO {es:List Eid} {i:Nat} (h1:1≤i) {x y:Eid} (hx:es[i - 1]?=some x) (hy:es[i]?=some y):synL (es.take (i+1))=synL (es.take i) ++ if x.1 ≠ y.1 then [(x,y)] else []:=by
 obtain⟨h3,rfl⟩:=List.getElem?_eq_some_iff.1 hx
 obtain⟨h4,rfl⟩:=List.getElem?_eq_some_iff.1 hy
 exact synL_take h1 h4
theorem synL_one {es:List Eid} : synL (es.take 1)=[]:=by
 cases es with
 | nil=>rfl
 | cons a l=>rfl
theorem synL_len:∀es:List Eid,(synL es).length≤es.length
 | []=>by simp [synL]
 | [a]=>by simp [synL]
 | a :: b :: l=>by
  have:=synL_len (b :: l)
  show ((if a.1 ≠ b.1 then [(a,b)] else []) ++ synL (b :: l)).length≤_
  rw[List.length_append]
  split <;> simp only[List.length_cons,List.length_nil] at this ⊢ <;> omega
theorem rowsX_ok (ps:List Pr) (ts:List Pd):RowsOk ps (badX ps ts) (rowsX ps ts):=fun p _=>spL_ok _ p _
theorem rowsX_len (ps:List Pr) (_hs:Sm ps) (hv:validF ps=true) (ts:List Pd):∀p,p<ps.length→(rowsX ps ts p).length≤1000000:=fun p hp=>by
 have h1:=spL_len (b:=badX ps ts p) (p:=p) (nev ps p+1)
 have h2:=valid_off hv
 have h3:=off_le hp
 have h5:=nev_get hp
 unfold rowsX
 omega
theorem PC.nilB {P:Program} {f:FuncId} {a r:AV} {k:Nat} (h:PC P f [a,.sl k []] r):PC P f [a,anil] r:=⟨h.1,fun n w A vs hL hr=>by
 obtain⟨u,us',rfl,h1,h2⟩:=hr.inv_cons
 obtain⟨u2,us2,rfl,h3,h4⟩:=h2.inv_cons
 obtain rfl:=h4.inv_nil
 cases h3
 exact h.2 n w A _ hL (.cons h1 (.cons (.sl0 k none 0 (by decide)) .nil))⟩
theorem ctl_mono {ps:List Pr} {l:List Syn} {bad:Nat→Nat→Bool} (h:ctlB ps [] bad=true):ctlB ps l bad=true:=by
 rw[ctlB_true] at h ⊢
 rintro⟨d,hd⟩
 refine h ⟨d,hd.rng,hd.bad,fun a ha i hi hia y hy=>hd.clo a ha i hi hia y ?_⟩
 unfold dirX at hy ⊢
 rcases List.mem_append.1 hy with hy|hy
 ·exact List.mem_append_left _ hy
 ·obtain⟨s,h1,_⟩:=List.mem_map.1 hy
  exact absurd (List.mem_filter.1 h1).1 (List.not_mem_nil)
def CtlA (ps:List Pr) (ts:List Pd) (r:AV):Prop :=
 (conF ps ts ≠ 0∧r = .tup [.sl 4 [],ai (conF ps ts)])∨(conF ps ts=0∧(∃t,TgtS ps (rowsX ps ts) t)∧r = .tup [.sl 4 [],ai 7]) ∨
 (conF ps ts=0∧(¬ ∃t,TgtS ps (rowsX ps ts) t)∧∃(R:List (List Int)) (l:List Syn),DodgeR ps (badX ps ts) (zeroC ps :: R)∧l.Sublist (synL (evtG (zeroC ps) R))∧ctlB ps l (badX ps ts)=true∧(ctlB ps [] (badX ps ts)=true→l=[])∧r = .tup [.sl 4 (l.map aSyn),ai 0])
set_option maxHeartbeats 2000000 in
theorem control_Control (ps:List Pr) (hs:Sm ps) (ts:List Pd) (hz:∀t ∈ ts,szF t≤1000000) (htl:ts.length≤1000000) :
  MCalls Proofs.Tryz.prog 9 [aTr ps,.sl 6 (ts.map aPd)] [] fun r L=>L=[]∧CtlA ps ts r:=by
 have h1:=control_falsehoods ps hs ts hz htl
 have hps:=hs.procs
 by_cases hC:conF ps ts=0
 ·rw[if_pos hC] at h1
  obtain⟨hv,hlen,_⟩:=conF_inv hC
  have hR:=rowsX_ok ps ts
  have hRl:=rowsX_len ps hs hv ts
  have hti:=order_tight ps hs hv (decide (lftX ps (exF ps [])=0)) hR hRl
  have hdo:=order_dodge ps hs hv (decide (lftX ps (exF ps [])=0)) hR hRl
  have hex0:=control_extended ps hs hv [] (synOk_nil ps) (by simp)
  have hst:=fun p=>control_stretches (badX ps ts p) p (nev ps p+1)
  have hnb:=fun p (hp:p<ps.length)=>show nev ps p≤1000000 by rw[nev_get hp];exact hs.evs _ (List.getElem_mem hp)
  have hss:aStss ((List.range ps.length).map (rowsX ps ts))=aRowsX ps ts:=by unfold aStss aRowsX;rw[List.map_map];rfl
  rw[hss] at hti hdo
  obtain⟨X,hX⟩:∃X,aOrd ps (exF ps []) (decide (lftX ps (exF ps [])=0)) = .rp 3 X 0 0:=⟨_,rfl⟩
  rw[hX] at hti hdo hex0
  unfold falT at h1
  unfold aRowsX at hti hdo
  refine MCalls.toS (K:=fun r L=>∃r0,Vw L r r0∧CtlA ps ts r0) ?_ (fun r L h=>h)
  refine MCalls.enter' 116 [.tmp 4,.tmp 5] [2,39,83] Proofs.Tryz.func9 rfl rfl rfl rfl rfl (by simp) (AWp.of ?_);simp only[go_sem]
  refine Wk ?_
  refine Sd ?_
  refine(h1).val.use ?_;simp only[go_sem]
  repeat(first|((with_reducible refine AWp.ofC ?_ ?_);exact rfl;simp only[go_sem,List.length_range])|((with_reducible refine an ?_ ?_);exact Au))
  refine AWp.range' ps.length [8] [2,6,28,29] (fun p vs L=>∃v,vs=[v]∧AppSt 37 1 ((List.range p).map fun p => .sl 3 ((rowsX ps ts p).map aStp)) v L) (by omega) rfl rfl rfl ⟨anil,rfl,.nil⟩ ?_ ?_
  ·rintro p vs L hp - ⟨v,rfl,hA⟩
   have hg:((List.range ps.length).map fun p=>AV.sl 1 (falL ps ts p)).getD p .any = .sl 1 (falL ps ts p):=map_range_getD hp _
   have h2:=hst p (by have:=hnb p hp;omega)
   have hyl:((List.range p).map fun p=>AV.sl 3 ((rowsX ps ts p).map aStp)).length=p:=by simp
   have hys:((List.range (p+1)).map fun p=>AV.sl 3 ((rowsX ps ts p).map aStp))=((List.range p).map fun p=>AV.sl 3 ((rowsX ps ts p).map aStp)) ++ [.sl 3 ((rowsX ps ts p).map aStp)]:=by rw[List.range_succ,List.map_append];rfl
   rw[hys]
   change PC _ _ [_,.sl 1 (falL ps ts p)] (.sl 3 ((rowsX ps ts p).map aStp)) at h2
   clear hys hti hdo hss
   generalize (List.range p).map (fun p=>AV.sl 3 ((rowsX ps ts p).map aStp))=ys at *
   generalize (rowsX ps ts p).map aStp=row at *
   generalize falL ps ts p=fl at *
   rcases hA.inv with ⟨e1,rfl,rfl⟩|⟨bq,cq,rfl,rfl⟩
   ·simp only[go_sem]
    refine W1 hg ?_
    refine Sd ?_
    refine AWp.of ?_;simp only[go_sem]
    refine Sd ?_
    refine(h2).val.use ?_;simp only[go_sem]
    refine W1 hg ?_
    intro b' cap' g8
    refine Wk ?_
    exact⟨_,List.Sublist.refl _,_,rfl,by rw[e1];exact .row _ _ _⟩
   ·simp only[go_sem]
    refine W1 hg ?_
    refine Sd ?_
    refine AWp.of ?_;simp only[go_sem]
    refine Sd ?_
    refine(h2).val.use ?_;simp only[go_sem]
    refine W1 hg ?_
    refine Sd ?_
    intro b' cap' g8
    refine Wk ?_
    exact⟨_,List.Sublist.refl _,_,rfl,AppSt.snoc _ _ _ rfl⟩
  ·rintro vs L - ⟨v,rfl,hA⟩
   refine AWp.viewA (L:=[]) (j:=8) hA rfl ?_
   generalize (List.range ps.length).map (fun p=>AV.sl 3 ((rowsX ps ts p).map aStp))=RW at *
   have hex1:PC Proofs.Tryz.prog 33 [aTr ps,anil] (.rp 3 X 0 0):=PC.nilB (k:=4) hex0
   simp only[go_sem]
   refine Wk ?_
   refine Sd ?_
   refine(hex1).val.use ?_;simp only[go_sem]
   refine Wk ?_
   by_cases hT:∃t,TgtS ps (rowsX ps ts) t
   ·obtain⟨a,ha⟩:=least_ex hR hT
    rw[aTgt_some ha] at hti
    refine Sd ?_
    refine(hti).val.use ?_;simp only[go_sem]
    refine Wk ?_
    refine ret_own ?_
    simp only[go_sem]
    exact⟨.tup [.sl 4 [],ai 7],.mkTup (Vws.cons (.nil 4) (Vws.refl _)),.inr (.inl ⟨hC,hT,rfl⟩)⟩
   have hdo:=hdo hT
   rw[aTgt_none hT] at hti
   refine Sd ?_
   refine(hti).val.use ?_;simp only[go_sem]
   refine Wk ?_
   refine hdo.val.mono ?_
   rintro r L ⟨rfl,R,hD,rfl⟩
   obtain⟨R',hR',hch,hla⟩:=isrun_inv hD.run
   obtain rfl:R=R':=by injection hR'
   have hlR:=evtG_len R (zeroC ps)
   have hoff:=valid_off hv
   have hsum:=(chn_last (zeroC_is ps) hch hla).2
   have hz0:(zeroC ps).sum=0:=by unfold zeroC;simp
   rw[fullC_sum,hz0] at hsum
   have hsok:=syn_ok hch
   have hsct:=syn_ctl hD
   have hrnk:=syn_rnk hv hch hla
   clear hch hla hR'
   have hfinal:∀l:List Syn,l.Sublist (synL (evtG (zeroC ps) R))→ctlB ps l (badX ps ts)=true→(ctlB ps [] (badX ps ts)=true→l=[])→CtlA ps ts (.tup [.sl 4 (l.map aSyn),ai 0]):=fun l h1 h2 h3 => .inr (.inr ⟨hC,hT,R,l,hD,h1,h2,h3,rfl⟩)
   clear hdo hti hD
   have hsl:=synL_len (evtG (zeroC ps) R)
   generalize evtG (zeroC ps) R=es at *
   generalize rkO (zeroC ps :: R)=rk at *
   have hel:es.length≤512:=by omega
   simp only[go_sem]
   refine Wk ?_
   refine AWp.block (AWp.loopN [14,16] [2,6,15] (fun m vs L=>∃(i:Nat) (v:AV),vs=[v,ai i]∧1≤i∧i≤513∧AppSt 76 4 ((synL (es.take i)).map aSyn) v L∧m=es.length - i) _ ⟨1,anil,rfl,Nat.le_refl _,by omega,by rw[synL_one];exact .nil,rfl⟩ ?_)
   rintro m vs L - ⟨i,v,rfl,hi1,hi5,hA,rfl⟩
   have hfo:=hA.fo
   have hesl:(es.map aEid).length=es.length:=List.length_map _
   simp only[go_sem]
   refine W2 hfo hesl ?_
   refine⟨fun h2 => ?_,fun h2 => ?_⟩
   ·have hil:i<es.length:=by omega
    have gi:((i:Int) - 1).toNat=i - 1:=by omega
    have htl2:=synL_len (es.take i)
    rw[List.length_take] at htl2
    obtain⟨⟨a1,a2⟩,hx⟩:∃x,es[i - 1]?=some x:=⟨_,List.getElem?_eq_getElem (by omega)⟩
    obtain⟨⟨b1,b2⟩,hy⟩:∃y,es[i]?=some y:=⟨_,List.getElem?_eq_getElem hil⟩
    have hst:=synL_takeO hi1 hx hy
    have g1:(es.map aEid).getD (i - 1) .any = .agg [ai a1,ai a2]:=by rw[List.getD_eq_getElem?_getD,List.getElem?_map,hx];rfl
    have g2:(es.map aEid).getD i .any = .agg [ai b1,ai b2]:=by rw[List.getD_eq_getElem?_getD,List.getElem?_map,hy];rfl
    have hst1:a1 ≠ b1→(synL (es.take (i+1))).map aSyn=(synL (es.take i)).map aSyn ++ [.agg [ai a1,ai a2,ai b1,ai b2]]:=fun h=>by rw[hst,if_pos h,List.map_append];rfl
    have hst2:¬a1 ≠ b1→(synL (es.take (i+1))).map aSyn=(synL (es.take i)).map aSyn:=fun h=>by rw[hst,if_neg h,List.append_nil]
    have hyl:((synL (es.take i)).map aSyn).length≤1000:=by rw[List.length_map];omega
    clear hst hx hy
    generalize hys:(synL (es.take i)).map aSyn=ys at *
    generalize hEE:es.map aEid=EE at *
    rcases hA.inv with ⟨e1,rfl,rfl⟩|⟨bq,cq,rfl,rfl⟩
    ·repeat(first|(with_reducible refine AWp.seq ?_)|(with_reducible refine AWp.block ?_))
     refine AWp.read mixed [0,1,2,3,4,5,6,7,8,9,10,11] (by kernel_rfl) ?_;simp only[go_sem,g1,g2,gi,hesl]
     refine Sd ?_
     refine Wk ?_
     refine⟨fun h3 => ?_,fun h3 => ?_⟩
     ·repeat(first|(with_reducible refine AWp.seq ?_)|(with_reducible refine AWp.block ?_))
      refine AWp.mix mixed [0,1,2,3,4,5,6,7,8,9,10] (.step 11 (.step 12 (.step 13 .done .done) .done) .done) (by kernel_rfl) ?_;simp only[go_sem,g1,g2,gi,hesl]
      refine Sd ?_
      intro b' cap' _
      refine Wk ?_
      exact⟨_,List.Sublist.refl _,es.length - (i+1),by omega,i+1,_,rfl,by omega,by omega,by rw[hst1 h3,e1];exact .row _ [_] _,rfl⟩
     ·refine Wk ?_
      exact⟨_,List.Sublist.refl _,es.length - (i+1),by omega,i+1,_,rfl,by omega,by omega,by rw[hst2 fun h=>h h3];exact hA,rfl⟩
    ·repeat(first|(with_reducible refine AWp.seq ?_)|(with_reducible refine AWp.block ?_))
     refine AWp.read mixed [0,1,2,3,4,5,6,7,8,9,10,11] (by kernel_rfl) ?_;simp only[go_sem,g1,g2,gi,hesl]
     refine Sd ?_
     refine Wk ?_
     refine⟨fun h3 => ?_,fun h3 => ?_⟩
     ·repeat(first|(with_reducible refine AWp.seq ?_)|(with_reducible refine AWp.block ?_))
      refine AWp.mix mixed [0,1,2,3,4,5,6,7,8,9,10] (.step 11 (.step 12 (.step 13 .done .done) .done) .done) (by kernel_rfl) ?_;simp only[go_sem,g1,g2,gi,hesl]
      refine Sd ?_
      intro b' cap' _
      refine Wk ?_
      exact⟨_,List.Sublist.refl _,es.length - (i+1),by omega,i+1,_,rfl,by omega,by omega,by rw[hst1 h3];exact AppSt.snoc _ _ _ rfl,rfl⟩
     ·refine Wk ?_
      exact⟨_,List.Sublist.refl _,es.length - (i+1),by omega,i+1,_,rfl,by omega,by omega,by rw[hst2 fun h=>h h3];exact hA,rfl⟩
   ·rw[List.take_of_length_le (by omega)] at hA
    have hext:=fun l hl hll=>control_extended ps hs hv l hl hll
    have hcon:=fun l hl S hG hW w=>order_controls ps hs hv l hl S hG hW w (badX ps ts)
    have hfl:AV.sl 1 ((List.range ps.length).map fun p => .sl 1 (falL ps ts p))=AV.sl 1 ((List.range ps.length).map fun p => .sl 1 ((List.range (nev ps p+1)).map fun k=>ab (badX ps ts p k))):=rfl
    rw[← hfl] at hcon
    generalize (List.range ps.length).map (fun p=>AV.sl 1 (falL ps ts p))=FL at *
    refine AWp.viewA (L:=[]) (j:=14) hA rfl ?_
    have hsml:((synL es).map aSyn).length=(synL es).length:=List.length_map _
    refine W1 hsml ?_
    refine AWp.block (AWp.loopN [14,17] [2,6] (fun m vs L=>∃(l:List Syn) (i:Int),vs=[.sl 4 (l.map aSyn),ai i]∧L=[]∧l.Sublist (synL es)∧ctlB ps l (badX ps ts)=true∧(ctlB ps [] (badX ps ts)=true→(l.length:Int)=i+1) ∧ -1≤i∧i<l.length∧m=(i+1).toNat) _ ⟨synL es,_,rfl,rfl,List.Sublist.refl _,hsct,fun _=>by omega,by omega,by omega,rfl⟩ ?_)
    rintro m vs L - ⟨l,i,rfl,rfl,hsub,hct,hnn,hi1,hi2,rfl⟩
    have hlm:(l.map aSyn).length=l.length:=List.length_map _
    have hll:l.length≤512:=Nat.le_trans hsub.length_le (by omega)
    simp only[go_sem]
    refine W1 hlm ?_
    refine⟨fun h3 => ?_,fun h3 => ?_⟩
    ·obtain⟨k,rfl⟩:∃k:Nat,i=k:=⟨i.toNat,by omega⟩
     have hkl:k<l.length:=by omega
     have hcl:l.length ≠ 0:=by omega
     obtain⟨c,hc⟩:∃c,l.length=c+1:=⟨l.length - 1,by omega⟩
     have hn:((l.length:Int) - 1).toNat=c:=by omega
     have htk:(l.take k).length=k:=by rw[List.length_take];omega
     have hmn:min k c=k:=by omega
     have hgk:((k:Int)+1).toNat=k+1:=by omega
     refine W1 hlm ?_
     intro bf
     refine W1 hlm ?_
     rw[hn,htk,hmn,List.take_take,Nat.min_self,htk,List.drop_replicate]
     refine⟨by rw[List.length_replicate];exact Nat.le_refl _,?_⟩
     have hRl:((l.take k).map aSyn ++ List.replicate (c - k) (AV.agg [AV.v (Value.int IntKind.i64 0),AV.v (Value.int IntKind.i64 0),AV.v (Value.int IntKind.i64 0),AV.v (Value.int IntKind.i64 0)])).length=c:=by rw[List.length_append,List.length_map,htk,List.length_replicate];omega
     have hRt:((l.take k).map aSyn ++ List.replicate (c - k) (AV.agg [AV.v (Value.int IntKind.i64 0),AV.v (Value.int IntKind.i64 0),AV.v (Value.int IntKind.i64 0),AV.v (Value.int IntKind.i64 0)])).take k=(l.take k).map aSyn:=List.take_left' (by rw[List.length_map,htk])
     generalize (l.take k).map aSyn ++ List.replicate (c - k) (AV.agg [AV.v (Value.int IntKind.i64 0),AV.v (Value.int IntKind.i64 0),AV.v (Value.int IntKind.i64 0),AV.v (Value.int IntKind.i64 0)])=RR at *
     refine AWp.seq ?_
     refine AWp.drawn mixed 7 (by kernel_rfl) ?_;simp only[go_sem,hlm,hRl,hRt,hgk,hc]
     refine Sd ?_
     have hd1:l.take (c+1)=l:=List.take_of_length_le (by omega)
     have hdl:(l.drop (k+1)).length=c - k:=by rw[List.length_drop];omega
     have hd2:(l.drop (k+1)).take (c - k)=l.drop (k+1):=List.take_of_length_le (by omega)
     have hd3:RR.drop (k+(c - k))=[]:=List.drop_of_length_le (by omega)
     rw[hd1,hdl,Nat.min_self,hd2,hdl,hd3,List.append_nil,← List.eraseIdx_eq_take_drop_succ]
     have hel':(l.eraseIdx k).length=c:=by rw[List.length_eraseIdx,if_pos hkl,hc];rfl
     have hsub':(l.eraseIdx k).Sublist (synL es):=(List.eraseIdx_sublist l k).trans hsub
     have hok':SynOk ps (l.eraseIdx k):=synOk_sub (fun s hs=>hsub'.subset hs) hsok
     have hW':WhlX ps (exF ps (l.eraseIdx k)):=whl_of hv hok' (rnk_sub (fun s hs=>hsub'.subset hs) hrnk) (exF_gen _ _) (exF_stop _ _)
     have hx1:=hext (l.eraseIdx k) hok' (by omega)
     have hx2:=hcon (l.eraseIdx k) hok' _ (exF_gen _ _) hW' (decide (lftX ps (exF ps (l.eraseIdx k))=0))
     have hmo:ctlB ps [] (badX ps ts)=true→ctlB ps (l.eraseIdx k) (badX ps ts)=true:=ctl_mono
     generalize l.eraseIdx k=l' at *
     obtain⟨X',hX'⟩:∃X',aOrd ps (exF ps l') (decide (lftX ps (exF ps l')=0)) = .rp 3 X' 0 0:=⟨_,rfl⟩
     rw[hX'] at hx1 hx2
     refine AWp.viewP (Lf:=[(bf,.row 76 4 (l'.map aSyn) c)]) (Lk:=[]) (L':=[]) (List.Perm.refl _) .nil [(18,.sl 4 (l'.map aSyn))] (fun z hz => ?_) ?_
     ·obtain rfl:=List.mem_singleton.1 hz
      simp only[go_sem]
      exact Vw.ofLs (t:=76) (cap:=c) (if_pos rfl) (by rw[List.length_map,hel'])
     simp only[go_sem]
     refine Wk ?_
     refine Sd ?_
     refine(hx1).val.use ?_;simp only[go_sem]
     refine Wk ?_
     refine Sd ?_
     refine(hx2).val.use ?_;simp only[go_sem]
     generalize hcc:ctlB ps l' (badX ps ts)=cc at *
     refine Wk ?_
     refine⟨fun h5 => ?_,fun h5 => ?_⟩
     ·refine Wk ?_
      exact⟨_,List.Sublist.refl _,k,by omega,l',(k:Int) - 1,rfl,rfl,hsub',by rw[hcc];exact h5,(fun h=>by have:=hnn h;omega),by omega,by omega,by omega⟩
     ·refine Wk ?_
      exact⟨_,List.Sublist.refl _,k,by omega,l,(k:Int) - 1,rfl,rfl,hsub,hct,(fun h=>absurd ((hcc ▸ hmo h:cc=true)) (by simpa using h5)),by omega,by omega,by omega⟩
    ·refine W1 hlm ?_
     refine ret_own ?_
     simp only[go_sem]
     exact⟨_,.refl _,hfinal l hsub hct fun h=>List.eq_nil_of_length_eq_zero (by have:=hnn h;omega)⟩
 ·rw[if_neg hC] at h1
  generalize hCC:conF ps ts=C at *
  refine MCalls.toS (K:=fun r L=>∃r0,Vw L r r0∧CtlA ps ts r0) ?_ (fun r L h=>h)
  refine MCalls.enter' 116 [.tmp 4,.tmp 5] [2,39,83] Proofs.Tryz.func9 rfl rfl rfl rfl rfl (by simp) (AWp.of ?_);simp only[go_sem]
  refine Wk ?_
  refine Sd ?_
  refine(h1).val.use ?_;simp only[go_sem]
  refine W1 hC ?_
  refine ret_own ?_
  simp only[go_sem]
  exact⟨.tup [.sl 4 [],ai C],.mkTup (Vws.cons (.nil 4) (Vws.refl _)),.inl ⟨by rw[hCC];exact hC,by rw[hCC]⟩⟩
theorem causality_checkOk (ps:List Pr) (hs:Sm ps) (hv:validF ps=true) (l:List Eid) (hl:l.length≤1000000) (h:∀x ∈ l,eidOk ps x=true):PC Proofs.Tryz.prog 91 [aTr ps,.sl 2 (l.map aEid)] (ai 0):=by
 have h1:=trace_Valid ps hs
 rw[hv] at h1
 refine PC.enter 21 [.tmp 4] [2,6] Proofs.Tryz.func91 rfl rfl rfl rfl rfl (by simp) (AWp.of ?_);simp only[go_sem]
 refine Wk ?_
 refine Sd ?_
 refine(h1).val.use ?_;simp only[go_sem]
 refine Wk ?_
 refine AWp.range' l.length [] [2,10,11] (fun k vs L=>L=[]) (by omega) rfl rfl rfl rfl ?_ ?_
 ·rintro k vs L hk - rfl
  have hg:=getD_map (f:=aEid) hk
  have h2:=causality_exists ps hs l[k]
  rw[h _ (List.getElem_mem hk)] at h2
  obtain⟨x1,x2,hx⟩:∃x1 x2,l[k]=(x1,x2):=⟨_,_,rfl⟩
  rw[hx] at hg h2
  change _=AV.agg [ai x1,ai x2] at hg
  change PC _ _ [_,.agg [ai x1,ai x2]] _ at h2
  simp only[go_sem]
  refine W1 hg ?_
  intro b6
  refine Wk ?_
  refine Sd ?_
  refine(h2).val.use ?_;simp only[go_sem]
  refine Wk ?_
  exact⟨_,List.Sublist.refl _,rfl⟩
 ·rintro vs L - rfl
  simp only[go_sem]
  refine Wk ?_
  refine ret_eq ?_;simp only[go_sem]
theorem causality_Event (ps:List Pr) (hs:Sm ps) (hv:validF ps=true) {p i:Nat} (hp:p<ps.length) (hi:i<nev ps p):PC Proofs.Tryz.prog 48 [aTr ps,ai (off ps p+i:Nat)] (.tup [aEid ((p:Int),(i:Int)+1),ai 0]):=by
 have hps:=hs.procs
 have hn:=nev_get hp
 have hel:=hs.evs _ (List.getElem_mem hp)
 have hc0:=causality_checkOk ps hs hv [] (by simp) (fun x hx=>by cases hx)
 have hc1:PC Proofs.Tryz.prog 91 [aTr ps,anil] (ai 0):=PC.nilB (k:=2) hc0
 have e1:aEid ((p:Int),(i:Int)+1) = .agg [ai p,ai ((i:Int)+1)]:=rfl
 rw[e1]
 have hos:=off_small hs p (by omega)
 refine PC.enter 42 [.cell 4 74,.tmp 5] [2,8] Proofs.Tryz.func48 rfl rfl rfl rfl rfl (by simp) (AWp.of ?_);simp only[go_sem]
 intro b
 refine Wk ?_
 have hng:¬(((off ps p+i:Nat):Int)<0):=by omega
 refine Sd ?_
 refine(hc1).val.use ?_;simp only[go_sem]
 refine W1 hng ?_
 refine AWp.range' ps.length [1] [4,19,20] (fun q vs L=>∃rest:Nat,vs=[ai rest]∧L=[(b,.row 74 2 [.agg [ai 0,ai 0]] 1)]∧off ps q+rest=off ps p+i∧q≤p) (by omega) rfl rfl rfl ?_ ?_ ?_
 ·exact⟨off ps p+i,rfl,rfl,by simp [off],Nat.zero_le _⟩
 ·rintro q vs L hq - ⟨rest,rfl,rfl,hqr,hqp⟩
  have hg:=getD_map (f:=aPr) hq
  have hof:=off_succ hq
  have helq:=hs.evs _ (List.getElem_mem hq)
  simp only[go_sem]
  refine W1 hg ?_
  intro b8 g8
  refine W1 hg ?_
  refine⟨fun h1 => ?_,fun h1 => ?_⟩
  ·have hqe:q=p:=by
    apply Classical.byContradiction
    intro hne
    have h2:off ps (q+1)≤off ps p:=off_mono (by omega) (by omega)
    omega
   subst hqe
   have hri:rest=i:=by omega
   subst hri
   refine Wk ?_
   refine ret_view [true] ?_;simp only[go_sem]
   exact .refl _
  ·have hne:q ≠ p:=fun e=>by subst e;omega
   refine W1 hg ?_
   refine⟨_,List.Sublist.refl _,rest - ps[q].evs.length,?_,rfl,by omega,by omega⟩
   rw[show ((rest - ps[q].evs.length:Nat):Int)=(rest:Int) - ps[q].evs.length by omega]
 ·rintro vs L - ⟨rest,rfl,rfl,hqr,hqp⟩
  omega
def evE (ps:List Pr) (k:Nat):Eid:=match (evIds ps)[k]? with|some x=>x.1|none=>(0,0)
theorem evE_at {ps:List Pr} {p i:Nat} (hp:p<ps.length) (hi:i<ps[p].evs.length):evE ps (off ps p+i)=((p:Int),(i:Int)+1):=by
 unfold evE
 rw[evIds_get hp hi]
theorem num_form {ps:List Pr} : ∀(n:Nat),n≤ps.length→∀ {k:Nat},k<off ps n→∃p i:Nat,∃hp:p<ps.length,i<ps[p].evs.length∧k=off ps p+i
 | 0,_,k,h=>by simp [off] at h
 | n+1,hn,k,h=>by
  rw[off_succ (show n<ps.length by omega)] at h
  by_cases e:k<off ps n
  ·exact num_form n (by omega) e
  ·exact⟨n,k - off ps n,by omega,by omega,by omega⟩
def ordX (ps:List Pr) (S:Nat→List (List Int)) (i j:Nat):Bool:=!decide (i=j) && decide ((evE ps i).2≤(stOf S (evE ps j).1.toNat (evE ps j).2.toNat).getD (evE ps i).1.toNat 0)
def relX (ps:List Pr) (S:Nat→List (List Int)):List (List Nat):=(List.range (off ps ps.length)).map fun i=>wordsF (ordX ps S i) (off ps ps.length) (off ps ps.length)
theorem relX_take (ps:List Pr) (S:Nat→List (List Int)) {i:Nat} (hi:i<off ps ps.length):(relX ps S).take (i+1)=(relX ps S).take i ++ [wordsF (ordX ps S i) (off ps ps.length) (off ps ps.length)]:=by
 rw[List.take_succ_eq_append_getElem (by simp [relX];exact hi)]
 congr 2
 unfold relX
 rw[List.getElem_map,List.getElem_range]
def fillE (ps:List Pr) (n k:Nat):List AV:=(List.range n).map fun j=>if j<k then aEid (evE ps j) else .agg [ai 0,ai 0]
theorem fillE_len {ps:List Pr} {n k:Nat} : (fillE ps n k).length=n:=by simp [fillE]
theorem fillE_zero {ps:List Pr} {n:Nat} : fillE ps n 0=List.replicate n (.agg [ai 0,ai 0]):=by
 unfold fillE
 rw[List.eq_replicate_iff]
 refine⟨by simp,fun b hb => ?_⟩
 obtain⟨k,_,rfl⟩:=List.mem_map.1 hb
 simp
theorem fillE_set {ps:List Pr} {n k:Nat} : (fillE ps n k).set k (aEid (evE ps k))=fillE ps n (k+1):=by
 apply List.ext_getElem?
 intro i
 rw[List.getElem?_set]
 unfold fillE
 simp only[List.getElem?_map,List.length_map,List.length_range]
 by_cases hi:i<n
 ·rw[List.getElem?_range hi]
  by_cases e:k=i
  ·subst e;simp [hi]
  ·rw[if_neg e]
   simp only[Option.map_some]
   by_cases h:i<k
   ·rw[if_pos h,if_pos (by omega)]
   ·rw[if_neg h,if_neg (by omega)]
 ·rw[List.getElem?_eq_none (by simp;omega)]
  by_cases e:k=i
  ·subst e;simp [hi]
  ·rw[if_neg e];rfl
theorem fillE_full {ps:List Pr} {n:Nat} : fillE ps n n=(List.range n).map fun j=>aEid (evE ps j):=by
 unfold fillE
 exact List.map_congr_left fun k hk=>by rw[if_pos (List.mem_range.1 hk)]
theorem fillE_get {ps:List Pr} {n k:Nat} (h:k<n):(fillE ps n k).getD k .any = .agg [ai 0,ai 0]:=by
 unfold fillE
 rw[map_range_getD h];simp
def filR (f:Nat→Bool) (j:Nat):List AV:=((List.range j).filter f).map fun j:Nat=>ai j
theorem filR_succ {f:Nat→Bool} {j:Nat} : filR f (j+1)=filR f j ++ if f j=true then [ai j] else []:=by
 unfold filR
 rw[List.range_succ,List.filter_append,List.map_append]
 congr 1
 by_cases h:f j=true
 ·rw[if_pos h,List.filter_cons_of_pos h];rfl
 ·rw[if_neg h,List.filter_cons_of_neg h];rfl
theorem filR_len {f:Nat→Bool} {j:Nat} : (filR f j).length≤j:=by
 unfold filR
 rw[List.length_map]
 exact Nat.le_trans (List.length_filter_le _ _) (by rw[List.length_range];exact Nat.le_refl _)
set_option maxHeartbeats 1000000 in
theorem control_OrderOk (ps:List Pr) (hs:Sm ps) (hv:validF ps=true) (l:List Syn) (hll:l.length≤1000000) (hE:syE ps l=0) (hT:TabOk ps (exF ps l)) :
  PC Proofs.Tryz.prog 15 [aTr ps,.sl 4 (l.map aSyn)] (.tup [aRelR (off ps ps.length) (relX ps (exF ps l)),ai 0]):=by
 have h1:=control_check ps hs l hll
 have hA:aChk ps l = .tup [aOrd ps (exF ps l) true,ai 0]:=by unfold aChk;rw[if_neg (by rw[hv];decide),if_pos hE]
 rw[hA] at h1
 have h2:=trace_Count ps hs hv
 have hN:=valid_off hv
 have hEv:∀k,k<off ps ps.length→PC Proofs.Tryz.prog 48 [aTr ps,ai k] (.tup [aEid (evE ps k),ai 0]):=fun k hk=>by
  obtain⟨p,i,hp,hi,rfl⟩:=num_form ps.length (Nat.le_refl _) hk
  rw[evE_at hp hi]
  exact causality_Event ps hs hv hp (by rw[nev_get hp];exact hi)
 have hO:aOrd ps (exF ps l) true = .rp 3 [.agg [aPrs ps,.sl 1 ((List.range ps.length).map fun p => .sl 1 ((exF ps l p).map aInts)),ab true]] 0 0:=rfl
 rw[hO] at h1
 have hrl:(relX ps (exF ps l)).length=off ps ps.length:=by simp [relX]
 have hps:=hs.procs
 generalize exF ps l=S at *
 refine PC.enter 109 [.cell 4 45,.tmp 5] [2,13,16,17,88,104] Proofs.Tryz.func15 rfl rfl rfl rfl rfl (by simp) (AWp.of ?_);simp only[go_sem]
 intro b4
 refine Wk ?_
 refine Sd ?_
 refine(h1).val.use ?_;simp only[go_sem]
 refine Wk ?_
 refine Sd ?_
 refine(h2).val.use ?_;simp only[go_sem]
 refine Wk ?_
 intro bs gs
 refine Wk ?_
 have hz0:=fillE_zero (ps:=ps) (n:=off ps ps.length)
 rw[show List.replicate (off ps ps.length) (AV.agg [AV.v (Value.int IntKind.i64 0),AV.v (Value.int IntKind.i64 0)])=fillE ps (off ps ps.length) 0 from hz0.symm]
 clear hz0
 refine AWp.range' (off ps ps.length) [] [2,4,6,8,9,34] (fun k vs L=>vs=[]∧L=[(bs,.row 74 2 (fillE ps (off ps ps.length) k) (off ps ps.length)),(b4,.row 45 1 [.agg [anil]] 1)]) (by omega) rfl rfl rfl ⟨rfl,rfl⟩ ?_ ?_
 ·rintro k vs L hk - ⟨rfl,rfl⟩
  have h3:=hEv k hk
  have hset:=fillE_set (ps:=ps) (n:=off ps ps.length) (k:=k)
  have hlen:=fillE_len (ps:=ps) (n:=off ps ps.length) (k:=k)
  have hgE:=fillE_get (ps:=ps) hk
  rw[← hset]
  generalize fillE ps (off ps ps.length) k=ys at *
  obtain⟨x1,x2,hx⟩:∃x1 x2,evE ps k=(x1,x2):=⟨_,_,rfl⟩
  rw[hx] at h3 ⊢
  change PC _ _ _ (.tup [.agg [ai x1,ai x2],ai 0]) at h3
  simp only[go_sem]
  refine Wk ?_
  refine Sd ?_
  refine(h3).val.use ?_;simp only[go_sem,hlen,hgE]
  refine W2 hlen hgE ?_
  exact⟨_,List.Sublist.refl _,rfl⟩
 ·rintro vs L - ⟨rfl,rfl⟩
  rw[fillE_full]
  have hgE:∀j,j<off ps ps.length→((List.range (off ps ps.length)).map fun j=>aEid (evE ps j)).getD j .any=aEid (evE ps j):=fun j hj=>map_range_getD hj _
  have hll2:((List.range (off ps ps.length)).map fun j=>aEid (evE ps j)).length=off ps ps.length:=by simp
  generalize (List.range (off ps ps.length)).map (fun j=>aEid (evE ps j))=ES at *
  simp only[go_sem]
  refine AWp.viewP (Lf:=[(bs,_)]) (Lk:=[(b4,_)]) (L':=[(b4,_)]) (List.Perm.refl _) (LVw.refl _) [(9,.sl 2 ES)] (fun q hq => ?_) ?_
  ·obtain rfl:=List.mem_singleton.1 hq
   simp only[go_sem]
   exact Vw.ofLs (t:=74) (cap:=off ps ps.length) (if_pos rfl) hll2.symm
  refine Wk ?_
  intro b11 g11
  have n1:¬b11=b4:=by omega
  have n2:¬b4=b11:=by omega
  refine W1 hll2 ?_
  refine AWp.range' (off ps ps.length) [] [4,6,8,9,11,48,49] (fun i vs L=>vs=[]∧relS b11 b4 (off ps ps.length) ((relX ps S).take i) L) (by omega) rfl rfl rfl ⟨rfl,.inl ⟨rfl,rfl⟩⟩ ?_ ?_
  ·rintro i vs L hi - ⟨rfl,hL⟩
   obtain⟨p,a,hp,ha,hia⟩:=num_form ps.length (Nat.le_refl _) hi
   have hei:evE ps i=((p:Int),(a:Int)+1):=by rw[hia];exact evE_at hp ha
   have hgi:ES.getD i .any = .agg [ai p,ai ((a:Int)+1)]:=by rw[hgE i hi,hei];rfl
   simp only[go_sem]
   refine W1 hgi ?_
   intro b13 g13
   refine W1 hll2 ?_
   refine AWp.range' (off ps ps.length) [14] [4,6,8,9,11,12,13,48,49,50,55,56] (fun j vs L'=>∃v Lv,vs=[v]∧L'=Lv ++ L∧AppSt 3 1 (filR (ordX ps S i) j) v Lv) (by omega) rfl rfl rfl ⟨anil,[],rfl,rfl,.nil⟩ ?_ ?_
   ·rintro j vs L' hj - ⟨v,Lv,rfl,rfl,hA⟩
    obtain⟨q,b,hq,hb,hjb⟩:=num_form ps.length (Nat.le_refl _) hj
    have hej:evE ps j=((q:Int),(b:Int)+1):=by rw[hjb];exact evE_at hq hb
    have hgj:ES.getD j .any = .agg [ai q,ai ((b:Int)+1)]:=by rw[hgE j hj,hej];rfl
    have x2:((b:Int)+1).toNat=b+1:=by omega
    have hSq:=hT.len q hq
    rw[nev_get hq] at hSq
    have hbk:b+1<(S q).length:=by omega
    have hrw:=hT.row q (b+1) hq hbk
    have hgq:((List.range ps.length).map fun p=>AV.sl 1 ((S p).map aInts)).getD q .any = .sl 1 ((S q).map aInts):=map_range_getD hq _
    have hgb:((S q).map aInts).getD (b+1) .any = .sl 1 ((stOf S q (b+1)).map ai):=by
     rw[getD_map hbk];unfold stOf;rw[List.getD_eq_getElem?_getD,List.getElem?_eq_getElem hbk];rfl
    have hpr:p<(stOf S q (b+1)).length:=by omega
    have hgp:((stOf S q (b+1)).map ai).getD p .any=ai ((stOf S q (b+1)).getD p 0):=by
     rw[getD_map hpr,List.getD_eq_getElem?_getD,List.getElem?_eq_getElem hpr];rfl
    have hf:ordX ps S i j=(!decide (i=j) && decide ((a:Int)+1≤(stOf S q (b+1)).getD p 0)):=by
     unfold ordX
     rw[hei,hej]
     show (!decide (i=j) && decide ((a:Int)+1≤(stOf S ((q:Int)).toNat ((b:Int)+1).toNat).getD ((p:Int)).toNat 0))=_
     rw[x2,Int.toNat_natCast,Int.toNat_natCast]
    have hij:decide ((i:Int)=j)=decide (i=j):=by rw[decide_eq_decide];omega
    have hfr:=filR_succ (f:=ordX ps S i) (j:=j)
    have hfo:=hA.fo
    have hyl:(filR (ordX ps S i) j).length≤1000000:=by have:=filR_len (f:=ordX ps S i) (j:=j);omega
    rw[hfr]
    generalize filR (ordX ps S i) j=ys at *
    generalize stOf S q (b+1)=row at *
    simp only[go_sem]
    refine W1 hgj ?_
    intro b16 g16
    refine Wk ?_
    repeat(first|(with_reducible refine AWp.seq ?_)|(with_reducible refine AWp.block ?_))
    refine AWp.read mixed [0,1,2,3,4,5,6,7,8,9,10,11,12,13,14,15,16,17,18,19,20,21,22,23] (by kernel_rfl) ?_;simp only[go_sem,hgq,hgb,hgp,x2,hij]
    refine Sd ?_
    rw[← hf]
    cases hc:ordX ps S i j with
    | true =>
     rw[if_pos rfl]
     rcases hA.inv with ⟨e1,rfl,rfl⟩|⟨bq,cq,rfl,rfl⟩
     ·refine Wk ?_
      intro b' cap' g8
      intros
      refine Wk ?_
      refine⟨_,List.Sublist.refl _,_,_,rfl,?_,by rw[e1];exact .row b' _ cap'⟩
      rfl
     ·refine Wk ?_
      refine Sd ?_
      intro b' cap' g8
      intros
      refine Wk ?_
      refine⟨_,List.Sublist.refl _,_,_,rfl,?_,AppSt.snoc b' cap' _ rfl⟩
      rfl
    | false =>
     rw[if_neg (by decide),List.append_nil]
     refine Wk ?_
     exact⟨_,List.Sublist.refl _,_,_,rfl,rfl,hA⟩
   ·rintro vs L' - ⟨v,Lv,rfl,rfl,hA⟩
    have hbo:PC Proofs.Tryz.prog 49 [ai (off ps ps.length:Nat),.sl 1 (filR (ordX ps S i) (off ps ps.length))] (.tup [aBits (off ps ps.length) (wordsF (ordX ps S i) (off ps ps.length) (off ps ps.length)),ai 0]):=bits_Of (off ps ps.length) hN (ordX ps S i)
    have hst:=relX_take ps S hi
    have hb:aBits (off ps ps.length) (wordsF (ordX ps S i) (off ps ps.length) (off ps ps.length)) = .agg [ai (off ps ps.length:Nat),.sl 1 ((wordsF (ordX ps S i) (off ps ps.length) (off ps ps.length)).map fun w:Nat=>au64 (w:Int))]:=rfl
    rw[hb] at hbo
    simp only[go_sem]
    refine AWp.viewP (Lf:=Lv) (Lk:=L) (L':=L) (List.Perm.refl _) (LVw.refl _) [(14,.sl 1 (filR (ordX ps S i) (off ps ps.length)))] (fun q hq => ?_) ?_
    ·obtain rfl:=List.mem_singleton.1 hq
     have:=hA.vw []
     rw[List.append_nil] at this
     simp only[go_sem]
     exact this
    generalize wordsF (ordX ps S i) (off ps ps.length) (off ps ps.length)=ws at *
    generalize filR (ordX ps S i) (off ps ps.length)=ys at *
    have htl:((relX ps S).take i).length=i:=by rw[List.length_take];omega
    generalize (relX ps S).take i=rs at *
    refine Wk ?_
    refine Sd ?_
    refine(hbo).val.use ?_;simp only[go_sem]
    refine Wk ?_
    intro b17 g17
    rcases hL with ⟨rfl,rfl⟩|⟨c,cap,⟨d1,d2⟩,rfl⟩
    ·refine W3 n1 n2 hb ?_
     intro c1 k1 h41 h21 hk1
     have d1:¬c1=b11:=by omega
     have d2:¬c1=b4:=by omega
     have d7:¬b11=c1:=by omega
     have d9:¬b4=c1:=by omega
     simp only[go_sem,d7]
     refine W6 n1 n2 d1 d2 d7 d9 ?_
     rw[hst]
     exact⟨_,List.Sublist.refl _,.inr ⟨c1,k1,⟨d1,d2⟩,rfl⟩⟩
    ·have d3:¬b11=c:=fun e=>d1 e.symm
     have d4:¬b4=c:=fun e=>d2 e.symm
     have hrs:(rs.map (aBits (off ps ps.length))).take rs.length=rs.map (aBits (off ps ps.length)):=List.take_of_length_le (by rw[List.length_map];exact Nat.le_refl _)
     repeat(first|((with_reducible refine AWp.ofC ?_ ?_);exact rfl;simp only[go_sem,n1,n2,d1,d2,d3,d4,hrs])|((with_reducible refine an ?_ ?_);exact Au))
     intro c1 k1 h41 h21 hk1
     have e1:¬c1=b11:=fun e=>h41 e.symm
     have e2:¬c1=b4:=fun e=>h21 e.symm
     simp only[go_sem,h41]
     refine W6 n1 n2 e1 e2 h41 h21 ?_
     refine⟨_,List.Sublist.refl _,?_⟩
     rw[hst]
     exact .inr ⟨c1,k1,⟨e1,e2⟩,by rw[List.length_append,List.map_append];rfl⟩
  ·rintro vs L - ⟨rfl,hL⟩
   rw[List.take_of_length_le (by omega)] at hL
   rcases hL with ⟨e0,rfl⟩|⟨c,cap,⟨d1,d2⟩,rfl⟩
   ·simp only[go_sem]
    refine W2 n1 n2 ?_
    refine ret_view [true,true] ?_;simp only[go_sem]
    simp only[go_sem,n2]
    unfold aRelR
    rw[e0]
    exact .mkTup (Vws.cons (.mkAgg (Vws.cons (.nil 2) .nil)) (Vws.refl _))
   ·simp only[go_sem]
    have d3:¬b11=c:=fun e=>d1 e.symm
    have d4:¬b4=c:=fun e=>d2 e.symm
    refine W6 n1 n2 d1 d2 d3 d4 ?_
    refine ret_view [true,true,true] ?_;simp only[go_sem]
    simp only[go_sem,n2,d4]
    exact .mkTup (Vws.cons (.mkAgg (Vws.cons (Vw.ofLs (t:=111) (cap:=cap) (if_pos rfl) (by rw[List.length_map])) .nil)) (Vws.refl _))
end Go.AL
end
