/- Texts of this claim's proof: WY16, WY39, WY31, WY20, WY35, WY36, WY32, WY33, WY10. No condition. -/
import Derived.Test.YtkkcgocdmaodbaaGreatDoorM19
import Derived.Test.YtkkcgocdmaodbaaGreatDoorM21
import Derived.Test.YtkkcgocdmaodbaaGreatDoorM15
import Derived.Test.YtkkcgocdmaodbaaGreatDoorM17
import Derived.Test.YtkkcgocdmaodbaaGreatDoorM14
import Derived.Test.YtkkcgocdmaodbaaGreatDoorM16
section
namespace Go.AL
open Go Go.RowKit
set_option maxRecDepth 4000
theorem synL_snoc (x y:Eid):∀l:List Eid,synL (l ++ [x,y])=synL (l ++ [x]) ++ if x.1 ≠ y.1 then [(x,y)] else []
 | []=>by
  show (if x.1 ≠ y.1 then [(x,y)] else []) ++ synL [y]=[] ++ _
  simp [synL]
 | [a]=>by
  show (if a.1 ≠ x.1 then [(a,x)] else []) ++ synL ([] ++ [x,y])=((if a.1 ≠ x.1 then [(a,x)] else []) ++ synL ([] ++ [x])) ++ _
  rw[synL_snoc x y [],List.append_assoc]
 | a :: b :: l=>by
  show (if a.1 ≠ b.1 then [(a,b)] else []) ++ synL ((b :: l) ++ [x,y])=((if a.1 ≠ b.1 then [(a,b)] else []) ++ synL ((b :: l) ++ [x])) ++ _
  rw[synL_snoc x y (b :: l),List.append_assoc]
theorem synL_take {es:List Eid} {i:Nat} (h1:1≤i) (h2:i<es.length):synL (es.take (i+1))=synL (es.take i) ++ if (es[i - 1]).1 ≠ (es[i]).1 then [(es[i - 1],es[i])] else []:=by
 obtain⟨k,rfl⟩:∃k,i=k+1:=⟨i - 1,by omega⟩
 have e1:es.take (k+1+1)=es.take k ++ [es[k],es[k+1]]:=by
  rw[List.take_succ_eq_append_getElem h2,List.take_succ_eq_append_getElem (by omega),List.append_assoc];rfl
 have e2:es.take (k+1)=es.take k ++ [es[k]]:=List.take_succ_eq_append_getElem (by omega)
 rw[e1,e2,synL_snoc];rfl
theorem synL_takeO {es:List Eid} {i:Nat} (h1:1≤i) {x y:Eid} (hx:es[i - 1]?=some x) (hy:es[i]?=some y):synL (es.take (i+1))=synL (es.take i) ++ if x.1 ≠ y.1 then [(x,y)] else []:=by
 obtain⟨h3,rfl⟩:=List.getElem?_eq_some_iff.1 hx
 obtain⟨h4,rfl⟩:=List.getElem?_eq_some_iff.1 hy
 exact synL_take h1 h4
theorem synL_one {es:List Eid} : synL (es.take 1)=[]:=by
 cases es with
 | nil=>rfl
 | cons a l=>rfl
theorem synL_len:∀es:List Eid,(synL es).length≤es.length
 | []=>by simp [synL]
 | [a]=>by simp [synL]
 | a :: b :: l=>by
  have:=synL_len (b :: l)
  show ((if a.1 ≠ b.1 then [(a,b)] else []) ++ synL (b :: l)).length≤_
  rw[List.length_append]
  split <;> simp only[List.length_cons,List.length_nil] at this ⊢ <;> omega
theorem rowsX_ok (ps:List Pr) (ts:List Pd):RowsOk ps (badX ps ts) (rowsX ps ts):=fun p _=>spL_ok _ p _
theorem rowsX_len (ps:List Pr) (_hs:Sm ps) (hv:validF ps=true) (ts:List Pd):∀p,p<ps.length→(rowsX ps ts p).length≤1000000:=fun p hp=>by
 have h1:=spL_len (b:=badX ps ts p) (p:=p) (nev ps p+1)
 have h2:=valid_off hv
 have h3:=off_le hp
 have h5:=nev_get hp
 unfold rowsX
 omega
theorem PC.nilB {P:Program} {f:FuncId} {a r:AV} {k:Nat} (h:PC P f [a,.sl k []] r):PC P f [a,anil] r:=⟨h.1,fun n w A vs hL hr=>by
 obtain⟨u,us',rfl,h1,h2⟩:=hr.inv_cons
 obtain⟨u2,us2,rfl,h3,h4⟩:=h2.inv_cons
 obtain rfl:=h4.inv_nil
 cases h3
 exact h.2 n w A _ hL (.cons h1 (.cons (.sl0 k none 0 (by decide)) .nil))⟩
theorem ctl_mono {ps:List Pr} {l:List Syn} {bad:Nat→Nat→Bool} (h:ctlB ps [] bad=true):ctlB ps l bad=true:=by
 rw[ctlB_true] at h ⊢
 rintro⟨d,hd⟩
 refine h ⟨d,hd.rng,hd.bad,fun a ha i hi hia y hy=>hd.clo a ha i hi hia y ?_⟩
 unfold dirX at hy ⊢
 rcases List.mem_append.1 hy with hy|hy
 ·exact List.mem_append_left _ hy
 ·obtain⟨s,h1,_⟩:=List.mem_map.1 hy
  exact absurd (List.mem_filter.1 h1).1 (List.not_mem_nil)
def CtlA (ps:List Pr) (ts:List Pd) (r:AV):Prop :=
 (conF ps ts ≠ 0∧r = .tup [.sl 4 [],ai (conF ps ts)])∨(conF ps ts=0∧(∃t,TgtS ps (rowsX ps ts) t)∧r = .tup [.sl 4 [],ai 7]) ∨
 (conF ps ts=0∧(¬ ∃t,TgtS ps (rowsX ps ts) t)∧∃(R:List (List Int)) (l:List Syn),DodgeR ps (badX ps ts) (zeroC ps :: R)∧l.Sublist (synL (evtG (zeroC ps) R))∧ctlB ps l (badX ps ts)=true∧(ctlB ps [] (badX ps ts)=true→l=[])∧r = .tup [.sl 4 (l.map aSyn),ai 0])
set_option maxHeartbeats 2000000 in
theorem control_Control (ps:List Pr) (hs:Sm ps) (ts:List Pd) (hz:∀t ∈ ts,szF t≤1000000) (htl:ts.length≤1000000) :
  MCalls Proofs.Tryz.prog 9 [aTr ps,.sl 6 (ts.map aPd)] [] fun r L=>L=[]∧CtlA ps ts r:=by
 have h1:=control_falsehoods ps hs ts hz htl
 have hps:=hs.procs
 by_cases hC:conF ps ts=0
 ·rw[if_pos hC] at h1
  obtain⟨hv,hlen,_⟩:=conF_inv hC
  have hR:=rowsX_ok ps ts
  have hRl:=rowsX_len ps hs hv ts
  have hti:=order_tight ps hs hv (decide (lftX ps (exF ps [])=0)) hR hRl
  have hdo:=order_dodge ps hs hv (decide (lftX ps (exF ps [])=0)) hR hRl
  have hex0:=control_extended ps hs hv [] (synOk_nil ps) (by simp)
  have hst:=fun p=>control_stretches (badX ps ts p) p (nev ps p+1)
  have hnb:=fun p (hp:p<ps.length)=>show nev ps p≤1000000 by rw[nev_get hp];exact hs.evs _ (List.getElem_mem hp)
  have hss:aStss ((List.range ps.length).map (rowsX ps ts))=aRowsX ps ts:=by unfold aStss aRowsX;rw[List.map_map];rfl
  rw[hss] at hti hdo
  obtain⟨X,hX⟩:∃X,aOrd ps (exF ps []) (decide (lftX ps (exF ps [])=0)) = .rp 3 X 0 0:=⟨_,rfl⟩
  rw[hX] at hti hdo hex0
  unfold falT at h1
  unfold aRowsX at hti hdo
  refine MCalls.toS (K:=fun r L=>∃r0,Vw L r r0∧CtlA ps ts r0) ?_ (fun r L h=>h)
  refine MCalls.enter' 116 [.tmp 4,.tmp 5] [2,39,83] Proofs.Tryz.func9 rfl rfl rfl rfl rfl (by simp) (AWp.of ?_);simp only[go_sem]
  refine Wk ?_
  refine Sd ?_
  refine(h1).val.use ?_;simp only[go_sem]
  repeat(first|((with_reducible refine AWp.ofC ?_ ?_);exact rfl;simp only[go_sem,List.length_range])|((with_reducible refine an ?_ ?_);exact Au))
  refine AWp.range' ps.length [8] [2,6,28,29] (fun p vs L=>∃v,vs=[v]∧AppSt 49 1 ((List.range p).map fun p => .sl 3 ((rowsX ps ts p).map aStp)) v L) (by omega) rfl rfl rfl ⟨anil,rfl,.nil⟩ ?_ ?_
  ·rintro p vs L hp - ⟨v,rfl,hA⟩
   have hg:((List.range ps.length).map fun p=>AV.sl 1 (falL ps ts p)).getD p .any = .sl 1 (falL ps ts p):=map_range_getD hp _
   have h2:=hst p (by have:=hnb p hp;omega)
   have hyl:((List.range p).map fun p=>AV.sl 3 ((rowsX ps ts p).map aStp)).length=p:=by simp
   have hys:((List.range (p+1)).map fun p=>AV.sl 3 ((rowsX ps ts p).map aStp))=((List.range p).map fun p=>AV.sl 3 ((rowsX ps ts p).map aStp)) ++ [.sl 3 ((rowsX ps ts p).map aStp)]:=by rw[List.range_succ,List.map_append];rfl
   rw[hys]
   change PC _ _ [_,.sl 1 (falL ps ts p)] (.sl 3 ((rowsX ps ts p).map aStp)) at h2
   clear hys hti hdo hss
   generalize (List.range p).map (fun p=>AV.sl 3 ((rowsX ps ts p).map aStp))=ys at *
   generalize (rowsX ps ts p).map aStp=row at *
   generalize falL ps ts p=fl at *
   rcases hA.inv with ⟨e1,rfl,rfl⟩|⟨bq,cq,rfl,rfl⟩
   ·simp only[go_sem]
    refine W1 hg ?_
    refine Sd ?_
    refine AWp.of ?_;simp only[go_sem]
    refine Sd ?_
    refine(h2).val.use ?_;simp only[go_sem]
    refine W1 hg ?_
    intro b' cap' g8
    refine Wk ?_
    exact⟨_,List.Sublist.refl _,_,rfl,by rw[e1];exact .row _ _ _⟩
   ·simp only[go_sem]
    refine W1 hg ?_
    refine Sd ?_
    refine AWp.of ?_;simp only[go_sem]
    refine Sd ?_
    refine(h2).val.use ?_;simp only[go_sem]
    refine W1 hg ?_
    refine Sd ?_
    intro b' cap' g8
    refine Wk ?_
    exact⟨_,List.Sublist.refl _,_,rfl,AppSt.snoc _ _ _ rfl⟩
  ·rintro vs L - ⟨v,rfl,hA⟩
   refine AWp.viewA (L:=[]) (j:=8) hA rfl ?_
   generalize (List.range ps.length).map (fun p=>AV.sl 3 ((rowsX ps ts p).map aStp))=RW at *
   have hex1:PC Proofs.Tryz.prog 33 [aTr ps,anil] (.rp 3 X 0 0):=PC.nilB (k:=4) hex0
   simp only[go_sem]
   refine Wk ?_
   refine Sd ?_
   refine(hex1).val.use ?_;simp only[go_sem]
   refine Wk ?_
   by_cases hT:∃t,TgtS ps (rowsX ps ts) t
   ·obtain⟨a,ha⟩:=least_ex hR hT
    rw[aTgt_some ha] at hti
    refine Sd ?_
    refine(hti).val.use ?_;simp only[go_sem]
    refine Wk ?_
    refine ret_own ?_
    simp only[go_sem]
    exact⟨.tup [.sl 4 [],ai 7],.mkTup (Vws.cons (.nil 4) (Vws.refl _)),.inr (.inl ⟨hC,hT,rfl⟩)⟩
   have hdo:=hdo hT
   rw[aTgt_none hT] at hti
   refine Sd ?_
   refine(hti).val.use ?_;simp only[go_sem]
   refine Wk ?_
   refine hdo.val.mono ?_
   rintro r L ⟨rfl,R,hD,rfl⟩
   obtain⟨R',hR',hch,hla⟩:=isrun_inv hD.run
   obtain rfl:R=R':=by injection hR'
   have hlR:=evtG_len R (zeroC ps)
   have hoff:=valid_off hv
   have hsum:=(chn_last (zeroC_is ps) hch hla).2
   have hz0:(zeroC ps).sum=0:=by unfold zeroC;simp
   rw[fullC_sum,hz0] at hsum
   have hsok:=syn_ok hch
   have hsct:=syn_ctl hD
   have hrnk:=syn_rnk hv hch hla
   clear hch hla hR'
   have hfinal:∀l:List Syn,l.Sublist (synL (evtG (zeroC ps) R))→ctlB ps l (badX ps ts)=true→(ctlB ps [] (badX ps ts)=true→l=[])→CtlA ps ts (.tup [.sl 4 (l.map aSyn),ai 0]):=fun l h1 h2 h3 => .inr (.inr ⟨hC,hT,R,l,hD,h1,h2,h3,rfl⟩)
   clear hdo hti hD
   have hsl:=synL_len (evtG (zeroC ps) R)
   generalize evtG (zeroC ps) R=es at *
   generalize rkO (zeroC ps :: R)=rk at *
   have hel:es.length≤512:=by omega
   simp only[go_sem]
   refine Wk ?_
   refine AWp.block (AWp.loopN [14,16] [2,6,15] (fun m vs L=>∃(i:Nat) (v:AV),vs=[v,ai i]∧1≤i∧i≤513∧AppSt 77 4 ((synL (es.take i)).map aSyn) v L∧m=es.length - i) _ ⟨1,anil,rfl,Nat.le_refl _,by omega,by rw[synL_one];exact .nil,rfl⟩ ?_)
   rintro m vs L - ⟨i,v,rfl,hi1,hi5,hA,rfl⟩
   have hfo:=hA.fo
   have hesl:(es.map aEid).length=es.length:=List.length_map _
   simp only[go_sem]
   refine W2 hfo hesl ?_
   refine⟨fun h2 => ?_,fun h2 => ?_⟩
   ·have hil:i<es.length:=by omega
    have gi:((i:Int) - 1).toNat=i - 1:=by omega
    have htl2:=synL_len (es.take i)
    rw[List.length_take] at htl2
    obtain⟨⟨a1,a2⟩,hx⟩:∃x,es[i - 1]?=some x:=⟨_,List.getElem?_eq_getElem (by omega)⟩
    obtain⟨⟨b1,b2⟩,hy⟩:∃y,es[i]?=some y:=⟨_,List.getElem?_eq_getElem hil⟩
    have hst:=synL_takeO hi1 hx hy
    have g1:(es.map aEid).getD (i - 1) .any = .agg [ai a1,ai a2]:=by rw[List.getD_eq_getElem?_getD,List.getElem?_map,hx];rfl
    have g2:(es.map aEid).getD i .any = .agg [ai b1,ai b2]:=by rw[List.getD_eq_getElem?_getD,List.getElem?_map,hy];rfl
    have hst1:a1 ≠ b1→(synL (es.take (i+1))).map aSyn=(synL (es.take i)).map aSyn ++ [.agg [ai a1,ai a2,ai b1,ai b2]]:=fun h=>by rw[hst,if_pos h,List.map_append];rfl
    have hst2:¬a1 ≠ b1→(synL (es.take (i+1))).map aSyn=(synL (es.take i)).map aSyn:=fun h=>by rw[hst,if_neg h,List.append_nil]
    have hyl:((synL (es.take i)).map aSyn).length≤1000:=by rw[List.length_map];omega
    clear hst hx hy
    generalize hys:(synL (es.take i)).map aSyn=ys at *
    generalize hEE:es.map aEid=EE at *
    rcases hA.inv with ⟨e1,rfl,rfl⟩|⟨bq,cq,rfl,rfl⟩
    ·repeat(first|(with_reducible refine AWp.seq ?_)|(with_reducible refine AWp.block ?_))
     refine AWp.read mixed [0,1,2,3,4,5,6,7,8,9,10,11] (by kernel_rfl) ?_;simp only[go_sem,g1,g2,gi,hesl]
     refine Sd ?_
     refine Wk ?_
     refine⟨fun h3 => ?_,fun h3 => ?_⟩
     ·repeat(first|(with_reducible refine AWp.seq ?_)|(with_reducible refine AWp.block ?_))
      refine AWp.mix mixed [0,1,2,3,4,5,6,7,8,9,10] (.step 11 (.step 12 (.step 13 .done .done) .done) .done) (by kernel_rfl) ?_;simp only[go_sem,g1,g2,gi,hesl]
      refine Sd ?_
      intro b' cap' _
      refine Wk ?_
      exact⟨_,List.Sublist.refl _,es.length - (i+1),by omega,i+1,_,rfl,by omega,by omega,by rw[hst1 h3,e1];exact .row _ [_] _,rfl⟩
     ·refine Wk ?_
      exact⟨_,List.Sublist.refl _,es.length - (i+1),by omega,i+1,_,rfl,by omega,by omega,by rw[hst2 fun h=>h h3];exact hA,rfl⟩
    ·repeat(first|(with_reducible refine AWp.seq ?_)|(with_reducible refine AWp.block ?_))
     refine AWp.read mixed [0,1,2,3,4,5,6,7,8,9,10,11] (by kernel_rfl) ?_;simp only[go_sem,g1,g2,gi,hesl]
     refine Sd ?_
     refine Wk ?_
     refine⟨fun h3 => ?_,fun h3 => ?_⟩
     ·repeat(first|(with_reducible refine AWp.seq ?_)|(with_reducible refine AWp.block ?_))
      refine AWp.mix mixed [0,1,2,3,4,5,6,7,8,9,10] (.step 11 (.step 12 (.step 13 .done .done) .done) .done) (by kernel_rfl) ?_;simp only[go_sem,g1,g2,gi,hesl]
      refine Sd ?_
      intro b' cap' _
      refine Wk ?_
      exact⟨_,List.Sublist.refl _,es.length - (i+1),by omega,i+1,_,rfl,by omega,by omega,by rw[hst1 h3];exact AppSt.snoc _ _ _ rfl,rfl⟩
     ·refine Wk ?_
      exact⟨_,List.Sublist.refl _,es.length - (i+1),by omega,i+1,_,rfl,by omega,by omega,by rw[hst2 fun h=>h h3];exact hA,rfl⟩
   ·rw[List.take_of_length_le (by omega)] at hA
    have hext:=fun l hl hll=>control_extended ps hs hv l hl hll
    have hcon:=fun l hl S hG hW w=>order_controls ps hs hv l hl S hG hW w (badX ps ts)
    have hfl:AV.sl 1 ((List.range ps.length).map fun p => .sl 1 (falL ps ts p))=AV.sl 1 ((List.range ps.length).map fun p => .sl 1 ((List.range (nev ps p+1)).map fun k=>ab (badX ps ts p k))):=rfl
    rw[← hfl] at hcon
    generalize (List.range ps.length).map (fun p=>AV.sl 1 (falL ps ts p))=FL at *
    refine AWp.viewA (L:=[]) (j:=14) hA rfl ?_
    have hsml:((synL es).map aSyn).length=(synL es).length:=List.length_map _
    refine W1 hsml ?_
    refine AWp.block (AWp.loopN [14,17] [2,6] (fun m vs L=>∃(l:List Syn) (i:Int),vs=[.sl 4 (l.map aSyn),ai i]∧L=[]∧l.Sublist (synL es)∧ctlB ps l (badX ps ts)=true∧(ctlB ps [] (badX ps ts)=true→(l.length:Int)=i+1) ∧ -1≤i∧i<l.length∧m=(i+1).toNat) _ ⟨synL es,_,rfl,rfl,List.Sublist.refl _,hsct,fun _=>by omega,by omega,by omega,rfl⟩ ?_)
    rintro m vs L - ⟨l,i,rfl,rfl,hsub,hct,hnn,hi1,hi2,rfl⟩
    have hlm:(l.map aSyn).length=l.length:=List.length_map _
    have hll:l.length≤512:=Nat.le_trans hsub.length_le (by omega)
    simp only[go_sem]
    refine W1 hlm ?_
    refine⟨fun h3 => ?_,fun h3 => ?_⟩
    ·obtain⟨k,rfl⟩:∃k:Nat,i=k:=⟨i.toNat,by omega⟩
     have hkl:k<l.length:=by omega
     have hcl:l.length ≠ 0:=by omega
     obtain⟨c,hc⟩:∃c,l.length=c+1:=⟨l.length - 1,by omega⟩
     have hn:((l.length:Int) - 1).toNat=c:=by omega
     have htk:(l.take k).length=k:=by rw[List.length_take];omega
     have hmn:min k c=k:=by omega
     have hgk:((k:Int)+1).toNat=k+1:=by omega
     refine W1 hlm ?_
     intro bf
     refine W1 hlm ?_
     rw[hn,htk,hmn,List.take_take,Nat.min_self,htk,List.drop_replicate]
     refine⟨by rw[List.length_replicate];exact Nat.le_refl _,?_⟩
     have hRl:((l.take k).map aSyn ++ List.replicate (c - k) (AV.agg [AV.v (Value.int IntKind.i64 0),AV.v (Value.int IntKind.i64 0),AV.v (Value.int IntKind.i64 0),AV.v (Value.int IntKind.i64 0)])).length=c:=by rw[List.length_append,List.length_map,htk,List.length_replicate];omega
     have hRt:((l.take k).map aSyn ++ List.replicate (c - k) (AV.agg [AV.v (Value.int IntKind.i64 0),AV.v (Value.int IntKind.i64 0),AV.v (Value.int IntKind.i64 0),AV.v (Value.int IntKind.i64 0)])).take k=(l.take k).map aSyn:=List.take_left' (by rw[List.length_map,htk])
     generalize (l.take k).map aSyn ++ List.replicate (c - k) (AV.agg [AV.v (Value.int IntKind.i64 0),AV.v (Value.int IntKind.i64 0),AV.v (Value.int IntKind.i64 0),AV.v (Value.int IntKind.i64 0)])=RR at *
     refine AWp.seq ?_
     refine AWp.drawn mixed 7 (by kernel_rfl) ?_;simp only[go_sem,hlm,hRl,hRt,hgk,hc]
     refine Sd ?_
     have hd1:l.take (c+1)=l:=List.take_of_length_le (by omega)
     have hdl:(l.drop (k+1)).length=c - k:=by rw[List.length_drop];omega
     have hd2:(l.drop (k+1)).take (c - k)=l.drop (k+1):=List.take_of_length_le (by omega)
     have hd3:RR.drop (k+(c - k))=[]:=List.drop_of_length_le (by omega)
     rw[hd1,hdl,Nat.min_self,hd2,hdl,hd3,List.append_nil,← List.eraseIdx_eq_take_drop_succ]
     have hel':(l.eraseIdx k).length=c:=by rw[List.length_eraseIdx,if_pos hkl,hc];rfl
     have hsub':(l.eraseIdx k).Sublist (synL es):=(List.eraseIdx_sublist l k).trans hsub
     have hok':SynOk ps (l.eraseIdx k):=synOk_sub (fun s hs=>hsub'.subset hs) hsok
     have hW':WhlX ps (exF ps (l.eraseIdx k)):=whl_of hv hok' (rnk_sub (fun s hs=>hsub'.subset hs) hrnk) (exF_gen _ _) (exF_stop _ _)
     have hx1:=hext (l.eraseIdx k) hok' (by omega)
     have hx2:=hcon (l.eraseIdx k) hok' _ (exF_gen _ _) hW' (decide (lftX ps (exF ps (l.eraseIdx k))=0))
     have hmo:ctlB ps [] (badX ps ts)=true→ctlB ps (l.eraseIdx k) (badX ps ts)=true:=ctl_mono
     generalize l.eraseIdx k=l' at *
     obtain⟨X',hX'⟩:∃X',aOrd ps (exF ps l') (decide (lftX ps (exF ps l')=0)) = .rp 3 X' 0 0:=⟨_,rfl⟩
     rw[hX'] at hx1 hx2
     refine AWp.viewP (Lf:=[(bf,.row 77 4 (l'.map aSyn) c)]) (Lk:=[]) (L':=[]) (List.Perm.refl _) .nil [(18,.sl 4 (l'.map aSyn))] (fun z hz => ?_) ?_
     ·obtain rfl:=List.mem_singleton.1 hz
      simp only[go_sem]
      exact Vw.ofLs (t:=77) (cap:=c) (if_pos rfl) (by rw[List.length_map,hel'])
     simp only[go_sem]
     refine Wk ?_
     refine Sd ?_
     refine(hx1).val.use ?_;simp only[go_sem]
     refine Wk ?_
     refine Sd ?_
     refine(hx2).val.use ?_;simp only[go_sem]
     generalize hcc:ctlB ps l' (badX ps ts)=cc at *
     refine Wk ?_
     refine⟨fun h5 => ?_,fun h5 => ?_⟩
     ·refine Wk ?_
      exact⟨_,List.Sublist.refl _,k,by omega,l',(k:Int) - 1,rfl,rfl,hsub',by rw[hcc];exact h5,(fun h=>by have:=hnn h;omega),by omega,by omega,by omega⟩
     ·refine Wk ?_
      exact⟨_,List.Sublist.refl _,k,by omega,l,(k:Int) - 1,rfl,rfl,hsub,hct,(fun h=>absurd ((hcc ▸ hmo h:cc=true)) (by simpa using h5)),by omega,by omega,by omega⟩
    ·refine W1 hlm ?_
     refine ret_own ?_
     simp only[go_sem]
     exact⟨_,.refl _,hfinal l hsub hct fun h=>List.eq_nil_of_length_eq_zero (by have:=hnn h;omega)⟩
 ·rw[if_neg hC] at h1
  generalize hCC:conF ps ts=C at *
  refine MCalls.toS (K:=fun r L=>∃r0,Vw L r r0∧CtlA ps ts r0) ?_ (fun r L h=>h)
  refine MCalls.enter' 116 [.tmp 4,.tmp 5] [2,39,83] Proofs.Tryz.func9 rfl rfl rfl rfl rfl (by simp) (AWp.of ?_);simp only[go_sem]
  refine Wk ?_
  refine Sd ?_
  refine(h1).val.use ?_;simp only[go_sem]
  refine W1 hC ?_
  refine ret_own ?_
  simp only[go_sem]
  exact⟨.tup [.sl 4 [],ai C],.mkTup (Vws.cons (.nil 4) (Vws.refl _)),.inl ⟨by rw[hCC];exact hC,by rw[hCC]⟩⟩
section
variable {ps:List Pr} {bad:List Int→Bool} {c:List Int}
def FwdX (ps:List Pr) (bad:List Int→Bool) (c:List Int):Prop:=∃R,chnF ps (zeroC ps) R=true∧(zeroC ps :: R).getLast?=some c∧∀d ∈ zeroC ps :: R,bad d=false
theorem fwd_is (h:FwdX ps bad c):isF ps c=true:=by
 obtain⟨R,h1,h2,_⟩:=h
 exact(chn_last (zeroC_is ps) h1 h2).1
theorem fwd_bad (h:FwdX ps bad c):bad c=false:=by
 obtain⟨R,_,h2,h3⟩:=h
 exact h3 _ (List.mem_of_getLast? h2)
theorem fwd_zero (h:bad (zeroC ps)=false):FwdX ps bad (zeroC ps):=⟨[],rfl,rfl,fun d hd=>by rw[List.mem_singleton] at hd;rw[hd];exact h⟩
theorem fwd_step (h:FwdX ps bad c) {p:Nat} (hp:p<ps.length) (hr:rdyF ps c p=true) (hb:bad (stpC c p)=false):FwdX ps bad (stpC c p):=by
 have hc:=fwd_is h
 obtain⟨R,h1,h2,h3⟩:=h
 refine⟨R ++ [stpC c p],chn_app h2 h1 ((chn_cons hc).2 ⟨p,hp,hr,rfl,stepF_iff.2 ⟨by rw[(isF_iff.1 hc).1];exact hp,rfl⟩,rfl⟩),?_,fun d hd => ?_⟩
 ·rw[← List.cons_append,List.getLast?_append];rfl
 ·rw[← List.cons_append,List.mem_append] at hd
  rcases hd with hd|hd
  ·exact h3 d hd
  ·rw[List.mem_singleton] at hd;rw[hd];exact hb
theorem chn_snoc:∀ {R:List (List Int)} {a b:List Int},isF ps a=true→chnF ps a (R ++ [b])=true→chnF ps a R=true∧∃d,(a :: R).getLast?=some d∧∃q:Nat,q<ps.length∧rdyF ps d q=true∧b=stpC d q
 | [],a,b,ha,h=>by
  obtain⟨q,h1,h2,h3,_,_⟩:=(chn_cons ha).1 h
  exact⟨rfl,a,rfl,q,h1,h2,h3⟩
 | e :: R,a,b,ha,h=>by
  obtain⟨q,h1,h2,rfl,h4,h5⟩:=(chn_cons ha).1 (show chnF ps a (e :: (R ++ [b]))=true from h)
  obtain⟨i1,d,i2,i3⟩:=chn_snoc (rdy_is h2) h5
  exact⟨(chn_cons ha).2 ⟨q,h1,h2,rfl,h4,i1⟩,d,by rw[List.getLast?_cons_cons];exact i2,i3⟩
theorem fwd_inv (h:FwdX ps bad c):c=zeroC ps∨∃(p:Nat) (d:List Int),p<ps.length∧FwdX ps bad d∧rdyF ps d p=true∧c=stpC d p:=by
 obtain⟨R,h1,h2,h3⟩:=h
 by_cases hR:R=[]
 ·subst hR
  left
  exact(Option.some.inj h2).symm
 ·right
  have hRc:=List.dropLast_concat_getLast hR
  generalize R.dropLast=R' at *
  generalize R.getLast hR=b at *
  subst hRc
  obtain⟨g1,d,g2,q,g3,g4,g5⟩:=chn_snoc (zeroC_is ps) h1
  have hbc:b=c:=by
   rw[← List.cons_append,List.getLast?_append] at h2
   exact Option.some.inj h2
  subst hbc
  exact⟨q,d,g3,⟨R',g1,g2,fun x hx=>h3 x (by rw[← List.cons_append];exact List.mem_append_left _ hx)⟩,g4,g5⟩
def preC (c:List Int) (p:Nat):List Int:=c.set p (cAt c p - 1)
theorem pre_stp {p:Nat} (hp:p<c.length):preC (stpC c p) p=c:=by
 unfold preC
 rw[cAt_stp hp,if_pos rfl]
 unfold stpC
 rw[List.set_set,show cAt c p+1 - 1=cAt c p by omega,cAt_nat hp,List.set_getElem_self]
theorem stp_pre {p:Nat} (hp:p<c.length):stpC (preC c p) p=c:=by
 have h:cAt (preC c p) p=cAt c p - 1:=by
  unfold preC
  rw[cAt_nat (by rw[List.length_set];exact hp),List.getElem_set_self]
 unfold stpC
 rw[h]
 unfold preC
 rw[List.set_set,show cAt c p - 1+1=cAt c p by omega,cAt_nat hp,List.set_getElem_self]
theorem cuts_zero:∃r,cutsF ps=zeroC ps :: r:=by
 unfold cutsF cumF
 rw[List.range_succ_eq_map,List.flatMap_cons]
 exact⟨_,rfl⟩
theorem cuts_take (hv:validF ps=true) {d:List Int} (hd:isF ps d=true) {i:Nat} (hi:i<(cutsF ps).length) (hs:d.sum<((cutsF ps)[i]).sum):d ∈ (cutsF ps).take i:=by
 obtain⟨j,hj,rfl⟩:=List.getElem_of_mem ((mem_cutsF hv).2 hd)
 by_cases h:j<i
 ·exact List.mem_take_iff_getElem.2 ⟨j,by omega,rfl⟩
 ·exfalso
  by_cases e:j=i
  ·subst e;omega
  ·have:=List.pairwise_iff_getElem.1 (cuts_ord hv) i j hi hj (by omega)
   rcases this with h|h <;> omega
open Classical in
noncomputable def opnL (ps:List Pr) (bad:List Int→Bool) (cs:List (List Int)):List (List Int):=cs.filter fun c=>decide (FwdX ps bad c)
open Classical in
theorem mem_opn {cs:List (List Int)} : c ∈ opnL ps bad cs↔c ∈ cs∧FwdX ps bad c:=by
 unfold opnL
 rw[List.mem_filter,decide_eq_true_iff]
theorem fwd_reach (hv:validF ps=true) {i:Nat} (hi:i<(cutsF ps).length) (hb:bad (cutsF ps)[i]=false) :
  FwdX ps bad (cutsF ps)[i]↔i=0∨∃p,p<ps.length∧preC (cutsF ps)[i] p ∈ opnL ps bad ((cutsF ps).take i):=by
 obtain⟨r,hr⟩:=cuts_zero (ps:=ps)
 have h0:0<(cutsF ps).length:=by omega
 have hz:(cutsF ps)[0]=zeroC ps:=by simp only[hr,List.getElem_cons_zero]
 have hc:=(mem_cutsF hv).1 (List.getElem_mem hi)
 constructor
 ·intro h
  rcases fwd_inv h with e|⟨p,d,hp,hd,hr,e⟩
  ·left
   refine Classical.byContradiction fun hne => ?_
   have:=List.pairwise_iff_getElem.1 (cuts_ord hv) 0 i h0 hi (by omega)
   rw[hz,e] at this
   exact ordL_irr this
  ·right
   have hdi:=fwd_is hd
   have hl:p<d.length:=by rw[(isF_iff.1 hdi).1];exact hp
   refine⟨p,hp,?_⟩
   rw[mem_opn,e,pre_stp hl]
   exact⟨cuts_take hv hdi hi (by rw[e,sum_stpC hl];omega),hd⟩
 ·rintro(rfl|⟨p,hp,h⟩)
  ·rw[hz] at hb ⊢
   exact fwd_zero hb
  ·have hl:p<((cutsF ps)[i]).length:=by rw[(isF_iff.1 hc).1];exact hp
   have hst:=stp_pre hl
   have hF:=(mem_opn.1 h).2
   have hrng:=cut_at hc hp
   have hat:cAt (preC (cutsF ps)[i] p) p=cAt (cutsF ps)[i] p - 1:=by
    unfold preC
    rw[cAt_nat (by rw[List.length_set];exact hl),List.getElem_set_self]
   have:=fwd_step hF hp (by unfold rdyF;rw[hst,hat];exact decide_eq_true ⟨by omega,hc⟩) (by rw[hst];exact hb)
   rwa [hst] at this
theorem opn_succ {cs:List (List Int)} {i:Nat} (hi:i<cs.length):opnL ps bad (cs.take (i+1))=opnL ps bad (cs.take i) ++ opnL ps bad [cs[i]]:=by
 unfold opnL
 rw[List.take_succ_eq_append_getElem hi,List.filter_append]
open Classical in
theorem opn_yes (h:FwdX ps bad c):opnL ps bad [c]=[c]:=by
 unfold opnL
 rw[List.filter_cons,if_pos (by exact decide_eq_true h)];rfl
open Classical in
theorem opn_no (h:¬FwdX ps bad c):opnL ps bad [c]=[]:=by
 unfold opnL
 rw[List.filter_cons,if_neg (by simpa using h)];rfl
theorem cuts_last (hv:validF ps=true):∃r,cutsF ps=r ++ [fullC ps]:=by
 have hf:=(mem_cutsF hv).2 (fullC_is hv)
 have hne:cutsF ps ≠ []:=fun h=>by rw[h] at hf;cases hf
 obtain⟨j,hj,hje⟩:=List.getElem_of_mem hf
 have hl:(cutsF ps).getLast hne=fullC ps:=by
  rw[List.getLast_eq_getElem]
  by_cases e:j=(cutsF ps).length - 1
  ·subst e;exact hje
  ·have h1:=List.pairwise_iff_getElem.1 (cuts_ord hv) j ((cutsF ps).length - 1) hj (by omega) (by omega)
   have h2:=(mem_cutsF hv).1 (List.getElem_mem (show (cutsF ps).length - 1<(cutsF ps).length by omega))
   have h3:=sum_le_off h2
   rw[hje] at h1
   refine(full_of_sum h2).2 ?_
   rcases h1 with h1|h1 <;> rw[fullC_sum] at h1 <;> omega
 exact⟨(cutsF ps).dropLast,by rw[← hl,List.dropLast_concat_getLast]⟩
theorem opn_end (hv:validF ps=true):(opnL ps bad (cutsF ps)).getLast?=some (fullC ps)↔FwdX ps bad (fullC ps):=by
 constructor
 ·intro h
  exact(mem_opn.1 (List.mem_of_getLast? h)).2
 ·intro h
  obtain⟨r,hr⟩:=cuts_last hv
  have:opnL ps bad (cutsF ps)=opnL ps bad r ++ opnL ps bad [fullC ps]:=by
   rw[hr];unfold opnL;rw[List.filter_append]
  rw[this,opn_yes h,List.getLast?_append];rfl
end
section
variable {ps:List Pr} {b:Nat→Nat→Bool}
def bdA (ps:List Pr) (b:Nat→Nat→Bool) (c:List Int):Bool:=(List.range ps.length).all fun p=>b p (cAt c p).toNat
theorem bdA_false {c:List Int} : bdA ps b c=false↔AvoidC ps b c:=by
 unfold bdA AvoidC
 rw[List.all_eq_false]
 constructor
 ·rintro⟨p,hp,h⟩
  exact⟨p,List.mem_range.1 hp,by simpa using h⟩
 ·rintro⟨p,hp,h⟩
  exact⟨p,List.mem_range.2 hp,by simpa using h⟩
theorem bdA_true {c:List Int} : bdA ps b c=true↔∀p,p<ps.length→b p (cAt c p).toNat=true:=by
 unfold bdA
 rw[List.all_eq_true]
 exact⟨fun h p hp=>h p (List.mem_range.2 hp),fun h p hp=>h p (List.mem_range.1 hp)⟩
theorem fwd_dodge:FwdX ps (bdA ps b) (fullC ps)↔∃O,DodgeR ps b O:=by
 constructor
 ·rintro⟨R,h1,h2,h3⟩
  exact⟨zeroC ps :: R,isrun_mk h1 h2,fun d hd=>bdA_false.1 (h3 d hd)⟩
 ·rintro⟨O,hO⟩
  have hav:=hO.av
  obtain⟨R,rfl,h1,h2⟩:=isrun_inv hO.run
  exact⟨R,h1,h2,fun d hd=>bdA_false.2 (hav d hd)⟩
theorem tgt_no (hv:validF ps=true) {rows:Nat→List Stp} (hR:RowsOk ps b rows) {a:Nat→Nat} (ha:TgtS ps rows a):¬ ∃O,DodgeR ps b O:=by
 rintro⟨O,hO⟩
 have hel:∀p (hp:p<ps.length),_:=fun p hp=>(hR p hp).el _ (List.getElem_mem (ha.1 p hp))
 have hT:TgB ps fun p=>fSp rows p (a p):=by
  refine⟨fun p hp => ?_,fun p q hp hq hpq=>ha.2 p q hp hq hpq⟩
  have h1:a p<(rows p).length:=ha.1 p hp
  show (fSp rows p (a p)).2.1≤_∧_
  rw[fSp_eq h1]
  obtain⟨e1,e2,e3,_⟩:=hel p hp
  exact⟨by omega,by omega,e1⟩
 have h1:=tgb_blocks hv hT (bad:=bdA ps b) fun c hc hi=>bdA_true.2 fun p hp=>by
  have h1:a p<(rows p).length:=ha.1 p hp
  have h2:=hi p hp
  simp only[fSp_eq h1] at h2
  exact(hel p hp).2.2.2 _ (by omega) (by omega)
 have h2:=dodge_opn hO (bad:=bdA ps b) fun d _ h=>bdA_false.2 h
 rw[h1] at h2
 cases h2
theorem ctl_none (hv:validF ps=true):ctlB ps [] b=true↔∀c ∈ cutsF ps,bdA ps b c=false:=by
 rw[ctlB_true]
 constructor
 ·intro h c hc
  cases hb:bdA ps b c with
  | false=>rfl
  | true =>
   exfalso
   have hc:=(mem_cutsF hv).1 hc
   have hg:∀n:Nat,cAt c (n:Nat)=c.getD n 0:=fun n=>by unfold cAt;rw[Int.toNat_natCast]
   refine h ⟨fun p=>(cAt c p).toNat,fun p hp => ?_,bdA_true.1 hb,fun a ha i hi hia y hy => ?_⟩
   ·have:=cut_at hc hp
    omega
   ·have hia:i+1≤(cAt c (a:Nat)).toNat:=hia
    have h1:=CloX.of_isF hv hc a ha i hi (by show (i:Int)+1≤c.getD a 0;rw[← hg];omega) y hy
    have goal:y.2≤cAt c (y.1.toNat:Nat):=by rw[hg];exact h1
    exact Int.le_trans goal (Int.self_le_toNat _)
 ·rintro h ⟨d,hd⟩
  have hg:∀p,p<ps.length→((List.range ps.length).map fun p=>(d p:Int)).getD p 0=d p:=fun p hp=>by
   rw[List.getD_eq_getElem?_getD,List.getElem?_map,List.getElem?_range hp];rfl
  have hlen:((List.range ps.length).map fun p=>(d p:Int)).length=ps.length:=by simp
  have hca:∀p:Nat,p<ps.length→cAt ((List.range ps.length).map fun p=>(d p:Int)) p=d p:=fun p hp=>by
   unfold cAt;rw[Int.toNat_natCast,hg p hp]
  have hc:isF ps ((List.range ps.length).map fun p=>(d p:Int))=true:=by
   refine isF_of_CloX (l:=[]) hlen ((inRange_iff hlen).2 fun q hq => ?_) fun a ha i hi hia y hy => ?_
   ·have:=hd.rng q hq
    rw[nev_get hq] at this
    rw[hca q hq];omega
   ·have hia:(i:Int)+1≤((List.range ps.length).map fun p=>(d p:Int)).getD a 0:=hia
    rw[hg a ha] at hia
    have h1:=hd.clo a ha i hi (by omega) y hy
    obtain⟨y1,y2,y3,y4⟩:=dirX_ev hv (synOk_nil ps) ha hi y hy
    show y.2≤((List.range ps.length).map fun p=>(d p:Int)).getD y.1.toNat 0
    rw[hg _ (by omega)]
    exact h1
  have h1:=h _ ((mem_cutsF hv).2 hc)
  rw[bdA_true.2 fun p hp=>by rw[hca p hp,Int.toNat_natCast];exact hd.bad p hp] at h1
  cases h1
end
def badSy (ps:List Pr) (s:Syn):Bool:=!eidOk ps s.1 || !eidOk ps s.2
theorem syn_bad {ps:List Pr} {l:List Syn} : l.any (badSy ps)=false↔SynOk ps l:=by
 have he:∀x:Eid,eidOk ps x=true↔0≤x.1∧x.1<ps.length∧1≤x.2∧x.2≤nev ps x.1.toNat:=fun x=>by
  unfold eidOk
  simp only[Bool.and_eq_true,decide_eq_true_eq]
 rw[List.any_eq_false]
 constructor
 ·intro h s hs
  have:=h s hs
  unfold badSy at this
  rw[Bool.not_eq_true,Bool.or_eq_false_iff,Bool.not_eq_false',Bool.not_eq_false'] at this
  exact⟨(he _).1 this.1,(he _).1 this.2⟩
 ·intro h s hs
  obtain⟨h1,h2⟩:=h s hs
  unfold badSy
  rw[(he _).2 h1,(he _).2 h2];simp
noncomputable def syE (ps:List Pr) (l:List Syn):Int:=if 1000<l.length then 5 else if l.any (badSy ps)=true then 2 else if lftX ps (exF ps l)=0 then 0 else 10
def psE:List Pr:=[⟨⟨#[97]⟩,[],[⟨1,0,0,0,[]⟩,⟨1,0,0,0,[]⟩]⟩,⟨⟨#[98]⟩,[],[⟨1,0,0,0,[]⟩,⟨1,0,0,0,[]⟩]⟩]
def notE (p:Int):Pd:=.mk 10 0 0 0 ByteArray.empty [.mk 3 0 p 0 ByteArray.empty [],.mk 1 1 0 0 ByteArray.empty []]
def tsE:List Pd:=[notE 0,notE 1]
theorem psE_valid:validF psE=true:=by
 unfold validF faultF
 rw[if_neg (by decide),show procFirst psE=none from rfl,show evFirst psE=none from rfl,show msgF psE=none from rfl,cycF_rank (fun x=>x.2) (by decide)]
 rfl
theorem psE_sm:Sm psE:=⟨by decide,by decide,by decide,by decide⟩
theorem lclE {p:Int} {t:Pd} (h1:formedB t=true) (h2:allB (resB psE) t=true) (h3:typedB t=true) (h4:fitB psE t=true) (h5:0≤p∧p<2) (h7:¬t.kind≤8) (h8:allB (lclB p) t=true):lclF psE p 0 t=0:=by
 have hc:checkF psE t=0:=by
  unfold checkF
  rw[psE_valid,h1,h2,h3,h4];rfl
 have hn:0≤evN psE p:=by
  unfold evN;split <;> omega
 have hl:(psE.length:Int)=2:=rfl
 unfold lclF
 rw[hc,if_neg (by decide),if_neg (by omega),if_neg h7,h8];rfl
theorem conF_E:conF psE tsE=0:=conF_zero ⟨psE_valid,rfl⟩ fun q hq=>by
 have hq:q<2:=hq
 rcases q with _|_|q
 ·exact lclE rfl rfl rfl rfl (by decide) (show ¬(_:Int)≤8 from by simp [tsE,notE,Pd.kind]) rfl
 ·exact lclE rfl rfl rfl rfl (by decide) (show ¬(_:Int)≤8 from by simp [tsE,notE,Pd.kind]) rfl
 ·omega
theorem bad_E:badX psE tsE 0 1=true∧badX psE tsE 1 1=true:=⟨rfl,rfl⟩
theorem ctl_E:ctlB psE [] (badX psE tsE)=false:=by
 cases h:ctlB psE [] (badX psE tsE) with
 | false=>rfl
 | true =>
  refine absurd ⟨fun _=>1,fun p hp => ?_,fun p hp => ?_,fun a ha i hi hd y hy => ?_⟩ (ctlB_true.1 h)
  ·have hp:p<2:=hp
   rcases p with _|_|p
   ·decide
   ·decide
   ·omega
  ·have hp:p<2:=hp
   rcases p with _|_|p
   ·exact bad_E.1
   ·exact bad_E.2
   ·omega
  ·have hi0:i=0:=by omega
   subst hi0
   have ha:a<2:=ha
   rcases a with _|_|a
   ·have:dirX psE [] 0 0=[]:=rfl
    rw[this] at hy;cases hy
   ·have:dirX psE [] 1 0=[]:=rfl
    rw[this] at hy;cases hy
   ·omega
theorem stepE {c:List Int} {R:List (List Int)} (hc:isF psE c=true) (h:chnF psE c R=true):R=[]∨∃q R',(q=0∨q=1)∧rdyF psE c q=true∧R=stpC c q :: R'∧isF psE (stpC c q)=true∧chnF psE (stpC c q) R'=true:=by
 cases R with
 | nil=>exact .inl rfl
 | cons b R =>
  obtain⟨q,q1,q2,rfl,_,q5⟩:=(chn_cons hc).1 h
  have q1:q<2:=q1
  exact .inr ⟨q,R,by omega,q2,rfl,rdy_is q2,q5⟩
theorem runs_E {R:List (List Int)} (hD:DodgeR psE (badX psE tsE) (zeroC psE :: R)):synL (evtG (zeroC psE) R)=[(((0,2):Eid),((1,1):Eid))]∨synL (evtG (zeroC psE) R)=[(((1,2):Eid),((0,1):Eid))]:=by
 obtain⟨R0,hR0,h,hl⟩:=isrun_inv hD.run
 have:R=R0:=by injection hR0
 subst this
 have hav:=hD.av
 have hbad:[(1:Int),1] ∈ zeroC psE :: R→False:=fun hm=>by
  obtain⟨p,hp,hb⟩:=hav _ hm
  have hp:p<2:=hp
  rcases p with _|_|p
  ·have:badX psE tsE 0 1=false:=hb
   rw[bad_E.1] at this;cases this
  ·have:badX psE tsE 1 1=false:=hb
   rw[bad_E.2] at this;cases this
  ·omega
 clear hD hav
 have hz:zeroC psE=[0,0]:=rfl
 have hf:fullC psE=[2,2]:=rfl
 have e0:isF psE [0,0]=true:=by rw[← hz];exact zeroC_is psE
 rw[hz,hf] at *
 have n1:rdyF psE [2,0] 0=false:=by decide
 have n2:rdyF psE [2,1] 0=false:=by decide
 have n3:rdyF psE [2,2] 0=false:=by decide
 have n4:rdyF psE [2,2] 1=false:=by decide
 have n5:rdyF psE [0,2] 1=false:=by decide
 have n6:rdyF psE [1,2] 1=false:=by decide
 rcases stepE e0 h with rfl|⟨q,R1,hq,hr,rfl,f1,h1⟩
 ·exact absurd (Option.some.inj hl) (by decide)
 rcases hq with rfl|rfl
 ·skip
  rcases stepE f1 h1 with rfl|⟨q,R2,hq,hr,rfl,f2,h2⟩
  ·exact absurd (Option.some.inj hl) (by decide)
  rcases hq with rfl|rfl
  ·skip
   rcases stepE f2 h2 with rfl|⟨q,R3,hq,hr,rfl,f3,h3⟩
   ·exact absurd (Option.some.inj hl) (by decide)
   rcases hq with rfl|rfl
   ·exact absurd (n1.symm.trans hr) (by decide)
   ·skip
    rcases stepE f3 h3 with rfl|⟨q,R4,hq,hr,rfl,f4,h4⟩
    ·exact absurd (Option.some.inj hl) (by decide)
    rcases hq with rfl|rfl
    ·exact absurd (n2.symm.trans hr) (by decide)
    ·skip
     rcases stepE f4 h4 with rfl|⟨q,R5,hq,hr,rfl,_,_⟩
     ·exact .inl rfl
     ·rcases hq with rfl|rfl
      ·exact absurd (n3.symm.trans hr) (by decide)
      ·exact absurd (n4.symm.trans hr) (by decide)
  ·exact(hbad (List.mem_cons_of_mem _ (List.mem_cons_of_mem _ List.mem_cons_self))).elim
 ·skip
  rcases stepE f1 h1 with rfl|⟨q,R2,hq,hr,rfl,f2,h2⟩
  ·exact absurd (Option.some.inj hl) (by decide)
  rcases hq with rfl|rfl
  ·exact(hbad (List.mem_cons_of_mem _ (List.mem_cons_of_mem _ List.mem_cons_self))).elim
  ·skip
   rcases stepE f2 h2 with rfl|⟨q,R3,hq,hr,rfl,f3,h3⟩
   ·exact absurd (Option.some.inj hl) (by decide)
   rcases hq with rfl|rfl
   ·skip
    rcases stepE f3 h3 with rfl|⟨q,R4,hq,hr,rfl,f4,h4⟩
    ·exact absurd (Option.some.inj hl) (by decide)
    rcases hq with rfl|rfl
    ·skip
     rcases stepE f4 h4 with rfl|⟨q,R5,hq,hr,rfl,_,_⟩
     ·exact .inr rfl
     ·rcases hq with rfl|rfl
      ·exact absurd (n3.symm.trans hr) (by decide)
      ·exact absurd (n4.symm.trans hr) (by decide)
    ·exact absurd (n6.symm.trans hr) (by decide)
   ·exact absurd (n5.symm.trans hr) (by decide)
theorem one_E {R:List (List Int)} {l:List Syn} (hD:DodgeR psE (badX psE tsE) (zeroC psE :: R)) (hs:l.Sublist (synL (evtG (zeroC psE) R))) (hc:ctlB psE l (badX psE tsE)=true):l=[(((0,2):Eid),((1,1):Eid))]∨l=[(((1,2):Eid),((0,1):Eid))]:=by
 have hne:l ≠ []:=fun e=>by rw[e,ctl_E] at hc;cases hc
 rcases runs_E hD with e|e
 ·rw[e] at hs
  left
  cases hs with
  | cons _ h=>cases h;exact absurd rfl hne
  | cons_cons _ h=>cases h;rfl
 ·rw[e] at hs
  right
  cases hs with
  | cons _ h=>cases h;exact absurd rfl hne
  | cons_cons _ h=>cases h;rfl
end Go.AL
end
