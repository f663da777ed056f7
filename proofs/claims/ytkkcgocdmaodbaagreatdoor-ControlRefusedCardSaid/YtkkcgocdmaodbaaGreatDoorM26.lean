/- Texts of this claim's proof: WY16, WY39, WZ9, WZ10. No condition. -/
import Derived.Test.YtkkcgocdmaodbaaGreatDoorM23
import Derived.Test.YtkkcgocdmaodbaaGreatDoorM25
import Derived.Test.YtkkcgocdmaodbaaGreatDoorM19
import Derived.Test.YtkkcgocdmaodbaaGreatDoorM21
import Derived.Test.YtkkcgocdmaodbaaGreatDoorM14
import Derived.Test.YtkkcgocdmaodbaaGreatDoorM20
section
namespace Go.AL
open Go Go.RowKit
set_option maxRecDepth 4000
theorem synL_snoc (x y:Eid):∀l:List Eid,synL (l ++ [x,y])=synL (l ++ [x]) ++ if x.1 ≠ y.1 then [(x,y)] else []
 | []=>by
  show (if x.1 ≠ y.1 then [(x,y)] else []) ++ synL [y]=[] ++ _
  simp [synL]
 | [a]=>by
  show (if a.1 ≠ x.1 then [(a,x)] else []) ++ synL ([] ++ [x,y])=((if a.1 ≠ x.1 then [(a,x)] else []) ++ synL ([] ++ [x])) ++ _
  rw[synL_snoc x y [],List.append_assoc]
 | a :: b :: l=>by
  show (if a.1 ≠ b.1 then [(a,b)] else []) ++ synL ((b :: l) ++ [x,y])=((if a.1 ≠ b.1 then [(a,b)] else []) ++ synL ((b :: l) ++ [x])) ++ _
  rw[synL_snoc x y (b :: l),List.append_assoc]
theorem synL_take {es:List Eid} {i:Nat} (h1:1≤i) (h2:i<es.length):synL (es.take (i+1))=synL (es.take i) ++ if (es[i - 1]).1 ≠ (es[i]).1 then [(es[i - 1],es[i])] else []:=by
 obtain⟨k,rfl⟩:∃k,i=k+1:=⟨i - 1,by omega⟩
 have e1:es.take (k+1+1)=es.take k ++ [es[k],es[k+1]]:=by
  rw[List.take_succ_eq_append_getElem h2,List.take_succ_eq_append_getElem (by omega),List.append_assoc];rfl
 have e2:es.take (k+1)=es.take k ++ [es[k]]:=List.take_succ_eq_append_getElem (by omega)
 rw[e1,e2,synL_snoc];rfl
theorem synL_takeO {es:List Eid} {i:Nat} (h1:1≤i) {x y:Eid} (hx:es[i - 1]?=some x) (hy:es[i]?=some y):synL (es.take (i+1))=synL (es.take i) ++ if x.1 ≠ y.1 then [(x,y)] else []:=by
 obtain⟨h3,rfl⟩:=List.getElem?_eq_some_iff.1 hx
 obtain⟨h4,rfl⟩:=List.getElem?_eq_some_iff.1 hy
 exact synL_take h1 h4
theorem synL_one {es:List Eid} : synL (es.take 1)=[]:=by
 cases es with
 | nil=>rfl
 | cons a l=>rfl
theorem synL_len:∀es:List Eid,(synL es).length≤es.length
 | []=>by simp [synL]
 | [a]=>by simp [synL]
 | a :: b :: l=>by
  have:=synL_len (b :: l)
  show ((if a.1 ≠ b.1 then [(a,b)] else []) ++ synL (b :: l)).length≤_
  rw[List.length_append]
  split <;> simp only[List.length_cons,List.length_nil] at this ⊢ <;> omega
theorem rowsX_ok (ps:List Pr) (ts:List Pd):RowsOk ps (badX ps ts) (rowsX ps ts):=fun p _=>spL_ok _ p _
theorem rowsX_len (ps:List Pr) (_hs:Sm ps) (hv:validF ps=true) (ts:List Pd):∀p,p<ps.length→(rowsX ps ts p).length≤1000000:=fun p hp=>by
 have h1:=spL_len (b:=badX ps ts p) (p:=p) (nev ps p+1)
 have h2:=valid_off hv
 have h3:=off_le hp
 have h5:=nev_get hp
 unfold rowsX
 omega
theorem PC.nilB {P:Program} {f:FuncId} {a r:AV} {k:Nat} (h:PC P f [a,.sl k []] r):PC P f [a,anil] r:=⟨h.1,fun n w A vs hL hr=>by
 obtain⟨u,us',rfl,h1,h2⟩:=hr.inv_cons
 obtain⟨u2,us2,rfl,h3,h4⟩:=h2.inv_cons
 obtain rfl:=h4.inv_nil
 cases h3
 exact h.2 n w A _ hL (.cons h1 (.cons (.sl0 k none 0 (by decide)) .nil))⟩
theorem ctl_mono {ps:List Pr} {l:List Syn} {bad:Nat→Nat→Bool} (h:ctlB ps [] bad=true):ctlB ps l bad=true:=by
 rw[ctlB_true] at h ⊢
 rintro⟨d,hd⟩
 refine h ⟨d,hd.rng,hd.bad,fun a ha i hi hia y hy=>hd.clo a ha i hi hia y ?_⟩
 unfold dirX at hy ⊢
 rcases List.mem_append.1 hy with hy|hy
 ·exact List.mem_append_left _ hy
 ·obtain⟨s,h1,_⟩:=List.mem_map.1 hy
  exact absurd (List.mem_filter.1 h1).1 (List.not_mem_nil)
def CtlA (ps:List Pr) (ts:List Pd) (r:AV):Prop :=
 (conF ps ts ≠ 0∧r = .tup [.sl 4 [],ai (conF ps ts)])∨(conF ps ts=0∧(∃t,TgtS ps (rowsX ps ts) t)∧r = .tup [.sl 4 [],ai 7]) ∨
 (conF ps ts=0∧(¬ ∃t,TgtS ps (rowsX ps ts) t)∧∃(R:List (List Int)) (l:List Syn),DodgeR ps (badX ps ts) (zeroC ps :: R)∧l.Sublist (synL (evtG (zeroC ps) R))∧ctlB ps l (badX ps ts)=true∧(ctlB ps [] (badX ps ts)=true→l=[])∧r = .tup [.sl 4 (l.map aSyn),ai 0])
set_option maxHeartbeats 2000000 in
theorem control_Control (ps:List Pr) (hs:Sm ps) (ts:List Pd) (hz:∀t ∈ ts,szF t≤1000000) (htl:ts.length≤1000000) :
  MCalls Proofs.Tryz.prog 9 [aTr ps,.sl 6 (ts.map aPd)] [] fun r L=>L=[]∧CtlA ps ts r:=by
 have h1:=control_falsehoods ps hs ts hz htl
 have hps:=hs.procs
 by_cases hC:conF ps ts=0
 ·rw[if_pos hC] at h1
  obtain⟨hv,hlen,_⟩:=conF_inv hC
  have hR:=rowsX_ok ps ts
  have hRl:=rowsX_len ps hs hv ts
  have hti:=order_tight ps hs hv (decide (lftX ps (exF ps [])=0)) hR hRl
  have hdo:=order_dodge ps hs hv (decide (lftX ps (exF ps [])=0)) hR hRl
  have hex0:=control_extended ps hs hv [] (synOk_nil ps) (by simp)
  have hst:=fun p=>control_stretches (badX ps ts p) p (nev ps p+1)
  have hnb:=fun p (hp:p<ps.length)=>show nev ps p≤1000000 by rw[nev_get hp];exact hs.evs _ (List.getElem_mem hp)
  have hss:aStss ((List.range ps.length).map (rowsX ps ts))=aRowsX ps ts:=by unfold aStss aRowsX;rw[List.map_map];rfl
  rw[hss] at hti hdo
  obtain⟨X,hX⟩:∃X,aOrd ps (exF ps []) (decide (lftX ps (exF ps [])=0)) = .rp 3 X 0 0:=⟨_,rfl⟩
  rw[hX] at hti hdo hex0
  unfold falT at h1
  unfold aRowsX at hti hdo
  refine MCalls.toS (K:=fun r L=>∃r0,Vw L r r0∧CtlA ps ts r0) ?_ (fun r L h=>h)
  refine MCalls.enter' 116 [.tmp 4,.tmp 5] [2,39,83] Proofs.Tryz.func9 rfl rfl rfl rfl rfl (by simp) (AWp.of ?_);simp only[go_sem]
  refine Wk ?_
  refine Sd ?_
  refine(h1).val.use ?_;simp only[go_sem]
  repeat(first|((with_reducible refine AWp.ofC ?_ ?_);exact rfl;simp only[go_sem,List.length_range])|((with_reducible refine an ?_ ?_);exact Au))
  refine AWp.range' ps.length [8] [2,6,28,29] (fun p vs L=>∃v,vs=[v]∧AppSt 49 1 ((List.range p).map fun p => .sl 3 ((rowsX ps ts p).map aStp)) v L) (by omega) rfl rfl rfl ⟨anil,rfl,.nil⟩ ?_ ?_
  ·rintro p vs L hp - ⟨v,rfl,hA⟩
   have hg:((List.range ps.length).map fun p=>AV.sl 1 (falL ps ts p)).getD p .any = .sl 1 (falL ps ts p):=map_range_getD hp _
   have h2:=hst p (by have:=hnb p hp;omega)
   have hyl:((List.range p).map fun p=>AV.sl 3 ((rowsX ps ts p).map aStp)).length=p:=by simp
   have hys:((List.range (p+1)).map fun p=>AV.sl 3 ((rowsX ps ts p).map aStp))=((List.range p).map fun p=>AV.sl 3 ((rowsX ps ts p).map aStp)) ++ [.sl 3 ((rowsX ps ts p).map aStp)]:=by rw[List.range_succ,List.map_append];rfl
   rw[hys]
   change PC _ _ [_,.sl 1 (falL ps ts p)] (.sl 3 ((rowsX ps ts p).map aStp)) at h2
   clear hys hti hdo hss
   generalize (List.range p).map (fun p=>AV.sl 3 ((rowsX ps ts p).map aStp))=ys at *
   generalize (rowsX ps ts p).map aStp=row at *
   generalize falL ps ts p=fl at *
   rcases hA.inv with ⟨e1,rfl,rfl⟩|⟨bq,cq,rfl,rfl⟩
   ·simp only[go_sem]
    refine W1 hg ?_
    refine Sd ?_
    refine AWp.of ?_;simp only[go_sem]
    refine Sd ?_
    refine(h2).val.use ?_;simp only[go_sem]
    refine W1 hg ?_
    intro b' cap' g8
    refine Wk ?_
    exact⟨_,List.Sublist.refl _,_,rfl,by rw[e1];exact .row _ _ _⟩
   ·simp only[go_sem]
    refine W1 hg ?_
    refine Sd ?_
    refine AWp.of ?_;simp only[go_sem]
    refine Sd ?_
    refine(h2).val.use ?_;simp only[go_sem]
    refine W1 hg ?_
    refine Sd ?_
    intro b' cap' g8
    refine Wk ?_
    exact⟨_,List.Sublist.refl _,_,rfl,AppSt.snoc _ _ _ rfl⟩
  ·rintro vs L - ⟨v,rfl,hA⟩
   refine AWp.viewA (L:=[]) (j:=8) hA rfl ?_
   generalize (List.range ps.length).map (fun p=>AV.sl 3 ((rowsX ps ts p).map aStp))=RW at *
   have hex1:PC Proofs.Tryz.prog 33 [aTr ps,anil] (.rp 3 X 0 0):=PC.nilB (k:=4) hex0
   simp only[go_sem]
   refine Wk ?_
   refine Sd ?_
   refine(hex1).val.use ?_;simp only[go_sem]
   refine Wk ?_
   by_cases hT:∃t,TgtS ps (rowsX ps ts) t
   ·obtain⟨a,ha⟩:=least_ex hR hT
    rw[aTgt_some ha] at hti
    refine Sd ?_
    refine(hti).val.use ?_;simp only[go_sem]
    refine Wk ?_
    refine ret_own ?_
    simp only[go_sem]
    exact⟨.tup [.sl 4 [],ai 7],.mkTup (Vws.cons (.nil 4) (Vws.refl _)),.inr (.inl ⟨hC,hT,rfl⟩)⟩
   have hdo:=hdo hT
   rw[aTgt_none hT] at hti
   refine Sd ?_
   refine(hti).val.use ?_;simp only[go_sem]
   refine Wk ?_
   refine hdo.val.mono ?_
   rintro r L ⟨rfl,R,hD,rfl⟩
   obtain⟨R',hR',hch,hla⟩:=isrun_inv hD.run
   obtain rfl:R=R':=by injection hR'
   have hlR:=evtG_len R (zeroC ps)
   have hoff:=valid_off hv
   have hsum:=(chn_last (zeroC_is ps) hch hla).2
   have hz0:(zeroC ps).sum=0:=by unfold zeroC;simp
   rw[fullC_sum,hz0] at hsum
   have hsok:=syn_ok hch
   have hsct:=syn_ctl hD
   have hrnk:=syn_rnk hv hch hla
   clear hch hla hR'
   have hfinal:∀l:List Syn,l.Sublist (synL (evtG (zeroC ps) R))→ctlB ps l (badX ps ts)=true→(ctlB ps [] (badX ps ts)=true→l=[])→CtlA ps ts (.tup [.sl 4 (l.map aSyn),ai 0]):=fun l h1 h2 h3 => .inr (.inr ⟨hC,hT,R,l,hD,h1,h2,h3,rfl⟩)
   clear hdo hti hD
   have hsl:=synL_len (evtG (zeroC ps) R)
   generalize evtG (zeroC ps) R=es at *
   generalize rkO (zeroC ps :: R)=rk at *
   have hel:es.length≤512:=by omega
   simp only[go_sem]
   refine Wk ?_
   refine AWp.block (AWp.loopN [14,16] [2,6,15] (fun m vs L=>∃(i:Nat) (v:AV),vs=[v,ai i]∧1≤i∧i≤513∧AppSt 77 4 ((synL (es.take i)).map aSyn) v L∧m=es.length - i) _ ⟨1,anil,rfl,Nat.le_refl _,by omega,by rw[synL_one];exact .nil,rfl⟩ ?_)
   rintro m vs L - ⟨i,v,rfl,hi1,hi5,hA,rfl⟩
   have hfo:=hA.fo
   have hesl:(es.map aEid).length=es.length:=List.length_map _
   simp only[go_sem]
   refine W2 hfo hesl ?_
   refine⟨fun h2 => ?_,fun h2 => ?_⟩
   ·have hil:i<es.length:=by omega
    have gi:((i:Int) - 1).toNat=i - 1:=by omega
    have htl2:=synL_len (es.take i)
    rw[List.length_take] at htl2
    obtain⟨⟨a1,a2⟩,hx⟩:∃x,es[i - 1]?=some x:=⟨_,List.getElem?_eq_getElem (by omega)⟩
    obtain⟨⟨b1,b2⟩,hy⟩:∃y,es[i]?=some y:=⟨_,List.getElem?_eq_getElem hil⟩
    have hst:=synL_takeO hi1 hx hy
    have g1:(es.map aEid).getD (i - 1) .any = .agg [ai a1,ai a2]:=by rw[List.getD_eq_getElem?_getD,List.getElem?_map,hx];rfl
    have g2:(es.map aEid).getD i .any = .agg [ai b1,ai b2]:=by rw[List.getD_eq_getElem?_getD,List.getElem?_map,hy];rfl
    have hst1:a1 ≠ b1→(synL (es.take (i+1))).map aSyn=(synL (es.take i)).map aSyn ++ [.agg [ai a1,ai a2,ai b1,ai b2]]:=fun h=>by rw[hst,if_pos h,List.map_append];rfl
    have hst2:¬a1 ≠ b1→(synL (es.take (i+1))).map aSyn=(synL (es.take i)).map aSyn:=fun h=>by rw[hst,if_neg h,List.append_nil]
    have hyl:((synL (es.take i)).map aSyn).length≤1000:=by rw[List.length_map];omega
    clear hst hx hy
    generalize hys:(synL (es.take i)).map aSyn=ys at *
    generalize hEE:es.map aEid=EE at *
    rcases hA.inv with ⟨e1,rfl,rfl⟩|⟨bq,cq,rfl,rfl⟩
    ·repeat(first|(with_reducible refine AWp.seq ?_)|(with_reducible refine AWp.block ?_))
     refine AWp.read mixed [0,1,2,3,4,5,6,7,8,9,10,11] (by kernel_rfl) ?_;simp only[go_sem,g1,g2,gi,hesl]
     refine Sd ?_
     refine Wk ?_
     refine⟨fun h3 => ?_,fun h3 => ?_⟩
     ·repeat(first|(with_reducible refine AWp.seq ?_)|(with_reducible refine AWp.block ?_))
      refine AWp.mix mixed [0,1,2,3,4,5,6,7,8,9,10] (.step 11 (.step 12 (.step 13 .done .done) .done) .done) (by kernel_rfl) ?_;simp only[go_sem,g1,g2,gi,hesl]
      refine Sd ?_
      intro b' cap' _
      refine Wk ?_
      exact⟨_,List.Sublist.refl _,es.length - (i+1),by omega,i+1,_,rfl,by omega,by omega,by rw[hst1 h3,e1];exact .row _ [_] _,rfl⟩
     ·refine Wk ?_
      exact⟨_,List.Sublist.refl _,es.length - (i+1),by omega,i+1,_,rfl,by omega,by omega,by rw[hst2 fun h=>h h3];exact hA,rfl⟩
    ·repeat(first|(with_reducible refine AWp.seq ?_)|(with_reducible refine AWp.block ?_))
     refine AWp.read mixed [0,1,2,3,4,5,6,7,8,9,10,11] (by kernel_rfl) ?_;simp only[go_sem,g1,g2,gi,hesl]
     refine Sd ?_
     refine Wk ?_
     refine⟨fun h3 => ?_,fun h3 => ?_⟩
     ·repeat(first|(with_reducible refine AWp.seq ?_)|(with_reducible refine AWp.block ?_))
      refine AWp.mix mixed [0,1,2,3,4,5,6,7,8,9,10] (.step 11 (.step 12 (.step 13 .done .done) .done) .done) (by kernel_rfl) ?_;simp only[go_sem,g1,g2,gi,hesl]
      refine Sd ?_
      intro b' cap' _
      refine Wk ?_
      exact⟨_,List.Sublist.refl _,es.length - (i+1),by omega,i+1,_,rfl,by omega,by omega,by rw[hst1 h3];exact AppSt.snoc _ _ _ rfl,rfl⟩
     ·refine Wk ?_
      exact⟨_,List.Sublist.refl _,es.length - (i+1),by omega,i+1,_,rfl,by omega,by omega,by rw[hst2 fun h=>h h3];exact hA,rfl⟩
   ·rw[List.take_of_length_le (by omega)] at hA
    have hext:=fun l hl hll=>control_extended ps hs hv l hl hll
    have hcon:=fun l hl S hG hW w=>order_controls ps hs hv l hl S hG hW w (badX ps ts)
    have hfl:AV.sl 1 ((List.range ps.length).map fun p => .sl 1 (falL ps ts p))=AV.sl 1 ((List.range ps.length).map fun p => .sl 1 ((List.range (nev ps p+1)).map fun k=>ab (badX ps ts p k))):=rfl
    rw[← hfl] at hcon
    generalize (List.range ps.length).map (fun p=>AV.sl 1 (falL ps ts p))=FL at *
    refine AWp.viewA (L:=[]) (j:=14) hA rfl ?_
    have hsml:((synL es).map aSyn).length=(synL es).length:=List.length_map _
    refine W1 hsml ?_
    refine AWp.block (AWp.loopN [14,17] [2,6] (fun m vs L=>∃(l:List Syn) (i:Int),vs=[.sl 4 (l.map aSyn),ai i]∧L=[]∧l.Sublist (synL es)∧ctlB ps l (badX ps ts)=true∧(ctlB ps [] (badX ps ts)=true→(l.length:Int)=i+1) ∧ -1≤i∧i<l.length∧m=(i+1).toNat) _ ⟨synL es,_,rfl,rfl,List.Sublist.refl _,hsct,fun _=>by omega,by omega,by omega,rfl⟩ ?_)
    rintro m vs L - ⟨l,i,rfl,rfl,hsub,hct,hnn,hi1,hi2,rfl⟩
    have hlm:(l.map aSyn).length=l.length:=List.length_map _
    have hll:l.length≤512:=Nat.le_trans hsub.length_le (by omega)
    simp only[go_sem]
    refine W1 hlm ?_
    refine⟨fun h3 => ?_,fun h3 => ?_⟩
    ·obtain⟨k,rfl⟩:∃k:Nat,i=k:=⟨i.toNat,by omega⟩
     have hkl:k<l.length:=by omega
     have hcl:l.length ≠ 0:=by omega
     obtain⟨c,hc⟩:∃c,l.length=c+1:=⟨l.length - 1,by omega⟩
     have hn:((l.length:Int) - 1).toNat=c:=by omega
     have htk:(l.take k).length=k:=by rw[List.length_take];omega
     have hmn:min k c=k:=by omega
     have hgk:((k:Int)+1).toNat=k+1:=by omega
     refine W1 hlm ?_
     intro bf
     refine W1 hlm ?_
     rw[hn,htk,hmn,List.take_take,Nat.min_self,htk,List.drop_replicate]
     refine⟨by rw[List.length_replicate];exact Nat.le_refl _,?_⟩
     have hRl:((l.take k).map aSyn ++ List.replicate (c - k) (AV.agg [AV.v (Value.int IntKind.i64 0),AV.v (Value.int IntKind.i64 0),AV.v (Value.int IntKind.i64 0),AV.v (Value.int IntKind.i64 0)])).length=c:=by rw[List.length_append,List.length_map,htk,List.length_replicate];omega
     have hRt:((l.take k).map aSyn ++ List.replicate (c - k) (AV.agg [AV.v (Value.int IntKind.i64 0),AV.v (Value.int IntKind.i64 0),AV.v (Value.int IntKind.i64 0),AV.v (Value.int IntKind.i64 0)])).take k=(l.take k).map aSyn:=List.take_left' (by rw[List.length_map,htk])
     generalize (l.take k).map aSyn ++ List.replicate (c - k) (AV.agg [AV.v (Value.int IntKind.i64 0),AV.v (Value.int IntKind.i64 0),AV.v (Value.int IntKind.i64 0),AV.v (Value.int IntKind.i64 0)])=RR at *
     refine AWp.seq ?_
     refine AWp.drawn mixed 7 (by kernel_rfl) ?_;simp only[go_sem,hlm,hRl,hRt,hgk,hc]
     refine Sd ?_
     have hd1:l.take (c+1)=l:=List.take_of_length_le (by omega)
     have hdl:(l.drop (k+1)).length=c - k:=by rw[List.length_drop];omega
     have hd2:(l.drop (k+1)).take (c - k)=l.drop (k+1):=List.take_of_length_le (by omega)
     have hd3:RR.drop (k+(c - k))=[]:=List.drop_of_length_le (by omega)
     rw[hd1,hdl,Nat.min_self,hd2,hdl,hd3,List.append_nil,← List.eraseIdx_eq_take_drop_succ]
     have hel':(l.eraseIdx k).length=c:=by rw[List.length_eraseIdx,if_pos hkl,hc];rfl
     have hsub':(l.eraseIdx k).Sublist (synL es):=(List.eraseIdx_sublist l k).trans hsub
     have hok':SynOk ps (l.eraseIdx k):=synOk_sub (fun s hs=>hsub'.subset hs) hsok
     have hW':WhlX ps (exF ps (l.eraseIdx k)):=whl_of hv hok' (rnk_sub (fun s hs=>hsub'.subset hs) hrnk) (exF_gen _ _) (exF_stop _ _)
     have hx1:=hext (l.eraseIdx k) hok' (by omega)
     have hx2:=hcon (l.eraseIdx k) hok' _ (exF_gen _ _) hW' (decide (lftX ps (exF ps (l.eraseIdx k))=0))
     have hmo:ctlB ps [] (badX ps ts)=true→ctlB ps (l.eraseIdx k) (badX ps ts)=true:=ctl_mono
     generalize l.eraseIdx k=l' at *
     obtain⟨X',hX'⟩:∃X',aOrd ps (exF ps l') (decide (lftX ps (exF ps l')=0)) = .rp 3 X' 0 0:=⟨_,rfl⟩
     rw[hX'] at hx1 hx2
     refine AWp.viewP (Lf:=[(bf,.row 77 4 (l'.map aSyn) c)]) (Lk:=[]) (L':=[]) (List.Perm.refl _) .nil [(18,.sl 4 (l'.map aSyn))] (fun z hz => ?_) ?_
     ·obtain rfl:=List.mem_singleton.1 hz
      simp only[go_sem]
      exact Vw.ofLs (t:=77) (cap:=c) (if_pos rfl) (by rw[List.length_map,hel'])
     simp only[go_sem]
     refine Wk ?_
     refine Sd ?_
     refine(hx1).val.use ?_;simp only[go_sem]
     refine Wk ?_
     refine Sd ?_
     refine(hx2).val.use ?_;simp only[go_sem]
     generalize hcc:ctlB ps l' (badX ps ts)=cc at *
     refine Wk ?_
     refine⟨fun h5 => ?_,fun h5 => ?_⟩
     ·refine Wk ?_
      exact⟨_,List.Sublist.refl _,k,by omega,l',(k:Int) - 1,rfl,rfl,hsub',by rw[hcc];exact h5,(fun h=>by have:=hnn h;omega),by omega,by omega,by omega⟩
     ·refine Wk ?_
      exact⟨_,List.Sublist.refl _,k,by omega,l,(k:Int) - 1,rfl,rfl,hsub,hct,(fun h=>absurd ((hcc ▸ hmo h:cc=true)) (by simpa using h5)),by omega,by omega,by omega⟩
    ·refine W1 hlm ?_
     refine ret_own ?_
     simp only[go_sem]
     exact⟨_,.refl _,hfinal l hsub hct fun h=>List.eq_nil_of_length_eq_zero (by have:=hnn h;omega)⟩
 ·rw[if_neg hC] at h1
  generalize hCC:conF ps ts=C at *
  refine MCalls.toS (K:=fun r L=>∃r0,Vw L r r0∧CtlA ps ts r0) ?_ (fun r L h=>h)
  refine MCalls.enter' 116 [.tmp 4,.tmp 5] [2,39,83] Proofs.Tryz.func9 rfl rfl rfl rfl rfl (by simp) (AWp.of ?_);simp only[go_sem]
  refine Wk ?_
  refine Sd ?_
  refine(h1).val.use ?_;simp only[go_sem]
  refine W1 hC ?_
  refine ret_own ?_
  simp only[go_sem]
  exact⟨.tup [.sl 4 [],ai C],.mkTup (Vws.cons (.nil 4) (Vws.refl _)),.inl ⟨by rw[hCC];exact hC,by rw[hCC]⟩⟩
section
variable {ps:List Pr} {bad:List Int→Bool} {c:List Int}
def FwdX (ps:List Pr) (bad:List Int→Bool) (c:List Int):Prop:=∃R,chnF ps (zeroC ps) R=true∧(zeroC ps :: R).getLast?=some c∧∀d ∈ zeroC ps :: R,bad d=false
open Classical in
noncomputable def opnL (ps:List Pr) (bad:List Int→Bool) (cs:List (List Int)):List (List Int):=cs.filter fun c=>decide (FwdX ps bad c)
end
section
variable {ps:List Pr} {b:Nat→Nat→Bool}
def bdA (ps:List Pr) (b:Nat→Nat→Bool) (c:List Int):Bool:=(List.range ps.length).all fun p=>b p (cAt c p).toNat
theorem bdA_false {c:List Int} : bdA ps b c=false↔AvoidC ps b c:=by
 unfold bdA AvoidC
 rw[List.all_eq_false]
 constructor
 ·rintro⟨p,hp,h⟩
  exact⟨p,List.mem_range.1 hp,by simpa using h⟩
 ·rintro⟨p,hp,h⟩
  exact⟨p,List.mem_range.2 hp,by simpa using h⟩
theorem bdA_true {c:List Int} : bdA ps b c=true↔∀p,p<ps.length→b p (cAt c p).toNat=true:=by
 unfold bdA
 rw[List.all_eq_true]
 exact⟨fun h p hp=>h p (List.mem_range.2 hp),fun h p hp=>h p (List.mem_range.1 hp)⟩
theorem tgt_no (hv:validF ps=true) {rows:Nat→List Stp} (hR:RowsOk ps b rows) {a:Nat→Nat} (ha:TgtS ps rows a):¬ ∃O,DodgeR ps b O:=by
 rintro⟨O,hO⟩
 have hel:∀p (hp:p<ps.length),_:=fun p hp=>(hR p hp).el _ (List.getElem_mem (ha.1 p hp))
 have hT:TgB ps fun p=>fSp rows p (a p):=by
  refine⟨fun p hp => ?_,fun p q hp hq hpq=>ha.2 p q hp hq hpq⟩
  have h1:a p<(rows p).length:=ha.1 p hp
  show (fSp rows p (a p)).2.1≤_∧_
  rw[fSp_eq h1]
  obtain⟨e1,e2,e3,_⟩:=hel p hp
  exact⟨by omega,by omega,e1⟩
 have h1:=tgb_blocks hv hT (bad:=bdA ps b) fun c hc hi=>bdA_true.2 fun p hp=>by
  have h1:a p<(rows p).length:=ha.1 p hp
  have h2:=hi p hp
  simp only[fSp_eq h1] at h2
  exact(hel p hp).2.2.2 _ (by omega) (by omega)
 have h2:=dodge_opn hO (bad:=bdA ps b) fun d _ h=>bdA_false.2 h
 rw[h1] at h2
 cases h2
end
def cntC (ps:List Pr) (S:Nat→List (List Int)):List Int:=(List.range ps.length).map fun p=>((S p).length:Int) - 1
theorem cntC_get {ps:List Pr} {S:Nat→List (List Int)} {p:Nat} (hp:p<ps.length):(cntC ps S).getD p 0=((S p).length:Int) - 1:=by
 unfold cntC
 rw[List.getD_eq_getElem?_getD,List.getElem?_map,List.getElem?_range hp];rfl
theorem cntC_at {ps:List Pr} {S:Nat→List (List Int)} {p:Nat} (hp:p<ps.length):cAt (cntC ps S) p=((S p).length:Int) - 1:=by
 unfold cAt;rw[Int.toNat_natCast,cntC_get hp]
theorem gen_run {ps:List Pr} (hv:validF ps=true) {l:List Syn} (hl:SynOk ps l) {S:Nat→List (List Int)} (hG:GenX ps l S) :
  ∃R,chnF ps (zeroC ps) R=true∧(zeroC ps :: R).getLast?=some (cntC ps S)∧∀d ∈ zeroC ps :: R,CloX ps l fun j=>d.getD j 0:=by
 induction hG with
 | init =>
  refine⟨[],rfl,?_,fun d hd => ?_⟩
  ·show some (zeroC ps)=_
   congr 1
   unfold zeroC cntC
   symm
   rw[List.eq_replicate_iff]
   exact⟨by simp,fun b hb=>by obtain⟨_,_,rfl⟩:=List.mem_map.1 hb;simp⟩
  ·rw[List.mem_singleton] at hd
   subst hd
   intro a ha i hi hia y hy
   have hia:(i:Int)+1≤(zeroC ps).getD a 0:=hia
   unfold zeroC at hia
   rw[getD_zeros] at hia
   omega
 | @step S p hG hr ih =>
  obtain⟨R,h1,h2,h3⟩:=ih
  obtain⟨hp,hle,hdy⟩:=hr
  have hpos:=hG.pos p
  have hclo:=h3 _ (List.mem_of_getLast? h2)
  have hc:isF ps (cntC ps S)=true:=(chn_last (zeroC_is ps) h1 h2).1
  have hcl:(cntC ps S).length=ps.length:=by simp [cntC]
  have hst:stpC (cntC ps S) p=cntC ps (upS S p (vecX ps l S p (S p).length)):=by
   refine List.ext_getElem (by rw[stp_len,hcl];simp [cntC]) fun q hq1 hq2 => ?_
   rw[stp_len,hcl] at hq1
   have e1:=stpC_at hc hq1 (q:=p)
   have hln:(stpC (cntC ps S) p).length=ps.length:=by rw[stp_len,hcl]
   rw[cAt_nat (by omega)] at e1
   have e4:=cntC_at (ps:=ps) (S:=upS S p (vecX ps l S p (S p).length)) hq1
   rw[cAt_nat hq2] at e4
   rw[e1,e4,cntC_at hp,cntC_at hq1,upS_len]
   by_cases e:p=q
   ·subst e;simp
   ·rw[if_neg e,if_neg (fun h=>e h.symm)]
  have hclo':CloX ps l fun j=>(stpC (cntC ps S) p).getD j 0:=by
   have hat:∀q:Nat,q<ps.length→(stpC (cntC ps S) p).getD q 0=if p=q then ((S p).length:Int) else ((S q).length:Int) - 1:=fun q hq=>by
    have e1:=stpC_at hc hq (q:=p)
    rw[cntC_at hq,cntC_at hp] at e1
    have e0:cAt (stpC (cntC ps S) p) (q:Nat)=(stpC (cntC ps S) p).getD q 0:=by unfold cAt;rw[Int.toNat_natCast]
    rw[← e0,e1]
    split <;> omega
   intro a ha i hi hia y hy
   obtain⟨y1,y2,y3,y4⟩:=dirX_ev hv hl ha hi y hy
   have hia:(i:Int)+1≤(stpC (cntC ps S) p).getD a 0:=hia
   show y.2≤(stpC (cntC ps S) p).getD y.1.toNat 0
   rw[hat a ha] at hia
   rw[hat _ (by omega)]
   have hup:∀z:Int,z≤((S y.1.toNat).length:Int) - 1→z≤if p=y.1.toNat then ((S p).length:Int) else ((S y.1.toNat).length:Int) - 1:=fun z hz=>by
    split
    ·rename_i e;rw[← e] at hz;omega
    ·exact hz
   refine hup _ ?_
   by_cases e:a=p∧i+1=(S p).length
   ·obtain⟨rfl,e2⟩:=e
    have:=hdy y (by rw[show (S a).length - 1=i by omega];exact hy)
    omega
   ·have hia2:(i:Int)+1≤(cntC ps S).getD a 0:=by
     rw[cntC_get ha]
     by_cases ea:p=a
     ·subst ea
      rw[if_pos rfl] at hia
      have:¬i+1=(S p).length:=fun h=>e ⟨rfl,h⟩
      omega
     ·rw[if_neg ea] at hia;exact hia
    have:=hclo a ha i hi hia2 y hy
    have this:y.2≤(cntC ps S).getD y.1.toNat 0:=this
    rw[cntC_get (by omega)] at this
    exact this
  have hlen':(stpC (cntC ps S) p).length=ps.length:=by rw[stp_len,hcl]
  have his:isF ps (stpC (cntC ps S) p)=true:=by
   refine isF_of_CloX (l:=l) hlen' ((inRange_iff hlen').2 fun q hq => ?_) hclo'
   have hr:=cut_at hc hq
   rw[stpC_at hc hq]
   have hpn:=cntC_at (ps:=ps) (S:=S) hp
   rw[nev_get hq] at hr
   split
   ·rename_i e
    subst e
    rw[nev_get hp] at hle
    omega
   ·exact hr
  have hrdy:rdyF ps (cntC ps S) p=true:=by
   unfold rdyF
   refine decide_eq_true ⟨?_,his⟩
   rw[cntC_at hp];omega
  refine⟨R ++ [stpC (cntC ps S) p],chn_app h2 h1 ((chn_cons hc).2 ⟨p,hp,hrdy,rfl,stepF_iff.2 ⟨by omega,rfl⟩,rfl⟩),?_,fun d hd => ?_⟩
  ·rw[← List.cons_append,List.getLast?_append,hst];rfl
  ·rw[← List.cons_append,List.mem_append] at hd
   rcases hd with hd|hd
   ·exact h3 d hd
   ·rw[List.mem_singleton] at hd;rw[hd];exact hclo'
theorem ref_hold {ps:List Pr} (hv:validF ps=true) {l:List Syn} (hl:SynOk ps l) (hW:WhlX ps (exF ps l)) {b:Nat→Nat→Bool} {rows:Nat→List Stp} (hR:RowsOk ps b rows) {a:Nat→Nat} (ha:TgtS ps rows a) :
  ∃c,isF ps c=true∧(CloX ps l fun j=>c.getD j 0)∧bdA ps b c=true:=by
 obtain⟨R,h1,h2,h3⟩:=gen_run hv hl (exF_gen ps l)
 have hfull:cntC ps (exF ps l)=fullC ps:=by
  unfold cntC fullC
  refine List.ext_getElem (by simp) fun q hq1 hq2 => ?_
  rw[List.getElem_map,List.getElem_range,List.getElem_map]
  have hq:q<ps.length:=by simpa using hq1
  rw[hW q hq,nev_get hq];omega
 rw[hfull] at h2
 have hno:=tgt_no hv hR ha
 have hex:∃d ∈ zeroC ps :: R,bdA ps b d=true:=by
  apply Classical.byContradiction
  intro hn
  refine hno ⟨zeroC ps :: R,isrun_mk h1 h2,fun d hd=>bdA_false.1 ?_⟩
  cases hb:bdA ps b d with
  | false=>rfl
  | true=>exact absurd ⟨d,hd,hb⟩ hn
 obtain⟨d,hd,hb⟩:=hex
 refine⟨d,?_,h3 d hd,hb⟩
 rcases List.mem_cons.1 hd with rfl|hd
 ·exact zeroC_is ps
 ·obtain⟨j,hj,rfl⟩:=List.getElem_of_mem hd
  exact(chn_iff.1 h1 j hj).1
def disj2 (a b:Pd):Pd:=.mk 17 0 0 0 ByteArray.empty [a,b]
def disjR (t:Pd) (r:List Pd):Pd:=r.foldl disj2 t
theorem truF_disj2 (o:Obs) (a b:Pd):truF o (disj2 a b)=(truF o a || truF o b):=by
 unfold disj2
 rw[truF_mk]
 rfl
theorem truF_disjR (o:Obs):∀(r:List Pd) (t:Pd),truF o (disjR t r)=(truF o t || r.any (truF o))
 | [],t=>by show truF o t=_;simp
 | x :: r,t=>by
  show truF o (disjR (disj2 t x) r)=_
  rw[truF_disjR o r,truF_disj2,List.any_cons,Bool.or_assoc]
structure DjOk (ps:List Pr) (t:Pd):Prop where
 loc:allB locB t=true
 res:allB (resB ps) t=true
 typ:allB typB t=true
 fit:fitB ps t=true
 ntm:allB ntmB t=true
 nch:allB nchB t=true
 knd:9≤t.kind
 knd2:t.kind≤21
theorem allB_disj2 {f:Pd→Bool} {a b:Pd} (hf:f (disj2 a b)=true) (ha:allB f a=true) (hb:allB f b=true):allB f (disj2 a b)=true:=by
 unfold disj2 at *
 rw[allB_mk,hf]
 simp [ha,hb]
theorem DjOk.two {ps:List Pr} {a b:Pd} (ha:DjOk ps a) (hb:DjOk ps b):DjOk ps (disj2 a b):=by
 have hk:∀x:Pd,9≤x.kind→x.kind≤21→tyNe 17 x.kind=false:=fun x h1 h2=>by
  unfold tyNe
  refine decide_eq_false (fun h=>h ?_)
  have:resF x.kind=2:=by unfold resF;split <;> omega
  rw[this];rfl
 refine⟨allB_disj2 rfl ha.loc hb.loc,allB_disj2 rfl ha.res hb.res,allB_disj2 ?_ ha.typ hb.typ,?_,allB_disj2 rfl ha.ntm hb.ntm,allB_disj2 rfl ha.nch hb.nch,by show (9:Int)≤17;decide,by show (17:Int)≤21;decide⟩
 ·show (!([a,b].any fun x=>tyNe 17 x.kind))=true
  simp [hk a ha.knd ha.knd2,hk b hb.knd hb.knd2]
 ·show fitB ps (.mk 17 0 0 0 ByteArray.empty [a,b])=true
  rw[fitB,if_neg (by decide),fitL,fitL,fitL,ha.fit,hb.fit];rfl
theorem DjOk.all {ps:List Pr} : ∀ {r:List Pd} {t:Pd},DjOk ps t→(∀x ∈ r,DjOk ps x)→DjOk ps (disjR t r)
 | [],_,ht,_=>ht
 | x :: r,t,ht,hr=>DjOk.all (r:=r) (t:=disj2 t x) (ht.two (hr x (by simp))) fun y hy=>hr y (List.mem_cons_of_mem _ hy)
theorem dj_lcl {ps:List Pr} {p:Nat} {t:Pd} (h:lclF ps p 0 t=0) (h21:t.kind≤21):DjOk ps t:=by
 obtain⟨g1,_,_,_,g5,g6⟩:=lcl_ok h
 obtain⟨_,_,h3,h4⟩:=checkF_zero g1
 unfold okT at h3
 simp only[Bool.and_eq_true] at h3
 exact⟨h3.1.1,h3.1.2,h3.2,h4,lcl_ntm t g6,lcl_nch t g6,g5,h21⟩
theorem loc_kind {t:Pd} (h:allB locB t=true):t.kind≤21:=by
 obtain⟨k,n,p,q,s,l⟩:=t
 have h1:=(allB_sub h).1
 show k≤21
 unfold locB at h1
 simp only[Bool.and_eq_true,decide_eq_true_eq] at h1
 apply Classical.byContradiction
 intro hk
 have:=h1.1.1
 unfold partsF at this
 rw[if_neg (by omega),if_neg (by omega),if_neg (by omega)] at this
 omega
theorem szF_disj2 (a b:Pd):szF (disj2 a b)=szF a+szF b+1:=by
 unfold disj2
 rw[szF,szL,szL,szL];omega
theorem szF_disjR {m:Nat} : ∀(r:List Pd) (t:Pd),(∀x ∈ r,szF x≤m)→szF (disjR t r)≤szF t+r.length * (m+1)
 | [],t,_=>by show szF t≤_;omega
 | x :: r,t,h=>by
  have h1:=szF_disjR r (disj2 t x) fun y hy=>h y (List.mem_cons_of_mem _ hy)
  have h2:=h x (by simp)
  rw[szF_disj2] at h1
  show szF (disjR (disj2 t x) r)≤_
  rw[List.length_cons,Nat.add_mul]
  omega
theorem disj_bad {ps:List Pr} {t:Pd} {r:List Pd} (hC:conF ps (t :: r)=0) {c:List Int} (hc:isF ps c=true):truF (cutO ps c fun _ _=>0) (disjR t r) = !bdA ps (badX ps (t :: r)) c:=by
 obtain⟨_,hl,hlc⟩:=conF_inv hC
 have hcl:=(isF_iff.1 hc).1
 have hcr:=(inRange_iff hcl).1 (isF_iff.1 hc).2.1
 have e:(truF (cutO ps c fun _ _=>0) t || r.any (truF (cutO ps c fun _ _=>0)))=(t :: r).any (truF (cutO ps c fun _ _=>0)):=by rw[List.any_cons]
 rw[truF_disjR,e]
 generalize t :: r=ts at *
 have key:∀p (hp:p<ts.length),truF (cutO ps c fun _ _=>0) ts[p] = !badX ps ts p (cAt c p).toNat:=fun p hp=>by
  obtain⟨g1,_,_,_,g5,g6⟩:=lcl_ok (hlc p hp)
  have h0:=(hcr p (by omega)).1
  rw[lcl_cut (by omega) (checkF_zero g1).2.2.1 g5 g6 hcl,badX_get hp,Bool.not_not,Int.toNat_of_nonneg h0]
 cases hb:bdA ps (badX ps ts) c with
 | true =>
  rw[Bool.not_true,List.any_eq_false]
  intro x hx
  obtain⟨p,hp,rfl⟩:=List.getElem_of_mem hx
  rw[key p hp,bdA_true.1 hb p (by omega)];decide
 | false =>
  obtain⟨p,hp,h⟩:=bdA_false.1 hb
  rw[Bool.not_false,List.any_eq_true]
  exact⟨_,List.getElem_mem (show p<ts.length by omega),by rw[key p (by omega),h];rfl⟩
theorem chc_gen {ps:List Pr} (hv:validF ps=true) {b:Nat→Nat→Bool} {rows:Nat→List Stp} (hR:RowsOk ps b rows) {a:Nat→Nat} (ha:TgtS ps rows a) :
  (∀i,i<ps.length→(fSp rows i (a i)).1=i∧(fSp rows i (a i)).2.1≤(fSp rows i (a i)).2.2∧(fSp rows i (a i)).2.2≤nev ps i∧∀j,(fSp rows i (a i)).2.1≤j→j≤(fSp rows i (a i)).2.2→b i j=true) ∧
  gvnE ps ((chcL ps.length rows a).map stpI)=0∧ovF ps (((chcL ps.length rows a).map stpI).map spN)=true:=by
 have hn8:=(valid_len hv).2
 have hcl:=chcL_len ps.length rows a
 have hsp:((chcL ps.length rows a).map stpI).map spN=chcL ps.length rows a:=by
  rw[List.map_map]
  have:(spN ∘ stpI)=id:=by funext s;exact spN_I s
  rw[this,List.map_id]
 have hg:∀i (hi:i<((chcL ps.length rows a).map stpI).length),((chcL ps.length rows a).map stpI)[i]=stpI (fSp rows i (a i)):=fun i hi=>by
  rw[List.getElem_map,chcL_get]
 have hf1:∀i,i<ps.length→(fSp rows i (a i)).1=i∧(fSp rows i (a i)).2.1≤(fSp rows i (a i)).2.2∧(fSp rows i (a i)).2.2≤nev ps i∧∀j,(fSp rows i (a i)).2.1≤j→j≤(fSp rows i (a i)).2.2→b i j=true:=fun i hi=>by
  have h1:a i<(rows i).length:=ha.1 i hi
  obtain⟨e1,e2,e3,e4⟩:=(hR i hi).el _ (List.getElem_mem h1)
  rw[fSp_eq h1]
  exact⟨e1,e2,by omega,e4⟩
 have hbad:((chcL ps.length rows a).map stpI).any (badSp ps)=false:=by
  rw[List.any_eq_false]
  intro x hx
  obtain⟨i,hi,rfl⟩:=List.getElem_of_mem hx
  rw[hg i hi]
  rw[List.length_map,hcl] at hi
  obtain⟨q1,q3,q4,_⟩:=hf1 i hi
  unfold badSp stpI
  simp only[Bool.or_eq_true,decide_eq_true_eq,Int.toNat_natCast]
  rw[q1]
  omega
 have hdup:(List.range ((chcL ps.length rows a).map stpI).length).any (dupSp ((chcL ps.length rows a).map stpI))=false:=by
  rw[List.any_eq_false]
  intro i hi
  have hi:=List.mem_range.1 hi
  rw[dup_no hi fun k hk e => ?_]
  ·decide
  rw[hg i hi,hg k (by omega)] at e
  rw[List.length_map,hcl] at hi
  have e1:((fSp rows i (a i)).1:Int)=((fSp rows k (a k)).1:Int):=e
  rw[(hf1 i hi).1,(hf1 k (by omega)).1] at e1
  omega
 have hgv:gvnE ps ((chcL ps.length rows a).map stpI)=0:=by
  unfold gvnE
  rw[hv,if_pos rfl,if_neg (by rw[List.length_map,hcl];omega),hbad,if_neg (by decide),hdup,if_neg (by decide)]
 have hov:ovF ps (chcL ps.length rows a)=true:=ov_iff.2 fun i k hi hk hik=>by
  rw[chcL_get,chcL_get]
  rw[hcl] at hi hk
  exact ha.2 i k hi hk hik
 exact⟨hf1,hgv,by rw[hsp];exact hov⟩
theorem ref_ok {ps:List Pr} {ts:List Pd} (hC:conF ps ts=0) {a:Nat→Nat} (ha:LeastS ps (rowsX ps ts) a):refX ps ts ((chcL ps.length (rowsX ps ts) a).map stpI)=true:=by
 obtain⟨hv,hlen,_⟩:=conF_inv hC
 obtain⟨h1,h2,h3⟩:=chc_gen hv (rowsX_ok ps ts) ha.1
 have hcl:=chcL_len ps.length (rowsX ps ts) a
 unfold refX
 rw[decide_eq_true hC,h2,h3,decide_eq_true rfl,List.length_map,hcl,decide_eq_true hlen.symm]
 simp only[Bool.true_and,Bool.and_true]
 rw[List.all_eq_true]
 intro i hi
 have hi:=List.mem_range.1 hi
 obtain⟨e1,e2,e3,e4⟩:=h1 i hi
 have hg:((chcL ps.length (rowsX ps ts) a).map stpI).getD i (0,0,0)=stpI (fSp (rowsX ps ts) i (a i)):=by
  rw[List.getD_eq_getElem?_getD,List.getElem?_eq_getElem (by rw[List.length_map,hcl];exact hi),List.getElem_map,chcL_get];rfl
 rw[hg]
 unfold frB stpI
 simp only[Int.toNat_natCast]
 rw[e1,decide_eq_true rfl,decide_eq_true (by omega),decide_eq_true (by omega),decide_eq_true (by omega)]
 simp only[Bool.true_and]
 rw[List.all_eq_true]
 intro j hj
 have:=List.mem_range.1 hj
 exact e4 _ (by omega) (by omega)
end Go.AL
end
