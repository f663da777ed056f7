/- Texts of this claim's proof: WY6, WY8, WY11. No condition. -/
import Derived.Test.YtbegiibjiidkmaaGreatDoorM14
import Derived.Test.YtbegiibjiidkmaaGreatDoorM10
import Derived.Test.YtbegiibjiidkmaaGreatDoorM9
import Derived.Test.YtbegiibjiidkmaaGreatDoorM11
import Derived.Test.YtbegiibjiidkmaaGreatDoorM6
import Derived.Test.YtbegiibjiidkmaaGreatDoorM13
section
namespace Go.AL
open Go Go.RowKit Proofs.Tryz
set_option maxRecDepth 4000
theorem evaluate_TruthsO (ps:List Pr)(hs:Sm ps)(i:Nat)(hp:i<ps.length)(t:Pd)(hz:szF t<=1000000)(he:lclF ps i 0 t=0) :
  MCalls prog 93 [aTr ps,ai i,aPd t] [] fun r L=>∃b cap,r = .tup [.ls b 1 0 (ps[i].evs.length+1) cap,ai 0]/\L=[(b,.row 4 1 ((List.range (ps[i].evs.length+1)).map fun (k:Nat)=>ab (lclT ps i t k)) cap)]:=by
 have h1:=evaluate_check ps hs i 0 t hz
 have hl:=hs.procs
 rw[he] at h1
 obtain⟨hc,_,_,_,h9,hlc⟩:=lcl_ok he
 have hel:=hs.evs _ (List.getElem_mem hp)
 have hgp:=getD_map (f:=aPr) hp
 have hst:=fun (k:Nat) hk=>evaluate_inState ps hs i k hp hk t hz hc h9 hlc
 have hy:∀k,((List.range k).map fun (k:Nat)=>ab (lclT ps i t k)).length=k:=fun k=>by simp
 have hys:∀k,((List.range (k+1)).map fun (k:Nat)=>ab (lclT ps i t k))=((List.range k).map fun (k:Nat)=>ab (lclT ps i t k)) ++ [ab (lclT ps i t k)]:=fun k=>by rw[List.range_succ,List.map_append];rfl
 obtain⟨k0,n,pp,q,s,l⟩:=t
 simp only[aPd_mk] at *
 generalize hY:(fun k:Nat=>(List.range k).map fun (j:Nat)=>ab (lclT ps i (.mk k0 n pp q s l) j))=Y at *
 have hYk:∀k,((List.range k).map fun (j:Nat)=>ab (lclT ps i (.mk k0 n pp q s l) j))=Y k:=fun k=>by rw[<- hY]
 simp only[hYk] at hy hys ⊢
 refine MCalls.enter' 39 [.tmp 6,.tmp 7] [3,5,35] func93 rfl rfl rfl rfl rfl (by simp) (AWp.of ?_);simp only[go_sem]
 refine Wk ?_
 refine Sd ?_
 refine Vu h1 ?_
 refine W1 hgp ?_
 refine AWp.range' (ps[i].evs.length+1) [9] [1,3,5,25] (fun k vs L=>∃v,vs=[v]/\AppSt 4 1 (Y k) v L) (by omega) rfl rfl rfl ⟨anil,rfl,by rw[<- hY];exact .nil⟩ ?_ ?_
 ·rintro k vs L' hk - ⟨v,rfl,hA⟩
  have hyl:=hy k
  have hst:=hst k (by omega)
  rw[hys k]
  have hfo:=hA.fo
  generalize Y k=ys at *
  generalize lclT ps i (.mk k0 n pp q s l) k=b at *
  rcases hA.inv with ⟨e1,rfl,rfl⟩|⟨b',cap,rfl,rfl⟩
  ·simp only[go_sem]
   refine Wk ?_
   refine Sd ?_
   refine Vu hst ?_
   refine Sd ?_
   intro b' cap' _
   refine⟨_,.refl _,_,rfl,?_⟩
   rw[e1]
   exact .row _ _ _
  ·simp only[go_sem]
   refine Wk ?_
   refine Sd ?_
   refine Vu hst ?_
   refine Sd ?_
   intro b' cap' _
   refine⟨_,.refl _,_,rfl,?_⟩
   have:=AppSt.row (t:=4) (k:=1) b' (ys ++ [ab b]) cap'
   simpa using this
 ·rintro vs L' - ⟨v,rfl,hA⟩
  have hyl:=hy (ps[i].evs.length+1)
  generalize Y (ps[i].evs.length+1)=ys at *
  simp only[go_sem]
  rcases hA.inv with ⟨e1,rfl,rfl⟩|⟨b,cap,rfl,rfl⟩
  ·rw[e1] at hyl;simp at hyl
  ·refine Wk ?_
   refine ret_own ?_
   simp only[go_sem]
   exact⟨b,cap,by rw[hyl],rfl⟩
noncomputable def badX (ps:List Pr)(ts:List Pd)(p k:Nat):Bool:=!(elimOf ps ts).ok p k
theorem badX_get {ps:List Pr}{ts:List Pd}{p:Nat}(hp:p<ts.length)(k:Nat):badX ps ts p k = !lclT ps p ts[p] k:=by
 show (!(match ts[p]? with|some t=>lclT ps p t k|none=>true))=_
 rw[List.getElem?_eq_getElem hp]
noncomputable def falL (ps:List Pr)(ts:List Pd)(p:Nat):List AV:=(List.range (nev ps p+1)).map fun k=>ab (badX ps ts p k)
noncomputable def falT (ps:List Pr)(ts:List Pd):AV:=.sl 1 ((List.range ps.length).map fun p=>.sl 1 (falL ps ts p))
theorem control_stretches (b:Nat->Bool)(i K:Nat)(hK:K<=1000001):PC prog 54 [ai i,.sl 1 ((List.range K).map fun k=>ab (b k))] (.sl 3 ((spL b i K).map aStp)):=by
 have hT:∀k,k<K->((List.range K).map fun k=>ab (b k)).getD k .any=ab (b k):=fun k hk=>map_range_getD hk _
 have hTl:((List.range K).map fun k=>ab (b k)).length=K:=by simp
 generalize (List.range K).map (fun k=>ab (b k))=T at *
 refine PE 44 [.tmp 4] [20] func54 ?_;simp only[go_sem]
 refine Wk ?_
 refine AWp.range' T.length [5] [0,1,8,9] (fun k vs L=>∃v,vs=[v]/\AppSt 77 3 ((spL b i k).map aStp) v L) (by omega) rfl rfl rfl ⟨anil,rfl,.nil⟩ ?_ ?_
 ·rintro k vs L' hk - ⟨v,rfl,hA⟩
  have g0:=hT k (by omega)
  have g1:=hT (k - 1) (by omega)
  have gk:((k:Int) - 1).toNat=k - 1:=by omega
  have hfo:=hA.fo
  cases hbk:b k with
  | false =>
   rw[hbk] at g0
   rw[spL_no hbk]
   simp only[go_sem]
   refine W3 g0 hTl hfo ?_
   exact⟨_,.refl _,v,rfl,hA⟩
  | true =>
   rw[hbk] at g0
   simp only[go_sem]
   refine W5 g0 g1 gk hTl hfo ?_
   refine⟨fun h2 h3=>?_,fun h2=>?_⟩
   ·obtain⟨d,f,e1,e2⟩:=spL_on (b:=b) (p:=i) (k:=k) hbk (by rw[decide_eq_true (by omega),h3];rfl)
    rw[e1] at hA
    rw[e2]
    have gl:((d ++ [(i,f,k - 1)]).map aStp).getD (((d ++ [(i,f,k - 1)]).map aStp).length - 1) .any = .agg [ai i,ai f,ai ((k - 1:Nat):Int)]:=last_get d (i,f,k - 1)
    have gs:((d ++ [(i,f,k - 1)]).map aStp).set (((d ++ [(i,f,k - 1)]).map aStp).length - 1) (.agg [ai i,ai f,ai k])=(d ++ [(i,f,k)]).map aStp:=last_set d (i,f,k - 1) (i,f,k)
    have hyl:1<=((d ++ [(i,f,k - 1)]).map aStp).length:=by simp
    have hyk:=spL_len (b:=b) (p:=i) k
    rw[e1,<- List.length_map (f:=aStp)] at hyk
    have hll:((d ++ [(i,f,k)]).map aStp).length=((d ++ [(i,f,k - 1)]).map aStp).length:=by simp
    generalize ((d ++ [(i,f,k - 1)]).map aStp)=ys at *
    generalize ((d ++ [(i,f,k)]).map aStp)=zs at *
    have gn:((ys.length:Int) - 1).toNat=ys.length - 1:=by omega
    rcases hA.inv with ⟨e3,_,_⟩|⟨bq,cap,rfl,rfl⟩
    ·rw[e3] at hyl;simp at hyl
    ·refine Wk ?_
     simp only[go_sem,gl,gn,gs]
     refine Sd ?_
     refine⟨_,.refl _,_,rfl,?_⟩
     rw[<- hll]
     exact .row _ _ _
   ·have e0:(decide (0<k) && b (k - 1))=false:=by
     by_cases h3:0<k
     ·rw[decide_eq_true h3,Bool.true_and];simpa using h2 (by omega)
     ·rw[decide_eq_false h3];rfl
    rw[spL_new hbk e0,List.map_append]
    have ea:[(i,k,k)].map aStp=[.agg [ai i,ai k,ai k]]:=rfl
    rw[ea]
    have hyl:=spL_len (b:=b) (p:=i) k
    rw[<- List.length_map (f:=aStp)] at hyl
    generalize (spL b i k).map aStp=ys at *
    rcases hA.inv with ⟨e3,rfl,rfl⟩|⟨bq,cap,rfl,rfl⟩
    ·subst e3
     simp only[go_sem]
     refine Sd ?_
     intro b' cap' _
     refine⟨_,.refl _,_,rfl,?_⟩
     exact .row _ _ _
    ·simp only[go_sem]
     refine Sd ?_
     intro b' cap' _
     refine⟨_,.refl _,_,rfl,?_⟩
     have:=AppSt.row (t:=77) (k:=3) b' (ys ++ [.agg [ai i,ai k,ai k]]) cap'
     simpa using this
 ·rintro vs L' - ⟨v,rfl,hA⟩
  rw[hTl] at hA
  generalize (spL b i K).map aStp=ys at *
  rcases hA.inv with ⟨e3,rfl,rfl⟩|⟨bq,cap,rfl,rfl⟩
  ·simp only[go_sem]
   refine Wk ?_
   refine ret_view [] ?_;simp only[go_sem]
   rw[e3]
   exact .nil 3
  ·simp only[go_sem]
   refine Wk ?_
   refine ret_view [true] ?_;simp only[go_sem]
   exact Vw.ofLs (if_pos rfl) rfl
theorem falL_get {ps:List Pr}{ts:List Pd}{p:Nat}(hp:p<ts.length)(hpp:p<ps.length):falL ps ts p=(List.range (ps[p].evs.length+1)).map fun (k:Nat)=>ab (!lclT ps p ts[p] k):=by
 unfold falL
 rw[nev_get hpp]
 exact List.map_congr_left fun k _=>by rw[badX_get hp]
def negL (f:Nat->Bool)(K j:Nat):List AV:=(List.range K).map fun k=>ab (if k<j then !f k else f k)
theorem negL_len (f:Nat->Bool)(K j:Nat):(negL f K j).length=K:=by simp [negL]
theorem negL_zero (f:Nat->Bool)(K:Nat):negL f K 0=(List.range K).map fun k=>ab (f k):=List.map_congr_left fun k _=>by rw[if_neg (by omega)]
theorem negL_full (f:Nat->Bool)(K:Nat):negL f K K=(List.range K).map fun k=>ab (!f k):=List.map_congr_left fun k hk=>by rw[if_pos (List.mem_range.1 hk)]
theorem negL_get {f:Nat->Bool}{K j:Nat}(hj:j<K):(negL f K j).getD j .any=ab (f j):=by
 unfold negL
 rw[map_range_getD hj,if_neg (by omega)]
theorem negL_elem {f:Nat->Bool}{K j k:Nat}(h:k<(negL f K j).length):(negL f K j)[k]=ab (if k<j then !f k else f k):=by simp [negL]
theorem negL_set {f:Nat->Bool}{K j:Nat}(hj:j<K):(negL f K j).set j (ab (!f j))=negL f K (j+1):=by
 refine List.ext_getElem (by rw[List.length_set,negL_len,negL_len]) fun k h1 h2=>?_
 rw[List.getElem_set,negL_elem,negL_elem]
 by_cases e:j=k
 ·subst e;rw[if_pos rfl,if_pos (by omega)]
 ·rw[if_neg e]
  by_cases h:k<j
  ·rw[if_pos h,if_pos (by omega)]
  ·rw[if_neg h,if_neg (by omega)]
theorem control_falsehoods (ps:List Pr)(hs:Sm ps)(ts:List Pd)(hz:∀t ∈ ts,szF t<=1000000)(htl:ts.length<=1000000) :
  PC prog 53 [aTr ps,.sl 6 (ts.map aPd)] (if conF ps ts=0 then .tup [falT ps ts,ai 0] else .tup [.sl 1 [],ai (conF ps ts)]):=by
 have h1:=trace_Valid ps hs
 have hps:=hs.procs
 by_cases hvl:validF ps=true/\ts.length=ps.length
 ·obtain⟨hv,hlen⟩:=hvl
  have hli:(ts.length:Int)=ps.length:=by omega
  rw[hv] at h1
  have hhit:=fun p hp=>conF_hit (ps:=ps) (ts:=ts) ⟨hv,hlen⟩ (p:=p) hp
  have hzero:=fun h=>conF_zero (ps:=ps) (ts:=ts) ⟨hv,hlen⟩ h
  unfold falT
  generalize conF ps ts=C at *
  refine PE 60 [.tmp 4,.tmp 5] [2,8,56] func53 ?_;simp only[go_sem]
  refine Wk ?_
  refine Sd ?_
  refine Vu h1 ?_
  refine W1 hli ?_
  refine AWp.range' ps.length [6] [2,23,24] (fun p vs L=>∃v,vs=[v]/\AppSt 87 1 ((List.range p).map fun p=>.sl 1 (falL ps ts p)) v L/\∀q (hq:q<ts.length),q<p->lclF ps q 0 ts[q]=0) (by omega) rfl rfl rfl ⟨anil,rfl,.nil,fun q _ h=>by omega⟩ ?_ ?_
  ·rintro p vs L hpp - ⟨v,rfl,hA,h0⟩
   have hp:p<ts.length:=by omega
   have hg:=getD_map (f:=aPd) hp
   have hel:=hs.evs _ (List.getElem_mem hpp)
   have hzp:=hz _ (List.getElem_mem hp)
   have hfo:=hA.fo
   have hyl:((List.range p).map fun p=>AV.sl 1 (falL ps ts p)).length=p:=by simp
   have hys:((List.range (p+1)).map fun p=>AV.sl 1 (falL ps ts p))=((List.range p).map fun p=>AV.sl 1 (falL ps ts p)) ++ [.sl 1 (falL ps ts p)]:=by rw[List.range_succ,List.map_append];rfl
   have hfl:=falL_get hp hpp
   by_cases he:lclF ps p 0 ts[p]=0
   ·rw[hys]
    have h2:=evaluate_TruthsO ps hs p hpp ts[p] hzp he
    have hn:∀q (hq:q<ts.length),q<p+1->lclF ps q 0 ts[q]=0:=fun q hq hqp=>by
     by_cases e:q=p
     ·subst e;exact he
     ·exact h0 q hq (by omega)
    rw[hfl]
    clear h0 he hzp hfl hys
    generalize (List.range p).map (fun p=>AV.sl 1 (falL ps ts p))=ys at *
    obtain⟨f,hf⟩:∃f:Nat->Bool,f=fun (k:Nat)=>lclT ps p ts[p] k:=⟨_,rfl⟩
    have hfk:∀k:Nat,lclT ps p ts[p] k=f k:=fun k=>by rw[hf]
    simp only[hfk] at h2 ⊢
    clear hf hfk
    rw[<- negL_zero] at h2
    rw[<- negL_full]
    generalize ts[p]=t at *
    have hK:ps[p].evs.length+1<=1000001:=by omega
    generalize ps[p].evs.length+1=K at *
    obtain⟨k0,n,pp,q,s,l⟩:=t
    simp only[aPd_mk] at hg h2
    simp only[go_sem]
    refine W2 hg hfo ?_
    intros
    refine W2 hg hfo ?_
    refine MVal.mono (MVal.frame (Lm:=[]) (Lr:=L) h2.val) ?_
    rintro r L' ⟨L1,rfl,bb,cap,rfl,rfl⟩
    have hfo9:AL.fo (AV.ls bb 1 0 K cap)=(True,.ls bb 1 0 K cap):=rfl
    simp only[go_sem,hfo]
    refine W1 hfo ?_
    refine AWp.range' K [] [2,6,9,23,24,25,41] (fun j vs L'=>vs=[]/\L'=(bb,.row 4 1 (negL f K j) cap) :: L) (by omega) rfl rfl rfl ⟨rfl,rfl⟩ ?_ ?_
    ·rintro j vs L' hj - ⟨rfl,rfl⟩
     have hgj:=negL_get (f:=f) hj
     have hsj:=negL_set (f:=f) hj
     have hlj:=negL_len f K j
     simp only[go_sem,hfo]
     refine W3 hgj hlj hfo ?_
     exact⟨_,.refl _,by rw[hsj]⟩
    ·rintro vs L' - ⟨rfl,rfl⟩
     refine AWp.viewP (Lf:=[(bb,_)]) (Lk:=L) (L':=L) (List.Perm.refl _) (LVw.refl _) [(9,.sl 1 (negL f K K))] (fun q hq=>?_) ?_
     ·simp only[List.mem_singleton] at hq
      subst hq
      simp only[go_sem]
      exact Vw.ofLs (t:=4) (cap:=cap) (if_pos rfl) (by rw[negL_len])
     generalize negL f K K=row at *
     rcases hA.inv with ⟨e1,rfl,rfl⟩|⟨bq,cq,rfl,rfl⟩
     ·simp only[go_sem]
      refine Wk ?_
      intro b' cap' g8
      refine Wk ?_
      exact⟨_,.refl _,_,rfl,by rw[e1];exact .row _ _ _,hn⟩
     ·simp only[go_sem]
      refine Wk ?_
      refine Sd ?_
      intro b' cap' g8
      refine Wk ?_
      exact⟨_,.refl _,_,rfl,AppSt.snoc _ _ _ rfl,hn⟩
   ·have hC:=hhit p hp h0 he
    have h2:=evaluate_Truths ps hs p ts[p] hzp
    unfold aTruths at h2
    rw[if_neg he] at h2
    subst hC
    rw[if_neg he]
    generalize lclF ps p 0 ts[p]=e at *
    generalize ts[p]=t at *
    obtain⟨k0,n,pp,q,s,l⟩:=t
    simp only[aPd_mk] at hg h2
    simp only[go_sem]
    refine W2 hg hfo ?_
    intros
    refine W2 hg hfo ?_
    refine Sd ?_
    refine(h2).val.use ?_;simp only[go_sem,hfo]
    refine W2 he hfo ?_
    refine ret_view [] ?_;simp only[go_sem]
    exact .mkTup (Vws.cons (.nil 1) (Vws.refl _))
  ·rintro vs L - ⟨v,rfl,hA,h0⟩
   have hC:=hzero fun q hq=>h0 q hq (by omega)
   subst hC
   rw[if_pos rfl]
   generalize (List.range ps.length).map (fun p=>AV.sl 1 (falL ps ts p))=ys at *
   rcases hA.inv with ⟨e1,rfl,rfl⟩|⟨b,cap,rfl,rfl⟩
   ·simp only[go_sem]
    refine Wk ?_
    refine ret_view [] ?_;simp only[go_sem]
    rw[e1]
    exact .mkTup (Vws.cons (.nil 1) (Vws.refl _))
   ·simp only[go_sem]
    refine Wk ?_
    refine ret_view [true] ?_;simp only[go_sem]
    exact .mkTup (Vws.cons (Vw.ofLs (if_pos rfl) rfl) (Vws.refl _))
 ·have hC:=conF_bad (ts:=ts) hvl
  rw[hC,if_neg (by decide)]
  by_cases hv:validF ps=true
  ·have hli:¬(ts.length:Int)=ps.length:=fun e=>hvl ⟨hv,by omega⟩
   rw[hv] at h1
   refine PE 60 [.tmp 4,.tmp 5] [2,8,56] func53 ?_;simp only[go_sem]
   refine Wk ?_
   refine Sd ?_
   refine Vu h1 ?_
   refine W1 hli ?_
   refine ret_view [] ?_;simp only[go_sem]
   exact .mkTup (Vws.cons (.nil 1) (Vws.refl _))
  ·rw[Bool.not_eq_true] at hv
   rw[hv] at h1
   refine PE 60 [.tmp 4,.tmp 5] [2,8,56] func53 ?_;simp only[go_sem]
   refine Wk ?_
   refine Sd ?_
   refine Vu h1 ?_
   refine Wk ?_
   refine ret_view [] ?_;simp only[go_sem]
   exact .mkTup (Vws.cons (.nil 1) (Vws.refl _))
noncomputable def rowsX (ps:List Pr)(ts:List Pd)(p:Nat):List Stp:=spL (badX ps ts p) p (nev ps p+1)
noncomputable def aRowsX (ps:List Pr)(ts:List Pd):AV:=.sl 1 ((List.range ps.length).map fun p=>.sl 3 ((rowsX ps ts p).map aStp))
theorem control_False (ps:List Pr)(hs:Sm ps)(ts:List Pd)(hz:∀t ∈ ts,szF t<=1000000)(htl:ts.length<=1000000) :
  PC prog 21 [aTr ps,.sl 6 (ts.map aPd)] (if conF ps ts=0 then .tup [aRowsX ps ts,ai 0] else .tup [.sl 1 [],ai (conF ps ts)]):=by
 have h1:=control_falsehoods ps hs ts hz htl
 have hps:=hs.procs
 by_cases hC:conF ps ts=0
 ·rw[if_pos hC] at h1 ⊢
  unfold falT at h1
  unfold aRowsX
  refine PE 35 [.tmp 4,.tmp 5] [2,31] func21 ?_;simp only[go_sem]
  refine Wk ?_
  refine Sd ?_
  refine Vu h1 ?_
  repeat(first|((with_reducible refine AWp.ofC ?_ ?_);exact rfl;simp only[go_sem,List.length_range])|((with_reducible refine an ?_ ?_);exact Au))
  refine AWp.range' ps.length [8] [20,21] (fun p vs L=>∃v,vs=[v]/\AppSt 72 1 ((List.range p).map fun p=>.sl 3 ((rowsX ps ts p).map aStp)) v L) (by omega) rfl rfl rfl ⟨anil,rfl,.nil⟩ ?_ ?_
  ·rintro p vs L hp - ⟨v,rfl,hA⟩
   have hg:((List.range ps.length).map fun p=>AV.sl 1 (falL ps ts p)).getD p .any = .sl 1 (falL ps ts p):=map_range_getD hp _
   have hel:=hs.evs _ (List.getElem_mem hp)
   have hn:=nev_get hp
   have h2:=control_stretches (badX ps ts p) p (nev ps p+1) (by omega)
   have hfo:=hA.fo
   have hyl:((List.range p).map fun p=>AV.sl 3 ((rowsX ps ts p).map aStp)).length=p:=by simp
   have hys:((List.range (p+1)).map fun p=>AV.sl 3 ((rowsX ps ts p).map aStp))=((List.range p).map fun p=>AV.sl 3 ((rowsX ps ts p).map aStp)) ++ [.sl 3 ((rowsX ps ts p).map aStp)]:=by rw[List.range_succ,List.map_append];rfl
   rw[hys]
   change PC _ _ [_,.sl 1 (falL ps ts p)] (.sl 3 ((rowsX ps ts p).map aStp)) at h2
   clear hys
   generalize (List.range p).map (fun p=>AV.sl 3 ((rowsX ps ts p).map aStp))=ys at *
   generalize (rowsX ps ts p).map aStp=row at *
   generalize falL ps ts p=fl at *
   rcases hA.inv with ⟨e1,rfl,rfl⟩|⟨bq,cq,rfl,rfl⟩
   ·simp only[go_sem]
    refine W1 hg ?_
    refine Sd ?_
    refine AWp.of ?_;simp only[go_sem,hg]
    refine Sd ?_
    refine(h2).val.use ?_;simp only[go_sem,hg]
    refine W1 hg ?_
    intro b' cap' g8
    refine Wk ?_
    exact⟨_,.refl _,_,rfl,by rw[e1];exact .row _ _ _⟩
   ·simp only[go_sem]
    refine W1 hg ?_
    refine Sd ?_
    refine AWp.of ?_;simp only[go_sem,hg]
    refine Sd ?_
    refine(h2).val.use ?_;simp only[go_sem,hg]
    refine W1 hg ?_
    refine Sd ?_
    intro b' cap' g8
    refine Wk ?_
    exact⟨_,.refl _,_,rfl,AppSt.snoc _ _ _ rfl⟩
  ·rintro vs L - ⟨v,rfl,hA⟩
   generalize (List.range ps.length).map (fun p=>AV.sl 3 ((rowsX ps ts p).map aStp))=ys at *
   rcases hA.inv with ⟨e1,rfl,rfl⟩|⟨b,cap,rfl,rfl⟩
   ·simp only[go_sem]
    refine Wk ?_
    refine ret_view [] ?_;simp only[go_sem]
    rw[e1]
    exact .mkTup (Vws.cons (.nil 1) (Vws.refl _))
   ·simp only[go_sem]
    refine Wk ?_
    refine ret_view [true] ?_;simp only[go_sem]
    exact .mkTup (Vws.cons (Vw.ofLs (if_pos rfl) rfl) (Vws.refl _))
 ·rw[if_neg hC] at h1 ⊢
  generalize conF ps ts=C at *
  refine PE 35 [.tmp 4,.tmp 5] [2,31] func21 ?_;simp only[go_sem]
  refine Wk ?_
  refine Sd ?_
  refine Vu h1 ?_
  refine W1 hC ?_
  refine ret_view [] ?_;simp only[go_sem]
  exact .mkTup (Vws.cons (.nil 1) (Vws.refl _))
def aOrd (ps:List Pr)(S:Nat->List (List Int))(w:Bool):AV:=.rp 3 [.agg [aPrs ps,.sl 1 ((List.range ps.length).map fun p=>.sl 1 ((S p).map aInts)),ab w]] 0 0
def excB (n:Nat)(S:Nat->List (List Int))(c:Nat->Nat)(p:Nat):Bool:=(List.range n).any fun q=>decide (q ≠ p) && decide ((c p:Int)<(stOf S q (c q)).getD p 0)
structure TabOk (ps:List Pr)(S:Nat->List (List Int)):Prop where
 len:∀p,p<ps.length->(S p).length=nev ps p+1
 row:∀p k,p<ps.length->k<(S p).length->(stOf S p k).length=ps.length
theorem tab_ok {ps:List Pr}(hv:validF ps=true){l:List Syn}(hl:SynOk ps l){S:Nat->List (List Int)}(hG:GenX ps l S)(hW:WhlX ps S):TabOk ps S:=⟨hW,fun p k _ hk=>(hG.st hv hl p k hk).len⟩
theorem order_excluded (ps:List Pr)(hs:Sm ps)(S:Nat->List (List Int))(w:Bool)(hT:TabOk ps S)(c:Nat->Nat)(hc:∀q,q<ps.length->c q<=nev ps q)(p:Nat)(hp:p<ps.length) :
  PC prog 104 [aOrd ps S w,.sl 1 (dnA ps.length c),ai p] (ab (excB ps.length S c p)):=by
 have hps:=hs.procs
 have hdl:=dnA_length ps.length c
 have hgp:=dnA_get hp c
 have hTl:((List.range ps.length).map fun p=>AV.sl 1 ((S p).map aInts)).length=ps.length:=by simp
 have hR:∀q,q<ps.length->((List.range ps.length).map fun p=>AV.sl 1 ((S p).map aInts)).getD q .any = .sl 1 ((S q).map aInts):=fun q hq=>map_range_getD hq _
 have hE:excB ps.length S c p=(List.range ps.length).any fun q=>decide (q ≠ p) && decide ((c p:Int)<(stOf S q (c q)).getD p 0):=rfl
 unfold aOrd
 generalize excB ps.length S c p=E at *
 generalize hT0:((List.range ps.length).map fun p=>AV.sl 1 ((S p).map aInts))=T at *
 refine PE 40 [.tmp 6] [] func104 ?_;simp only[go_sem]
 refine W1 hdl ?_
 refine AWp.range' ps.length [] [0,1,2,9,10] (fun k vs L=>L=[]/\vs=[]/\∀q,q<k->¬q=p->¬(c p:Int)<(stOf S q (c q)).getD p 0) (by omega) rfl rfl rfl ⟨rfl,rfl,fun _ h=>by omega⟩ ?_ ?_
 ·rintro k vs L hk - ⟨rfl,rfl,hI⟩
  have hg:=dnA_get hk c
  have hRk:=hR k hk
  have hck:=hc k hk
  have hSk:=hT.len k hk
  have hrow:=hT.row k (c k) hk (by omega)
  have hst:((S k).map aInts).getD (c k) .any=aInts (stOf S k (c k)):=by
   rw[getD_map (by omega)]
   unfold stOf
   rw[List.getD_eq_getElem?_getD,List.getElem?_eq_getElem (by omega),Option.getD_some]
  have hen:(stOf S k (c k)).map ai=(stOf S k (c k)).map ai:=rfl
  have hge:((stOf S k (c k)).map ai).getD p .any=ai ((stOf S k (c k)).getD p 0):=by
   rw[getD_map (by omega),List.getD_eq_getElem?_getD,List.getElem?_eq_getElem (by omega),Option.getD_some]
  have hel:((stOf S k (c k)).map ai).length=ps.length:=by rw[List.length_map,hrow]
  have htrue:¬k=p->(c p:Int)<(stOf S k (c k)).getD p 0->E=true:=fun h1 h2=>by
   rw[hE,List.any_eq_true]
   exact⟨k,List.mem_range.2 hk,by rw[decide_eq_true h1,decide_eq_true h2];rfl⟩
  have hfalse:(¬k=p->¬(c p:Int)<(stOf S k (c k)).getD p 0)->∀q,q<k+1->¬q=p->¬(c p:Int)<(stOf S q (c q)).getD p 0:=fun h q hq hqp=>by
   by_cases e:q=k
   ·subst e;exact h hqp
   ·exact hI q (by omega) hqp
  have hkp:((k:Int)=p)↔k=p:=by omega
  generalize (stOf S k (c k)).getD p 0=x at *
  generalize stOf S k (c k)=row at *
  simp only[go_sem]
  refine W2 hg hdl ?_
  refine Sq ?_
  refine AWp.read mixed [0,1,2,3,4,5,6,7,8,9,10,11,12,13,14,15,16,17,18,19,20,21,22] (by kernel_rfl) ?_;simp only[go_sem,hg,hgp,hRk,hst,hge,hel,hdl,hkp]
  refine Sd ?_
  refine Wk ?_
  refine⟨fun h1 h2=>?_,fun h1=>?_⟩
  ·rw[htrue h1 h2]
   refine Wk ?_
   exact Rz
  ·refine Wk ?_
   exact⟨_,.refl _,rfl,hfalse h1⟩
 ·rintro vs L - ⟨rfl,rfl,hI⟩
  have:E=false:=by
   rw[hE,List.any_eq_false]
   intro q hq h
   rw[Bool.and_eq_true,decide_eq_true_eq,decide_eq_true_eq] at h
   exact hI q (List.mem_range.1 hq) h.1 h.2
  rw[this]
  simp only[go_sem]
  refine Wk ?_
  exact Rz
theorem excB_iff {n:Nat}{S:Nat->List (List Int)}{c:Nat->Nat}{p:Nat} : excB n S c p=true↔∃q,q<n/\q ≠ p/\(c p:Int)<(stOf S q (c q)).getD p 0:=by
 unfold excB
 rw[List.any_eq_true]
 constructor
 ·rintro⟨q,h1,h2⟩
  rw[Bool.and_eq_true,decide_eq_true_eq,decide_eq_true_eq] at h2
  exact⟨q,List.mem_range.1 h1,h2.1,h2.2⟩
 ·rintro⟨q,h1,h2,h3⟩
  exact⟨q,List.mem_range.2 h1,by rw[decide_eq_true h2,decide_eq_true h3];rfl⟩
def UpX (ps:List Pr)(l:List Syn)(bad:Nat->Nat->Bool)(c:Nat->Nat):Prop:=∀d,HoldX ps l bad d->∀p,p<ps.length->c p<=d p
theorem UpX.bump {ps:List Pr}{l:List Syn}{bad:Nat->Nat->Bool}{S:Nat->List (List Int)}(hv:validF ps=true)(hl:SynOk ps l)(hG:GenX ps l S)(hW:WhlX ps S){c:Nat->Nat}(hI:UpX ps l bad c){p:Nat}(hp:p<ps.length)
  (hr:∀q,q<ps.length->q ≠ p->c q<=nev ps q) (h:bad p (c p)=false\/excB ps.length S c p=true):UpX ps l bad (updN c p (c p+1)):=fun d hd q hq=>by
 unfold updN
 split
 ·rename_i e
  subst e
  refine ctl_bump hv hl hG hW hI hq ?_ d hd
  rcases h with h|h
  ·exact .inl h
  ·obtain⟨a,a1,a2,a3⟩:=excB_iff.1 h
   exact .inr ⟨a,a1,hr a a1 a2,a3⟩
 ·exact hI d hd q hq
theorem UpX.out {ps:List Pr}{l:List Syn}{bad:Nat->Nat->Bool}{c:Nat->Nat}(hI:UpX ps l bad c){p:Nat}(hp:p<ps.length)(h:nev ps p<c p):ctlB ps l bad=true:=by
 rw[ctlB_true]
 rintro⟨d,hd⟩
 have:=hI d hd p hp
 have:=hd.rng p hp
 omega
theorem UpX.stop {ps:List Pr}{l:List Syn}{bad:Nat->Nat->Bool}{S:Nat->List (List Int)}(hv:validF ps=true)(hl:SynOk ps l)(hG:GenX ps l S)(hW:WhlX ps S){c:Nat->Nat}(hr:∀p,p<ps.length->c p<=nev ps p)
  (h:∀p,p<ps.length->bad p (c p)=true/\excB ps.length S c p=false):ctlB ps l bad=false:=by
 cases hc:ctlB ps l bad with
 | false=>rfl
 | true =>
  refine absurd ⟨c,ctl_stop hv hl hG hW hr (fun p hp=>(h p hp).1) fun p q hp hq hne=>?_⟩ (ctlB_true.1 hc)
  refine Int.not_lt.1 fun hlt=>?_
  have:=(h p hp).2
  rw[excB_iff.2 ⟨q,hq,hne,hlt⟩] at this;cases this
def roomX (ps:List Pr)(c:Nat->Nat):Nat:=totS ps.length fun q=>nev ps q+1 - c q
theorem roomX_lt {ps:List Pr}{c:Nat->Nat}{p:Nat}(hp:p<ps.length)(h:c p<=nev ps p):roomX ps (updN c p (c p+1))<roomX ps c:=by
 have:=totS_lt (c:=fun q=>nev ps q+1 - c q) (c':=fun q=>nev ps q+1 - updN c p (c p+1) q) (p:=p) (fun q hq=>by rw[updN_ne hq]) (by rw[updN_self];omega) ps.length
 rw[if_pos hp] at this
 unfold roomX
 omega
set_option maxHeartbeats 2000000 in
theorem order_controls (ps:List Pr)(hs:Sm ps)(hv:validF ps=true)(l:List Syn)(hl:SynOk ps l)(S:Nat->List (List Int))(hG:GenX ps l S)(hW:WhlX ps S)(w:Bool)(bad:Nat->Nat->Bool) :
  PC prog 58 [aOrd ps S w,.sl 1 ((List.range ps.length).map fun p=>.sl 1 ((List.range (nev ps p+1)).map fun k=>ab (bad p k)))] (ab (ctlB ps l bad)):=by
 have hps:=hs.procs
 have hT:=tab_ok hv hl hG hW
 have hex:=fun c hc p hp=>order_excluded ps hs S w hT c hc p hp
 have hB:∀p,p<ps.length->((List.range ps.length).map fun p=>AV.sl 1 ((List.range (nev ps p+1)).map fun k=>ab (bad p k))).getD p .any = .sl 1 ((List.range (nev ps p+1)).map fun k=>ab (bad p k)):=fun p hp=>map_range_getD hp _
 have hBl:∀p,((List.range (nev ps p+1)).map fun k=>ab (bad p k)).length=nev ps p+1:=fun p=>by simp
 have hBk:∀p k,k<=nev ps p->((List.range (nev ps p+1)).map fun k=>ab (bad p k)).getD k .any=ab (bad p k):=fun p k hk=>map_range_getD (by omega) _
 have hBn:∀p,((List.range (nev ps p+1)).map fun k=>ab (bad p k)).getD (nev ps p+1) .any = .any:=fun p=>by
  rw[List.getD_eq_getElem?_getD,List.getElem?_eq_none (by simp)];rfl
 have hTl:((List.range ps.length).map fun p=>AV.sl 1 ((List.range (nev ps p+1)).map fun k=>ab (bad p k))).length=ps.length:=by simp
 have hz:List.replicate ps.length (ai 0)=dnA ps.length fun _=>0:=by
  unfold dnA
  rw[List.map_const',List.length_range];rfl
 have hnv:∀p,p<ps.length->nev ps p<=1000000:=fun p hp=>by rw[nev_get hp];exact hs.evs _ (List.getElem_mem hp)
 have hout:=fun c (h:UpX ps l bad c) p hp=>h.out (p:=p) hp
 have hbump:=fun c (h:UpX ps l bad c) p hp=>h.bump (S:=S) hv hl hG hW (p:=p) hp
 have hstop:=fun c=>UpX.stop (bad:=bad) (c:=c) hv hl hG hW
 have h0:UpX ps l bad fun _=>0:=fun d _ p _=>Nat.zero_le _
 obtain⟨BR,hBR⟩:∃BR:Nat->List AV,BR=fun p=>(List.range (nev ps p+1)).map fun k=>ab (bad p k):=⟨_,rfl⟩
 have hBRp:∀p,((List.range (nev ps p+1)).map fun k=>ab (bad p k))=BR p:=fun p=>by rw[hBR]
 simp only[hBRp] at hB hBl hBk hBn hTl ⊢
 clear hBR hBRp
 generalize ctlB ps l bad=R at *
 generalize (List.range ps.length).map (fun p=>AV.sl 1 (BR p))=BT at *
 obtain⟨O,hO⟩:∃O,O=aOrd ps S w:=⟨_,rfl⟩
 have hOf:AL.fo O=(True,O):=by rw[hO];rfl
 rw[<- hO] at hex ⊢
 clear hO
 refine PE 64 [.tmp 4] [] func58 ?_;simp only[go_sem]
 refine W2 hOf hTl ?_
 intro b5
 have hz':List.replicate ps.length (AV.v (Value.int IntKind.i64 0))=dnA ps.length fun _=>0:=hz
 rw[hz']
 refine AWp.block (AWp.loopN [] [0,1,5] (fun m vs L=>vs=[]/\∃c:Nat->Nat,L=[(b5,.row 3 1 (dnA ps.length c) ps.length)]/\(∀q,q<ps.length->c q<=nev ps q)/\UpX ps l bad c/\m=roomX ps c) (roomX ps fun _=>0) ⟨rfl,_,rfl,fun _ _=>Nat.zero_le _,h0,rfl⟩ ?_)
 rintro m vs L - ⟨rfl,c0,rfl,hc0,hu0,rfl⟩
 simp only[go_sem,hOf]
 repeat(first|((with_reducible refine AWp.ofC ?_ ?_);exact rfl;simp only[go_sem,hOf,dnA_length])|((with_reducible refine an ?_ ?_);exact Au))
 refine AWp.range' ps.length [6] [0,1,5,12] (fun p vs L=>∃(c:Nat->Nat) (mv:Bool),vs=[ab mv]/\L=[(b5,.row 3 1 (dnA ps.length c) ps.length)]/\(∀q,q<ps.length->c q<=nev ps q)/\UpX ps l bad c /\
  (mv=false->c=c0/\∀q,q<p->bad q (c q)=true/\excB ps.length S c q=false)/\(mv=true->roomX ps c<roomX ps c0)) (by omega) rfl rfl rfl ⟨c0,false,rfl,rfl,hc0,hu0,fun _=>⟨rfl,fun _ h=>by omega⟩,fun h=>by cases h⟩ ?_ ?_
 ·rintro p vs L hp - ⟨c1,m1,rfl,rfl,hc1,hu1,hf1,ht1⟩
  simp only[go_sem,hOf]
  refine W1 hOf ?_
  refine AWp.seq (AWp.block (AWp.loopN [6] [0,1,5,7,12,13] (fun m vs L=>∃(c:Nat->Nat) (mv:Bool),vs=[ab mv]/\L=[(b5,.row 3 1 (dnA ps.length c) ps.length)]/\(∀q,q<ps.length->q ≠ p->c q<=nev ps q)/\c p<=nev ps p+1/\UpX ps l bad c /\
   (mv=false->c=c0/\∀q,q<p->bad q (c q)=true/\excB ps.length S c q=false)/\(mv=true->roomX ps c<roomX ps c0)/\m=nev ps p+1 - c p) (nev ps p+1 - c1 p) ⟨c1,m1,rfl,rfl,fun q hq _=>hc1 q hq,Nat.le_succ_of_le (hc1 p hp),hu1,hf1,ht1,rfl⟩ ?_))
  rintro m vs L - ⟨c,mv,rfl,rfl,hcq,hcp,hu,hf,ht,rfl⟩
  have gc:=dnA_get hp c
  have gB:=hB p hp
  have hnp:=hnv p hp
  by_cases hcn:c p<=nev ps p
  ·have gk:=hBk p (c p) hcn
   have hx:=hex c (fun q hq=>by by_cases e:q=p;· subst e;exact hcn
                                ·exact hcq q hq e) p hp
   have hlt:(c p:Int)<((nev ps p+1:Nat):Int):=by omega
   have hvw:Vws [(b5,.row 3 1 (dnA ps.length c) ps.length)] [O,.ls b5 1 0 ps.length ps.length,ai p] [O,.sl 1 (dnA ps.length c),ai p]:=Vws.cons (.refl _) (Vws.cons (Vw.ofLs (t:=3) (cap:=ps.length) (if_pos rfl) (dnA_length _ _).symm) (Vws.refl _))
   simp only[go_sem,hOf]
   refine AWp.seq (AWp.seq ?_)
   refine Sq ?_
   refine AWp.read mixed [0,1,2,3,4,5,6,7,8,9,10,11,12,13,14,15,16,17,18,19,20,21,22,23,24,25,26,27,28] (by kernel_rfl) ?_;simp only[go_sem,gc,gB,gk,hBl,dnA_length,hTl,hOf,hlt]
   refine Sd ?_
   refine GCall.use (ab (excB ps.length S c p)) ?_ ?_
   ·intro _;exact⟨At,(PC.view hvw hx (Own.v _) ⟨rfl,rfl⟩).val⟩
   simp only[go_sem,hOf]
   refine Sd ?_
   have hset:(dnA ps.length c).set p (ai ((c p:Int)+1))=dnA ps.length (updN c p (c p+1)):=dnA_set (by rw[updN_self];omega) fun q hq=>updN_ne hq
   have hroom:=roomX_lt hp hcn
   generalize hxe:excB ps.length S c p=xe at *
   generalize hbe:bad p (c p)=be at *
   refine W1 hOf ?_
   constructor<;>intro h1
   ·have hbx:be=false\/xe=true:=by
     cases be with
     | false=>exact .inl rfl
     | true=>exact .inr (by simpa using h1)
    repeat(first|((with_reducible refine AWp.ofC ?_ ?_);exact rfl;simp only[go_sem,gc,dnA_length,hOf,hset])|((with_reducible refine an ?_ ?_);exact Au))
    have hm:mv=false->roomX ps c<=roomX ps c0:=fun h=>by rw[(hf h).1];exact Nat.le_refl _
    refine⟨_,.refl _,_,?_,updN c p (c p+1),true,rfl,rfl,fun q hq hqp=>by rw[updN_ne hqp];exact hcq q hq hqp,by rw[updN_self];omega,hbump c hu p hp hcq (by rw[hbe,hxe];exact hbx),fun h=>(by cases h),fun _=>?_,rfl⟩
    ·rw[updN_self];omega
    ·cases mv with
     | true=>have:=ht rfl;omega
     | false=>have:=hm rfl;omega
   ·intro h2
    have hne:¬(c p:Int)=((nev ps p+1:Nat):Int):=by omega
    have hall:∀q,q<ps.length->c q<=nev ps q:=fun q hq=>by
     by_cases e:q=p
     ·subst e;exact hcn
     ·exact hcq q hq e
    have hf':mv=false->c=c0/\∀q,q<p+1->bad q (c q)=true/\excB ps.length S c q=false:=fun hm=>by
     obtain⟨g1,g2⟩:=hf hm
     refine⟨g1,fun q hq=>?_⟩
     by_cases e:q=p
     ·subst e;rw[hbe,hxe];exact⟨h1,h2⟩
     ·exact g2 q (by omega)
    refine AWp.seq ?_
    refine Sq ?_
    refine AWp.read mixed [0,1,2,3,4,5,6,7,8,9] (by kernel_rfl) ?_;simp only[go_sem,gc,gB,hBl,dnA_length,hTl,hOf,hne]
    refine Sd ?_
    refine W2 hne hOf ?_
    exact⟨_,.refl _,c,mv,rfl,rfl,hall,hu,hf',ht⟩
  ·have hce:c p=nev ps p+1:=by omega
   have gk:(BR p).getD (c p) .any = .any:=by rw[hce];exact hBn p
   have hlt:¬(c p:Int)<((nev ps p+1:Nat):Int):=by omega
   have heq:(c p:Int)=((nev ps p+1:Nat):Int):=by omega
   simp only[go_sem,hOf]
   refine AWp.seq (AWp.seq ?_)
   refine Sq ?_
   refine AWp.read mixed [0,1,2,3,4,5,6,7,8,9,10,11,12,13,14,15,16,17,18,19,20,21,22,23,24,25,26,27,28] (by kernel_rfl) ?_;simp only[go_sem,gc,gB,gk,hBl,dnA_length,hTl,hOf,hlt]
   refine Sd ?_
   refine GCall.use (ab false) (fun h=>absurd h (by first|(simp;done)|trace_state)) ?_
   simp only[go_sem,hOf]
   refine Sd ?_
   refine Sd ?_
   refine AWp.of ?_;simp only[go_sem,hOf]
   refine AWp.seq ?_
   refine Sq ?_
   refine AWp.read mixed [0,1,2,3,4,5,6,7,8,9] (by kernel_rfl) ?_;simp only[go_sem,gc,gB,gk,hBl,dnA_length,hTl,hOf,hlt,heq]
   refine Sd ?_
   rw[hout c hu p hp (by omega)]
   refine W1 hOf ?_
   exact Rz
 ·rintro vs L - ⟨c,mv,rfl,rfl,hc1,hu1,hf1,ht1⟩
  simp only[go_sem,hOf]
  refine W1 hOf ?_
  constructor<;>intro h1
  ·obtain⟨rfl,hs⟩:=hf1 (by simpa using h1)
   rw[hstop c hc1 fun p hp=>hs p hp]
   refine Wk ?_
   exact Rz
  ·exact⟨_,.refl _,_,ht1 (by simpa using h1),c,rfl,hc1,hu1,rfl⟩
def lftX (ps:List Pr)(S:Nat->List (List Int)):Nat:=totS ps.length fun p=>nev ps p+1 - (S p).length
theorem tot_congr {n:Nat}{c c':Nat->Nat}(h:∀q,q<n->c q=c' q):totS n c=totS n c':=Nat.le_antisymm (totS_le2 n fun q hq=>Nat.le_of_eq (h q hq)) (totS_le2 n fun q hq=>Nat.le_of_eq (h q hq).symm)
theorem tot_off {ps:List Pr} : ∀k,k<=ps.length->totS k (nev ps)=off ps k
 | 0,_=>by simp [totS,off]
 | k+1,h=>by rw[totS_succ,tot_off k (by omega),off_succ (by omega),nev_get (by omega)]
theorem lft_init (ps:List Pr):lftX ps (fun _=>[List.replicate ps.length 0])=off ps ps.length:=by
 unfold lftX
 rw[<- tot_off ps.length (Nat.le_refl _)]
 exact tot_congr fun q _=>by simp
theorem lft_up {ps:List Pr}{S:Nat->List (List Int)}{p:Nat}(hp:p<ps.length)(h:(S p).length<=nev ps p)(v:List Int):lftX ps S=lftX ps (upS S p v)+1:=by
 unfold lftX
 rw[totS_bump (c:=fun q=>nev ps q+1 - (upS S p v q).length) (p:=p) (fun q=>by
  simp only[upS_len]
  by_cases e:q=p
  ·subst e;simp;omega
  ·simp [e]) ps.length,if_pos hp]
theorem lft_le {ps:List Pr}{l:List Syn}{S:Nat->List (List Int)}(h:GenX ps l S):lftX ps S<=off ps ps.length:=by
 unfold lftX
 rw[<- tot_off ps.length (Nat.le_refl _)]
 exact totS_le2 _ fun q _=>by have:=h.pos q;omega
theorem ex_ex (ps:List Pr)(l:List Syn):∃S,GenX ps l S/\∀p,¬RdyX ps l S p:=by
 suffices h:∀n S,GenX ps l S->lftX ps S<=n->∃S,GenX ps l S/\∀p,¬RdyX ps l S p from h _ _ .init (Nat.le_refl _)
 intro n
 induction n with
 | zero =>
  intro S hG h
  refine⟨S,hG,fun p hr=>?_⟩
  have:=lft_up hr.1 hr.2.1 (vecX ps l S p (S p).length)
  omega
 | succ n ih =>
  intro S hG h
  by_cases hx:∃p,RdyX ps l S p
  ·obtain⟨p,hr⟩:=hx
   have:=lft_up hr.1 hr.2.1 (vecX ps l S p (S p).length)
   exact ih _ (hG.step hr) (by omega)
  ·exact⟨S,hG,fun p hr=>hx ⟨p,hr⟩⟩
theorem exF_gen (ps:List Pr)(l:List Syn):GenX ps l (exF ps l):=by
 obtain⟨S,h1,h2⟩:=ex_ex ps l
 rw[exF_eq h1 h2];exact h1
theorem exF_stop (ps:List Pr)(l:List Syn):∀p,¬RdyX ps l (exF ps l) p:=by
 obtain⟨S,h1,h2⟩:=ex_ex ps l
 rw[exF_eq h1 h2];exact h2
theorem totS_zero {f:Nat->Nat} : ∀n,totS n f=0↔∀p,p<n->f p=0
 | 0=>by simp [totS]
 | n+1=>by
  rw[totS_succ,Nat.add_eq_zero_iff,totS_zero n]
  constructor
  ·rintro⟨h1,h2⟩ p hp
   by_cases e:p=n
   ·subst e;exact h2
   ·exact h1 p (by omega)
  ·exact fun h=>⟨fun p hp=>h p (by omega),h n (by omega)⟩
theorem lft_whl {ps:List Pr}{l:List Syn}{S:Nat->List (List Int)}(h:GenX ps l S):lftX ps S=0↔WhlX ps S:=by
 unfold lftX WhlX
 rw[totS_zero]
 constructor
 ·intro g p hp
  have:=g p hp
  have:=h.top p
  omega
 ·intro g p hp
  have:=g p hp
  omega
theorem rnk_sub {ps:List Pr}{l l':List Syn}(h:∀s ∈ l',s ∈ l){r:Eid->Nat}(hr:RnkX ps l r):RnkX ps l' r:=fun p hp i hi y hy=>by
 refine hr p hp i hi y ?_
 unfold dirX at hy ⊢
 rcases List.mem_append.1 hy with hy|hy
 ·exact List.mem_append_left _ hy
 ·obtain⟨s,h1,rfl⟩:=List.mem_map.1 hy
  obtain⟨h2,h3⟩:=List.mem_filter.1 h1
  exact List.mem_append_right _ (List.mem_map.2 ⟨s,List.mem_filter.2 ⟨h s h2,h3⟩,rfl⟩)
theorem synOk_nil (ps:List Pr):SynOk ps []:=fun s hs=>nomatch hs
theorem synOk_sub {ps:List Pr}{l l':List Syn}(h:∀s ∈ l',s ∈ l)(hl:SynOk ps l):SynOk ps l':=fun s hs=>hl s (h s hs)
theorem ex_nil_pt {ps:List Pr}(hv:validF ps=true)(hW:WhlX ps (exF ps [])){p:Nat}(hp:p<ps.length){i:Nat}(hi:i<nev ps p):stOf (exF ps []) p (i+1)=ptF ps p i:=by
 have hi':i<ps[p].evs.length:=by rw[nev_get hp] at hi;exact hi
 have hG:=exF_gen ps []
 have hst:=hG.st hv (synOk_nil ps) p (i+1) (by rw[hW p hp];omega)
 have hown:=hst.own hp
 have hpt:=pt_isN hv hp hi
 have hptl:(ptF ps p i).length=ps.length:=(isF_iff.1 hpt).1
 have hin:isF ps (stOf (exF ps []) p (i+1))=true:=by
  refine isF_of_CloX hst.len ((inRange_iff hst.len).2 fun q hq=>?_) hst.clo
  have h1:=hst.le q
  have h2:=hG.top q
  have h3:=hst.nn q
  have h4:=nev_get hq
  unfold cAt
  rw[Int.toNat_natCast]
  omega
 refine List.ext_getElem (by rw[hst.len,hptl]) fun q h1 h2=>?_
 have hq:q<ps.length:=by rw[hst.len] at h1;exact h1
 have a1:=hst.least (fun j=>(ptF ps p i).getD j 0) (CloX.of_isF hv hpt) (fun j=>by
  by_cases hj:j<ps.length
  ·have:=((inRange_iff hptl).1 (isF_iff.1 hpt).2.1 j hj).1
   unfold cAt at this;rwa [Int.toNat_natCast] at this
  ·rw[List.getD_eq_getElem?_getD,List.getElem?_eq_none (by omega)];exact Int.le_refl _) (by
  have:=pt_has (ps:=ps) (p:=p) (i:=i) hv hp hi'
  unfold cAt at this;rw[Int.toNat_natCast] at this;omega) q
 have a2:=pt_least hv hp hin (show (i:Int)+1<=cAt _ p by unfold cAt;rw[Int.toNat_natCast,hown];omega) q hq
 unfold cAt at a2
 rw[Int.toNat_natCast] at a2
 have e1:(stOf (exF ps []) p (i+1)).getD q 0=(stOf (exF ps []) p (i+1))[q]:=by rw[List.getD_eq_getElem?_getD,List.getElem?_eq_getElem h1,Option.getD_some]
 have e2:(ptF ps p i).getD q 0=(ptF ps p i)[q]:=by rw[List.getD_eq_getElem?_getD,List.getElem?_eq_getElem h2,Option.getD_some]
 rw[e1,e2] at a1 a2
 exact Int.le_antisymm a1 a2
theorem nil_whl {ps:List Pr}(hv:validF ps=true):WhlX ps (exF ps []):=by
 obtain⟨R,h1,h2,h3⟩:=wlk_go hv (zeroC_is ps) (fullC_is hv) ((leq_at (isF_iff.1 (zeroC_is ps)).1 (isF_iff.1 (fullC_is hv)).1).2 fun q hq=>by rw[fullC_at hq];unfold zeroC cAt;rw[getD_zeros];omega)
 exact whl_of hv (synOk_nil ps) (rnk_sub (l':=[]) (fun s (hs:s ∈ [])=>absurd hs (List.not_mem_nil)) (syn_rnk hv h2 h3.1)) (exF_gen ps []) (exF_stop ps [])
end Go.AL
end
