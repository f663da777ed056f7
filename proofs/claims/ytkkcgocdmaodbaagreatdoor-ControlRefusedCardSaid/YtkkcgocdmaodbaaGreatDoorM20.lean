/- Texts of this claim's proof: WY6, WY31, WY32. No condition. -/
import Derived.Test.YtkkcgocdmaodbaaGreatDoorM19
import Derived.Test.YtkkcgocdmaodbaaGreatDoorM10
import Derived.Test.YtkkcgocdmaodbaaGreatDoorM14
import Derived.Test.YtkkcgocdmaodbaaGreatDoorM12
import Derived.Test.YtkkcgocdmaodbaaGreatDoorM11
import Derived.Test.YtkkcgocdmaodbaaGreatDoorM18
section
namespace Go.AL
open Go Go.RowKit
set_option maxRecDepth 4000
theorem evaluate_TruthsO (ps:List Pr) (hs:Sm ps) (i:Nat) (hp:i<ps.length) (t:Pd) (hz:szF t≤1000000) (he:lclF ps i 0 t=0) :
  MCalls Proofs.Tryz.prog 10 [aTr ps,ai i,aPd t] [] fun r L=>∃b cap,r = .tup [.ls b 1 0 (ps[i].evs.length+1) cap,ai 0]∧L=[(b,.row 4 1 ((List.range (ps[i].evs.length+1)).map fun (k:Nat)=>ab (lclT ps i t k)) cap)]:=by
 have h1:=evaluate_check ps hs i 0 t hz
 have hl:=hs.procs
 rw[he] at h1
 obtain⟨hc,_,_,_,h9,hlc⟩:=lcl_ok he
 have hel:=hs.evs _ (List.getElem_mem hp)
 have hgp:=getD_map (f:=aPr) hp
 have hst:=fun (k:Nat) hk=>evaluate_inState ps hs i k hp hk t hz hc h9 hlc
 have hy:∀k,((List.range k).map fun (k:Nat)=>ab (lclT ps i t k)).length=k:=fun k=>by simp
 have hys:∀k,((List.range (k+1)).map fun (k:Nat)=>ab (lclT ps i t k))=((List.range k).map fun (k:Nat)=>ab (lclT ps i t k)) ++ [ab (lclT ps i t k)]:=fun k=>by rw[List.range_succ,List.map_append];rfl
 obtain⟨k0,n,pp,q,s,l⟩:=t
 simp only[aPd_mk] at *
 generalize hY:(fun k:Nat=>(List.range k).map fun (j:Nat)=>ab (lclT ps i (.mk k0 n pp q s l) j))=Y at *
 have hYk:∀k,((List.range k).map fun (j:Nat)=>ab (lclT ps i (.mk k0 n pp q s l) j))=Y k:=fun k=>by rw[← hY]
 simp only[hYk] at hy hys ⊢
 refine MCalls.enter' 39 [.tmp 6,.tmp 7] [3,5,35] Proofs.Tryz.func10 rfl rfl rfl rfl rfl (by simp) (AWp.of ?_);simp only[go_sem]
 refine Wk ?_
 refine Sd ?_
 refine(h1).val.use ?_;simp only[go_sem]
 refine W1 hgp ?_
 refine AWp.range' (ps[i].evs.length+1) [9] [1,3,5,25] (fun k vs L=>∃v,vs=[v]∧AppSt 4 1 (Y k) v L) (by omega) rfl rfl rfl ⟨anil,rfl,by rw[← hY];exact .nil⟩ ?_ ?_
 ·rintro k vs L' hk - ⟨v,rfl,hA⟩
  have hyl:=hy k
  have hst:=hst k (by omega)
  rw[hys k]
  have hfo:=hA.fo
  generalize Y k=ys at *
  generalize lclT ps i (.mk k0 n pp q s l) k=b at *
  rcases hA.inv with ⟨e1,rfl,rfl⟩|⟨b',cap,rfl,rfl⟩
  ·simp only[go_sem]
   refine Wk ?_
   refine Sd ?_
   refine(hst).val.use ?_;simp only[go_sem]
   refine Sd ?_
   intro b' cap' _
   refine⟨_,List.Sublist.refl _,_,rfl,?_⟩
   rw[e1]
   exact .row _ _ _
  ·simp only[go_sem]
   refine Wk ?_
   refine Sd ?_
   refine(hst).val.use ?_;simp only[go_sem]
   refine Sd ?_
   intro b' cap' _
   refine⟨_,List.Sublist.refl _,_,rfl,?_⟩
   have:=AppSt.row (t:=4) (k:=1) b' (ys ++ [ab b]) cap'
   simpa using this
 ·rintro vs L' - ⟨v,rfl,hA⟩
  have hyl:=hy (ps[i].evs.length+1)
  generalize Y (ps[i].evs.length+1)=ys at *
  simp only[go_sem]
  rcases hA.inv with ⟨e1,rfl,rfl⟩|⟨b,cap,rfl,rfl⟩
  ·rw[e1] at hyl;simp at hyl
  ·refine Wk ?_
   refine ret_own ?_
   simp only[go_sem]
   exact⟨b,cap,by rw[hyl],rfl⟩
noncomputable def badX (ps:List Pr) (ts:List Pd) (p k:Nat):Bool:=!(elimOf ps ts).ok p k
theorem badX_get {ps:List Pr} {ts:List Pd} {p:Nat} (hp:p<ts.length) (k:Nat):badX ps ts p k = !lclT ps p ts[p] k:=by
 show (!(match ts[p]? with|some t=>lclT ps p t k|none=>true))=_
 rw[List.getElem?_eq_getElem hp]
noncomputable def falL (ps:List Pr) (ts:List Pd) (p:Nat):List AV:=(List.range (nev ps p+1)).map fun k=>ab (badX ps ts p k)
noncomputable def falT (ps:List Pr) (ts:List Pd):AV:=.sl 1 ((List.range ps.length).map fun p => .sl 1 (falL ps ts p))
theorem control_stretches (b:Nat→Bool) (i K:Nat) (hK:K≤1000001):PC Proofs.Tryz.prog 32 [ai i,.sl 1 ((List.range K).map fun k=>ab (b k))] (.sl 3 ((spL b i K).map aStp)):=by
 have hT:∀k,k<K→((List.range K).map fun k=>ab (b k)).getD k .any=ab (b k):=fun k hk=>map_range_getD hk _
 have hTl:((List.range K).map fun k=>ab (b k)).length=K:=by simp
 generalize (List.range K).map (fun k=>ab (b k))=T at *
 refine PC.enter 44 [.tmp 4] [20] Proofs.Tryz.func32 rfl rfl rfl rfl rfl (by simp) (AWp.of ?_);simp only[go_sem]
 refine Wk ?_
 refine AWp.range' T.length [5] [0,1,8,9] (fun k vs L=>∃v,vs=[v]∧AppSt 80 3 ((spL b i k).map aStp) v L) (by omega) rfl rfl rfl ⟨anil,rfl,.nil⟩ ?_ ?_
 ·rintro k vs L' hk - ⟨v,rfl,hA⟩
  have g0:=hT k (by omega)
  have g1:=hT (k - 1) (by omega)
  have gk:((k:Int) - 1).toNat=k - 1:=by omega
  have hfo:=hA.fo
  cases hbk:b k with
  | false =>
   rw[hbk] at g0
   rw[spL_no hbk]
   simp only[go_sem]
   refine W3 g0 hTl hfo ?_
   exact⟨_,List.Sublist.refl _,v,rfl,hA⟩
  | true =>
   rw[hbk] at g0
   simp only[go_sem]
   refine W5 g0 g1 gk hTl hfo ?_
   refine⟨fun h2 h3 => ?_,fun h2 => ?_⟩
   ·obtain⟨d,f,e1,e2⟩:=spL_on (b:=b) (p:=i) (k:=k) hbk (by rw[decide_eq_true (by omega),h3];rfl)
    rw[e1] at hA
    rw[e2]
    have gl:((d ++ [(i,f,k - 1)]).map aStp).getD (((d ++ [(i,f,k - 1)]).map aStp).length - 1) .any = .agg [ai i,ai f,ai ((k - 1:Nat):Int)]:=last_get d (i,f,k - 1)
    have gs:((d ++ [(i,f,k - 1)]).map aStp).set (((d ++ [(i,f,k - 1)]).map aStp).length - 1) (.agg [ai i,ai f,ai k])=(d ++ [(i,f,k)]).map aStp:=last_set d (i,f,k - 1) (i,f,k)
    have hyl:1≤((d ++ [(i,f,k - 1)]).map aStp).length:=by simp
    have hyk:=spL_len (b:=b) (p:=i) k
    rw[e1,← List.length_map (f:=aStp)] at hyk
    have hll:((d ++ [(i,f,k)]).map aStp).length=((d ++ [(i,f,k - 1)]).map aStp).length:=by simp
    generalize ((d ++ [(i,f,k - 1)]).map aStp)=ys at *
    generalize ((d ++ [(i,f,k)]).map aStp)=zs at *
    have gn:((ys.length:Int) - 1).toNat=ys.length - 1:=by omega
    rcases hA.inv with ⟨e3,_,_⟩|⟨bq,cap,rfl,rfl⟩
    ·rw[e3] at hyl;simp at hyl
    ·refine Wk ?_
     simp only[go_sem,gl,gn,gs]
     refine Sd ?_
     refine⟨_,List.Sublist.refl _,_,rfl,?_⟩
     rw[← hll]
     exact .row _ _ _
   ·have e0:(decide (0<k) && b (k - 1))=false:=by
     by_cases h3:0<k
     ·rw[decide_eq_true h3,Bool.true_and];simpa using h2 (by omega)
     ·rw[decide_eq_false h3];rfl
    rw[spL_new hbk e0,List.map_append]
    have ea:[(i,k,k)].map aStp=[.agg [ai i,ai k,ai k]]:=rfl
    rw[ea]
    have hyl:=spL_len (b:=b) (p:=i) k
    rw[← List.length_map (f:=aStp)] at hyl
    generalize (spL b i k).map aStp=ys at *
    rcases hA.inv with ⟨e3,rfl,rfl⟩|⟨bq,cap,rfl,rfl⟩
    ·subst e3
     simp only[go_sem]
     refine Sd ?_
     intro b' cap' _
     refine⟨_,List.Sublist.refl _,_,rfl,?_⟩
     exact .row _ _ _
    ·simp only[go_sem]
     refine Sd ?_
     intro b' cap' _
     refine⟨_,List.Sublist.refl _,_,rfl,?_⟩
     have:=AppSt.row (t:=80) (k:=3) b' (ys ++ [.agg [ai i,ai k,ai k]]) cap'
     simpa using this
 ·rintro vs L' - ⟨v,rfl,hA⟩
  rw[hTl] at hA
  generalize (spL b i K).map aStp=ys at *
  rcases hA.inv with ⟨e3,rfl,rfl⟩|⟨bq,cap,rfl,rfl⟩
  ·simp only[go_sem]
   refine Wk ?_
   refine ret_view [] ?_;simp only[go_sem]
   rw[e3]
   exact .nil 3
  ·simp only[go_sem]
   refine Wk ?_
   refine ret_view [true] ?_;simp only[go_sem]
   exact Vw.ofLs (if_pos rfl) rfl
theorem falL_get {ps:List Pr} {ts:List Pd} {p:Nat} (hp:p<ts.length) (hpp:p<ps.length):falL ps ts p=(List.range (ps[p].evs.length+1)).map fun (k:Nat)=>ab (!lclT ps p ts[p] k):=by
 unfold falL
 rw[nev_get hpp]
 exact List.map_congr_left fun k _=>by rw[badX_get hp]
def negL (f:Nat→Bool) (K j:Nat):List AV:=(List.range K).map fun k=>ab (if k<j then !f k else f k)
theorem negL_len (f:Nat→Bool) (K j:Nat):(negL f K j).length=K:=by simp [negL]
theorem negL_zero (f:Nat→Bool) (K:Nat):negL f K 0=(List.range K).map fun k=>ab (f k):=List.map_congr_left fun k _=>by rw[if_neg (by omega)]
theorem negL_full (f:Nat→Bool) (K:Nat):negL f K K=(List.range K).map fun k=>ab (!f k):=List.map_congr_left fun k hk=>by rw[if_pos (List.mem_range.1 hk)]
theorem negL_get {f:Nat→Bool} {K j:Nat} (hj:j<K):(negL f K j).getD j .any=ab (f j):=by
 unfold negL
 rw[map_range_getD hj,if_neg (by omega)]
theorem negL_elem {f:Nat→Bool} {K j k:Nat} (h:k<(negL f K j).length):(negL f K j)[k]=ab (if k<j then !f k else f k):=by simp [negL]
theorem negL_set {f:Nat→Bool} {K j:Nat} (_hj:j<K):(negL f K j).set j (ab (!f j))=negL f K (j+1):=by
 refine List.ext_getElem (by rw[List.length_set,negL_len,negL_len]) fun k h1 h2 => ?_
 rw[List.getElem_set,negL_elem,negL_elem]
 by_cases e:j=k
 ·subst e;rw[if_pos rfl,if_pos (by omega)]
 ·rw[if_neg e]
  by_cases h:k<j
  ·rw[if_pos h,if_pos (by omega)]
  ·rw[if_neg h,if_neg (by omega)]
theorem control_falsehoods (ps:List Pr) (hs:Sm ps) (ts:List Pd) (hz:∀t ∈ ts,szF t≤1000000) (htl:ts.length≤1000000) :
  PC Proofs.Tryz.prog 31 [aTr ps,.sl 6 (ts.map aPd)] (if conF ps ts=0 then .tup [falT ps ts,ai 0] else .tup [.sl 1 [],ai (conF ps ts)]):=by
 have h1:=trace_Valid ps hs
 have hps:=hs.procs
 by_cases hvl:validF ps=true∧ts.length=ps.length
 ·obtain⟨hv,hlen⟩:=hvl
  have hli:(ts.length:Int)=ps.length:=by omega
  rw[hv] at h1
  have hhit:=fun p hp=>conF_hit (ps:=ps) (ts:=ts) ⟨hv,hlen⟩ (p:=p) hp
  have hzero:=fun h=>conF_zero (ps:=ps) (ts:=ts) ⟨hv,hlen⟩ h
  unfold falT
  generalize conF ps ts=C at *
  refine PC.enter 60 [.tmp 4,.tmp 5] [2,8,56] Proofs.Tryz.func31 rfl rfl rfl rfl rfl (by simp) (AWp.of ?_);simp only[go_sem]
  refine Wk ?_
  refine Sd ?_
  refine(h1).val.use ?_;simp only[go_sem]
  refine W1 hli ?_
  refine AWp.range' ps.length [6] [2,23,24] (fun p vs L=>∃v,vs=[v]∧AppSt 38 1 ((List.range p).map fun p => .sl 1 (falL ps ts p)) v L∧∀q (hq:q<ts.length),q<p→lclF ps q 0 ts[q]=0) (by omega) rfl rfl rfl ⟨anil,rfl,.nil,fun q _ h=>by omega⟩ ?_ ?_
  ·rintro p vs L hpp - ⟨v,rfl,hA,h0⟩
   have hp:p<ts.length:=by omega
   have hg:=getD_map (f:=aPd) hp
   have hel:=hs.evs _ (List.getElem_mem hpp)
   have hzp:=hz _ (List.getElem_mem hp)
   have hfo:=hA.fo
   have hyl:((List.range p).map fun p=>AV.sl 1 (falL ps ts p)).length=p:=by simp
   have hys:((List.range (p+1)).map fun p=>AV.sl 1 (falL ps ts p))=((List.range p).map fun p=>AV.sl 1 (falL ps ts p)) ++ [.sl 1 (falL ps ts p)]:=by rw[List.range_succ,List.map_append];rfl
   have hfl:=falL_get hp hpp
   by_cases he:lclF ps p 0 ts[p]=0
   ·rw[hys]
    have h2:=evaluate_TruthsO ps hs p hpp ts[p] hzp he
    have hn:∀q (hq:q<ts.length),q<p+1→lclF ps q 0 ts[q]=0:=fun q hq hqp=>by
     by_cases e:q=p
     ·subst e;exact he
     ·exact h0 q hq (by omega)
    rw[hfl]
    clear h0 he hzp hfl hys
    generalize (List.range p).map (fun p=>AV.sl 1 (falL ps ts p))=ys at *
    obtain⟨f,hf⟩:∃f:Nat→Bool,f=fun (k:Nat)=>lclT ps p ts[p] k:=⟨_,rfl⟩
    have hfk:∀k:Nat,lclT ps p ts[p] k=f k:=fun k=>by rw[hf]
    simp only[hfk] at h2 ⊢
    clear hf hfk
    rw[← negL_zero] at h2
    rw[← negL_full]
    generalize ts[p]=t at *
    have hK:ps[p].evs.length+1≤1000001:=by omega
    generalize ps[p].evs.length+1=K at *
    obtain⟨k0,n,pp,q,s,l⟩:=t
    simp only[aPd_mk] at hg h2
    simp only[go_sem]
    refine W2 hg hfo ?_
    intros
    refine W2 hg hfo ?_
    refine MVal.mono (MVal.frame (Lm:=[]) (Lr:=L) h2.val) ?_
    rintro r L' ⟨L1,rfl,bb,cap,rfl,rfl⟩
    have hfo9:AL.fo (AV.ls bb 1 0 K cap)=(True,.ls bb 1 0 K cap):=rfl
    simp only[go_sem]
    refine W1 hfo ?_
    refine AWp.range' K [] [2,6,9,23,24,25,41] (fun j vs L'=>vs=[]∧L'=(bb,.row 4 1 (negL f K j) cap) :: L) (by omega) rfl rfl rfl ⟨rfl,rfl⟩ ?_ ?_
    ·rintro j vs L' hj - ⟨rfl,rfl⟩
     have hgj:=negL_get (f:=f) hj
     have hsj:=negL_set (f:=f) hj
     have hlj:=negL_len f K j
     simp only[go_sem]
     refine W3 hgj hlj hfo ?_
     exact⟨_,List.Sublist.refl _,by rw[hsj]⟩
    ·rintro vs L' - ⟨rfl,rfl⟩
     refine AWp.viewP (Lf:=[(bb,_)]) (Lk:=L) (L':=L) (List.Perm.refl _) (LVw.refl _) [(9,.sl 1 (negL f K K))] (fun q hq => ?_) ?_
     ·simp only[List.mem_singleton] at hq
      subst hq
      simp only[go_sem]
      exact Vw.ofLs (t:=4) (cap:=cap) (if_pos rfl) (by rw[negL_len])
     generalize negL f K K=row at *
     rcases hA.inv with ⟨e1,rfl,rfl⟩|⟨bq,cq,rfl,rfl⟩
     ·simp only[go_sem]
      refine Wk ?_
      intro b' cap' g8
      refine Wk ?_
      exact⟨_,List.Sublist.refl _,_,rfl,by rw[e1];exact .row _ _ _,hn⟩
     ·simp only[go_sem]
      refine Wk ?_
      refine Sd ?_
      intro b' cap' g8
      refine Wk ?_
      exact⟨_,List.Sublist.refl _,_,rfl,AppSt.snoc _ _ _ rfl,hn⟩
   ·have hC:=hhit p hp h0 he
    have h2:=evaluate_Truths ps hs p ts[p] hzp
    unfold aTruths at h2
    rw[if_neg he] at h2
    subst hC
    rw[if_neg he]
    generalize lclF ps p 0 ts[p]=e at *
    generalize ts[p]=t at *
    obtain⟨k0,n,pp,q,s,l⟩:=t
    simp only[aPd_mk] at hg h2
    simp only[go_sem]
    refine W2 hg hfo ?_
    intros
    refine W2 hg hfo ?_
    refine Sd ?_
    refine(h2).val.use ?_;simp only[go_sem]
    refine W2 he hfo ?_
    refine ret_view [] ?_;simp only[go_sem]
    exact .mkTup (Vws.cons (.nil 1) (Vws.refl _))
  ·rintro vs L - ⟨v,rfl,hA,h0⟩
   have hC:=hzero fun q hq=>h0 q hq (by omega)
   subst hC
   rw[if_pos rfl]
   generalize (List.range ps.length).map (fun p=>AV.sl 1 (falL ps ts p))=ys at *
   rcases hA.inv with ⟨e1,rfl,rfl⟩|⟨b,cap,rfl,rfl⟩
   ·simp only[go_sem]
    refine Wk ?_
    refine ret_view [] ?_;simp only[go_sem]
    rw[e1]
    exact .mkTup (Vws.cons (.nil 1) (Vws.refl _))
   ·simp only[go_sem]
    refine Wk ?_
    refine ret_view [true] ?_;simp only[go_sem]
    exact .mkTup (Vws.cons (Vw.ofLs (if_pos rfl) rfl) (Vws.refl _))
 ·have hC:=conF_bad (ts:=ts) hvl
  rw[hC,if_neg (by decide)]
  by_cases hv:validF ps=true
  ·have hli:¬(ts.length:Int)=ps.length:=fun e=>hvl ⟨hv,by omega⟩
   rw[hv] at h1
   refine PC.enter 60 [.tmp 4,.tmp 5] [2,8,56] Proofs.Tryz.func31 rfl rfl rfl rfl rfl (by simp) (AWp.of ?_);simp only[go_sem]
   refine Wk ?_
   refine Sd ?_
   refine(h1).val.use ?_;simp only[go_sem]
   refine W1 hli ?_
   refine ret_view [] ?_;simp only[go_sem]
   exact .mkTup (Vws.cons (.nil 1) (Vws.refl _))
  ·rw[Bool.not_eq_true] at hv
   rw[hv] at h1
   refine PC.enter 60 [.tmp 4,.tmp 5] [2,8,56] Proofs.Tryz.func31 rfl rfl rfl rfl rfl (by simp) (AWp.of ?_);simp only[go_sem]
   refine Wk ?_
   refine Sd ?_
   refine(h1).val.use ?_;simp only[go_sem]
   refine Wk ?_
   refine ret_view [] ?_;simp only[go_sem]
   exact .mkTup (Vws.cons (.nil 1) (Vws.refl _))
noncomputable def rowsX (ps:List Pr) (ts:List Pd) (p:Nat):List Stp:=spL (badX ps ts p) p (nev ps p+1)
noncomputable def aRowsX (ps:List Pr) (ts:List Pd):AV:=.sl 1 ((List.range ps.length).map fun p => .sl 3 ((rowsX ps ts p).map aStp))
theorem control_False (ps:List Pr) (hs:Sm ps) (ts:List Pd) (hz:∀t ∈ ts,szF t≤1000000) (htl:ts.length≤1000000) :
  PC Proofs.Tryz.prog 25 [aTr ps,.sl 6 (ts.map aPd)] (if conF ps ts=0 then .tup [aRowsX ps ts,ai 0] else .tup [.sl 1 [],ai (conF ps ts)]):=by
 have h1:=control_falsehoods ps hs ts hz htl
 have hps:=hs.procs
 by_cases hC:conF ps ts=0
 ·rw[if_pos hC] at h1 ⊢
  unfold falT at h1
  unfold aRowsX
  refine PC.enter 35 [.tmp 4,.tmp 5] [2,31] Proofs.Tryz.func25 rfl rfl rfl rfl rfl (by simp) (AWp.of ?_);simp only[go_sem]
  refine Wk ?_
  refine Sd ?_
  refine(h1).val.use ?_;simp only[go_sem]
  repeat(first|((with_reducible refine AWp.ofC ?_ ?_);exact rfl;simp only[go_sem,List.length_range])|((with_reducible refine an ?_ ?_);exact Au))
  refine AWp.range' ps.length [8] [20,21] (fun p vs L=>∃v,vs=[v]∧AppSt 49 1 ((List.range p).map fun p => .sl 3 ((rowsX ps ts p).map aStp)) v L) (by omega) rfl rfl rfl ⟨anil,rfl,.nil⟩ ?_ ?_
  ·rintro p vs L hp - ⟨v,rfl,hA⟩
   have hg:((List.range ps.length).map fun p=>AV.sl 1 (falL ps ts p)).getD p .any = .sl 1 (falL ps ts p):=map_range_getD hp _
   have hel:=hs.evs _ (List.getElem_mem hp)
   have hn:=nev_get hp
   have h2:=control_stretches (badX ps ts p) p (nev ps p+1) (by omega)
   have hfo:=hA.fo
   have hyl:((List.range p).map fun p=>AV.sl 3 ((rowsX ps ts p).map aStp)).length=p:=by simp
   have hys:((List.range (p+1)).map fun p=>AV.sl 3 ((rowsX ps ts p).map aStp))=((List.range p).map fun p=>AV.sl 3 ((rowsX ps ts p).map aStp)) ++ [.sl 3 ((rowsX ps ts p).map aStp)]:=by rw[List.range_succ,List.map_append];rfl
   rw[hys]
   change PC _ _ [_,.sl 1 (falL ps ts p)] (.sl 3 ((rowsX ps ts p).map aStp)) at h2
   clear hys
   generalize (List.range p).map (fun p=>AV.sl 3 ((rowsX ps ts p).map aStp))=ys at *
   generalize (rowsX ps ts p).map aStp=row at *
   generalize falL ps ts p=fl at *
   rcases hA.inv with ⟨e1,rfl,rfl⟩|⟨bq,cq,rfl,rfl⟩
   ·simp only[go_sem]
    refine W1 hg ?_
    refine Sd ?_
    refine AWp.of ?_;simp only[go_sem]
    refine Sd ?_
    refine(h2).val.use ?_;simp only[go_sem]
    refine W1 hg ?_
    intro b' cap' g8
    refine Wk ?_
    exact⟨_,List.Sublist.refl _,_,rfl,by rw[e1];exact .row _ _ _⟩
   ·simp only[go_sem]
    refine W1 hg ?_
    refine Sd ?_
    refine AWp.of ?_;simp only[go_sem]
    refine Sd ?_
    refine(h2).val.use ?_;simp only[go_sem]
    refine W1 hg ?_
    refine Sd ?_
    intro b' cap' g8
    refine Wk ?_
    exact⟨_,List.Sublist.refl _,_,rfl,AppSt.snoc _ _ _ rfl⟩
  ·rintro vs L - ⟨v,rfl,hA⟩
   generalize (List.range ps.length).map (fun p=>AV.sl 3 ((rowsX ps ts p).map aStp))=ys at *
   rcases hA.inv with ⟨e1,rfl,rfl⟩|⟨b,cap,rfl,rfl⟩
   ·simp only[go_sem]
    refine Wk ?_
    refine ret_view [] ?_;simp only[go_sem]
    rw[e1]
    exact .mkTup (Vws.cons (.nil 1) (Vws.refl _))
   ·simp only[go_sem]
    refine Wk ?_
    refine ret_view [true] ?_;simp only[go_sem]
    exact .mkTup (Vws.cons (Vw.ofLs (if_pos rfl) rfl) (Vws.refl _))
 ·rw[if_neg hC] at h1 ⊢
  generalize conF ps ts=C at *
  refine PC.enter 35 [.tmp 4,.tmp 5] [2,31] Proofs.Tryz.func25 rfl rfl rfl rfl rfl (by simp) (AWp.of ?_);simp only[go_sem]
  refine Wk ?_
  refine Sd ?_
  refine(h1).val.use ?_;simp only[go_sem]
  refine W1 hC ?_
  refine ret_view [] ?_;simp only[go_sem]
  exact .mkTup (Vws.cons (.nil 1) (Vws.refl _))
noncomputable def frB (ps:List Pr) (ts:List Pd) (k:Nat) (s:Spn3):Bool:=(decide (s.1=k) && (decide (0≤s.2.1) && (decide (s.2.1≤s.2.2) && decide (s.2.2≤nev ps k)))) && (List.range (s.2.2.toNat+1 - s.2.1.toNat)).all fun j=>badX ps ts k (s.2.1.toNat+j)
noncomputable def refX (ps:List Pr) (ts:List Pd) (l:List Spn3):Bool:=decide (conF ps ts=0) && (decide (l.length=ts.length) && ((List.range l.length).all (fun i=>frB ps ts i (l.getD i (0,0,0))) && (decide (gvnE ps l=0) && ovF ps (l.map spN))))
theorem any_part (b:Nat→Bool) (n f t:Nat) (h1:f≤t) (h2:t<n):((((List.range n).map b).take (t+1)).drop f).any (fun x => !x) = !((List.range (t+1 - f)).all fun j=>b (f+j)):=by
 have e:((((List.range n).map b).take (t+1)).drop f)=(List.range (t+1 - f)).map fun j=>b (f+j):=by
  apply List.ext_getElem
  ·simp;omega
  ·intro i g1 g2
   simp
 rw[e,Bool.eq_iff_iff,List.any_eq_true]
 constructor
 ·rintro⟨x,hx,h⟩
  obtain⟨j,hj,rfl⟩:=List.mem_map.1 hx
  rw[Bool.not_eq_true',List.all_eq_false]
  exact⟨j,hj,by simpa using h⟩
 ·intro h
  rw[Bool.not_eq_true',List.all_eq_false] at h
  obtain⟨j,hj,h⟩:=h
  exact⟨_,List.mem_map.2 ⟨j,hj,rfl⟩,by simpa using h⟩
theorem frB_no {ps:List Pr} {ts:List Pd} {k:Nat} {s:Spn3} (h:¬(s.1=k∧0≤s.2.1∧s.2.1≤s.2.2∧s.2.2≤nev ps k)):frB ps ts k s=false:=by
 unfold frB
 rw[← Bool.decide_and,← Bool.decide_and,← Bool.decide_and,decide_eq_false h,Bool.false_and]
set_option maxHeartbeats 1000000 in
theorem control_Refused (ps:List Pr) (hs:Sm ps) (ts:List Pd) (hz:∀t ∈ ts,szF t≤1000000) (htl:ts.length≤1000000) (l:List Spn3) (hl:l.length≤9223372036854775806):PC Proofs.Tryz.prog 17 [aTr ps,.sl 6 (ts.map aPd),aSps l] (ab (refX ps ts l)):=by
 have h1:=control_falsehoods ps hs ts hz htl
 have hov:=strong_Overlap ps hs l hl
 have hE:refX ps ts l=(decide (conF ps ts=0) && (decide (l.length=ts.length) && ((List.range l.length).all (fun i=>frB ps ts i (l.getD i (0,0,0))) && (decide (gvnE ps l=0) && ovF ps (l.map spN))))):=rfl
 have hR:aSps l = .sl 3 (l.map aSp):=rfl
 have hlm:(l.map aSp).length=l.length:=List.length_map _
 have htm:(ts.map aPd).length=ts.length:=List.length_map _
 generalize refX ps ts l=E at *
 rw[hR] at *
 by_cases hC:conF ps ts=0
 ·rw[if_pos hC] at h1
  obtain⟨hv,hlen,_⟩:=conF_inv hC
  rw[decide_eq_true hC,Bool.true_and] at hE
  by_cases hll:l.length=ts.length
  ·rw[decide_eq_true hll,Bool.true_and] at hE
   have hli:(l.length:Int)=ts.length:=by omega
   have hF:falT ps ts = .sl 1 ((List.range ps.length).map fun p => .sl 1 (falL ps ts p)):=rfl
   rw[hF] at h1
   have hgF:∀k,k<ps.length→((List.range ps.length).map fun p=>AV.sl 1 (falL ps ts p)).getD k .any = .sl 1 (falL ps ts k):=fun k hk=>map_range_getD hk _
   have hlF:((List.range ps.length).map fun p=>AV.sl 1 (falL ps ts p)).length=ps.length:=by simp
   generalize (List.range ps.length).map (fun p=>AV.sl 1 (falL ps ts p))=FF at *
   generalize hOV:(decide (gvnE ps l=0) && ovF ps (l.map spN))=OV at *
   generalize hG:gvnE ps l=G at *
   refine PC.enter 85 [.tmp 6] [3,10] Proofs.Tryz.func17 rfl rfl rfl rfl rfl (by simp) (AWp.of ?_);simp only[go_sem]
   refine Wk ?_
   refine Sd ?_
   refine(h1).val.use ?_;simp only[go_sem]
   refine W3 hlm htm hli ?_
   refine AWp.range' ts.length [] [2,3,7,27,28] (fun k vs L=>L=[]∧∀i,i<k→frB ps ts i (l.getD i (0,0,0))=true) (by omega) rfl rfl rfl ⟨rfl,fun _ h=>by omega⟩ ?_ ?_
   ·rintro k vs L hk - ⟨rfl,hI⟩
    have hkp:k<ps.length:=by omega
    have hk:k<l.length:=by omega
    have hg:=getD_map (f:=aSp) hk
    have hgl:l.getD k (0,0,0)=l[k]:=by rw[List.getD_eq_getElem?_getD,List.getElem?_eq_getElem hk];rfl
    have hno:frB ps ts k l[k]=false→E=false:=fun h=>by
     rw[hE,Bool.and_eq_false_iff];left
     rw[List.all_eq_false]
     exact⟨k,List.mem_range.2 hk,by rw[hgl,h];decide⟩
    have hye:frB ps ts k l[k]=true→∀i,i<k+1→frB ps ts i (l.getD i (0,0,0))=true:=fun h i hi=>by
     by_cases e:i=k
     ·subst e;rw[hgl];exact h
     ·exact hI i (by omega)
    generalize l[k]=s at *
    obtain⟨a,f,t⟩:=s
    have hg:(l.map aSp).getD k .any = .agg [ai a,ai f,ai t]:=hg
    have hgk:=hgF k hkp
    have hfl:(falL ps ts k).length=nev ps k+1:=by simp [falL]
    have hn64:=valid_nev hv hkp
    by_cases hok:a=(k:Int)∧0≤f∧f≤t∧t≤nev ps k
    ·obtain⟨x1,x2,x3,x4⟩:=hok
     obtain⟨f,rfl⟩:∃n:Nat,f=n:=⟨f.toNat,by omega⟩
     obtain⟨t,rfl⟩:∃n:Nat,t=n:=⟨t.toNat,by omega⟩
     have hfr:frB ps ts k (a,(f:Int),(t:Int))=((List.range (t+1 - f)).all fun j=>badX ps ts k (f+j)):=by
      have e:frB ps ts k (a,(f:Int),(t:Int))=((decide (a=(k:Int)) && (decide ((0:Int)≤(f:Int)) && (decide ((f:Int)≤(t:Int)) && decide ((t:Int)≤nev ps k)))) && (List.range ((t:Int).toNat+1 - (f:Int).toNat)).all fun j=>badX ps ts k ((f:Int).toNat+j)):=rfl
      rw[e,decide_eq_true x1,decide_eq_true x2,decide_eq_true x3,decide_eq_true x4,Int.toNat_natCast,Int.toNat_natCast];rfl
     have hc:=bools_contains (((((List.range (nev ps k+1)).map (badX ps ts k)).take (t+1)).drop f)) (by rw[List.length_drop,List.length_take,List.length_map,List.length_range];omega)
     rw[any_part _ _ f t (by omega) (by omega),← hfr,List.map_drop,List.map_take,List.map_map] at hc
     have hfe:(List.range (nev ps k+1)).map (ab ∘ badX ps ts k)=falL ps ts k:=rfl
     rw[hfe] at hc
     clear hfe hfr
     generalize falL ps ts k=FL at *
     generalize frB ps ts k (a,(f:Int),(t:Int))=B at *
     have g1:¬(f:Int)<0:=by omega
     have g2:¬(t:Int)<f:=by omega
     have g3:¬((nev ps k:Nat):Int)+1≤t:=by omega
     have g3':¬(((nev ps k+1:Nat)):Int)≤t:=by omega
     have e1:((t:Int)+1).toNat=t+1:=by omega
     simp only[go_sem]
     refine W2 hg hlm ?_
     intro b10
     refine Wk ?_
     repeat(first|(with_reducible refine AWp.seq ?_)|(with_reducible refine AWp.block ?_))
     refine AWp.read mixed [0,1,2,3,4,5,6,7,8,9,10,11,12,13,14,15,16,17,18,19,20,21,22,23,24,25,26,27,28,29,30,31,32,33,34,35,36,37,38] (by kernel_rfl) ?_;simp only[go_sem,hgk,hlF,hfl,x1,g1,g2,g3',e1]
     refine Sd ?_
     refine Sd ?_
     refine Gc hc ?_
     refine Sd ?_
     cases B with
     | true =>
      refine Wk ?_
      exact⟨_,List.Sublist.refl _,rfl,hye rfl⟩
     | false =>
      rw[hno rfl]
      refine Wk ?_
      refine ret_eq ?_;simp only[go_sem]
    ·have hfn:frB ps ts k (a,f,t)=false:=frB_no hok
     rw[hno hfn]
     have g5:(((nev ps k+1:Nat)):Int)≤t↔(nev ps k:Int)+1≤t:=by omega
     clear hno hye hfn hE
     generalize falL ps ts k=FL at *
     simp only[go_sem]
     refine W2 hg hlm ?_
     intro b10
     refine Wk ?_
     by_cases h1:a=(k:Int)
     ·by_cases h2:f<0
      ·repeat(first|(with_reducible refine AWp.seq ?_)|(with_reducible refine AWp.block ?_))
       refine AWp.read mixed [0,1,2,3,4,5,6,7,8,9,10,11,12,13,14,15,16,17,18,19,20,21,22,23,24,25,26,27,28,29,30,31,32,33,34,35,36,37,38] (by kernel_rfl) ?_;simp only[go_sem,hgk,hlF,hfl,h1,h2,g5]
       refine Sd ?_
       refine GCall.use .any (fun h=>absurd h (by simp)) ?_
       simp only[go_sem]
       refine Wk ?_
       refine ret_eq ?_;simp only[go_sem]
      ·by_cases h3:t<f
       ·repeat(first|(with_reducible refine AWp.seq ?_)|(with_reducible refine AWp.block ?_))
        refine AWp.read mixed [0,1,2,3,4,5,6,7,8,9,10,11,12,13,14,15,16,17,18,19,20,21,22,23,24,25,26,27,28,29,30,31,32,33,34,35,36,37,38] (by kernel_rfl) ?_;simp only[go_sem,hgk,hlF,hfl,h1,h2,h3,g5]
        refine Sd ?_
        refine GCall.use .any (fun h=>absurd h (by simp)) ?_
        simp only[go_sem]
        refine Wk ?_
        refine ret_eq ?_;simp only[go_sem]
       ·have h4:(nev ps k:Int)+1≤t:=by omega
        repeat(first|(with_reducible refine AWp.seq ?_)|(with_reducible refine AWp.block ?_))
        refine AWp.read mixed [0,1,2,3,4,5,6,7,8,9,10,11,12,13,14,15,16,17,18,19,20,21,22,23,24,25,26,27,28,29,30,31,32,33,34,35,36,37,38] (by kernel_rfl) ?_;simp only[go_sem,hgk,hlF,hfl,h1,h2,h3,h4,g5]
        refine Sd ?_
        refine GCall.use .any (fun h=>absurd h (by simp)) ?_
        simp only[go_sem]
        refine Wk ?_
        refine ret_eq ?_;simp only[go_sem]
     ·repeat(first|(with_reducible refine AWp.seq ?_)|(with_reducible refine AWp.block ?_))
      refine AWp.read mixed [0,1,2,3,4,5,6,7,8,9,10,11,12,13,14,15,16,17,18,19,20,21,22,23,24,25,26,27,28,29,30,31,32,33,34,35,36,37,38] (by kernel_rfl) ?_;simp only[go_sem,hgk,hlF,hfl,h1,g5]
      refine Sd ?_
      refine GCall.use .any (fun h=>absurd h (by simp)) ?_
      simp only[go_sem]
      refine Wk ?_
      refine ret_eq ?_;simp only[go_sem]
   ·rintro vs L - ⟨rfl,hI⟩
    have hall:(List.range l.length).all (fun i=>frB ps ts i (l.getD i (0,0,0)))=true:=by
     rw[List.all_eq_true]
     intro i hi
     have:=List.mem_range.1 hi
     exact hI i (by omega)
    rw[hall,Bool.true_and] at hE
    have hGO:(decide (G=0) && OV)=OV:=by
     rw[← hOV,← Bool.and_assoc,Bool.and_self]
    simp only[go_sem]
    refine Wk ?_
    refine Sd ?_
    refine(hov).val.use ?_;simp only[go_sem]
    refine W1 hGO ?_
    refine ret_eq ?_;simp only[go_sem]
    rw[hE]
  ·have hli:¬(l.length:Int)=ts.length:=by omega
   rw[decide_eq_false hll,Bool.false_and] at hE
   rw[hE]
   have hF:falT ps ts = .sl 1 ((List.range ps.length).map fun p => .sl 1 (falL ps ts p)):=rfl
   rw[hF] at h1
   generalize (List.range ps.length).map (fun p=>AV.sl 1 (falL ps ts p))=FF at *
   refine PC.enter 85 [.tmp 6] [3,10] Proofs.Tryz.func17 rfl rfl rfl rfl rfl (by simp) (AWp.of ?_);simp only[go_sem]
   refine Wk ?_
   refine Sd ?_
   refine(h1).val.use ?_;simp only[go_sem]
   refine W3 hlm htm hli ?_
   refine ret_eq ?_;simp only[go_sem]
 ·rw[if_neg hC] at h1
  rw[decide_eq_false hC,Bool.false_and] at hE
  rw[hE]
  generalize conF ps ts=c at *
  refine PC.enter 85 [.tmp 6] [3,10] Proofs.Tryz.func17 rfl rfl rfl rfl rfl (by simp) (AWp.of ?_);simp only[go_sem]
  refine Wk ?_
  refine Sd ?_
  refine(h1).val.use ?_;simp only[go_sem]
  refine W3 hlm htm hC ?_
  refine ret_eq ?_;simp only[go_sem]
end Go.AL
end
