/- Texts of this claim's proof: WY6, WY31. No condition. -/
import Derived.Test.YtplamfpmmogbeaaGreatDoorM20
import Derived.Test.YtplamfpmmogbeaaGreatDoorM12
import Derived.Test.YtplamfpmmogbeaaGreatDoorM14
import Derived.Test.YtplamfpmmogbeaaGreatDoorM13
import Derived.Test.YtplamfpmmogbeaaGreatDoorM10
import Derived.Test.YtplamfpmmogbeaaGreatDoorM19
section
namespace Go.AL
open Go Go.RowKit
set_option maxRecDepth 4000
theorem evaluate_TruthsO (ps:List Pr) (hs:Sm ps) (i:Nat) (hp:i<ps.length) (t:Pd) (hz:szF t≤1000000) (he:lclF ps i 0 t=0) :
  MCalls Proofs.Tryz.prog 62 [aTr ps,ai i,aPd t] [] fun r L=>∃b cap,r = .tup [.ls b 1 0 (ps[i].evs.length+1) cap,ai 0]∧L=[(b,.row 4 1 ((List.range (ps[i].evs.length+1)).map fun (k:Nat)=>ab (lclT ps i t k)) cap)]:=by
 have h1:=evaluate_check ps hs i 0 t hz
 have hl:=hs.procs
 rw[he] at h1
 obtain⟨hc,_,_,_,h9,hlc⟩:=lcl_ok he
 have hel:=hs.evs _ (List.getElem_mem hp)
 have hgp:=getD_map (f:=aPr) hp
 have hst:=fun (k:Nat) hk=>evaluate_inState ps hs i k hp hk t hz hc h9 hlc
 have hy:∀k,((List.range k).map fun (k:Nat)=>ab (lclT ps i t k)).length=k:=fun k=>by simp
 have hys:∀k,((List.range (k+1)).map fun (k:Nat)=>ab (lclT ps i t k))=((List.range k).map fun (k:Nat)=>ab (lclT ps i t k)) ++ [ab (lclT ps i t k)]:=fun k=>by rw[List.range_succ,List.map_append];rfl
 obtain⟨k0,n,pp,q,s,l⟩:=t
 simp only[aPd_mk] at *
 generalize hY:(fun k:Nat=>(List.range k).map fun (j:Nat)=>ab (lclT ps i (.mk k0 n pp q s l) j))=Y at *
 have hYk:∀k,((List.range k).map fun (j:Nat)=>ab (lclT ps i (.mk k0 n pp q s l) j))=Y k:=fun k=>by rw[← hY]
 simp only[hYk] at hy hys ⊢
 refine MCalls.enter' 39 [.tmp 6,.tmp 7] [3,5,35] Proofs.Tryz.func62 rfl rfl rfl rfl rfl (by simp) (AWp.of ?_);simp only[go_sem]
 refine Wk ?_
 refine Sd ?_
 refine(h1).val.use ?_;simp only[go_sem]
 refine W1 hgp ?_
 refine AWp.range' (ps[i].evs.length+1) [9] [1,3,5,25] (fun k vs L=>∃v,vs=[v]∧AppSt 4 1 (Y k) v L) (by omega) rfl rfl rfl ⟨anil,rfl,by rw[← hY];exact .nil⟩ ?_ ?_
 ·rintro k vs L' hk - ⟨v,rfl,hA⟩
  have hyl:=hy k
  have hst:=hst k (by omega)
  rw[hys k]
  have hfo:=hA.fo
  generalize Y k=ys at *
  generalize lclT ps i (.mk k0 n pp q s l) k=b at *
  rcases hA.inv with ⟨e1,rfl,rfl⟩|⟨b',cap,rfl,rfl⟩
  ·simp only[go_sem]
   refine Wk ?_
   refine Sd ?_
   refine(hst).val.use ?_;simp only[go_sem]
   refine Sd ?_
   intro b' cap' _
   refine⟨_,List.Sublist.refl _,_,rfl,?_⟩
   rw[e1]
   exact .row _ _ _
  ·simp only[go_sem]
   refine Wk ?_
   refine Sd ?_
   refine(hst).val.use ?_;simp only[go_sem]
   refine Sd ?_
   intro b' cap' _
   refine⟨_,List.Sublist.refl _,_,rfl,?_⟩
   have:=AppSt.row (t:=4) (k:=1) b' (ys ++ [ab b]) cap'
   simpa using this
 ·rintro vs L' - ⟨v,rfl,hA⟩
  have hyl:=hy (ps[i].evs.length+1)
  generalize Y (ps[i].evs.length+1)=ys at *
  simp only[go_sem]
  rcases hA.inv with ⟨e1,rfl,rfl⟩|⟨b,cap,rfl,rfl⟩
  ·rw[e1] at hyl;simp at hyl
  ·refine Wk ?_
   refine ret_own ?_
   simp only[go_sem]
   exact⟨b,cap,by rw[hyl],rfl⟩
noncomputable def badX (ps:List Pr) (ts:List Pd) (p k:Nat):Bool:=!(elimOf ps ts).ok p k
theorem badX_get {ps:List Pr} {ts:List Pd} {p:Nat} (hp:p<ts.length) (k:Nat):badX ps ts p k = !lclT ps p ts[p] k:=by
 show (!(match ts[p]? with|some t=>lclT ps p t k|none=>true))=_
 rw[List.getElem?_eq_getElem hp]
noncomputable def falL (ps:List Pr) (ts:List Pd) (p:Nat):List AV:=(List.range (nev ps p+1)).map fun k=>ab (badX ps ts p k)
noncomputable def falT (ps:List Pr) (ts:List Pd):AV:=.sl 1 ((List.range ps.length).map fun p => .sl 1 (falL ps ts p))
theorem control_stretches (b:Nat→Bool) (i K:Nat) (hK:K≤1000001):PC Proofs.Tryz.prog 32 [ai i,.sl 1 ((List.range K).map fun k=>ab (b k))] (.sl 3 ((spL b i K).map aStp)):=by
 have hT:∀k,k<K→((List.range K).map fun k=>ab (b k)).getD k .any=ab (b k):=fun k hk=>map_range_getD hk _
 have hTl:((List.range K).map fun k=>ab (b k)).length=K:=by simp
 generalize (List.range K).map (fun k=>ab (b k))=T at *
 refine PC.enter 44 [.tmp 4] [20] Proofs.Tryz.func32 rfl rfl rfl rfl rfl (by simp) (AWp.of ?_);simp only[go_sem]
 refine Wk ?_
 refine AWp.range' T.length [5] [0,1,8,9] (fun k vs L=>∃v,vs=[v]∧AppSt 62 3 ((spL b i k).map aStp) v L) (by omega) rfl rfl rfl ⟨anil,rfl,.nil⟩ ?_ ?_
 ·rintro k vs L' hk - ⟨v,rfl,hA⟩
  have g0:=hT k (by omega)
  have g1:=hT (k - 1) (by omega)
  have gk:((k:Int) - 1).toNat=k - 1:=by omega
  have hfo:=hA.fo
  cases hbk:b k with
  | false =>
   rw[hbk] at g0
   rw[spL_no hbk]
   simp only[go_sem]
   refine W3 g0 hTl hfo ?_
   exact⟨_,List.Sublist.refl _,v,rfl,hA⟩
  | true =>
   rw[hbk] at g0
   simp only[go_sem]
   refine W5 g0 g1 gk hTl hfo ?_
   refine⟨fun h2 h3 => ?_,fun h2 => ?_⟩
   ·obtain⟨d,f,e1,e2⟩:=spL_on (b:=b) (p:=i) (k:=k) hbk (by rw[decide_eq_true (by omega),h3];rfl)
    rw[e1] at hA
    rw[e2]
    have gl:((d ++ [(i,f,k - 1)]).map aStp).getD (((d ++ [(i,f,k - 1)]).map aStp).length - 1) .any = .agg [ai i,ai f,ai ((k - 1:Nat):Int)]:=last_get d (i,f,k - 1)
    have gs:((d ++ [(i,f,k - 1)]).map aStp).set (((d ++ [(i,f,k - 1)]).map aStp).length - 1) (.agg [ai i,ai f,ai k])=(d ++ [(i,f,k)]).map aStp:=last_set d (i,f,k - 1) (i,f,k)
    have hyl:1≤((d ++ [(i,f,k - 1)]).map aStp).length:=by simp
    have hyk:=spL_len (b:=b) (p:=i) k
    rw[e1,← List.length_map (f:=aStp)] at hyk
    have hll:((d ++ [(i,f,k)]).map aStp).length=((d ++ [(i,f,k - 1)]).map aStp).length:=by simp
    generalize ((d ++ [(i,f,k - 1)]).map aStp)=ys at *
    generalize ((d ++ [(i,f,k)]).map aStp)=zs at *
    have gn:((ys.length:Int) - 1).toNat=ys.length - 1:=by omega
    rcases hA.inv with ⟨e3,_,_⟩|⟨bq,cap,rfl,rfl⟩
    ·rw[e3] at hyl;simp at hyl
    ·refine Wk ?_
     simp only[go_sem,gl,gn,gs]
     refine Sd ?_
     refine⟨_,List.Sublist.refl _,_,rfl,?_⟩
     rw[← hll]
     exact .row _ _ _
   ·have e0:(decide (0<k) && b (k - 1))=false:=by
     by_cases h3:0<k
     ·rw[decide_eq_true h3,Bool.true_and];simpa using h2 (by omega)
     ·rw[decide_eq_false h3];rfl
    rw[spL_new hbk e0,List.map_append]
    have ea:[(i,k,k)].map aStp=[.agg [ai i,ai k,ai k]]:=rfl
    rw[ea]
    have hyl:=spL_len (b:=b) (p:=i) k
    rw[← List.length_map (f:=aStp)] at hyl
    generalize (spL b i k).map aStp=ys at *
    rcases hA.inv with ⟨e3,rfl,rfl⟩|⟨bq,cap,rfl,rfl⟩
    ·subst e3
     simp only[go_sem]
     refine Sd ?_
     intro b' cap' _
     refine⟨_,List.Sublist.refl _,_,rfl,?_⟩
     exact .row _ _ _
    ·simp only[go_sem]
     refine Sd ?_
     intro b' cap' _
     refine⟨_,List.Sublist.refl _,_,rfl,?_⟩
     have:=AppSt.row (t:=62) (k:=3) b' (ys ++ [.agg [ai i,ai k,ai k]]) cap'
     simpa using this
 ·rintro vs L' - ⟨v,rfl,hA⟩
  rw[hTl] at hA
  generalize (spL b i K).map aStp=ys at *
  rcases hA.inv with ⟨e3,rfl,rfl⟩|⟨bq,cap,rfl,rfl⟩
  ·simp only[go_sem]
   refine Wk ?_
   refine ret_view [] ?_;simp only[go_sem]
   rw[e3]
   exact .nil 3
  ·simp only[go_sem]
   refine Wk ?_
   refine ret_view [true] ?_;simp only[go_sem]
   exact Vw.ofLs (if_pos rfl) rfl
theorem falL_get {ps:List Pr} {ts:List Pd} {p:Nat} (hp:p<ts.length) (hpp:p<ps.length):falL ps ts p=(List.range (ps[p].evs.length+1)).map fun (k:Nat)=>ab (!lclT ps p ts[p] k):=by
 unfold falL
 rw[nev_get hpp]
 exact List.map_congr_left fun k _=>by rw[badX_get hp]
def negL (f:Nat→Bool) (K j:Nat):List AV:=(List.range K).map fun k=>ab (if k<j then !f k else f k)
theorem negL_len (f:Nat→Bool) (K j:Nat):(negL f K j).length=K:=by simp [negL]
theorem negL_zero (f:Nat→Bool) (K:Nat):negL f K 0=(List.range K).map fun k=>ab (f k):=List.map_congr_left fun k _=>by rw[if_neg (by omega)]
theorem negL_full (f:Nat→Bool) (K:Nat):negL f K K=(List.range K).map fun k=>ab (!f k):=List.map_congr_left fun k hk=>by rw[if_pos (List.mem_range.1 hk)]
theorem negL_get {f:Nat→Bool} {K j:Nat} (hj:j<K):(negL f K j).getD j .any=ab (f j):=by
 unfold negL
 rw[map_range_getD hj,if_neg (by omega)]
theorem negL_elem {f:Nat→Bool} {K j k:Nat} (h:k<(negL f K j).length):(negL f K j)[k]=ab (if k<j then !f k else f k):=by simp [negL]
theorem negL_set {f:Nat→Bool} {K j:Nat} (_hj:j<K):(negL f K j).set j (ab (!f j))=negL f K (j+1):=by
 refine List.ext_getElem (by rw[List.length_set,negL_len,negL_len]) fun k h1 h2 => ?_
 rw[List.getElem_set,negL_elem,negL_elem]
 by_cases e:j=k
 ·subst e;rw[if_pos rfl,if_pos (by omega)]
 ·rw[if_neg e]
  by_cases h:k<j
  ·rw[if_pos h,if_pos (by omega)]
  ·rw[if_neg h,if_neg (by omega)]
theorem control_falsehoods (ps:List Pr) (hs:Sm ps) (ts:List Pd) (hz:∀t ∈ ts,szF t≤1000000) (htl:ts.length≤1000000) :
  PC Proofs.Tryz.prog 31 [aTr ps,.sl 6 (ts.map aPd)] (if conF ps ts=0 then .tup [falT ps ts,ai 0] else .tup [.sl 1 [],ai (conF ps ts)]):=by
 have h1:=trace_Valid ps hs
 have hps:=hs.procs
 by_cases hvl:validF ps=true∧ts.length=ps.length
 ·obtain⟨hv,hlen⟩:=hvl
  have hli:(ts.length:Int)=ps.length:=by omega
  rw[hv] at h1
  have hhit:=fun p hp=>conF_hit (ps:=ps) (ts:=ts) ⟨hv,hlen⟩ (p:=p) hp
  have hzero:=fun h=>conF_zero (ps:=ps) (ts:=ts) ⟨hv,hlen⟩ h
  unfold falT
  generalize conF ps ts=C at *
  refine PC.enter 60 [.tmp 4,.tmp 5] [2,8,56] Proofs.Tryz.func31 rfl rfl rfl rfl rfl (by simp) (AWp.of ?_);simp only[go_sem]
  refine Wk ?_
  refine Sd ?_
  refine(h1).val.use ?_;simp only[go_sem]
  refine W1 hli ?_
  refine AWp.range' ps.length [6] [2,23,24] (fun p vs L=>∃v,vs=[v]∧AppSt 86 1 ((List.range p).map fun p => .sl 1 (falL ps ts p)) v L∧∀q (hq:q<ts.length),q<p→lclF ps q 0 ts[q]=0) (by omega) rfl rfl rfl ⟨anil,rfl,.nil,fun q _ h=>by omega⟩ ?_ ?_
  ·rintro p vs L hpp - ⟨v,rfl,hA,h0⟩
   have hp:p<ts.length:=by omega
   have hg:=getD_map (f:=aPd) hp
   have hel:=hs.evs _ (List.getElem_mem hpp)
   have hzp:=hz _ (List.getElem_mem hp)
   have hfo:=hA.fo
   have hyl:((List.range p).map fun p=>AV.sl 1 (falL ps ts p)).length=p:=by simp
   have hys:((List.range (p+1)).map fun p=>AV.sl 1 (falL ps ts p))=((List.range p).map fun p=>AV.sl 1 (falL ps ts p)) ++ [.sl 1 (falL ps ts p)]:=by rw[List.range_succ,List.map_append];rfl
   have hfl:=falL_get hp hpp
   by_cases he:lclF ps p 0 ts[p]=0
   ·rw[hys]
    have h2:=evaluate_TruthsO ps hs p hpp ts[p] hzp he
    have hn:∀q (hq:q<ts.length),q<p+1→lclF ps q 0 ts[q]=0:=fun q hq hqp=>by
     by_cases e:q=p
     ·subst e;exact he
     ·exact h0 q hq (by omega)
    rw[hfl]
    clear h0 he hzp hfl hys
    generalize (List.range p).map (fun p=>AV.sl 1 (falL ps ts p))=ys at *
    obtain⟨f,hf⟩:∃f:Nat→Bool,f=fun (k:Nat)=>lclT ps p ts[p] k:=⟨_,rfl⟩
    have hfk:∀k:Nat,lclT ps p ts[p] k=f k:=fun k=>by rw[hf]
    simp only[hfk] at h2 ⊢
    clear hf hfk
    rw[← negL_zero] at h2
    rw[← negL_full]
    generalize ts[p]=t at *
    have hK:ps[p].evs.length+1≤1000001:=by omega
    generalize ps[p].evs.length+1=K at *
    obtain⟨k0,n,pp,q,s,l⟩:=t
    simp only[aPd_mk] at hg h2
    simp only[go_sem]
    refine W2 hg hfo ?_
    intros
    refine W2 hg hfo ?_
    refine MVal.mono (MVal.frame (Lm:=[]) (Lr:=L) h2.val) ?_
    rintro r L' ⟨L1,rfl,bb,cap,rfl,rfl⟩
    have hfo9:AL.fo (AV.ls bb 1 0 K cap)=(True,.ls bb 1 0 K cap):=rfl
    simp only[go_sem]
    refine W1 hfo ?_
    refine AWp.range' K [] [2,6,9,23,24,25,41] (fun j vs L'=>vs=[]∧L'=(bb,.row 4 1 (negL f K j) cap) :: L) (by omega) rfl rfl rfl ⟨rfl,rfl⟩ ?_ ?_
    ·rintro j vs L' hj - ⟨rfl,rfl⟩
     have hgj:=negL_get (f:=f) hj
     have hsj:=negL_set (f:=f) hj
     have hlj:=negL_len f K j
     simp only[go_sem]
     refine W3 hgj hlj hfo ?_
     exact⟨_,List.Sublist.refl _,by rw[hsj]⟩
    ·rintro vs L' - ⟨rfl,rfl⟩
     refine AWp.viewP (Lf:=[(bb,_)]) (Lk:=L) (L':=L) (List.Perm.refl _) (LVw.refl _) [(9,.sl 1 (negL f K K))] (fun q hq => ?_) ?_
     ·simp only[List.mem_singleton] at hq
      subst hq
      simp only[go_sem]
      exact Vw.ofLs (t:=4) (cap:=cap) (if_pos rfl) (by rw[negL_len])
     generalize negL f K K=row at *
     rcases hA.inv with ⟨e1,rfl,rfl⟩|⟨bq,cq,rfl,rfl⟩
     ·simp only[go_sem]
      refine Wk ?_
      intro b' cap' g8
      refine Wk ?_
      exact⟨_,List.Sublist.refl _,_,rfl,by rw[e1];exact .row _ _ _,hn⟩
     ·simp only[go_sem]
      refine Wk ?_
      refine Sd ?_
      intro b' cap' g8
      refine Wk ?_
      exact⟨_,List.Sublist.refl _,_,rfl,AppSt.snoc _ _ _ rfl,hn⟩
   ·have hC:=hhit p hp h0 he
    have h2:=evaluate_Truths ps hs p ts[p] hzp
    unfold aTruths at h2
    rw[if_neg he] at h2
    subst hC
    rw[if_neg he]
    generalize lclF ps p 0 ts[p]=e at *
    generalize ts[p]=t at *
    obtain⟨k0,n,pp,q,s,l⟩:=t
    simp only[aPd_mk] at hg h2
    simp only[go_sem]
    refine W2 hg hfo ?_
    intros
    refine W2 hg hfo ?_
    refine Sd ?_
    refine(h2).val.use ?_;simp only[go_sem]
    refine W2 he hfo ?_
    refine ret_view [] ?_;simp only[go_sem]
    exact .mkTup (Vws.cons (.nil 1) (Vws.refl _))
  ·rintro vs L - ⟨v,rfl,hA,h0⟩
   have hC:=hzero fun q hq=>h0 q hq (by omega)
   subst hC
   rw[if_pos rfl]
   generalize (List.range ps.length).map (fun p=>AV.sl 1 (falL ps ts p))=ys at *
   rcases hA.inv with ⟨e1,rfl,rfl⟩|⟨b,cap,rfl,rfl⟩
   ·simp only[go_sem]
    refine Wk ?_
    refine ret_view [] ?_;simp only[go_sem]
    rw[e1]
    exact .mkTup (Vws.cons (.nil 1) (Vws.refl _))
   ·simp only[go_sem]
    refine Wk ?_
    refine ret_view [true] ?_;simp only[go_sem]
    exact .mkTup (Vws.cons (Vw.ofLs (if_pos rfl) rfl) (Vws.refl _))
 ·have hC:=conF_bad (ts:=ts) hvl
  rw[hC,if_neg (by decide)]
  by_cases hv:validF ps=true
  ·have hli:¬(ts.length:Int)=ps.length:=fun e=>hvl ⟨hv,by omega⟩
   rw[hv] at h1
   refine PC.enter 60 [.tmp 4,.tmp 5] [2,8,56] Proofs.Tryz.func31 rfl rfl rfl rfl rfl (by simp) (AWp.of ?_);simp only[go_sem]
   refine Wk ?_
   refine Sd ?_
   refine(h1).val.use ?_;simp only[go_sem]
   refine W1 hli ?_
   refine ret_view [] ?_;simp only[go_sem]
   exact .mkTup (Vws.cons (.nil 1) (Vws.refl _))
  ·rw[Bool.not_eq_true] at hv
   rw[hv] at h1
   refine PC.enter 60 [.tmp 4,.tmp 5] [2,8,56] Proofs.Tryz.func31 rfl rfl rfl rfl rfl (by simp) (AWp.of ?_);simp only[go_sem]
   refine Wk ?_
   refine Sd ?_
   refine(h1).val.use ?_;simp only[go_sem]
   refine Wk ?_
   refine ret_view [] ?_;simp only[go_sem]
   exact .mkTup (Vws.cons (.nil 1) (Vws.refl _))
noncomputable def rowsX (ps:List Pr) (ts:List Pd) (p:Nat):List Stp:=spL (badX ps ts p) p (nev ps p+1)
noncomputable def aRowsX (ps:List Pr) (ts:List Pd):AV:=.sl 1 ((List.range ps.length).map fun p => .sl 3 ((rowsX ps ts p).map aStp))
theorem control_False (ps:List Pr) (hs:Sm ps) (ts:List Pd) (hz:∀t ∈ ts,szF t≤1000000) (htl:ts.length≤1000000) :
  PC Proofs.Tryz.prog 18 [aTr ps,.sl 6 (ts.map aPd)] (if conF ps ts=0 then .tup [aRowsX ps ts,ai 0] else .tup [.sl 1 [],ai (conF ps ts)]):=by
 have h1:=control_falsehoods ps hs ts hz htl
 have hps:=hs.procs
 by_cases hC:conF ps ts=0
 ·rw[if_pos hC] at h1 ⊢
  unfold falT at h1
  unfold aRowsX
  refine PC.enter 35 [.tmp 4,.tmp 5] [2,31] Proofs.Tryz.func18 rfl rfl rfl rfl rfl (by simp) (AWp.of ?_);simp only[go_sem]
  refine Wk ?_
  refine Sd ?_
  refine(h1).val.use ?_;simp only[go_sem]
  repeat(first|((with_reducible refine AWp.ofC ?_ ?_);exact rfl;simp only[go_sem,List.length_range])|((with_reducible refine an ?_ ?_);exact Au))
  refine AWp.range' ps.length [8] [20,21] (fun p vs L=>∃v,vs=[v]∧AppSt 37 1 ((List.range p).map fun p => .sl 3 ((rowsX ps ts p).map aStp)) v L) (by omega) rfl rfl rfl ⟨anil,rfl,.nil⟩ ?_ ?_
  ·rintro p vs L hp - ⟨v,rfl,hA⟩
   have hg:((List.range ps.length).map fun p=>AV.sl 1 (falL ps ts p)).getD p .any = .sl 1 (falL ps ts p):=map_range_getD hp _
   have hel:=hs.evs _ (List.getElem_mem hp)
   have hn:=nev_get hp
   have h2:=control_stretches (badX ps ts p) p (nev ps p+1) (by omega)
   have hfo:=hA.fo
   have hyl:((List.range p).map fun p=>AV.sl 3 ((rowsX ps ts p).map aStp)).length=p:=by simp
   have hys:((List.range (p+1)).map fun p=>AV.sl 3 ((rowsX ps ts p).map aStp))=((List.range p).map fun p=>AV.sl 3 ((rowsX ps ts p).map aStp)) ++ [.sl 3 ((rowsX ps ts p).map aStp)]:=by rw[List.range_succ,List.map_append];rfl
   rw[hys]
   change PC _ _ [_,.sl 1 (falL ps ts p)] (.sl 3 ((rowsX ps ts p).map aStp)) at h2
   clear hys
   generalize (List.range p).map (fun p=>AV.sl 3 ((rowsX ps ts p).map aStp))=ys at *
   generalize (rowsX ps ts p).map aStp=row at *
   generalize falL ps ts p=fl at *
   rcases hA.inv with ⟨e1,rfl,rfl⟩|⟨bq,cq,rfl,rfl⟩
   ·simp only[go_sem]
    refine W1 hg ?_
    refine Sd ?_
    refine AWp.of ?_;simp only[go_sem]
    refine Sd ?_
    refine(h2).val.use ?_;simp only[go_sem]
    refine W1 hg ?_
    intro b' cap' g8
    refine Wk ?_
    exact⟨_,List.Sublist.refl _,_,rfl,by rw[e1];exact .row _ _ _⟩
   ·simp only[go_sem]
    refine W1 hg ?_
    refine Sd ?_
    refine AWp.of ?_;simp only[go_sem]
    refine Sd ?_
    refine(h2).val.use ?_;simp only[go_sem]
    refine W1 hg ?_
    refine Sd ?_
    intro b' cap' g8
    refine Wk ?_
    exact⟨_,List.Sublist.refl _,_,rfl,AppSt.snoc _ _ _ rfl⟩
  ·rintro vs L - ⟨v,rfl,hA⟩
   generalize (List.range ps.length).map (fun p=>AV.sl 3 ((rowsX ps ts p).map aStp))=ys at *
   rcases hA.inv with ⟨e1,rfl,rfl⟩|⟨b,cap,rfl,rfl⟩
   ·simp only[go_sem]
    refine Wk ?_
    refine ret_view [] ?_;simp only[go_sem]
    rw[e1]
    exact .mkTup (Vws.cons (.nil 1) (Vws.refl _))
   ·simp only[go_sem]
    refine Wk ?_
    refine ret_view [true] ?_;simp only[go_sem]
    exact .mkTup (Vws.cons (Vw.ofLs (if_pos rfl) rfl) (Vws.refl _))
 ·rw[if_neg hC] at h1 ⊢
  generalize conF ps ts=C at *
  refine PC.enter 35 [.tmp 4,.tmp 5] [2,31] Proofs.Tryz.func18 rfl rfl rfl rfl rfl (by simp) (AWp.of ?_);simp only[go_sem]
  refine Wk ?_
  refine Sd ?_
  refine(h1).val.use ?_;simp only[go_sem]
  refine W1 hC ?_
  refine ret_view [] ?_;simp only[go_sem]
  exact .mkTup (Vws.cons (.nil 1) (Vws.refl _))
def negP (t:Pd):Pd:=.mk 15 0 0 0 ByteArray.empty [t]
theorem aPd_neg (t:Pd):aPd (negP t) = .agg [ai 15,ai 0,ai 0,ai 0,.v (.string ByteArray.empty),.sl 6 [aPd t]]:=by
 unfold negP
 rw[aPd_mk];rfl
theorem ref44_negated (ts:List Pd) (htl:ts.length≤1000000):PC Proofs.Tryz.prog 41 [.sl 6 (ts.map aPd)] (.sl 6 ((ts.map negP).map aPd)):=by
 have hlm:(ts.map aPd).length=ts.length:=List.length_map _
 refine PC.enter 21 [.tmp 2] [16,18] Proofs.Tryz.func41 rfl rfl rfl rfl rfl (by simp) (AWp.of ?_);simp only[go_sem]
 refine Wk ?_
 refine AWp.block (AWp.count 4 ts.length [3] [0] (fun k vs L=>∃v,vs=[v]∧AppSt 71 6 (((ts.take k).map negP).map aPd) v L) rfl rfl ⟨anil,rfl,.nil⟩ ?_)
 rintro k vs L hk - ⟨v,rfl,hA⟩
 have hfo:=hA.fo
 have hyl:(((ts.take k).map negP).map aPd).length=k:=by rw[List.length_map,List.length_map,List.length_take];omega
 simp only[go_sem]
 refine W2 hlm hfo ?_
 refine⟨fun h => ?_,fun h => ?_⟩
 ·have hkt:k<ts.length:=by omega
  have hg:=getD_map (f:=aPd) hkt
  have hys:((ts.take (k+1)).map negP).map aPd=((ts.take k).map negP).map aPd ++ [aPd (negP ts[k])]:=by
   rw[List.take_succ_eq_append_getElem hkt,List.map_append,List.map_append];rfl
  rw[aPd_neg] at hys
  generalize ((ts.take k).map negP).map aPd=ys at *
  generalize ts[k]=t at *
  obtain⟨k0,n,pp,q0,s,l⟩:=t
  simp only[aPd_mk] at *
  rcases hA.inv with ⟨e1,rfl,rfl⟩|⟨bq,cap,rfl,rfl⟩
  ·refine W2 hg hlm ?_
   intro b' cap' g8
   refine Wk ?_
   exact⟨_,List.Sublist.refl _,_,rfl,by rw[hys,e1];exact .row b' _ cap'⟩
  ·refine W2 hg hlm ?_
   refine Sd ?_
   intro b' cap' g8
   refine Wk ?_
   exact⟨_,List.Sublist.refl _,_,rfl,by rw[hys];exact AppSt.snoc b' cap' _ rfl⟩
 ·have:k=ts.length:=by omega
  subst this
  rw[List.take_length] at hA
  generalize (ts.map negP).map aPd=ys at *
  rcases hA.inv with ⟨e1,rfl,rfl⟩|⟨bq,cap,rfl,rfl⟩
  ·refine Wk ?_
   refine ret_view [] ?_;simp only[go_sem]
   rw[e1];exact .nil 6
  ·refine Wk ?_
   refine ret_view [true] ?_;simp only[go_sem]
   exact Vw.ofLs (if_pos rfl) rfl
theorem ref29_TruthN (ps:List Pr) (cs:List AV) (t:Pd) (b:Bool) (h:PC Proofs.Tryz.prog 121 [aTr ps,.sl 1 cs,aPd t] (ab b)):PC Proofs.Tryz.prog 121 [aTr ps,.sl 1 cs,aPd (negP t)] (ab !b):=by
 rw[aPd_neg]
 obtain⟨k0,n,pp,q0,s,l⟩:=t
 simp only[aPd_mk] at *
 refine PC.enter 125 [.tmp 6] [3,5] Proofs.Tryz.func121 rfl rfl rfl rfl rfl (by simp) (AWp.of ?_);simp only[go_sem]
 repeat(first|((with_reducible refine AWp.ofC ?_ ?_);exact rfl;simp only[go_sem,Int.reduceEq])|((with_reducible refine an ?_ ?_);exact Au))
 repeat(first|(with_reducible refine AWp.seq ?_)|(with_reducible refine AWp.block ?_))
 refine AWp.mix mixed [0,1,2,3,4,5,6,7,8] .done (by kernel_rfl) ?_;simp only[go_sem]
 refine Sd ?_
 refine Gc h ?_
 refine Sd ?_
 refine Wk ?_
 refine ret_eq ?_;simp only[go_sem]
theorem ref29_LocalG (ps:List Pr) (hs:Sm ps) (p k:Nat) (hp:p<ps.length) (_hk:k≤ps[p].evs.length) (t:Pd) (b:Bool) (h1:PC Proofs.Tryz.prog 121 [aTr ps,aInts (stC ps.length p k),aPd t] (ab b)) :
  PC Proofs.Tryz.prog 86 [aTr ps,ai p,ai k,aPd t] (ab b):=by
 have hn:=hs.procs
 obtain⟨kk,n,pr,q,s,l⟩:=t
 have hC:(stC ps.length p k).map ai=(List.replicate ps.length (ai 0)).set p (ai k):=by unfold stC;rw[List.map_set,List.map_replicate]
 have hg0:(List.replicate ps.length (ai 0)).getD p .any=ai 0:=by rw[List.getD_eq_getElem?_getD,List.getElem?_replicate,if_pos hp];rfl
 have hCl:(List.replicate ps.length (ai 0)).length=ps.length:=List.length_replicate
 simp only[aPd_mk] at *
 refine PC.enter 22 [.tmp 8] [4,7] Proofs.Tryz.func86 rfl rfl rfl rfl rfl (by simp) (AWp.of ?_);simp only[go_sem]
 refine Wk ?_
 refine Sd ?_
 intro b9
 refine Sd ?_
 refine AWp.of ?_;simp only[go_sem,hg0,List.length_replicate]
 refine Sd ?_
 rw[← hC]
 refine AWp.view [true] [(9,aInts (stC ps.length p k))] (LVw.refl _) (fun x hx => ?_) ?_
 ·simp only[List.mem_singleton] at hx
  subst hx
  simp only[go_sem,pickT]
  exact Vw.ofLs (t:=3) (cap:=ps.length) (by simp only[lk,if_true]) (by rw[List.length_map,stC_len])
 ·simp only[go_sem,pickF]
  refine Wk ?_
  refine Sd ?_
  refine(h1).val.use ?_;simp only[go_sem]
  refine Wk ?_
  refine ret_eq ?_;simp only[go_sem]
theorem ref29_LocalN (ps:List Pr) (hs:Sm ps) (p k:Nat) (hp:p<ps.length) (hk:k≤ps[p].evs.length) (t:Pd) (hz:szF t≤1000000) (he:lclF ps p 0 t=0) :
  PC Proofs.Tryz.prog 86 [aTr ps,ai p,ai k,aPd (negP t)] (ab !lclT ps p t k):=by
 obtain⟨hc,_,_,_,h9,hl⟩:=lcl_ok he
 obtain⟨hv,_,hok,hfit⟩:=checkF_zero hc
 have hok':=hok
 unfold okT at hok'
 simp only[Bool.and_eq_true] at hok'
 obtain⟨_,l2,l1⟩:=st_leaf ps hs hv p k hp hk t hok'.1.2 hl
 have hn:=hs.procs
 have h1:=ref29_Truth ps (stC ps.length p k) (stO ps p k) (by rw[stC_len];omega) t hz hok h9 hfit (lcl_ntm t hl) l2 l1
 exact ref29_LocalG ps hs p k hp hk (negP t) _ (ref29_TruthN ps _ t _ h1)
theorem ref37_SpansN (ps:List Pr) (hs:Sm ps) (ts:List Pd) (hz:∀t ∈ ts,szF t≤1000000) (hC:conF ps ts=0) {p:Nat} (hp:p<ts.length):PC Proofs.Tryz.prog 57 [aTr ps,ai p,aPd (negP ts[p])] (.sl 3 ((rowsX ps ts p).map aStp)):=by
 obtain⟨hv,hl,hlc⟩:=conF_inv hC
 have hpp:p<ps.length:=by omega
 have hb:badX ps ts p=fun k:Nat => !lclT ps p ts[p] k:=funext fun k=>badX_get hp k
 unfold rowsX
 rw[nev_get hpp,hb]
 exact ref37_SpansG ps hs p hpp (negP ts[p]) (fun k:Nat => !lclT ps p ts[p] k) fun k hk=>ref29_LocalN ps hs p k hpp hk ts[p] (hz _ (List.getElem_mem hp)) (hlc p hp)
theorem ref44_Refuse (ps:List Pr) (hs:Sm ps) (ts:List Pd) (hz:∀t ∈ ts,szF t≤1000000) (htl:ts.length≤1000000) (hC:conF ps ts=0):PC Proofs.Tryz.prog 12 [aTr ps,.sl 6 (ts.map aPd)] (aLeast ps (rowsX ps ts)):=by
 obtain⟨hv,hl,hlc⟩:=conF_inv hC
 have h1:=ref44_negated ts htl
 have h2:=ref38_LeastG ps hs hv (ts.map negP) (by rw[List.length_map];exact htl) (by rw[List.length_map];exact hl) (b:=badX ps ts) (rows:=rowsX ps ts) (fun p _=>spL_ok _ p _) (fun p hp=>by
  have h1:=spL_len (b:=badX ps ts p) (p:=p) (nev ps p+1)
  have h2:=valid_nev hv hp
  unfold rowsX
  exact Nat.le_trans h1 (by omega)) (fun p hp=>by
  rw[List.getElem_map]
  exact ref37_SpansN ps hs ts hz hC (by simpa using hp))
 generalize hR:aLeast ps (rowsX ps ts)=R at *
 have hRt:∃X c,R = .tup [.sl 3 X,ab c]:=by
  rw[← hR];unfold aLeast;split <;> exact⟨_,_,rfl⟩
 obtain⟨a,b,rfl⟩:=hRt
 generalize (ts.map negP).map aPd=NL at *
 generalize ts.map aPd=TL at *
 refine PC.enter 12 [.tmp 4,.tmp 5] [2] Proofs.Tryz.func12 rfl rfl rfl rfl rfl (by simp) (AWp.of ?_);simp only[go_sem]
 refine Wk ?_
 repeat(first|(with_reducible refine AWp.seq ?_)|(with_reducible refine AWp.block ?_))
 refine AWp.read mixed [0,1,2,3,4,5,6,7] (by kernel_rfl) ?_;simp only[go_sem]
 refine Sd ?_
 refine Gc h1 ?_
 refine Sd ?_
 refine Gc h2 ?_
 refine Sd ?_
 refine Wk ?_
 refine ret_eq ?_;simp only[go_sem]
theorem ref44_False (ps:List Pr) (hs:Sm ps) (ts:List Pd) (hz:∀t ∈ ts,szF t≤1000000) (htl:ts.length≤1000000) (hC:conF ps ts=0):PC Proofs.Tryz.prog 23 [aTr ps,.sl 6 (ts.map aPd)] (aRowsX ps ts):=by
 obtain⟨hv,hl,hlc⟩:=conF_inv hC
 have h1:=ref44_negated ts htl
 have hsp:=fun p (hp:p<ts.length)=>ref37_SpansN ps hs ts hz hC hp
 have hNl:((ts.map negP).map aPd).length=ts.length:=by simp
 have hNg:∀p (hp:p<ts.length),((ts.map negP).map aPd).getD p .any=aPd (negP ts[p]):=fun p hp=>by
  rw[getD_map (by simpa using hp),List.getElem_map]
 have hA:aRowsX ps ts = .sl 1 ((List.range ts.length).map fun p => .sl 3 ((rowsX ps ts p).map aStp)):=by unfold aRowsX;rw[hl]
 rw[hA]
 generalize (ts.map negP).map aPd=NL at *
 refine PC.enter 27 [.tmp 4] [2,24] Proofs.Tryz.func23 rfl rfl rfl rfl rfl (by simp) (AWp.of ?_);simp only[go_sem]
 refine Wk ?_
 refine Sd ?_
 refine(h1).val.use ?_;simp only[go_sem]
 refine Wk ?_
 refine AWp.block (AWp.count 7 ts.length [5] [2,6] (fun k vs L=>∃v,vs=[v]∧AppSt 37 1 ((List.range k).map fun p => .sl 3 ((rowsX ps ts p).map aStp)) v L) rfl rfl ⟨anil,rfl,.nil⟩ ?_)
 rintro k vs L hk - ⟨v,rfl,hAp⟩
 have hfo:=hAp.fo
 have hyl:((List.range k).map fun p=>AV.sl 3 ((rowsX ps ts p).map aStp)).length=k:=by simp
 simp only[go_sem]
 refine W2 hNl hfo ?_
 refine⟨fun h => ?_,fun h => ?_⟩
 ·have hkt:k<ts.length:=by omega
  have hg:=hNg k hkt
  have h2:=hsp k hkt
  have hys:((List.range (k+1)).map fun p=>AV.sl 3 ((rowsX ps ts p).map aStp))=((List.range k).map fun p=>AV.sl 3 ((rowsX ps ts p).map aStp)) ++ [.sl 3 ((rowsX ps ts k).map aStp)]:=by rw[List.range_succ,List.map_append];rfl
  rw[aPd_neg] at hg h2
  generalize aPd ts[k]=tv at *
  generalize (rowsX ps ts k).map aStp=row at *
  generalize (List.range k).map (fun p=>AV.sl 3 ((rowsX ps ts p).map aStp))=ys at *
  rw[List.range_succ] at hys
  rcases hAp.inv with ⟨e1,rfl,rfl⟩|⟨bq,cap,rfl,rfl⟩
  ·repeat(first|(with_reducible refine AWp.seq ?_)|(with_reducible refine AWp.block ?_))
   refine AWp.mix mixed [0,1,2,3,4,5,6,7] (.step 8 (.step 9 (.step 10 .done .done) .done) .done) (by kernel_rfl) ?_;simp only[go_sem,hg,hNl]
   refine Sd ?_
   refine GCall.use (.sl 3 row) (fun _=>⟨At,(h2).val.use ⟨rfl,rfl⟩⟩) ?_;simp only[go_sem]
   refine Sd ?_
   intro b' cap' g8
   refine Wk ?_
   exact⟨_,List.Sublist.refl _,_,rfl,by rw[hys,e1];exact .row b' _ cap'⟩
  ·repeat(first|(with_reducible refine AWp.seq ?_)|(with_reducible refine AWp.block ?_))
   refine AWp.mix mixed [0,1,2,3,4,5,6,7] (.step 8 (.step 9 (.step 10 .done .done) .done) .done) (by kernel_rfl) ?_;simp only[go_sem,hg,hNl]
   refine Sd ?_
   refine GCall.use (.sl 3 row) (fun _=>⟨At,(h2).val.use ⟨rfl,rfl⟩⟩) ?_;simp only[go_sem]
   refine Sd ?_
   intro b' cap' g8
   refine Wk ?_
   exact⟨_,List.Sublist.refl _,_,rfl,by rw[hys];exact AppSt.snoc b' cap' _ rfl⟩
 ·have:ts.length=k:=by omega
  rw[this] at *
  generalize (List.range k).map (fun p=>AV.sl 3 ((rowsX ps ts p).map aStp))=ys at *
  rcases hAp.inv with ⟨e1,rfl,rfl⟩|⟨bq,cap,rfl,rfl⟩
  ·refine Wk ?_
   refine ret_view [] ?_;simp only[go_sem]
   rw[e1];exact .nil 1
  ·refine Wk ?_
   refine ret_view [true] ?_;simp only[go_sem]
   exact Vw.ofLs (if_pos rfl) rfl
end Go.AL
end
