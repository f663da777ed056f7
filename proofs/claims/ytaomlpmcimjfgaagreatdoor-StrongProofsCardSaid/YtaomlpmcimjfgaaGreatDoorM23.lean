/- Texts of this claim's proof: WV15, WCs, WV16, WQp, WU7, WU8, WPw3, WV17, WXm, WXs. No condition. -/
import Derived.Test.YtaomlpmcimjfgaaGreatDoorM22
import Derived.Test.YtaomlpmcimjfgaaGreatDoorM15
import Derived.Test.YtaomlpmcimjfgaaGreatDoorM11
import Derived.Test.YtaomlpmcimjfgaaGreatDoorM7
import Derived.Test.YtaomlpmcimjfgaaGreatDoorM21
import Derived.Test.YtaomlpmcimjfgaaGreatDoorM18
import Derived.Test.YtaomlpmcimjfgaaGreatDoorM8
section
namespace Go.AL
open Go Go.RowKit
set_option maxRecDepth 4000
def DefS (ps:List Pr) (ts:List Pd) (r:AV):Prop :=
 (conF ps ts ≠ 0∧r = .tup [aAns noAns,ai (conF ps ts)])∨(conF ps ts=0∧∃a,LeastS ps (rowsOf ps ts) a∧r = .tup [aAns ⟨2,true,4,[],[],[],(chcL ps.length (rowsOf ps ts) a).map stpI,0⟩,ai 0]) ∨
  (conF ps ts=0∧(¬ ∃t,TgtS ps (rowsOf ps ts) t)∧∃O,DodgeR ps (elimOf ps ts).ok O∧O.length≤513∧r = .tup [aAns ⟨2,false,3,[],[],O,[],0⟩,ai 0])
def aAnsN:AV:=.agg [ai 0,ab false,ai 0,anil,anil,anil,anil,ai 0]
theorem vw_noAns (L:AHeap):Vw L aAnsN (aAns noAns):=.mkAgg (Vws.cons (.refl _) (Vws.cons (.refl _) (Vws.cons (.refl _) (Vws.cons (.nil 1) (Vws.cons (.nil 1) (Vws.cons (.nil 1) (Vws.cons (.nil 3) (Vws.refl _))))))))
set_option maxHeartbeats 1000000 in
theorem strong_Definitely (ps:List Pr) (hs:Sm ps) (ts:List Pd) (hz:∀t ∈ ts,szF t≤1000000) (htl:ts.length≤1000000):MCalls Proofs.Tryz.prog 10 [aTr ps,.sl 6 (ts.map aPd)] [] fun r L=>L=[]∧DefS ps ts r:=by
 have h1:=strong_truths ps hs ts hz htl
 refine MCalls.toS (K:=fun r L=>∃r0,Vw L r r0∧DefS ps ts r0) ?_ (fun _ _ h=>h)
 unfold aTruR at h1
 by_cases hC:conF ps ts=0
 ·obtain⟨hv,hl,_⟩:=conF_inv hC
  have hl8:=(valid_len hv).2
  have hok:=rowsOf_ok (ps:=ps) (ts:=ts) hl
  have hlen:∀p,p<ps.length→(rowsOf ps ts p).length≤1000000:=fun p hp=>by have:=rowsOf_len hv ts p hp;omega
  have h2:=strong_tight ps hs hv hok hlen
  have hR:aRowsS ps ps.length (rowsOf ps ts) = .sl 1 (rowsK ps (rowsOf ps ts) ps.length):=rfl
  rw[if_pos hC,hR] at h1
  have hA:∀l,aStrs ps l = .sl 4 (l.map (aStr ps)):=fun _=>rfl
  by_cases hT:∃t,TgtS ps (rowsOf ps ts) t
  ·obtain⟨a,ha⟩:=least_ex hok hT
   rw[aTight_some ha,hR,hA] at h2
   have hfin:DefS ps ts (.tup [aAns ⟨2,true,4,[],[],[],(chcL ps.length (rowsOf ps ts) a).map stpI,0⟩,ai 0]):=.inr (.inl ⟨hC,a,ha,rfl⟩)
   have hcl:(chcL ps.length (rowsOf ps ts) a).length=ps.length:=chcL_len _ _ _
   have hsi:=aStp_I (chcL ps.length (rowsOf ps ts) a)
   generalize DefS ps ts=S at *
   generalize chcL ps.length (rowsOf ps ts) a=cl at *
   refine MCalls.enter' 54 [.cell 4 33,.tmp 5] [2,12,49] Proofs.Tryz.func10 rfl rfl rfl rfl rfl (by simp) (AWp.of ?_);simp only[go_sem]
   refine Wk ?_
   intro b4
   refine Wk ?_
   refine Sd ?_
   refine(h1).val.use ?_;simp only[go_sem]
   refine Wk ?_
   intro b8 g8
   have n1:¬b4=b8:=by omega
   have n2:¬b8=b4:=by omega
   refine W2 n1 n2 ?_
   refine Sd ?_
   refine(h2).val.use ?_;simp only[go_sem]
   refine W2 n1 n2 ?_
   refine(AWp.range' cl.length [] [4,8,39,40] (fun k vs L=>∃v Lq,L=Lq ++ [(b8,.row 33 8 [.agg [ai 2,ab true,ai 4,anil,anil,anil,v,ai 0]] 1),(b4,.row 33 8 [aAnsN] 1)]∧AppSt 57 3 ((cl.take k).map aStp) v Lq∧∀x ∈ Lq,x.1 ≠ b8∧x.1 ≠ b4) (by omega) rfl rfl rfl ⟨anil,[],rfl,.nil,by simp⟩ ?_ ?_)
   ·rintro k vs L hk - ⟨v,Lq,rfl,hAp,hq⟩
    have hgk:=getD_map (f:=aStr ps) hk
    have hfo:=hAp.fo
    have hyl:((cl.take k).map aStp).length=k:=by rw[List.length_map,List.length_take];omega
    rw[List.take_succ_eq_append_getElem hk,List.map_append]
    have ea:[cl[k]].map aStp=[.agg [ai cl[k].1,ai cl[k].2.1,ai cl[k].2.2]]:=rfl
    rw[ea]
    generalize cl[k]=s at *
    generalize (cl.take k).map aStp=ys at *
    rcases hAp.inv with ⟨e1,rfl,rfl⟩|⟨bq,cap,rfl,rfl⟩
    ·simp only[go_sem,List.nil_append]
     refine W3 hgk n1 n2 ?_
     intros
     refine W2 n1 n2 ?_
     intro b' cap' g1 g2 g3
     have n3:¬b8=b'∧¬b'=b8∧¬b4=b'∧¬b'=b4:=by omega
     obtain⟨n3,n4,n5,n6⟩:=n3
     simp only[go_sem,n3]
     refine⟨_,List.Sublist.refl _,.ls b' 3 0 1 cap',[(b',.row 57 3 (ys ++ [.agg [ai s.1,ai s.2.1,ai s.2.2]]) cap')],?_,?_,?_⟩
     ·rw[e1];rfl
     ·rw[e1];exact .row _ _ _
     ·intro y hy;simp only[List.mem_singleton] at hy;subst hy;exact⟨n4,n6⟩
    ·have nq:=hq (bq,.row 57 3 ys cap) (by simp)
     simp only at nq
     have nq1:¬b8=bq:=fun e=>nq.1 e.symm
     have nq2:¬b4=bq:=fun e=>nq.2 e.symm
     simp only[go_sem,List.cons_append,List.nil_append]
     refine W6 hgk n1 n2 nq nq1 nq2 ?_
     intros
     refine W5 n1 n2 nq nq1 nq2 ?_
     intro b' cap' g1 g2 g3
     have n3:¬b8=b'∧¬b'=b8∧¬b4=b'∧¬b'=b4:=by omega
     obtain⟨n3,n4,n5,n6⟩:=n3
     simp only[go_sem,n3]
     refine⟨_,List.Sublist.refl _,.ls b' 3 0 (ys.length+1) cap',[(b',.row 57 3 (ys ++ [.agg [ai s.1,ai s.2.1,ai s.2.2]]) cap')],?_,?_,?_⟩
     ·rfl
     ·exact AppSt.snoc b' cap' _ rfl
     ·intro y hy;simp only[List.mem_singleton] at hy;subst hy;exact⟨n4,n6⟩
   ·rintro vs L - ⟨v,Lq,rfl,hAp,hq⟩
    rw[List.take_length] at hAp
    have hfo:=hAp.fo
    rcases hAp.inv with ⟨e1,rfl,rfl⟩|⟨bq,cap,rfl,rfl⟩
    ·have:cl.length=0:=by simpa using congrArg List.length e1
     have:=(valid_len hv).1
     omega
    ·have nq:=hq (bq,.row 57 3 (cl.map aStp) cap) (by simp)
     simp only at nq
     have nq1:¬b8=bq:=fun e=>nq.1 e.symm
     have nq2:¬b4=bq:=fun e=>nq.2 e.symm
     simp only[go_sem,List.cons_append,List.nil_append]
     refine W5 n1 n2 nq nq1 nq2 ?_
     refine ret_sub [(bq,.row 57 3 (cl.map aStp) cap)] (by simp) ?_
     simp only[go_sem,n1,nq2]
     refine⟨_,.mkTup (Vws.cons (.mkAgg ?_) (Vws.refl _)),hfin⟩
     refine Vws.cons (.refl _) (Vws.cons (.refl _) (Vws.cons (.refl _) (Vws.cons (.nil 1) (Vws.cons (.nil 1) (Vws.cons (.nil 1) (Vws.cons ?_ (Vws.refl _)))))))
     rw[← hsi]
     exact Vw.ofLs (if_pos rfl) (List.length_map _).symm
  ·have h3:=strong_dodge ps hs hv hok hlen hT
   rw[aTight_none hT,hR,hA] at h2
   rw[hR] at h3
   have hfin:∀O,DodgeR ps (elimOf ps ts).ok O→O.length≤513→DefS ps ts (.tup [aAns ⟨2,false,3,[],[],O,[],0⟩,ai 0]):=fun O h1 h2 => .inr (.inr ⟨hC,hT,O,h1,h2,rfl⟩)
   generalize DefS ps ts=S at *
   refine MCalls.enter' 54 [.cell 4 33,.tmp 5] [2,12,49] Proofs.Tryz.func10 rfl rfl rfl rfl rfl (by simp) (AWp.of ?_);simp only[go_sem]
   refine Wk ?_
   intro b4
   refine Wk ?_
   refine Sd ?_
   refine(h1).val.use ?_;simp only[go_sem]
   refine Wk ?_
   intro b8 g8
   have n1:¬b4=b8:=by omega
   have n2:¬b8=b4:=by omega
   refine W2 n1 n2 ?_
   refine Sd ?_
   refine(h2).val.use ?_;simp only[go_sem]
   refine W2 n1 n2 ?_
   refine(MVal.frame (Lm:=[]) (Lr:=[(b8,.row 33 8 [.agg [ai 2,ab false,ai 0,anil,anil,anil,anil,ai 0]] 1),(b4,.row 33 8 [aAnsN] 1)]) h3.val).mono ?_
   rintro r L ⟨L1,rfl,rfl,O,hO,hOl,rfl⟩
   simp only[go_sem,n2,List.nil_append]
   refine W2 n1 n2 ?_
   refine ret_sub [] (List.nil_sublist _) ?_
   simp only[go_sem,n1]
   refine⟨_,.mkTup (Vws.cons (.mkAgg ?_) (Vws.refl _)),hfin O hO hOl⟩
   exact Vws.cons (.refl _) (Vws.cons (.refl _) (Vws.cons (.refl _) (Vws.cons (.nil 1) (Vws.cons (.nil 1) (Vws.cons (.refl _) (Vws.cons (.nil 3) (Vws.refl _)))))))
 ·rw[if_neg hC] at h1
  have hfin:DefS ps ts (.tup [aAns noAns,ai (conF ps ts)]):=.inl ⟨hC,rfl⟩
  generalize DefS ps ts=S at *
  generalize conF ps ts=e at *
  refine MCalls.enter' 54 [.cell 4 33,.tmp 5] [2,12,49] Proofs.Tryz.func10 rfl rfl rfl rfl rfl (by simp) (AWp.of ?_);simp only[go_sem]
  refine Wk ?_
  intro b4
  refine Wk ?_
  refine Sd ?_
  refine(h1).val.use ?_;simp only[go_sem]
  refine W1 hC ?_
  refine ret_sub [] (List.nil_sublist _) ?_
  simp only[go_sem]
  exact⟨_,.mkTup (Vws.cons (vw_noAns _) (Vws.refl _)),hfin⟩
theorem ref22_Fits (ps:List Pr) (hs:Sm ps) (c:List Int):PC Proofs.Tryz.prog 120 [aTr ps,aInts c] (ab (decide (c.length=ps.length))):=by
 have hl:=hs.procs
 refine PC.enter 11 [.tmp 4] [2] Proofs.Tryz.func120 rfl rfl rfl rfl rfl (by simp) (AWp.of ?_);simp only[go_sem]
 refine Wk ?_
 refine ret_eq ?_;simp only[go_sem]
 congr 2
 simp only[decide_eq_decide];omega
theorem ref22_Range (ps:List Pr) (hs:Sm ps) (c:List Int) (hc:c.length=ps.length):PC Proofs.Tryz.prog 121 [aTr ps,aInts c] (ab (inRangeF ps c)):=by
 have hl:=hs.procs
 refine PC.enter 31 [.tmp 4] [2] Proofs.Tryz.func121 rfl rfl rfl rfl rfl (by simp) (AWp.of ?_);simp only[go_sem]
 refine Wk ?_
 refine AWp.block (AWp.count 5 c.length [] [1,2] (fun p vs L=>L=[]∧∀q,q<p→cntOk ps c q=true) rfl rfl ⟨rfl,by omega⟩ ?_)
 rintro p vs L hp - ⟨rfl,hI⟩
 simp only[go_sem]
 refine Wk ?_
 refine⟨fun h2 => ?_,fun h2 => ?_⟩
 ·have hpc:p<c.length:=by omega
  have hpp:p<ps.length:=by omega
  have hco:=cntOk_get hpp hpc
  have hgP:=getD_map (f:=aPr) hpp
  have hgc:=getD_map (f:=ai) hpc
  refine AWp.seq (AWp.block (AWp.seq ?_))
  refine AWp.drawn mixed 19 (by kernel_rfl) ?_;simp only[go_sem,hgP,hgc]
  refine Sd ?_
  refine Wk ?_
  refine⟨fun h3 => ?_,fun h3 => ?_⟩
  ·refine Wk ?_
   refine ret_eq ?_;simp only[go_sem]
   have:inRangeF ps c=false:=by
    unfold inRangeF
    rw[List.all_eq_false]
    refine⟨p,List.mem_range.2 hpc,?_⟩
    rw[hco]
    simp only[Bool.and_eq_true,decide_eq_true_eq]
    omega
   rw[this]
  ·intro h4
   refine Wk ?_
   refine⟨_,List.Sublist.refl _,rfl,fun q hq => ?_⟩
   by_cases e:q=p
   ·subst e;rw[hco];simp only[Bool.and_eq_true,decide_eq_true_eq];omega
   ·exact hI q (by omega)
 ·refine Wk ?_
  refine ret_eq ?_;simp only[go_sem]
  have:inRangeF ps c=true:=by
   unfold inRangeF
   rw[List.all_eq_true]
   exact fun q hq=>hI q (by have:=List.mem_range.1 hq;omega)
  rw[this]
theorem ref22_closed (ps:List Pr) (hs:Sm ps) (hv:validF ps=true) (c:List Int) (hc:c.length=ps.length) (hr:inRangeF ps c=true):PC Proofs.Tryz.prog 122 [aTr ps,aInts c] (ab (closedF ps c)):=by
 obtain⟨hl1,hl8⟩:=valid_len hv
 have hl:=hs.procs
 refine PC.enter 27 [.tmp 4] [2] Proofs.Tryz.func122 rfl rfl rfl rfl rfl (by simp) (AWp.of ?_);simp only[go_sem]
 refine Wk ?_
 refine AWp.block (AWp.count 5 c.length [] [1,2] (fun p vs L=>L=[]∧Ahead ps (fun q j=>badEv ps c (((q:Int),(j:Int)+1),evq ps q j)=false) p 0) rfl rfl ⟨rfl,fun _ _ _ h=>by omega,fun j hj=>by omega⟩ ?_)
 rintro p vs L hp - ⟨rfl,hA⟩
 simp only[go_sem]
 refine Wk ?_
 refine⟨fun h1 => ?_,fun h1 => ?_⟩
 ·have hpc:p<c.length:=by omega
  have hpp:p<ps.length:=by omega
  have hgc:=getD_map (f:=ai) hpc
  have hel:=hs.evs _ (List.getElem_mem hpp)
  obtain⟨hr1,hr2⟩:=inRangeF_get hr hc hpp
  refine Wk ?_
  refine AWp.block (AWp.count 6 c[p].toNat [] [1,2,5] (fun i vs L=>L=[]∧Ahead ps (fun q j=>badEv ps c (((q:Int),(j:Int)+1),evq ps q j)=false) p i) rfl rfl ⟨rfl,hA⟩ ?_)
  rintro i vs L hi - ⟨rfl,hB⟩
  simp only[go_sem]
  refine W1 hgc ?_
  refine⟨fun h2 => ?_,fun h2 => ?_⟩
  ·have hie:i<ps[p].evs.length:=by omega
   have hsn:=ref22_Sent ps hs hv c hc p hpp i hie (by rw[cAt_nat hpc];omega)
   have hev:=evIds_get hpp hie
   have hq0:=evq_get hpp hie
   rw[← hq0] at hsn hev
   refine Wk ?_
   refine Sd ?_
   refine(hsn).val.use ?_;simp only[go_sem]
   cases hb:badEv ps c (((p:Int),(i:Int)+1),evq ps p i) with
   | true =>
    refine Wk ?_
    refine ret_eq ?_;simp only[go_sem]
    unfold closedF
    have:(evIds ps).any (badEv ps c)=true:=List.any_eq_true.2 ⟨_,List.mem_of_getElem? hev,hb⟩
    rw[this];rfl
   | false =>
    refine Wk ?_
    exact⟨_,List.Sublist.refl _,rfl,hB.next hb⟩
  ·refine Wk ?_
   refine⟨_,List.Sublist.refl _,rfl,Ahead.row hpp ⟨hB.1,fun j hj => ?_⟩⟩
   by_cases e:j<i
   ·exact hB.2 j e
   ·simp only[badEv,cAt_nat hpc,decide_eq_false (show ¬(j:Int)+1≤c[p] by omega),Bool.and_false,Bool.false_and]
 ·refine Wk ?_
  refine ret_eq ?_;simp only[go_sem]
  unfold closedF
  have:(evIds ps).any (badEv ps c)=false:=by
   rw[List.any_eq_false]
   intro x hx
   obtain⟨k,hk⟩:=List.getElem?_of_mem hx
   obtain⟨q,hq,j,hj,_,rfl⟩:=evIds_inv hk
   have:=hA.1 q hq j (by omega) hj
   dsimp only at this
   rw[evq_get hq hj] at this
   rw[this];decide
  rw[this];rfl
theorem ref22_Consistent (ps:List Pr) (hs:Sm ps) (hv:validF ps=true) (c:List Int):PC Proofs.Tryz.prog 90 [aTr ps,aInts c] (ab (isF ps c)):=by
 have h0:=ref12_Valid ps hs
 have h1:=ref22_Fits ps hs c
 have h2:=fun h=>ref22_Range ps hs c h
 have h3:=fun h1 h2=>ref22_closed ps hs hv c h1 h2
 rw[hv] at h0
 unfold isF
 generalize closedF ps c=B at *
 refine PC.enter 22 [.tmp 4] [2] Proofs.Tryz.func90 rfl rfl rfl rfl rfl (by simp) (AWp.of ?_);simp only[go_sem]
 refine Wk ?_
 refine Sd ?_
 refine(h0).val.use ?_;simp only[go_sem]
 refine Sd ?_
 refine GCall.use (ab (decide (c.length=ps.length))) (fun _=>⟨At,(h1).val.use ⟨rfl,rfl⟩⟩) ?_;simp only[go_sem]
 refine Sd ?_
 refine GCall.use (ab (inRangeF ps c)) ?_ ?_
 ·intro g;exact⟨At,(h2 (by simpa using g)).val.use ⟨rfl,rfl⟩⟩
 simp only[go_sem]
 refine Sd ?_
 refine GCall.use (ab B) ?_ ?_
 ·intro g;exact⟨At,(h3 (by simpa using g.1) (by simpa using g.2)).val.use ⟨rfl,rfl⟩⟩
 simp only[go_sem]
 refine Wk ?_
 refine ret_eq ?_;simp only[go_sem]
theorem ref37_Satisfies (ps:List Pr) (hs:Sm ps) (ts:List Pd) (hz:∀t ∈ ts,szF t≤1000000) (htl:ts.length≤1000000) (hf:conF ps ts=0) (c:List Int):PC Proofs.Tryz.prog 47 [aTr ps,.sl 6 (ts.map aPd),aInts c] (ab (satG ps (elimOf ps ts) c)):=by
 obtain⟨hv,htn,hlc⟩:=conF_inv hf
 have hps:=hs.procs
 have h1:=ref22_Consistent ps hs hv c
 have hloc:∀p (hp:p<ps.length) (hpt:p<ts.length) k,k≤ps[p].evs.length→PC Proofs.Tryz.prog 63 [aTr ps,ai p,ai (k:Nat),aPd ts[p]] (ab ((elimOf ps ts).ok p k)):=fun p hp hpt k hk=>by
  obtain⟨c1,_,_,_,c5,c6⟩:=lcl_ok (hlc p hpt)
  have h:=ref29_Local ps hs p k hp hk ts[p] (hz _ (List.getElem_mem hpt)) c1 c5 c6
  have hok:(elimOf ps ts).ok p k=lclT ps p ts[p] k:=by show (match ts[p]? with|some t=>lclT ps p t k|none=>true)=_;rw[List.getElem?_eq_getElem hpt]
  rw[hok];exact h
 generalize elimOf ps ts=E at *
 cases h:isF ps c with
 | false =>
  have hsf:satG ps E c=false:=by unfold satG;rw[h];rfl
  rw[h] at h1
  rw[hsf]
  by_cases hl:(c.length:Int)=ps.length
  ·refine PC.enter 38 [.tmp 6] [3] Proofs.Tryz.func47 rfl rfl rfl rfl rfl (by simp) (AWp.of ?_);simp only[go_sem]
   refine W1 hl ?_
   refine Sd ?_
   refine Gc h1 ?_
   refine Sd ?_
   refine Wk ?_
   refine ret_eq ?_;simp only[go_sem]
  ·refine PC.enter 38 [.tmp 6] [3] Proofs.Tryz.func47 rfl rfl rfl rfl rfl (by simp) (AWp.of ?_);simp only[go_sem]
   refine W1 hl ?_
   refine Sd ?_
   refine Gc h1 ?_
   refine Sd ?_
   refine Wk ?_
   refine ret_eq ?_;simp only[go_sem]
 | true =>
  obtain⟨hl,hr,_⟩:=isF_iff.1 h
  have hli:(c.length:Int)=ps.length:=by omega
  have hrr:=(inRange_iff hl).1 hr
  have hno:∀p,p<c.length→E.ok p (cAt c p).toNat=false→satG ps E c=false:=fun p hp he=>by
   unfold satG;rw[h,Bool.true_and]
   exact List.all_eq_false.2 ⟨p,List.mem_range.2 hp,by rw[he];decide⟩
  have hyes:(∀p,p<c.length→E.ok p (cAt c p).toNat=true)→satG ps E c=true:=fun he=>by
   unfold satG;rw[h,Bool.true_and,List.all_eq_true]
   exact fun p hp=>he p (List.mem_range.1 hp)
  rw[h] at h1
  generalize satG ps E c=S at *
  refine PC.enter 38 [.tmp 6] [3] Proofs.Tryz.func47 rfl rfl rfl rfl rfl (by simp) (AWp.of ?_);simp only[go_sem]
  refine W1 hli ?_
  refine Sd ?_
  refine Gc h1 ?_
  refine Sd ?_
  refine Wk ?_
  refine AWp.block (AWp.count 7 c.length [] [1,2,3] (fun k vs L=>L=[]∧∀p,p<k→E.ok p (cAt c p).toNat=true) rfl rfl ⟨rfl,fun p hp=>by omega⟩ ?_)
  rintro k vs L hk - ⟨rfl,hJ⟩
  simp only[go_sem]
  refine Wk ?_
  refine⟨fun h3 => ?_,fun h3 => ?_⟩
  ·have hkc:k<c.length:=by omega
   have hkt:k<ts.length:=by omega
   have hkp:k<ps.length:=by omega
   have gc:=getD_map (f:=ai) hkc
   have gt:=getD_map (f:=aPd) hkt
   have hca:cAt c k=c[k]:=cAt_nat hkc
   have hrk:=hrr k hkp
   rw[hca] at hrk
   have hnk:=hno k hkc
   rw[hca] at hnk
   have hlk:=hloc k hkp hkt c[k].toNat (by omega)
   have hck:((c[k].toNat:Nat):Int)=c[k]:=by omega
   rw[hck] at hlk
   generalize c[k]=z at *
   generalize ts[k]=t at *
   obtain⟨k0,n0,p0,q0,s0,l0⟩:=t
   simp only[aPd_mk] at *
   refine AWp.seq (AWp.block (AWp.seq ?_))
   repeat(first|(with_reducible refine AWp.seq ?_)|(with_reducible refine AWp.block ?_))
   refine AWp.mix mixed [0,1,2,3,4,5,6,7,8,9,10,11] .done (by kernel_rfl) ?_;simp only[go_sem,gc,gt]
   refine Sd ?_
   refine GCall.use (ab (E.ok k z.toNat)) ?_ ?_
   ·intro _;exact⟨At,hlk.val.use ⟨rfl,rfl⟩⟩
   simp only[go_sem]
   refine Sd ?_
   cases he:E.ok k z.toNat with
   | false =>
    refine Wk ?_
    refine ret_eq ?_;simp only[go_sem]
    rw[hnk he]
   | true =>
    refine Wk ?_
    refine⟨_,List.Sublist.refl _,rfl,fun p hp => ?_⟩
    by_cases e:p=k
    ·subst e;rw[hca];exact he
    ·exact hJ p (by omega)
  ·refine Wk ?_
   refine ret_eq ?_;simp only[go_sem]
   rw[hyes fun p hp=>hJ p (by omega)]
noncomputable def avdB (ps:List Pr) (ts:List Pd) (r:List (List Int)):Bool:=isR ps r && r.all fun c => !satG ps (elimOf ps ts) c
theorem ref38_Avoids (ps:List Pr) (hs:Sm ps) (ts:List Pd) (hz:∀t ∈ ts,szF t≤1000000) (htl:ts.length≤1000000) (hf:conF ps ts=0) (r:List (List Int)) (hl:r.length≤1000000) (hx:∀x ∈ r,x.length≤1000000) :
  PC Proofs.Tryz.prog 17 [aTr ps,.sl 6 (ts.map aPd),aRows r] (ab (avdB ps ts r)):=by
 have h1:=ref24_Is ps hs r hl hx
 have h2:=fun c=>ref37_Satisfies ps hs ts hz htl hf c
 have hR:aRows r = .sl 1 (r.map aInts):=rfl
 have hA:avdB ps ts r=(isR ps r && r.all fun c => !satG ps (elimOf ps ts) c):=rfl
 rw[hR] at h1 ⊢
 generalize avdB ps ts r=AB at *
 cases hi:isR ps r with
 | false =>
  rw[hi] at h1 hA
  subst hA
  refine PC.enter 25 [.tmp 6] [3] Proofs.Tryz.func17 rfl rfl rfl rfl rfl (by simp) (AWp.of ?_);simp only[go_sem]
  refine Wk ?_
  refine Sd ?_
  refine(h1).val.use ?_;simp only[go_sem]
  refine Wk ?_
  refine ret_eq ?_;simp only[go_sem]
 | true =>
  rw[hi,Bool.true_and] at hA
  rw[hi] at h1
  refine PC.enter 25 [.tmp 6] [3] Proofs.Tryz.func17 rfl rfl rfl rfl rfl (by simp) (AWp.of ?_);simp only[go_sem]
  refine Wk ?_
  refine Sd ?_
  refine(h1).val.use ?_;simp only[go_sem]
  refine Wk ?_
  refine(AWp.block (AWp.count 7 r.length [] [1,2,3] (fun k vs L=>L=[]∧∀j (hj:j<r.length),j<k→satG ps (elimOf ps ts) r[j]=false) rfl rfl ⟨rfl,fun _ _ h=>by omega⟩ ?_))
  rintro k vs L hkl - ⟨rfl,hI⟩
  simp only[go_sem]
  by_cases hk:k<r.length
  ·have hkk:(k:Int)<r.length:=by omega
   have hg:=getD_map (f:=aInts) hk
   have h3:=h2 r[k]
   have hbad:satG ps (elimOf ps ts) r[k]=true→AB=false:=fun h=>by
    rw[hA,List.all_eq_false]
    exact⟨_,List.getElem_mem hk,by rw[h];decide⟩
   have hI2:satG ps (elimOf ps ts) r[k]=false→∀j (hj:j<r.length),j<k+1→satG ps (elimOf ps ts) r[j]=false:=fun h j hj hjk=>by
    by_cases e:j=k
    ·subst e;exact h
    ·exact hI j hj (by omega)
   clear hI h2
   generalize satG ps (elimOf ps ts) r[k]=SB at *
   generalize r[k]=c at *
   refine W1 hkk ?_
   repeat(first|(with_reducible refine AWp.seq ?_)|(with_reducible refine AWp.block ?_))
   refine AWp.read mixed [0,1,2,3,4,5,6] (by kernel_rfl) ?_;simp only[go_sem,hg,hkk]
   refine Sd ?_
   refine GCall.use (ab SB) (fun _=>⟨At,(h3).val.use ⟨rfl,rfl⟩⟩) ?_;simp only[go_sem]
   refine Sd ?_
   cases SB with
   | true =>
    rw[hbad rfl]
    refine Wk ?_
    refine ret_eq ?_;simp only[go_sem]
   | false =>
    refine Wk ?_
    exact⟨_,List.Sublist.refl _,rfl,hI2 rfl⟩
  ·have hkk:¬(k:Int)<r.length:=by omega
   have:AB=true:=by
    rw[hA,List.all_eq_true]
    intro c hc
    obtain⟨j,hj,rfl⟩:=List.getElem_of_mem hc
    rw[hI j hj (by omega)];rfl
   rw[this]
   refine W1 hkk ?_
   refine ret_eq ?_;simp only[go_sem]
theorem sat_avoid {ps:List Pr} {ts:List Pd} {d:List Int} (h:AvoidC ps (elimOf ps ts).ok d):satG ps (elimOf ps ts) d=false:=by
 cases hs:satG ps (elimOf ps ts) d with
 | false=>rfl
 | true =>
  obtain⟨p,hp,hb⟩:=h
  have:=(satG_iff.1 hs).ok p hp
  rw[hb] at this;cases this
theorem dodge_avd {ps:List Pr} {ts:List Pd} (hv:validF ps=true) {O:List (List Int)} (h:DodgeR ps (elimOf ps ts).ok O):avdB ps ts O=true:=by
 unfold avdB isR
 rw[hv,h.run,Bool.true_and,Bool.true_and,List.all_eq_true]
 intro c hc
 rw[sat_avoid (h.av c hc)];rfl
theorem dodge_row {ps:List Pr} {b:Nat→Nat→Bool} (hv:validF ps=true) {O:List (List Int)} (h:DodgeR ps b O):∀x ∈ O,x.length≤1000000:=fun x hx=>by
 obtain⟨R,rfl,hch,_⟩:=isrun_inv h.run
 have h8:=(valid_len hv).2
 rcases List.mem_cons.1 hx with rfl|hx
 ·unfold zeroC;simp;omega
 ·obtain⟨j,hj,rfl⟩:=List.getElem_of_mem hx
  have:=(isF_iff.1 (chn_iff.1 hch j hj).1).1
  omega
def bareB (a:Ans) (k:Int):Bool:=decide (a.mode=2) && (decide (a.kind=k) && (decide (a.cut=[]) && (decide (a.cuts=[]) && (decide (a.value=0) && ((decide (k=3) || decide (a.run=[])) && (decide (k=4) || decide (a.spans=[])))))))
def eachB (ps:List Pr) (l:List Spn3):Bool:=decide (l.length=ps.length) && (List.range l.length).all fun i=>decide ((l.getD i (0,0,0)).1=i)
def asg12 (e:Ev):Bool:=decide (12<(e.asg.length:Int))
def smW (ps:List Pr):Nat→Int
 | 0=>0
 | k+1=>addW (smW ps k) (nev ps k)
theorem smW_in (ps:List Pr):∀k,-9223372036854775808≤smW ps k∧smW ps k≤9223372036854775807
 | 0=>by show -9223372036854775808≤(0:Int)∧(0:Int)≤9223372036854775807;omega
 | k+1=>by
  show -9223372036854775808≤addW (smW ps k) (nev ps k)∧addW (smW ps k) (nev ps k)≤9223372036854775807
  unfold addW
  rw[IntKind.wrap_i64]
  omega
section
variable {ps:List Pr} (hva:PC Proofs.Tryz.prog 72 [aTr ps] (ab false))
include hva
end
structure Vd (ps:List Pr):Prop where
 val:PC Proofs.Tryz.prog 72 [aTr ps] (ab (validF ps))
 rval:PC Proofs.Tryz.prog 42 [aTr ps] (ab (validF ps))
 sm:validF ps=true→Sm ps
 big:Sm ps∨validF ps=false
mutual
def hugeF:Pd→Int→Int→Int
 | .mk _ _ _ _ _ l,d,c=>hugeL l (d+1) (if 40<d then 1000 else c+1)
def hugeL:List Pd→Int→Int→Int
 | [],_,c=>c
 | x :: r,d,c=>if c≤300 then hugeL r d (hugeF x d c) else c
end
theorem AWp.slLen {C:Cfg} {Q:AQ} {ρ:Env} {L:AHeap} {c:Code} {k j:Nat} {xs:List AV} (hj:get ρ j = .sl k xs) (h:xs.length≤9223372036854775807→AWp C c Q ρ L):AWp C c Q ρ L:=fun hok n w0 M A0 a w hs=>by
 obtain⟨A,ds,hs'⟩:=st_iff.1 hs
 have hr:=hs'.env j
 rw[hj] at hr
 have hle:xs.length≤9223372036854775807:=by
  have hm:maxLen=9223372036854775807:=rfl
  rcases hr.inv_sl with ⟨rfl,_⟩|⟨b,off,cap,_,_,h1,h2,_⟩
  ·exact Nat.zero_le _
  ·omega
 exact h hle hok n w0 M A0 a w hs
def nm40 (v:ByteArray × Int):Bool:=decide (40<(v.1.size:Int))
def fwP (x:Pr):Bool:=decide (12<(x.vars.length:Int)) || (decide (40<(x.name.size:Int)) || (x.evs.any asg12 || x.vars.any nm40))
def fwQ (ps:List Pr) (m:Int) (k:Nat):Bool:=decide (m<smW ps (k+1)) || fwP (ps.getD k ⟨ByteArray.empty,[],[]⟩)
def fw38 (ps:List Pr) (m:Int):Bool:=!((List.range ps.length).any (fwQ ps m)) && decide (ps.length≤10)
theorem fw38_cases {ps:List Pr} {m:Int} (h:fw38 ps m=true):Sm ps∨(Smh ps∧∃p,p<ps.length∧procF ps p ≠ 0):=by
 unfold fw38 at h
 rw[Bool.and_eq_true,Bool.not_eq_true',List.any_eq_false,decide_eq_true_eq] at h
 obtain⟨h2,h1⟩:=h
 have h3:∀p ∈ ps,p.vars.length≤12∧∀e ∈ p.evs,e.asg.length≤12:=fun p hp=>by
  obtain⟨i,hi,rfl⟩:=List.getElem_of_mem hp
  have:=h2 i (List.mem_range.2 hi)
  unfold fwQ fwP at this
  rw[List.getD_eq_getElem?_getD,List.getElem?_eq_getElem hi,Option.getD_some,Bool.not_eq_true,Bool.or_eq_false_iff,Bool.or_eq_false_iff,Bool.or_eq_false_iff,Bool.or_eq_false_iff,decide_eq_false_iff_not,decide_eq_false_iff_not,List.any_eq_false] at this
  obtain⟨_,a1,_,a2,_⟩:=this
  refine⟨by omega,fun e he => ?_⟩
  have:=a2 e he
  unfold asg12 at this
  simp at this
  omega
 by_cases hb:∃p,∃h:p<ps.length,64<ps[p].evs.length
 ·obtain⟨p,hp,hb⟩:=hb
  exact .inr ⟨⟨by omega,fun p hp=>by have:=(h3 p hp).1;omega⟩,p,hp,procF_evs hp hb⟩
 ·refine .inl ⟨by omega,fun p hp => ?_,fun p hp=>by have:=(h3 p hp).1;omega,fun p hp e he=>by have:=(h3 p hp).2 e he;omega⟩
  obtain⟨i,hi,rfl⟩:=List.getElem_of_mem hp
  apply Classical.byContradiction
  intro h4
  exact hb ⟨i,hi,by omega⟩
theorem vd38 {ps:List Pr} {m:Int} (h:fw38 ps m=true):Vd ps:=by
 rcases fw38_cases h with h|⟨h,hb⟩
 ·exact⟨trace_Valid ps h,ref12_Valid ps h,fun _=>h,.inl h⟩
 ·exact⟨trace_ValidB ps h hb,ref12_ValidB ps h hb,fun hv=>absurd hv (by rw[valid_bad hb];simp),.inr (valid_bad hb)⟩
theorem law38_few1 (e:Ev):PC Proofs.Tryz.prog 33 [aEv e] (ab (asg12 e)):=by
 refine PC.enter 7 [.tmp 2] [1] Proofs.Tryz.func33 rfl rfl rfl rfl rfl (by simp) (AWp.of ?_);simp only[go_sem]
 refine Wk ?_
 refine ret_eq ?_;simp only[go_sem]
 rfl
theorem law38_few2 (v:ByteArray × Int):PC Proofs.Tryz.prog 35 [aVar v] (ab (nm40 v)):=by
 obtain⟨s,z⟩:=v
 have hA:aVar (s,z) = .agg [astr s,ai z]:=rfl
 have hB:nm40 (s,z)=decide (40<(s.size:Int)):=rfl
 rw[hA,hB]
 refine PC.enter 7 [.tmp 2] [1] Proofs.Tryz.func35 rfl rfl rfl rfl rfl (by simp) (AWp.of ?_);simp only[go_sem]
 refine Wk ?_
 refine ret_eq ?_;simp only[go_sem]
theorem law38_few (ps:List Pr) (hpl:ps.length≤9223372036854775807) (hl:∀p ∈ ps,p.evs.length≤9223372036854775807) (m:Int):PC Proofs.Tryz.prog 8 [aTr ps,ai m] (ab (fw38 ps m)):=by
 have hF:fw38 ps m=(!((List.range ps.length).any (fwQ ps m)) && decide (ps.length≤10)):=rfl
 generalize fw38 ps m=F at *
 refine PC.enter 50 [.tmp 4] [2,7] Proofs.Tryz.func8 rfl rfl rfl rfl rfl (by simp) (AWp.of ?_);simp only[go_sem]
 refine Wk ?_
 refine(AWp.range1' ps.length [5] [1,2,9,10] (fun k vs L=>L=[]∧vs=[ai (smW ps k)]∧∀j,j<k→fwQ ps m j=false) (by omega) rfl rfl rfl ⟨rfl,rfl,fun _ h=>by omega⟩ ?_ ?_)
 ·rintro k vs L hk - ⟨rfl,rfl,hI⟩
  have hgp:=getD_map (f:=aPr) hk
  have hQ:fwQ ps m k=(decide (m<smW ps (k+1)) || (decide (12<(ps[k].vars.length:Int)) || (decide (40<(ps[k].name.size:Int)) || (ps[k].evs.any asg12 || ps[k].vars.any nm40)))):=by
   unfold fwQ fwP;rw[List.getD_eq_getElem?_getD,List.getElem?_eq_getElem hk,Option.getD_some]
  have hsw:smW ps (k+1)=addW (smW ps k) ps[k].evs.length:=by rw[← nev_get hk];rfl
  have hin:=smW_in ps k
  have hin2:=smW_in ps (k+1)
  have hel:=hl _ (List.getElem_mem hk)
  have hall:fwQ ps m k=true→F=false:=fun h=>by
   rw[hF,List.any_eq_true.2 ⟨k,List.mem_range.2 hk,h⟩];rfl
  have hI':fwQ ps m k=false→∀j,j<k+1→fwQ ps m j=false:=fun h j hjk=>by
   by_cases e:j=k
   ·subst e;exact h
   ·exact hI j (by omega)
  have hcf:=events_containsFuncB ps[k].evs hel (.v (.func (.func 33) #[] #[])) rfl asg12 fun e _=>(law38_few1 e).val
  have hcv:=fun (h:ps[k].vars.length≤12)=>vars_containsFunc ps[k].vars (by omega) (.v (.func (.func 35) #[] #[])) rfl nm40 fun v _=>(law38_few2 v).val
  clear hI
  generalize ps[k]=x at *
  simp only[go_sem]
  refine Sd ?_
  refine AWp.of ?_;simp only[go_sem,hgp]
  refine Sd ?_
  intros
  refine AWp.seq (AWp.regionW ?_)
  simp only[go_sem]
  rw[← hsw]
  generalize smW ps (k+1)=z' at *
  generalize smW ps k=z at *
  generalize fwQ ps m k=FQ at *
  have hv1:decide (12<(x.vars.length:Int))=false→x.vars.length≤12:=fun h=>by
   have:=of_decide_eq_false h;omega
  generalize x.evs.any asg12=EA at *
  generalize hVA:x.vars.any nm40=VA at *
  refine Wk ?_
  refine Sd ?_
  refine Gc hcf ?_
  refine Sd ?_
  refine GCall.use (ab VA) (fun hg=>⟨At,(hcv (by simp at hg;omega)).val.use ⟨rfl,rfl⟩⟩) ?_
  simp only[go_sem]
  refine Wk ?_
  refine⟨fun h => ?_,fun h1 h2 h3 h4 h5 => ?_⟩
  ·have hx:FQ=true:=by
    rw[hQ]
    simp only[Bool.or_eq_true,decide_eq_true_eq]
    rcases h with (((h|h)|h)|h)|h
    ·exact .inl h
    ·exact .inr (.inl h)
    ·exact .inr (.inr (.inl h))
    ·exact .inr (.inr (.inr (.inl h)))
    ·exact .inr (.inr (.inr (.inr h)))
   rw[hall hx]
   refine Wk ?_
   refine ret_eq ?_;simp only[go_sem]
  ·have hx:FQ=false:=by
    rw[hQ,h4,h5]
    simp
    omega
   refine Wk ?_
   exact⟨_,List.Sublist.refl _,rfl,hI' hx⟩
 ·rintro vs L - ⟨rfl,rfl,hI⟩
  have hall:(List.range ps.length).any (fwQ ps m)=false:=List.any_eq_false.2 fun j hj=>by rw[hI j (List.mem_range.1 hj)];decide
  rw[hF,hall]
  simp only[go_sem]
  refine Wk ?_
  refine ret_eq ?_;simp only[go_sem]
  congr 2
  show decide _=decide _
  rw[decide_eq_decide];omega
mutual
def nodF:Pd→Int→Int→Int
 | .mk _ _ _ _ _ l,m,d=>if 40<d then m else nodL l m d 1
def nodL:List Pd→Int→Int→Int→Int
 | [],_,_,n=>n
 | x :: r,m,d,n=>if m≤n+nodF x (m - n) (d+1) then m else nodL r m d (n+nodF x (m - n) (d+1))
end
theorem nodL_nil (m d n:Int):nodL [] m d n=n:=by rw[nodL]
theorem nodL_cons (x:Pd) (r:List Pd) (m d n:Int):nodL (x :: r) m d n=if m≤n+nodF x (m - n) (d+1) then m else nodL r m d (n+nodF x (m - n) (d+1)):=by rw[nodL]
theorem nod_spec (t:Pd):∀m d:Int,(min m 1≤nodF t m d∧nodF t m d≤max m 1)∧(nodF t m d<m→(szF t:Int)=nodF t m d):=by
 induction t using Pd.ind with
 | _ k n p q s l ih =>
 intro m d
 rw[nodF,szF]
 have hl:∀l':List Pd,(∀x ∈ l',x ∈ l)→∀n:Int,1≤n→(n<m∨n=1)→(min m 1≤nodL l' m d n∧nodL l' m d n≤max m 1)∧(nodL l' m d n<m→n+(szL l':Int)=nodL l' m d n):=by
  intro l'
  induction l' with
  | nil=>intro _ n h0 h1;rw[nodL_nil,szL];exact⟨by omega,fun _=>by omega⟩
  | cons x r ihr =>
   intro hm n h0 h1
   obtain⟨⟨a1,a2⟩,a3⟩:=ih x (hm x List.mem_cons_self) (m - n) (d+1)
   rw[nodL_cons,szL]
   generalize nodF x (m - n) (d+1)=y at *
   by_cases hc:m≤n+y
   ·rw[if_pos hc]
    exact⟨by omega,fun h=>by omega⟩
   ·rw[if_neg hc]
    obtain⟨b1,b2⟩:=ihr (fun z hz=>hm z (List.mem_cons_of_mem _ hz)) (n+y) (by omega) (by omega)
    refine⟨b1,fun h => ?_⟩
    have:=b2 h
    have:=a3 (by omega)
    omega
 by_cases hd:40<d
 ·rw[if_pos hd]
  exact⟨by omega,fun h=>by omega⟩
 ·rw[if_neg hd]
  obtain⟨b1,b2⟩:=hl l (fun x hx=>hx) 1 (by omega) (.inr rfl)
  exact⟨b1,fun h=>by have:=b2 h;omega⟩
theorem law38_nodes (t:Pd):∀m d:Int,1 - d≤m→m≤60→0≤d→d≤41→PC Proofs.Tryz.prog 38 [aPd t,ai m,ai d] (ai (nodF t m d)):=by
 induction t using Pd.ind with
 | _ k n p q s l ih =>
 intro m d m0 m1 d0 d1
 have hF:nodF (.mk k n p q s l) m d=if 40<d then m else nodL l m d 1:=by rw[nodF]
 generalize nodF (.mk k n p q s l) m d=F at *
 rw[aPd_mk]
 by_cases hd:40<d
 ·rw[if_pos hd] at hF
  subst hF
  refine PC.enter 35 [.tmp 6] [3,9] Proofs.Tryz.func38 rfl rfl rfl rfl rfl (by simp) (AWp.of ?_);simp only[go_sem]
  refine W1 hd ?_
  refine ret_eq ?_;simp only[go_sem]
 ·rw[if_neg hd] at hF
  refine PC.enter 35 [.tmp 6] [3,9] Proofs.Tryz.func38 rfl rfl rfl rfl rfl (by simp) (AWp.of ?_);simp only[go_sem]
  refine W1 hd ?_
  refine AWp.slLen (j:=14) (k:=6) (xs:=l.map aPd) rfl fun hlen => ?_
  rw[List.length_map] at hlen
  refine(AWp.range1' l.length [7] [1,2,14,15] (fun i vs L=>L=[]∧∃c:Int,vs=[ai c]∧nodL (l.drop i) m d c=F∧1≤c∧(c<m∨c=1)) (by omega) rfl rfl rfl ⟨rfl,1,rfl,hF.symm,by omega,.inr rfl⟩ ?_ ?_)
  ·rintro i vs L hi - ⟨rfl,c,rfl,hN,c1,c2⟩
   have hg:=getD_map (f:=aPd) hi
   rw[← List.getElem_cons_drop hi,nodL_cons] at hN
   obtain⟨⟨a1,a2⟩,_⟩:=nod_spec l[i] (m - c) (d+1)
   have hch:=ih l[i] (List.getElem_mem hi) (m - c) (d+1) (by omega) (by omega) (by omega) (by omega)
   generalize nodF l[i] (m - c) (d+1)=y at *
   generalize l[i]=x at *
   obtain⟨k2,n2,p2,q2,s2,l2⟩:=x
   rw[aPd_mk] at hg hch
   simp only[go_sem]
   refine W1 hg ?_
   intros
   refine Wk ?_
   refine Sd ?_
   refine(hch).val.use ?_;simp only[go_sem]
   refine Sd ?_
   refine Wk ?_
   refine⟨fun h => ?_,fun h => ?_⟩
   ·rw[if_pos h] at hN
    refine Wk ?_
    refine ret_eq ?_;simp only[go_sem]
    rw[hN]
   ·rw[if_neg h] at hN
    exact⟨_,List.Sublist.refl _,rfl,c+y,rfl,hN,by omega,by omega⟩
  ·rintro vs L - ⟨rfl,c,rfl,hN,c1,c2⟩
   rw[List.drop_length,nodL_nil] at hN
   subst hN
   simp only[go_sem]
   refine Wk ?_
   refine ret_eq ?_;simp only[go_sem]
def bigT (t:Pd):Bool:=decide (60≤nodF t 60 1)
theorem law38_small1 (t:Pd):PC Proofs.Tryz.prog 37 [aPd t] (ab (bigT t)):=by
 have h1:=law38_nodes t 60 1 (by omega) (by omega) (by omega) (by omega)
 have hB:bigT t=decide (60≤nodF t 60 1):=rfl
 rw[hB]
 generalize nodF t 60 1=y at *
 obtain⟨k,n,p,q,s,l⟩:=t
 rw[aPd_mk] at *
 refine PC.enter 6 [.tmp 2] [1] Proofs.Tryz.func37 rfl rfl rfl rfl rfl (by simp) (AWp.of ?_);simp only[go_sem]
 refine Wk ?_
 refine Sd ?_
 refine(h1).val.use ?_;simp only[go_sem]
 refine Wk ?_
 refine ret_eq ?_;simp only[go_sem]
def sm38 (ts:List Pd):Bool:=decide ((ts.length:Int)≤12) && !ts.any bigT
theorem law38_small (ts:List Pd):PC Proofs.Tryz.prog 9 [.sl 6 (ts.map aPd)] (ab (sm38 ts)):=by
 unfold sm38
 refine PC.enter 11 [.tmp 2] [] Proofs.Tryz.func9 rfl rfl rfl rfl rfl (by simp) (AWp.of ?_);simp only[go_sem]
 refine Wk ?_
 refine GCall.use (ab (ts.any bigT)) (fun hg=>⟨At,(preds_containsFunc ts (by omega) _ rfl bigT fun t _=>(law38_small1 t).val).val.use ⟨rfl,rfl⟩⟩) ?_
 simp only[go_sem]
 refine Wk ?_
 refine ret_eq ?_;simp only[go_sem]
theorem sm38_spec {ts:List Pd} (h:sm38 ts=true):ts.length≤12∧∀t ∈ ts,szF t≤1000000:=by
 unfold sm38 at h
 rw[Bool.and_eq_true,decide_eq_true_eq,Bool.not_eq_true',List.any_eq_false] at h
 refine⟨by omega,fun t ht => ?_⟩
 have h1:=h.2 t ht
 unfold bigT at h1
 rw[decide_eq_true_eq] at h1
 have h2:=(nod_spec t 60 1).2 (by omega)
 omega
def lng12 (c:List Int):Bool:=decide (12<(c.length:Int))
def lngR (l:List (List Int)):Bool:=decide (100<(l.length:Int)) || l.any lng12
def lightB (a:Ans):Bool:=decide ((a.cut.length:Int)≤12) && (!lngR a.cuts && (!lngR a.run && decide ((a.spans.length:Int)≤30)))
theorem law38_light11 (c:List Int):PC Proofs.Tryz.prog 54 [aInts c] (ab (lng12 c)):=by
 refine PC.enter 6 [.tmp 2] [] Proofs.Tryz.func54 rfl rfl rfl rfl rfl (by simp) (AWp.of ?_);simp only[go_sem]
 refine Wk ?_
 refine ret_eq ?_;simp only[go_sem]
 rfl
theorem law38_light1 (l:List (List Int)):PC Proofs.Tryz.prog 53 [aRows l] (ab (lngR l)):=by
 have haR:aRows l = .sl 1 (l.map aInts):=rfl
 unfold lngR
 rw[haR]
 refine PC.enter 10 [.tmp 2] [] Proofs.Tryz.func53 rfl rfl rfl rfl rfl (by simp) (AWp.of ?_);simp only[go_sem]
 refine Wk ?_
 refine GCall.use (ab (l.any lng12)) (fun hg=>⟨At,(rows_containsFunc l (by simp at hg;omega) _ rfl lng12 fun c _=>(law38_light11 c).val).val.use ⟨rfl,rfl⟩⟩) ?_
 simp only[go_sem]
 refine Wk ?_
 refine ret_eq ?_;simp only[go_sem]
theorem law38_light (a:Ans):PC Proofs.Tryz.prog 20 [aAns a] (ab (lightB a)):=by
 obtain⟨m,h,kd,c,cs,r,sp,v⟩:=a
 have hA:aAns ⟨m,h,kd,c,cs,r,sp,v⟩ = .agg [ai m,ab h,ai kd,.sl 1 (c.map ai),.sl 1 (cs.map aInts),.sl 1 (r.map aInts),.sl 3 (sp.map aSp),ai v]:=rfl
 have hB:lightB ⟨m,h,kd,c,cs,r,sp,v⟩=(decide ((c.length:Int)≤12) && (!lngR cs && (!lngR r && decide ((sp.length:Int)≤30)))):=rfl
 have h1:=law38_light1 cs
 have h2:=law38_light1 r
 have haR:∀l,aRows l = .sl 1 (l.map aInts):=fun _=>rfl
 rw[haR] at h1 h2
 rw[hA,hB]
 generalize lngR cs=b1 at *
 generalize lngR r=b2 at *
 refine PC.enter 28 [.tmp 2] [1] Proofs.Tryz.func20 rfl rfl rfl rfl rfl (by simp) (AWp.of ?_);simp only[go_sem]
 refine Wk ?_
 refine Sd ?_
 refine Gc h1 ?_
 refine Sd ?_
 refine Gc h2 ?_
 refine Wk ?_
 refine ret_eq ?_;simp only[go_sem]
 congr 2
 rw[Bool.and_assoc,Bool.and_assoc]
end Go.AL
end
