/- Texts of this claim's proof: WCh, WV31, WV36, WV37, WCh2, WY18, WXm, WXs, WV18, WXr, WV20, WV21, WV23, WV24, WV25, WV27, WSg, WY1. No condition. -/
import Derived.Test.YtpcmoecaaphjmaaGreatDoorM10
import Derived.Test.YtpcmoecaaphjmaaGreatDoorM8
import Derived.Test.YtpcmoecaaphjmaaGreatDoorM9
import Derived.Test.YtpcmoecaaphjmaaGreatDoorM11
import Derived.Test.YtpcmoecaaphjmaaGreatDoorM13
import Derived.Test.YtpcmoecaaphjmaaGreatDoorM14
section
namespace Go.AL
open Go Go.RowKit
set_option maxRecDepth 4000
noncomputable def lackB (ps:List Pr) (c:List Int) (m:Int):Bool:=decide ((findIn (evIds ps) 3 m).2=0) || decide (c.getD (findIn (evIds ps) 3 m).1.toNat 0<(findIn (evIds ps) 3 m).2)
noncomputable def undB (ps:List Pr) (c:List Int) (q:Int) (e:Ev):Bool:=sentTo q e && lackB ps c e.msg
noncomputable def undM (ps:List Pr) (c:List Int) (p:Nat) (q:Int) (k:Nat):List AV:=((((ps[p]?).map (·.evs)).getD []).take k |>.filter (undB ps c q)).map fun e=>ai e.msg
theorem undM_succ {ps:List Pr} {c:List Int} {p:Nat} {q:Int} {k:Nat} (hp:p<ps.length) (hk:k<ps[p].evs.length):undM ps c p q (k+1)=undM ps c p q k ++ if undB ps c q ps[p].evs[k]=true then [ai ps[p].evs[k].msg] else []:=by
 unfold undM
 rw[List.getElem?_eq_getElem hp]
 show ((ps[p].evs.take (k+1)).filter (undB ps c q)).map _=((ps[p].evs.take k).filter (undB ps c q)).map _ ++ _
 rw[List.take_succ_eq_append_getElem hk,List.filter_append,List.map_append]
 congr 1
 by_cases h:undB ps c q ps[p].evs[k]=true
 ·rw[if_pos h,List.filter_cons_of_pos h];rfl
 ·rw[if_neg h,List.filter_cons_of_neg h];rfl
theorem undM_zero (ps:List Pr) (c:List Int) (p:Nat) (q:Int):undM ps c p q 0=[]:=by unfold undM;simp
theorem undM_len {ps:List Pr} (c:List Int) {p:Nat} (q:Int) (k:Nat) (hp:p<ps.length):(undM ps c p q k).length≤ps[p].evs.countP (sentTo q):=by
 unfold undM
 rw[List.getElem?_eq_getElem hp,List.length_map]
 show ((ps[p].evs.take k).filter (undB ps c q)).length≤_
 rw[List.countP_eq_length_filter]
 have h1:((ps[p].evs.take k).filter (undB ps c q)).length≤((ps[p].evs.take k).filter (sentTo q)).length:=by
  rw[← List.countP_eq_length_filter,← List.countP_eq_length_filter]
  refine List.countP_mono_left fun e _ h => ?_
  unfold undB at h
  rw[Bool.and_eq_true] at h
  exact h.1
 exact Nat.le_trans h1 (List.Sublist.length_le (List.Sublist.filter _ (List.take_sublist _ _)))
theorem lack_no {ps:List Pr} {c:List Int} {m:Int} (h:findIn (evIds ps) 3 m=(0,0)):lackB ps c m=true:=by unfold lackB;rw[h];rfl
theorem lack_yes {ps:List Pr} {c:List Int} {m a i:Int} (h:findIn (evIds ps) 3 m=(a,i)) (hi:1≤i):lackB ps c m=decide (c.getD a.toNat 0<i):=by
 unfold lackB
 rw[h]
 show (decide (i=0) || _)=_
 rw[decide_eq_false (by omega),Bool.false_or]
theorem trace_Receiver (ps:List Pr) (hs:Sm ps) (m:Int):PC Proofs.Tryz.prog 329 [aTr ps,ai m] (.tup [aEid (findV ps 3 m),ab (decide (0<(findV ps 3 m).2))]):=by
 refine PC.enter 11 [.cell 4 29,.tmp 5] [2] Proofs.Tryz.func329 rfl rfl rfl rfl rfl (by simp) (AWp.of ?_);simp only[go_sem]
 intro b4
 refine Sd ?_
 refine AWp.of ?_;simp only[go_sem]
 refine Sd ?_
 refine(trace_find ps hs 3 m).val.use ?_;simp only[go_sem]
 refine Wk ?_
 refine ret_eq ?_;simp only[go_sem]
theorem cut_UnderWay (ps:List Pr) (hs:Sm ps) (c:List Int) (hg:givenF ps [c] []=0) (p:Nat) (hp:p<ps.length) (q:Int) (hq:0≤q∧q<ps.length) :
  PC Proofs.Tryz.prog 314 [aTr ps,aInts c,ai p,ai q] (.tup [.sl 1 (undM ps c p q (c.getD p 0).toNat),ai 0]):=by
 obtain⟨hv,hcl,hir,hclo⟩:=givenF_zero hg
 have hps:=hs.procs
 have h1:=cut_given ps hs [c] (by simp) [p,q] (by simp)
 have h0:givenF ps [c] [(p:Int),q]=0:=by
  unfold givenF at hg ⊢
  have hpr:([(p:Int),q].all fun p=>decide (0≤p) && decide (p<ps.length))=true:=by
   simp;omega
  rw[hpr]
  simpa using hg
 rw[h0] at h1
 have hrec:=fun m=>trace_Receiver ps hs m
 have hfV:∀m,findV ps 3 m=findIn (evIds ps) 3 m:=fun m=>by unfold findV;rw[if_pos hv]
 obtain⟨b1,b2⟩:=inRangeF_get hir hcl hp
 have hcp:c.getD p 0=c[p]'(by omega):=by rw[List.getD_eq_getElem?_getD,List.getElem?_eq_getElem (by omega)];rfl
 have hgc:(c.map ai).getD p .any=ai (c.getD p 0):=by rw[getD_map (by omega),hcp]
 rw[← hcp] at b1 b2
 have hgp:=getD_map (f:=aPr) hp
 have hel:=hs.evs _ (List.getElem_mem hp)
 have hcm:(c.map ai).length=ps.length:=by rw[List.length_map,hcl]
 have hcg:∀a:Int,0≤a→a<ps.length→(c.map ai).getD a.toNat .any=ai (c.getD a.toNat 0):=fun a h1 h2=>by
  rw[getD_map (by omega),List.getD_eq_getElem?_getD,List.getElem?_eq_getElem (by omega)];rfl
 have hI:aInts c = .sl 1 (c.map ai):=rfl
 have hRw:aRows [c] = .sl 1 [.sl 1 (c.map ai)]:=rfl
 have hPq:aInts [(p:Int),q] = .sl 1 [ai p,ai q]:=rfl
 have hfi:=findIn_or ps 3
 rw[hRw,hPq] at h1
 rw[hI]
 have hlim:=undM_len (ps:=ps) c (p:=p) q
 have hcnt:=List.countP_le_length (p:=sentTo q) (l:=ps[p].evs)
 have hly:=fun m a i=>lack_yes (ps:=ps) (c:=c) (m:=m) (a:=a) (i:=i)
 have hln:=fun m=>lack_no (ps:=ps) (c:=c) (m:=m)
 have hsu:=fun k (hk:k<ps[p].evs.length)=>undM_succ (ps:=ps) (c:=c) (q:=q) hp hk
 have hz:=undM_zero ps c p q
 have hub:∀e,undB ps c q e=(sentTo q e && lackB ps c e.msg):=fun _=>rfl
 clear hI hRw hPq
 clear hcp
 generalize c.getD p 0=n at *
 generalize c.map ai=cc at *
 refine PC.enter 77 [.tmp 8,.tmp 9] [4,13,14,18,21,73] Proofs.Tryz.func314 rfl rfl rfl rfl rfl (by simp) (AWp.of ?_);simp only[go_sem]
 refine Wk ?_
 refine Sd ?_
 refine(h1).val.use ?_;simp only[go_sem]
 refine Wk ?_
 refine AWp.seq ?_
 have htk:(ps[p].evs.take n.toNat).length=n.toNat:=by rw[List.length_take];omega
 repeat(first|(with_reducible refine AWp.seq ?_)|(with_reducible refine AWp.block ?_))
 refine AWp.read mixed [0,1,2,3,4,5,6,7,8,9,10,11,12] (by kernel_rfl) ?_;simp only[go_sem,hgp,hgc,hcm,htk]
 refine Sd ?_
 refine W1 htk ?_
 refine AWp.range' n.toNat [11] [1,3,4,36,37] (fun k vs L=>∃v,vs=[v]∧AppSt 3 1 (undM ps c p q k) v L) (by omega) rfl rfl rfl ⟨anil,rfl,by rw[hz];exact .nil⟩ ?_ ?_
 ·rintro k vs L hk - ⟨v,rfl,hA⟩
  have hke:k<ps[p].evs.length:=by omega
  have hge:((ps[p].evs.take n.toNat).map aEv).getD k .any=aEv ps[p].evs[k]:=by
   rw[getD_map (by rw[htk];exact hk),List.getElem_take]
  have hsk:=hsu k hke
  have hbe:=hub ps[p].evs[k]
  have hlk:=hlim k hp
  rw[hsk]
  clear hsk
  generalize ps[p].evs[k]=e at *
  have hre:=hrec e.msg
  rw[hfV] at hre
  have hfm:=hfi e.msg
  have hlye:=hly e.msg
  have hlne:=hln e.msg
  generalize findIn (evIds ps) 3 e.msg=F at *
  have hev:aEv e = .agg [ai e.kind,ai e.peer,ai e.msg,ai e.time,aAsgs e.asg]:=rfl
  have hst:sentTo q e=(decide (e.kind=2) && decide (e.peer=q)):=rfl
  rw[hev] at hge
  generalize undM ps c p q k=ys at *
  by_cases hkp:e.kind=2∧e.peer=q
  ·obtain⟨h2,h3⟩:=hkp
   rw[hst,decide_eq_true h2,decide_eq_true h3,Bool.and_self,Bool.true_and] at hbe
   have hF:∃a i:Int,F=(a,i)∧0≤a∧a<ps.length∧0≤i∧lackB ps c e.msg=(!decide (0<i) || decide (c.getD a.toNat 0<i)):=by
    rcases hfm with hF|⟨a,ha,i,hi,hF⟩
    ·exact⟨0,0,hF,by omega,by omega,by omega,by rw[hlne hF];rfl⟩
    ·refine⟨a,(i:Int)+1,hF,by omega,by omega,by omega,?_⟩
     rw[hlye _ _ hF (by omega),decide_eq_true (show (0:Int)<(i:Int)+1 by omega)];rfl
   obtain⟨a,i,rfl,ha0,ha1,hi0,hlk2⟩:=hF
   have hga:=hcg a ha0 ha1
   rw[hbe,hlk2]
   have hae:aEid (a,i) = .agg [ai a,ai i]:=rfl
   have hF2:((a,i):Eid).2=i:=rfl
   rw[hae,hF2] at hre
   clear hbe hlk2 hlye hlne hfm hev hst
   generalize c.getD a.toNat 0=z at *
   obtain⟨al,hal⟩:∃al,aAsgs e.asg = .sl 2 al:=⟨_,rfl⟩
   rw[hal] at hge
   generalize e.msg=m at *
   generalize e.time=tm at *
   rw[h2,h3] at hge
   cases hB:(!decide (0<i) || decide (z<i)) with
   | false =>
    rw[if_neg (by decide),List.append_nil]
    have hfo:=hA.fo
    simp only[go_sem]
    refine W2 hge hfo ?_
    intros
    refine W2 hge hfo ?_
    refine Sd ?_
    refine(hre).val.use ?_;simp only[go_sem,hfo]
    refine W1 hfo ?_
    intros
    repeat(first|(with_reducible refine AWp.seq ?_)|(with_reducible refine AWp.block ?_))
    refine AWp.read mixed [0,1,2,3,4,5,6,7,8,9,10,11] (by kernel_rfl) ?_;simp only[go_sem,hga,hcm,hfo]
    refine Sd ?_
    refine W2 hB hfo ?_
    exact⟨_,List.Sublist.refl _,_,rfl,hA⟩
   | true =>
    rw[if_pos rfl]
    rcases hA.inv with ⟨e1,rfl,rfl⟩|⟨bq,cq,rfl,rfl⟩
    ·simp only[go_sem]
     refine W1 hge ?_
     intros
     refine W1 hge ?_
     refine Sd ?_
     refine(hre).val.use ?_;simp only[go_sem]
     refine Wk ?_
     intros
     repeat(first|(with_reducible refine AWp.seq ?_)|(with_reducible refine AWp.block ?_))
     refine AWp.read mixed [0,1,2,3,4,5,6,7,8,9,10,11] (by kernel_rfl) ?_;simp only[go_sem,hga,hcm]
     refine Sd ?_
     refine W1 hB ?_
     intro b' cap' g8
     intros
     refine Wk ?_
     exact⟨_,List.Sublist.refl _,_,rfl,by rw[e1];exact .row _ _ _⟩
    ·simp only[go_sem]
     refine W1 hge ?_
     intros
     refine W1 hge ?_
     refine Sd ?_
     refine(hre).val.use ?_;simp only[go_sem]
     refine Wk ?_
     intros
     repeat(first|(with_reducible refine AWp.seq ?_)|(with_reducible refine AWp.block ?_))
     refine AWp.read mixed [0,1,2,3,4,5,6,7,8,9,10,11] (by kernel_rfl) ?_;simp only[go_sem,hga,hcm]
     refine Sd ?_
     refine W1 hB ?_
     refine Sd ?_
     intro b' cap' g8
     intros
     refine Wk ?_
     exact⟨_,List.Sublist.refl _,_,rfl,AppSt.snoc _ _ _ rfl⟩
  ·have hun:undB ps c q e=false:=by
    rw[hbe,hst]
    by_cases h2:e.kind=2
    ·rw[decide_eq_false (show ¬e.peer=q from fun h=>hkp ⟨h2,h⟩),Bool.and_false,Bool.false_and]
    ·rw[decide_eq_false h2,Bool.false_and,Bool.false_and]
   have hcd:(!decide (e.kind=2) || !decide (e.peer=q))=true:=by
    by_cases h2:e.kind=2
    ·rw[decide_eq_false (show ¬e.peer=q from fun h=>hkp ⟨h2,h⟩),Bool.not_false,Bool.or_true]
    ·rw[decide_eq_false h2];rfl
   rw[hun,if_neg (by decide),List.append_nil]
   have hfo:=hA.fo
   have hkq:e.kind=2→¬e.peer=q:=fun h h'=>hkp ⟨h,h'⟩
   simp only[go_sem]
   refine W2 hge hfo ?_
   intros
   refine W3 hge hfo hcd ?_
   exact⟨_,List.Sublist.refl _,_,rfl,hA⟩
 ·rintro vs L - ⟨v,rfl,hA⟩
  generalize undM ps c p q n.toNat=ys at *
  rcases hA.inv with ⟨e3,rfl,rfl⟩|⟨bq,cap,rfl,rfl⟩
  ·simp only[go_sem]
   refine Wk ?_
   refine ret_view [] ?_;simp only[go_sem]
   rw[e3]
   exact .mkTup (Vws.cons (.nil 1) (Vws.refl _))
  ·simp only[go_sem]
   refine Wk ?_
   refine ret_view [true] ?_;simp only[go_sem]
   exact .mkTup (Vws.cons (Vw.ofLs (if_pos rfl) rfl) (Vws.refl _))
theorem ref22_UnderWay (ps:List Pr) (hs:Sm ps) (c:List Int) (hg:givenF ps [c] []=0) (p:Nat) (hp:p<ps.length) (q:Int) :
  PC Proofs.Tryz.prog 115 [aTr ps,aInts c,ai p,ai q] (.sl 1 (undM ps c p q (c.getD p 0).toNat)):=by
 obtain⟨hv,hcl,hir,hclo⟩:=givenF_zero hg
 have hps:=hs.procs
 have hrec:=fun m=>ref12_Find ps hs 3 m
 obtain⟨b1,b2⟩:=inRangeF_get hir hcl hp
 have hcp:c.getD p 0=c[p]'(by omega):=by rw[List.getD_eq_getElem?_getD,List.getElem?_eq_getElem (by omega)];rfl
 have hgc:(c.map ai).getD p .any=ai (c.getD p 0):=by rw[getD_map (by omega),hcp]
 rw[← hcp] at b1 b2
 have hgp:=getD_map (f:=aPr) hp
 have hel:=hs.evs _ (List.getElem_mem hp)
 have hcm:(c.map ai).length=ps.length:=by rw[List.length_map,hcl]
 have hcg:∀a:Int,0≤a→a<ps.length→(c.map ai).getD a.toNat .any=ai (c.getD a.toNat 0):=fun a h1 h2=>by
  rw[getD_map (by omega),List.getD_eq_getElem?_getD,List.getElem?_eq_getElem (by omega)];rfl
 have hI:aInts c = .sl 1 (c.map ai):=rfl
 have hfi:=findIn_or ps 3
 rw[hI]
 have hlim:=undM_len (ps:=ps) c (p:=p) q
 have hcnt:=List.countP_le_length (p:=sentTo q) (l:=ps[p].evs)
 have hly:=fun m a i=>lack_yes (ps:=ps) (c:=c) (m:=m) (a:=a) (i:=i)
 have hln:=fun m=>lack_no (ps:=ps) (c:=c) (m:=m)
 have hsu:=fun k (hk:k<ps[p].evs.length)=>undM_succ (ps:=ps) (c:=c) (q:=q) hp hk
 have hz:=undM_zero ps c p q
 have hub:∀e,undB ps c q e=(sentTo q e && lackB ps c e.msg):=fun _=>rfl
 clear hI
 clear hcp
 generalize c.getD p 0=n at *
 generalize c.map ai=cc at *
 refine PC.enter 62 [.tmp 8] [4,11,12,59] Proofs.Tryz.func115 rfl rfl rfl rfl rfl (by simp) (AWp.of ?_);simp only[go_sem]
 refine Wk ?_
 refine AWp.block (AWp.count 10 n.toNat [9] [1,2,3,4] (fun k vs L=>∃v,vs=[v]∧AppSt 3 1 (undM ps c p q k) v L) rfl rfl ⟨anil,rfl,by rw[hz];exact .nil⟩ ?_)
 rintro k vs L hk - ⟨v,rfl,hA⟩
 have hfo:=hA.fo
 simp only[go_sem,hfo]
 refine W3 hgc hcm hfo ?_
 refine⟨fun h => ?_,fun h => ?_⟩
 ·have hke:k<ps[p].evs.length:=by omega
  have hge:=getD_map (f:=aEv) hke
  have hsk:=hsu k hke
  have hbe:=hub ps[p].evs[k]
  have hlk:=hlim k hp
  generalize ps[p].evs[k]=e at *
  have hre:=hrec e.msg
  have hfm:=hfi e.msg
  have hlye:=hly e.msg
  have hlne:=hln e.msg
  generalize findIn (evIds ps) 3 e.msg=F at *
  have hev:aEv e = .agg [ai e.kind,ai e.peer,ai e.msg,ai e.time,aAsgs e.asg]:=rfl
  have hst:sentTo q e=(decide (e.kind=2) && decide (e.peer=q)):=rfl
  rw[hev] at hge
  generalize undM ps c p q k=ys at *
  obtain⟨al,hal⟩:∃al,aAsgs e.asg = .sl 2 al:=⟨_,rfl⟩
  rw[hal] at hge
  by_cases hkp:e.kind=2∧e.peer=q
  ·obtain⟨h2,h3⟩:=hkp
   rw[hst,decide_eq_true h2,decide_eq_true h3,Bool.and_self,Bool.true_and] at hbe
   have hF:∃a i:Int,F=(a,i)∧0≤a∧a<ps.length∧0≤i∧lackB ps c e.msg=(decide (i=0) || decide (c.getD a.toNat 0<i)):=by
    rcases hfm with hF|⟨a,ha,i,hi,hF⟩
    ·exact⟨0,0,hF,by omega,by omega,by omega,by rw[hlne hF];rfl⟩
    ·refine⟨a,(i:Int)+1,hF,by omega,by omega,by omega,?_⟩
     rw[hlye _ _ hF (by omega),decide_eq_false (show ¬(i:Int)+1=0 by omega)];rfl
   obtain⟨a,i,rfl,ha0,ha1,hi0,hlk2⟩:=hF
   have hga:=hcg a ha0 ha1
   rw[hbe,hlk2] at hsk
   have hae:aEid (a,i) = .agg [ai a,ai i]:=rfl
   rw[hae] at hre
   clear hbe hlk2 hlye hlne hfm hev hst
   generalize c.getD a.toNat 0=z at *
   generalize e.msg=m at *
   generalize e.time=tm at *
   rw[h2,h3] at hge
   cases hB:(decide (i=0) || decide (z<i)) with
   | false =>
    rw[hB,if_neg (by decide),List.append_nil] at hsk
    refine W3 hgp hge hfo ?_
    intros
    refine W3 hgp hge hfo ?_
    refine Sd ?_
    refine(hre).val.use ?_;simp only[go_sem,hfo]
    intros
    refine W1 hfo ?_
    repeat(first|(with_reducible refine AWp.seq ?_)|(with_reducible refine AWp.block ?_))
    refine AWp.read mixed [0,1,2,3,4,5,6,7,8,9,10,11,12] (by kernel_rfl) ?_;simp only[go_sem,hga,hcm,hfo]
    refine Sd ?_
    refine W2 hB hfo ?_
    exact⟨_,List.Sublist.refl _,_,rfl,by rw[hsk];exact hA⟩
   | true =>
    rw[hB,if_pos rfl] at hsk
    rcases hA.inv with ⟨e1,rfl,rfl⟩|⟨bq,cq,rfl,rfl⟩
    ·refine W2 hgp hge ?_
     intros
     refine W2 hgp hge ?_
     refine Sd ?_
     refine(hre).val.use ?_;simp only[go_sem]
     intros
     refine Wk ?_
     repeat(first|(with_reducible refine AWp.seq ?_)|(with_reducible refine AWp.block ?_))
     refine AWp.read mixed [0,1,2,3,4,5,6,7,8,9,10,11,12] (by kernel_rfl) ?_;simp only[go_sem,hga,hcm]
     refine Sd ?_
     refine W1 hB ?_
     intro b' cap' g8
     intros
     refine Wk ?_
     exact⟨_,List.Sublist.refl _,_,rfl,by rw[hsk,e1];exact .row _ _ _⟩
    ·refine W2 hgp hge ?_
     intros
     refine W2 hgp hge ?_
     refine Sd ?_
     refine(hre).val.use ?_;simp only[go_sem]
     intros
     refine Wk ?_
     repeat(first|(with_reducible refine AWp.seq ?_)|(with_reducible refine AWp.block ?_))
     refine AWp.read mixed [0,1,2,3,4,5,6,7,8,9,10,11,12] (by kernel_rfl) ?_;simp only[go_sem,hga,hcm]
     refine Sd ?_
     refine W1 hB ?_
     refine Sd ?_
     intro b' cap' g8
     intros
     refine Wk ?_
     exact⟨_,List.Sublist.refl _,_,rfl,by rw[hsk];exact AppSt.snoc _ _ _ rfl⟩
  ·have hun:undB ps c q e=false:=by
    rw[hbe,hst]
    by_cases h2:e.kind=2
    ·rw[decide_eq_false (show ¬e.peer=q from fun h=>hkp ⟨h2,h⟩),Bool.and_false,Bool.false_and]
    ·rw[decide_eq_false h2,Bool.false_and,Bool.false_and]
   have hcd:(!decide (e.kind=2) || !decide (e.peer=q))=true:=by
    by_cases h2:e.kind=2
    ·rw[decide_eq_false (show ¬e.peer=q from fun h=>hkp ⟨h2,h⟩),Bool.not_false,Bool.or_true]
    ·rw[decide_eq_false h2];rfl
   rw[hun,if_neg (by decide),List.append_nil] at hsk
   have hkq:e.kind=2→¬e.peer=q:=fun h h'=>hkp ⟨h,h'⟩
   refine W3 hgp hge hfo ?_
   intros
   refine W4 hgp hge hfo hcd ?_
   exact⟨_,List.Sublist.refl _,_,rfl,by rw[hsk];exact hA⟩
 ·have:k=n.toNat:=by omega
  subst this
  generalize undM ps c p q n.toNat=ys at *
  rcases hA.inv with ⟨e3,rfl,rfl⟩|⟨bq,cap,rfl,rfl⟩
  ·refine Wk ?_
   refine ret_view [] ?_;simp only[go_sem]
   rw[e3]
   exact .nil 1
  ·refine Wk ?_
   refine ret_view [true] ?_;simp only[go_sem]
   exact Vw.ofLs (if_pos rfl) rfl
noncomputable def undF (ps:List Pr) (c:List Int) (p q:Int):Int:=((undM ps c p.toNat q (c.getD p.toNat 0).toNat).length:Int)
theorem view_channel (ps:List Pr) (hs:Sm ps) (c:List Int) (hg:givenF ps [c] []=0) (V:List (List Int)) (k n:Int) (p:Nat) (q:Int) (s:ByteArray) (l:List Pd) (hp:p<ps.length) (hq:0≤q∧q<ps.length) :
  PC Proofs.Tryz.prog 282 [aView ps c V,aPd (.mk k n p q s l)] (ai (undF ps c p q)):=by
 have h1:=cut_UnderWay ps hs c hg p hp q hq
 have hu:undF ps c p q=((undM ps c p q (c.getD p 0).toNat).length:Int):=by unfold undF;rw[Int.toNat_natCast]
 rw[hu]
 have hT:aTr ps = .agg [aPrs ps]:=rfl
 have hI:aInts c = .sl 1 (c.map ai):=rfl
 rw[hT,hI] at h1
 generalize undM ps c p q (c.getD p 0).toNat=ms at *
 unfold aView
 simp only[aPd_mk]
 obtain⟨vv,hvv⟩:∃vv,aRows V = .sl 1 vv:=⟨_,rfl⟩
 rw[hI,hvv]
 obtain⟨tp,htp⟩:∃tp,aPrs ps = .sl 3 tp:=⟨_,rfl⟩
 rw[htp] at h1 ⊢
 refine PC.enter 21 [.tmp 4] [2,3] Proofs.Tryz.func282 rfl rfl rfl rfl rfl (by simp) (AWp.of ?_);simp only[go_sem]
 refine Wk ?_
 refine Sd ?_
 refine(h1).val.use ?_;simp only[go_sem]
 refine Wk ?_
 refine ret_eq ?_;simp only[go_sem]
theorem und_leaf2 (ps:List Pr) (hs:Sm ps) (c:List Int) (hg:givenF ps [c] []=0) (t:Pd) (hr:allB (resB ps) t=true) :
  AllP (leafOk ps c (valuesAt ps c) (cutO ps c (undF ps c))) t∧AllP (obsB ps (cutO ps c (undF ps c))) t:=by
 obtain⟨hv,hc,hir,_⟩:=givenF_zero hg
 have hvl:(valuesAt ps c).length=ps.length:=by unfold valuesAt;rw[List.length_map,List.length_zip];omega
 have hcg:∀i (hi:i<ps.length),c.getD i 0=c[i]'(by omega):=fun i hi=>by rw[List.getD_eq_getElem?_getD,List.getElem?_eq_getElem (by omega)];rfl
 have hvar:∀(i:Nat) (hi:i<ps.length) (s:ByteArray),(cutO ps c (undF ps c)).var i s=(stateAt ps[i] (c[i]'(by omega)).toNat).getD (varIx ps[i].vars s).toNat 0:=fun i hi s=>by
  unfold cutO;simp only[Int.toNat_natCast,List.getElem?_eq_getElem hi,hcg i hi]
 have hcnt:∀(i:Nat) (hi:i<ps.length),(cutO ps c (undF ps c)).cnt i=c[i]'(by omega):=fun i hi=>by
  unfold cutO;simp only[Int.toNat_natCast,hcg i hi]
 have hget:∀(i:Nat) (hi:i<ps.length),c[((i:Nat):Int).toNat]?=some (c[i]'(by omega)):=fun i hi=>by
  rw[Int.toNat_natCast,List.getElem?_eq_getElem (by omega)]
 refine⟨AllP_of_allB (fun x hx => ?_) t hr,AllP_of_allB (fun x hx => ?_) t hr⟩
 ·obtain⟨k,n,p,q,s,l⟩:=x
  obtain⟨r2,r3,r4⟩:=res_leaf hx
  refine⟨fun e => ?_,fun e => ?_,fun e => ?_⟩
  ·obtain⟨i,rfl,hp⟩:=isPB_nat (r2 e).1
   have hvg:=valuesAt_get (c:=c) hp (by omega)
   have h:=view_variable ps hs c (valuesAt ps c) k n i q s l hp (r2 e).2 (by omega) (by rw[hvg,stateAt_length])
   rw[hvg] at h
   rw[hvar i hp];exact h
  ·obtain⟨i,rfl,hp⟩:=isPB_nat (r3 e)
   exact⟨by omega,by rw[hcnt i hp];exact hget i hp⟩
  ·obtain⟨i,rfl,hp⟩:=isPB_nat (r4 e).1
   obtain⟨j,rfl,hq⟩:=isPB_nat (r4 e).2.1
   exact view_channel ps hs c hg (valuesAt ps c) k n i j s l hp ⟨by omega,by omega⟩
 ·obtain⟨k,n,p,q,s,l⟩:=x
  obtain⟨r2,r3,r4⟩:=res_leaf hx
  refine⟨fun e => ?_,fun e => ?_,fun e => ?_⟩
  ·obtain⟨i,rfl,hp⟩:=isPB_nat (r2 e).1
   obtain⟨b1,b2⟩:=inRangeF_get hir hc hp
   have hm:=valsF_mem ps[i] (varIx ps[i].vars s).toNat (k:=(c[i]'(by omega)).toNat) (by omega)
   rw[hvar i hp]
   unfold varLo varHi
   simp only[Int.toNat_natCast,List.getElem?_eq_getElem hp]
   exact⟨minL_le hm,le_maxL hm⟩
  ·obtain⟨i,rfl,hp⟩:=isPB_nat (r3 e)
   obtain⟨b1,b2⟩:=inRangeF_get hir hc hp
   rw[hcnt i hp,evN_get hp]
   exact⟨b1,b2⟩
  ·obtain⟨i,rfl,hp⟩:=isPB_nat (r4 e).1
   show 0≤undF ps c i q∧undF ps c i q≤msgN ps i q
   have h1:=undM_len c q (c.getD i 0).toNat hp
   rw[msgN_get hp]
   unfold undF
   rw[Int.toNat_natCast]
   omega
theorem und_leaf (ps:List Pr) (hs:Sm ps) (c:List Int) (hg:givenF ps [c] []=0) (t:Pd) (hr:allB (resB ps) t=true) :
  AllP (leafOk ps c (valuesAt ps c) (cutO ps c (undF ps c))) t∧AllP (obsB ps (cutO ps c (undF ps c))) t∧AllP (leafR ps c (cutO ps c (undF ps c))) t:=by
 obtain⟨hv,hc,hir,_⟩:=givenF_zero hg
 have hvl:(valuesAt ps c).length=ps.length:=by unfold valuesAt;rw[List.length_map,List.length_zip];omega
 have hcg:∀i (hi:i<ps.length),c.getD i 0=c[i]'(by omega):=fun i hi=>by rw[List.getD_eq_getElem?_getD,List.getElem?_eq_getElem (by omega)];rfl
 have hvar:∀(i:Nat) (hi:i<ps.length) (s:ByteArray),(cutO ps c (undF ps c)).var i s=(stateAt ps[i] (c[i]'(by omega)).toNat).getD (varIx ps[i].vars s).toNat 0:=fun i hi s=>by
  unfold cutO;simp only[Int.toNat_natCast,List.getElem?_eq_getElem hi,hcg i hi]
 have hcnt:∀(i:Nat) (hi:i<ps.length),(cutO ps c (undF ps c)).cnt i=c[i]'(by omega):=fun i hi=>by
  unfold cutO;simp only[Int.toNat_natCast,hcg i hi]
 have hget:∀(i:Nat) (hi:i<ps.length),c[((i:Nat):Int).toNat]?=some (c[i]'(by omega)):=fun i hi=>by
  rw[Int.toNat_natCast,List.getElem?_eq_getElem (by omega)]
 refine⟨(und_leaf2 ps hs c hg t hr).1,(und_leaf2 ps hs c hg t hr).2,AllP_of_allB (fun x hx => ?_) t hr⟩
 obtain⟨k,n,p,q,s,l⟩:=x
 obtain⟨r2,r3,r4⟩:=res_leaf hx
 refine⟨fun e => ?_,fun e => ?_,fun e => ?_⟩
 ·obtain⟨i,rfl,hp⟩:=isPB_nat (r2 e).1
  obtain⟨b1,b2⟩:=inRangeF_get hir hc hp
  have h1:=ref25_Index ps hs i (r2 e).1 s
  rw[varX_get hp] at h1
  obtain⟨j,hj,hjl⟩:=known_ix (known_get hp (r2 e).2)
  have h2:=ref25_Value ps hs i hp j hjl (c[i]'(by omega)).toNat (by omega) (asg_of_valid hv i hp) (dis_of_valid hv i hp)
  rw[hj] at h1
  rw[Int.toNat_of_nonneg b1] at h2
  refine⟨_,_,h1,?_,by omega,hget i hp⟩
  rw[hvar i hp,hj,Int.toNat_natCast,List.getD_eq_getElem?_getD,List.getElem?_eq_getElem (by rw[stateAt_length];exact hjl)]
  exact h2
 ·obtain⟨i,rfl,hp⟩:=isPB_nat (r3 e)
  exact⟨by omega,by rw[hcnt i hp];exact hget i hp⟩
 ·obtain⟨i,rfl,hp⟩:=isPB_nat (r4 e).1
  refine⟨_,?_,ref22_UnderWay ps hs c hg i hp q⟩
  show _=undF ps c i q
  unfold undF
  rw[Int.toNat_natCast]
def totA (rows:Nat→List Stp) (n:Nat) (a:Nat→Nat):Nat:=totS n fun p=>(rows p).length - a p
structure ElA (ps:List Pr) (rows:Nat→List Stp) (a:Nat→Nat):Prop where
 lt:∀p,p<ps.length→a p<(rows p).length
 low:∀t,TgtS ps rows t→∀p,p<ps.length→a p≤t p
theorem ElA.step {ps:List Pr} {b:Nat→Nat→Bool} {rows:Nat→List Stp} (hR:RowsOk ps b rows) {a:Nat→Nat} (h:ElA ps rows a) {p q:Nat} (hp:p<ps.length) (hq:q<ps.length) (hpq:p ≠ q) (hb:bgN ps (fSp rows p (a p)) (fSp rows q (a q))=false) :
  (a q+1=(rows q).length→¬ ∃t,TgtS ps rows t)∧(a q+1 ≠ (rows q).length→ElA ps rows (updN a q (a q+1))∧totA rows ps.length (updN a q (a q+1))<totA rows ps.length a):=by
 have hs:=tgt_step (mon_rows hR) h.low hp hq hpq hb
 have hlq:=h.lt q hq
 have e:∀r,updN a q (a q+1) r=if r=q then a q+1 else a r:=fun r=>rfl
 refine⟨fun h1=>tgt_none hs hq (by show (rows q).length≤if q=q then a q+1 else a q;rw[if_pos rfl];omega),fun h1=>⟨⟨fun r hr => ?_,fun t ht r hr=>by rw[e];exact hs t ht r hr⟩,?_⟩⟩
 ·by_cases e2:r=q
  ·subst e2;rw[updN_self];omega
  ·rw[updN_ne e2];exact h.lt r hr
 ·unfold totA
  refine totS_lt2 ps.length (p:=q) (fun r _ => ?_) hq ?_
  ·by_cases e2:r=q
   ·subst e2;rw[updN_self];omega
   ·rw[updN_ne e2];exact Nat.le_refl _
  ·rw[updN_self];omega
section
variable {b:Nat→Bool} {p K:Nat} {l:List Stp}
theorem SpOk.after (h:SpOk b p K l) {i:Nat} (hi:i<l.length) (h0:l[i].2.2+1<K):b (l[i].2.2+1)=false:=by
 cases hb:b (l[i].2.2+1) with
 | false=>rfl
 | true =>
  obtain⟨_,g2,g3,_⟩:=h.el l[i] (List.getElem_mem hi)
  obtain⟨s,hs,k1,k2⟩:=h.cov _ h0 hb
  obtain⟨m,hm,rfl⟩:=List.getElem_of_mem hs
  rcases Nat.lt_trichotomy m i with e|e|e
  ·have:=h.lt hi e;omega
  ·subst e;omega
  ·have:=h.lt hm e;omega
end
section
variable {ps:List Pr} {ts:List Pd} (hC:conF ps ts=0)
include hC
end
structure TgB (ps:List Pr) (s:Nat→Stp):Prop where
 el:∀p,p<ps.length→(s p).2.1≤(s p).2.2∧(s p).2.2≤nev ps p∧(s p).1=p
 bg:∀p q,p<ps.length→q<ps.length→p ≠ q→bgN ps (s p) (s q)=true
section
variable {ps:List Pr} (hv:validF ps=true) {s:Nat→Stp} (hT:TgB ps s)
include hv hT
end
abbrev Syn:=Eid × Eid
def dirE (ps:List Pr) (p i:Nat):List Eid:=(if 0<i then [((p:Int),(i:Int))] else []) ++ (if (evq ps p i).kind=3 then [sndr ps (evq ps p i).msg] else [])
def dirX (ps:List Pr) (l:List Syn) (p i:Nat):List Eid:=dirE ps p i ++ (l.filter fun s=>decide (s.2=((p:Int),(i:Int)+1))).map (·.1)
def nedX (S:Nat→List (List Int)) (y:Eid):List Int:=stOf S y.1.toNat y.2.toNat
def RdyX (ps:List Pr) (l:List Syn) (S:Nat→List (List Int)) (p:Nat):Prop :=
 p<ps.length∧(S p).length≤nev ps p∧∀y ∈ dirX ps l p ((S p).length - 1),y.2.toNat<(S y.1.toNat).length
def vecX (ps:List Pr) (l:List Syn) (S:Nat→List (List Int)) (p k:Nat):List Int:=((dirX ps l p (k - 1)).foldl (fun v y=>joinL v (nedX S y)) (List.replicate ps.length 0)).set p (k:Int)
inductive GenX (ps:List Pr) (l:List Syn):(Nat→List (List Int))→Prop
 | init:GenX ps l fun _=>[List.replicate ps.length 0]
 | step {S:Nat→List (List Int)} {p:Nat} : GenX ps l S→RdyX ps l S p→GenX ps l (upS S p (vecX ps l S p (S p).length))
section
variable {ps:List Pr} {l:List Syn} {S S':Nat→List (List Int)}
theorem GenX.pos (h:GenX ps l S):∀p,1≤(S p).length:=by
 induction h with
 | init=>intro p;simp
 | @step S r h hr ih=>intro p;exact Nat.le_trans (ih p) (upS_le S r _ p)
theorem GenX.zero (h:GenX ps l S):∀p,stOf S p 0=List.replicate ps.length 0:=by
 induction h with
 | init=>intro p;rfl
 | @step S r h hr ih=>intro p;rw[upS_old (h.pos p)];exact ih p
theorem GenX.top (h:GenX ps l S):∀p,(S p).length≤nev ps p+1:=by
 induction h with
 | init=>intro p;simp
 | @step S r h hr ih =>
  intro p
  rw[upS_len]
  split
  ·rename_i e;subst e;have:=hr.2.1;omega
  ·exact ih p
theorem vecX_congr {p k:Nat} (h:∀y ∈ dirX ps l p (k - 1),nedX S' y=nedX S y):vecX ps l S' p k=vecX ps l S p k:=by
 unfold vecX
 generalize dirX ps l p (k - 1)=D at *
 generalize List.replicate ps.length (0:Int)=v
 congr 1
 induction D generalizing v with
 | nil=>rfl
 | cons y D ih =>
  rw[List.foldl_cons,List.foldl_cons,h y (by simp)]
  exact ih (fun z hz=>h z (List.mem_cons_of_mem _ hz)) _
theorem GenX.entry (h:GenX ps l S):∀p k,1≤k→k<(S p).length→p<ps.length∧k≤nev ps p∧(∀y ∈ dirX ps l p (k - 1),y.2.toNat<(S y.1.toNat).length)∧stOf S p k=vecX ps l S p k:=by
 induction h with
 | init=>intro p k h1 h2;simp at h2;omega
 | @step S r h hr ih =>
  intro p k h1 h2
  have hlt:∀y:Eid,y.2.toNat<(S y.1.toNat).length→y.2.toNat<(upS S r (vecX ps l S r (S r).length) y.1.toNat).length:=fun y hy=>Nat.lt_of_lt_of_le hy (upS_le S r _ _)
  have hold:∀y:Eid,y.2.toNat<(S y.1.toNat).length→nedX (upS S r (vecX ps l S r (S r).length)) y=nedX S y:=fun y hy=>upS_old hy
  by_cases hk:k<(S p).length
  ·obtain⟨a1,a2,a3,a4⟩:=ih p k h1 hk
   refine⟨a1,a2,fun y hy=>hlt y (a3 y hy),?_⟩
   rw[upS_old hk,a4]
   exact(vecX_congr fun y hy=>hold y (a3 y hy)).symm
  ·rw[upS_len] at h2
   by_cases e:p=r
   ·subst e
    rw[if_pos rfl] at h2
    have hke:k=(S p).length:=by omega
    subst hke
    refine⟨hr.1,hr.2.1,fun y hy=>hlt y (hr.2.2 y hy),?_⟩
    rw[upS_new]
    exact(vecX_congr fun y hy=>hold y (hr.2.2 y hy)).symm
   ·rw[if_neg e] at h2;omega
theorem GenX.agree (h:GenX ps l S) (h':GenX ps l S'):∀p k,k<(S p).length→k<(S' p).length→stOf S p k=stOf S' p k:=by
 induction h with
 | init =>
  intro p k h1 h2
  have:k=0:=by simp at h1;omega
  subst this
  rw[h'.zero];rfl
 | @step S r h hr ih =>
  intro p k h1 h2
  by_cases hk:k<(S p).length
  ·rw[upS_old hk];exact ih p k hk h2
  ·rw[upS_len] at h1
   by_cases e:p=r
   ·subst e
    rw[if_pos rfl] at h1
    have hke:k=(S p).length:=by omega
    subst hke
    obtain⟨_,_,a3,a4⟩:=h'.entry p _ (h.pos p) h2
    rw[upS_new,a4]
    exact(vecX_congr fun y hy=>(ih _ _ (hr.2.2 y hy) (a3 y hy)).symm).symm
   ·rw[if_neg e] at h1;omega
theorem GenX.under (h:GenX ps l S) (h':GenX ps l S') (hst:∀p,¬RdyX ps l S' p):∀p,(S p).length≤(S' p).length:=by
 induction h with
 | init=>intro p;have:=h'.pos p;simpa using this
 | @step S r h hr ih =>
  intro p
  rw[upS_len]
  split
  ·rename_i e
   subst e
   refine Nat.lt_of_le_of_ne (ih p) fun e=>hst p ⟨hr.1,by have:=hr.2.1;omega,fun y hy => ?_⟩
   rw[← e] at hy
   exact Nat.lt_of_lt_of_le (hr.2.2 y hy) (ih _)
  ·exact ih p
theorem GenX.uniq (h:GenX ps l S) (hs:∀p,¬RdyX ps l S p) (h':GenX ps l S') (hs':∀p,¬RdyX ps l S' p):S=S':=by
 funext p
 have e:(S p).length=(S' p).length:=Nat.le_antisymm (h.under h' hs' p) (h'.under h hs p)
 refine List.ext_getElem e fun k h1 h2 => ?_
 have:=h.agree h' p k h1 h2
 unfold stOf at this
 rwa [List.getD_eq_getElem?_getD,List.getElem?_eq_getElem h1,List.getD_eq_getElem?_getD,List.getElem?_eq_getElem h2] at this
end
open Classical in
noncomputable def exF (ps:List Pr) (l:List Syn):Nat→List (List Int):=if h:∃S,GenX ps l S∧∀p,¬RdyX ps l S p then Classical.choose h else fun _=>[]
def CloX (ps:List Pr) (l:List Syn) (d:Nat→Int):Prop:=∀a,a<ps.length→∀i,i<nev ps a→(i:Int)+1≤d a→∀y ∈ dirX ps l a i,y.2≤d y.1.toNat
def SynOk (ps:List Pr) (l:List Syn):Prop:=∀s ∈ l,(0≤s.1.1∧s.1.1<ps.length∧1≤s.1.2∧s.1.2≤nev ps s.1.1.toNat)∧(0≤s.2.1∧s.2.1<ps.length∧1≤s.2.2∧s.2.2≤nev ps s.2.1.toNat)
theorem dirX_ev {ps:List Pr} (hv:validF ps=true) {l:List Syn} (hl:SynOk ps l) {p i:Nat} (hp:p<ps.length) (hi:i<nev ps p):∀y ∈ dirX ps l p i,0≤y.1∧y.1<ps.length∧1≤y.2∧y.2≤nev ps y.1.toNat:=fun y hy=>by
 unfold dirX dirE at hy
 rw[List.mem_append,List.mem_append] at hy
 rcases hy with (hy|hy)|hy
 ·split at hy
  ·rw[List.mem_singleton] at hy
   subst hy
   simp only[Int.toNat_natCast]
   omega
  ·cases hy
 ·split at hy
  ·rename_i hk
   rw[List.mem_singleton] at hy
   subst hy
   have hn:=nev_get hp
   rw[evq_get hp (by omega)] at hk ⊢
   obtain⟨q,hq,j,hj,e,_⟩:=sndr_some (recv_sndr (valid_parts hv).2.2 hp (by omega) hk)
   rw[e]
   have:=nev_get hq
   simp only[Int.toNat_natCast]
   omega
  ·cases hy
 ·obtain⟨s,hs,rfl⟩:=List.mem_map.1 hy
  exact(hl s (List.mem_filter.1 hs).1).1
structure StX (ps:List Pr) (l:List Syn) (S:Nat→List (List Int)) (p k:Nat):Prop where
 len:(stOf S p k).length=ps.length
 own:p<ps.length→(stOf S p k).getD p 0=(k:Int)
 le:∀j,(stOf S p k).getD j 0<(S j).length
 nn:∀j,0≤(stOf S p k).getD j 0
 clo:CloX ps l fun j=>(stOf S p k).getD j 0
 least:∀d:Nat→Int,CloX ps l d→(∀j,0≤d j)→(k:Int)≤d p→∀j,(stOf S p k).getD j 0≤d j
structure JnX (ps:List Pr) (l:List Syn) (S:Nat→List (List Int)) (D:List Eid) (v:List Int):Prop where
 len:v.length=ps.length
 le:∀j,v.getD j 0<(S j).length
 nn:∀j,0≤v.getD j 0
 clo:CloX ps l fun j=>v.getD j 0
 has:∀y ∈ D,y.2≤v.getD y.1.toNat 0
 least:∀d:Nat→Int,CloX ps l d→(∀j,0≤d j)→(∀y ∈ D,y.2≤d y.1.toNat)→∀j,v.getD j 0≤d j
theorem joinL_getD {v w:List Int} (h:v.length=w.length) (j:Nat):(joinL v w).getD j 0=if v.getD j 0<w.getD j 0 then w.getD j 0 else v.getD j 0:=by
 by_cases hj:j<v.length
 ·have:=join_cAt h hj
  unfold cAt at this
  rw[Int.toNat_natCast] at this
  exact this
 ·have h1:=join_len h
  rw[List.getD_eq_getElem?_getD,List.getElem?_eq_none (by omega),List.getD_eq_getElem?_getD,List.getElem?_eq_none (by omega),List.getD_eq_getElem?_getD,List.getElem?_eq_none (by omega)]
  simp
theorem JnX.add {ps:List Pr} {l:List Syn} {S:Nat→List (List Int)} {D:List Eid} {v:List Int} (h:JnX ps l S D v) {y:Eid} (hy:StX ps l S y.1.toNat y.2.toNat) (hp:y.1.toNat<ps.length) (h0:0≤y.2):JnX ps l S (D ++ [y]) (joinL v (nedX S y)):=by
 have hl:v.length=(nedX S y).length:=by rw[h.len];exact hy.len.symm
 have hg:=joinL_getD hl
 have hown:=hy.own hp
 refine⟨by rw[join_len hl,h.len],fun j => ?_,fun j => ?_,fun a ha i hi hd z hz => ?_,fun z hz => ?_,fun d h1 h2 h3 j => ?_⟩
 ·rw[hg];have:=h.le j;have:=hy.le j;unfold nedX;split <;> omega
 ·rw[hg];have:=h.nn j;have:=hy.nn j;unfold nedX;split <;> omega
 ·simp only[hg] at hd ⊢
  have c1:=h.clo a ha i hi
  have c2:=hy.clo a ha i hi
  unfold nedX at hd ⊢
  simp only at c1 c2
  split at hd
  ·have:=c2 hd z hz;split <;> omega
  ·have:=c1 hd z hz;split <;> omega
 ·rw[hg]
  rcases List.mem_append.1 hz with hz|hz
  ·have:=h.has z hz;split <;> omega
  ·rw[List.mem_singleton] at hz
   subst hz
   unfold nedX
   rw[hown]
   split <;> omega
 ·rw[hg]
  have c1:=h.least d h1 h2 (fun z hz=>h3 z (List.mem_append_left _ hz)) j
  have c2:=hy.least d h1 h2 (by have:=h3 y (by simp);omega) j
  unfold nedX
  split <;> omega
theorem GenX.join {ps:List Pr} {l:List Syn} {S:Nat→List (List Int)} (h0:∀p,1≤(S p).length):∀(D E:List Eid) (v:List Int),JnX ps l S E v→(∀y ∈ D,StX ps l S y.1.toNat y.2.toNat∧y.1.toNat<ps.length∧0≤y.2)→JnX ps l S (E ++ D) (D.foldl (fun v y=>joinL v (nedX S y)) v)
 | [],E,v,hv,_=>by rw[List.append_nil];exact hv
 | y :: D,E,v,hv,hD=>by
  obtain⟨a1,a2,a3⟩:=hD y (by simp)
  have:=GenX.join h0 D (E ++ [y]) _ (hv.add a1 a2 a3) fun z hz=>hD z (List.mem_cons_of_mem _ hz)
  rwa [List.append_assoc] at this
theorem getD_zeros (n j:Nat):(List.replicate n (0:Int)).getD j 0=0:=by
 rw[List.getD_eq_getElem?_getD,List.getElem?_replicate];split <;> rfl
theorem JnX.nil {ps:List Pr} {l:List Syn} {S:Nat→List (List Int)} (h0:∀p,1≤(S p).length):JnX ps l S [] (List.replicate ps.length 0):=by
 refine⟨by simp,fun j => ?_,fun j => ?_,fun a ha i hi hd => ?_,fun y hy=>(nomatch hy),fun d _ h2 _ j => ?_⟩
 ·rw[getD_zeros];have:=h0 j;omega
 ·rw[getD_zeros];omega
 ·simp only[getD_zeros] at hd;omega
 ·rw[getD_zeros];exact h2 j
theorem GenX.st {ps:List Pr} (hv:validF ps=true) {l:List Syn} (hl:SynOk ps l) {S:Nat→List (List Int)} (h:GenX ps l S):∀p k,k<(S p).length→StX ps l S p k:=by
 induction h with
 | init =>
  intro p k hk
  have:k=0:=by simp at hk;omega
  subst this
  show StX ps l _ p 0
  have e:stOf (fun _=>[List.replicate ps.length (0:Int)]) p 0=List.replicate ps.length 0:=rfl
  constructor
  ·rw[e];simp
  ·intro _;rw[e,getD_zeros];rfl
  ·intro j;rw[e,getD_zeros];simp
  ·intro j;rw[e,getD_zeros];omega
  ·intro a ha i hi hd;simp only[e,getD_zeros] at hd;omega
  ·intro d _ h2 _ j;rw[e,getD_zeros];exact h2 j
 | @step S r h hr ih =>
  have hle:=fun q=>upS_le S r (vecX ps l S r (S r).length) q
  intro p k hk
  by_cases hold:k<(S p).length
  ·obtain⟨a1,a2,a3,a4,a5,a6⟩:=ih p k hold
   have e:stOf (upS S r (vecX ps l S r (S r).length)) p k=stOf S p k:=upS_old hold
   constructor
   ·rw[e];exact a1
   ·rw[e];exact a2
   ·rw[e];exact fun j=>Int.lt_of_lt_of_le (a3 j) (by have:=hle j;omega)
   ·rw[e];exact a4
   ·rw[e];exact a5
   ·rw[e];exact a6
  ·have hl2:=upS_len S r (vecX ps l S r (S r).length)
   rw[hl2] at hk
   by_cases e:p=r
   ·subst e
    rw[if_pos rfl] at hk
    have hke:k=(S p).length:=by omega
    subst hke
    obtain⟨hp,htop,hdep⟩:=hr
    have hpos:=h.pos p
    have hev:=dirX_ev hv hl (p:=p) (i:=(S p).length - 1) hp (by omega)
    have hJ:=GenX.join h.pos (dirX ps l p ((S p).length - 1)) [] _ (JnX.nil (l:=l) h.pos) fun y hy=>by
     obtain⟨b1,b2,b3,b4⟩:=hev y hy
     exact⟨ih _ _ (hdep y hy),by omega,by omega⟩
    rw[List.nil_append] at hJ
    have hnew:stOf (upS S p (vecX ps l S p (S p).length)) p (S p).length=vecX ps l S p (S p).length:=upS_new
    have hvec:vecX ps l S p (S p).length=((dirX ps l p ((S p).length - 1)).foldl (fun v y=>joinL v (nedX S y)) (List.replicate ps.length 0)).set p ((S p).length:Int):=rfl
    generalize (dirX ps l p ((S p).length - 1)).foldl (fun v y=>joinL v (nedX S y)) (List.replicate ps.length 0)=v at *
    have hset:∀j,(v.set p ((S p).length:Int)).getD j 0=if p=j then ((S p).length:Int) else v.getD j 0:=fun j=>by
     rw[List.getD_eq_getElem?_getD,List.getElem?_set,List.getD_eq_getElem?_getD]
     split
     ·rw[if_pos (by rw[hJ.len];exact hp)];rfl
     ·rfl
    have hvp:v.getD p 0<((S p).length:Int):=hJ.le p
    constructor
    ·rw[hnew,hvec,List.length_set];exact hJ.len
    ·intro _;rw[hnew,hvec,hset,if_pos rfl]
    ·intro j
     rw[hnew,hvec,hset,← hvec,hl2]
     split
     ·rename_i e;rw[if_pos e.symm];omega
     ·rename_i e;rw[if_neg fun h=>e h.symm];exact hJ.le j
    ·intro j;rw[hnew,hvec,hset];have:=hJ.nn j;split <;> omega
    ·intro a ha i hi hd z hz
     rw[hnew,hvec] at hd ⊢
     simp only[hset] at hd ⊢
     have hz2:z.2≤v.getD z.1.toNat 0:=by
      by_cases hpa:p=a
      ·subst hpa
       rw[if_pos rfl] at hd
       by_cases hlast:i=(S p).length - 1
       ·subst hlast
        exact hJ.has z hz
       ·-- an older event of the process: the process's last one needs it
        have hprev:((p:Int),(((S p).length - 1:Nat):Int)) ∈ dirX ps l p ((S p).length - 1):=by
         unfold dirX dirE
         rw[if_pos (by omega)]
         simp
        have h1:=hJ.has _ hprev
        simp only[Int.toNat_natCast] at h1
        exact hJ.clo p ha i hi (by show (i:Int)+1≤v.getD p 0;omega) z hz
      ·rw[if_neg hpa] at hd
       exact hJ.clo a ha i hi hd z hz
     split
     ·rename_i e;rw[← e] at hz2;omega
     ·exact hz2
    ·intro d h1 h2 h3 j
     rw[hnew,hvec,hset]
     split
     ·rename_i e;subst e;exact h3
     ·refine hJ.least d h1 h2 (fun y hy => ?_) j
      refine h1 p hp ((S p).length - 1) (by omega) (by omega) y hy
   ·rw[if_neg e] at hk;omega
end Go.AL
end
