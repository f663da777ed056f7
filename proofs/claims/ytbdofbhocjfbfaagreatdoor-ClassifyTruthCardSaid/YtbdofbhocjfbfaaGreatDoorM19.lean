/- Texts of this claim's proof: WCh, WV31, WV36, WV37, WCh2, WY18, WXm, WXs, WV18, WXr, WV20, WV21, WV23, WV24, WV25, WV27, WSg, WY1, WY2, WY3, WY6, WY8, WY5, WY11, WY12, WY13, WY14, WY15, WY7, WY9, WY16, WY39, WY31, WY20, WY35, WY36, WY32, WY33, WY10, WY17, WY19, WY34, WY4, WY22, WY21, WU15, WY23, WY24, WY25, WY26, WY27, WY28, WY37, WY38, WY40, WY29, WZ11. No condition. -/
import Derived.Test.YtbdofbhocjfbfaaGreatDoorM11
import Derived.Test.YtbdofbhocjfbfaaGreatDoorM8
import Derived.Test.YtbdofbhocjfbfaaGreatDoorM10
import Derived.Test.YtbdofbhocjfbfaaGreatDoorM12
import Derived.Test.YtbdofbhocjfbfaaGreatDoorM13
import Derived.Test.YtbdofbhocjfbfaaGreatDoorM14
import Derived.Test.YtbdofbhocjfbfaaGreatDoorM15
import Derived.Test.YtbdofbhocjfbfaaGreatDoorM9
import Derived.Test.YtbdofbhocjfbfaaGreatDoorM7
import Derived.Test.YtbdofbhocjfbfaaGreatDoorM4
section
namespace Go.AL
open Go Go.RowKit
set_option maxRecDepth 4000
noncomputable def lackB (ps:List Pr) (c:List Int) (m:Int):Bool:=decide ((findIn (evIds ps) 3 m).2=0) || decide (c.getD (findIn (evIds ps) 3 m).1.toNat 0<(findIn (evIds ps) 3 m).2)
noncomputable def undB (ps:List Pr) (c:List Int) (q:Int) (e:Ev):Bool:=sentTo q e && lackB ps c e.msg
noncomputable def undM (ps:List Pr) (c:List Int) (p:Nat) (q:Int) (k:Nat):List AV:=((((ps[p]?).map (·.evs)).getD []).take k |>.filter (undB ps c q)).map fun e=>ai e.msg
theorem undM_succ {ps:List Pr} {c:List Int} {p:Nat} {q:Int} {k:Nat} (hp:p<ps.length) (hk:k<ps[p].evs.length):undM ps c p q (k+1)=undM ps c p q k ++ if undB ps c q ps[p].evs[k]=true then [ai ps[p].evs[k].msg] else []:=by
 unfold undM
 rw[List.getElem?_eq_getElem hp]
 show ((ps[p].evs.take (k+1)).filter (undB ps c q)).map _=((ps[p].evs.take k).filter (undB ps c q)).map _ ++ _
 rw[List.take_succ_eq_append_getElem hk,List.filter_append,List.map_append]
 congr 1
 by_cases h:undB ps c q ps[p].evs[k]=true
 ·rw[if_pos h,List.filter_cons_of_pos h];rfl
 ·rw[if_neg h,List.filter_cons_of_neg h];rfl
theorem undM_zero (ps:List Pr) (c:List Int) (p:Nat) (q:Int):undM ps c p q 0=[]:=by unfold undM;simp
theorem undM_len {ps:List Pr} (c:List Int) {p:Nat} (q:Int) (k:Nat) (hp:p<ps.length):(undM ps c p q k).length≤ps[p].evs.countP (sentTo q):=by
 unfold undM
 rw[List.getElem?_eq_getElem hp,List.length_map]
 show ((ps[p].evs.take k).filter (undB ps c q)).length≤_
 rw[List.countP_eq_length_filter]
 have h1:((ps[p].evs.take k).filter (undB ps c q)).length≤((ps[p].evs.take k).filter (sentTo q)).length:=by
  rw[← List.countP_eq_length_filter,← List.countP_eq_length_filter]
  refine List.countP_mono_left fun e _ h => ?_
  unfold undB at h
  rw[Bool.and_eq_true] at h
  exact h.1
 exact Nat.le_trans h1 (List.Sublist.length_le (List.Sublist.filter _ (List.take_sublist _ _)))
theorem lack_no {ps:List Pr} {c:List Int} {m:Int} (h:findIn (evIds ps) 3 m=(0,0)):lackB ps c m=true:=by unfold lackB;rw[h];rfl
theorem lack_yes {ps:List Pr} {c:List Int} {m a i:Int} (h:findIn (evIds ps) 3 m=(a,i)) (hi:1≤i):lackB ps c m=decide (c.getD a.toNat 0<i):=by
 unfold lackB
 rw[h]
 show (decide (i=0) || _)=_
 rw[decide_eq_false (by omega),Bool.false_or]
theorem trace_Receiver (ps:List Pr) (hs:Sm ps) (m:Int):PC Proofs.Tryz.prog 191 [aTr ps,ai m] (.tup [aEid (findV ps 3 m),ab (decide (0<(findV ps 3 m).2))]):=by
 refine PC.enter 11 [.cell 4 102,.tmp 5] [2] Proofs.Tryz.func191 rfl rfl rfl rfl rfl (by simp) (AWp.of ?_);simp only[go_sem]
 intro b4
 refine Sd ?_
 refine AWp.of ?_;simp only[go_sem]
 refine Sd ?_
 refine(trace_find ps hs 3 m).val.use ?_;simp only[go_sem]
 refine Wk ?_
 refine ret_eq ?_;simp only[go_sem]
theorem cut_UnderWay (ps:List Pr) (hs:Sm ps) (c:List Int) (hg:givenF ps [c] []=0) (p:Nat) (hp:p<ps.length) (q:Int) (hq:0≤q∧q<ps.length) :
  PC Proofs.Tryz.prog 154 [aTr ps,aInts c,ai p,ai q] (.tup [.sl 1 (undM ps c p q (c.getD p 0).toNat),ai 0]):=by
 obtain⟨hv,hcl,hir,hclo⟩:=givenF_zero hg
 have hps:=hs.procs
 have h1:=cut_given ps hs [c] (by simp) [p,q] (by simp)
 have h0:givenF ps [c] [(p:Int),q]=0:=by
  unfold givenF at hg ⊢
  have hpr:([(p:Int),q].all fun p=>decide (0≤p) && decide (p<ps.length))=true:=by
   simp;omega
  rw[hpr]
  simpa using hg
 rw[h0] at h1
 have hrec:=fun m=>trace_Receiver ps hs m
 have hfV:∀m,findV ps 3 m=findIn (evIds ps) 3 m:=fun m=>by unfold findV;rw[if_pos hv]
 obtain⟨b1,b2⟩:=inRangeF_get hir hcl hp
 have hcp:c.getD p 0=c[p]'(by omega):=by rw[List.getD_eq_getElem?_getD,List.getElem?_eq_getElem (by omega)];rfl
 have hgc:(c.map ai).getD p .any=ai (c.getD p 0):=by rw[getD_map (by omega),hcp]
 rw[← hcp] at b1 b2
 have hgp:=getD_map (f:=aPr) hp
 have hel:=hs.evs _ (List.getElem_mem hp)
 have hcm:(c.map ai).length=ps.length:=by rw[List.length_map,hcl]
 have hcg:∀a:Int,0≤a→a<ps.length→(c.map ai).getD a.toNat .any=ai (c.getD a.toNat 0):=fun a h1 h2=>by
  rw[getD_map (by omega),List.getD_eq_getElem?_getD,List.getElem?_eq_getElem (by omega)];rfl
 have hI:aInts c = .sl 1 (c.map ai):=rfl
 have hRw:aRows [c] = .sl 1 [.sl 1 (c.map ai)]:=rfl
 have hPq:aInts [(p:Int),q] = .sl 1 [ai p,ai q]:=rfl
 have hfi:=findIn_or ps 3
 rw[hRw,hPq] at h1
 rw[hI]
 have hlim:=undM_len (ps:=ps) c (p:=p) q
 have hcnt:=List.countP_le_length (p:=sentTo q) (l:=ps[p].evs)
 have hly:=fun m a i=>lack_yes (ps:=ps) (c:=c) (m:=m) (a:=a) (i:=i)
 have hln:=fun m=>lack_no (ps:=ps) (c:=c) (m:=m)
 have hsu:=fun k (hk:k<ps[p].evs.length)=>undM_succ (ps:=ps) (c:=c) (q:=q) hp hk
 have hz:=undM_zero ps c p q
 have hub:∀e,undB ps c q e=(sentTo q e && lackB ps c e.msg):=fun _=>rfl
 clear hI hRw hPq
 clear hcp
 generalize c.getD p 0=n at *
 generalize c.map ai=cc at *
 refine PC.enter 77 [.tmp 8,.tmp 9] [4,13,14,18,21,73] Proofs.Tryz.func154 rfl rfl rfl rfl rfl (by simp) (AWp.of ?_);simp only[go_sem]
 refine Wk ?_
 refine Sd ?_
 refine(h1).val.use ?_;simp only[go_sem]
 refine Wk ?_
 refine AWp.seq ?_
 have htk:(ps[p].evs.take n.toNat).length=n.toNat:=by rw[List.length_take];omega
 repeat(first|(with_reducible refine AWp.seq ?_)|(with_reducible refine AWp.block ?_))
 refine AWp.read mixed [0,1,2,3,4,5,6,7,8,9,10,11,12] (by kernel_rfl) ?_;simp only[go_sem,hgp,hgc,hcm,htk]
 refine Sd ?_
 refine W1 htk ?_
 refine AWp.range' n.toNat [11] [1,3,4,36,37] (fun k vs L=>∃v,vs=[v]∧AppSt 3 1 (undM ps c p q k) v L) (by omega) rfl rfl rfl ⟨anil,rfl,by rw[hz];exact .nil⟩ ?_ ?_
 ·rintro k vs L hk - ⟨v,rfl,hA⟩
  have hke:k<ps[p].evs.length:=by omega
  have hge:((ps[p].evs.take n.toNat).map aEv).getD k .any=aEv ps[p].evs[k]:=by
   rw[getD_map (by rw[htk];exact hk),List.getElem_take]
  have hsk:=hsu k hke
  have hbe:=hub ps[p].evs[k]
  have hlk:=hlim k hp
  rw[hsk]
  clear hsk
  generalize ps[p].evs[k]=e at *
  have hre:=hrec e.msg
  rw[hfV] at hre
  have hfm:=hfi e.msg
  have hlye:=hly e.msg
  have hlne:=hln e.msg
  generalize findIn (evIds ps) 3 e.msg=F at *
  have hev:aEv e = .agg [ai e.kind,ai e.peer,ai e.msg,ai e.time,aAsgs e.asg]:=rfl
  have hst:sentTo q e=(decide (e.kind=2) && decide (e.peer=q)):=rfl
  rw[hev] at hge
  generalize undM ps c p q k=ys at *
  by_cases hkp:e.kind=2∧e.peer=q
  ·obtain⟨h2,h3⟩:=hkp
   rw[hst,decide_eq_true h2,decide_eq_true h3,Bool.and_self,Bool.true_and] at hbe
   have hF:∃a i:Int,F=(a,i)∧0≤a∧a<ps.length∧0≤i∧lackB ps c e.msg=(!decide (0<i) || decide (c.getD a.toNat 0<i)):=by
    rcases hfm with hF|⟨a,ha,i,hi,hF⟩
    ·exact⟨0,0,hF,by omega,by omega,by omega,by rw[hlne hF];rfl⟩
    ·refine⟨a,(i:Int)+1,hF,by omega,by omega,by omega,?_⟩
     rw[hlye _ _ hF (by omega),decide_eq_true (show (0:Int)<(i:Int)+1 by omega)];rfl
   obtain⟨a,i,rfl,ha0,ha1,hi0,hlk2⟩:=hF
   have hga:=hcg a ha0 ha1
   rw[hbe,hlk2]
   have hae:aEid (a,i) = .agg [ai a,ai i]:=rfl
   have hF2:((a,i):Eid).2=i:=rfl
   rw[hae,hF2] at hre
   clear hbe hlk2 hlye hlne hfm hev hst
   generalize c.getD a.toNat 0=z at *
   obtain⟨al,hal⟩:∃al,aAsgs e.asg = .sl 2 al:=⟨_,rfl⟩
   rw[hal] at hge
   generalize e.msg=m at *
   generalize e.time=tm at *
   rw[h2,h3] at hge
   cases hB:(!decide (0<i) || decide (z<i)) with
   | false =>
    rw[if_neg (by decide),List.append_nil]
    have hfo:=hA.fo
    simp only[go_sem]
    refine W2 hge hfo ?_
    intros
    refine W2 hge hfo ?_
    refine Sd ?_
    refine(hre).val.use ?_;simp only[go_sem,hfo]
    refine W1 hfo ?_
    intros
    repeat(first|(with_reducible refine AWp.seq ?_)|(with_reducible refine AWp.block ?_))
    refine AWp.read mixed [0,1,2,3,4,5,6,7,8,9,10,11] (by kernel_rfl) ?_;simp only[go_sem,hga,hcm,hfo]
    refine Sd ?_
    refine W2 hB hfo ?_
    exact⟨_,List.Sublist.refl _,_,rfl,hA⟩
   | true =>
    rw[if_pos rfl]
    rcases hA.inv with ⟨e1,rfl,rfl⟩|⟨bq,cq,rfl,rfl⟩
    ·simp only[go_sem]
     refine W1 hge ?_
     intros
     refine W1 hge ?_
     refine Sd ?_
     refine(hre).val.use ?_;simp only[go_sem]
     refine Wk ?_
     intros
     repeat(first|(with_reducible refine AWp.seq ?_)|(with_reducible refine AWp.block ?_))
     refine AWp.read mixed [0,1,2,3,4,5,6,7,8,9,10,11] (by kernel_rfl) ?_;simp only[go_sem,hga,hcm]
     refine Sd ?_
     refine W1 hB ?_
     intro b' cap' g8
     intros
     refine Wk ?_
     exact⟨_,List.Sublist.refl _,_,rfl,by rw[e1];exact .row _ _ _⟩
    ·simp only[go_sem]
     refine W1 hge ?_
     intros
     refine W1 hge ?_
     refine Sd ?_
     refine(hre).val.use ?_;simp only[go_sem]
     refine Wk ?_
     intros
     repeat(first|(with_reducible refine AWp.seq ?_)|(with_reducible refine AWp.block ?_))
     refine AWp.read mixed [0,1,2,3,4,5,6,7,8,9,10,11] (by kernel_rfl) ?_;simp only[go_sem,hga,hcm]
     refine Sd ?_
     refine W1 hB ?_
     refine Sd ?_
     intro b' cap' g8
     intros
     refine Wk ?_
     exact⟨_,List.Sublist.refl _,_,rfl,AppSt.snoc _ _ _ rfl⟩
  ·have hun:undB ps c q e=false:=by
    rw[hbe,hst]
    by_cases h2:e.kind=2
    ·rw[decide_eq_false (show ¬e.peer=q from fun h=>hkp ⟨h2,h⟩),Bool.and_false,Bool.false_and]
    ·rw[decide_eq_false h2,Bool.false_and,Bool.false_and]
   have hcd:(!decide (e.kind=2) || !decide (e.peer=q))=true:=by
    by_cases h2:e.kind=2
    ·rw[decide_eq_false (show ¬e.peer=q from fun h=>hkp ⟨h2,h⟩),Bool.not_false,Bool.or_true]
    ·rw[decide_eq_false h2];rfl
   rw[hun,if_neg (by decide),List.append_nil]
   have hfo:=hA.fo
   have hkq:e.kind=2→¬e.peer=q:=fun h h'=>hkp ⟨h,h'⟩
   simp only[go_sem]
   refine W2 hge hfo ?_
   intros
   refine W3 hge hfo hcd ?_
   exact⟨_,List.Sublist.refl _,_,rfl,hA⟩
 ·rintro vs L - ⟨v,rfl,hA⟩
  generalize undM ps c p q n.toNat=ys at *
  rcases hA.inv with ⟨e3,rfl,rfl⟩|⟨bq,cap,rfl,rfl⟩
  ·simp only[go_sem]
   refine Wk ?_
   refine ret_view [] ?_;simp only[go_sem]
   rw[e3]
   exact .mkTup (Vws.cons (.nil 1) (Vws.refl _))
  ·simp only[go_sem]
   refine Wk ?_
   refine ret_view [true] ?_;simp only[go_sem]
   exact .mkTup (Vws.cons (Vw.ofLs (if_pos rfl) rfl) (Vws.refl _))
theorem ref22_UnderWay (ps:List Pr) (hs:Sm ps) (c:List Int) (hg:givenF ps [c] []=0) (p:Nat) (hp:p<ps.length) (q:Int) :
  PC Proofs.Tryz.prog 83 [aTr ps,aInts c,ai p,ai q] (.sl 1 (undM ps c p q (c.getD p 0).toNat)):=by
 obtain⟨hv,hcl,hir,hclo⟩:=givenF_zero hg
 have hps:=hs.procs
 have hrec:=fun m=>ref12_Find ps hs 3 m
 obtain⟨b1,b2⟩:=inRangeF_get hir hcl hp
 have hcp:c.getD p 0=c[p]'(by omega):=by rw[List.getD_eq_getElem?_getD,List.getElem?_eq_getElem (by omega)];rfl
 have hgc:(c.map ai).getD p .any=ai (c.getD p 0):=by rw[getD_map (by omega),hcp]
 rw[← hcp] at b1 b2
 have hgp:=getD_map (f:=aPr) hp
 have hel:=hs.evs _ (List.getElem_mem hp)
 have hcm:(c.map ai).length=ps.length:=by rw[List.length_map,hcl]
 have hcg:∀a:Int,0≤a→a<ps.length→(c.map ai).getD a.toNat .any=ai (c.getD a.toNat 0):=fun a h1 h2=>by
  rw[getD_map (by omega),List.getD_eq_getElem?_getD,List.getElem?_eq_getElem (by omega)];rfl
 have hI:aInts c = .sl 1 (c.map ai):=rfl
 have hfi:=findIn_or ps 3
 rw[hI]
 have hlim:=undM_len (ps:=ps) c (p:=p) q
 have hcnt:=List.countP_le_length (p:=sentTo q) (l:=ps[p].evs)
 have hly:=fun m a i=>lack_yes (ps:=ps) (c:=c) (m:=m) (a:=a) (i:=i)
 have hln:=fun m=>lack_no (ps:=ps) (c:=c) (m:=m)
 have hsu:=fun k (hk:k<ps[p].evs.length)=>undM_succ (ps:=ps) (c:=c) (q:=q) hp hk
 have hz:=undM_zero ps c p q
 have hub:∀e,undB ps c q e=(sentTo q e && lackB ps c e.msg):=fun _=>rfl
 clear hI
 clear hcp
 generalize c.getD p 0=n at *
 generalize c.map ai=cc at *
 refine PC.enter 62 [.tmp 8] [4,11,12,59] Proofs.Tryz.func83 rfl rfl rfl rfl rfl (by simp) (AWp.of ?_);simp only[go_sem]
 refine Wk ?_
 refine AWp.block (AWp.count 10 n.toNat [9] [1,2,3,4] (fun k vs L=>∃v,vs=[v]∧AppSt 3 1 (undM ps c p q k) v L) rfl rfl ⟨anil,rfl,by rw[hz];exact .nil⟩ ?_)
 rintro k vs L hk - ⟨v,rfl,hA⟩
 have hfo:=hA.fo
 simp only[go_sem,hfo]
 refine W3 hgc hcm hfo ?_
 refine⟨fun h => ?_,fun h => ?_⟩
 ·have hke:k<ps[p].evs.length:=by omega
  have hge:=getD_map (f:=aEv) hke
  have hsk:=hsu k hke
  have hbe:=hub ps[p].evs[k]
  have hlk:=hlim k hp
  generalize ps[p].evs[k]=e at *
  have hre:=hrec e.msg
  have hfm:=hfi e.msg
  have hlye:=hly e.msg
  have hlne:=hln e.msg
  generalize findIn (evIds ps) 3 e.msg=F at *
  have hev:aEv e = .agg [ai e.kind,ai e.peer,ai e.msg,ai e.time,aAsgs e.asg]:=rfl
  have hst:sentTo q e=(decide (e.kind=2) && decide (e.peer=q)):=rfl
  rw[hev] at hge
  generalize undM ps c p q k=ys at *
  obtain⟨al,hal⟩:∃al,aAsgs e.asg = .sl 2 al:=⟨_,rfl⟩
  rw[hal] at hge
  by_cases hkp:e.kind=2∧e.peer=q
  ·obtain⟨h2,h3⟩:=hkp
   rw[hst,decide_eq_true h2,decide_eq_true h3,Bool.and_self,Bool.true_and] at hbe
   have hF:∃a i:Int,F=(a,i)∧0≤a∧a<ps.length∧0≤i∧lackB ps c e.msg=(decide (i=0) || decide (c.getD a.toNat 0<i)):=by
    rcases hfm with hF|⟨a,ha,i,hi,hF⟩
    ·exact⟨0,0,hF,by omega,by omega,by omega,by rw[hlne hF];rfl⟩
    ·refine⟨a,(i:Int)+1,hF,by omega,by omega,by omega,?_⟩
     rw[hlye _ _ hF (by omega),decide_eq_false (show ¬(i:Int)+1=0 by omega)];rfl
   obtain⟨a,i,rfl,ha0,ha1,hi0,hlk2⟩:=hF
   have hga:=hcg a ha0 ha1
   rw[hbe,hlk2] at hsk
   have hae:aEid (a,i) = .agg [ai a,ai i]:=rfl
   rw[hae] at hre
   clear hbe hlk2 hlye hlne hfm hev hst
   generalize c.getD a.toNat 0=z at *
   generalize e.msg=m at *
   generalize e.time=tm at *
   rw[h2,h3] at hge
   cases hB:(decide (i=0) || decide (z<i)) with
   | false =>
    rw[hB,if_neg (by decide),List.append_nil] at hsk
    refine W3 hgp hge hfo ?_
    intros
    refine W3 hgp hge hfo ?_
    refine Sd ?_
    refine(hre).val.use ?_;simp only[go_sem,hfo]
    intros
    refine W1 hfo ?_
    repeat(first|(with_reducible refine AWp.seq ?_)|(with_reducible refine AWp.block ?_))
    refine AWp.read mixed [0,1,2,3,4,5,6,7,8,9,10,11,12] (by kernel_rfl) ?_;simp only[go_sem,hga,hcm,hfo]
    refine Sd ?_
    refine W2 hB hfo ?_
    exact⟨_,List.Sublist.refl _,_,rfl,by rw[hsk];exact hA⟩
   | true =>
    rw[hB,if_pos rfl] at hsk
    rcases hA.inv with ⟨e1,rfl,rfl⟩|⟨bq,cq,rfl,rfl⟩
    ·refine W2 hgp hge ?_
     intros
     refine W2 hgp hge ?_
     refine Sd ?_
     refine(hre).val.use ?_;simp only[go_sem]
     intros
     refine Wk ?_
     repeat(first|(with_reducible refine AWp.seq ?_)|(with_reducible refine AWp.block ?_))
     refine AWp.read mixed [0,1,2,3,4,5,6,7,8,9,10,11,12] (by kernel_rfl) ?_;simp only[go_sem,hga,hcm]
     refine Sd ?_
     refine W1 hB ?_
     intro b' cap' g8
     intros
     refine Wk ?_
     exact⟨_,List.Sublist.refl _,_,rfl,by rw[hsk,e1];exact .row _ _ _⟩
    ·refine W2 hgp hge ?_
     intros
     refine W2 hgp hge ?_
     refine Sd ?_
     refine(hre).val.use ?_;simp only[go_sem]
     intros
     refine Wk ?_
     repeat(first|(with_reducible refine AWp.seq ?_)|(with_reducible refine AWp.block ?_))
     refine AWp.read mixed [0,1,2,3,4,5,6,7,8,9,10,11,12] (by kernel_rfl) ?_;simp only[go_sem,hga,hcm]
     refine Sd ?_
     refine W1 hB ?_
     refine Sd ?_
     intro b' cap' g8
     intros
     refine Wk ?_
     exact⟨_,List.Sublist.refl _,_,rfl,by rw[hsk];exact AppSt.snoc _ _ _ rfl⟩
  ·have hun:undB ps c q e=false:=by
    rw[hbe,hst]
    by_cases h2:e.kind=2
    ·rw[decide_eq_false (show ¬e.peer=q from fun h=>hkp ⟨h2,h⟩),Bool.and_false,Bool.false_and]
    ·rw[decide_eq_false h2,Bool.false_and,Bool.false_and]
   have hcd:(!decide (e.kind=2) || !decide (e.peer=q))=true:=by
    by_cases h2:e.kind=2
    ·rw[decide_eq_false (show ¬e.peer=q from fun h=>hkp ⟨h2,h⟩),Bool.not_false,Bool.or_true]
    ·rw[decide_eq_false h2];rfl
   rw[hun,if_neg (by decide),List.append_nil] at hsk
   have hkq:e.kind=2→¬e.peer=q:=fun h h'=>hkp ⟨h,h'⟩
   refine W3 hgp hge hfo ?_
   intros
   refine W4 hgp hge hfo hcd ?_
   exact⟨_,List.Sublist.refl _,_,rfl,by rw[hsk];exact hA⟩
 ·have:k=n.toNat:=by omega
  subst this
  generalize undM ps c p q n.toNat=ys at *
  rcases hA.inv with ⟨e3,rfl,rfl⟩|⟨bq,cap,rfl,rfl⟩
  ·refine Wk ?_
   refine ret_view [] ?_;simp only[go_sem]
   rw[e3]
   exact .nil 1
  ·refine Wk ?_
   refine ret_view [true] ?_;simp only[go_sem]
   exact Vw.ofLs (if_pos rfl) rfl
noncomputable def undF (ps:List Pr) (c:List Int) (p q:Int):Int:=((undM ps c p.toNat q (c.getD p.toNat 0).toNat).length:Int)
theorem view_channel (ps:List Pr) (hs:Sm ps) (c:List Int) (hg:givenF ps [c] []=0) (V:List (List Int)) (k n:Int) (p:Nat) (q:Int) (s:ByteArray) (l:List Pd) (hp:p<ps.length) (hq:0≤q∧q<ps.length) :
  PC Proofs.Tryz.prog 119 [aView ps c V,aPd (.mk k n p q s l)] (ai (undF ps c p q)):=by
 have h1:=cut_UnderWay ps hs c hg p hp q hq
 have hu:undF ps c p q=((undM ps c p q (c.getD p 0).toNat).length:Int):=by unfold undF;rw[Int.toNat_natCast]
 rw[hu]
 have hT:aTr ps = .agg [aPrs ps]:=rfl
 have hI:aInts c = .sl 1 (c.map ai):=rfl
 rw[hT,hI] at h1
 generalize undM ps c p q (c.getD p 0).toNat=ms at *
 unfold aView
 simp only[aPd_mk]
 obtain⟨vv,hvv⟩:∃vv,aRows V = .sl 1 vv:=⟨_,rfl⟩
 rw[hI,hvv]
 obtain⟨tp,htp⟩:∃tp,aPrs ps = .sl 3 tp:=⟨_,rfl⟩
 rw[htp] at h1 ⊢
 refine PC.enter 21 [.tmp 4] [2,3] Proofs.Tryz.func119 rfl rfl rfl rfl rfl (by simp) (AWp.of ?_);simp only[go_sem]
 refine Wk ?_
 refine Sd ?_
 refine(h1).val.use ?_;simp only[go_sem]
 refine Wk ?_
 refine ret_eq ?_;simp only[go_sem]
theorem und_leaf (ps:List Pr) (hs:Sm ps) (c:List Int) (hg:givenF ps [c] []=0) (t:Pd) (hr:allB (resB ps) t=true) :
  AllP (leafOk ps c (valuesAt ps c) (cutO ps c (undF ps c))) t∧AllP (obsB ps (cutO ps c (undF ps c))) t∧AllP (leafR ps c (cutO ps c (undF ps c))) t:=by
 obtain⟨hv,hc,hir,_⟩:=givenF_zero hg
 have hvl:(valuesAt ps c).length=ps.length:=by unfold valuesAt;rw[List.length_map,List.length_zip];omega
 have hcg:∀i (hi:i<ps.length),c.getD i 0=c[i]'(by omega):=fun i hi=>by rw[List.getD_eq_getElem?_getD,List.getElem?_eq_getElem (by omega)];rfl
 have hvar:∀(i:Nat) (hi:i<ps.length) (s:ByteArray),(cutO ps c (undF ps c)).var i s=(stateAt ps[i] (c[i]'(by omega)).toNat).getD (varIx ps[i].vars s).toNat 0:=fun i hi s=>by
  unfold cutO;simp only[Int.toNat_natCast,List.getElem?_eq_getElem hi,hcg i hi]
 have hcnt:∀(i:Nat) (hi:i<ps.length),(cutO ps c (undF ps c)).cnt i=c[i]'(by omega):=fun i hi=>by
  unfold cutO;simp only[Int.toNat_natCast,hcg i hi]
 have hget:∀(i:Nat) (hi:i<ps.length),c[((i:Nat):Int).toNat]?=some (c[i]'(by omega)):=fun i hi=>by
  rw[Int.toNat_natCast,List.getElem?_eq_getElem (by omega)]
 refine⟨AllP_of_allB (fun x hx => ?_) t hr,AllP_of_allB (fun x hx => ?_) t hr,AllP_of_allB (fun x hx => ?_) t hr⟩
 ·obtain⟨k,n,p,q,s,l⟩:=x
  obtain⟨r2,r3,r4⟩:=res_leaf hx
  refine⟨fun e => ?_,fun e => ?_,fun e => ?_⟩
  ·obtain⟨i,rfl,hp⟩:=isPB_nat (r2 e).1
   have hvg:=valuesAt_get (c:=c) hp (by omega)
   have h:=view_variable ps hs c (valuesAt ps c) k n i q s l hp (r2 e).2 (by omega) (by rw[hvg,stateAt_length])
   rw[hvg] at h
   rw[hvar i hp];exact h
  ·obtain⟨i,rfl,hp⟩:=isPB_nat (r3 e)
   exact⟨by omega,by rw[hcnt i hp];exact hget i hp⟩
  ·obtain⟨i,rfl,hp⟩:=isPB_nat (r4 e).1
   obtain⟨j,rfl,hq⟩:=isPB_nat (r4 e).2.1
   exact view_channel ps hs c hg (valuesAt ps c) k n i j s l hp ⟨by omega,by omega⟩
 ·obtain⟨k,n,p,q,s,l⟩:=x
  obtain⟨r2,r3,r4⟩:=res_leaf hx
  refine⟨fun e => ?_,fun e => ?_,fun e => ?_⟩
  ·obtain⟨i,rfl,hp⟩:=isPB_nat (r2 e).1
   obtain⟨b1,b2⟩:=inRangeF_get hir hc hp
   have hm:=valsF_mem ps[i] (varIx ps[i].vars s).toNat (k:=(c[i]'(by omega)).toNat) (by omega)
   rw[hvar i hp]
   unfold varLo varHi
   simp only[Int.toNat_natCast,List.getElem?_eq_getElem hp]
   exact⟨minL_le hm,le_maxL hm⟩
  ·obtain⟨i,rfl,hp⟩:=isPB_nat (r3 e)
   obtain⟨b1,b2⟩:=inRangeF_get hir hc hp
   rw[hcnt i hp,evN_get hp]
   exact⟨b1,b2⟩
  ·obtain⟨i,rfl,hp⟩:=isPB_nat (r4 e).1
   show 0≤undF ps c i q∧undF ps c i q≤msgN ps i q
   have h1:=undM_len c q (c.getD i 0).toNat hp
   rw[msgN_get hp]
   unfold undF
   rw[Int.toNat_natCast]
   omega
 ·obtain⟨k,n,p,q,s,l⟩:=x
  obtain⟨r2,r3,r4⟩:=res_leaf hx
  refine⟨fun e => ?_,fun e => ?_,fun e => ?_⟩
  ·obtain⟨i,rfl,hp⟩:=isPB_nat (r2 e).1
   obtain⟨b1,b2⟩:=inRangeF_get hir hc hp
   have h1:=ref25_Index ps hs i (r2 e).1 s
   rw[varX_get hp] at h1
   obtain⟨j,hj,hjl⟩:=known_ix (known_get hp (r2 e).2)
   have h2:=ref25_Value ps hs i hp j hjl (c[i]'(by omega)).toNat (by omega) (asg_of_valid hv i hp) (dis_of_valid hv i hp)
   rw[hj] at h1
   rw[Int.toNat_of_nonneg b1] at h2
   refine⟨_,_,h1,?_,by omega,hget i hp⟩
   rw[hvar i hp,hj,Int.toNat_natCast,List.getD_eq_getElem?_getD,List.getElem?_eq_getElem (by rw[stateAt_length];exact hjl)]
   exact h2
  ·obtain⟨i,rfl,hp⟩:=isPB_nat (r3 e)
   exact⟨by omega,by rw[hcnt i hp];exact hget i hp⟩
  ·obtain⟨i,rfl,hp⟩:=isPB_nat (r4 e).1
   refine⟨_,?_,ref22_UnderWay ps hs c hg i hp q⟩
   show _=undF ps c i q
   unfold undF
   rw[Int.toNat_natCast]
section
variable {b:Nat→Bool} {p K:Nat} {l:List Stp}
end
section
variable {ps:List Pr} {ts:List Pd} (hC:conF ps ts=0)
include hC
end
structure TgB (ps:List Pr) (s:Nat→Stp):Prop where
 el:∀p,p<ps.length→(s p).2.1≤(s p).2.2∧(s p).2.2≤nev ps p∧(s p).1=p
 bg:∀p q,p<ps.length→q<ps.length→p ≠ q→bgN ps (s p) (s q)=true
section
variable {ps:List Pr} (hv:validF ps=true) {s:Nat→Stp} (hT:TgB ps s)
include hv hT
end
abbrev Syn:=Eid × Eid
def dirE (ps:List Pr) (p i:Nat):List Eid:=(if 0<i then [((p:Int),(i:Int))] else []) ++ (if (evq ps p i).kind=3 then [sndr ps (evq ps p i).msg] else [])
def dirX (ps:List Pr) (l:List Syn) (p i:Nat):List Eid:=dirE ps p i ++ (l.filter fun s=>decide (s.2=((p:Int),(i:Int)+1))).map (·.1)
def nedX (S:Nat→List (List Int)) (y:Eid):List Int:=stOf S y.1.toNat y.2.toNat
def RdyX (ps:List Pr) (l:List Syn) (S:Nat→List (List Int)) (p:Nat):Prop :=
 p<ps.length∧(S p).length≤nev ps p∧∀y ∈ dirX ps l p ((S p).length - 1),y.2.toNat<(S y.1.toNat).length
def vecX (ps:List Pr) (l:List Syn) (S:Nat→List (List Int)) (p k:Nat):List Int:=((dirX ps l p (k - 1)).foldl (fun v y=>joinL v (nedX S y)) (List.replicate ps.length 0)).set p (k:Int)
inductive GenX (ps:List Pr) (l:List Syn):(Nat→List (List Int))→Prop
 | init:GenX ps l fun _=>[List.replicate ps.length 0]
 | step {S:Nat→List (List Int)} {p:Nat} : GenX ps l S→RdyX ps l S p→GenX ps l (upS S p (vecX ps l S p (S p).length))
section
variable {ps:List Pr} {l:List Syn} {S S':Nat→List (List Int)}
end
open Classical in
noncomputable def exF (ps:List Pr) (l:List Syn):Nat→List (List Int):=if h:∃S,GenX ps l S∧∀p,¬RdyX ps l S p then Classical.choose h else fun _=>[]
def SynOk (ps:List Pr) (l:List Syn):Prop:=∀s ∈ l,(0≤s.1.1∧s.1.1<ps.length∧1≤s.1.2∧s.1.2≤nev ps s.1.1.toNat)∧(0≤s.2.1∧s.2.1<ps.length∧1≤s.2.2∧s.2.2≤nev ps s.2.1.toNat)
end Go.AL
end
section
namespace Go.AL
open Go Go.RowKit
set_option maxRecDepth 4000
structure HoldX (ps:List Pr) (l:List Syn) (bad:Nat→Nat→Bool) (d:Nat→Nat):Prop where
 rng:∀p,p<ps.length→d p≤nev ps p
 bad:∀p,p<ps.length→bad p (d p)=true
 clo:∀a,a<ps.length→∀i,i<nev ps a→i+1≤d a→∀y ∈ dirX ps l a i,y.2≤d y.1.toNat
open Classical in
noncomputable def ctlB (ps:List Pr) (l:List Syn) (bad:Nat→Nat→Bool):Bool:=decide (¬ ∃d,HoldX ps l bad d)
open Classical in
theorem ctlB_true {ps:List Pr} {l:List Syn} {bad:Nat→Nat→Bool} : ctlB ps l bad=true↔¬ ∃d,HoldX ps l bad d:=by unfold ctlB;exact decide_eq_true_iff
def WhlX (ps:List Pr) (S:Nat→List (List Int)):Prop:=∀p,p<ps.length→(S p).length=nev ps p+1
section
variable {ps:List Pr} {l:List Syn} {bad:Nat→Nat→Bool} {S:Nat→List (List Int)} (hv:validF ps=true) (hl:SynOk ps l) (hG:GenX ps l S) (hW:WhlX ps S)
include hv hl hG hW
end
end Go.AL
end
section
namespace Go.AL
open Go Go.RowKit
set_option maxRecDepth 4000
section
variable {ps:List Pr}
end
section
variable {ps:List Pr} {l:List Syn} {S:Nat→List (List Int)} (hv:validF ps=true) (hl:SynOk ps l) (hG:GenX ps l S)
include hv hl hG
end
section
variable {ps:List Pr} (hv:validF ps=true)
include hv
variable (hs:Sm ps)
include hs
end
section
variable {ps:List Pr} (hv:validF ps=true)
include hv
variable (hs:Sm ps)
include hs
end
section
variable {tO tI:TypeId} {k n:Nat} {Y:Nat→List AV} {v:AV} {L:AHeap}
end
section
variable {ps:List Pr} {bad:List Int→Bool} {c:List Int}
def FwdX (ps:List Pr) (bad:List Int→Bool) (c:List Int):Prop:=∃R,chnF ps (zeroC ps) R=true∧(zeroC ps :: R).getLast?=some c∧∀d ∈ zeroC ps :: R,bad d=false
open Classical in
noncomputable def opnL (ps:List Pr) (bad:List Int→Bool) (cs:List (List Int)):List (List Int):=cs.filter fun c=>decide (FwdX ps bad c)
end
section
variable {ps:List Pr} {b:Nat→Nat→Bool}
end
mutual
def ftF:Pd→Int→Int→Bool × Int
 | .mk _ _ _ _ s l,n,d=>if 0≤n - 1∧d≤60∧(s.size:Int)≤100 then (!(ftL l (n - 1) (d+1)).1,(ftL l (n - 1) (d+1)).2) else (false,n - 1)
def ftL:List Pd→Int→Int→Bool × Int
 | [],n,_=>(false,n)
 | x :: r,n,d=>if (ftF x n d).1=true then ftL r (ftF x n d).2 d else (true,(ftF x n d).2)
end
section
variable {ps:List Pr} (hva:PC Proofs.Tryz.prog 110 [aTr ps] (ab false))
include hva
end
section
variable {tO tI:TypeId} {k n:Nat} {Y:Nat→List AV} {v:AV} {L:AHeap}
end
end Go.AL
end
