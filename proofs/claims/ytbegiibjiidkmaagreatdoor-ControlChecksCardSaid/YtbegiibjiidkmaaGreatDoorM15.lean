/- Texts of this claim's proof: WCh, WMr, WMn. No condition. -/
import Derived.Test.YtbegiibjiidkmaaGreatDoorM10
import Derived.Test.YtbegiibjiidkmaaGreatDoorM8
import Derived.Test.YtbegiibjiidkmaaGreatDoorM14
import Derived.Test.YtbegiibjiidkmaaGreatDoorM7
section
namespace Go.AL
open Go Go.RowKit Proofs.Tryz
set_option maxRecDepth 4000
noncomputable def lackB (ps:List Pr)(c:List Int)(m:Int):Bool:=decide ((findIn (evIds ps) 3 m).2=0) || decide (c.getD (findIn (evIds ps) 3 m).1.toNat 0<(findIn (evIds ps) 3 m).2)
noncomputable def undB (ps:List Pr)(c:List Int)(q:Int)(e:Ev):Bool:=sentTo q e && lackB ps c e.msg
noncomputable def undM (ps:List Pr)(c:List Int)(p:Nat)(q:Int)(k:Nat):List AV:=((((ps[p]?).map (·.evs)).getD []).take k |>.filter (undB ps c q)).map fun e=>ai e.msg
theorem undM_succ {ps:List Pr}{c:List Int}{p:Nat}{q:Int}{k:Nat}(hp:p<ps.length)(hk:k<ps[p].evs.length):undM ps c p q (k+1)=undM ps c p q k ++ if undB ps c q ps[p].evs[k]=true then [ai ps[p].evs[k].msg] else []:=by
 unfold undM
 rw[List.getElem?_eq_getElem hp]
 show ((ps[p].evs.take (k+1)).filter (undB ps c q)).map _=((ps[p].evs.take k).filter (undB ps c q)).map _ ++ _
 rw[List.take_succ_eq_append_getElem hk,List.filter_append,List.map_append]
 congr 1
 by_cases h:undB ps c q ps[p].evs[k]=true
 ·rw[if_pos h,List.filter_cons_of_pos h];rfl
 ·rw[if_neg h,List.filter_cons_of_neg h];rfl
theorem undM_zero (ps:List Pr)(c:List Int)(p:Nat)(q:Int):undM ps c p q 0=[]:=by unfold undM;simp
theorem undM_len {ps:List Pr}(c:List Int){p:Nat}(q:Int)(k:Nat)(hp:p<ps.length):(undM ps c p q k).length<=ps[p].evs.countP (sentTo q):=by
 unfold undM
 rw[List.getElem?_eq_getElem hp,List.length_map]
 show ((ps[p].evs.take k).filter (undB ps c q)).length<=_
 rw[List.countP_eq_length_filter]
 have h1:((ps[p].evs.take k).filter (undB ps c q)).length<=((ps[p].evs.take k).filter (sentTo q)).length:=by
  rw[<- List.countP_eq_length_filter,<- List.countP_eq_length_filter]
  refine List.countP_mono_left fun e _ h=>?_
  unfold undB at h
  rw[Bool.and_eq_true] at h
  exact h.1
 exact Nat.le_trans h1 (List.Sublist.length_le (List.Sublist.filter _ (List.take_sublist _ _)))
theorem lack_no {ps:List Pr}{c:List Int}{m:Int}(h:findIn (evIds ps) 3 m=(0,0)):lackB ps c m=true:=by unfold lackB;rw[h];rfl
theorem lack_yes {ps:List Pr}{c:List Int}{m a i:Int}(h:findIn (evIds ps) 3 m=(a,i))(hi:1<=i):lackB ps c m=decide (c.getD a.toNat 0<i):=by
 unfold lackB
 rw[h]
 show (decide (i=0) || _)=_
 rw[decide_eq_false (by omega),Bool.false_or]
theorem trace_Receiver (ps:List Pr)(hs:Sm ps)(m:Int):PC prog 256 [aTr ps,ai m] (.tup [aEid (findV ps 3 m),ab (decide (0<(findV ps 3 m).2))]):=by
 refine PE 11 [.cell 4 53,.tmp 5] [2] func256 ?_;simp only[go_sem]
 intro b4
 refine Sd ?_
 refine Ao ?_
 refine Sd ?_
 refine(trace_find ps hs 3 m).val.use ?_;simp only[go_sem]
 refine Wk ?_
 exact Rz
theorem cut_UnderWay (ps:List Pr)(hs:Sm ps)(c:List Int)(hg:givenF ps [c] []=0)(p:Nat)(hp:p<ps.length)(q:Int)(hq:0<=q/\q<ps.length) :
  PC prog 235 [aTr ps,aInts c,ai p,ai q] (.tup [.sl 1 (undM ps c p q (c.getD p 0).toNat),ai 0]):=by
 obtain⟨hv,hcl,hir,hclo⟩:=givenF_zero hg
 have hps:=hs.procs
 have h1:=cut_given ps hs [c] (by simp) [p,q] (by simp)
 have h0:givenF ps [c] [(p:Int),q]=0:=by
  unfold givenF at hg ⊢
  have hpr:([(p:Int),q].all fun p=>decide (0<=p) && decide (p<ps.length))=true:=by
   simp;omega
  rw[hpr]
  simpa using hg
 rw[h0] at h1
 have hrec:=fun m=>trace_Receiver ps hs m
 have hfV:∀m,findV ps 3 m=findIn (evIds ps) 3 m:=fun m=>by unfold findV;rw[if_pos hv]
 obtain⟨b1,b2⟩:=inRangeF_get hir hcl hp
 have hcp:c.getD p 0=c[p]'(by omega):=by rw[List.getD_eq_getElem?_getD,List.getElem?_eq_getElem (by omega)];rfl
 have hgc:(c.map ai).getD p .any=ai (c.getD p 0):=by rw[getD_map (by omega),hcp]
 rw[<- hcp] at b1 b2
 have hgp:=getD_map (f:=aPr) hp
 have hel:=hs.evs _ (List.getElem_mem hp)
 have hcm:(c.map ai).length=ps.length:=by rw[List.length_map,hcl]
 have hcg:∀a:Int,0<=a->a<ps.length->(c.map ai).getD a.toNat .any=ai (c.getD a.toNat 0):=fun a h1 h2=>by
  rw[getD_map (by omega),List.getD_eq_getElem?_getD,List.getElem?_eq_getElem (by omega)];rfl
 have hI:aInts c = .sl 1 (c.map ai):=rfl
 have hRw:aRows [c] = .sl 1 [.sl 1 (c.map ai)]:=rfl
 have hPq:aInts [(p:Int),q] = .sl 1 [ai p,ai q]:=rfl
 have hfi:=findIn_or ps 3
 rw[hRw,hPq] at h1
 rw[hI]
 have hlim:=undM_len (ps:=ps) c (p:=p) q
 have hcnt:=List.countP_le_length (p:=sentTo q) (l:=ps[p].evs)
 have hly:=fun m a i=>lack_yes (ps:=ps) (c:=c) (m:=m) (a:=a) (i:=i)
 have hln:=fun m=>lack_no (ps:=ps) (c:=c) (m:=m)
 have hsu:=fun k (hk:k<ps[p].evs.length)=>undM_succ (ps:=ps) (c:=c) (q:=q) hp hk
 have hz:=undM_zero ps c p q
 have hub:∀e,undB ps c q e=(sentTo q e && lackB ps c e.msg):=fun _=>rfl
 clear hI hRw hPq
 clear hcp
 generalize c.getD p 0=n at *
 generalize c.map ai=cc at *
 refine PE 77 [.tmp 8,.tmp 9] [4,13,14,18,21,73] func235 ?_;simp only[go_sem]
 refine Wk ?_
 refine Sd ?_
 refine Vu h1 ?_
 refine Wk ?_
 refine AWp.seq ?_
 have htk:(ps[p].evs.take n.toNat).length=n.toNat:=by rw[List.length_take];omega
 refine Sq ?_
 refine AWp.read mixed [0,1,2,3,4,5,6,7,8,9,10,11,12] (by kernel_rfl) ?_;simp only[go_sem,hgp,hgc,hcm,htk]
 refine Sd ?_
 refine W1 htk ?_
 refine AWp.range' n.toNat [11] [1,3,4,36,37] (fun k vs L=>∃v,vs=[v]/\AppSt 3 1 (undM ps c p q k) v L) (by omega) rfl rfl rfl ⟨anil,rfl,by rw[hz];exact .nil⟩ ?_ ?_
 ·rintro k vs L hk - ⟨v,rfl,hA⟩
  have hke:k<ps[p].evs.length:=by omega
  have hge:((ps[p].evs.take n.toNat).map aEv).getD k .any=aEv ps[p].evs[k]:=by
   rw[getD_map (by rw[htk];exact hk),List.getElem_take]
  have hsk:=hsu k hke
  have hbe:=hub ps[p].evs[k]
  have hlk:=hlim k hp
  rw[hsk]
  clear hsk
  generalize ps[p].evs[k]=e at *
  have hre:=hrec e.msg
  rw[hfV] at hre
  have hfm:=hfi e.msg
  have hlye:=hly e.msg
  have hlne:=hln e.msg
  generalize findIn (evIds ps) 3 e.msg=F at *
  have hev:aEv e = .agg [ai e.kind,ai e.peer,ai e.msg,ai e.time,aAsgs e.asg]:=rfl
  have hst:sentTo q e=(decide (e.kind=2) && decide (e.peer=q)):=rfl
  rw[hev] at hge
  generalize undM ps c p q k=ys at *
  by_cases hkp:e.kind=2/\e.peer=q
  ·obtain⟨h2,h3⟩:=hkp
   rw[hst,decide_eq_true h2,decide_eq_true h3,Bool.and_self,Bool.true_and] at hbe
   have hF:∃a i:Int,F=(a,i)/\0<=a/\a<ps.length/\0<=i/\lackB ps c e.msg=(!decide (0<i) || decide (c.getD a.toNat 0<i)):=by
    rcases hfm with hF|⟨a,ha,i,hi,hF⟩
    ·exact⟨0,0,hF,by omega,by omega,by omega,by rw[hlne hF];rfl⟩
    ·refine⟨a,(i:Int)+1,hF,by omega,by omega,by omega,?_⟩
     rw[hlye _ _ hF (by omega),decide_eq_true (show (0:Int)<(i:Int)+1 by omega)];rfl
   obtain⟨a,i,rfl,ha0,ha1,hi0,hlk2⟩:=hF
   have hga:=hcg a ha0 ha1
   rw[hbe,hlk2]
   have hae:aEid (a,i) = .agg [ai a,ai i]:=rfl
   have hF2:((a,i):Eid).2=i:=rfl
   rw[hae,hF2] at hre
   clear hbe hlk2 hlye hlne hfm hev hst
   generalize c.getD a.toNat 0=z at *
   obtain⟨al,hal⟩:∃al,aAsgs e.asg = .sl 2 al:=⟨_,rfl⟩
   rw[hal] at hge
   generalize e.msg=m at *
   generalize e.time=tm at *
   rw[h2,h3] at hge
   cases hB:(!decide (0<i) || decide (z<i)) with
   | false =>
    rw[if_neg (by decide),List.append_nil]
    have hfo:=hA.fo
    simp only[go_sem]
    refine W2 hge hfo ?_
    intros
    refine W2 hge hfo ?_
    refine Sd ?_
    refine(hre).val.use ?_;simp only[go_sem,hfo]
    refine W1 hfo ?_
    intros
    refine Sq ?_
    refine AWp.read mixed [0,1,2,3,4,5,6,7,8,9,10,11] (by kernel_rfl) ?_;simp only[go_sem,hga,hcm,hfo]
    refine Sd ?_
    refine W2 hB hfo ?_
    exact⟨_,.refl _,_,rfl,hA⟩
   | true =>
    rw[if_pos rfl]
    rcases hA.inv with ⟨e1,rfl,rfl⟩|⟨bq,cq,rfl,rfl⟩
    ·simp only[go_sem]
     refine W1 hge ?_
     intros
     refine W1 hge ?_
     refine Sd ?_
     refine Vu hre ?_
     refine Wk ?_
     intros
     refine Sq ?_
     refine AWp.read mixed [0,1,2,3,4,5,6,7,8,9,10,11] (by kernel_rfl) ?_;simp only[go_sem,hga,hcm]
     refine Sd ?_
     refine W1 hB ?_
     intro b' cap' g8
     intros
     refine Wk ?_
     exact⟨_,.refl _,_,rfl,by rw[e1];exact .row _ _ _⟩
    ·simp only[go_sem]
     refine W1 hge ?_
     intros
     refine W1 hge ?_
     refine Sd ?_
     refine Vu hre ?_
     refine Wk ?_
     intros
     refine Sq ?_
     refine AWp.read mixed [0,1,2,3,4,5,6,7,8,9,10,11] (by kernel_rfl) ?_;simp only[go_sem,hga,hcm]
     refine Sd ?_
     refine W1 hB ?_
     refine Sd ?_
     intro b' cap' g8
     intros
     refine Wk ?_
     exact⟨_,.refl _,_,rfl,AppSt.snoc _ _ _ rfl⟩
  ·have hun:undB ps c q e=false:=by
    rw[hbe,hst]
    by_cases h2:e.kind=2
    ·rw[decide_eq_false (show ¬e.peer=q from fun h=>hkp ⟨h2,h⟩),Bool.and_false,Bool.false_and]
    ·rw[decide_eq_false h2,Bool.false_and,Bool.false_and]
   have hcd:(!decide (e.kind=2) || !decide (e.peer=q))=true:=by
    by_cases h2:e.kind=2
    ·rw[decide_eq_false (show ¬e.peer=q from fun h=>hkp ⟨h2,h⟩),Bool.not_false,Bool.or_true]
    ·rw[decide_eq_false h2];rfl
   rw[hun,if_neg (by decide),List.append_nil]
   have hfo:=hA.fo
   have hkq:e.kind=2->¬e.peer=q:=fun h h'=>hkp ⟨h,h'⟩
   simp only[go_sem]
   refine W2 hge hfo ?_
   intros
   refine W3 hge hfo hcd ?_
   exact⟨_,.refl _,_,rfl,hA⟩
 ·rintro vs L - ⟨v,rfl,hA⟩
  generalize undM ps c p q n.toNat=ys at *
  rcases hA.inv with ⟨e3,rfl,rfl⟩|⟨bq,cap,rfl,rfl⟩
  ·simp only[go_sem]
   refine Wk ?_
   refine ret_view [] ?_;simp only[go_sem]
   rw[e3]
   exact .mkTup (Vws.cons (.nil 1) (Vws.refl _))
  ·simp only[go_sem]
   refine Wk ?_
   refine ret_view [true] ?_;simp only[go_sem]
   exact .mkTup (Vws.cons (Vw.ofLs (if_pos rfl) rfl) (Vws.refl _))
theorem ref22_UnderWay (ps:List Pr)(hs:Sm ps)(c:List Int)(hg:givenF ps [c] []=0)(p:Nat)(hp:p<ps.length)(q:Int) :
  PC prog 176 [aTr ps,aInts c,ai p,ai q] (.sl 1 (undM ps c p q (c.getD p 0).toNat)):=by
 obtain⟨hv,hcl,hir,hclo⟩:=givenF_zero hg
 have hps:=hs.procs
 have hrec:=fun m=>ref12_Find ps hs 3 m
 obtain⟨b1,b2⟩:=inRangeF_get hir hcl hp
 have hcp:c.getD p 0=c[p]'(by omega):=by rw[List.getD_eq_getElem?_getD,List.getElem?_eq_getElem (by omega)];rfl
 have hgc:(c.map ai).getD p .any=ai (c.getD p 0):=by rw[getD_map (by omega),hcp]
 rw[<- hcp] at b1 b2
 have hgp:=getD_map (f:=aPr) hp
 have hel:=hs.evs _ (List.getElem_mem hp)
 have hcm:(c.map ai).length=ps.length:=by rw[List.length_map,hcl]
 have hcg:∀a:Int,0<=a->a<ps.length->(c.map ai).getD a.toNat .any=ai (c.getD a.toNat 0):=fun a h1 h2=>by
  rw[getD_map (by omega),List.getD_eq_getElem?_getD,List.getElem?_eq_getElem (by omega)];rfl
 have hI:aInts c = .sl 1 (c.map ai):=rfl
 have hfi:=findIn_or ps 3
 rw[hI]
 have hlim:=undM_len (ps:=ps) c (p:=p) q
 have hcnt:=List.countP_le_length (p:=sentTo q) (l:=ps[p].evs)
 have hly:=fun m a i=>lack_yes (ps:=ps) (c:=c) (m:=m) (a:=a) (i:=i)
 have hln:=fun m=>lack_no (ps:=ps) (c:=c) (m:=m)
 have hsu:=fun k (hk:k<ps[p].evs.length)=>undM_succ (ps:=ps) (c:=c) (q:=q) hp hk
 have hz:=undM_zero ps c p q
 have hub:∀e,undB ps c q e=(sentTo q e && lackB ps c e.msg):=fun _=>rfl
 clear hI
 clear hcp
 generalize c.getD p 0=n at *
 generalize c.map ai=cc at *
 refine PE 62 [.tmp 8] [4,11,12,59] func176 ?_;simp only[go_sem]
 refine Wk ?_
 refine AWp.block (AWp.count 10 n.toNat [9] [1,2,3,4] (fun k vs L=>∃v,vs=[v]/\AppSt 3 1 (undM ps c p q k) v L) rfl rfl ⟨anil,rfl,by rw[hz];exact .nil⟩ ?_)
 rintro k vs L hk - ⟨v,rfl,hA⟩
 have hfo:=hA.fo
 simp only[go_sem,hfo]
 refine W3 hgc hcm hfo ?_
 constructor<;>intro h
 ·have hke:k<ps[p].evs.length:=by omega
  have hge:=getD_map (f:=aEv) hke
  have hsk:=hsu k hke
  have hbe:=hub ps[p].evs[k]
  have hlk:=hlim k hp
  generalize ps[p].evs[k]=e at *
  have hre:=hrec e.msg
  have hfm:=hfi e.msg
  have hlye:=hly e.msg
  have hlne:=hln e.msg
  generalize findIn (evIds ps) 3 e.msg=F at *
  have hev:aEv e = .agg [ai e.kind,ai e.peer,ai e.msg,ai e.time,aAsgs e.asg]:=rfl
  have hst:sentTo q e=(decide (e.kind=2) && decide (e.peer=q)):=rfl
  rw[hev] at hge
  generalize undM ps c p q k=ys at *
  obtain⟨al,hal⟩:∃al,aAsgs e.asg = .sl 2 al:=⟨_,rfl⟩
  rw[hal] at hge
  by_cases hkp:e.kind=2/\e.peer=q
  ·obtain⟨h2,h3⟩:=hkp
   rw[hst,decide_eq_true h2,decide_eq_true h3,Bool.and_self,Bool.true_and] at hbe
   have hF:∃a i:Int,F=(a,i)/\0<=a/\a<ps.length/\0<=i/\lackB ps c e.msg=(decide (i=0) || decide (c.getD a.toNat 0<i)):=by
    rcases hfm with hF|⟨a,ha,i,hi,hF⟩
    ·exact⟨0,0,hF,by omega,by omega,by omega,by rw[hlne hF];rfl⟩
    ·refine⟨a,(i:Int)+1,hF,by omega,by omega,by omega,?_⟩
     rw[hlye _ _ hF (by omega),decide_eq_false (show ¬(i:Int)+1=0 by omega)];rfl
   obtain⟨a,i,rfl,ha0,ha1,hi0,hlk2⟩:=hF
   have hga:=hcg a ha0 ha1
   rw[hbe,hlk2] at hsk
   have hae:aEid (a,i) = .agg [ai a,ai i]:=rfl
   rw[hae] at hre
   clear hbe hlk2 hlye hlne hfm hev hst
   generalize c.getD a.toNat 0=z at *
   generalize e.msg=m at *
   generalize e.time=tm at *
   rw[h2,h3] at hge
   cases hB:(decide (i=0) || decide (z<i)) with
   | false =>
    rw[hB,if_neg (by decide),List.append_nil] at hsk
    refine W3 hgp hge hfo ?_
    intros
    refine W3 hgp hge hfo ?_
    refine Sd ?_
    refine(hre).val.use ?_;simp only[go_sem,hfo]
    intros
    refine W1 hfo ?_
    refine Sq ?_
    refine AWp.read mixed [0,1,2,3,4,5,6,7,8,9,10,11,12] (by kernel_rfl) ?_;simp only[go_sem,hga,hcm,hfo]
    refine Sd ?_
    refine W2 hB hfo ?_
    exact⟨_,.refl _,_,rfl,by rw[hsk];exact hA⟩
   | true =>
    rw[hB,if_pos rfl] at hsk
    rcases hA.inv with ⟨e1,rfl,rfl⟩|⟨bq,cq,rfl,rfl⟩
    ·refine W2 hgp hge ?_
     intros
     refine W2 hgp hge ?_
     refine Sd ?_
     refine Vu hre ?_
     intros
     refine Wk ?_
     refine Sq ?_
     refine AWp.read mixed [0,1,2,3,4,5,6,7,8,9,10,11,12] (by kernel_rfl) ?_;simp only[go_sem,hga,hcm]
     refine Sd ?_
     refine W1 hB ?_
     intro b' cap' g8
     intros
     refine Wk ?_
     exact⟨_,.refl _,_,rfl,by rw[hsk,e1];exact .row _ _ _⟩
    ·refine W2 hgp hge ?_
     intros
     refine W2 hgp hge ?_
     refine Sd ?_
     refine Vu hre ?_
     intros
     refine Wk ?_
     refine Sq ?_
     refine AWp.read mixed [0,1,2,3,4,5,6,7,8,9,10,11,12] (by kernel_rfl) ?_;simp only[go_sem,hga,hcm]
     refine Sd ?_
     refine W1 hB ?_
     refine Sd ?_
     intro b' cap' g8
     intros
     refine Wk ?_
     exact⟨_,.refl _,_,rfl,by rw[hsk];exact AppSt.snoc _ _ _ rfl⟩
  ·have hun:undB ps c q e=false:=by
    rw[hbe,hst]
    by_cases h2:e.kind=2
    ·rw[decide_eq_false (show ¬e.peer=q from fun h=>hkp ⟨h2,h⟩),Bool.and_false,Bool.false_and]
    ·rw[decide_eq_false h2,Bool.false_and,Bool.false_and]
   have hcd:(!decide (e.kind=2) || !decide (e.peer=q))=true:=by
    by_cases h2:e.kind=2
    ·rw[decide_eq_false (show ¬e.peer=q from fun h=>hkp ⟨h2,h⟩),Bool.not_false,Bool.or_true]
    ·rw[decide_eq_false h2];rfl
   rw[hun,if_neg (by decide),List.append_nil] at hsk
   have hkq:e.kind=2->¬e.peer=q:=fun h h'=>hkp ⟨h,h'⟩
   refine W3 hgp hge hfo ?_
   intros
   refine W4 hgp hge hfo hcd ?_
   exact⟨_,.refl _,_,rfl,by rw[hsk];exact hA⟩
 ·have:k=n.toNat:=by omega
  subst this
  generalize undM ps c p q n.toNat=ys at *
  rcases hA.inv with ⟨e3,rfl,rfl⟩|⟨bq,cap,rfl,rfl⟩
  ·refine Wk ?_
   refine ret_view [] ?_;simp only[go_sem]
   rw[e3]
   exact .nil 1
  ·refine Wk ?_
   refine ret_view [true] ?_;simp only[go_sem]
   exact Vw.ofLs (if_pos rfl) rfl
theorem cAt_stp {c:List Int}{p q:Nat}(hq:q<c.length):cAt (stpC c p) q=if p=q then cAt c q+1 else cAt c q:=by
 unfold stpC
 rw[setc_cAt hq]
 split
 ·rename_i e;rw[e]
 ·rfl
theorem stp_iff {ps:List Pr}(hv:validF ps=true){c:List Int}(hc:isF ps c=true){p:Nat}(hp:p<ps.length){i:Nat}(hi:i<ps[p].evs.length)(hci:cAt c p=i) :
  isF ps (stpC c p)=true↔(needE ps ps[p].evs[i]).2<=cAt c (needE ps ps[p].evs[i]).1:=by
 obtain⟨h1,h2,h3⟩:=isF_iff.1 hc
 have hm:=(valid_parts hv).2.2
 have hr:=(inRange_iff h1).1 h2
 have hlen:(stpC c p).length=ps.length:=by unfold stpC;rw[List.length_set,h1]
 have hmono:∀q,q<ps.length->cAt c q<=cAt (stpC c p) q:=fun q hq=>by rw[cAt_stp (by omega)];split <;> omega
 unfold needE
 constructor
 ·intro h
  obtain⟨_,_,g3⟩:=isF_iff.1 h
  by_cases hk:ps[p].evs[i].kind=3
  ·rw[if_pos hk]
   have:=closed_iff.1 g3 p hp i hi hk (by rw[cAt_stp (by omega),if_pos rfl,hci];omega)
   obtain⟨s,hs,j,hj,e,hk2,_⟩:=sndr_some (recv_sndr hm hp hi hk)
   rw[e] at this ⊢
   dsimp only at this ⊢
   rw[cAt_stp (by omega)] at this
   split at this
   ·rename_i es;subst es
    by_cases hji:j=i
    ·subst hji;omega
    ·omega
   ·exact this
  ·rw[if_neg hk]
   have:=(hr 0 (by omega)).1
   simpa using this
 ·intro h
  refine isF_iff.2 ⟨hlen,(inRange_iff hlen).2 fun q hq=>?_,closed_iff.2 fun q hq i' hi' hk hle=>?_⟩
  ·have:=hr q hq
   rw[cAt_stp (by omega)]
   split
   ·rename_i e;subst e;omega
   ·exact this
  ·obtain⟨s,hs,j,hj,e,hk2,_⟩:=sndr_some (recv_sndr hm hq hi' hk)
   have hms:=hmono s hs
   by_cases hnew:q=p/\i'=i
   ·obtain⟨rfl,rfl⟩:=hnew
    rw[if_pos hk,e] at h
    rw[e];dsimp only at h ⊢;omega
   ·have:=closed_iff.1 h3 q hq i' hi' hk (by
     rw[cAt_stp (by omega)] at hle
     split at hle
     ·rename_i e2;subst e2
      have:i' ≠ i:=fun e=>hnew ⟨rfl,e⟩
      omega
     ·exact hle)
    rw[e] at this ⊢;dsimp only at this ⊢;omega
def rdyF (ps:List Pr)(c:List Int)(p:Nat):Bool:=decide (cAt c p<nev ps p/\isF ps (stpC c p)=true)
theorem need_in {ps:List Pr}(hv:validF ps=true){p:Nat}(hp:p<ps.length){i:Nat}(hi:i<ps[p].evs.length):0<=(needE ps ps[p].evs[i]).1/\(needE ps ps[p].evs[i]).1<ps.length:=by
 have hm:=(valid_parts hv).2.2
 unfold needE
 split
 ·rename_i hk
  obtain⟨s,hs,j,hj,e,hk2,_⟩:=sndr_some (recv_sndr hm hp hi hk)
  rw[e];dsimp only;omega
 ·dsimp only;omega
theorem maker_ready (ps:List Pr)(hs:Sm ps)(hv:validF ps=true)(c:List Int)(hc:isF ps c=true)(p:Nat)(hp:p<ps.length):PC prog 210 [aMk ps,aInts c,ai (p:Nat)] (ab (rdyF ps c p)):=by
 obtain⟨h1,h2,h3⟩:=isF_iff.1 hc
 have hr:=(inRange_iff h1).1 h2 p hp
 obtain⟨i,hci⟩:∃i:Nat,cAt c p=i:=⟨(cAt c p).toNat,by omega⟩
 have hpc:p<c.length:=by omega
 have hcp:c[p]=(i:Int):=by rw[<- cAt_nat hpc];exact hci
 have hel:=hs.evs _ (List.getElem_mem hp)
 have g1:(c.map ai).getD p .any=ai i:=by rw[getD_map hpc,hcp]
 have g2:(ps.map fun x=>ai (x.evs.length:Nat)).getD p .any=ai (ps[p].evs.length:Nat):=getD_map (f:=fun x:Pr=>ai (x.evs.length:Nat)) hp
 have g3:(aNeeds ps ps).getD p .any=aEids (ps[p].evs.map (needE ps)):=getD_map (f:=fun x:Pr=>aEids (x.evs.map (needE ps))) hp
 have hnl:(aNeeds ps ps).length=ps.length:=List.length_map _
 have hrd:rdyF ps c p=decide (i<ps[p].evs.length/\isF ps (stpC c p)=true):=by
  unfold rdyF;rw[hci,nev_get hp];congr 2;exact propext ⟨fun h=>by omega,fun h=>by omega⟩
 rw[hrd]
 unfold aMk
 refine PE 37 [.tmp 6] [3,7] func210 ?_;simp only[go_sem]
 refine W3 g1 g2 hnl ?_
 refine AWp.seq (AWp.seq ?_)
 refine Sq ?_
 refine AWp.read mixed [0,1,2,3,4,5,6,7,8,9] (by kernel_rfl) ?_;simp only[go_sem,g1,g2]
 refine Sd ?_
 refine Wk ?_
 constructor<;>intro h
 ·have:(decide (i<ps[p].evs.length) && isF ps (stpC c p))=false:=by rw[decide_eq_false (by omega)];rfl
  rw[this]
  refine Wk ?_
  exact Rz
 ·have hi:i<ps[p].evs.length:=by
   have h5:=hr.2
   rw[hci] at h5
   omega
  have hst:=stp_iff hv hc hp hi hci
  have hin:=need_in hv hp hi
  have g4:((ps[p].evs.map (needE ps)).map aEid).getD i .any=aEid (needE ps ps[p].evs[i]):=by rw[List.map_map];exact getD_map (f:=fun e=>aEid (needE ps e)) hi
  have g5:((ps[p].evs.map (needE ps)).map aEid).length=ps[p].evs.length:=by rw[List.length_map,List.length_map]
  have e1:decide (i<ps[p].evs.length)=true:=decide_eq_true hi
  have e2:isF ps (stpC c p)=decide ((needE ps ps[p].evs[i]).2<=cAt c (needE ps ps[p].evs[i]).1):=by
   by_cases hb:isF ps (stpC c p)=true
   ·rw[hb];exact(decide_eq_true (hst.1 hb)).symm
   ·rw[Bool.not_eq_true] at hb
    rw[hb];exact(decide_eq_false fun h=>by rw[hst.2 h] at hb;cases hb).symm
  rw[e1,e2,Bool.true_and]
  generalize needE ps ps[p].evs[i]=ne at *
  obtain⟨n1,n2⟩:=ne
  have g6:=getD_cAt (c:=c) hin.1 (by omega)
  dsimp only at hin
  refine Wk ?_
  refine AWp.seq ?_
  refine Sq ?_
  refine AWp.mix mixed [0,1,2,3,4,5,6,7,8,9,10] (.step 11 (.step 12 .done .done) .done) (by kernel_rfl) ?_;simp only[go_sem,g1,g3,g4,g5,hnl]
  refine Sd ?_
  intro b7
  refine AWp.seq ?_
  refine Sq ?_
  refine AWp.read mixed [0,1,2,3,4,5,6,7,8] (by kernel_rfl) ?_;simp only[go_sem,g6]
  refine Sd ?_
  refine Wk ?_
  exact Rz
def chl (ps:List Pr)(lv:List (List Int))(i:Nat):List (List Int):=(lv.take i).flatMap (nextL ps)
theorem chl_succ {ps:List Pr}{lv:List (List Int)}{i:Nat}(hi:i<lv.length):chl ps lv (i+1)=chl ps lv i ++ nextL ps lv[i]:=by
 unfold chl;rw[List.take_succ_eq_append_getElem hi,List.flatMap_append];simp
theorem chl_len {ps:List Pr}{lv:List (List Int)}(h:∀c ∈ lv,c.length<=8):∀i,i<=lv.length->(chl ps lv i).length<=8 * i
 | 0,_=>by simp [chl]
 | i+1,hi=>by
  have:=chl_len (ps:=ps) h i (by omega)
  have h2:=nextT_len ps lv[i] lv[i].length
  have h3:=h lv[i] (List.getElem_mem _)
  rw[chl_succ (by omega),List.length_append]
  unfold nextL
  omega
theorem mem_chl {ps:List Pr}{lv:List (List Int)}{x:List Int} : x ∈ chl ps lv lv.length↔∃c ∈ lv,x ∈ nextL ps c:=by unfold chl;rw[List.take_length,List.mem_flatMap]
theorem Vw.front {L:AHeap}{b k n c:Nat}{t:TypeId}{xs ws:List AV}{cap:Nat}(h:lk L b=some (.row t k (xs ++ ws) cap))(hn:n=xs.length):Vw L (.ls b k 0 n c) (.sl k xs):=by
 have e:((xs ++ ws).drop 0).take n=xs:=by rw[List.drop_zero,hn,List.take_left]
 exact .ls h (by rw[List.length_append];omega) (by rw[e]) (by rw[e];exact(Vws.refl xs).2)
theorem maker_next (ps:List Pr)(hs:Sm ps)(hv:validF ps=true)(k:Nat)(hk:(levF ps k).length<=5000):PC prog 166 [aMk ps,aRows (levF ps k)] (aRows (levF ps (k+1))):=by
 obtain⟨hl1,hl8⟩:=valid_len hv
 have hlev:∀c ∈ levF ps k,isF ps c=true:=fun c h=>((mem_levF hv k c).1 h).1
 have hnl:=next_lev hv k (l:=chl ps (levF ps k) (levF ps k).length) fun x=>mem_chl
 have hcl:=chl_len (ps:=ps) (lv:=levF ps k) fun c hc=>by rw[(isF_iff.1 (hlev c hc)).1];exact hl8
 have hall:∀x ∈ chl ps (levF ps k) (levF ps k).length,x.length<=1000000:=fun x hx=>by
  obtain⟨c,hc,hx⟩:=mem_chl.1 hx
  obtain⟨p,_,_,h4,rfl⟩:=mem_nextL.1 hx
  rw[(isF_iff.1 h4).1];omega
 rw[<- hnl]
 clear hnl
 generalize levF ps k=lv at *
 unfold aMk
 refine PE 43 [.tmp 4] [2,35] func166 ?_;simp only[go_sem]
 refine Wk ?_
 refine AWp.range' lv.length [5] [2,10,11] (fun i vs L=>∃v,vs=[v]/\AppSt 95 1 ((chl ps lv i).map aInts) v L) (by omega) rfl rfl rfl ⟨anil,rfl,by exact .nil⟩ ?_ ?_
 ·rintro i vs L hi - ⟨v,rfl,hA⟩
  have hgi:=getD_map (f:=aInts) hi
  have hci:=hlev _ (List.getElem_mem hi)
  have hcli:=hcl i (by omega)
  have hlc:=(isF_iff.1 hci).1
  rw[chl_succ hi]
  have hnx:nextL ps lv[i]=nextT ps lv[i] lv[i].length:=rfl
  rw[hnx]
  generalize lv[i]=c at *
  simp only[go_sem]
  refine W1 hgi ?_
  refine AWp.range' c.length [5] [2,7,10,11,12,17] (fun p vs L=>∃v,vs=[v]/\AppSt 95 1 ((chl ps lv i ++ nextT ps c p).map aInts) v L) (by omega) rfl rfl rfl ⟨v,rfl,by rw[show nextT ps c 0=[] from rfl,List.append_nil];exact hA⟩ ?_ ?_
  ·clear hA
   rintro p vs L hp - ⟨v,rfl,hA⟩
   have hrd:=maker_ready ps hs hv c hci p (by omega)
   have hrl:=nextT_len ps c p
   simp only[go_sem]
   unfold aMk at hrd
   have hn1:nextT ps c (p+1)=nextT ps c p ++ if rdyF ps c p=true then [stpC c p] else []:=by
    rw[nextT_succ];unfold nx1 rdyF;simp only[decide_eq_true_eq]
   rw[hn1]
   have hrg:=(inRange_iff hlc).1 (isF_iff.1 hci).2.1 p (by omega)
   have hel:=hs.evs _ (List.getElem_mem (show p<ps.length by omega))
   have hcp:cAt c p=c[p]:=cAt_nat hp
   have hgp:=getD_map (f:=ai) hp
   have hst:((c.map ai).set p (ai (c[p]+1)))=(stpC c p).map ai:=by unfold stpC;rw[List.map_set,hcp]
   have hsl:(stpC c p).length=c.length:=by unfold stpC;rw[List.length_set]
   generalize nextT ps c p=nt at *
   refine Wk ?_
   refine Sd ?_
   refine Vu hrd ?_
   generalize rdyF ps c p=rb at *
   refine Wk ?_
   constructor<;>intro hb
   ·rw[if_pos hb]
    refine(MVal.frame (Lm:=[]) (Lr:=L) (ints_cloneO c (by omega)).val).mono ?_
    rintro r L' ⟨L1,rfl,hC⟩
    rcases hC.inv with ⟨e1,_,_⟩|⟨bc,capc,rfl,rfl⟩
    ·have:c.length=0:=by simpa using congrArg List.length e1
     omega
    simp only[go_sem,List.length_map]
    refine Sd ?_
    refine AWp.of ?_;simp only[go_sem,hgp]
    refine Sd ?_
    have ez:(chl ps lv i ++ (nt ++ [stpC c p])).map aInts=(chl ps lv i ++ nt).map aInts ++ [aInts (stpC c p)]:=by
     rw[<- List.append_assoc,List.map_append];rfl
    have hyl:((chl ps lv i ++ nt).map aInts).length<=8 * 5000+8:=by rw[List.length_map,List.length_append];omega
    rw[ez]
    refine AWp.viewP (Lf:=[(bc,_)]) (Lk:=L) (L':=L) (List.Perm.refl _) (LVw.refl _) [(9,aInts (stpC c p))] (fun q hq=>?_) ?_
    ·obtain rfl:=List.mem_singleton.1 hq
     simp only[go_sem]
     rw[<- hst]
     exact Vw.ofLs (t:=3) (cap:=capc) (if_pos rfl) (by simp)
    generalize (chl ps lv i ++ nt).map aInts=ys at *
    generalize stpC c p=d at *
    rcases hA.inv with ⟨e1,rfl,rfl⟩|⟨bq,capq,rfl,rfl⟩
    ·simp only[go_sem]
     refine Wk ?_
     intro b' cap' hc'
     exact⟨_,.refl _,_,rfl,by rw[e1];exact .row b' [_] cap'⟩
    ·simp only[go_sem]
     refine Wk ?_
     intro b' cap' hc'
     exact⟨_,.refl _,_,rfl,AppSt.snoc b' cap' _ rfl⟩
   ·rw[if_neg (by rw[hb];exact Bool.false_ne_true),List.append_nil]
    refine Wk ?_
    exact⟨L,List.Sublist.refl _,v,rfl,hA⟩
  ·rintro vs L - ⟨v,rfl,hA⟩
   simp only[go_sem]
   refine Wk ?_
   exact⟨L,List.Sublist.refl _,v,rfl,hA⟩
 ·rintro vs L - ⟨v,rfl,hA⟩
  have hchl:=hcl lv.length (Nat.le_refl _)
  generalize chl ps lv lv.length=ch at *
  have hsl:(sortL ch).length=ch.length:=(sortBy_perm cmpL ch).length_eq
  have hsm:∀x ∈ sortL ch,x.length<=1000000:=fun x hx=>hall x ((sortBy_perm cmpL ch).mem_iff.1 hx)
  rcases hA.inv with ⟨e1,rfl,rfl⟩|⟨b,cap,rfl,rfl⟩
  ·obtain rfl:ch=[]:=by simpa using e1
   simp only[go_sem]
   refine Wk ?_
   refine Sd ?_
   refine(sort_nil _).val.use ?_;simp only[go_sem]
   refine Wk ?_
   refine Sd ?_
   refine(compact_nil _).val.use ?_;simp only[go_sem]
   refine Wk ?_
   refine ret_view [] ?_;simp only[go_sem]
   rw[List.eq_nil_of_length_eq_zero (l:=sortL []) hsl]
   exact .nil 1
  ·have hso:=sort_rows b cap ch hall (by omega) 95
   have hco:=rows_compact b cap (sortL ch) hsm (by omega)
   rw[hsl] at hco
   generalize sortL ch=sc at *
   simp only[go_sem,List.length_map]
   refine Wk ?_
   refine hso.val.mono ?_
   rintro r L ⟨rfl,rfl⟩
   simp only[go_sem]
   refine Wk ?_
   refine hco.val.mono ?_
   rintro r L ⟨ws,cap',rfl,rfl⟩
   generalize compL sc=cc at *
   simp only[go_sem]
   refine Wk ?_
   refine ret_view [true] ?_;simp only[go_sem]
   exact Vw.front (if_pos rfl) (by rw[List.length_map])
end Go.AL
end
