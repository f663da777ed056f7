/- Texts of this claim's proof: WCh, WV31, WV36, WV37, WCh2, WY18, WXm, WXs, WV18, WXr, WV20, WV21, WV23, WV24, WV25, WV27, WSg, WY1, WY2, WY3, WY6, WY8, WY5, WY11, WY12, WY13, WY14, WY15, WY7, WY9, WY16, WY39, WY31, WY20, WY35, WY36, WY32, WY33, WY10, WY17, WY19, WY34, WY4, WY22, WY21, WU15, WY23, WY24, WY25, WY26, WY27, WY28, WY37, WY38, WY40, WY29, WZ11, WZ14, WZ15, WI14. No condition. -/
import Derived.Test.YteiafajligfbnaaGreatDoorM11
import Derived.Test.YteiafajligfbnaaGreatDoorM8
import Derived.Test.YteiafajligfbnaaGreatDoorM10
import Derived.Test.YteiafajligfbnaaGreatDoorM12
import Derived.Test.YteiafajligfbnaaGreatDoorM13
import Derived.Test.YteiafajligfbnaaGreatDoorM14
import Derived.Test.YteiafajligfbnaaGreatDoorM9
import Derived.Test.YteiafajligfbnaaGreatDoorM7
import Derived.Test.YteiafajligfbnaaGreatDoorM4
import Derived.Test.YteiafajligfbnaaGreatDoorM17
section
namespace Go.AL
open Go Go.RowKit
set_option maxRecDepth 4000
noncomputable def lackB (ps:List Pr) (c:List Int) (m:Int):Bool:=decide ((findIn (evIds ps) 3 m).2=0) || decide (c.getD (findIn (evIds ps) 3 m).1.toNat 0<(findIn (evIds ps) 3 m).2)
noncomputable def undB (ps:List Pr) (c:List Int) (q:Int) (e:Ev):Bool:=sentTo q e && lackB ps c e.msg
noncomputable def undM (ps:List Pr) (c:List Int) (p:Nat) (q:Int) (k:Nat):List AV:=((((ps[p]?).map (·.evs)).getD []).take k |>.filter (undB ps c q)).map fun e=>ai e.msg
theorem undM_succ {ps:List Pr} {c:List Int} {p:Nat} {q:Int} {k:Nat} (hp:p<ps.length) (hk:k<ps[p].evs.length):undM ps c p q (k+1)=undM ps c p q k ++ if undB ps c q ps[p].evs[k]=true then [ai ps[p].evs[k].msg] else []:=by
 unfold undM
 rw[List.getElem?_eq_getElem hp]
 show ((ps[p].evs.take (k+1)).filter (undB ps c q)).map _=((ps[p].evs.take k).filter (undB ps c q)).map _ ++ _
 rw[List.take_succ_eq_append_getElem hk,List.filter_append,List.map_append]
 congr 1
 by_cases h:undB ps c q ps[p].evs[k]=true
 ·rw[if_pos h,List.filter_cons_of_pos h];rfl
 ·rw[if_neg h,List.filter_cons_of_neg h];rfl
theorem undM_zero (ps:List Pr) (c:List Int) (p:Nat) (q:Int):undM ps c p q 0=[]:=by unfold undM;simp
theorem undM_len {ps:List Pr} (c:List Int) {p:Nat} (q:Int) (k:Nat) (hp:p<ps.length):(undM ps c p q k).length≤ps[p].evs.countP (sentTo q):=by
 unfold undM
 rw[List.getElem?_eq_getElem hp,List.length_map]
 show ((ps[p].evs.take k).filter (undB ps c q)).length≤_
 rw[List.countP_eq_length_filter]
 have h1:((ps[p].evs.take k).filter (undB ps c q)).length≤((ps[p].evs.take k).filter (sentTo q)).length:=by
  rw[← List.countP_eq_length_filter,← List.countP_eq_length_filter]
  refine List.countP_mono_left fun e _ h => ?_
  unfold undB at h
  rw[Bool.and_eq_true] at h
  exact h.1
 exact Nat.le_trans h1 (List.Sublist.length_le (List.Sublist.filter _ (List.take_sublist _ _)))
theorem lack_no {ps:List Pr} {c:List Int} {m:Int} (h:findIn (evIds ps) 3 m=(0,0)):lackB ps c m=true:=by unfold lackB;rw[h];rfl
theorem lack_yes {ps:List Pr} {c:List Int} {m a i:Int} (h:findIn (evIds ps) 3 m=(a,i)) (hi:1≤i):lackB ps c m=decide (c.getD a.toNat 0<i):=by
 unfold lackB
 rw[h]
 show (decide (i=0) || _)=_
 rw[decide_eq_false (by omega),Bool.false_or]
theorem trace_Receiver (ps:List Pr) (hs:Sm ps) (m:Int):PC Proofs.Tryz.prog 154 [aTr ps,ai m] (.tup [aEid (findV ps 3 m),ab (decide (0<(findV ps 3 m).2))]):=by
 refine PC.enter 11 [.cell 4 89,.tmp 5] [2] Proofs.Tryz.func154 rfl rfl rfl rfl rfl (by simp) (AWp.of ?_);simp only[go_sem]
 intro b4
 refine Sd ?_
 refine AWp.of ?_;simp only[go_sem]
 refine Sd ?_
 refine(trace_find ps hs 3 m).val.use ?_;simp only[go_sem]
 refine Wk ?_
 refine ret_eq ?_;simp only[go_sem]
theorem cut_UnderWay (ps:List Pr) (hs:Sm ps) (c:List Int) (hg:givenF ps [c] []=0) (p:Nat) (hp:p<ps.length) (q:Int) (hq:0≤q∧q<ps.length) :
  PC Proofs.Tryz.prog 105 [aTr ps,aInts c,ai p,ai q] (.tup [.sl 1 (undM ps c p q (c.getD p 0).toNat),ai 0]):=by
 obtain⟨hv,hcl,hir,hclo⟩:=givenF_zero hg
 have hps:=hs.procs
 have h1:=cut_given ps hs [c] (by simp) [p,q] (by simp)
 have h0:givenF ps [c] [(p:Int),q]=0:=by
  unfold givenF at hg ⊢
  have hpr:([(p:Int),q].all fun p=>decide (0≤p) && decide (p<ps.length))=true:=by
   simp;omega
  rw[hpr]
  simpa using hg
 rw[h0] at h1
 have hrec:=fun m=>trace_Receiver ps hs m
 have hfV:∀m,findV ps 3 m=findIn (evIds ps) 3 m:=fun m=>by unfold findV;rw[if_pos hv]
 obtain⟨b1,b2⟩:=inRangeF_get hir hcl hp
 have hcp:c.getD p 0=c[p]'(by omega):=by rw[List.getD_eq_getElem?_getD,List.getElem?_eq_getElem (by omega)];rfl
 have hgc:(c.map ai).getD p .any=ai (c.getD p 0):=by rw[getD_map (by omega),hcp]
 rw[← hcp] at b1 b2
 have hgp:=getD_map (f:=aPr) hp
 have hel:=hs.evs _ (List.getElem_mem hp)
 have hcm:(c.map ai).length=ps.length:=by rw[List.length_map,hcl]
 have hcg:∀a:Int,0≤a→a<ps.length→(c.map ai).getD a.toNat .any=ai (c.getD a.toNat 0):=fun a h1 h2=>by
  rw[getD_map (by omega),List.getD_eq_getElem?_getD,List.getElem?_eq_getElem (by omega)];rfl
 have hI:aInts c = .sl 1 (c.map ai):=rfl
 have hRw:aRows [c] = .sl 1 [.sl 1 (c.map ai)]:=rfl
 have hPq:aInts [(p:Int),q] = .sl 1 [ai p,ai q]:=rfl
 have hfi:=findIn_or ps 3
 rw[hRw,hPq] at h1
 rw[hI]
 have hlim:=undM_len (ps:=ps) c (p:=p) q
 have hcnt:=List.countP_le_length (p:=sentTo q) (l:=ps[p].evs)
 have hly:=fun m a i=>lack_yes (ps:=ps) (c:=c) (m:=m) (a:=a) (i:=i)
 have hln:=fun m=>lack_no (ps:=ps) (c:=c) (m:=m)
 have hsu:=fun k (hk:k<ps[p].evs.length)=>undM_succ (ps:=ps) (c:=c) (q:=q) hp hk
 have hz:=undM_zero ps c p q
 have hub:∀e,undB ps c q e=(sentTo q e && lackB ps c e.msg):=fun _=>rfl
 clear hI hRw hPq
 clear hcp
 generalize c.getD p 0=n at *
 generalize c.map ai=cc at *
 refine PC.enter 77 [.tmp 8,.tmp 9] [4,13,14,18,21,73] Proofs.Tryz.func105 rfl rfl rfl rfl rfl (by simp) (AWp.of ?_);simp only[go_sem]
 refine Wk ?_
 refine Sd ?_
 refine(h1).val.use ?_;simp only[go_sem]
 refine Wk ?_
 refine AWp.seq ?_
 have htk:(ps[p].evs.take n.toNat).length=n.toNat:=by rw[List.length_take];omega
 repeat(first|(with_reducible refine AWp.seq ?_)|(with_reducible refine AWp.block ?_))
 refine AWp.read mixed [0,1,2,3,4,5,6,7,8,9,10,11,12] (by kernel_rfl) ?_;simp only[go_sem,hgp,hgc,hcm,htk]
 refine Sd ?_
 refine W1 htk ?_
 refine AWp.range' n.toNat [11] [1,3,4,36,37] (fun k vs L=>∃v,vs=[v]∧AppSt 3 1 (undM ps c p q k) v L) (by omega) rfl rfl rfl ⟨anil,rfl,by rw[hz];exact .nil⟩ ?_ ?_
 ·rintro k vs L hk - ⟨v,rfl,hA⟩
  have hke:k<ps[p].evs.length:=by omega
  have hge:((ps[p].evs.take n.toNat).map aEv).getD k .any=aEv ps[p].evs[k]:=by
   rw[getD_map (by rw[htk];exact hk),List.getElem_take]
  have hsk:=hsu k hke
  have hbe:=hub ps[p].evs[k]
  have hlk:=hlim k hp
  rw[hsk]
  clear hsk
  generalize ps[p].evs[k]=e at *
  have hre:=hrec e.msg
  rw[hfV] at hre
  have hfm:=hfi e.msg
  have hlye:=hly e.msg
  have hlne:=hln e.msg
  generalize findIn (evIds ps) 3 e.msg=F at *
  have hev:aEv e = .agg [ai e.kind,ai e.peer,ai e.msg,ai e.time,aAsgs e.asg]:=rfl
  have hst:sentTo q e=(decide (e.kind=2) && decide (e.peer=q)):=rfl
  rw[hev] at hge
  generalize undM ps c p q k=ys at *
  by_cases hkp:e.kind=2∧e.peer=q
  ·obtain⟨h2,h3⟩:=hkp
   rw[hst,decide_eq_true h2,decide_eq_true h3,Bool.and_self,Bool.true_and] at hbe
   have hF:∃a i:Int,F=(a,i)∧0≤a∧a<ps.length∧0≤i∧lackB ps c e.msg=(!decide (0<i) || decide (c.getD a.toNat 0<i)):=by
    rcases hfm with hF|⟨a,ha,i,hi,hF⟩
    ·exact⟨0,0,hF,by omega,by omega,by omega,by rw[hlne hF];rfl⟩
    ·refine⟨a,(i:Int)+1,hF,by omega,by omega,by omega,?_⟩
     rw[hlye _ _ hF (by omega),decide_eq_true (show (0:Int)<(i:Int)+1 by omega)];rfl
   obtain⟨a,i,rfl,ha0,ha1,hi0,hlk2⟩:=hF
   have hga:=hcg a ha0 ha1
   rw[hbe,hlk2]
   have hae:aEid (a,i) = .agg [ai a,ai i]:=rfl
   have hF2:((a,i):Eid).2=i:=rfl
   rw[hae,hF2] at hre
   clear hbe hlk2 hlye hlne hfm hev hst
   generalize c.getD a.toNat 0=z at *
   obtain⟨al,hal⟩:∃al,aAsgs e.asg = .sl 2 al:=⟨_,rfl⟩
   rw[hal] at hge
   generalize e.msg=m at *
   generalize e.time=tm at *
   rw[h2,h3] at hge
   cases hB:(!decide (0<i) || decide (z<i)) with
   | false =>
    rw[if_neg (by decide),List.append_nil]
    have hfo:=hA.fo
    simp only[go_sem]
    refine W2 hge hfo ?_
    intros
    refine W2 hge hfo ?_
    refine Sd ?_
    refine(hre).val.use ?_;simp only[go_sem,hfo]
    refine W1 hfo ?_
    intros
    repeat(first|(with_reducible refine AWp.seq ?_)|(with_reducible refine AWp.block ?_))
    refine AWp.read mixed [0,1,2,3,4,5,6,7,8,9,10,11] (by kernel_rfl) ?_;simp only[go_sem,hga,hcm,hfo]
    refine Sd ?_
    refine W2 hB hfo ?_
    exact⟨_,List.Sublist.refl _,_,rfl,hA⟩
   | true =>
    rw[if_pos rfl]
    rcases hA.inv with ⟨e1,rfl,rfl⟩|⟨bq,cq,rfl,rfl⟩
    ·simp only[go_sem]
     refine W1 hge ?_
     intros
     refine W1 hge ?_
     refine Sd ?_
     refine(hre).val.use ?_;simp only[go_sem]
     refine Wk ?_
     intros
     repeat(first|(with_reducible refine AWp.seq ?_)|(with_reducible refine AWp.block ?_))
     refine AWp.read mixed [0,1,2,3,4,5,6,7,8,9,10,11] (by kernel_rfl) ?_;simp only[go_sem,hga,hcm]
     refine Sd ?_
     refine W1 hB ?_
     intro b' cap' g8
     intros
     refine Wk ?_
     exact⟨_,List.Sublist.refl _,_,rfl,by rw[e1];exact .row _ _ _⟩
    ·simp only[go_sem]
     refine W1 hge ?_
     intros
     refine W1 hge ?_
     refine Sd ?_
     refine(hre).val.use ?_;simp only[go_sem]
     refine Wk ?_
     intros
     repeat(first|(with_reducible refine AWp.seq ?_)|(with_reducible refine AWp.block ?_))
     refine AWp.read mixed [0,1,2,3,4,5,6,7,8,9,10,11] (by kernel_rfl) ?_;simp only[go_sem,hga,hcm]
     refine Sd ?_
     refine W1 hB ?_
     refine Sd ?_
     intro b' cap' g8
     intros
     refine Wk ?_
     exact⟨_,List.Sublist.refl _,_,rfl,AppSt.snoc _ _ _ rfl⟩
  ·have hun:undB ps c q e=false:=by
    rw[hbe,hst]
    by_cases h2:e.kind=2
    ·rw[decide_eq_false (show ¬e.peer=q from fun h=>hkp ⟨h2,h⟩),Bool.and_false,Bool.false_and]
    ·rw[decide_eq_false h2,Bool.false_and,Bool.false_and]
   have hcd:(!decide (e.kind=2) || !decide (e.peer=q))=true:=by
    by_cases h2:e.kind=2
    ·rw[decide_eq_false (show ¬e.peer=q from fun h=>hkp ⟨h2,h⟩),Bool.not_false,Bool.or_true]
    ·rw[decide_eq_false h2];rfl
   rw[hun,if_neg (by decide),List.append_nil]
   have hfo:=hA.fo
   have hkq:e.kind=2→¬e.peer=q:=fun h h'=>hkp ⟨h,h'⟩
   simp only[go_sem]
   refine W2 hge hfo ?_
   intros
   refine W3 hge hfo hcd ?_
   exact⟨_,List.Sublist.refl _,_,rfl,hA⟩
 ·rintro vs L - ⟨v,rfl,hA⟩
  generalize undM ps c p q n.toNat=ys at *
  rcases hA.inv with ⟨e3,rfl,rfl⟩|⟨bq,cap,rfl,rfl⟩
  ·simp only[go_sem]
   refine Wk ?_
   refine ret_view [] ?_;simp only[go_sem]
   rw[e3]
   exact .mkTup (Vws.cons (.nil 1) (Vws.refl _))
  ·simp only[go_sem]
   refine Wk ?_
   refine ret_view [true] ?_;simp only[go_sem]
   exact .mkTup (Vws.cons (Vw.ofLs (if_pos rfl) rfl) (Vws.refl _))
noncomputable def undF (ps:List Pr) (c:List Int) (p q:Int):Int:=((undM ps c p.toNat q (c.getD p.toNat 0).toNat).length:Int)
theorem view_channel (ps:List Pr) (hs:Sm ps) (c:List Int) (hg:givenF ps [c] []=0) (V:List (List Int)) (k n:Int) (p:Nat) (q:Int) (s:ByteArray) (l:List Pd) (hp:p<ps.length) (hq:0≤q∧q<ps.length) :
  PC Proofs.Tryz.prog 63 [aView ps c V,aPd (.mk k n p q s l)] (ai (undF ps c p q)):=by
 have h1:=cut_UnderWay ps hs c hg p hp q hq
 have hu:undF ps c p q=((undM ps c p q (c.getD p 0).toNat).length:Int):=by unfold undF;rw[Int.toNat_natCast]
 rw[hu]
 have hT:aTr ps = .agg [aPrs ps]:=rfl
 have hI:aInts c = .sl 1 (c.map ai):=rfl
 rw[hT,hI] at h1
 generalize undM ps c p q (c.getD p 0).toNat=ms at *
 unfold aView
 simp only[aPd_mk]
 obtain⟨vv,hvv⟩:∃vv,aRows V = .sl 1 vv:=⟨_,rfl⟩
 rw[hI,hvv]
 obtain⟨tp,htp⟩:∃tp,aPrs ps = .sl 3 tp:=⟨_,rfl⟩
 rw[htp] at h1 ⊢
 refine PC.enter 21 [.tmp 4] [2,3] Proofs.Tryz.func63 rfl rfl rfl rfl rfl (by simp) (AWp.of ?_);simp only[go_sem]
 refine Wk ?_
 refine Sd ?_
 refine(h1).val.use ?_;simp only[go_sem]
 refine Wk ?_
 refine ret_eq ?_;simp only[go_sem]
theorem und_leaf2 (ps:List Pr) (hs:Sm ps) (c:List Int) (hg:givenF ps [c] []=0) (t:Pd) (hr:allB (resB ps) t=true) :
  AllP (leafOk ps c (valuesAt ps c) (cutO ps c (undF ps c))) t∧AllP (obsB ps (cutO ps c (undF ps c))) t:=by
 obtain⟨hv,hc,hir,_⟩:=givenF_zero hg
 have hvl:(valuesAt ps c).length=ps.length:=by unfold valuesAt;rw[List.length_map,List.length_zip];omega
 have hcg:∀i (hi:i<ps.length),c.getD i 0=c[i]'(by omega):=fun i hi=>by rw[List.getD_eq_getElem?_getD,List.getElem?_eq_getElem (by omega)];rfl
 have hvar:∀(i:Nat) (hi:i<ps.length) (s:ByteArray),(cutO ps c (undF ps c)).var i s=(stateAt ps[i] (c[i]'(by omega)).toNat).getD (varIx ps[i].vars s).toNat 0:=fun i hi s=>by
  unfold cutO;simp only[Int.toNat_natCast,List.getElem?_eq_getElem hi,hcg i hi]
 have hcnt:∀(i:Nat) (hi:i<ps.length),(cutO ps c (undF ps c)).cnt i=c[i]'(by omega):=fun i hi=>by
  unfold cutO;simp only[Int.toNat_natCast,hcg i hi]
 have hget:∀(i:Nat) (hi:i<ps.length),c[((i:Nat):Int).toNat]?=some (c[i]'(by omega)):=fun i hi=>by
  rw[Int.toNat_natCast,List.getElem?_eq_getElem (by omega)]
 refine⟨AllP_of_allB (fun x hx => ?_) t hr,AllP_of_allB (fun x hx => ?_) t hr⟩
 ·obtain⟨k,n,p,q,s,l⟩:=x
  obtain⟨r2,r3,r4⟩:=res_leaf hx
  refine⟨fun e => ?_,fun e => ?_,fun e => ?_⟩
  ·obtain⟨i,rfl,hp⟩:=isPB_nat (r2 e).1
   have hvg:=valuesAt_get (c:=c) hp (by omega)
   have h:=view_variable ps hs c (valuesAt ps c) k n i q s l hp (r2 e).2 (by omega) (by rw[hvg,stateAt_length])
   rw[hvg] at h
   rw[hvar i hp];exact h
  ·obtain⟨i,rfl,hp⟩:=isPB_nat (r3 e)
   exact⟨by omega,by rw[hcnt i hp];exact hget i hp⟩
  ·obtain⟨i,rfl,hp⟩:=isPB_nat (r4 e).1
   obtain⟨j,rfl,hq⟩:=isPB_nat (r4 e).2.1
   exact view_channel ps hs c hg (valuesAt ps c) k n i j s l hp ⟨by omega,by omega⟩
 ·obtain⟨k,n,p,q,s,l⟩:=x
  obtain⟨r2,r3,r4⟩:=res_leaf hx
  refine⟨fun e => ?_,fun e => ?_,fun e => ?_⟩
  ·obtain⟨i,rfl,hp⟩:=isPB_nat (r2 e).1
   obtain⟨b1,b2⟩:=inRangeF_get hir hc hp
   have hm:=valsF_mem ps[i] (varIx ps[i].vars s).toNat (k:=(c[i]'(by omega)).toNat) (by omega)
   rw[hvar i hp]
   unfold varLo varHi
   simp only[Int.toNat_natCast,List.getElem?_eq_getElem hp]
   exact⟨minL_le hm,le_maxL hm⟩
  ·obtain⟨i,rfl,hp⟩:=isPB_nat (r3 e)
   obtain⟨b1,b2⟩:=inRangeF_get hir hc hp
   rw[hcnt i hp,evN_get hp]
   exact⟨b1,b2⟩
  ·obtain⟨i,rfl,hp⟩:=isPB_nat (r4 e).1
   show 0≤undF ps c i q∧undF ps c i q≤msgN ps i q
   have h1:=undM_len c q (c.getD i 0).toNat hp
   rw[msgN_get hp]
   unfold undF
   rw[Int.toNat_natCast]
   omega
theorem Own.tup2 {a b:AV} (h1:Own a) (h2:Own b):Own (.tup [a,b]):=Own.tup fun y hy=>by
 simp only[List.mem_cons,List.not_mem_nil,or_false] at hy
 rcases hy with rfl|rfl
 ·exact h1
 ·exact h2
section
variable {b:Nat→Bool} {p K:Nat} {l:List Stp}
end
section
variable {ps:List Pr} {ts:List Pd} (hC:conF ps ts=0)
include hC
end
structure TgB (ps:List Pr) (s:Nat→Stp):Prop where
 el:∀p,p<ps.length→(s p).2.1≤(s p).2.2∧(s p).2.2≤nev ps p∧(s p).1=p
 bg:∀p q,p<ps.length→q<ps.length→p ≠ q→bgN ps (s p) (s q)=true
section
variable {ps:List Pr} (hv:validF ps=true) {s:Nat→Stp} (hT:TgB ps s)
include hv hT
end
abbrev Syn:=Eid × Eid
def dirE (ps:List Pr) (p i:Nat):List Eid:=(if 0<i then [((p:Int),(i:Int))] else []) ++ (if (evq ps p i).kind=3 then [sndr ps (evq ps p i).msg] else [])
def dirX (ps:List Pr) (l:List Syn) (p i:Nat):List Eid:=dirE ps p i ++ (l.filter fun s=>decide (s.2=((p:Int),(i:Int)+1))).map (·.1)
def nedX (S:Nat→List (List Int)) (y:Eid):List Int:=stOf S y.1.toNat y.2.toNat
def RdyX (ps:List Pr) (l:List Syn) (S:Nat→List (List Int)) (p:Nat):Prop :=
 p<ps.length∧(S p).length≤nev ps p∧∀y ∈ dirX ps l p ((S p).length - 1),y.2.toNat<(S y.1.toNat).length
def vecX (ps:List Pr) (l:List Syn) (S:Nat→List (List Int)) (p k:Nat):List Int:=((dirX ps l p (k - 1)).foldl (fun v y=>joinL v (nedX S y)) (List.replicate ps.length 0)).set p (k:Int)
inductive GenX (ps:List Pr) (l:List Syn):(Nat→List (List Int))→Prop
 | init:GenX ps l fun _=>[List.replicate ps.length 0]
 | step {S:Nat→List (List Int)} {p:Nat} : GenX ps l S→RdyX ps l S p→GenX ps l (upS S p (vecX ps l S p (S p).length))
section
variable {ps:List Pr} {l:List Syn} {S S':Nat→List (List Int)}
end
open Classical in
noncomputable def exF (ps:List Pr) (l:List Syn):Nat→List (List Int):=if h:∃S,GenX ps l S∧∀p,¬RdyX ps l S p then Classical.choose h else fun _=>[]
def SynOk (ps:List Pr) (l:List Syn):Prop:=∀s ∈ l,(0≤s.1.1∧s.1.1<ps.length∧1≤s.1.2∧s.1.2≤nev ps s.1.1.toNat)∧(0≤s.2.1∧s.2.1<ps.length∧1≤s.2.2∧s.2.2≤nev ps s.2.1.toNat)
end Go.AL
end
section
namespace Go.AL
open Go Go.RowKit
set_option maxRecDepth 4000
structure HoldX (ps:List Pr) (l:List Syn) (bad:Nat→Nat→Bool) (d:Nat→Nat):Prop where
 rng:∀p,p<ps.length→d p≤nev ps p
 bad:∀p,p<ps.length→bad p (d p)=true
 clo:∀a,a<ps.length→∀i,i<nev ps a→i+1≤d a→∀y ∈ dirX ps l a i,y.2≤d y.1.toNat
open Classical in
noncomputable def ctlB (ps:List Pr) (l:List Syn) (bad:Nat→Nat→Bool):Bool:=decide (¬ ∃d,HoldX ps l bad d)
open Classical in
theorem ctlB_true {ps:List Pr} {l:List Syn} {bad:Nat→Nat→Bool} : ctlB ps l bad=true↔¬ ∃d,HoldX ps l bad d:=by unfold ctlB;exact decide_eq_true_iff
def WhlX (ps:List Pr) (S:Nat→List (List Int)):Prop:=∀p,p<ps.length→(S p).length=nev ps p+1
section
variable {ps:List Pr} {l:List Syn} {bad:Nat→Nat→Bool} {S:Nat→List (List Int)} (hv:validF ps=true) (hl:SynOk ps l) (hG:GenX ps l S) (hW:WhlX ps S)
include hv hl hG hW
end
end Go.AL
end
section
namespace Go.AL
open Go Go.RowKit
set_option maxRecDepth 4000
section
variable {ps:List Pr}
end
section
variable {ps:List Pr} {l:List Syn} {S:Nat→List (List Int)} (hv:validF ps=true) (hl:SynOk ps l) (hG:GenX ps l S)
include hv hl hG
end
section
variable {ps:List Pr} (hv:validF ps=true)
include hv
variable (hs:Sm ps)
include hs
end
section
variable {ps:List Pr} (hv:validF ps=true)
include hv
variable (hs:Sm ps)
include hs
end
section
variable {tO tI:TypeId} {k n:Nat} {Y:Nat→List AV} {v:AV} {L:AHeap}
end
section
variable {ps:List Pr} {bad:List Int→Bool} {c:List Int}
def FwdX (ps:List Pr) (bad:List Int→Bool) (c:List Int):Prop:=∃R,chnF ps (zeroC ps) R=true∧(zeroC ps :: R).getLast?=some c∧∀d ∈ zeroC ps :: R,bad d=false
open Classical in
noncomputable def opnL (ps:List Pr) (bad:List Int→Bool) (cs:List (List Int)):List (List Int):=cs.filter fun c=>decide (FwdX ps bad c)
end
section
variable {ps:List Pr} {b:Nat→Nat→Bool}
end
mutual
def ftF:Pd→Int→Int→Bool × Int
 | .mk _ _ _ _ s l,n,d=>if 0≤n - 1∧d≤60∧(s.size:Int)≤100 then (!(ftL l (n - 1) (d+1)).1,(ftL l (n - 1) (d+1)).2) else (false,n - 1)
def ftL:List Pd→Int→Int→Bool × Int
 | [],n,_=>(false,n)
 | x :: r,n,d=>if (ftF x n d).1=true then ftL r (ftF x n d).2 d else (true,(ftF x n d).2)
end
section
variable {ps:List Pr} (hva:PC Proofs.Tryz.prog 84 [aTr ps] (ab false))
include hva
end
section
variable {tO tI:TypeId} {k n:Nat} {Y:Nat→List AV} {v:AV} {L:AHeap}
end
theorem ref28_Check_bad {ps:List Pr} (hva:PC Proofs.Tryz.prog 22 [aTr ps] (ab false)) (t:Pd):PC Proofs.Tryz.prog 20 [aTr ps,aPd t] (ai 1):=by
 obtain⟨k,n,p,q,s,l⟩:=t
 simp only[aPd_mk]
 refine PC.enter 24 [.tmp 4] [2,3] Proofs.Tryz.func20 rfl rfl rfl rfl rfl (by simp) (AWp.of ?_);simp only[go_sem]
 refine Wk ?_
 refine Sd ?_
 refine(hva).val.use ?_;simp only[go_sem]
 refine GCall.use .any (fun h=>absurd h (by simp)) ?_
 simp only[go_sem]
 refine Wk ?_
 refine ret_eq ?_;simp only[go_sem]
def nm40v (v:ByteArray × Int):Bool:=decide (40<(v.1.size:Int))
def fpB (x:Pr):Bool:=!((((decide (12<(x.vars.length:Int)) || decide (40<(x.name.size:Int))) || x.evs.any asg12)) || x.vars.any nm40v)
def fwB (ps:List Pr):Bool:=((List.range ps.length).all fun k => !decide (40<smW ps (k+1)) && fpB (ps.getD k ⟨ByteArray.empty,[],[]⟩)) && decide (ps.length≤10)
theorem fwB_sm {ps:List Pr} (h:fwB ps=true):smF ps 40=true:=by
 unfold fwB at h
 rw[Bool.and_eq_true,List.all_eq_true,decide_eq_true_eq] at h
 obtain⟨h1,h2⟩:=h
 unfold smF
 rw[decide_eq_true h2,Bool.true_and,Bool.and_eq_true,List.all_eq_true,decide_eq_true_eq]
 refine⟨fun x hx => ?_,?_⟩
 ·obtain⟨j,hj,rfl⟩:=List.getElem_of_mem hx
  have:=h1 j (List.mem_range.2 hj)
  rw[Bool.and_eq_true,List.getD_eq_getElem?_getD,List.getElem?_eq_getElem hj,Option.getD_some] at this
  have h3:=this.2
  unfold fpB at h3
  unfold smP
  rw[Bool.not_eq_true',Bool.or_eq_false_iff,Bool.or_eq_false_iff,Bool.or_eq_false_iff] at h3
  rw[Bool.not_eq_true',Bool.or_eq_false_iff]
  exact⟨h3.1.1.1,h3.1.2⟩
 ·by_cases h0:ps.length=0
  ·rw[h0];show (0:Int)≤40;decide
  ·have:=h1 (ps.length - 1) (List.mem_range.2 (by omega))
   rw[Bool.and_eq_true,Bool.not_eq_true',decide_eq_false_iff_not,Nat.sub_add_cancel (by omega)] at this
   omega
theorem law30_few1 (e:Ev):PC Proofs.Tryz.prog 16 [aEv e] (ab (asg12 e)):=by
 refine PC.enter 7 [.tmp 2] [1] Proofs.Tryz.func16 rfl rfl rfl rfl rfl (by simp) (AWp.of ?_);simp only[go_sem]
 refine Wk ?_
 refine ret_eq ?_;simp only[go_sem]
 rfl
theorem law30_few2 (v:ByteArray × Int):PC Proofs.Tryz.prog 18 [aVar v] (ab (nm40v v)):=by
 refine PC.enter 7 [.tmp 2] [1] Proofs.Tryz.func18 rfl rfl rfl rfl rfl (by simp) (AWp.of ?_);simp only[go_sem]
 refine Wk ?_
 refine ret_eq ?_;simp only[go_sem]
 rfl
theorem law30_few (ps:List Pr) (hpl:ps.length≤9223372036854775807) (hl:∀p ∈ ps,p.evs.length≤9223372036854775807):PC Proofs.Tryz.prog 5 [aTr ps] (ab (fwB ps)):=by
 have hsf:fwB ps=(((List.range ps.length).all fun k => !decide (40<smW ps (k+1)) && fpB (ps.getD k ⟨ByteArray.empty,[],[]⟩)) && decide (ps.length≤10)):=rfl
 have hno:∀k (hk:k<ps.length),(40<smW ps (k+1)∨fpB ps[k]=false)→fwB ps=false:=fun k hk h=>by
  rw[hsf,Bool.and_eq_false_iff]
  left
  refine List.all_eq_false.2 ⟨k,List.mem_range.2 hk,?_⟩
  rw[List.getD_eq_getElem?_getD,List.getElem?_eq_getElem hk,Option.getD_some]
  rcases h with h|h
  ·simp [h]
  ·simp [h]
 have hyes:(∀k (hk:k<ps.length),¬40<smW ps (k+1)∧fpB ps[k]=true)→fwB ps=decide (ps.length≤10):=fun h=>by
  rw[hsf,show ((List.range ps.length).all fun k => !decide (40<smW ps (k+1)) && fpB (ps.getD k ⟨ByteArray.empty,[],[]⟩))=true from ?_,Bool.true_and]
  rw[List.all_eq_true]
  intro k hk
  have hk:=List.mem_range.1 hk
  obtain⟨h1,h2⟩:=h k hk
  rw[List.getD_eq_getElem?_getD,List.getElem?_eq_getElem hk,Option.getD_some,h2,decide_eq_false h1];rfl
 clear hsf
 generalize fwB ps=Z at *
 refine PC.enter 47 [.tmp 2] [1,5] Proofs.Tryz.func5 rfl rfl rfl rfl rfl (by simp) (AWp.of ?_);simp only[go_sem]
 refine Wk ?_
 refine AWp.range1' ps.length [3] [1,7,8] (fun k vs L=>L=[]∧vs=[ai (smW ps k)]∧∀(j:Nat) (hj:j<ps.length),j<k→¬40<smW ps (j+1)∧fpB ps[j]=true) hpl rfl rfl rfl ⟨rfl,rfl,fun _ _ h=>by omega⟩ ?_ ?_
 ·rintro k vs L hk - ⟨rfl,rfl,hI⟩
  have hgp:=getD_map (f:=aPr) hk
  have hfp:fpB ps[k] = !((((decide (12<(ps[k].vars.length:Int)) || decide (40<(ps[k].name.size:Int))) || ps[k].evs.any asg12)) || ps[k].vars.any nm40v):=rfl
  have hsw:smW ps (k+1)=addW (smW ps k) ps[k].evs.length:=by rw[← nev_get hk];rfl
  have hin:=smW_in ps k
  have hel:=hl _ (List.getElem_mem hk)
  have hno:=hno k hk
  have hI':¬40<smW ps (k+1)→fpB ps[k]=true→∀(j:Nat) (hj:j<ps.length),j<k+1→¬40<smW ps (j+1)∧fpB ps[j]=true:=fun h1 h2 j hj hjk=>by
   by_cases e:j=k
   ·subst e;exact⟨h1,h2⟩
   ·exact hI j hj (by omega)
  have hcf:=events_containsFuncB ps[k].evs hel (.v (.func (.func 16) #[] #[])) rfl asg12 fun e _=>(law30_few1 e).val
  have hcv:=fun (hv:ps[k].vars.length≤1000000)=>vars_containsFunc ps[k].vars hv (.v (.func (.func 18) #[] #[])) rfl nm40v fun v _=>(law30_few2 v).val
  clear hI
  generalize ps[k]=x at *
  simp only[go_sem]
  refine Sd ?_
  refine AWp.of ?_;simp only[go_sem,hgp]
  refine Sd ?_
  intros
  refine AWp.seq (AWp.regionW ?_)
  simp only[go_sem]
  rw[← hsw]
  generalize smW ps (k+1)=z' at *
  generalize smW ps k=z at *
  refine Wk ?_
  refine Sd ?_
  refine Gc hcf ?_
  refine GCall.use (ab (x.vars.any nm40v)) (fun g=>⟨At,(hcv (by omega)).val.use ⟨rfl,rfl⟩⟩) ?_
  simp only[go_sem]
  refine Wk ?_
  refine⟨fun h => ?_,fun h1 h2 h3 h4 h5 => ?_⟩
  ·have hZ:Z=false:=by
    by_cases h40:40<z'
    ·exact hno (.inl h40)
    ·refine hno (.inr ?_)
     rw[hfp,Bool.not_eq_false']
     simp only[h40,false_or] at h
     simpa using h
   rw[hZ]
   refine Wk ?_
   refine ret_eq ?_;simp only[go_sem]
  ·have hx:fpB x=true:=by
    rw[hfp,h4,h5,decide_eq_false h2,decide_eq_false h3];rfl
   refine Wk ?_
   exact⟨_,List.Sublist.refl _,rfl,hI' h1 hx⟩
 ·rintro vs L - ⟨rfl,rfl,hI⟩
  rw[hyes fun k hk=>hI k hk hk]
  simp only[go_sem]
  refine Wk ?_
  refine ret_eq ?_;simp only[go_sem]
  congr 2
  rw[Bool.eq_iff_iff]
  simp
  omega
theorem ref30_Fault (ps:List Pr) (hs:Sm ps) (t:Pd) (hz:szF t≤1000000):PC Proofs.Tryz.prog 7 [aTr ps,aPd t] (ai (treeF ps t 2)):=by
 have h1:=ref28_Check ps hs t hz
 have hsp:treeF ps t 2=if checkF ps t ≠ 0 then checkF ps t else if resF t.kind ≠ 2 then 14 else 0:=rfl
 have h2:checkF ps t=0→PC Proofs.Tryz.prog 21 [aPd t] (.tup [ai (resF t.kind),ai 0]):=fun h=>by
  obtain⟨_,g2,g3,_⟩:=checkF_zero h
  refine ref28_Type t hz g2 ?_
  unfold okT at g3
  simp only[Bool.and_eq_true] at g3
  exact g3.2
 generalize treeF ps t 2=R at *
 generalize checkF ps t=e at *
 generalize resF t.kind=r at *
 obtain⟨k,n,p,q,s,X,hT⟩:=aPd_shape t
 have hTr:aTr ps = .agg [.sl 3 (ps.map aPr)]:=rfl
 rw[hTr,hT] at h1
 rw[hT] at h2
 rw[hTr,hT]
 by_cases he:e=0
 ·have h2:=h2 he
  rw[if_neg (not_not_intro he)] at hsp
  by_cases hr:r=2
  ·rw[if_neg (not_not_intro hr)] at hsp
   rw[hsp]
   refine PC.enter 21 [.tmp 4] [2,3] Proofs.Tryz.func7 rfl rfl rfl rfl rfl (by simp) (AWp.of ?_);simp only[go_sem]
   refine Wk ?_
   refine Sd ?_
   refine(h1).val.use ?_;simp only[go_sem]
   refine W1 he ?_
   refine Sd ?_
   refine(h2).val.use ?_;simp only[go_sem]
   refine W1 hr ?_
   refine ret_eq ?_;simp only[go_sem]
  ·rw[if_pos hr] at hsp
   rw[hsp]
   refine PC.enter 21 [.tmp 4] [2,3] Proofs.Tryz.func7 rfl rfl rfl rfl rfl (by simp) (AWp.of ?_);simp only[go_sem]
   refine Wk ?_
   refine Sd ?_
   refine(h1).val.use ?_;simp only[go_sem]
   refine W1 he ?_
   refine Sd ?_
   refine(h2).val.use ?_;simp only[go_sem]
   refine W1 hr ?_
   refine ret_eq ?_;simp only[go_sem]
 ·rw[if_pos he] at hsp
  rw[hsp]
  refine PC.enter 21 [.tmp 4] [2,3] Proofs.Tryz.func7 rfl rfl rfl rfl rfl (by simp) (AWp.of ?_);simp only[go_sem]
  refine Wk ?_
  refine Sd ?_
  refine(h1).val.use ?_;simp only[go_sem]
  refine W1 he ?_
  refine ret_eq ?_;simp only[go_sem]
theorem ref30_FaultN {ps:List Pr} (hva:PC Proofs.Tryz.prog 22 [aTr ps] (ab false)) (t:Pd):PC Proofs.Tryz.prog 7 [aTr ps,aPd t] (ai 1):=by
 have h1:=ref28_Check_bad hva t
 obtain⟨k,n,p,q,s,X,hT⟩:=aPd_shape t
 have hTr:aTr ps = .agg [.sl 3 (ps.map aPr)]:=rfl
 rw[hTr,hT] at h1
 rw[hTr,hT]
 refine PC.enter 21 [.tmp 4] [2,3] Proofs.Tryz.func7 rfl rfl rfl rfl rfl (by simp) (AWp.of ?_);simp only[go_sem]
 refine Wk ?_
 refine Sd ?_
 refine(h1).val.use ?_;simp only[go_sem]
 repeat(first|((with_reducible refine AWp.ofC ?_ ?_);exact rfl;simp only[go_sem,Int.reduceEq])|((with_reducible refine an ?_ ?_);exact Au))
 refine ret_eq ?_;simp only[go_sem]
theorem evaluate_BoolC (ps:List Pr) (hs:Sm ps) (c:List Int) (hcl:c.length≤1000000) (t:Pd) (hz:szF t≤1000000) (hE:atE ps c t 2=0):PC Proofs.Tryz.prog 10 [aTr ps,aInts c,aPd t] (.tup [ab (truF (cutO ps c (undF ps c)) t),ai 0]):=by
 have h1:=evaluate_at ps hs c hcl t hz 2
 rw[hE] at h1
 obtain⟨g1,g2,g3,g4,g5⟩:=atE_zero hE
 obtain⟨g6,g7,g8,g9⟩:=checkF_zero g1
 have h3:atV ps c t=aView ps c (valuesAt ps c):=by unfold atV;rw[if_neg (by rintro(h|h|h);exact h g5;exact h g1;exact h g2)]
 have g10:=g8
 unfold okT at g10
 simp only[Bool.and_eq_true] at g10
 obtain⟨l1,l2⟩:=und_leaf2 ps hs c g2 t g10.1.2
 have h2:=view_truth ps c _ _ hcl t hz g8 g3 g9 g4 l2 l1
 rw[h3] at h1
 generalize truF (cutO ps c (undF ps c)) t=b at *
 obtain⟨k,n,p,q,s,l⟩:=t
 unfold aView at *
 simp only[aPd_mk] at *
 refine PC.enter 23 [.tmp 6,.tmp 7] [3,5,8] Proofs.Tryz.func10 rfl rfl rfl rfl rfl (by simp) (AWp.of ?_);simp only[go_sem]
 refine Wk ?_
 refine Sd ?_
 refine(h1).val.use ?_;simp only[go_sem]
 refine Wk ?_
 intro b8
 refine Wk ?_
 refine Sd ?_
 refine(h2).val.use ?_;simp only[go_sem]
 refine Wk ?_
 refine ret_eq ?_;simp only[go_sem]
theorem prd_of_check {ps:List Pr} {t:Pd} (h:treeF ps t 2=0):checkF ps t=0∧prdF t=0:=by
 unfold treeF at h
 split at h
 ·rename_i h1;exact absurd h h1
 ·rename_i h1
  split at h
  ·cases h
  ·rename_i h2
   have h1:checkF ps t=0:=by simpa using h1
   obtain⟨_,g2,g3,_⟩:=checkF_zero h1
   unfold okT at g3
   simp only[Bool.and_eq_true] at g3
   refine⟨h1,?_⟩
   unfold prdF
   rw[g2,show typedB t=true from g3.2,if_neg (by decide),if_neg (by decide),if_neg h2]
end Go.AL
end
