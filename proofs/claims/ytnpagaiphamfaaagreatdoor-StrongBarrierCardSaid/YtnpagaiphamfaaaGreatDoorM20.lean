/- Texts of this claim's proof: WOe, WV4, WV5, WFa, WFb, WGp, WGa, WV7. No condition. -/
import Derived.Test.YtnpagaiphamfaaaGreatDoorM19
import Derived.Test.YtnpagaiphamfaaaGreatDoorM18
import Derived.Test.YtnpagaiphamfaaaGreatDoorM17
import Derived.Test.YtnpagaiphamfaaaGreatDoorM14
import Derived.Test.YtnpagaiphamfaaaGreatDoorM15
import Derived.Test.YtnpagaiphamfaaaGreatDoorM12
import Derived.Test.YtnpagaiphamfaaaGreatDoorM7
section
namespace Go.AL
open Go Go.RowKit
set_option maxRecDepth 4000
noncomputable def pstE (ps:List Pr) (x:Eid):Int:=if validF ps=true then (if eidOk ps x=true then 0 else 2) else 1
noncomputable def pstF (ps:List Pr) (x:Eid):List Int:=if pstE ps x=0 then ptF ps x.1.toNat (x.2.toNat - 1) else []
theorem pst_zero {ps:List Pr} {x:Eid} (h:pstE ps x=0):validF ps=true∧∃(p:Nat) (hp:p<ps.length) (i:Nat) (_:i<ps[p].evs.length),x=((p:Int),(i:Int)+1)∧pstF ps x=ptF ps p i:=by
 have h0:=h
 unfold pstE at h
 split at h
 ·rename_i hv
  split at h
  ·rename_i hx
   obtain⟨p,hp,i,hi,rfl⟩:=eidOk_iff.1 hx
   refine⟨hv,p,hp,i,hi,rfl,?_⟩
   unfold pstF
   rw[if_pos h0]
   have e1:((p:Int)).toNat=p:=by omega
   have e2:((i:Int)+1).toNat - 1=i:=by omega
   rw[e1,e2]
  ·simp at h
 ·simp at h
theorem causality_Past (ps:List Pr) (hs:Sm ps) (x:Eid):PC Proofs.Tryz.prog 144 [aTr ps,aEid x] (.tup [aInts (pstF ps x),ai (pstE ps x)]):=by
 have hc:=causality_check1 ps hs x
 change PC _ _ _ (ai (pstE ps x)) at hc
 by_cases h0:pstE ps x=0
 ·obtain⟨hv,p,hp,i,hi,rfl,hF⟩:=pst_zero h0
  have hk:=causality_knows ps hs hv
  have hpt:=causality_past ps hs hv p hp i hi
  rw[hF,h0]
  rw[h0] at hc
  unfold kwV at hk hpt
  generalize hK:[AV.sl 3 (ps.map aPr),AV.rm (mapK (evM ps 2 (off ps ps.length))) (mapV (evM ps 2 (off ps ps.length))),AV.rm (mapK (evM ps 3 (off ps ps.length))) (mapV (evM ps 3 (off ps ps.length)))]=K at *
  generalize ptF ps p i=D at *
  change PC _ _ [_,.agg [ai p,ai ((i:Int)+1)]] _ at hpt
  change PC _ _ [_,.sl 2 [.agg [ai p,ai ((i:Int)+1)]]] _ at hc
  change PC _ _ [_,.agg [ai p,ai ((i:Int)+1)]] _
  refine PC.enter 18 [.tmp 4,.tmp 5] [2,3,9] Proofs.Tryz.func144 rfl rfl rfl rfl rfl (by simp) (AWp.of ?_);simp only[go_sem]
  refine Wk ?_
  refine Sd ?_
  refine(hc).val.use ?_;simp only[go_sem]
  refine Wk ?_
  refine AWp.seq ?_
  repeat(first|(with_reducible refine AWp.seq ?_)|(with_reducible refine AWp.block ?_))
  refine AWp.read mixed [0,1,2,3,4,5] (by kernel_rfl) ?_;simp only[go_sem]
  refine Sd ?_
  refine Gc hk ?_
  refine Sd ?_
  refine Gc hpt ?_
  refine Wk ?_
  refine ret_eq ?_;simp only[go_sem]
 ·have hF:pstF ps x=[]:=by unfold pstF;rw[if_neg h0]
  rw[hF]
  generalize pstE ps x=e at *
  obtain⟨u,w⟩:=x
  change PC _ _ [_,.sl 2 [.agg [ai u,ai w]]] _ at hc
  change PC _ _ [_,.agg [ai u,ai w]] _
  refine PC.enter 18 [.tmp 4,.tmp 5] [2,3,9] Proofs.Tryz.func144 rfl rfl rfl rfl rfl (by simp) (AWp.of ?_);simp only[go_sem]
  refine W1 h0 ?_
  refine Sd ?_
  refine(hc).val.use ?_;simp only[go_sem]
  refine W1 h0 ?_
  refine ret_view [] ?_;simp only[go_sem]
  exact .mkTup (Vws.cons (.nil 1) (Vws.refl _))
theorem cut_enabled (ps:List Pr) (hs:Sm ps) (hv:validF ps=true) (c:List Int) (hc:isF ps c=true) (p:Nat) (hp:p<ps.length) (i:Nat) (hi:i<ps[p].evs.length) (hic:cAt c p=i) :
  PC Proofs.Tryz.prog 165 [aTr ps,aInts c,ai p] (ab (isF ps (stpC c p))):=by
 obtain⟨hl1,hl8⟩:=valid_len hv
 obtain⟨hcl,hcr,_⟩:=isF_iff.1 hc
 have hl:=hs.procs
 have hel:=hs.evs _ (List.getElem_mem hp)
 have hgp:=getD_map (f:=aPr) hp
 have hge:=getD_map (f:=aEv) hi
 have hsp:=stp_iff hv hc hp hi hic
 have hne:needE ps ps[p].evs[i]=if ps[p].evs[i].kind=3 then findIn (evIds ps) 2 ps[p].evs[i].msg else (0,0):=rfl
 rw[hne] at hsp
 have hfd:=trace_Sender ps hs ps[p].evs[i].msg
 have hfv:findV ps 2 ps[p].evs[i].msg=findIn (evIds ps) 2 ps[p].evs[i].msg:=by unfold findV;rw[hv];rfl
 rw[hfv] at hfd
 obtain⟨f1,f2⟩:=findIn_proc hl1 2 ps[p].evs[i].msg
 have hgs:=getD_cAt (c:=c) f1 (by omega)
 have h0:=((inRange_iff hcl).1 hcr 0 (by omega)).1
 have hpc:p<c.length:=by omega
 have hgc:=getD_map (f:=ai) hpc
 have hci:c[p]=(i:Int):=by rw[← cAt_nat hpc,hic]
 rw[hci] at hgc
 generalize findIn (evIds ps) 2 ps[p].evs[i].msg=s at *
 generalize isF ps (stpC c p)=B at *
 refine PC.enter 40 [.tmp 6] [3,7,8] Proofs.Tryz.func165 rfl rfl rfl rfl rfl (by simp) (AWp.of ?_);simp only[go_sem]
 refine Wk ?_
 repeat(first|(with_reducible refine AWp.seq ?_)|(with_reducible refine AWp.block ?_))
 refine AWp.mix mixed [0,1,2,3,4,5,6,7,8,9,10,11] (.step 12 (.step 13 .done .done) .done) (by kernel_rfl) ?_;simp only[go_sem,hgp,hgc,hge]
 refine Sd ?_
 intros
 refine Wk ?_
 refine⟨fun h3 => ?_,fun h3 => ?_⟩
 ·rw[if_neg h3] at hsp
  have hB:B=true:=hsp.2 (by simpa using h0)
  subst hB
  refine Wk ?_
  refine ret_eq ?_;simp only[go_sem]
 ·rw[if_pos h3] at hsp
  refine Wk ?_
  refine Sd ?_
  refine(hfd).val.use ?_;simp only[go_sem]
  refine Wk ?_
  intros
  repeat(first|(with_reducible refine AWp.seq ?_)|(with_reducible refine AWp.block ?_))
  refine AWp.mix mixed [0,1,2,3,4,5,6,7,8] .done (by kernel_rfl) ?_;simp only[go_sem,hgs]
  refine Sd ?_
  refine Wk ?_
  refine ret_eq ?_;simp only[go_sem]
  congr 2
  cases B with
  | true=>exact decide_eq_true (hsp.1 rfl)
  | false=>exact decide_eq_false fun h=>by cases hsp.2 h
theorem cut_Enabled (ps:List Pr) (hs:Sm ps) (hv:validF ps=true) (c:List Int) (hc:isF ps c=true):PC Proofs.Tryz.prog 135 [aTr ps,aInts c] (.tup [aInts (enI ps c c.length),ai 0]):=by
 have hcb:=isF_cb hs hc
 have hcl:=(isF_iff.1 hc).1
 have hcr:=(inRange_iff hcl).1 (isF_iff.1 hc).2.1
 have hg:=cut_given ps hs [c] (by simp) [] (by simp)
 rw[(isF_given hv).2 hc] at hg
 have hS:=fun p hp i hi h=>cut_enabled ps hs hv c hc p hp i hi h
 have hlen:=fun k=>enI_len ps c k
 have hl8:=(valid_len hv).2
 have hR:aInts (enI ps c c.length) = .sl 1 ((enI ps c c.length).map ai):=rfl
 rw[hR]
 refine PC.enter 45 [.tmp 4,.tmp 5] [2,11,41] Proofs.Tryz.func135 rfl rfl rfl rfl rfl (by simp) (AWp.of ?_);simp only[go_sem]
 refine Wk ?_
 refine(PC.view (Vws.cons (.refl _) (Vws.cons (.refl _) (Vws.cons (.nil 1) .nil))) hg (Own.v _) ?_).val
 simp only[go_sem]
 refine Wk ?_
 refine AWp.range' c.length [7] [1,2,17] (fun k vs L=>∃v,vs=[v]∧AppSt 3 1 ((enI ps c k).map ai) v L) (by omega) rfl rfl rfl ⟨anil,rfl,.nil⟩ ?_ ?_
 ·rintro k vs L hkn - ⟨v,rfl,hA⟩
  have hfo:=hA.fo
  have hyl:((enI ps c k).map ai).length≤k:=by rw[List.length_map];exact hlen k
  have hkp:k<ps.length:=by omega
  have gc:=getD_map (f:=ai) hkn
  have gp:=getD_map (f:=aPr) hkp
  have h2:=cAt_nat hkn
  have h3:=hcr k hkp
  have hel:=hs.evs _ (List.getElem_mem hkp)
  obtain⟨i,hi⟩:∃i:Nat,cAt c k=i:=⟨(cAt c k).toNat,by omega⟩
  have gi:c[k]=(i:Int):=by rw[← h2,hi]
  have hnv:=nev_get hkp
  have hsu:=congrArg (List.map ai) (enI_succ ps c k)
  rw[List.map_append] at hsu
  have hrd:rdyF ps c k=(decide ((i:Int)<(ps[k].evs.length:Int)) && isF ps (stpC c k)):=by
   unfold rdyF
   rw[Bool.decide_and,Bool.decide_eq_true,hi,hnv]
  have hSk:(i:Int)<(ps[k].evs.length:Int)→PC Proofs.Tryz.prog 165 [aTr ps,aInts c,ai k] (ab (isF ps (stpC c k))):=fun h=>hS k hkp i (by omega) hi
  rw[hrd] at hsu
  generalize isF ps (stpC c k)=B2 at *
  generalize (enI ps c k).map ai=ys at *
  rw[gi] at gc
  generalize ps[k]=X at *
  simp only[go_sem]
  refine Wk ?_
  repeat(first|(with_reducible refine AWp.seq ?_)|(with_reducible refine AWp.block ?_))
  refine AWp.mix mixed [0,1,2,3,4,5,6,7,8,9,10,11,12,13,14,15,16,17] .done (by kernel_rfl) ?_;simp only[go_sem,gc,gp]
  refine Sd ?_
  refine GCall.use (ab B2) (fun h=>⟨At,(hSk (by simpa using h)).val.use ⟨rfl,rfl⟩⟩) ?_
  simp only[go_sem]
  rcases hA.inv with ⟨e1,rfl,rfl⟩|⟨b,cap,rfl,rfl⟩
  ·refine Wk ?_
   refine⟨fun h4 h5 => ?_,fun h4 => ?_⟩
   ·have hr:(decide ((i:Int)<(X.evs.length:Int)) && B2)=true:=by rw[decide_eq_true h4,h5];rfl
    rw[hr,if_pos rfl] at hsu
    intro b' cap' hc'
    refine Wk ?_
    exact⟨_,List.Sublist.refl _,_,rfl,by rw[hsu,e1];exact .row b' [_] cap'⟩
   ·have hr:(decide ((i:Int)<(X.evs.length:Int)) && B2)=false:=by
     rw[Bool.and_eq_false_iff,decide_eq_false_iff_not]
     by_cases h:(i:Int)<(X.evs.length:Int)
     ·exact .inr (h4 h)
     ·exact .inl h
    rw[hr,if_neg (by decide)] at hsu
    exact⟨_,List.Sublist.refl _,_,rfl,by rw[hsu,e1];exact .nil⟩
  ·refine Wk ?_
   refine⟨fun h4 h5 => ?_,fun h4 => ?_⟩
   ·have hr:(decide ((i:Int)<(X.evs.length:Int)) && B2)=true:=by rw[decide_eq_true h4,h5];rfl
    rw[hr,if_pos rfl] at hsu
    refine Sd ?_
    intro b' cap' hc'
    refine Wk ?_
    exact⟨_,List.Sublist.refl _,_,rfl,by rw[hsu];exact AppSt.snoc b' cap' _ rfl⟩
   ·have hr:(decide ((i:Int)<(X.evs.length:Int)) && B2)=false:=by
     rw[Bool.and_eq_false_iff,decide_eq_false_iff_not]
     by_cases h:(i:Int)<(X.evs.length:Int)
     ·exact .inr (h4 h)
     ·exact .inl h
    rw[hr,if_neg (by decide)] at hsu
    refine⟨_,List.Sublist.refl _,_,rfl,?_⟩
    rw[hsu];simpa using AppSt.row (t:=3) (k:=1) b ys cap
 ·rintro vs L - ⟨v,rfl,hA⟩
  have hfo:=hA.fo
  generalize (enI ps c c.length).map ai=ys at *
  simp only[go_sem]
  rcases hA.inv with ⟨e1,rfl,rfl⟩|⟨b,cap,rfl,rfl⟩
  ·refine Wk ?_
   refine ret_view [] ?_;simp only[go_sem]
   rw[e1];exact .mkTup (Vws.cons (.nil 1) (Vws.refl _))
  ·refine Wk ?_
   refine ret_view [true] ?_;simp only[go_sem]
   exact .mkTup (Vws.cons (Vw.ofLs (if_pos rfl) rfl) (Vws.refl _))
def pastV (ps:List Pr) (s:Stp):AV:=if s.2.2=nev ps s.1 then anil else aInts (ptF ps s.1 s.2.2)
def aStr (ps:List Pr) (s:Stp):AV:=.agg [ai s.1,ai s.2.1,ai s.2.2,pastV ps s]
def SpIn (ps:List Pr) (s:Stp):Prop:=s.1<ps.length∧s.2.1≤s.2.2∧s.2.2≤nev ps s.1
theorem pastV_fo (ps:List Pr) (s:Stp):fo (pastV ps s)=(True,pastV ps s):=by unfold pastV;split <;> rfl
theorem pastV_one (ps:List Pr) (s:Stp):one (pastV ps s)=true:=by unfold pastV;split <;> rfl
attribute [go_sem ↓] pastV_fo pastV_one
theorem strong_events (ps:List Pr) (hs:Sm ps) (p:Nat) (hp:p<ps.length):PC Proofs.Tryz.prog 87 [aTr ps,ai p] (ai (nev ps p:Nat)):=by
 have hgp:=getD_map (f:=aPr) hp
 have hn:=nev_get hp
 have hl:=hs.procs
 rw[hn]
 refine PC.enter 12 [.tmp 4] [2] Proofs.Tryz.func87 rfl rfl rfl rfl rfl (by simp) (AWp.of ?_);simp only[go_sem]
 refine W1 hgp ?_
 refine ret_eq ?_;simp only[go_sem]
theorem strong_measured (ps:List Pr) (hs:Sm ps) (hv:validF ps=true) (s:Stp) (h:SpIn ps s):PC Proofs.Tryz.prog 116 [aTr ps,aStp s] (aStr ps s):=by
 obtain⟨p,f,t⟩:=s
 obtain⟨h1,h2,h3⟩:=h
 have h1:p<ps.length:=h1
 have h2:f≤t:=h2
 have h3:t≤nev ps p:=h3
 have hev:=strong_events ps hs p h1
 have hel:=hs.evs _ (List.getElem_mem h1)
 have hn:=nev_get h1
 have hpst:=causality_Past ps hs ((p:Int),(t:Int)+1)
 have hR:aStr ps (p,f,t) = .agg [ai p,ai f,ai t,pastV ps (p,f,t)]:=rfl
 have hA:aStp (p,f,t) = .agg [ai p,ai f,ai t]:=rfl
 rw[hR,hA]
 by_cases ht:t<nev ps p
 ·have hti:(t:Int)<((nev ps p:Nat):Int):=by omega
  have hE:pstE ps ((p:Int),(t:Int)+1)=0:=by
   unfold pstE
   rw[hv,if_pos rfl,if_pos (eidOk_iff.2 ⟨p,h1,t,by omega,rfl⟩)]
  have hF:pstF ps ((p:Int),(t:Int)+1)=ptF ps p t:=by
   obtain⟨_,p',hp',i',hi',he,hF⟩:=pst_zero hE
   simp only[Prod.mk.injEq] at he
   obtain⟨e1,e2⟩:=he
   have e1:p=p':=by omega
   have e2:t=i':=by omega
   subst e1 e2
   exact hF
  have hP:pastV ps (p,f,t)=aInts (ptF ps p t):=by
   unfold pastV;rw[if_neg (show ¬t=nev ps p by omega)]
  rw[hE,hF] at hpst
  rw[hP]
  change PC _ _ [_,.agg [ai p,ai ((t:Int)+1)]] _ at hpst
  generalize ptF ps p t=D at *
  generalize nev ps p=n at *
  refine PC.enter 28 [.cell 4 99] [2,3] Proofs.Tryz.func116 rfl rfl rfl rfl rfl (by simp) (AWp.of ?_);simp only[go_sem]
  refine Wk ?_
  intro b4
  refine Wk ?_
  intro b5 g5
  have n1:¬b4=b5:=by omega
  have n2:¬b5=b4:=by omega
  refine W2 n1 n2 ?_
  repeat(first|(with_reducible refine AWp.seq ?_)|(with_reducible refine AWp.block ?_))
  refine AWp.read mixed [0,1,2,3,4,5,6] (by kernel_rfl) ?_;simp only[go_sem]
  refine Sd ?_
  refine GCall.use (ai (n:Nat)) (fun _=>⟨At,(hev).val.use ⟨rfl,rfl⟩⟩) ?_;simp only[go_sem]
  refine W3 hti n1 n2 ?_
  refine Sd ?_
  refine(hpst).val.use ?_;simp only[go_sem,n2]
  refine W2 n1 n2 ?_
  refine ret_eq ?_
  simp only[go_sem,n1]
 ·have hti:¬(t:Int)<((nev ps p:Nat):Int):=by omega
  have hP:pastV ps (p,f,t)=anil:=by
   unfold pastV;rw[if_pos (show t=nev ps p by omega)]
  rw[hP]
  generalize nev ps p=n at *
  refine PC.enter 28 [.cell 4 99] [2,3] Proofs.Tryz.func116 rfl rfl rfl rfl rfl (by simp) (AWp.of ?_);simp only[go_sem]
  refine Wk ?_
  intro b4
  refine Wk ?_
  intro b5 g5
  have n1:¬b4=b5:=by omega
  have n2:¬b5=b4:=by omega
  refine W2 n1 n2 ?_
  repeat(first|(with_reducible refine AWp.seq ?_)|(with_reducible refine AWp.block ?_))
  refine AWp.read mixed [0,1,2,3,4,5,6] (by kernel_rfl) ?_;simp only[go_sem]
  refine Sd ?_
  refine GCall.use (ai (n:Nat)) (fun _=>⟨At,(hev).val.use ⟨rfl,rfl⟩⟩) ?_;simp only[go_sem]
  refine W3 hti n1 n2 ?_
  refine ret_eq ?_
  simp only[go_sem,n1]
theorem strong_begins (ps:List Pr) (_hs:Sm ps) (hv:validF ps=true) (a o:Stp) (ha:SpIn ps a) (ho:SpIn ps o):PC Proofs.Tryz.prog 115 [aStr ps a,aStr ps o] (ab (bgN ps a o)):=by
 obtain⟨p,f,t⟩:=a
 obtain⟨q,f',t'⟩:=o
 obtain⟨h1,h2,h3⟩:=ha
 obtain⟨k1,k2,k3⟩:=ho
 have h1:p<ps.length:=h1
 have k1:q<ps.length:=k1
 have k3:t'≤nev ps q:=k3
 have hb:bgN ps (p,f,t) (q,f',t')=(decide (f=0) || (decide (t'=nev ps q) || decide ((f:Int)≤cAt (ptF ps q t') p))):=rfl
 have hA:aStr ps (p,f,t) = .agg [ai p,ai f,ai t,pastV ps (p,f,t)]:=rfl
 have hO:aStr ps (q,f',t') = .agg [ai q,ai f',ai t',pastV ps (q,f',t')]:=rfl
 have hfo:=pastV_fo ps (p,f,t)
 have hon:=pastV_one ps (p,f,t)
 have hf0:decide (f=0)=decide ((f:Int)=0):=by rw[decide_eq_decide];omega
 rw[hA,hO]
 by_cases ht:t'=nev ps q
 ·have hP:pastV ps (q,f',t')=anil:=by unfold pastV;rw[if_pos ht]
  have hbt:bgN ps (p,f,t) (q,f',t')=true:=by rw[hb,decide_eq_true ht];simp
  rw[hP,hbt]
  refine PC.enter 27 [.tmp 4] [2,3] Proofs.Tryz.func115 rfl rfl rfl rfl rfl (by simp) (AWp.of ?_);simp only[go_sem]
  refine Wk ?_
  repeat(first|(with_reducible refine AWp.seq ?_)|(with_reducible refine AWp.block ?_))
  refine AWp.read mixed [0,1,2,3,4,5,6,7,8,9,10,11,12,13,14,15,16,17,18,19,20,21,22] (by kernel_rfl) ?_;simp only[go_sem]
  refine Sd ?_
  refine Wk ?_
  refine ret_eq ?_;simp only[go_sem]
 ·have hP:pastV ps (q,f',t')=aInts (ptF ps q t'):=by unfold pastV;rw[if_neg ht]
  have hpl:=(isF_iff.1 (pt_is hv k1 (show t'<ps[q].evs.length by have:=nev_get k1;omega))).1
  rw[decide_eq_false ht,Bool.false_or,hf0] at hb
  rw[hP,hb]
  have hpD:p<(ptF ps q t').length:=by rw[hpl];exact h1
  generalize ptF ps q t'=D at *
  have hg:=getD_map (f:=ai) (l:=D) (k:=p) hpD
  rw[← cAt_nat hpD] at hg
  have hD:¬D.map ai=[]:=fun e=>by
   have h0:=congrArg List.length e
   rw[List.length_map,hpl] at h0
   have h0:ps.length=0:=h0
   omega
  have hDm:(D.map ai).length=ps.length:=by rw[List.length_map,hpl]
  generalize cAt D p=y at *
  show PC _ _ [_,.agg [_,_,_,.sl 1 (D.map ai)]] _
  generalize D.map ai=DM at *
  refine PC.enter 27 [.tmp 4] [2,3] Proofs.Tryz.func115 rfl rfl rfl rfl rfl (by simp) (AWp.of ?_);simp only[go_sem]
  refine Wk ?_
  repeat(first|(with_reducible refine AWp.seq ?_)|(with_reducible refine AWp.block ?_))
  refine AWp.read mixed [0,1,2,3,4,5,6,7,8,9,10,11,12,13,14,15,16,17,18,19,20,21,22] (by kernel_rfl) ?_;simp only[go_sem,hg,hDm]
  refine⟨fun h=>⟨h,hD⟩,?_⟩
  refine Sd ?_
  refine Wk ?_
  refine ret_eq ?_;simp only[go_sem]
attribute [go_sem] aStr
abbrev Spn3:=Int × Int × Int
theorem spans_indexFuncB (l:List Spn3) (hl:l.length≤9223372036854775807) (g:AV) (hgf:fo g=(True,g)) (p:Spn3→Bool) (hg:∀x ∈ l,PV Proofs.Tryz.prog g [aSp x] (ab (p x))) :
  PC Proofs.Tryz.prog 74 [aSps l,g] (ai (match l.findIdx? p with|some i=>(i:Int)|none => -1)):=by
 refine PC.enter 19 [.tmp 4] [] Proofs.Tryz.func74 rfl rfl rfl rfl rfl (by simp) (AWp.of ?_);simp only[go_sem]
 refine Sd ?_
 refine AWp.of ?_;simp only[go_sem,aSps]
 refine AWp.range1' l.length [] [0,1,7] (fun k vs L=>L=[]∧∀i (h:i<l.length),i<k→p l[i]=false) (by omega) rfl rfl rfl ⟨rfl,by omega⟩ ?_ ?_
 ·rintro k vs L' hk hvs ⟨rfl,hI⟩
  simp only[go_sem]
  refine Sd ?_
  refine AWp.of ?_;simp only[go_sem]
  have hgk:=hg l[k] (List.getElem_mem hk)
  try simp only[go_sem,aSp] at hgk
  refine Sd ?_
  refine AWp.of ?_;simp only[go_sem,getD_map hk,hgf,aSp]
  refine⟨⟨by omega,by omega⟩,hk,hgk.use (AWp.of ?_)⟩;simp only[go_sem]
  refine⟨fun ht => ?_,fun hf => ?_⟩
  ·refine Sd ?_
   refine AWp.of ?_;simp only[go_sem]
   refine ret_eq ?_;simp only[go_sem]
   have:l.findIdx? p=some k:=by rw[List.findIdx?_eq_some_iff_getElem];exact⟨hk,ht,fun j hj=>by simpa using hI j (by omega) hj⟩
   rw[this]
  ·refine⟨[],List.Sublist.refl _,rfl,fun i h hi => ?_⟩
   by_cases e:i=k
   ·subst e;exact hf
   ·exact hI i h (by omega)
 ·rintro vs L' hvs ⟨rfl,hI⟩
  simp only[go_sem]
  refine Sd ?_
  refine AWp.of ?_;simp only[go_sem]
  refine Sd ?_
  refine AWp.of ?_;simp only[go_sem]
  refine ret_eq ?_;simp only[go_sem]
  have:l.findIdx? p=none:=by rw[List.findIdx?_eq_none_iff];intro x hx;obtain⟨i,hi,rfl⟩:=List.getElem_of_mem hx;exact hI i hi hi
  rw[this]
theorem spans_containsFuncB (l:List Spn3) (hl:l.length≤9223372036854775807) (g:AV) (hgf:fo g=(True,g)) (p:Spn3→Bool) (hg:∀x ∈ l,PV Proofs.Tryz.prog g [aSp x] (ab (p x))) :
  PC Proofs.Tryz.prog 37 [aSps l,g] (ab (l.any p)):=by
 refine PC.enter 9 [.tmp 4] [] Proofs.Tryz.func37 rfl rfl rfl rfl rfl (by simp) (AWp.of ?_);simp only[go_sem]
 refine Sd ?_
 refine AWp.of ?_;simp only[go_sem,hgf,aSps]
 refine(spans_indexFuncB l hl g hgf p hg).val.use ?_
 simp only[go_sem]
 refine Sd ?_
 refine AWp.of ?_;simp only[go_sem]
 refine ret_eq ?_;simp only[go_sem]
 congr 2;exact findIdx_any l p
def aStrs (ps:List Pr) (l:List Stp):AV:=.sl 4 (l.map (aStr ps))
def ckB (ps:List Pr) (l:List Stp) (i k:Nat):Bool:=decide (i ≠ k) && !bgN ps (l.getD i (0,0,0)) (l.getD k (0,0,0))
def clK (ps:List Pr) (l:List Stp) (i:Nat):Option Nat:=(List.range l.length).find? (ckB ps l i)
def clB (ps:List Pr) (g:Stp→Bool) (l:List Stp) (i:Nat):Bool:=g (l.getD i (0,0,0)) && (clK ps l i).isSome
def clI (ps:List Pr) (g:Stp→Bool) (l:List Stp):Option Nat:=(List.range l.length).find? (clB ps g l)
def aClash (ps:List Pr) (g:Stp→Bool) (l:List Stp):AV:=match clI ps g l with
 | some i=>match clK ps l i with
  | some k => .tup [ai i,ai k,ab true]
  | none => .tup [ai 0,ai 0,ab false]
 | none => .tup [ai 0,ai 0,ab false]
theorem getD3 {l:List Stp} {i:Nat} (h:i<l.length):l.getD i (0,0,0)=l[i]:=by rw[List.getD_eq_getElem?_getD,List.getElem?_eq_getElem h,Option.getD_some]
theorem clash_yes {ps:List Pr} {g:Stp→Bool} {l:List Stp} {i k:Nat} (hi:i<l.length) (hk:k<l.length) (hik:i ≠ k) (hg:g l[i]=true) (hb:bgN ps l[i] l[k]=false) (h1:∀k',k'<k→ckB ps l i k'=false)
  (h2:∀i',i'<i→clB ps g l i'=false):aClash ps g l = .tup [ai i,ai k,ab true]:=by
 have e1:clK ps l i=some k:=find_range_of hk (by unfold ckB;rw[getD3 hi,getD3 hk,hb,decide_eq_true hik];rfl) h1
 have e2:clI ps g l=some i:=find_range_of hi (by unfold clB;rw[getD3 hi,hg,e1];rfl) h2
 unfold aClash
 rw[e2];dsimp only;rw[e1]
theorem clash_no {ps:List Pr} {g:Stp→Bool} {l:List Stp} (h:∀i,i<l.length→clB ps g l i=false):clI ps g l=none∧aClash ps g l = .tup [ai 0,ai 0,ab false]:=by
 have e:clI ps g l=none:=find_range_no h
 unfold aClash
 rw[e];exact⟨rfl,rfl⟩
theorem clI_none {ps:List Pr} {g:Stp→Bool} {l:List Stp} (h:clI ps g l=none):∀i k (hi:i<l.length) (hk:k<l.length),i ≠ k→g l[i]=true→bgN ps l[i] l[k]=true:=fun i k hi hk hik hg=>by
 have h1:=find_range_none h i hi
 unfold clB at h1
 rw[getD3 hi,hg,Bool.true_and] at h1
 cases h2:clK ps l i with
 | some z=>rw[h2] at h1;cases h1
 | none =>
  have h3:=find_range_none h2 k hk
  unfold ckB at h3
  rw[getD3 hi,getD3 hk,decide_eq_true hik,Bool.true_and] at h3
  simpa using h3
theorem clI_some {ps:List Pr} {g:Stp→Bool} {l:List Stp} {i:Nat} (h:clI ps g l=some i):∃k,∃(hi:i<l.length) (hk:k<l.length),i ≠ k∧g l[i]=true∧bgN ps l[i] l[k]=false∧aClash ps g l = .tup [ai i,ai k,ab true]:=by
 obtain⟨hi,h1,_⟩:=find_range h
 unfold clB at h1
 rw[getD3 hi,Bool.and_eq_true] at h1
 obtain⟨k,hk⟩:=Option.isSome_iff_exists.1 h1.2
 obtain⟨hk1,h2,_⟩:=find_range hk
 unfold ckB at h2
 rw[getD3 hi,getD3 hk1,Bool.and_eq_true,decide_eq_true_eq] at h2
 refine⟨k,hi,hk1,h2.1,h1.1,by simpa using h2.2,?_⟩
 unfold aClash
 rw[h];dsimp only;rw[hk]
theorem strong_clash (ps:List Pr) (hs:Sm ps) (hv:validF ps=true) (l:List Stp) (hl:l.length≤1000000) (hin:∀s ∈ l,SpIn ps s) (gv:AV) (hgf:fo gv=(True,gv)) (g:Stp→Bool) (hg:∀s ∈ l,PV Proofs.Tryz.prog gv [aStr ps s] (ab (g s))) :
  PC Proofs.Tryz.prog 69 [aStrs ps l,gv] (aClash ps g l):=by
 have hyes:=fun i k hi hk hik h1 h2 h3 h4=>clash_yes (ps:=ps) (g:=g) (l:=l) (i:=i) (k:=k) hi hk hik h1 h2 h3 h4
 have hno:=fun h=>(clash_no (ps:=ps) (g:=g) (l:=l) h).2
 have hR:aStrs ps l = .sl 4 (l.map (aStr ps)):=rfl
 have hcK:∀i,i<l.length→(∀k,k<l.length→ckB ps l i k=false)→(clK ps l i).isSome=false:=fun i hi h=>by
  have:clK ps l i=none:=find_range_no h
  rw[this];rfl
 rw[hR]
 generalize aClash ps g l=R at *
 refine PC.enter 42 [.tmp 4,.tmp 5,.tmp 6] [8,10] Proofs.Tryz.func69 rfl rfl rfl rfl rfl (by simp) (AWp.of ?_);simp only[go_sem]
 refine Wk ?_
 refine AWp.range' l.length [] [0,1,11,12] (fun i vs L=>L=[]∧∀i',i'<i→clB ps g l i'=false) (by omega) rfl rfl rfl ⟨rfl,fun _ h=>by omega⟩ ?_ ?_
 ·rintro i vs L hi - ⟨rfl,hI⟩
  have hgi:=getD_map (f:=aStr ps) hi
  have hgk:=hg l[i] (List.getElem_mem hi)
  have hini:=hin l[i] (List.getElem_mem hi)
  have hI2:(g l[i] && (clK ps l i).isSome)=false→∀i',i'<i+1→clB ps g l i'=false:=fun h i' hi'=>by
   by_cases e:i'=i
   ·subst e;unfold clB;rw[getD3 hi];exact h
   ·exact hI i' (by omega)
  simp only[go_sem] at hgk
  simp only[go_sem]
  refine W2 hgi hgf ?_
  intros
  refine W1 hgf ?_
  refine Sd ?_
  refine(hgk).use ?_;simp only[go_sem]
  refine Wk ?_
  refine⟨fun h1 => ?_,fun h1 => ?_⟩
  ·exact⟨_,List.Sublist.refl _,rfl,hI2 (by rw[h1];rfl)⟩
  ·refine Wk ?_
   refine AWp.range' l.length [] [0,1,7,8,11,12,13,22,23] (fun k vs L=>L=[]∧∀k',k'<k→ckB ps l i k'=false) (by omega) rfl rfl rfl ⟨rfl,fun _ h=>by omega⟩ ?_ ?_
   ·rintro k vs L hk - ⟨rfl,hJ⟩
    have hgk2:=getD_map (f:=aStr ps) hk
    have hbg:=strong_begins ps hs hv l[i] l[k] hini (hin l[k] (List.getElem_mem hk))
    simp only[go_sem] at hbg
    have hJ2:(decide (i ≠ k) && !bgN ps l[i] l[k])=false→∀k',k'<k+1→ckB ps l i k'=false:=fun h k' hk'=>by
     by_cases e:k'=k
     ·subst e;unfold ckB;rw[getD3 hi,getD3 hk];exact h
     ·exact hJ k' (by omega)
    have hy:=hyes i k hi hk
    generalize bgN ps l[i] l[k]=B at *
    simp only[go_sem]
    refine W1 hgk2 ?_
    intros
    refine Wk ?_
    refine Sd ?_
    refine Gc hbg ?_
    by_cases hik:i=k
    ·have hki:(i:Int)=(k:Int):=by omega
     refine W1 hki ?_
     exact⟨_,List.Sublist.refl _,rfl,hJ2 (by rw[decide_eq_false (by simpa using hik)];rfl)⟩
    ·have hki:¬(i:Int)=(k:Int):=by omega
     cases B with
     | true =>
      refine W1 hki ?_
      exact⟨_,List.Sublist.refl _,rfl,hJ2 (by simp)⟩
     | false =>
      rw[hy hik (by simpa using h1) rfl hJ hI]
      refine W1 hki ?_
      refine ret_eq ?_;simp only[go_sem]
   ·rintro vs L - ⟨rfl,hJ⟩
    have:=hcK i hi hJ
    simp only[go_sem]
    refine Wk ?_
    exact⟨_,List.Sublist.refl _,rfl,hI2 (by rw[this,Bool.and_false])⟩
 ·rintro vs L - ⟨rfl,hI⟩
  rw[hno hI]
  simp only[go_sem]
  refine Wk ?_
  refine ret_eq ?_;simp only[go_sem]
theorem strong_anyStretch (ps:List Pr) (s:Stp):PC Proofs.Tryz.prog 71 [aStr ps s] (ab true):=by
 have hR:aStr ps s = .agg [ai s.1,ai s.2.1,ai s.2.2,pastV ps s]:=rfl
 rw[hR]
 refine PC.enter 3 [.tmp 2] [1] Proofs.Tryz.func71 rfl rfl rfl rfl rfl (by simp) (AWp.of ?_);simp only[go_sem]
 refine Wk ?_
 refine ret_eq ?_;simp only[go_sem]
def BadI (n:Nat) (x:List Int) (i:Nat):Prop:=x.getD i 0<0∨(n:Int)<x.getD i 0∨(0<i∧x.getD i 0≤x.getD (i - 1) 0)
open Classical in
noncomputable def listsF (ps:List Pr) (l:List (List Int)):Int:=if validF ps=true∧l.length=ps.length then (if ∃p i,p<l.length∧i<(l.getD p []).length∧BadI (nev ps p) (l.getD p []) i then 2 else 0) else 1
end Go.AL
end
section
namespace Go.AL
open Go Go.RowKit
set_option maxRecDepth 4000
section
variable {ps:List Pr} {E:Elim} {l:List (List Int)} {a:Nat→Nat}
end
theorem totS_le2 {c c':Nat→Nat} : ∀n,(∀q,q<n→c' q≤c q)→totS n c'≤totS n c
 | 0,_=>by simp [totS]
 | n+1,h=>by
  rw[totS_succ,totS_succ]
  have:=totS_le2 n fun q hq=>h q (by omega)
  have:=h n (by omega)
  omega
theorem totS_lt2 {c c':Nat→Nat} {p:Nat} : ∀n,(∀q,q<n→c' q≤c q)→p<n→c' p<c p→totS n c'<totS n c
 | 0,_,hp,_=>by omega
 | n+1,h,hp,hlt=>by
  rw[totS_succ,totS_succ]
  have h1:=h n (by omega)
  by_cases e:p=n
  ·subst e
   have:=totS_le2 p fun q hq=>h q (by omega)
   omega
  ·have:=totS_lt2 n (fun q hq=>h q (by omega)) (by omega) hlt
   omega
def aRowsS (ps:List Pr) (n:Nat) (rows:Nat→List Stp):AV:=.sl 1 ((List.range n).map fun p=>aStrs ps (rows p))
noncomputable def aTight (ps:List Pr) (rows:Nat→List Stp):AV:=match tgtO ps rows with
 | some a => .tup [aStrs ps (chcL ps.length rows a),ab true]
 | none => .tup [aStrs ps [],ab false]
theorem aTight_some {ps:List Pr} {rows:Nat→List Stp} {a:Nat→Nat} (h:LeastS ps rows a):aTight ps rows = .tup [aStrs ps (chcL ps.length rows a),ab true]:=by
 obtain⟨a',h1,h2⟩:=tgtO_some h
 unfold aTight
 rw[h1];dsimp only;rw[chcL_congr h2]
theorem aTight_none {ps:List Pr} {rows:Nat→List Stp} (h:¬ ∃t,TgtS ps rows t):aTight ps rows = .tup [aStrs ps [],ab false]:=by
 unfold aTight;rw[tgtO_none h]
theorem rows_in {ps:List Pr} {b:Nat→Nat→Bool} {rows:Nat→List Stp} (hR:RowsOk ps b rows) {p:Nat} (hp:p<ps.length):∀s ∈ rows p,SpIn ps s:=fun s hs=>by
 obtain⟨h1,h2,h3,_⟩:=(hR p hp).el s hs
 exact⟨by rw[h1];exact hp,h2,by rw[h1];omega⟩
theorem chcL_in {ps:List Pr} {b:Nat→Nat→Bool} {rows:Nat→List Stp} (hR:RowsOk ps b rows) {n:Nat} (hn:n≤ps.length) {a:Nat→Nat} (ha:∀p,p<n→a p<(rows p).length):∀s ∈ chcL n rows a,SpIn ps s:=fun s hs=>by
 obtain⟨p,hp,rfl⟩:=List.mem_map.1 hs
 have hp:=List.mem_range.1 hp
 rw[fSp_eq (ha p hp)]
 exact rows_in hR (by omega) _ (List.getElem_mem _)
theorem chcL_succ (k:Nat) (rows:Nat→List Stp) (a:Nat→Nat):chcL (k+1) rows a=chcL k rows a ++ [fSp rows k (a k)]:=by unfold chcL;rw[List.range_succ,List.map_append];rfl
set_option maxHeartbeats 1000000 in
theorem strong_tight (ps:List Pr) (hs:Sm ps) (hv:validF ps=true) {b:Nat→Nat→Bool} {rows:Nat→List Stp} (hR:RowsOk ps b rows) (hlen:∀p,p<ps.length→(rows p).length≤1000000) :
  PC Proofs.Tryz.prog 51 [aRowsS ps ps.length rows] (aTight ps rows):=by
 obtain⟨hl1,hl8⟩:=valid_len hv
 have hmon:=mon_rows hR
 have hT1:=fun a h=>aTight_some (ps:=ps) (rows:=rows) (a:=a) h
 have hT2:=fun h=>aTight_none (ps:=ps) (rows:=rows) h
 have hin:=fun a ha=>chcL_in hR (Nat.le_refl ps.length) (a:=a) ha
 have hA:∀l,aStrs ps l = .sl 4 (l.map (aStr ps)):=fun _=>rfl
 obtain⟨RS,hRS⟩:∃RS,RS=(List.range ps.length).map fun p=>aStrs ps (rows p):=⟨_,rfl⟩
 have hRl:RS.length=ps.length:=by rw[hRS];simp
 have hRg:∀p,p<ps.length→RS.getD p .any = .sl 4 ((rows p).map (aStr ps)):=fun p hp=>by rw[hRS];exact map_range_getD hp _
 have hR0:aRowsS ps ps.length rows = .sl 1 RS:=by rw[hRS];rfl
 have hcl:=fun l hl hin=>strong_clash ps hs hv l hl hin (.v (.func (.func 71) #[] #[])) rfl (fun _=>true) (fun s _=>(strong_anyStretch ps s).val)
 rw[hR0]
 clear hR0 hRS
 generalize aTight ps rows=R at *
 refine PC.enter 54 [.tmp 2,.tmp 3] [36] Proofs.Tryz.func51 rfl rfl rfl rfl rfl (by simp) (AWp.of ?_);simp only[go_sem]
 refine W1 hRl ?_
 intro bA
 refine Wk ?_
 refine AWp.block (AWp.loopN [] [0,4] (fun m vs L=>∃a:Nat→Nat,m=totS ps.length (fun p=>(rows p).length - a p)∧L=[(bA,.row 3 1 (dnA ps.length a) ps.length)]∧(∀t,TgtS ps rows t→∀p,p<ps.length→a p≤t p)∧∀p,p<ps.length→a p≤(rows p).length) (totS ps.length fun p=>(rows p).length - 0) ?_ ?_)
 ·refine⟨fun _=>0,rfl,?_,fun _ _ _ _=>Nat.zero_le _,fun _ _=>Nat.zero_le _⟩
  have:dnA ps.length (fun _=>0)=List.replicate ps.length (ai 0):=by unfold dnA;apply List.ext_getElem (by simp);intro i h1 h2;simp
  rw[this]
 rintro m vs L - ⟨a,rfl,rfl,hlow,hle⟩
 have hdl:=dnA_length ps.length a
 simp only[go_sem]
 refine Wk ?_
 refine(AWp.range' ps.length [5] [0,4,14,15] (fun k vs L=>∃v Lq,vs=[v]∧L=Lq ++ [(bA,.row 3 1 (dnA ps.length a) ps.length)]∧AppSt 99 4 ((chcL k rows a).map (aStr ps)) v Lq∧(∀x ∈ Lq,x.1 ≠ bA)∧∀p,p<k→a p<(rows p).length) (by omega) rfl rfl rfl ⟨anil,[],rfl,rfl,.nil,by simp,fun _ h=>by omega⟩ ?_ ?_)
 ·rintro k vs L hk - ⟨v,Lq,rfl,rfl,hAp,hq,hlt⟩
  have gk:=dnA_get hk a
  have gR:=hRg k hk
  have hsu:=congrArg (List.map (aStr ps)) (chcL_succ k rows a)
  rw[List.map_append] at hsu
  have hyl:((chcL k rows a).map (aStr ps)).length=k:=by rw[List.length_map,chcL_len]
  have hfo:=hAp.fo
  have hlk:=hlen k hk
  have hak:=hle k hk
  by_cases he:a k=(rows k).length
  ·have hei:(a k:Int)=((rows k).length:Int):=by omega
   have hno:=tgt_none hlow hk (show (rows k).length≤a k by omega)
   rw[hT2 hno,hA]
   rcases hAp.inv with ⟨e1,rfl,rfl⟩|⟨bq,cap,rfl,rfl⟩
   ·simp only[go_sem,List.nil_append]
    refine W5 gk gR hdl hRl hei ?_
    refine ret_view [] ?_;simp only[go_sem]
    exact .mkTup (Vws.cons (.nil 4) (Vws.refl _))
   ·have nq:=hq (bq,.row 99 4 ((chcL k rows a).map (aStr ps)) cap) (by simp)
    simp only at nq
    have nq1:¬bA=bq:=fun e=>nq e.symm
    simp only[go_sem,List.cons_append,List.nil_append]
    repeat(first|((with_reducible refine AWp.ofC ?_ ?_);exact rfl;simp only[go_sem,gk,gR,hdl,hRl,hei,nq1])|((with_reducible refine an ?_ ?_);exact Au))
    refine ret_view [] ?_;simp only[go_sem]
    exact .mkTup (Vws.cons (.nil 4) (Vws.refl _))
  ·have hei:¬(a k:Int)=((rows k).length:Int):=by omega
   have hak2:a k<(rows k).length:=by omega
   have ge:=getD_map (f:=aStr ps) hak2
   rw[← fSp_eq hak2] at ge
   have hlt2:∀p,p<k+1→a p<(rows p).length:=fun p hp=>by
    by_cases e:p=k
    ·subst e;exact hak2
    ·exact hlt p (by omega)
   have es:[fSp rows k (a k)].map (aStr ps)=[aStr ps (fSp rows k (a k))]:=rfl
   rw[es] at hsu
   generalize hys:(chcL k rows a).map (aStr ps)=ys at *
   generalize fSp rows k (a k)=s at *
   rcases hAp.inv with ⟨e1,rfl,rfl⟩|⟨bq,cap,rfl,rfl⟩
   ·rw[e1] at hsu
    simp only[go_sem,List.nil_append]
    refine W6 gk gR ge hdl hRl hei ?_
    intro b' cap' g8 g9
    have n3:¬b'=bA:=by omega
    have n4:¬bA=b':=by omega
    refine W2 n3 n4 ?_
    refine⟨_,List.Sublist.refl _,.ls b' 4 0 1 cap',[(b',.row 99 4 ((chcL (k+1) rows a).map (aStr ps)) cap')],rfl,?_,?_,?_,hlt2⟩
    ·rw[hsu];rfl
    ·rw[hsu];exact .row _ _ _
    ·intro y hy;simp only[List.mem_singleton] at hy;subst hy;exact n3
   ·have nq:=hq (bq,.row 99 4 ys cap) (by simp)
    simp only at nq
    have nq1:¬bA=bq:=fun e=>nq e.symm
    simp only[go_sem,List.cons_append,List.nil_append]
    repeat(first|((with_reducible refine AWp.ofC ?_ ?_);exact rfl;simp only[go_sem,gk,gR,ge,hdl,hRl,hei,nq,nq1])|((with_reducible refine an ?_ ?_);exact Au))
    intro b' cap' g8 g9
    have n3:¬b'=bA:=by omega
    have n4:¬bA=b':=by omega
    refine W2 n3 n4 ?_
    refine⟨_,List.Sublist.refl _,.ls b' 4 0 (ys.length+1) cap',[(b',.row 99 4 ((chcL (k+1) rows a).map (aStr ps)) cap')],rfl,?_,?_,?_,hlt2⟩
    ·rw[hsu];rfl
    ·rw[hsu];exact AppSt.snoc b' cap' _ rfl
    ·intro y hy;simp only[List.mem_singleton] at hy;subst hy;exact n3
 ·rintro vs L - ⟨v,Lq,rfl,rfl,hAp,hq,hlt⟩
  have hyl:((chcL ps.length rows a).map (aStr ps)).length=ps.length:=by rw[List.length_map,chcL_len]
  have hcl2:=hcl (chcL ps.length rows a) (by rw[chcL_len];omega) (hin a hlt)
  have hA2:aStrs ps (chcL ps.length rows a) = .sl 4 ((chcL ps.length rows a).map (aStr ps)):=rfl
  rcases hAp.inv with ⟨e1,_,_⟩|⟨bq,cap,rfl,rfl⟩
  ·rw[e1] at hyl;simp at hyl;omega
  have nq:=hq (bq,.row 99 4 ((chcL ps.length rows a).map (aStr ps)) cap) (by simp)
  simp only at nq
  have nq1:¬bA=bq:=fun e=>nq e.symm
  simp only[go_sem,List.cons_append,List.nil_append]
  repeat(first|((with_reducible refine AWp.ofC ?_ ?_);exact rfl;simp only[go_sem,chcL_len])|((with_reducible refine an ?_ ?_);exact Au))
  have hvw:∀xs,Vws [(bq,.row 99 4 ((chcL ps.length rows a).map (aStr ps)) cap),(bA,.row 3 1 (dnA ps.length a) ps.length)] (.ls bq 4 0 ps.length cap :: xs) (aStrs ps (chcL ps.length rows a) :: xs):=fun xs=>Vws.cons (Vw.ofLs (if_pos rfl) hyl.symm) (Vws.refl _)
  cases hc:clI ps (fun _=>true) (chcL ps.length rows a) with
  | none =>
   have hcE:aClash ps (fun _=>true) (chcL ps.length rows a) = .tup [ai 0,ai 0,ab false]:=by unfold aClash;rw[hc]
   have htgt:TgtS ps rows a:=⟨fun p hp=>hlt p hp,fun p q hp hq2 hpq=>by
    have:=clI_none hc p q (by rw[chcL_len];exact hp) (by rw[chcL_len];exact hq2) hpq rfl
    rw[chcL_get,chcL_get] at this
    exact this⟩
   rw[hcE] at hcl2
   rw[hT1 a ⟨htgt,hlow⟩,hA2]
   refine(PC.view (hvw _) hcl2 (Own.tup fun x hx=>by
    simp only[List.mem_cons,List.not_mem_nil,or_false] at hx
    rcases hx with rfl|rfl|rfl <;> exact Own.v _) ?_).val
   simp only[go_sem]
   refine W2 nq nq1 ?_
   refine ret_view [true,false] ?_;simp only[go_sem]
   exact .mkTup (Vws.cons (Vw.ofLs (if_pos rfl) hyl.symm) (Vws.refl _))
  | some i =>
   obtain⟨k,hi,hk,hik,_,hb,hcE⟩:=clI_some hc
   rw[chcL_get,chcL_get] at hb
   rw[chcL_len] at hi hk
   have gk:=dnA_get hk a
   have hlow2:=tgt_step hmon hlow hi hk hik hb
   have hset:(dnA ps.length a).set k (ai ((a k:Int)+1))=dnA ps.length (updN a k (a k+1)):=dnA_set (by rw[updN_self];omega) fun q hq=>updN_ne hq
   have hlk:=hlen k hk
   have hak:=hlt k hk
   rw[hcE] at hcl2
   refine(PC.view (hvw _) hcl2 (Own.tup fun x hx=>by
    simp only[List.mem_cons,List.not_mem_nil,or_false] at hx
    rcases hx with rfl|rfl|rfl <;> exact Own.v _) ?_).val
   simp only[go_sem]
   refine W4 nq nq1 gk hdl ?_
   refine⟨[(bA,_)],.cons _ (List.Sublist.refl _),_,?_,updN a k (a k+1),rfl,?_,?_,?_⟩
   ·refine totS_lt2 ps.length (p:=k) (fun q _ => ?_) hk ?_
    ·by_cases e:q=k
     ·subst e;rw[updN_self];omega
     ·rw[updN_ne e];exact Nat.le_refl _
    ·rw[updN_self];omega
   ·rw[hset]
   ·intro t ht p hp
    have:=hlow2 t ht p hp
    unfold updN
    split
    ·rename_i e;rw[if_pos e] at this;omega
    ·rename_i e;rw[if_neg e] at this;omega
   ·intro p hp
    by_cases e:p=k
    ·subst e;rw[updN_self];omega
    ·rw[updN_ne e];exact hle p hp
end Go.AL
end
