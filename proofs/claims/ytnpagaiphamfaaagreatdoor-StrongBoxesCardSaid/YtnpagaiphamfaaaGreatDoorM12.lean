/- Texts of this claim's proof: WMk, WMr, WMn. No condition. -/
import Derived.Test.YtnpagaiphamfaaaGreatDoorM11
import Derived.Test.YtnpagaiphamfaaaGreatDoorM10
import Derived.Test.YtnpagaiphamfaaaGreatDoorM6
section
namespace Go.AL
open Go Go.RowKit
set_option maxRecDepth 4000
def needE (ps:List Pr) (e:Ev):Eid:=if e.kind=3 then sndr ps e.msg else (0,0)
def aNeeds (ps:List Pr) (l:List Pr):List AV:=l.map fun x=>aEids (x.evs.map (needE ps))
def aMk (ps:List Pr):AV:=.agg [.sl 1 (ps.map fun x=>ai (x.evs.length:Nat)),.sl 1 (aNeeds ps ps)]
theorem AppSt.snoc {t:TypeId} {k:Nat} {ys:List AV} {x:AV} (b cap n:Nat) (hn:n=ys.length+1):AppSt t k (ys ++ [x]) (.ls b k 0 n cap) [(b,.row t k (ys ++ [x]) cap)]:=by
 subst hn
 have:=AppSt.row (t:=t) (k:=k) b (ys ++ [x]) cap
 rwa [List.length_append] at this
def mkL (ps:List Pr) (b2 b3 p:Nat) (L:AHeap):Prop :=
 (p=0∧L=[(b3,.row 193 2 [.agg [anil,anil]] 1),(b2,.row 193 2 [.agg [anil,anil]] 1)]) ∨
 ∃c1 c2 cap1 cap2,(¬c1=b3∧¬c1=b2∧¬c2=b3∧¬c2=b2∧¬c1=c2)∧L=[(c2,.row 161 1 (aNeeds ps (ps.take p)) cap2),(c1,.row 3 1 ((ps.take p).map fun x=>ai (x.evs.length:Nat)) cap1),
  (b3,.row 193 2 [.agg [.ls c1 1 0 p cap1,.ls c2 1 0 p cap2]] 1),(b2,.row 193 2 [.agg [anil,anil]] 1)]
theorem cuts_of (ps:List Pr) (hs:Sm ps) (hv:validF ps=true):PC Proofs.Tryz.prog 145 [aTr ps] (aMk ps):=by
 obtain⟨hl1,hl8⟩:=valid_len hv
 have hfs:∀m,findV ps 2 m=sndr ps m:=fun m=>by unfold findV sndr;rw[if_pos hv]
 have hsd:=trace_Sender ps hs
 simp only[hfs] at hsd
 refine PC.enter 55 [.cell 2 193] [1,5,8,9,36,44,50] Proofs.Tryz.func145 rfl rfl rfl rfl rfl (by simp) (AWp.of ?_);simp only[go_sem]
 intro b2
 refine Wk ?_
 intro b3 g1
 have n1:¬b3=b2:=by omega
 have n2:¬b2=b3:=by omega
 refine W2 n1 n2 ?_
 refine AWp.range' ps.length [] [1,2,3,11,12] (fun p vs L=>vs=[]∧mkL ps b2 b3 p L) (by omega) rfl rfl rfl ⟨rfl,.inl ⟨rfl,rfl⟩⟩ ?_ ?_
 ·rintro p vs L hp - ⟨rfl,hL⟩
  have hgp:=getD_map (f:=aPr) hp
  simp only[go_sem]
  refine W1 hgp ?_
  intro b5 g5
  have hel:=hs.evs _ (List.getElem_mem hp)
  refine Sd ?_
  refine AWp.of ?_;simp only[go_sem]
  refine AWp.cutF [1,2,3,5,6,11,12,13] (fun vs L1=>∃v,AppSt 104 2 ((ps[p].evs.map (needE ps)).map aEid) v L1 ∧
   vs=[.rp 1 [aTr ps] 0 0,.lp b2 2 0 0,.lp b3 2 0 0,.rp 3 [aPr ps[p]] 0 0,v,aPrs ps,ai (ps.length:Nat),ai (p:Nat)]) ?_ ?_
  ·refine Wk ?_
   refine AWp.range' ps[p].evs.length [6] [1,2,3,5,11,12,13,18,19] (fun i vs L=>∃v,vs=[v]∧AppSt 104 2 (((ps[p].evs.take i).map (needE ps)).map aEid) v L) (by omega) rfl rfl rfl ⟨anil,rfl,by rw[List.take_zero];exact .nil⟩ ?_ ?_
   ·rintro i vs L hi - ⟨v,rfl,hA⟩
    have hge:=getD_map (f:=aEv) hi
    have hne:needE ps ps[p].evs[i]=if ps[p].evs[i].kind=3 then sndr ps ps[p].evs[i].msg else (0,0):=rfl
    have hsn:=hsd ps[p].evs[i].msg
    have htk:((ps[p].evs.take (i+1)).map (needE ps)).map aEid=((ps[p].evs.take i).map (needE ps)).map aEid ++ [aEid (needE ps ps[p].evs[i])]:=by
     rw[List.take_succ_eq_append_getElem hi,List.map_append,List.map_append];rfl
    have hyl:(((ps[p].evs.take i).map (needE ps)).map aEid).length=i:=by simp;omega
    rw[htk]
    generalize ((ps[p].evs.take i).map (needE ps)).map aEid=ys at *
    generalize needE ps ps[p].evs[i]=ne at *
    rcases hA.inv with ⟨e1,rfl,rfl⟩|⟨bq,capq,rfl,rfl⟩
    ·simp only[go_sem]
     refine W1 hge ?_
     intro b8
     refine Wk ?_
     intro b9
     refine Wk ?_
     refine⟨fun h3 => ?_,fun h3 => ?_⟩
     ·rw[if_pos h3] at hne
      subst hne
      generalize sndr ps ps[p].evs[i].msg=sx at *
      obtain⟨s1,s2⟩:=sx
      refine Sd ?_
      refine(hsn).val.use ?_;simp only[go_sem]
      refine Wk ?_
      intro b' cap' hc'
      exact⟨_,List.cons_sublist_cons.2 (List.nil_sublist _),_,rfl,by rw[e1];exact .row b' [_] cap'⟩
     ·rw[if_neg h3] at hne
      subst hne
      refine Wk ?_
      intro b' cap' g' hc'
      exact⟨_,List.cons_sublist_cons.2 (List.nil_sublist _),_,rfl,by rw[e1];exact .row b' [_] cap'⟩
    ·simp only[go_sem]
     refine W1 hge ?_
     intro b8 g8
     refine Wk ?_
     intro b9 g9
     have n3:¬b9=bq:=by omega
     have n4:¬bq=b9:=by omega
     refine W2 n3 n4 ?_
     refine⟨fun h3 => ?_,fun h3 => ?_⟩
     ·rw[if_pos h3] at hne
      subst hne
      generalize sndr ps ps[p].evs[i].msg=sx at *
      obtain⟨s1,s2⟩:=sx
      refine Sd ?_
      refine(hsn).val.use ?_;simp only[go_sem]
      refine W2 n3 n4 ?_
      intro b' cap' hc'
      exact⟨_,List.cons_sublist_cons.2 (List.nil_sublist _),_,rfl,AppSt.snoc b' cap' _ rfl⟩
     ·rw[if_neg h3] at hne
      subst hne
      refine W2 n3 n4 ?_
      intro b' cap' g' hc'
      exact⟨_,List.cons_sublist_cons.2 (List.nil_sublist _),_,rfl,AppSt.snoc b' cap' _ rfl⟩
   ·rintro vs L - ⟨v,rfl,hA⟩
    rw[List.take_length] at hA
    simp only[go_sem]
    exact⟨L,List.Sublist.refl _,v,hA,rfl⟩
  ·rintro vs L1 - ⟨v,hA,rfl⟩
   simp only[go_sem]
   refine AWp.viewA (j:=6) hA rfl ?_
   clear g5
   have hs1:((ps.take (p+1)).map fun x=>ai (x.evs.length:Nat))=((ps.take p).map fun x=>ai (x.evs.length:Nat)) ++ [ai (ps[p].evs.length:Nat)]:=by
    rw[List.take_succ_eq_append_getElem hp,List.map_append];rfl
   have hs2:aNeeds ps (ps.take (p+1))=aNeeds ps (ps.take p) ++ [.sl 2 ((ps[p].evs.map (needE ps)).map aEid)]:=by
    unfold aNeeds;rw[List.take_succ_eq_append_getElem hp,List.map_append];rfl
   have hy1:((ps.take p).map fun x=>ai (x.evs.length:Nat)).length=p:=by simp;omega
   have hy2:(aNeeds ps (ps.take p)).length=p:=by simp [aNeeds];omega
   unfold mkL
   rw[hs1,hs2]
   generalize ((ps[p].evs.map (needE ps)).map aEid)=ne at *
   rcases hL with ⟨rfl,rfl⟩|⟨c1,c2,cap1,cap2,⟨d1,d2,d3,d4,d5⟩,rfl⟩
   ·have e1:=List.eq_nil_of_length_eq_zero hy1
    have e2:=List.eq_nil_of_length_eq_zero hy2
    rw[e1,e2]
    simp only[go_sem]
    refine W2 n1 n2 ?_
    intro c1 k1 h31 h21 hk1
    have d1:¬c1=b3:=by omega
    have d2:¬c1=b2:=by omega
    have d7:¬b3=c1:=by omega
    have d9:¬b2=c1:=by omega
    simp only[go_sem,d7]
    refine W6 n1 n2 d1 d2 d7 d9 ?_
    intro c2 k2 h12 h32 h22 hk2
    have d3:¬c2=b3:=by omega
    have d4:¬c2=b2:=by omega
    have d5:¬c1=c2:=by omega
    have d8:¬b3=c2:=by omega
    simp only[go_sem,d8]
    exact⟨_,List.Sublist.refl _,c1,c2,k1,k2,⟨d1,d2,d3,d4,d5⟩,rfl⟩
   ·generalize ((ps.take p).map fun x=>ai (x.evs.length:Nat))=ys1 at *
    generalize aNeeds ps (ps.take p)=ys2 at *
    have ht1:ys1.take p=ys1:=List.take_of_length_le (by omega)
    have ht2:ys2.take p=ys2:=List.take_of_length_le (by omega)
    have d6:¬c2=c1:=fun e=>d5 e.symm
    have d7:¬b3=c1:=fun e=>d1 e.symm
    have d8:¬b3=c2:=fun e=>d3 e.symm
    have d9:¬b2=c1:=fun e=>d2 e.symm
    have d10:¬b2=c2:=fun e=>d4 e.symm
    repeat(first|((with_reducible refine AWp.ofC ?_ ?_);exact rfl;simp only[go_sem,n1,d1,d2,d5,d7,d8,ht1])|((with_reducible refine an ?_ ?_);exact Au))
    intro x1 k1 h21 h31 h41 hk1
    have d1:¬x1=b3:=fun e=>h31 e.symm
    have d2:¬x1=b2:=fun e=>h41 e.symm
    have d11:¬x1=c2:=fun e=>h21 e.symm
    simp only[go_sem,h31]
    repeat(first|((with_reducible refine AWp.ofC ?_ ?_);exact rfl;simp only[go_sem,n1,d3,d4,d8,h31,h21,ht2])|((with_reducible refine an ?_ ?_);exact Au))
    intro x2 k2 h12 h32 h42 hk2
    simp only[go_sem,h32]
    exact⟨_,List.Sublist.refl _,x1,x2,k1,k2,⟨d1,d2,fun e=>h32 e.symm,fun e=>h42 e.symm,h12⟩,rfl⟩
 ·rintro vs L - ⟨rfl,hL⟩
  rcases hL with ⟨h0,rfl⟩|⟨c1,c2,cap1,cap2,⟨d1,d2,d3,d4,d5⟩,rfl⟩
  ·omega
  have d6:¬c2=c1:=fun e=>d5 e.symm
  have d7:¬b3=c1:=fun e=>d1 e.symm
  have d8:¬b3=c2:=fun e=>d3 e.symm
  have d9:¬b2=c1:=fun e=>d2 e.symm
  have d10:¬b2=c2:=fun e=>d4 e.symm
  rw[List.take_length]
  have hy1:(ps.map fun x=>ai (x.evs.length:Nat)).length=ps.length:=List.length_map _
  have hy2:(aNeeds ps ps).length=ps.length:=List.length_map _
  unfold aMk
  generalize (ps.map fun x=>ai (x.evs.length:Nat))=ys1 at *
  generalize aNeeds ps ps=ys2 at *
  simp only[go_sem]
  repeat(first|((with_reducible refine AWp.ofC ?_ ?_);exact rfl;simp only[go_sem,n1,n2,d7,d8,d9,d10])|((with_reducible refine an ?_ ?_);exact Au))
  refine ret_view [true,true,true,true] ?_;simp only[go_sem]
  simp only[go_sem,n2,d9,d10]
  exact .mkAgg (Vws.cons (Vw.ofLs (t:=3) (cap:=cap1) (by simp only[lk,d5,if_false,if_true]) hy1.symm) (Vws.cons (Vw.ofLs (t:=161) (cap:=cap2) (if_pos rfl) hy2.symm) .nil))
theorem cAt_stp {c:List Int} {p q:Nat} (hq:q<c.length):cAt (stpC c p) q=if p=q then cAt c q+1 else cAt c q:=by
 unfold stpC
 rw[setc_cAt hq]
 split
 ·rename_i e;rw[e]
 ·rfl
theorem stp_iff {ps:List Pr} (hv:validF ps=true) {c:List Int} (hc:isF ps c=true) {p:Nat} (hp:p<ps.length) {i:Nat} (hi:i<ps[p].evs.length) (hci:cAt c p=i) :
  isF ps (stpC c p)=true↔(needE ps ps[p].evs[i]).2≤cAt c (needE ps ps[p].evs[i]).1:=by
 obtain⟨h1,h2,h3⟩:=isF_iff.1 hc
 have hm:=(valid_parts hv).2.2
 have hr:=(inRange_iff h1).1 h2
 have hlen:(stpC c p).length=ps.length:=by unfold stpC;rw[List.length_set,h1]
 have hmono:∀q,q<ps.length→cAt c q≤cAt (stpC c p) q:=fun q hq=>by rw[cAt_stp (by omega)];split <;> omega
 unfold needE
 constructor
 ·intro h
  obtain⟨_,_,g3⟩:=isF_iff.1 h
  by_cases hk:ps[p].evs[i].kind=3
  ·rw[if_pos hk]
   have:=closed_iff.1 g3 p hp i hi hk (by rw[cAt_stp (by omega),if_pos rfl,hci];omega)
   obtain⟨s,hs,j,hj,e,hk2,_⟩:=sndr_some (recv_sndr hm hp hi hk)
   rw[e] at this ⊢
   dsimp only at this ⊢
   rw[cAt_stp (by omega)] at this
   split at this
   ·rename_i es;subst es
    by_cases hji:j=i
    ·subst hji;omega
    ·omega
   ·exact this
  ·rw[if_neg hk]
   have:=(hr 0 (by omega)).1
   simpa using this
 ·intro h
  refine isF_iff.2 ⟨hlen,(inRange_iff hlen).2 fun q hq => ?_,closed_iff.2 fun q hq i' hi' hk hle => ?_⟩
  ·have:=hr q hq
   rw[cAt_stp (by omega)]
   split
   ·rename_i e;subst e;omega
   ·exact this
  ·obtain⟨s,hs,j,hj,e,hk2,_⟩:=sndr_some (recv_sndr hm hq hi' hk)
   have hms:=hmono s hs
   by_cases hnew:q=p∧i'=i
   ·obtain⟨rfl,rfl⟩:=hnew
    rw[if_pos hk,e] at h
    rw[e];dsimp only at h ⊢;omega
   ·have:=closed_iff.1 h3 q hq i' hi' hk (by
     rw[cAt_stp (by omega)] at hle
     split at hle
     ·rename_i e2;subst e2
      have:i' ≠ i:=fun e=>hnew ⟨rfl,e⟩
      omega
     ·exact hle)
    rw[e] at this ⊢;dsimp only at this ⊢;omega
def rdyF (ps:List Pr) (c:List Int) (p:Nat):Bool:=decide (cAt c p<nev ps p∧isF ps (stpC c p)=true)
theorem need_in {ps:List Pr} (hv:validF ps=true) {p:Nat} (hp:p<ps.length) {i:Nat} (hi:i<ps[p].evs.length):0≤(needE ps ps[p].evs[i]).1∧(needE ps ps[p].evs[i]).1<ps.length:=by
 have hm:=(valid_parts hv).2.2
 unfold needE
 split
 ·rename_i hk
  obtain⟨s,hs,j,hj,e,hk2,_⟩:=sndr_some (recv_sndr hm hp hi hk)
  rw[e];dsimp only;omega
 ·dsimp only;omega
theorem maker_ready (ps:List Pr) (hs:Sm ps) (hv:validF ps=true) (c:List Int) (hc:isF ps c=true) (p:Nat) (hp:p<ps.length):PC Proofs.Tryz.prog 178 [aMk ps,aInts c,ai (p:Nat)] (ab (rdyF ps c p)):=by
 obtain⟨h1,h2,h3⟩:=isF_iff.1 hc
 have hr:=(inRange_iff h1).1 h2 p hp
 obtain⟨i,hci⟩:∃i:Nat,cAt c p=i:=⟨(cAt c p).toNat,by omega⟩
 have hpc:p<c.length:=by omega
 have hcp:c[p]=(i:Int):=by rw[← cAt_nat hpc];exact hci
 have hel:=hs.evs _ (List.getElem_mem hp)
 have g1:(c.map ai).getD p .any=ai i:=by rw[getD_map hpc,hcp]
 have g2:(ps.map fun x=>ai (x.evs.length:Nat)).getD p .any=ai (ps[p].evs.length:Nat):=getD_map (f:=fun x:Pr=>ai (x.evs.length:Nat)) hp
 have g3:(aNeeds ps ps).getD p .any=aEids (ps[p].evs.map (needE ps)):=getD_map (f:=fun x:Pr=>aEids (x.evs.map (needE ps))) hp
 have hnl:(aNeeds ps ps).length=ps.length:=List.length_map _
 have hrd:rdyF ps c p=decide (i<ps[p].evs.length∧isF ps (stpC c p)=true):=by
  unfold rdyF;rw[hci,nev_get hp];congr 2;exact propext ⟨fun h=>by omega,fun h=>by omega⟩
 rw[hrd]
 unfold aMk
 refine PC.enter 37 [.tmp 6] [3,7] Proofs.Tryz.func178 rfl rfl rfl rfl rfl (by simp) (AWp.of ?_);simp only[go_sem]
 refine W3 g1 g2 hnl ?_
 refine AWp.seq (AWp.seq ?_)
 repeat(first|(with_reducible refine AWp.seq ?_)|(with_reducible refine AWp.block ?_))
 refine AWp.read mixed [0,1,2,3,4,5,6,7,8,9] (by kernel_rfl) ?_;simp only[go_sem,g1,g2]
 refine Sd ?_
 refine Wk ?_
 refine⟨fun h => ?_,fun h => ?_⟩
 ·have:(decide (i<ps[p].evs.length) && isF ps (stpC c p))=false:=by rw[decide_eq_false (by omega)];rfl
  rw[this]
  refine Wk ?_
  refine ret_eq ?_;simp only[go_sem]
 ·have hi:i<ps[p].evs.length:=by
   have h5:=hr.2
   rw[hci] at h5
   omega
  have hst:=stp_iff hv hc hp hi hci
  have hin:=need_in hv hp hi
  have g4:((ps[p].evs.map (needE ps)).map aEid).getD i .any=aEid (needE ps ps[p].evs[i]):=by rw[List.map_map];exact getD_map (f:=fun e=>aEid (needE ps e)) hi
  have g5:((ps[p].evs.map (needE ps)).map aEid).length=ps[p].evs.length:=by rw[List.length_map,List.length_map]
  have e1:decide (i<ps[p].evs.length)=true:=decide_eq_true hi
  have e2:isF ps (stpC c p)=decide ((needE ps ps[p].evs[i]).2≤cAt c (needE ps ps[p].evs[i]).1):=by
   by_cases hb:isF ps (stpC c p)=true
   ·rw[hb];exact(decide_eq_true (hst.1 hb)).symm
   ·rw[Bool.not_eq_true] at hb
    rw[hb];exact(decide_eq_false fun h=>by rw[hst.2 h] at hb;cases hb).symm
  rw[e1,e2,Bool.true_and]
  generalize needE ps ps[p].evs[i]=ne at *
  obtain⟨n1,n2⟩:=ne
  have g6:=getD_cAt (c:=c) hin.1 (by omega)
  dsimp only at hin
  refine Wk ?_
  refine AWp.seq ?_
  repeat(first|(with_reducible refine AWp.seq ?_)|(with_reducible refine AWp.block ?_))
  refine AWp.mix mixed [0,1,2,3,4,5,6,7,8,9,10] (.step 11 (.step 12 .done .done) .done) (by kernel_rfl) ?_;simp only[go_sem,g1,g3,g4,g5,hnl]
  refine Sd ?_
  intro b7
  refine AWp.seq ?_
  repeat(first|(with_reducible refine AWp.seq ?_)|(with_reducible refine AWp.block ?_))
  refine AWp.read mixed [0,1,2,3,4,5,6,7,8] (by kernel_rfl) ?_;simp only[go_sem,g6]
  refine Sd ?_
  refine Wk ?_
  refine ret_eq ?_;simp only[go_sem]
def chl (ps:List Pr) (lv:List (List Int)) (i:Nat):List (List Int):=(lv.take i).flatMap (nextL ps)
theorem chl_succ {ps:List Pr} {lv:List (List Int)} {i:Nat} (hi:i<lv.length):chl ps lv (i+1)=chl ps lv i ++ nextL ps lv[i]:=by
 unfold chl;rw[List.take_succ_eq_append_getElem hi,List.flatMap_append];simp
theorem chl_len {ps:List Pr} {lv:List (List Int)} (h:∀c ∈ lv,c.length≤8):∀i,i≤lv.length→(chl ps lv i).length≤8 * i
 | 0,_=>by simp [chl]
 | i+1,hi=>by
  have:=chl_len (ps:=ps) h i (by omega)
  have h2:=nextT_len ps lv[i] lv[i].length
  have h3:=h lv[i] (List.getElem_mem _)
  rw[chl_succ (by omega),List.length_append]
  unfold nextL
  omega
theorem mem_chl {ps:List Pr} {lv:List (List Int)} {x:List Int} : x ∈ chl ps lv lv.length↔∃c ∈ lv,x ∈ nextL ps c:=by unfold chl;rw[List.take_length,List.mem_flatMap]
theorem Vw.front {L:AHeap} {b k n c:Nat} {t:TypeId} {xs ws:List AV} {cap:Nat} (h:lk L b=some (.row t k (xs ++ ws) cap)) (hn:n=xs.length):Vw L (.ls b k 0 n c) (.sl k xs):=by
 have e:((xs ++ ws).drop 0).take n=xs:=by rw[List.drop_zero,hn,List.take_left]
 exact .ls h (by rw[List.length_append];omega) (by rw[e]) (by rw[e];exact(Vws.refl xs).2)
theorem maker_next (ps:List Pr) (hs:Sm ps) (hv:validF ps=true) (k:Nat) (hk:(levF ps k).length≤5000):PC Proofs.Tryz.prog 146 [aMk ps,aRows (levF ps k)] (aRows (levF ps (k+1))):=by
 obtain⟨hl1,hl8⟩:=valid_len hv
 have hlev:∀c ∈ levF ps k,isF ps c=true:=fun c h=>((mem_levF hv k c).1 h).1
 have hnl:=next_lev hv k (l:=chl ps (levF ps k) (levF ps k).length) fun x=>mem_chl
 have hcl:=chl_len (ps:=ps) (lv:=levF ps k) fun c hc=>by rw[(isF_iff.1 (hlev c hc)).1];exact hl8
 have hall:∀x ∈ chl ps (levF ps k) (levF ps k).length,x.length≤1000000:=fun x hx=>by
  obtain⟨c,hc,hx⟩:=mem_chl.1 hx
  obtain⟨p,_,_,h4,rfl⟩:=mem_nextL.1 hx
  rw[(isF_iff.1 h4).1];omega
 rw[← hnl]
 clear hnl
 generalize levF ps k=lv at *
 unfold aMk
 refine PC.enter 43 [.tmp 4] [2,35] Proofs.Tryz.func146 rfl rfl rfl rfl rfl (by simp) (AWp.of ?_);simp only[go_sem]
 refine Wk ?_
 refine AWp.range' lv.length [5] [2,10,11] (fun i vs L=>∃v,vs=[v]∧AppSt 42 1 ((chl ps lv i).map aInts) v L) (by omega) rfl rfl rfl ⟨anil,rfl,by exact .nil⟩ ?_ ?_
 ·rintro i vs L hi - ⟨v,rfl,hA⟩
  have hgi:=getD_map (f:=aInts) hi
  have hci:=hlev _ (List.getElem_mem hi)
  have hcli:=hcl i (by omega)
  have hlc:=(isF_iff.1 hci).1
  rw[chl_succ hi]
  have hnx:nextL ps lv[i]=nextT ps lv[i] lv[i].length:=rfl
  rw[hnx]
  generalize lv[i]=c at *
  simp only[go_sem]
  refine W1 hgi ?_
  refine AWp.range' c.length [5] [2,7,10,11,12,17] (fun p vs L=>∃v,vs=[v]∧AppSt 42 1 ((chl ps lv i ++ nextT ps c p).map aInts) v L) (by omega) rfl rfl rfl ⟨v,rfl,by rw[show nextT ps c 0=[] from rfl,List.append_nil];exact hA⟩ ?_ ?_
  ·clear hA
   rintro p vs L hp - ⟨v,rfl,hA⟩
   have hrd:=maker_ready ps hs hv c hci p (by omega)
   have hrl:=nextT_len ps c p
   simp only[go_sem]
   unfold aMk at hrd
   have hn1:nextT ps c (p+1)=nextT ps c p ++ if rdyF ps c p=true then [stpC c p] else []:=by
    rw[nextT_succ];unfold nx1 rdyF;simp only[decide_eq_true_eq]
   rw[hn1]
   have hrg:=(inRange_iff hlc).1 (isF_iff.1 hci).2.1 p (by omega)
   have hel:=hs.evs _ (List.getElem_mem (show p<ps.length by omega))
   have hcp:cAt c p=c[p]:=cAt_nat hp
   have hgp:=getD_map (f:=ai) hp
   have hst:((c.map ai).set p (ai (c[p]+1)))=(stpC c p).map ai:=by unfold stpC;rw[List.map_set,hcp]
   have hsl:(stpC c p).length=c.length:=by unfold stpC;rw[List.length_set]
   generalize nextT ps c p=nt at *
   refine Wk ?_
   refine Sd ?_
   refine(hrd).val.use ?_;simp only[go_sem]
   generalize rdyF ps c p=rb at *
   refine Wk ?_
   refine⟨fun hb => ?_,fun hb => ?_⟩
   ·rw[if_pos hb]
    refine(MVal.frame (Lm:=[]) (Lr:=L) (ints_cloneO c (by omega)).val).mono ?_
    rintro r L' ⟨L1,rfl,hC⟩
    rcases hC.inv with ⟨e1,_,_⟩|⟨bc,capc,rfl,rfl⟩
    ·have:c.length=0:=by simpa using congrArg List.length e1
     omega
    simp only[go_sem,List.length_map]
    refine Sd ?_
    refine AWp.of ?_;simp only[go_sem,hgp]
    refine Sd ?_
    have ez:(chl ps lv i ++ (nt ++ [stpC c p])).map aInts=(chl ps lv i ++ nt).map aInts ++ [aInts (stpC c p)]:=by
     rw[← List.append_assoc,List.map_append];rfl
    have hyl:((chl ps lv i ++ nt).map aInts).length≤8 * 5000+8:=by rw[List.length_map,List.length_append];omega
    rw[ez]
    refine AWp.viewP (Lf:=[(bc,_)]) (Lk:=L) (L':=L) (List.Perm.refl _) (LVw.refl _) [(9,aInts (stpC c p))] (fun q hq => ?_) ?_
    ·obtain rfl:=List.mem_singleton.1 hq
     simp only[go_sem]
     rw[← hst]
     exact Vw.ofLs (t:=3) (cap:=capc) (if_pos rfl) (by simp)
    generalize (chl ps lv i ++ nt).map aInts=ys at *
    generalize stpC c p=d at *
    rcases hA.inv with ⟨e1,rfl,rfl⟩|⟨bq,capq,rfl,rfl⟩
    ·simp only[go_sem]
     refine Wk ?_
     intro b' cap' hc'
     exact⟨_,List.Sublist.refl _,_,rfl,by rw[e1];exact .row b' [_] cap'⟩
    ·simp only[go_sem]
     refine Wk ?_
     intro b' cap' hc'
     exact⟨_,List.Sublist.refl _,_,rfl,AppSt.snoc b' cap' _ rfl⟩
   ·rw[if_neg (by rw[hb];exact Bool.false_ne_true),List.append_nil]
    refine Wk ?_
    exact⟨L,List.Sublist.refl _,v,rfl,hA⟩
  ·rintro vs L - ⟨v,rfl,hA⟩
   simp only[go_sem]
   refine Wk ?_
   exact⟨L,List.Sublist.refl _,v,rfl,hA⟩
 ·rintro vs L - ⟨v,rfl,hA⟩
  have hchl:=hcl lv.length (Nat.le_refl _)
  generalize chl ps lv lv.length=ch at *
  have hsl:(sortL ch).length=ch.length:=(sortBy_perm cmpL ch).length_eq
  have hsm:∀x ∈ sortL ch,x.length≤1000000:=fun x hx=>hall x ((sortBy_perm cmpL ch).mem_iff.1 hx)
  rcases hA.inv with ⟨e1,rfl,rfl⟩|⟨b,cap,rfl,rfl⟩
  ·obtain rfl:ch=[]:=by simpa using e1
   simp only[go_sem]
   refine Wk ?_
   refine Sd ?_
   refine(sort_nil _).val.use ?_;simp only[go_sem]
   refine Wk ?_
   refine Sd ?_
   refine(compact_nil _).val.use ?_;simp only[go_sem]
   refine Wk ?_
   refine ret_view [] ?_;simp only[go_sem]
   rw[List.eq_nil_of_length_eq_zero (l:=sortL []) hsl]
   exact .nil 1
  ·have hso:=sort_rows b cap ch hall (by omega) 42
   have hco:=rows_compact b cap (sortL ch) hsm (by omega)
   rw[hsl] at hco
   generalize sortL ch=sc at *
   simp only[go_sem,List.length_map]
   refine Wk ?_
   refine hso.val.mono ?_
   rintro r L ⟨rfl,rfl⟩
   simp only[go_sem]
   refine Wk ?_
   refine hco.val.mono ?_
   rintro r L ⟨ws,cap',rfl,rfl⟩
   generalize compL sc=cc at *
   simp only[go_sem]
   refine Wk ?_
   refine ret_view [true] ?_;simp only[go_sem]
   exact Vw.front (if_pos rfl) (by rw[List.length_map])
end Go.AL
end
