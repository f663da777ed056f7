/- Texts of this claim's proof: WOd, WNk, WXh, WXi, WOe, WV4, WV5, WFa, WFb, WGp, WGa, WV7, WXp. No condition. -/
import Derived.Test.YtkkcgocdmaodbaaGreatDoorM16
import Derived.Test.YtkkcgocdmaodbaaGreatDoorM15
import Derived.Test.YtkkcgocdmaodbaaGreatDoorM10
import Derived.Test.YtkkcgocdmaodbaaGreatDoorM14
import Derived.Test.YtkkcgocdmaodbaaGreatDoorM7
section
namespace Go.AL
open Go Go.RowKit
set_option maxRecDepth 4000
def QS (b5 n:Nat) (d:List Int) (Q:List Eid) (v:AV) (L:AHeap):Prop :=
 ∃b off cap xs,(¬b=b5∧¬b5=b)∧v = .ls b 2 off Q.length cap∧L=[(b,.row 72 2 xs (off+cap)),(b5,.row 3 1 (d.map ai) n)]∧off+Q.length≤xs.length∧(xs.drop off).take Q.length=Q.map aEid
theorem drop_take_app {α:Type} {xs ys:List α} {o n:Nat} (h:o+n≤xs.length):(xs.take (o+n) ++ ys).drop o=(xs.drop o).take n ++ ys:=by
 rw[List.drop_append_of_le_length (by rw[List.length_take];omega),List.drop_take,show o+n - o=n by omega]
theorem QS.back {b5 n:Nat} {d:List Int} {Q Z:List Eid} {b cap off:Nat} {xs:List AV} (h1:¬b=b5) (hl:off+Q.length≤xs.length) (ht:(xs.drop off).take Q.length=Q.map aEid) :
  QS b5 n d (Q ++ Z) (.ls b 2 off (Q ++ Z).length cap) [(b,.row 72 2 (xs.take (off+Q.length) ++ Z.map aEid) (off+cap)),(b5,.row 3 1 (d.map ai) n)]:=by
 refine⟨b,off,cap,_,⟨h1,fun e=>h1 e.symm⟩,rfl,rfl,?_,?_⟩
 ·rw[List.length_append,List.length_append,List.length_take,List.length_map];omega
 ·rw[drop_take_app hl,ht,← List.map_append,List.take_of_length_le (by rw[List.length_map];exact Nat.le_refl _)]
theorem QS.anew {b5 n:Nat} {d:List Int} {Q Z:List Eid} {b cap off:Nat} {xs:List AV} (h1:¬b=b5) (ht:(xs.drop off).take Q.length=Q.map aEid) :
  QS b5 n d (Q ++ Z) (.ls b 2 0 (Q ++ Z).length cap) [(b,.row 72 2 ((xs.drop off).take Q.length ++ Z.map aEid) cap),(b5,.row 3 1 (d.map ai) n)]:=by
 refine⟨b,0,cap,(Q ++ Z).map aEid,⟨h1,fun e=>h1 e.symm⟩,rfl,by rw[ht,← List.map_append,Nat.zero_add],by rw[List.length_map];omega,?_⟩
 rw[List.drop_zero,List.take_of_length_le (by rw[List.length_map];exact Nat.le_refl _)]
theorem MVal.nd {P:Program} {g:AV} {args:List AV} {L:AHeap} {K:AV→AHeap→Prop} (h:MVal P g args L K):MVal P g args L fun r L'=>(L'.map (·.1)).Nodup∧K r L' :=
 fun n w A gv vs h1 h2 h3=>(h n w A gv vs h1 h2 h3).mono fun _ _ ⟨v,r,L',A',e1,hK,hf,hA,hL,hr⟩=>⟨v,r,L',A',e1,⟨hL.nodup,hK⟩,hf,hA,hL,hr⟩
theorem causality_past (ps:List Pr) (hs:Sm ps) (hv:validF ps=true) (p:Nat) (hp:p<ps.length) (i:Nat) (hi:i<ps[p].evs.length):PC Proofs.Tryz.prog 215 [kwV ps,aEid (p,(i:Int)+1)] (aInts (ptF ps p i)):=by
 have hbk:=fun (q:Nat) (hq:q<ps.length) (j:Nat) (hj:j<ps[q].evs.length)=>causality_back ps hs hv q hq j hj
 have hof:=off_small hs ps.length (Nat.le_refl _)
 have h8:=(valid_len hv).2
 have hel:∀(q:Nat) (hq:q<ps.length),ps[q].evs.length≤1000000:=fun q hq=>hs.evs _ (List.getElem_mem hq)
 have hD:=pt_is hv hp hi
 have hP0:=past_zero hv hp hi
 have hdone:=fun d=>past_done hv hp hi (d:=d)
 have hx:VEv ps ((p:Int),(i:Int)+1):=⟨p,hp,i,hi,rfl⟩
 have hDl:=(isF_iff.1 hD).1
 have hDr:=(inRange_iff hDl).1 (isF_iff.1 hD).2.1
 unfold kwV at hbk ⊢
 generalize mapK (evM ps 2 (off ps ps.length))=K2 at *
 generalize mapV (evM ps 2 (off ps ps.length))=V2 at *
 generalize mapK (evM ps 3 (off ps ps.length))=K3 at *
 generalize mapV (evM ps 3 (off ps ps.length))=V3 at *
 have haE:∀(u w:Int),aEid (u,w) = .agg [ai u,ai w]:=fun _ _=>rfl
 rw[haE]
 generalize hDD:ptF ps p i=D at *
 refine PC.enter 58 [.tmp 4] [2,3,7] Proofs.Tryz.func215 rfl rfl rfl rfl rfl (by simp) (AWp.of ?_);simp only[go_sem]
 refine Wk ?_
 intro b5
 refine Wk ?_
 intro bq gq
 refine Wk ?_
 have n1:¬bq=b5:=by omega
 refine AWp.seq (AWp.block (AWp.loopN [6] [2,5] (fun m vs L=>∃(d:List Int) (Q:List Eid) (v:AV),vs=[v]∧PastI ps ((p:Int),(i:Int)+1) D d Q∧m=pastM ps d Q∧m≤3 * off ps ps.length+1∧QS b5 ps.length d Q v L) (pastM ps (List.replicate ps.length 0) [((p:Int),(i:Int)+1)]) ?_ ?_))
 ·refine⟨List.replicate ps.length 0,[((p:Int),(i:Int)+1)],_,rfl,hP0,rfl,?_,bq,0,1,[aEid ((p:Int),(i:Int)+1)],⟨n1,fun e=>n1 e.symm⟩,rfl,?_,Nat.le_refl _,rfl⟩
  ·unfold pastM
   simp
  ·rw[List.map_replicate];rfl
 rintro m vs L - ⟨d,Q,v,rfl,hI,rfl,hM,b,off,cap,xs,⟨d1,d2⟩,rfl,rfl,hl,ht⟩
 have hdl:=hI.len
 simp only[go_sem]
 refine AWp.capOk (b:=b) (if_pos rfl) fun hcap => ?_
 cases Q with
 | nil =>
  have hz:¬(0:Int)<((0:Nat):Int):=by omega
  have hde:=hdone d hI
  repeat(first|((with_reducible refine AWp.ofC ?_ ?_);exact rfl;simp only[go_sem,List.length_nil,hz])|((with_reducible refine an ?_ ?_);exact Au))
  refine ret_view [false,true] ?_;simp only[go_sem]
  rw[hde]
  exact Vw.ofLs (if_pos rfl) (by rw[List.length_map];omega)
 | cons y Q =>
  obtain⟨⟨q,hq,j,hj,rfl⟩,hyD⟩:=hI.q _ List.mem_cons_self
  have hM2:(((q:Int),(j:Int)+1) :: Q).length≤24000001:=by unfold pastM at hM;omega
  have hgt:(0:Int)<(((((q:Int),(j:Int)+1) :: Q).length:Nat):Int):=by rw[List.length_cons];omega
  have hx0:xs.getD off .any = .agg [ai q,ai ((j:Int)+1)]:=by
   have h0:((xs.drop off).take (((q:Int),(j:Int)+1) :: Q).length)[0]?=some (aEid ((q:Int),(j:Int)+1)):=by rw[ht];rfl
   rw[List.getElem?_take,if_pos (by rw[List.length_cons];omega),List.getElem?_drop,Nat.add_zero] at h0
   rw[List.getD_eq_getElem?_getD,h0];rfl
  have hl2:off+1+Q.length≤xs.length:=by rw[List.length_cons] at hl;omega
  have ht2:(xs.drop (off+1)).take Q.length=Q.map aEid:=by
   have:((xs.drop off).take (Q.length+1)).drop 1=(xs.drop (off+1)).take Q.length:=by
    rw[List.drop_take,List.drop_drop,show Q.length+1 - 1=Q.length by omega]
   rw[← this]
   rw[List.length_cons] at ht
   rw[ht];rfl
  have hqd:q<d.length:=by omega
  have hgd:=getD_map (f:=ai) hqd
  have hcq:=cAt_nat hqd
  rw[List.length_cons] at hl
  have hgt:(0:Int)<((Q.length+1:Nat):Int):=by omega
  have hls:((Q.length+1:Nat):Int).toNat - (1:Int).toNat=Q.length:=by omega
  repeat(first|((with_reducible refine AWp.ofC ?_ ?_);exact rfl;simp only[go_sem,List.length_cons,hgt,hx0])|((with_reducible refine an ?_ ?_);exact Au))
  intro b7 g7a g7b
  clear g7a g7b
  repeat(first|((with_reducible refine AWp.ofC ?_ ?_);exact rfl;simp only[go_sem,Nat.add_sub_cancel])|((with_reducible refine an ?_ ?_);exact Au))
  have hQ:QS b5 ps.length d Q (.ls b 2 (off+1) Q.length (cap - 1)) [(b,.row 72 2 xs (off+cap)),(b5,.row 3 1 (d.map ai) ps.length)] :=
   ⟨b,off+1,cap - 1,xs,⟨d1,d2⟩,rfl,by rw[show off+1+(cap - 1)=off+cap by omega],hl2,ht2⟩
  refine AWp.seq (AWp.seq ?_)
  repeat(first|(with_reducible refine AWp.seq ?_)|(with_reducible refine AWp.block ?_))
  refine AWp.read mixed [0,1,2,3,4,5,6,7] (by kernel_rfl) ?_;simp only[go_sem,hgd,d2]
  refine Sd ?_
  refine Wk ?_
  refine⟨fun hge => ?_,fun hlt => ?_⟩
  ·refine Wk ?_
   have hsk:=past_skip hI (by show (j:Int)+1≤cAt d q;omega)
   refine⟨_,List.Sublist.refl _,_,?_,d,Q,_,rfl,hsk,rfl,?_,hQ⟩
   ·unfold pastM;rw[List.length_cons];omega
   ·unfold pastM at hM ⊢;rw[List.length_cons] at hM;omega
  ·have hdq:=hI.le q hq
   have hlt':cAt d q<(j:Int)+1:=by omega
   have hnx:=past_take hv hx hD hq hj hI hlt'
   have hls:=past_less (m:=j+1 - (cAt d q).toNat) hD hI hnx rfl hq (by omega) hlt'
   have hel2:=hel q hq
   generalize hn0:(cAt d q).toNat=n0 at *
   have hdn:d[q]=(n0:Int):=by omega
   generalize hm0:j+1 - n0=m0 at *
   have hjm:(j:Int)+1=((n0+m0:Nat):Int):=by omega
   have hQl:Q.length≤24000001:=by rw[List.length_cons] at hM2;omega
   clear hl hl2 ht ht2 hx0 hcap hgt
   refine Wk ?_
   rw[hjm]
   refine AWp.block (AWp.loopN [6,8] [2,5,7] (fun m vs L=>∃(A:List Eid) (v:AV),vs=[v,ai ((n0+m:Nat):Int)]∧m≤m0∧A ++ pushL ps q n0 m=pushL ps q n0 m0∧QS b5 ps.length d (Q ++ A) v L) m0 ⟨[],_,rfl,Nat.le_refl _,rfl,by rw[List.append_nil];exact hQ⟩ ?_)
   clear hQ d1 d2
   rintro m vs L - ⟨A,v,rfl,hmm,hA,b,off,cap,xs,⟨d1,d2⟩,rfl,rfl,hl,ht⟩
   simp only[go_sem]
   refine AWp.capOk (b:=b) (if_pos rfl) fun hcap => ?_
   cases m with
   | zero =>
    have hz:¬((n0:Int)<((n0+0:Nat):Int)):=by omega
    repeat(first|((with_reducible refine AWp.ofC ?_ ?_);exact rfl;simp only[go_sem,hgd,hdn,d2,Nat.add_zero,Int.lt_irrefl])|((with_reducible refine an ?_ ?_);exact Au))
    rw[hjm] at hls hnx hM
    have hA2:A=pushL ps q n0 m0:=by
     have:pushL ps q n0 0=[]:=rfl
     rw[this,List.append_nil] at hA;exact hA
    subst hA2
    refine⟨_,List.Sublist.refl _,_,hls,d.set q ((n0+m0:Nat):Int),Q ++ pushL ps q n0 m0,_,rfl,hnx,rfl,?_,b,off,cap,xs,⟨d1,d2⟩,rfl,?_,hl,ht⟩
    ·omega
    ·rw[List.map_set]
   | succ m =>
    have hgt:(n0:Int)<((n0+m:Nat):Int)+1:=by omega
    have hcast:((n0+(m+1):Nat):Int)=((n0+m:Nat):Int)+1:=by omega
    have hb:=hbk q hq (n0+m) (by omega)
    rw[haE] at hb
    rw[hcast]
    refine W5 hgd hdn d1 d2 hgt ?_
    refine Sd ?_
    have hQA:(Q ++ A).length≤100000000:=by
     have h1:=pushL_len ps q n0 m0
     have h2:=congrArg List.length hA
     rw[List.length_append] at h2 ⊢
     omega
    have hdl2:=dirL_len ps q (n0+m)
    refine(MVal.nd (MVal.frame (Lm:=[]) (Lr:=[(b,.row 72 2 xs (off+cap)),(b5,.row 3 1 (d.map ai) ps.length)]) hb.val)).mono ?_
    rintro r L' ⟨hnd,Ln,rfl,hAn⟩
    have hfo:=hAn.fo
    have hcons:A ++ dirL ps q (n0+m) ++ pushL ps q n0 m=pushL ps q n0 m0:=by rw[List.append_assoc];exact hA
    have hass:Q ++ A ++ dirL ps q (n0+m)=Q ++ (A ++ dirL ps q (n0+m)):=List.append_assoc _ _ _
    generalize dirL ps q (n0+m)=Z at *
    generalize hQA2:Q ++ A=QA at *
    rcases hAn.inv with ⟨e1,rfl,rfl⟩|⟨bn,capn,rfl,rfl⟩
    ·have e1:Z=[]:=List.map_eq_nil_iff.1 e1
     subst e1
     cases off with
     | zero =>
      simp only[go_sem,hfo]
      refine Sd ?_
      intro b' cap' g1 g2
      have n7:¬b'=b5:=by omega
      repeat(first|((with_reducible refine AWp.ofC ?_ ?_);exact rfl;simp only[go_sem,Int.add_sub_cancel])|((with_reducible refine an ?_ ?_);exact Au))
      refine⟨_,List.Sublist.refl _,m,by omega,A ++ [],_,rfl,by omega,hcons,?_⟩
      have:=QS.anew (Z:=[]) (cap:=cap') (d:=d) (n:=ps.length) n7 ht
      rw[← hass]
      simpa using this
     | succ off =>
      simp only[go_sem,hfo]
      refine Sd ?_
      refine⟨fun g0 => ?_,fun b' cap' g1 g2 g3 => ?_⟩
      ·repeat(first|((with_reducible refine AWp.ofC ?_ ?_);exact rfl;simp only[go_sem,Int.add_sub_cancel])|((with_reducible refine an ?_ ?_);exact Au))
       refine⟨_,List.Sublist.refl _,m,by omega,A ++ [],_,rfl,by omega,hcons,?_⟩
       have:=QS.back (Z:=[]) (cap:=cap) (d:=d) (n:=ps.length) d1 hl ht
       rw[← hass]
       simpa using this
      ·repeat(first|((with_reducible refine AWp.ofC ?_ ?_);exact rfl;simp only[go_sem,Int.add_sub_cancel])|((with_reducible refine an ?_ ?_);exact Au))
       have n7:¬b'=b5:=by omega
       refine⟨_,List.Sublist.refl _,m,by omega,A ++ [],_,rfl,by omega,hcons,?_⟩
       have:=QS.anew (Z:=[]) (cap:=cap') (d:=d) (n:=ps.length) n7 ht
       rw[← hass]
       simpa using this
    ·have hbn:¬b=bn∧¬b5=bn:=by
      simp only[List.singleton_append,List.map_cons,List.map_nil,List.nodup_cons,List.mem_cons] at hnd
      exact⟨fun e=>hnd.1 (.inl e.symm),fun e=>hnd.1 (.inr (.inl e.symm))⟩
     obtain⟨n3,n4⟩:=hbn
     have n5:¬bn=b:=fun e=>n3 e.symm
     have n6:¬bn=b5:=fun e=>n4 e.symm
     cases off with
     | zero =>
      simp only[go_sem,n3,n5,n6,d1]
      refine Sd ?_
      intro b' cap' g1 g2 g3
      have n7:¬b'=b5:=by omega
      repeat(first|((with_reducible refine AWp.ofC ?_ ?_);exact rfl;simp only[go_sem,Int.add_sub_cancel])|((with_reducible refine an ?_ ?_);exact Au))
      refine⟨[_,_],.cons_cons _ (.cons _ (.refl _)),m,by omega,A ++ Z,_,rfl,by omega,hcons,?_⟩
      have:=QS.anew (Z:=Z) (cap:=cap') (d:=d) (n:=ps.length) n7 ht
      rw[← hass]
      simpa using this
     | succ off =>
      simp only[go_sem,n3,n5,n6,d1]
      refine Sd ?_
      refine⟨fun g0 => ?_,fun b' cap' g1 g2 g3 g4 => ?_⟩
      ·repeat(first|((with_reducible refine AWp.ofC ?_ ?_);exact rfl;simp only[go_sem,Int.add_sub_cancel])|((with_reducible refine an ?_ ?_);exact Au))
       refine⟨[_,_],.cons _ (.refl _),m,by omega,A ++ Z,_,rfl,by omega,hcons,?_⟩
       have:=QS.back (Z:=Z) (cap:=cap) (d:=d) (n:=ps.length) d1 hl ht
       rw[← hass]
       simpa using this
      ·repeat(first|((with_reducible refine AWp.ofC ?_ ?_);exact rfl;simp only[go_sem,Int.add_sub_cancel])|((with_reducible refine an ?_ ?_);exact Au))
       have n7:¬b'=b5:=by omega
       refine⟨[_,_],.cons_cons _ (.cons _ (.refl _)),m,by omega,A ++ Z,_,rfl,by omega,hcons,?_⟩
       have:=QS.anew (Z:=Z) (cap:=cap') (d:=d) (n:=ps.length) n7 ht
       rw[← hass]
       simpa using this
noncomputable def pstE (ps:List Pr) (x:Eid):Int:=if validF ps=true then (if eidOk ps x=true then 0 else 2) else 1
noncomputable def pstF (ps:List Pr) (x:Eid):List Int:=if pstE ps x=0 then ptF ps x.1.toNat (x.2.toNat - 1) else []
theorem pst_zero {ps:List Pr} {x:Eid} (h:pstE ps x=0):validF ps=true∧∃(p:Nat) (hp:p<ps.length) (i:Nat) (_:i<ps[p].evs.length),x=((p:Int),(i:Int)+1)∧pstF ps x=ptF ps p i:=by
 have h0:=h
 unfold pstE at h
 split at h
 ·rename_i hv
  split at h
  ·rename_i hx
   obtain⟨p,hp,i,hi,rfl⟩:=eidOk_iff.1 hx
   refine⟨hv,p,hp,i,hi,rfl,?_⟩
   unfold pstF
   rw[if_pos h0]
   have e1:((p:Int)).toNat=p:=by omega
   have e2:((i:Int)+1).toNat - 1=i:=by omega
   rw[e1,e2]
  ·simp at h
 ·simp at h
theorem causality_Past (ps:List Pr) (hs:Sm ps) (x:Eid):PC Proofs.Tryz.prog 172 [aTr ps,aEid x] (.tup [aInts (pstF ps x),ai (pstE ps x)]):=by
 have hc:=causality_check1 ps hs x
 change PC _ _ _ (ai (pstE ps x)) at hc
 by_cases h0:pstE ps x=0
 ·obtain⟨hv,p,hp,i,hi,rfl,hF⟩:=pst_zero h0
  have hk:=causality_knows ps hs hv
  have hpt:=causality_past ps hs hv p hp i hi
  rw[hF,h0]
  rw[h0] at hc
  unfold kwV at hk hpt
  generalize hK:[AV.sl 3 (ps.map aPr),AV.rm (mapK (evM ps 2 (off ps ps.length))) (mapV (evM ps 2 (off ps ps.length))),AV.rm (mapK (evM ps 3 (off ps ps.length))) (mapV (evM ps 3 (off ps ps.length)))]=K at *
  generalize ptF ps p i=D at *
  change PC _ _ [_,.agg [ai p,ai ((i:Int)+1)]] _ at hpt
  change PC _ _ [_,.sl 2 [.agg [ai p,ai ((i:Int)+1)]]] _ at hc
  change PC _ _ [_,.agg [ai p,ai ((i:Int)+1)]] _
  refine PC.enter 18 [.tmp 4,.tmp 5] [2,3,9] Proofs.Tryz.func172 rfl rfl rfl rfl rfl (by simp) (AWp.of ?_);simp only[go_sem]
  refine Wk ?_
  refine Sd ?_
  refine(hc).val.use ?_;simp only[go_sem]
  refine Wk ?_
  refine AWp.seq ?_
  repeat(first|(with_reducible refine AWp.seq ?_)|(with_reducible refine AWp.block ?_))
  refine AWp.read mixed [0,1,2,3,4,5] (by kernel_rfl) ?_;simp only[go_sem]
  refine Sd ?_
  refine Gc hk ?_
  refine Sd ?_
  refine Gc hpt ?_
  refine Wk ?_
  refine ret_eq ?_;simp only[go_sem]
 ·have hF:pstF ps x=[]:=by unfold pstF;rw[if_neg h0]
  rw[hF]
  generalize pstE ps x=e at *
  obtain⟨u,w⟩:=x
  change PC _ _ [_,.sl 2 [.agg [ai u,ai w]]] _ at hc
  change PC _ _ [_,.agg [ai u,ai w]] _
  refine PC.enter 18 [.tmp 4,.tmp 5] [2,3,9] Proofs.Tryz.func172 rfl rfl rfl rfl rfl (by simp) (AWp.of ?_);simp only[go_sem]
  refine W1 h0 ?_
  refine Sd ?_
  refine(hc).val.use ?_;simp only[go_sem]
  refine W1 h0 ?_
  refine ret_view [] ?_;simp only[go_sem]
  exact .mkTup (Vws.cons (.nil 1) (Vws.refl _))
def pastV (ps:List Pr) (s:Stp):AV:=if s.2.2=nev ps s.1 then anil else aInts (ptF ps s.1 s.2.2)
def aStr (ps:List Pr) (s:Stp):AV:=.agg [ai s.1,ai s.2.1,ai s.2.2,pastV ps s]
def SpIn (ps:List Pr) (s:Stp):Prop:=s.1<ps.length∧s.2.1≤s.2.2∧s.2.2≤nev ps s.1
theorem pastV_fo (ps:List Pr) (s:Stp):fo (pastV ps s)=(True,pastV ps s):=by unfold pastV;split <;> rfl
theorem pastV_one (ps:List Pr) (s:Stp):one (pastV ps s)=true:=by unfold pastV;split <;> rfl
attribute [go_sem ↓] pastV_fo pastV_one
theorem strong_events (ps:List Pr) (hs:Sm ps) (p:Nat) (hp:p<ps.length):PC Proofs.Tryz.prog 115 [aTr ps,ai p] (ai (nev ps p:Nat)):=by
 have hgp:=getD_map (f:=aPr) hp
 have hn:=nev_get hp
 have hl:=hs.procs
 rw[hn]
 refine PC.enter 12 [.tmp 4] [2] Proofs.Tryz.func115 rfl rfl rfl rfl rfl (by simp) (AWp.of ?_);simp only[go_sem]
 refine W1 hgp ?_
 refine ret_eq ?_;simp only[go_sem]
theorem strong_measured (ps:List Pr) (hs:Sm ps) (hv:validF ps=true) (s:Stp) (h:SpIn ps s):PC Proofs.Tryz.prog 119 [aTr ps,aStp s] (aStr ps s):=by
 obtain⟨p,f,t⟩:=s
 obtain⟨h1,h2,h3⟩:=h
 have h1:p<ps.length:=h1
 have h2:f≤t:=h2
 have h3:t≤nev ps p:=h3
 have hev:=strong_events ps hs p h1
 have hel:=hs.evs _ (List.getElem_mem h1)
 have hn:=nev_get h1
 have hpst:=causality_Past ps hs ((p:Int),(t:Int)+1)
 have hR:aStr ps (p,f,t) = .agg [ai p,ai f,ai t,pastV ps (p,f,t)]:=rfl
 have hA:aStp (p,f,t) = .agg [ai p,ai f,ai t]:=rfl
 rw[hR,hA]
 by_cases ht:t<nev ps p
 ·have hti:(t:Int)<((nev ps p:Nat):Int):=by omega
  have hE:pstE ps ((p:Int),(t:Int)+1)=0:=by
   unfold pstE
   rw[hv,if_pos rfl,if_pos (eidOk_iff.2 ⟨p,h1,t,by omega,rfl⟩)]
  have hF:pstF ps ((p:Int),(t:Int)+1)=ptF ps p t:=by
   obtain⟨_,p',hp',i',hi',he,hF⟩:=pst_zero hE
   simp only[Prod.mk.injEq] at he
   obtain⟨e1,e2⟩:=he
   have e1:p=p':=by omega
   have e2:t=i':=by omega
   subst e1 e2
   exact hF
  have hP:pastV ps (p,f,t)=aInts (ptF ps p t):=by
   unfold pastV;rw[if_neg (show ¬t=nev ps p by omega)]
  rw[hE,hF] at hpst
  rw[hP]
  change PC _ _ [_,.agg [ai p,ai ((t:Int)+1)]] _ at hpst
  generalize ptF ps p t=D at *
  generalize nev ps p=n at *
  refine PC.enter 28 [.cell 4 176] [2,3] Proofs.Tryz.func119 rfl rfl rfl rfl rfl (by simp) (AWp.of ?_);simp only[go_sem]
  refine Wk ?_
  intro b4
  refine Wk ?_
  intro b5 g5
  have n1:¬b4=b5:=by omega
  have n2:¬b5=b4:=by omega
  refine W2 n1 n2 ?_
  repeat(first|(with_reducible refine AWp.seq ?_)|(with_reducible refine AWp.block ?_))
  refine AWp.read mixed [0,1,2,3,4,5,6] (by kernel_rfl) ?_;simp only[go_sem]
  refine Sd ?_
  refine GCall.use (ai (n:Nat)) (fun _=>⟨At,(hev).val.use ⟨rfl,rfl⟩⟩) ?_;simp only[go_sem]
  refine W3 hti n1 n2 ?_
  refine Sd ?_
  refine(hpst).val.use ?_;simp only[go_sem,n2]
  refine W2 n1 n2 ?_
  refine ret_eq ?_
  simp only[go_sem,n1]
 ·have hti:¬(t:Int)<((nev ps p:Nat):Int):=by omega
  have hP:pastV ps (p,f,t)=anil:=by
   unfold pastV;rw[if_pos (show t=nev ps p by omega)]
  rw[hP]
  generalize nev ps p=n at *
  refine PC.enter 28 [.cell 4 176] [2,3] Proofs.Tryz.func119 rfl rfl rfl rfl rfl (by simp) (AWp.of ?_);simp only[go_sem]
  refine Wk ?_
  intro b4
  refine Wk ?_
  intro b5 g5
  have n1:¬b4=b5:=by omega
  have n2:¬b5=b4:=by omega
  refine W2 n1 n2 ?_
  repeat(first|(with_reducible refine AWp.seq ?_)|(with_reducible refine AWp.block ?_))
  refine AWp.read mixed [0,1,2,3,4,5,6] (by kernel_rfl) ?_;simp only[go_sem]
  refine Sd ?_
  refine GCall.use (ai (n:Nat)) (fun _=>⟨At,(hev).val.use ⟨rfl,rfl⟩⟩) ?_;simp only[go_sem]
  refine W3 hti n1 n2 ?_
  refine ret_eq ?_
  simp only[go_sem,n1]
theorem strong_begins (ps:List Pr) (_hs:Sm ps) (hv:validF ps=true) (a o:Stp) (ha:SpIn ps a) (ho:SpIn ps o):PC Proofs.Tryz.prog 118 [aStr ps a,aStr ps o] (ab (bgN ps a o)):=by
 obtain⟨p,f,t⟩:=a
 obtain⟨q,f',t'⟩:=o
 obtain⟨h1,h2,h3⟩:=ha
 obtain⟨k1,k2,k3⟩:=ho
 have h1:p<ps.length:=h1
 have k1:q<ps.length:=k1
 have k3:t'≤nev ps q:=k3
 have hb:bgN ps (p,f,t) (q,f',t')=(decide (f=0) || (decide (t'=nev ps q) || decide ((f:Int)≤cAt (ptF ps q t') p))):=rfl
 have hA:aStr ps (p,f,t) = .agg [ai p,ai f,ai t,pastV ps (p,f,t)]:=rfl
 have hO:aStr ps (q,f',t') = .agg [ai q,ai f',ai t',pastV ps (q,f',t')]:=rfl
 have hfo:=pastV_fo ps (p,f,t)
 have hon:=pastV_one ps (p,f,t)
 have hf0:decide (f=0)=decide ((f:Int)=0):=by rw[decide_eq_decide];omega
 rw[hA,hO]
 by_cases ht:t'=nev ps q
 ·have hP:pastV ps (q,f',t')=anil:=by unfold pastV;rw[if_pos ht]
  have hbt:bgN ps (p,f,t) (q,f',t')=true:=by rw[hb,decide_eq_true ht];simp
  rw[hP,hbt]
  refine PC.enter 27 [.tmp 4] [2,3] Proofs.Tryz.func118 rfl rfl rfl rfl rfl (by simp) (AWp.of ?_);simp only[go_sem]
  refine Wk ?_
  repeat(first|(with_reducible refine AWp.seq ?_)|(with_reducible refine AWp.block ?_))
  refine AWp.read mixed [0,1,2,3,4,5,6,7,8,9,10,11,12,13,14,15,16,17,18,19,20,21,22] (by kernel_rfl) ?_;simp only[go_sem]
  refine Sd ?_
  refine Wk ?_
  refine ret_eq ?_;simp only[go_sem]
 ·have hP:pastV ps (q,f',t')=aInts (ptF ps q t'):=by unfold pastV;rw[if_neg ht]
  have hpl:=(isF_iff.1 (pt_is hv k1 (show t'<ps[q].evs.length by have:=nev_get k1;omega))).1
  rw[decide_eq_false ht,Bool.false_or,hf0] at hb
  rw[hP,hb]
  have hpD:p<(ptF ps q t').length:=by rw[hpl];exact h1
  generalize ptF ps q t'=D at *
  have hg:=getD_map (f:=ai) (l:=D) (k:=p) hpD
  rw[← cAt_nat hpD] at hg
  have hD:¬D.map ai=[]:=fun e=>by
   have h0:=congrArg List.length e
   rw[List.length_map,hpl] at h0
   have h0:ps.length=0:=h0
   omega
  have hDm:(D.map ai).length=ps.length:=by rw[List.length_map,hpl]
  generalize cAt D p=y at *
  show PC _ _ [_,.agg [_,_,_,.sl 1 (D.map ai)]] _
  generalize D.map ai=DM at *
  refine PC.enter 27 [.tmp 4] [2,3] Proofs.Tryz.func118 rfl rfl rfl rfl rfl (by simp) (AWp.of ?_);simp only[go_sem]
  refine Wk ?_
  repeat(first|(with_reducible refine AWp.seq ?_)|(with_reducible refine AWp.block ?_))
  refine AWp.read mixed [0,1,2,3,4,5,6,7,8,9,10,11,12,13,14,15,16,17,18,19,20,21,22] (by kernel_rfl) ?_;simp only[go_sem,hg,hDm]
  refine⟨fun h=>⟨h,hD⟩,?_⟩
  refine Sd ?_
  refine Wk ?_
  refine ret_eq ?_;simp only[go_sem]
attribute [go_sem] aStr
abbrev Spn3:=Int × Int × Int
theorem spans_indexFuncB (l:List Spn3) (hl:l.length≤9223372036854775807) (g:AV) (hgf:fo g=(True,g)) (p:Spn3→Bool) (hg:∀x ∈ l,PV Proofs.Tryz.prog g [aSp x] (ab (p x))) :
  PC Proofs.Tryz.prog 171 [aSps l,g] (ai (match l.findIdx? p with|some i=>(i:Int)|none => -1)):=by
 refine PC.enter 19 [.tmp 4] [] Proofs.Tryz.func171 rfl rfl rfl rfl rfl (by simp) (AWp.of ?_);simp only[go_sem]
 refine Sd ?_
 refine AWp.of ?_;simp only[go_sem,aSps]
 refine AWp.range1' l.length [] [0,1,7] (fun k vs L=>L=[]∧∀i (h:i<l.length),i<k→p l[i]=false) (by omega) rfl rfl rfl ⟨rfl,by omega⟩ ?_ ?_
 ·rintro k vs L' hk hvs ⟨rfl,hI⟩
  simp only[go_sem]
  refine Sd ?_
  refine AWp.of ?_;simp only[go_sem]
  have hgk:=hg l[k] (List.getElem_mem hk)
  try simp only[go_sem,aSp] at hgk
  refine Sd ?_
  refine AWp.of ?_;simp only[go_sem,getD_map hk,hgf,aSp]
  refine⟨⟨by omega,by omega⟩,hk,hgk.use (AWp.of ?_)⟩;simp only[go_sem]
  refine⟨fun ht => ?_,fun hf => ?_⟩
  ·refine Sd ?_
   refine AWp.of ?_;simp only[go_sem]
   refine ret_eq ?_;simp only[go_sem]
   have:l.findIdx? p=some k:=by rw[List.findIdx?_eq_some_iff_getElem];exact⟨hk,ht,fun j hj=>by simpa using hI j (by omega) hj⟩
   rw[this]
  ·refine⟨[],List.Sublist.refl _,rfl,fun i h hi => ?_⟩
   by_cases e:i=k
   ·subst e;exact hf
   ·exact hI i h (by omega)
 ·rintro vs L' hvs ⟨rfl,hI⟩
  simp only[go_sem]
  refine Sd ?_
  refine AWp.of ?_;simp only[go_sem]
  refine Sd ?_
  refine AWp.of ?_;simp only[go_sem]
  refine ret_eq ?_;simp only[go_sem]
  have:l.findIdx? p=none:=by rw[List.findIdx?_eq_none_iff];intro x hx;obtain⟨i,hi,rfl⟩:=List.getElem_of_mem hx;exact hI i hi hi
  rw[this]
theorem spans_containsFuncB (l:List Spn3) (hl:l.length≤9223372036854775807) (g:AV) (hgf:fo g=(True,g)) (p:Spn3→Bool) (hg:∀x ∈ l,PV Proofs.Tryz.prog g [aSp x] (ab (p x))) :
  PC Proofs.Tryz.prog 116 [aSps l,g] (ab (l.any p)):=by
 refine PC.enter 9 [.tmp 4] [] Proofs.Tryz.func116 rfl rfl rfl rfl rfl (by simp) (AWp.of ?_);simp only[go_sem]
 refine Sd ?_
 refine AWp.of ?_;simp only[go_sem,hgf,aSps]
 refine(spans_indexFuncB l hl g hgf p hg).val.use ?_
 simp only[go_sem]
 refine Sd ?_
 refine AWp.of ?_;simp only[go_sem]
 refine ret_eq ?_;simp only[go_sem]
 congr 2;exact findIdx_any l p
def aStrs (ps:List Pr) (l:List Stp):AV:=.sl 4 (l.map (aStr ps))
def ckB (ps:List Pr) (l:List Stp) (i k:Nat):Bool:=decide (i ≠ k) && !bgN ps (l.getD i (0,0,0)) (l.getD k (0,0,0))
def clK (ps:List Pr) (l:List Stp) (i:Nat):Option Nat:=(List.range l.length).find? (ckB ps l i)
def clB (ps:List Pr) (g:Stp→Bool) (l:List Stp) (i:Nat):Bool:=g (l.getD i (0,0,0)) && (clK ps l i).isSome
def clI (ps:List Pr) (g:Stp→Bool) (l:List Stp):Option Nat:=(List.range l.length).find? (clB ps g l)
def aClash (ps:List Pr) (g:Stp→Bool) (l:List Stp):AV:=match clI ps g l with
 | some i=>match clK ps l i with
  | some k => .tup [ai i,ai k,ab true]
  | none => .tup [ai 0,ai 0,ab false]
 | none => .tup [ai 0,ai 0,ab false]
theorem getD3 {l:List Stp} {i:Nat} (h:i<l.length):l.getD i (0,0,0)=l[i]:=by rw[List.getD_eq_getElem?_getD,List.getElem?_eq_getElem h,Option.getD_some]
theorem clash_yes {ps:List Pr} {g:Stp→Bool} {l:List Stp} {i k:Nat} (hi:i<l.length) (hk:k<l.length) (hik:i ≠ k) (hg:g l[i]=true) (hb:bgN ps l[i] l[k]=false) (h1:∀k',k'<k→ckB ps l i k'=false)
  (h2:∀i',i'<i→clB ps g l i'=false):aClash ps g l = .tup [ai i,ai k,ab true]:=by
 have e1:clK ps l i=some k:=find_range_of hk (by unfold ckB;rw[getD3 hi,getD3 hk,hb,decide_eq_true hik];rfl) h1
 have e2:clI ps g l=some i:=find_range_of hi (by unfold clB;rw[getD3 hi,hg,e1];rfl) h2
 unfold aClash
 rw[e2];dsimp only;rw[e1]
theorem clash_no {ps:List Pr} {g:Stp→Bool} {l:List Stp} (h:∀i,i<l.length→clB ps g l i=false):clI ps g l=none∧aClash ps g l = .tup [ai 0,ai 0,ab false]:=by
 have e:clI ps g l=none:=find_range_no h
 unfold aClash
 rw[e];exact⟨rfl,rfl⟩
theorem clI_none {ps:List Pr} {g:Stp→Bool} {l:List Stp} (h:clI ps g l=none):∀i k (hi:i<l.length) (hk:k<l.length),i ≠ k→g l[i]=true→bgN ps l[i] l[k]=true:=fun i k hi hk hik hg=>by
 have h1:=find_range_none h i hi
 unfold clB at h1
 rw[getD3 hi,hg,Bool.true_and] at h1
 cases h2:clK ps l i with
 | some z=>rw[h2] at h1;cases h1
 | none =>
  have h3:=find_range_none h2 k hk
  unfold ckB at h3
  rw[getD3 hi,getD3 hk,decide_eq_true hik,Bool.true_and] at h3
  simpa using h3
theorem clI_some {ps:List Pr} {g:Stp→Bool} {l:List Stp} {i:Nat} (h:clI ps g l=some i):∃k,∃(hi:i<l.length) (hk:k<l.length),i ≠ k∧g l[i]=true∧bgN ps l[i] l[k]=false∧aClash ps g l = .tup [ai i,ai k,ab true]:=by
 obtain⟨hi,h1,_⟩:=find_range h
 unfold clB at h1
 rw[getD3 hi,Bool.and_eq_true] at h1
 obtain⟨k,hk⟩:=Option.isSome_iff_exists.1 h1.2
 obtain⟨hk1,h2,_⟩:=find_range hk
 unfold ckB at h2
 rw[getD3 hi,getD3 hk1,Bool.and_eq_true,decide_eq_true_eq] at h2
 refine⟨k,hi,hk1,h2.1,h1.1,by simpa using h2.2,?_⟩
 unfold aClash
 rw[h];dsimp only;rw[hk]
theorem strong_clash (ps:List Pr) (hs:Sm ps) (hv:validF ps=true) (l:List Stp) (hl:l.length≤1000000) (hin:∀s ∈ l,SpIn ps s) (gv:AV) (hgf:fo gv=(True,gv)) (g:Stp→Bool) (hg:∀s ∈ l,PV Proofs.Tryz.prog gv [aStr ps s] (ab (g s))) :
  PC Proofs.Tryz.prog 78 [aStrs ps l,gv] (aClash ps g l):=by
 have hyes:=fun i k hi hk hik h1 h2 h3 h4=>clash_yes (ps:=ps) (g:=g) (l:=l) (i:=i) (k:=k) hi hk hik h1 h2 h3 h4
 have hno:=fun h=>(clash_no (ps:=ps) (g:=g) (l:=l) h).2
 have hR:aStrs ps l = .sl 4 (l.map (aStr ps)):=rfl
 have hcK:∀i,i<l.length→(∀k,k<l.length→ckB ps l i k=false)→(clK ps l i).isSome=false:=fun i hi h=>by
  have:clK ps l i=none:=find_range_no h
  rw[this];rfl
 rw[hR]
 generalize aClash ps g l=R at *
 refine PC.enter 42 [.tmp 4,.tmp 5,.tmp 6] [8,10] Proofs.Tryz.func78 rfl rfl rfl rfl rfl (by simp) (AWp.of ?_);simp only[go_sem]
 refine Wk ?_
 refine AWp.range' l.length [] [0,1,11,12] (fun i vs L=>L=[]∧∀i',i'<i→clB ps g l i'=false) (by omega) rfl rfl rfl ⟨rfl,fun _ h=>by omega⟩ ?_ ?_
 ·rintro i vs L hi - ⟨rfl,hI⟩
  have hgi:=getD_map (f:=aStr ps) hi
  have hgk:=hg l[i] (List.getElem_mem hi)
  have hini:=hin l[i] (List.getElem_mem hi)
  have hI2:(g l[i] && (clK ps l i).isSome)=false→∀i',i'<i+1→clB ps g l i'=false:=fun h i' hi'=>by
   by_cases e:i'=i
   ·subst e;unfold clB;rw[getD3 hi];exact h
   ·exact hI i' (by omega)
  simp only[go_sem] at hgk
  simp only[go_sem]
  refine W2 hgi hgf ?_
  intros
  refine W1 hgf ?_
  refine Sd ?_
  refine(hgk).use ?_;simp only[go_sem]
  refine Wk ?_
  refine⟨fun h1 => ?_,fun h1 => ?_⟩
  ·exact⟨_,List.Sublist.refl _,rfl,hI2 (by rw[h1];rfl)⟩
  ·refine Wk ?_
   refine AWp.range' l.length [] [0,1,7,8,11,12,13,22,23] (fun k vs L=>L=[]∧∀k',k'<k→ckB ps l i k'=false) (by omega) rfl rfl rfl ⟨rfl,fun _ h=>by omega⟩ ?_ ?_
   ·rintro k vs L hk - ⟨rfl,hJ⟩
    have hgk2:=getD_map (f:=aStr ps) hk
    have hbg:=strong_begins ps hs hv l[i] l[k] hini (hin l[k] (List.getElem_mem hk))
    simp only[go_sem] at hbg
    have hJ2:(decide (i ≠ k) && !bgN ps l[i] l[k])=false→∀k',k'<k+1→ckB ps l i k'=false:=fun h k' hk'=>by
     by_cases e:k'=k
     ·subst e;unfold ckB;rw[getD3 hi,getD3 hk];exact h
     ·exact hJ k' (by omega)
    have hy:=hyes i k hi hk
    generalize bgN ps l[i] l[k]=B at *
    simp only[go_sem]
    refine W1 hgk2 ?_
    intros
    refine Wk ?_
    refine Sd ?_
    refine Gc hbg ?_
    by_cases hik:i=k
    ·have hki:(i:Int)=(k:Int):=by omega
     refine W1 hki ?_
     exact⟨_,List.Sublist.refl _,rfl,hJ2 (by rw[decide_eq_false (by simpa using hik)];rfl)⟩
    ·have hki:¬(i:Int)=(k:Int):=by omega
     cases B with
     | true =>
      refine W1 hki ?_
      exact⟨_,List.Sublist.refl _,rfl,hJ2 (by simp)⟩
     | false =>
      rw[hy hik (by simpa using h1) rfl hJ hI]
      refine W1 hki ?_
      refine ret_eq ?_;simp only[go_sem]
   ·rintro vs L - ⟨rfl,hJ⟩
    have:=hcK i hi hJ
    simp only[go_sem]
    refine Wk ?_
    exact⟨_,List.Sublist.refl _,rfl,hI2 (by rw[this,Bool.and_false])⟩
 ·rintro vs L - ⟨rfl,hI⟩
  rw[hno hI]
  simp only[go_sem]
  refine Wk ?_
  refine ret_eq ?_;simp only[go_sem]
theorem strong_anyStretch (ps:List Pr) (s:Stp):PC Proofs.Tryz.prog 80 [aStr ps s] (ab true):=by
 have hR:aStr ps s = .agg [ai s.1,ai s.2.1,ai s.2.2,pastV ps s]:=rfl
 rw[hR]
 refine PC.enter 3 [.tmp 2] [1] Proofs.Tryz.func80 rfl rfl rfl rfl rfl (by simp) (AWp.of ?_);simp only[go_sem]
 refine Wk ?_
 refine ret_eq ?_;simp only[go_sem]
def BadI (n:Nat) (x:List Int) (i:Nat):Prop:=x.getD i 0<0∨(n:Int)<x.getD i 0∨(0<i∧x.getD i 0≤x.getD (i - 1) 0)
open Classical in
noncomputable def listsF (ps:List Pr) (l:List (List Int)):Int:=if validF ps=true∧l.length=ps.length then (if ∃p i,p<l.length∧i<(l.getD p []).length∧BadI (nev ps p) (l.getD p []) i then 2 else 0) else 1
end Go.AL
end
section
namespace Go.AL
open Go Go.RowKit
set_option maxRecDepth 4000
section
variable {ps:List Pr} {E:Elim} {l:List (List Int)} {a:Nat→Nat}
end
theorem totS_le2 {c c':Nat→Nat} : ∀n,(∀q,q<n→c' q≤c q)→totS n c'≤totS n c
 | 0,_=>by simp [totS]
 | n+1,h=>by
  rw[totS_succ,totS_succ]
  have:=totS_le2 n fun q hq=>h q (by omega)
  have:=h n (by omega)
  omega
theorem totS_lt2 {c c':Nat→Nat} {p:Nat} : ∀n,(∀q,q<n→c' q≤c q)→p<n→c' p<c p→totS n c'<totS n c
 | 0,_,hp,_=>by omega
 | n+1,h,hp,hlt=>by
  rw[totS_succ,totS_succ]
  have h1:=h n (by omega)
  by_cases e:p=n
  ·subst e
   have:=totS_le2 p fun q hq=>h q (by omega)
   omega
  ·have:=totS_lt2 n (fun q hq=>h q (by omega)) (by omega) hlt
   omega
theorem rows_in {ps:List Pr} {b:Nat→Nat→Bool} {rows:Nat→List Stp} (hR:RowsOk ps b rows) {p:Nat} (hp:p<ps.length):∀s ∈ rows p,SpIn ps s:=fun s hs=>by
 obtain⟨h1,h2,h3,_⟩:=(hR p hp).el s hs
 exact⟨by rw[h1];exact hp,h2,by rw[h1];omega⟩
theorem chcL_succ (k:Nat) (rows:Nat→List Stp) (a:Nat→Nat):chcL (k+1) rows a=chcL k rows a ++ [fSp rows k (a k)]:=by unfold chcL;rw[List.range_succ,List.map_append];rfl
theorem last_get (d:List Stp) (x:Stp):((d ++ [x]).map aStp).getD (((d ++ [x]).map aStp).length - 1) .any=aStp x:=by
 rw[List.length_map,List.getD_eq_getElem?_getD,List.getElem?_map]
 simp
theorem last_set (d:List Stp) (x y:Stp):((d ++ [x]).map aStp).set (((d ++ [x]).map aStp).length - 1) (aStp y)=(d ++ [y]).map aStp:=by
 rw[List.length_map,List.map_append,List.map_append]
 simp
end Go.AL
end
