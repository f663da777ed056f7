/- Texts of this claim's proof: WQf, WQg, WQh, WQi, WQj. No condition. -/
import Derived.Test.YtaomlpmcimjfgaaGreatDoorM16
import Derived.Test.YtaomlpmcimjfgaaGreatDoorM15
section
namespace Go.AL
open Go Go.RowKit
set_option maxRecDepth 4000
def aRs (ps:List Pr):AV:=.rp 2 [.agg [.sl 3 (ps.map aPr),.sl 1 (aNeeds ps ps)]] 0 0
theorem run_sender1 (f e:Ev):PC Proofs.Tryz.prog 171 [aEv f,.rp 5 [aEv e] 0 0] (ab (decide (f.kind=2) && decide (f.msg=e.msg))):=by
 refine PC.enter 14 [.tmp 3] [2] Proofs.Tryz.func171 rfl rfl rfl rfl rfl (by simp) (AWp.of ?_);simp only[go_sem]
 refine Wk ?_
 refine ret_eq ?_;simp only[go_sem]
theorem run_sender (ps:List Pr) (hs:Sm ps) (hv:validF ps=true) (p:Nat) (hp:p<ps.length) (i:Nat) (hi:i<ps[p].evs.length) (hk:ps[p].evs[i].kind=3):PC Proofs.Tryz.prog 129 [aTr ps,aEv ps[p].evs[i]] (.tup [aEid (sndr ps ps[p].evs[i].msg),ab true]):=by
 have hm:=(valid_parts hv).2.2
 obtain⟨hq,j,hj,hsd,h1,h2⟩:=recv_peer hm hp hi hk
 have hpr:0≤ps[p].evs[i].peer:=by
  have:=(evF_parts hp hi).1 (evF_of_valid hv hp hi)
  exact(formed_msg this.1 (.inr hk)).2.2.1
 have hix:ps[ps[p].evs[i].peer.toNat].evs.findIdx? (fun f=>decide (f.kind=2) && decide (f.msg=ps[p].evs[i].msg))=some j:=by
  rw[List.findIdx?_eq_some_iff_getElem]
  refine⟨hj,by rw[h1,h2];simp,fun k hkj h => ?_⟩
  simp only[Bool.and_eq_true,decide_eq_true_eq] at h
  have g1:=valid_unique hv hq hj h1
  have g2:=valid_unique hv hq (i:=k) (by omega) h.1
  rw[h2] at g1
  rw[h.2,g1] at g2
  have:=(Prod.mk.inj g2).2
  omega
 have hel:=hs.evs _ (List.getElem_mem hq)
 have hir:=events_indexFunc ps[ps[p].evs[i].peer.toNat].evs hel (.clo 171 [.rp 5 [aEv ps[p].evs[i]] 0 0]) rfl _ fun f _=>(run_sender1 f ps[p].evs[i]).clo
 rw[hix] at hir
 rw[hsd]
 have hgp:=getD_map (f:=aPr) hq
 have e1:((ps[p].evs[i].peer.toNat:Nat):Int)=ps[p].evs[i].peer:=by omega
 rw[e1]
 generalize ps[ps[p].evs[i].peer.toNat]=y at *
 generalize ps[p].evs[i]=e at *
 refine PC.enter 23 [.cell 4 135,.tmp 5] [2,3] Proofs.Tryz.func129 rfl rfl rfl rfl rfl (by simp) (AWp.of ?_);simp only[go_sem]
 intro b4
 refine W1 hgp ?_
 refine Sd ?_
 refine(hir).val.use ?_;simp only[go_sem]
 have z0:(0:Int)≤(j:Int):=by omega
 refine W1 z0 ?_
 refine ret_eq ?_;simp only[go_sem]
def rsL (ps:List Pr) (b p:Nat) (L:AHeap):Prop :=
 (p=0∧L=[(b,.row 180 2 [.agg [.sl 3 (ps.map aPr),anil]] 1)]) ∨
 ∃c cap,(¬c=b∧¬b=c)∧L=[(c,.row 169 1 (aNeeds ps (ps.take p)) cap),(b,.row 180 2 [.agg [.sl 3 (ps.map aPr),.ls c 1 0 p cap]] 1)]
theorem run_open (ps:List Pr) (hs:Sm ps) (hv:validF ps=true):PC Proofs.Tryz.prog 98 [aTr ps] (aRs ps):=by
 obtain⟨hl1,hl8⟩:=valid_len hv
 refine PC.enter 53 [.tmp 2] [1,5,8,9,38,47] Proofs.Tryz.func98 rfl rfl rfl rfl rfl (by simp) (AWp.of ?_);simp only[go_sem]
 refine Wk ?_
 intro b3
 refine Wk ?_
 refine AWp.range' ps.length [] [1,3,14,15] (fun p vs L=>vs=[]∧rsL ps b3 p L) (by omega) rfl rfl rfl ⟨rfl,.inl ⟨rfl,rfl⟩⟩ ?_ ?_
 ·rintro p vs L hp - ⟨rfl,hL⟩
  have hgp:=getD_map (f:=aPr) hp
  simp only[go_sem]
  refine W1 hgp ?_
  intro b5 g5
  have hel:=hs.evs _ (List.getElem_mem hp)
  refine Sd ?_
  refine AWp.of ?_;simp only[go_sem]
  refine AWp.cutF [1,3,6,14,15,16] (fun vs L1=>∃v,AppSt 135 2 ((ps[p].evs.map (needE ps)).map aEid) v L1 ∧
   vs=[.rp 1 [aTr ps] 0 0,.lp b3 2 0 0,v,aPrs ps,ai (ps.length:Nat),ai (p:Nat)]) ?_ ?_
  ·refine Wk ?_
   refine AWp.range' ps[p].evs.length [6] [1,3,14,15,16,21,22] (fun i vs L=>∃v,vs=[v]∧AppSt 135 2 (((ps[p].evs.take i).map (needE ps)).map aEid) v L) (by omega) rfl rfl rfl ⟨anil,rfl,by rw[List.take_zero];exact .nil⟩ ?_ ?_
   ·rintro i vs L hi - ⟨v,rfl,hA⟩
    have hge:=getD_map (f:=aEv) hi
    have hne:needE ps ps[p].evs[i]=if ps[p].evs[i].kind=3 then sndr ps ps[p].evs[i].msg else (0,0):=rfl
    have hsn:=fun hk=>run_sender ps hs hv p hp i hi hk
    have htk:((ps[p].evs.take (i+1)).map (needE ps)).map aEid=((ps[p].evs.take i).map (needE ps)).map aEid ++ [aEid (needE ps ps[p].evs[i])]:=by
     rw[List.take_succ_eq_append_getElem hi,List.map_append,List.map_append];rfl
    have hyl:(((ps[p].evs.take i).map (needE ps)).map aEid).length=i:=by simp;omega
    rw[htk]
    generalize ((ps[p].evs.take i).map (needE ps)).map aEid=ys at *
    generalize needE ps ps[p].evs[i]=ne at *
    generalize ps[p].evs[i]=ev at *
    rcases hA.inv with ⟨e1,rfl,rfl⟩|⟨bq,capq,rfl,rfl⟩
    ·simp only[go_sem]
     refine W1 hge ?_
     intro b8
     refine Wk ?_
     intro b9
     refine Wk ?_
     refine⟨fun h3 => ?_,fun h3 => ?_⟩
     ·rw[if_pos h3] at hne
      subst hne
      have hsn:=hsn h3
      generalize sndr ps ev.msg=sx at *
      obtain⟨s1,s2⟩:=sx
      refine Sd ?_
      refine(hsn).val.use ?_;simp only[go_sem]
      refine Wk ?_
      intro b' cap' hc'
      exact⟨_,List.cons_sublist_cons.2 (List.nil_sublist _),_,rfl,by rw[e1];exact .row b' [_] cap'⟩
     ·rw[if_neg h3] at hne
      subst hne
      refine Wk ?_
      intro b' cap' g' hc'
      exact⟨_,List.cons_sublist_cons.2 (List.nil_sublist _),_,rfl,by rw[e1];exact .row b' [_] cap'⟩
    ·simp only[go_sem]
     refine W1 hge ?_
     intro b8 g8
     refine Wk ?_
     intro b9 g9
     have n3:¬b9=bq:=by omega
     have n4:¬bq=b9:=by omega
     refine W2 n3 n4 ?_
     refine⟨fun h3 => ?_,fun h3 => ?_⟩
     ·rw[if_pos h3] at hne
      subst hne
      have hsn:=hsn h3
      generalize sndr ps ev.msg=sx at *
      obtain⟨s1,s2⟩:=sx
      refine Sd ?_
      refine(hsn).val.use ?_;simp only[go_sem]
      refine W2 n3 n4 ?_
      intro b' cap' hc'
      exact⟨_,List.cons_sublist_cons.2 (List.nil_sublist _),_,rfl,AppSt.snoc b' cap' _ rfl⟩
     ·rw[if_neg h3] at hne
      subst hne
      refine W2 n3 n4 ?_
      intro b' cap' g' hc'
      exact⟨_,List.cons_sublist_cons.2 (List.nil_sublist _),_,rfl,AppSt.snoc b' cap' _ rfl⟩
   ·rintro vs L - ⟨v,rfl,hA⟩
    rw[List.take_length] at hA
    simp only[go_sem]
    exact⟨L,List.Sublist.refl _,v,hA,rfl⟩
  ·rintro vs L1 - ⟨v,hA,rfl⟩
   simp only[go_sem]
   refine AWp.viewA (j:=6) hA rfl ?_
   clear g5
   have hs2:aNeeds ps (ps.take (p+1))=aNeeds ps (ps.take p) ++ [.sl 2 ((ps[p].evs.map (needE ps)).map aEid)]:=by
    unfold aNeeds;rw[List.take_succ_eq_append_getElem hp,List.map_append];rfl
   have hy2:(aNeeds ps (ps.take p)).length=p:=by simp [aNeeds];omega
   unfold rsL
   rw[hs2]
   generalize (ps[p].evs.map (needE ps)).map aEid=ne at *
   rcases hL with ⟨rfl,rfl⟩|⟨c2,cap2,⟨d1,d2⟩,rfl⟩
   ·have e2:=List.eq_nil_of_length_eq_zero hy2
    rw[e2]
    simp only[go_sem]
    refine Wk ?_
    intro c1 k1 h31 hk1
    have d1:¬c1=b3:=by omega
    have d7:¬b3=c1:=by omega
    simp only[go_sem,d7]
    exact⟨_,List.Sublist.refl _,c1,k1,⟨d1,d7⟩,rfl⟩
   ·generalize aNeeds ps (ps.take p)=ys2 at *
    have ht2:ys2.take p=ys2:=List.take_of_length_le (by omega)
    refine W3 d1 d2 ht2 ?_
    intro x1 k1 h21 hk1
    have d3:¬x1=b3:=fun e=>h21 e.symm
    simp only[go_sem,h21]
    exact⟨_,List.Sublist.refl _,x1,k1,⟨d3,h21⟩,rfl⟩
 ·rintro vs L - ⟨rfl,hL⟩
  rcases hL with ⟨h0,rfl⟩|⟨c1,cap1,⟨d1,d2⟩,rfl⟩
  ·omega
  rw[List.take_length]
  have hy2:(aNeeds ps ps).length=ps.length:=List.length_map _
  unfold aRs
  generalize aNeeds ps ps=ys2 at *
  simp only[go_sem]
  refine W2 d1 d2 ?_
  refine ret_view [true,true] ?_;simp only[go_sem]
  refine Vw.lp (t:=180) (cap:=1) (xs:=[.agg [.sl 3 (ps.map aPr),.ls c1 1 0 ps.length cap1]]) (by simp only[lk,d2,if_false,if_true]) rfl fun i x y hx hy => ?_
  cases i with
  | zero =>
   cases hx;cases hy
   refine .mkAgg (Vws.cons (.refl _) (Vws.cons ?_ .nil))
   exact Vw.ofLs (t:=169) (cap:=cap1) (if_pos rfl) hy2.symm
  | succ i=>cases hx
theorem needs_len (ps:List Pr):(aNeeds ps ps).length=ps.length:=List.length_map _
theorem run_zero (ps:List Pr) (hv:validF ps=true):PC Proofs.Tryz.prog 130 [aRs ps] (aInts (zeroC ps)):=by
 have hl:=needs_len ps
 have hl8:=(valid_len hv).2
 unfold aRs
 refine PC.enter 9 [.tmp 2] [] Proofs.Tryz.func130 rfl rfl rfl rfl rfl (by simp) (AWp.of ?_);simp only[go_sem]
 refine W1 hl ?_
 refine Sd ?_
 intro b8
 refine Wk ?_
 refine ret_view [true] ?_;simp only[go_sem]
 have e:(zeroC ps).map ai=List.replicate ps.length (ai 0):=by unfold zeroC;rw[List.map_replicate]
 show Vw _ _ (.sl 1 ((zeroC ps).map ai))
 rw[e]
 exact Vw.ofLs (if_pos rfl) (by simp)
theorem run_zeroO (ps:List Pr) (hv:validF ps=true):MCalls Proofs.Tryz.prog 130 [aRs ps] [] fun r L=>∃b,r = .ls b 1 0 ps.length ps.length∧L=[(b,.row 3 1 ((zeroC ps).map ai) ps.length)]:=by
 have hl:=needs_len ps
 have hl8:=(valid_len hv).2
 unfold aRs
 refine MCalls.enter' 9 [.tmp 2] [] Proofs.Tryz.func130 rfl rfl rfl rfl rfl (by simp) (AWp.of ?_);simp only[go_sem]
 refine W1 hl ?_
 refine Sd ?_
 intro b8
 refine Wk ?_
 refine ret_own ?_
 simp only[go_sem]
 have e:(zeroC ps).map ai=List.replicate ps.length (ai 0):=by unfold zeroC;rw[List.map_replicate]
 rw[e]
 exact⟨b8,rfl,rfl⟩
def fulT (ps:List Pr) (k:Nat):List Int:=(List.range ps.length).map fun p=>if p<k then (nev ps p:Int) else 0
theorem fulT_zero (ps:List Pr):fulT ps 0=zeroC ps:=by
 unfold fulT zeroC
 exact List.eq_replicate_iff.2 ⟨by simp,fun x hx=>by
  obtain⟨p,_,rfl⟩:=List.mem_map.1 hx
  exact if_neg (by omega)⟩
theorem fulT_len (ps:List Pr) (k:Nat):(fulT ps k).length=ps.length:=by simp [fulT]
theorem fulT_succ (ps:List Pr) {k:Nat} (hk:k<ps.length):fulT ps (k+1)=(fulT ps k).set k (ps[k].evs.length:Int):=by
 apply List.ext_getElem (by rw[List.length_set,fulT_len,fulT_len])
 intro i h1 h2
 rw[List.getElem_set]
 simp only[fulT,List.getElem_map,List.getElem_range]
 by_cases e:k=i
 ·subst e;rw[if_pos (by omega),if_pos rfl,nev_get hk]
 ·rw[if_neg e]
  by_cases h:i<k
  ·rw[if_pos h,if_pos (by omega)]
  ·rw[if_neg h,if_neg (by omega)]
theorem fulT_full (ps:List Pr):fulT ps ps.length=fullC ps:=by
 apply List.ext_getElem (by rw[fulT_len];simp [fullC])
 intro i h1 h2
 have hi:i<ps.length:=by rw[fulT_len] at h1;exact h1
 simp only[fulT,fullC,List.getElem_map,List.getElem_range]
 rw[if_pos hi,nev_get hi]
theorem run_full (ps:List Pr) (hs:Sm ps) (hv:validF ps=true):PC Proofs.Tryz.prog 131 [aRs ps] (aInts (fullC ps)):=by
 have hl:=needs_len ps
 have hl8:=(valid_len hv).2
 have hz:=run_zeroO ps hv
 unfold aRs at hz ⊢
 refine PC.enter 25 [.tmp 2] [] Proofs.Tryz.func131 rfl rfl rfl rfl rfl (by simp) (AWp.of ?_);simp only[go_sem]
 refine Wk ?_
 refine hz.val.mono ?_
 rintro r L ⟨b,rfl,rfl⟩
 simp only[go_sem]
 refine W1 hl ?_
 refine AWp.range' ps.length [] [3,11,12] (fun k vs L=>vs=[]∧L=[(b,.row 3 1 ((fulT ps k).map ai) ps.length)]) (by omega) rfl rfl rfl ⟨rfl,by rw[fulT_zero]⟩ ?_ ?_
 ·rintro k vs L hk - ⟨rfl,rfl⟩
  have hel:=hs.evs _ (List.getElem_mem hk)
  have g3:(aNeeds ps ps).getD k .any=aEids (ps[k].evs.map (needE ps)):=getD_map (f:=fun x:Pr=>aEids (x.evs.map (needE ps))) hk
  have g5:((ps[k].evs.map (needE ps)).map aEid).length=ps[k].evs.length:=by rw[List.length_map,List.length_map]
  have hfl:=fulT_len ps k
  simp only[go_sem]
  have g7:=getD_map (f:=ai) (l:=fulT ps k) (k:=k) (by omega)
  refine W4 g3 g5 hfl g7 ?_
  exact⟨_,List.Sublist.refl _,by rw[fulT_succ ps hk,List.map_set]⟩
 ·rintro vs L - ⟨rfl,rfl⟩
  rw[fulT_full]
  simp only[go_sem]
  refine Wk ?_
  refine ret_view [true] ?_;simp only[go_sem]
  exact Vw.ofLs (if_pos rfl) (by simp [fullC])
def mayF (ps:List Pr) (c:List Int) (p:Int):Bool:=decide (0≤p∧p<ps.length) && rdyF ps c p.toNat
theorem run_may (ps:List Pr) (hs:Sm ps) (hv:validF ps=true) (c:List Int) (hc:isF ps c=true) (p:Int):PC Proofs.Tryz.prog 135 [aRs ps,aInts c,ai p] (ab (mayF ps c p)):=by
 obtain⟨h1,h2,h3⟩:=isF_iff.1 hc
 have hnl:=needs_len ps
 have hl1:=(valid_len hv).1
 by_cases hp0:p<0
 ·have e0:p.toNat=0:=by omega
  have g1:=getD_map (f:=ai) (l:=c) (k:=0) (by omega)
  have g3:(aNeeds ps ps).getD 0 .any=aEids (ps[0].evs.map (needE ps)):=getD_map (f:=fun x:Pr=>aEids (x.evs.map (needE ps))) (by omega)
  have hm:mayF ps c p=false:=by unfold mayF;rw[decide_eq_false (by omega)];rfl
  rw[hm]
  unfold aRs
  refine PC.enter 57 [.tmp 6] [7] Proofs.Tryz.func135 rfl rfl rfl rfl rfl (by simp) (AWp.of ?_);simp only[go_sem]
  refine W1 hp0 ?_
  refine AWp.seq (AWp.seq ?_)
  repeat(first|(with_reducible refine AWp.seq ?_)|(with_reducible refine AWp.block ?_))
  refine AWp.read mixed [0,1,2,3,4,5,6,7,8,9,10,11,12,13,14,15,16,17,18,19,20,21,22] (by kernel_rfl) ?_;simp only[go_sem,hp0,e0,g1,g3,hnl]
  refine Sd ?_
  refine Wk ?_
  refine ret_eq ?_;simp only[go_sem]
 ·by_cases hpl:p<ps.length
  ·obtain⟨q,rfl⟩:∃q:Nat,p=q:=⟨p.toNat,by omega⟩
   have hp:q<ps.length:=by omega
   have hr:=(inRange_iff h1).1 h2 q hp
   obtain⟨i,hci⟩:∃i:Nat,cAt c q=i:=⟨(cAt c q).toNat,by omega⟩
   have hpc:q<c.length:=by omega
   have hcp:c[q]=(i:Int):=by rw[← cAt_nat hpc];exact hci
   have hel:=hs.evs _ (List.getElem_mem hp)
   have g1:(c.map ai).getD q .any=ai i:=by rw[getD_map hpc,hcp]
   have g3:(aNeeds ps ps).getD q .any=aEids (ps[q].evs.map (needE ps)):=getD_map (f:=fun x:Pr=>aEids (x.evs.map (needE ps))) hp
   have g5:((ps[q].evs.map (needE ps)).map aEid).length=ps[q].evs.length:=by rw[List.length_map,List.length_map]
   have z0:¬(q:Int)<0:=by omega
   have z1:¬(c.length:Int)≤(q:Int):=by omega
   have hrd:mayF ps c q=(decide (i<ps[q].evs.length) && isF ps (stpC c q)):=by
    unfold mayF rdyF
    rw[decide_eq_true ⟨by omega,by omega⟩,Bool.true_and]
    have e2:((q:Int)).toNat=q:=by omega
    rw[e2,hci,nev_get hp,Bool.decide_and,Bool.decide_eq_true];congr 1;congr 1;exact propext ⟨fun h=>by omega,fun h=>by omega⟩
   rw[hrd]
   unfold aRs
   refine PC.enter 57 [.tmp 6] [7] Proofs.Tryz.func135 rfl rfl rfl rfl rfl (by simp) (AWp.of ?_);simp only[go_sem]
   refine W5 z0 z1 g1 g3 hnl ?_
   refine AWp.seq (AWp.seq ?_)
   repeat(first|(with_reducible refine AWp.seq ?_)|(with_reducible refine AWp.block ?_))
   refine AWp.read mixed [0,1,2,3,4,5,6,7,8,9,10,11,12,13,14,15,16,17,18,19,20,21,22] (by kernel_rfl) ?_;simp only[go_sem,z0,z1,g1,g3,g5,hnl]
   refine Sd ?_
   refine Wk ?_
   refine⟨fun h => ?_,fun h => ?_⟩
   ·have:(decide (i<ps[q].evs.length) && isF ps (stpC c q))=false:=by rw[decide_eq_false (by omega)];rfl
    rw[this]
    refine Wk ?_
    refine ret_eq ?_;simp only[go_sem]
   ·have hi:i<ps[q].evs.length:=by omega
    have hst:=stp_iff hv hc hp hi hci
    have hin:=need_in hv hp hi
    have g4:((ps[q].evs.map (needE ps)).map aEid).getD i .any=aEid (needE ps ps[q].evs[i]):=by rw[List.map_map];exact getD_map (f:=fun e=>aEid (needE ps e)) hi
    have e1:decide (i<ps[q].evs.length)=true:=decide_eq_true hi
    have e2:isF ps (stpC c q)=decide ((needE ps ps[q].evs[i]).2≤cAt c (needE ps ps[q].evs[i]).1):=by
     by_cases hb:isF ps (stpC c q)=true
     ·rw[hb];exact(decide_eq_true (hst.1 hb)).symm
     ·rw[Bool.not_eq_true] at hb
      rw[hb];exact(decide_eq_false fun h=>by rw[hst.2 h] at hb;cases hb).symm
    have h0n:0≤cAt c (needE ps ps[q].evs[i]).1:=by
     have h5:=(inRange_iff h1).1 h2 (needE ps ps[q].evs[i]).1.toNat (by omega)
     rw[Int.toNat_of_nonneg hin.1] at h5
     exact h5.1
    rw[e1,e2,Bool.true_and]
    generalize needE ps ps[q].evs[i]=ne at *
    obtain⟨n1,n2⟩:=ne
    have g6:=getD_cAt (c:=c) hin.1 (by omega)
    dsimp only at hin h0n
    refine Wk ?_
    refine AWp.seq ?_
    repeat(first|(with_reducible refine AWp.seq ?_)|(with_reducible refine AWp.block ?_))
    refine AWp.mix mixed [0,1,2,3,4,5,6,7,8,9,10,11,12] (.step 13 (.step 14 .done .done) .done) (by kernel_rfl) ?_;simp only[go_sem,g1,g3,g4,g5,hnl]
    refine Sd ?_
    intro b7
    refine AWp.seq ?_
    repeat(first|(with_reducible refine AWp.seq ?_)|(with_reducible refine AWp.block ?_))
    refine AWp.read mixed [0,1,2,3,4,5,6,7,8,9,10,11,12,13] (by kernel_rfl) ?_;simp only[go_sem,g6]
    refine Sd ?_
    have hor:(decide (n2=0) || decide (n2≤cAt c n1))=decide (n2≤cAt c n1):=by
     by_cases hz:n2=0
     ·rw[hz,decide_eq_true h0n];rfl
     ·rw[decide_eq_false hz,Bool.false_or]
    refine W1 hor ?_
    refine ret_eq ?_;simp only[go_sem]
  ·have g1:(c.map ai).getD p.toNat .any = .any:=by
    rw[List.getD_eq_getElem?_getD,List.getElem?_eq_none (by rw[List.length_map];omega)];rfl
   have g3:(aNeeds ps ps).getD p.toNat .any = .any:=by
    rw[List.getD_eq_getElem?_getD,List.getElem?_eq_none (by rw[hnl];omega)];rfl
   have z1:(c.length:Int)≤p:=by omega
   have hm:mayF ps c p=false:=by unfold mayF;rw[decide_eq_false (by omega)];rfl
   rw[hm]
   unfold aRs
   refine PC.enter 57 [.tmp 6] [7] Proofs.Tryz.func135 rfl rfl rfl rfl rfl (by simp) (AWp.of ?_);simp only[go_sem]
   refine W1 hp0 ?_
   refine AWp.seq (AWp.seq ?_)
   repeat(first|(with_reducible refine AWp.seq ?_)|(with_reducible refine AWp.block ?_))
   refine AWp.read mixed [0,1,2,3,4,5,6,7,8,9,10,11,12,13,14,15,16,17,18,19,20,21,22] (by kernel_rfl) ?_;simp only[go_sem,hp0,z1,g1,g3,hnl]
   refine Sd ?_
   refine Wk ?_
   refine ret_eq ?_;simp only[go_sem]
theorem run_next (c:List Int) (hc:c.length≤1000000) (hb:∀z ∈ c,0≤z∧z≤1000000) (p:Nat) (hp:p<c.length):PC Proofs.Tryz.prog 136 [aInts c,ai (p:Nat)] (aInts (stpC c p)):=by
 have hcl:=ints_cloneO c hc
 have hcp:=cAt_nat hp
 have hz:=hb _ (List.getElem_mem hp)
 have g1:=getD_map (f:=ai) hp
 refine PC.enter 15 [.tmp 4] [] Proofs.Tryz.func136 rfl rfl rfl rfl rfl (by simp) (AWp.of ?_);simp only[go_sem]
 refine Wk ?_
 refine hcl.val.mono ?_
 rintro r L hA
 rcases hA.inv with ⟨e1,rfl,rfl⟩|⟨b,cap,rfl,rfl⟩
 ·have:=congrArg List.length e1
  rw[List.length_map] at this
  have:c.length=0:=this
  omega
 ·simp only[go_sem]
  refine W1 g1 ?_
  refine ret_view [true] ?_;simp only[go_sem]
  have e:(c.map ai).set p (ai (c[p]+1))=(stpC c p).map ai:=by unfold stpC;rw[List.map_set,hcp]
  show Vw [(b,.row 3 1 ((c.map ai).set p (ai (c[p]+1))) cap)] _ (.sl 1 ((stpC c p).map ai))
  rw[e]
  exact Vw.ofLs (if_pos rfl) (by rw[List.length_map,stp_len])
theorem mayF_nat {ps:List Pr} {c:List Int} (hc:c.length=ps.length) {p:Nat} (hp:p<c.length):mayF ps c p=rdyF ps c p:=by
 unfold mayF
 rw[decide_eq_true ⟨by omega,by omega⟩,Bool.true_and]
 have:((p:Int)).toNat=p:=by omega
 rw[this]
def idxL (n:Nat):List Int:=(List.range n).map fun (i:Nat)=>(i:Int)
theorem run_indices (n:Nat) (hn:n≤1000000):PC Proofs.Tryz.prog 133 [ai (n:Nat)] (aInts (idxL n)):=by
 refine PC.enter 18 [.tmp 2] [] Proofs.Tryz.func133 rfl rfl rfl rfl rfl (by simp) (AWp.of ?_);simp only[go_sem]
 refine Wk ?_
 refine Sd ?_
 intro b6
 refine Wk ?_
 refine AWp.range' n [] [3,8] (fun k vs L=>vs=[]∧L=[(b6,.row 3 1 ((List.range n).map fun i=>ai (if i<k then (i:Int) else 0)) n)]) (by omega) rfl rfl rfl ⟨rfl,?_⟩ ?_ ?_
 ·congr 4
  exact(List.eq_replicate_iff.2 ⟨by simp,fun x hx=>by
   obtain⟨p,_,rfl⟩:=List.mem_map.1 hx
   rw[if_neg (by omega)]⟩).symm
 ·rintro k vs L hk - ⟨rfl,rfl⟩
  have hrl:((List.range n).map fun i=>ai (if i<k then (i:Int) else 0)).length=n:=by simp
  have hg:((List.range n).map fun i=>ai (if i<k then (i:Int) else 0)).getD k .any=ai (if k<k then (k:Int) else 0):=by
   rw[List.getD_eq_getElem?_getD,List.getElem?_map,List.getElem?_range hk];rfl
  have hst:((List.range n).map fun i=>ai (if i<k then (i:Int) else 0)).set k (ai k)=(List.range n).map fun i=>ai (if i<k+1 then (i:Int) else 0):=by
   rw[map_range_set n k]
   refine List.map_congr_left fun i _ => ?_
   by_cases e:i=k
   ·subst e;rw[if_pos rfl,if_pos (by omega)]
   ·rw[if_neg e]
    by_cases h:i<k
    ·rw[if_pos h,if_pos (by omega)]
    ·rw[if_neg h,if_neg (by omega)]
  simp only[go_sem]
  refine W2 hrl hg ?_
  exact⟨_,List.Sublist.refl _,by rw[← hst]⟩
 ·rintro vs L - ⟨rfl,rfl⟩
  have hst:((List.range n).map fun i=>ai (if i<n then (i:Int) else 0))=(idxL n).map ai:=by
   unfold idxL
   rw[List.map_map]
   refine List.map_congr_left fun i hi => ?_
   rw[if_pos (List.mem_range.1 hi)];rfl
  rw[hst]
  simp only[go_sem]
  refine Wk ?_
  refine ret_view [true] ?_;simp only[go_sem]
  exact Vw.ofLs (if_pos rfl) (by simp [idxL])
theorem run_steps1 (ps:List Pr) (hs:Sm ps) (hv:validF ps=true) (r:List (List Int)) (i:Nat) (hi:i<r.length) (hc:isF ps r[i]=true) (b:List Int) (hb:b.length≤1000000) (p:Nat) (hp:p<ps.length) :
  PC Proofs.Tryz.prog 134 [ai (p:Nat),.rp 1 [aRs ps] 0 0,.rp 1 [aRows r] 0 0,.rp 1 [ai i] 0 0,.rp 1 [aInts b] 0 0] (ab (rdyF ps r[i] p && decide (b=stpC r[i] p))):=by
 have hg:=getD_map (f:=aInts) hi
 have hcl:=(isF_iff.1 hc).1
 have hcb:=isF_cb hs hc
 have hmay:=run_may ps hs hv r[i] hc p
 rw[mayF_nat hcl (by omega)] at hmay
 have hne:=run_next r[i] hcb.1 hcb.2 p (by omega)
 have heq:=ints_equal b (stpC r[i] p) hb
 have haR:∀x:List (List Int),aRows x = .sl 1 (x.map aInts):=fun _=>rfl
 unfold aRs at hmay ⊢
 generalize r[i]=c at *
 refine PC.enter 24 [.tmp 6] [] Proofs.Tryz.func134 rfl rfl rfl rfl rfl (by simp) (AWp.of ?_);simp only[go_sem]
 refine W2 hg haR ?_
 refine AWp.seq ?_
 repeat(first|(with_reducible refine AWp.seq ?_)|(with_reducible refine AWp.block ?_))
 refine AWp.read mixed [0,1,2,3,4,5,6,7,8,9,10,11,12,13,14,15,16,17] (by kernel_rfl) ?_;simp only[go_sem,hg]
 refine Sd ?_
 refine GCall.use (ab (rdyF ps c p)) (fun _=>⟨At,(hmay).val.use ⟨rfl,rfl⟩⟩) ?_;simp only[go_sem,hg]
 refine Sd ?_
 refine GCall.use (aInts (stpC c p)) (fun _=>⟨At,(hne).val.use ⟨rfl,rfl⟩⟩) ?_;simp only[go_sem]
 refine Sd ?_
 refine GCall.use (ab (decide (b=stpC c p))) (fun _=>⟨At,(heq).val.use ⟨rfl,rfl⟩⟩) ?_;simp only[go_sem]
 refine Wk ?_
 refine ret_eq ?_;simp only[go_sem]
def oI:Option Nat→Int
 | some i=>i
 | none => -1
theorem idxL_find (n:Nat) (q:Nat→Bool) (P:Int→Bool) (h:∀i,i<n→P (i:Nat)=q i):oI ((idxL n).findIdx? P)=oI ((List.range n).find? q):=by
 have hl:(idxL n).length=n:=by simp [idxL]
 have hget:∀(i:Nat) (hi:i<(idxL n).length),(idxL n)[i]=(i:Int):=fun i hi=>by simp [idxL]
 cases hf:(List.range n).find? q with
 | none =>
  have:(idxL n).findIdx? P=none:=by
   rw[List.findIdx?_eq_none_iff]
   intro x hx
   obtain⟨i,hi,rfl⟩:=List.getElem_of_mem hx
   rw[hget i hi,h i (by omega)]
   have:=List.find?_eq_none.1 hf i (List.mem_range.2 (by omega))
   simpa using this
  rw[this]
 | some k =>
  rw[List.find?_range_eq_some] at hf
  obtain⟨f1,f2,f3⟩:=hf
  have hk:=List.mem_range.1 f2
  have:(idxL n).findIdx? P=some k:=by
   rw[List.findIdx?_eq_some_iff_getElem]
   refine⟨by omega,by rw[hget k (by omega),h k hk];exact f1,fun j hj => ?_⟩
   rw[hget j (by omega),h j (by omega)]
   have:=f3 j hj
   simpa using this
  rw[this]
theorem run_stepIx (ps:List Pr) (hn:ps.length≤8) (c b:List Int) (caps:List AV) (hI:∀p:Nat,p<ps.length→PC Proofs.Tryz.prog 134 (ai p :: caps) (ab (rdyF ps c p && decide (b=stpC c p)))) :
  PC Proofs.Tryz.prog 132 [aInts (idxL ps.length),.clo 134 caps] (ai (oI (stpP ps c b))):=by
 have h:=ints_indexFunc (idxL ps.length) (by unfold idxL;simp;omega) (.clo 134 caps) rfl (fun z=>rdyF ps c z.toNat && decide (b=stpC c z.toNat)) (fun x hx=>by
  unfold idxL at hx
  obtain⟨i,hi,rfl⟩:=List.mem_map.1 hx
  exact PC.clo (args:=[ai i]) (hI i (List.mem_range.1 hi)))
 have e:=idxL_find ps.length (fun p=>rdyF ps c p && decide (b=stpC c p)) (fun z=>rdyF ps c z.toNat && decide (b=stpC c z.toNat)) (fun i _=>rfl)
 have e2:oI ((List.range ps.length).find? fun p=>rdyF ps c p && decide (b=stpC c p))=oI (stpP ps c b):=rfl
 rw[← e2,← e]
 generalize (fun z:Int=>rdyF ps c z.toNat && decide (b=stpC c z.toNat))=P at *
 cases hf:(idxL ps.length).findIdx? P with
 | none=>rw[hf] at h;exact h
 | some i=>rw[hf] at h;exact h
def stpsR (ps:List Pr) (r:List (List Int)):List Int:=((stpsF ps r).getD []).map fun (p:Nat)=>(p:Int)
set_option maxHeartbeats 1000000 in
theorem run_steps (ps:List Pr) (hs:Sm ps) (hv:validF ps=true) (r:List (List Int)) (hl:r.length≤1000000) (hx:∀x ∈ r,x.length≤1000000) :
  PC Proofs.Tryz.prog 99 [aRs ps,aRows r] (.tup [aInts (stpsR ps r),ab (stpsF ps r).isSome]):=by
 have hz:=run_zero ps hv
 have hfu:=run_full ps hs hv
 have haR:∀x:List (List Int),aRows x = .sl 1 (x.map aInts):=fun _=>rfl
 cases r with
 | nil =>
  have e1:stpsR ps []=[]:=rfl
  have e2:(stpsF ps []).isSome=false:=rfl
  rw[e1,e2]
  have z0:(((0:Nat):Int)=0)=True:=eq_true rfl
  unfold aRs
  refine PC.enter 58 [.tmp 4,.tmp 5] [2,3,7,8,54] Proofs.Tryz.func99 rfl rfl rfl rfl rfl (by simp) (AWp.of ?_);simp only[go_sem]
  refine Wk ?_
  refine AWp.seq (AWp.seq ?_)
  repeat(first|(with_reducible refine AWp.seq ?_)|(with_reducible refine AWp.block ?_))
  refine AWp.read mixed [0,1,2,3,4,5,6,7,8,9,10,11,12,13,14,15,16,17,18,19,20,21,22,23] (by kernel_rfl) ?_;simp only[go_sem,List.getD_nil]
  refine Sd ?_
  refine GCall.use (aInts []) (fun h=>absurd rfl h) ?_
  simp only[go_sem]
  refine GCall.use (ab false) (fun h=>absurd rfl h) ?_
  simp only[go_sem,List.getD_nil]
  refine Sd ?_
  refine GCall.use (aInts []) (fun h=>False.elim h) ?_
  simp only[go_sem]
  refine GCall.use (ab false) (fun h=>False.elim h) ?_
  simp only[go_sem,z0]
  refine W1 z0 ?_
  refine ret_view [] ?_;simp only[go_sem]
  exact .mkTup (Vws.cons (.nil 1) (Vws.refl _))
 | cons a r =>
  have hal:=hx a List.mem_cons_self
  obtain⟨lst,hlst⟩:∃lst,(a :: r)[r.length]'(by simp)=lst:=⟨_,rfl⟩
  have hll:lst.length≤1000000:=hx lst (by rw[← hlst];exact List.getElem_mem _)
  have hgl:(a :: r).getLast?=some lst:=by
   rw[List.getLast?_eq_getElem?,← hlst,List.getElem?_eq_getElem (by simp)]
   congr 1
  have hsF:stpsF ps (a :: r)=if a=zeroC ps∧lst=fullC ps then stpsG ps a r else none:=by
   show (if a=zeroC ps∧(a :: r).getLast?=some (fullC ps) then stpsG ps a r else none)=_
   rw[hgl]
   congr 1
   exact propext ⟨fun h=>⟨h.1,Option.some.inj h.2⟩,fun h=>⟨h.1,congrArg some h.2⟩⟩
  have he1:=ints_equal a (zeroC ps) hal
  have he2:=ints_equal lst (fullC ps) hll
  have hR0:((a :: r).map aInts).getD 0 .any=aInts a:=rfl
  have hRl:((a :: r).map aInts).getD r.length .any=aInts lst:=by
   rw[List.getD_eq_getElem?_getD,List.getElem?_map,List.getElem?_eq_getElem (by simp),hlst];rfl
  have hRn:((a :: r).map aInts).length=r.length+1:=by rw[List.length_map,List.length_cons]
  have hRd:((a :: r).map aInts).drop 1=r.map aInts:=rfl
  have hrl:r.length≤1000000:=by rw[List.length_cons] at hl;omega
  have hix:(((r.length+1:Nat):Int) - 1).toNat=r.length:=by omega
  have hn0:¬(((r.length+1:Nat):Int)=0):=by omega
  rw[haR]
  by_cases hc:a=zeroC ps∧lst=fullC ps
  ·rw[if_pos hc] at hsF
   obtain⟨rfl,rfl⟩:=hc
   rw[decide_eq_true rfl] at he1 he2
   have hI:=fun (i:Nat) (hi:i<(zeroC ps :: r).length) hc b hb p hp=>run_steps1 ps hs hv (zeroC ps :: r) i hi hc b hb p hp
   rw[haR] at hI
   have hin:=run_indices ps.length (by have:=(valid_len hv).2;omega)
   generalize hR:(zeroC ps :: r).map aInts=R at *
   unfold aRs at *
   refine PC.enter 58 [.tmp 4,.tmp 5] [2,3,7,8,54] Proofs.Tryz.func99 rfl rfl rfl rfl rfl (by simp) (AWp.of ?_);simp only[go_sem]
   refine Wk ?_
   refine AWp.seq (AWp.seq ?_)
   repeat(first|(with_reducible refine AWp.seq ?_)|(with_reducible refine AWp.block ?_))
   refine AWp.read mixed [0,1,2,3,4,5,6,7,8,9,10,11,12,13,14,15,16,17,18,19,20,21,22,23] (by kernel_rfl) ?_;simp only[go_sem,hR0,hRn,hn0]
   refine Sd ?_
   refine Sd ?_
   refine GCall.use (aInts (zeroC ps)) (fun _=>⟨At,(hz).val.use ⟨rfl,rfl⟩⟩) ?_;simp only[go_sem]
   refine Sd ?_
   refine GCall.use (ab true) (fun _=>⟨At,(he1).val.use ⟨rfl,rfl⟩⟩) ?_;simp only[go_sem,hRl,hRn,hix]
   refine Sd ?_
   refine Sd ?_
   refine GCall.use (aInts (fullC ps)) (fun _=>⟨At,(hfu).val.use ⟨rfl,rfl⟩⟩) ?_;simp only[go_sem]
   refine Sd ?_
   refine GCall.use (ab true) (fun _=>⟨At,(he2).val.use ⟨rfl,rfl⟩⟩) ?_;simp only[go_sem]
   refine W1 hRd ?_
   refine AWp.range' r.length [6] [2,3,35,36] (fun k vs L=>∃(l:List Nat) (v:AV),vs=[v]∧l.length=k∧isF ps ((zeroC ps :: r).getD k [])=true∧stpsG ps (zeroC ps) r=(stpsG ps ((zeroC ps :: r).getD k []) (r.drop k)).map (l ++ ·)∧AppSt 3 1 (l.map fun (p:Nat)=>ai p) v L) (by omega) rfl rfl rfl ⟨[],_,rfl,rfl,zeroC_is ps,?_,.nil⟩ ?_ ?_
   ·show stpsG ps (zeroC ps) r=(stpsG ps (zeroC ps) r).map ([] ++ ·)
    cases stpsG ps (zeroC ps) r <;> rfl
   ·rintro k vs L hk - ⟨l,v,rfl,hlk,hck,hst,hA⟩
    have hgk:=getD_map (f:=aInts) hk
    have hgc:(zeroC ps :: r).getD k []=(zeroC ps :: r)[k]'(by rw[List.length_cons];omega):=by
     rw[List.getD_eq_getElem?_getD,List.getElem?_eq_getElem];rfl
    have hgc2:(zeroC ps :: r).getD (k+1) []=r[k]:=by
     rw[List.getD_cons_succ,List.getD_eq_getElem?_getD,List.getElem?_eq_getElem hk];rfl
    have hdr:r.drop k=r[k] :: r.drop (k+1):=by rw[List.getElem_cons_drop]
    have hIk:=hI k (by rw[List.length_cons];omega) (by rw[← hgc];exact hck) r[k] (hx _ (List.mem_cons_of_mem _ (List.getElem_mem hk)))
    rw[← hgc] at hIk
    rw[hdr] at hst
    rw[hgc2]
    generalize (zeroC ps :: r).getD k []=c at *
    generalize r[k]=b at *
    have e1:stpsG ps c (b :: r.drop (k+1))=match stpP ps c b with
     | none=>none
     | some p=>(stpsG ps b (r.drop (k+1))).map (p :: ·):=rfl
    rw[e1] at hst
    have hidx:=run_stepIx ps (valid_len hv).2 c b [.rp 1 [.rp 2 [.agg [.sl 3 (ps.map aPr),.sl 1 (aNeeds ps ps)]] 0 0] 0 0,.rp 1 [.sl 1 R] 0 0,.rp 1 [ai (k:Nat)] 0 0,.rp 1 [aInts b] 0 0] hIk
    have hnl:=needs_len ps
    simp only[go_sem]
    cases hsp:stpP ps c b with
    | none =>
     rw[hsp] at hst hidx
     have hst:stpsG ps (zeroC ps) r=none:=hst
     change PC _ _ _ (ai (-1)) at hidx
     have e2:stpsR ps (zeroC ps :: r)=[]:=by unfold stpsR;rw[hsF,hst];rfl
     have e3:(stpsF ps (zeroC ps :: r)).isSome=false:=by rw[hsF,hst];rfl
     rw[e2,e3]
     rcases hA.inv with ⟨e5,rfl,rfl⟩|⟨bo,cap,rfl,rfl⟩
     ·refine W1 hgk ?_
      intro b7 b8 g8
      have n1:¬b7=b8:=by omega
      have n2:¬b8=b7:=by omega
      simp only[go_sem,n1]
      refine W3 hnl n1 n2 ?_
      refine Sd ?_
      refine(hin).val.use ?_;simp only[go_sem]
      refine W3 hnl n1 n2 ?_
      refine Sd ?_
      refine(hidx).val.use ?_;simp only[go_sem]
      repeat(first|((with_reducible refine AWp.ofC ?_ ?_);exact rfl;simp only[go_sem,Int.reduceLT])|((with_reducible refine an ?_ ?_);exact Au))
      refine ret_view [] ?_;simp only[go_sem]
      exact .mkTup (Vws.cons (.nil 1) (Vws.refl _))
     ·refine W1 hgk ?_
      intro b7 g7 b8 g8 g9
      have n1:¬b7=b8:=by omega
      have n2:¬b8=b7:=by omega
      have n3:¬bo=b8:=by omega
      have n4:¬b8=bo:=by omega
      have n5:¬bo=b7:=by omega
      have n6:¬b7=bo:=by omega
      simp only[go_sem,n1,n4]
      repeat(first|((with_reducible refine AWp.ofC ?_ ?_);exact rfl;simp only[go_sem,hnl])|((with_reducible refine an ?_ ?_);exact Au))
      refine Sd ?_
      refine(hin).val.use ?_;simp only[go_sem]
      refine W3 hnl n1 n2 ?_
      refine Sd ?_
      refine(hidx).val.use ?_;simp only[go_sem]
      repeat(first|((with_reducible refine AWp.ofC ?_ ?_);exact rfl;simp only[go_sem,Int.reduceLT])|((with_reducible refine an ?_ ?_);exact Au))
      refine ret_view [] ?_;simp only[go_sem]
      exact .mkTup (Vws.cons (.nil 1) (Vws.refl _))
    | some p =>
     rw[hsp] at hst hidx
     obtain⟨p1,p2,p3⟩:=(stpP_some (isF_iff.1 hck).1).1 hsp
     have hbF:isF ps b=true:=by rw[p3];exact rdy_is p2
     have hst:stpsG ps (zeroC ps) r=(stpsG ps b (r.drop (k+1))).map ((l ++ [p]) ++ ·):=by
      rw[hst]
      cases stpsG ps b (r.drop (k+1)) with
      | none=>rfl
      | some S=>simp
     change PC _ _ _ (ai (p:Int)) at hidx
     have hp0:¬(p:Int)<0:=by omega
     have hlm:((l ++ [p]).map fun (p:Nat)=>ai p)=(l.map fun (p:Nat)=>ai p) ++ [ai p]:=by rw[List.map_append];rfl
     have hll2:(l.map fun (p:Nat)=>ai p).length=k:=by rw[List.length_map];exact hlk
     have hl1:(l ++ [p]).length=k+1:=by rw[List.length_append,hlk];rfl
     rcases hA.inv with ⟨e5,rfl,rfl⟩|⟨bo,cap,rfl,rfl⟩
     ·refine W1 hgk ?_
      intro b7 b8 g8
      have n1:¬b7=b8:=by omega
      have n2:¬b8=b7:=by omega
      simp only[go_sem,n1]
      refine W3 hnl n1 n2 ?_
      refine Sd ?_
      refine(hin).val.use ?_;simp only[go_sem]
      refine W3 hnl n1 n2 ?_
      refine Sd ?_
      refine(hidx).val.use ?_;simp only[go_sem]
      refine W4 hp0 hnl n1 n2 ?_
      intro b' cap' hc'
      refine⟨_,List.Sublist.refl _,l ++ [p],_,rfl,hl1,hbF,hst,?_⟩
      rw[hlm,e5]
      exact .row _ _ _
     ·refine W1 hgk ?_
      intro b7 g7 b8 g8 g9
      have n1:¬b7=b8:=by omega
      have n2:¬b8=b7:=by omega
      have n3:¬bo=b8:=by omega
      have n4:¬b8=bo:=by omega
      have n5:¬bo=b7:=by omega
      have n6:¬b7=bo:=by omega
      simp only[go_sem,n1,n4]
      repeat(first|((with_reducible refine AWp.ofC ?_ ?_);exact rfl;simp only[go_sem,hnl])|((with_reducible refine an ?_ ?_);exact Au))
      refine Sd ?_
      refine(hin).val.use ?_;simp only[go_sem]
      refine W3 hnl n1 n2 ?_
      refine Sd ?_
      refine(hidx).val.use ?_;simp only[go_sem]
      refine W4 hp0 hnl n1 n2 ?_
      intro b' cap' hc'
      refine⟨_,List.Sublist.refl _,l ++ [p],_,rfl,hl1,hbF,hst,?_⟩
      rw[hlm]
      exact AppSt.snoc b' cap' _ (by rw[List.length_map])
   ·rintro vs L - ⟨l,v,rfl,hlk,hck,hst,hA⟩
    have e1:stpsG ps (zeroC ps) r=some l:=by
     rw[hst,List.drop_length]
     show some (l ++ [])=some l
     rw[List.append_nil]
    have e2:stpsR ps (zeroC ps :: r)=l.map fun (p:Nat)=>(p:Int):=by unfold stpsR;rw[hsF,e1];rfl
    have e3:(stpsF ps (zeroC ps :: r)).isSome=true:=by rw[hsF,e1];rfl
    rw[e2,e3]
    have e4:(l.map fun (p:Nat)=>(p:Int)).map ai=l.map fun (p:Nat)=>ai p:=by rw[List.map_map];rfl
    rcases hA.inv with ⟨e5,rfl,rfl⟩|⟨bo,cap,rfl,rfl⟩
    ·have:l=[]:=List.map_eq_nil_iff.1 e5
     subst this
     simp only[go_sem]
     refine Wk ?_
     refine ret_view [] ?_;simp only[go_sem]
     exact .mkTup (Vws.cons (.nil 1) (Vws.refl _))
    ·simp only[go_sem]
     refine Wk ?_
     refine ret_view [true] ?_;simp only[go_sem]
     rw[e4]
     exact .mkTup (Vws.cons (Vw.ofLs (if_pos rfl) (by rw[List.length_map])) (Vws.refl _))
  ·rw[if_neg hc] at hsF
   have e1:stpsR ps (a :: r)=[]:=by unfold stpsR;rw[hsF];rfl
   have e2:(stpsF ps (a :: r)).isSome=false:=by rw[hsF];rfl
   rw[e1,e2]
   generalize (a :: r).map aInts=R at *
   unfold aRs at *
   refine PC.enter 58 [.tmp 4,.tmp 5] [2,3,7,8,54] Proofs.Tryz.func99 rfl rfl rfl rfl rfl (by simp) (AWp.of ?_);simp only[go_sem]
   refine Wk ?_
   refine AWp.seq (AWp.seq ?_)
   repeat(first|(with_reducible refine AWp.seq ?_)|(with_reducible refine AWp.block ?_))
   refine AWp.read mixed [0,1,2,3,4,5,6,7,8,9,10,11,12,13,14,15,16,17,18,19,20,21,22,23] (by kernel_rfl) ?_;simp only[go_sem,hR0,hRn,hn0]
   refine Sd ?_
   refine Sd ?_
   refine GCall.use (aInts (zeroC ps)) (fun _=>⟨At,(hz).val.use ⟨rfl,rfl⟩⟩) ?_;simp only[go_sem]
   by_cases ha:a=zeroC ps
   ·subst ha
    have hlf:¬lst=fullC ps:=fun h=>hc ⟨rfl,h⟩
    rw[decide_eq_true rfl] at he1
    rw[decide_eq_false hlf] at he2
    refine Sd ?_
    refine GCall.use (ab true) (fun _=>⟨At,(he1).val.use ⟨rfl,rfl⟩⟩) ?_;simp only[go_sem,hRl,hRn,hix]
    refine Sd ?_
    refine Sd ?_
    refine GCall.use (aInts (fullC ps)) (fun _=>⟨At,(hfu).val.use ⟨rfl,rfl⟩⟩) ?_;simp only[go_sem]
    refine Sd ?_
    refine GCall.use (ab false) (fun _=>⟨At,(he2).val.use ⟨rfl,rfl⟩⟩) ?_;simp only[go_sem]
    refine Wk ?_
    refine ret_view [] ?_;simp only[go_sem]
    exact .mkTup (Vws.cons (.nil 1) (Vws.refl _))
   ·rw[decide_eq_false ha] at he1
    refine Sd ?_
    refine GCall.use (ab false) (fun _=>⟨At,(he1).val.use ⟨rfl,rfl⟩⟩) ?_;simp only[go_sem,hRl,hRn,hix]
    refine Sd ?_
    refine GCall.use (aInts []) (fun h=>False.elim h) ?_
    simp only[go_sem]
    refine GCall.use (ab false) (fun h=>False.elim h) ?_
    simp only[go_sem]
    refine Wk ?_
    refine ret_view [] ?_;simp only[go_sem]
    exact .mkTup (Vws.cons (.nil 1) (Vws.refl _))
end Go.AL
end
