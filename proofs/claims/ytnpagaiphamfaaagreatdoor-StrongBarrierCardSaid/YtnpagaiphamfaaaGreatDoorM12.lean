/- Texts of this claim's proof: WCl, WRe. No condition. -/
import Derived.Test.YtnpagaiphamfaaaGreatDoorM10
section
namespace Go.AL
open Go Go.RowKit
set_option maxRecDepth 4000
theorem Own.eid (x:Eid):Own (aEid x):=Own.agg fun y hy=>by
 simp only[List.mem_cons,List.not_mem_nil,or_false] at hy
 rcases hy with rfl|rfl <;> exact Own.v _
theorem Own.miss (ps:List Pr) (c:List Int):Own (aMiss ps c):=by
 unfold aMiss
 split <;> exact Own.tup fun y hy=>by
  simp only[List.mem_cons,List.not_mem_nil,or_false] at hy
  rcases hy with rfl|rfl|rfl
  ·exact Own.eid _
  ·exact Own.eid _
  ·exact Own.v _
theorem cut_Close1 (c:List Int) (s r:Eid) (b n cap:Nat) (hn:n=c.length) (h0:0≤s.1) (h1:s.1<c.length):MCalls Proofs.Tryz.prog 57 [.ls b 1 0 n cap,aEid s,aEid r] [(b,.row 3 1 (c.map ai) cap)] fun _ L=>L=[(b,.row 3 1 ((c.set s.1.toNat s.2).map ai) cap)]:=by
 subst hn
 have hg:=getD_cAt (c:=c) h0 h1
 refine MCalls.enter' 12 [] [4,5] Proofs.Tryz.func57 rfl rfl rfl rfl rfl (by simp) (AWp.of ?_);simp only[go_sem]
 refine W1 hg ?_
 refine ret_own ?_
 simp only[go_sem]
 rw[List.map_set]
theorem cut_repaired (ps:List Pr) (hs:Sm ps) (hv:validF ps=true) (c:List Int) (hc:c.length=ps.length) (hr:inRangeF ps c=true) :
  PC Proofs.Tryz.prog 56 [aTr ps,aInts c,.v (.func (.func 57) #[] #[])] (.tup [aInts (closeF ps c),ai 0]):=by
 obtain⟨hl1,hl8⟩:=valid_len hv
 have hs1:=cut_sized ps hs [c] (by simp)
 have e1:sizedF ps [c]=true:=by unfold sizedF;rw[hv];simp [hc]
 rw[e1] at hs1
 have hs2:=cut_inRange ps hs c hc
 rw[hr] at hs2
 refine PC.enter 40 [.tmp 6,.tmp 7] [3,9,10,15] Proofs.Tryz.func56 rfl rfl rfl rfl rfl (by simp) (AWp.of ?_);simp only[go_sem]
 refine Wk ?_
 refine Sd ?_
 refine(hs1).val.use ?_;simp only[go_sem]
 refine Wk ?_
 refine Sd ?_
 refine(hs2).val.use ?_;simp only[go_sem]
 refine Wk ?_
 refine(ints_cloneO c (by omega)).val.mono ?_
 rintro r L hA
 rcases hA.inv with ⟨e1,rfl,rfl⟩|⟨b,cap,rfl,rfl⟩
 ·have:c.length=0:=by simpa using congrArg List.length e1
  omega
 simp only[go_sem,List.length_map]
 refine Sd ?_
 refine AWp.of ?_;simp only[go_sem]
 refine AWp.loopN [] [2,3,8] (fun m vs L=>∃d,d.length=ps.length∧inRangeF ps d=true∧closeF ps d=closeF ps c∧m=off ps ps.length - totC d∧L=[(b,.row 3 1 (d.map ai) cap)]) (off ps ps.length - totC c) ⟨c,hc,hr,rfl,rfl,rfl⟩ ?_
 rintro m vs L - ⟨d,hd,hdr,hde,rfl,rfl⟩
 have hm:=cut_missing ps hs d hv hd hdr
 have ho:=Own.miss ps d
 have hvw:Vws [(b,.row 3 1 (d.map ai) cap)] [aTr ps,.ls b 1 0 c.length cap] [aTr ps,aInts d]:=Vws.cons (.refl _) (Vws.cons (Vw.ofLs (if_pos rfl) (by rw[List.length_map];omega)) .nil)
 simp only[go_sem]
 refine Wk ?_
 cases h:missF ps d with
 | none =>
  rw[closeF_none h] at hde
  unfold aMiss at hm ho
  rw[h] at hm ho
  refine(PC.view hvw hm ho ?_).val
  simp only[go_sem]
  intro b9 g1 b10 g2 g3
  have n1:¬b9=b10:=by omega
  have n2:¬b10=b9:=by omega
  have n3:¬b=b9:=by omega
  have n4:¬b=b10:=by omega
  have n5:¬b9=b:=by omega
  have n6:¬b10=b:=by omega
  simp only[go_sem,n1,n6]
  refine W6 n1 n2 n3 n4 n5 n6 ?_
  refine ret_view [true] ?_;simp only[go_sem]
  rw[← hde]
  exact .mkTup (Vws.cons (Vw.ofLs (if_pos rfl) (by rw[List.length_map];omega)) (Vws.refl _))
 | some x =>
  obtain⟨a1,a2,a3⟩:=miss_next hv hd hdr h
  have hst:=closeF_step hv hd hdr h
  have ht:=totC_le a1 a2
  obtain⟨_,_,_,_,q,hq,j,hj,_,_,_,hx,_⟩:=miss_inv hv hd h
  have hx1:0≤x.1.1∧x.1.1<d.length:=by rw[hx];dsimp only;omega
  unfold aMiss at hm ho
  rw[h] at hm ho
  clear hx
  obtain⟨s,r⟩:=x
  refine(PC.view hvw hm ho ?_).val
  simp only[go_sem]
  intro b9 g1 b10 g2 g3
  have n1:¬b9=b10:=by omega
  have n2:¬b10=b9:=by omega
  have n3:¬b=b9:=by omega
  have n4:¬b=b10:=by omega
  have n5:¬b9=b:=by omega
  have n6:¬b10=b:=by omega
  simp only[go_sem,n1,n6]
  refine W6 n1 n2 n3 n4 n5 n6 ?_
  refine(cut_Close1 d s r b c.length cap (by omega) hx1.1 hx1.2).val.mono ?_
  rintro r L rfl
  simp only[go_sem]
  refine Wk ?_
  exact⟨_,List.Sublist.refl _,_,by omega,_,a1,a2,by rw[← hst,hde],rfl,rfl⟩
theorem cut_Close (ps:List Pr) (hs:Sm ps) (hv:validF ps=true) (c:List Int) (hc:c.length=ps.length) (hr:inRangeF ps c=true) :
  PC Proofs.Tryz.prog 20 [aTr ps,aInts c] (.tup [aInts (closeF ps c),ai 0]):=by
 have h:=cut_repaired ps hs hv c hc hr
 refine PC.enter 11 [.tmp 4,.tmp 5] [2] Proofs.Tryz.func20 rfl rfl rfl rfl rfl (by simp) (AWp.of ?_);simp only[go_sem]
 refine Wk ?_
 refine Sd ?_
 refine(h).val.use ?_;simp only[go_sem]
 refine Wk ?_
 refine ret_eq ?_;simp only[go_sem]
theorem ref22_Sent (ps:List Pr) (hs:Sm ps) (hv:validF ps=true) (c:List Int) (hc:c.length=ps.length) (p:Nat) (hp:p<ps.length) (i:Nat) (hi:i<ps[p].evs.length) (hic:(i:Int)<cAt c p) :
  PC Proofs.Tryz.prog 137 [aTr ps,aInts c,ai p,ai i] (ab (!badEv ps c (((p:Int),(i:Int)+1),ps[p].evs[i]))):=by
 obtain⟨hl1,hl8⟩:=valid_len hv
 have hl:=hs.procs
 have hel:=hs.evs _ (List.getElem_mem hp)
 have hgp:=getD_map (f:=aPr) hp
 have hge:=getD_map (f:=aEv) hi
 have hbad:badEv ps c (((p:Int),(i:Int)+1),ps[p].evs[i])=(decide (ps[p].evs[i].kind=3) && decide (cAt c (findIn (evIds ps) 2 ps[p].evs[i].msg).1<(findIn (evIds ps) 2 ps[p].evs[i].msg).2)):=by
  simp only[badEv,decide_eq_true (show (i:Int)+1≤cAt c p by omega),Bool.and_true]
 rw[hbad]
 have hfd:=ref12_Find ps hs 2 ps[p].evs[i].msg
 obtain⟨f1,f2⟩:=findIn_proc hl1 2 ps[p].evs[i].msg
 have hgs:=getD_cAt (c:=c) f1 (by omega)
 generalize findIn (evIds ps) 2 ps[p].evs[i].msg=s at *
 refine PC.enter 35 [.tmp 8] [4,9,10] Proofs.Tryz.func137 rfl rfl rfl rfl rfl (by simp) (AWp.of ?_);simp only[go_sem]
 refine W2 hgp hge ?_
 intro b9
 refine Wk ?_
 refine⟨fun h3 => ?_,fun h3 => ?_⟩
 ·refine Wk ?_
  refine ret_eq ?_;simp only[go_sem]
  rw[decide_eq_false h3];rfl
 ·refine Wk ?_
  refine Sd ?_
  refine(hfd).val.use ?_;simp only[go_sem]
  refine Sd ?_
  intro b10
  refine AWp.seq ?_
  refine AWp.drawn mixed 8 (by kernel_rfl) ?_;simp only[go_sem,hgs]
  refine Sd ?_
  refine Wk ?_
  refine ret_eq ?_;simp only[go_sem]
  rw[decide_eq_true h3,Bool.true_and,← decide_not]
  congr 2
  simp only[decide_eq_decide];omega
theorem stC_ok {ps:List Pr} {p:Nat} {k:Int} (hp:p<ps.length) (h0:0≤k) (hk:k≤ps[p].evs.length):(stC ps.length p k).length=ps.length∧inRangeF ps (stC ps.length p k)=true:=by
 have hl:(stC ps.length p k).length=ps.length:=by unfold stC;rw[List.length_set,List.length_replicate]
 refine⟨hl,?_⟩
 rw[inRange_iff hl]
 intro q hq
 unfold cAt stC
 rw[Int.toNat_natCast,getD_set0]
 split
 ·rename_i e;obtain⟨rfl,_⟩:=e;omega
 ·rw[List.getD_eq_getElem?_getD,List.getElem?_replicate,if_pos hq]
  exact⟨Int.le_refl 0,by simp⟩
theorem ref25_Index (ps:List Pr) (hs:Sm ps) (p:Int) (hpb:isPB ps.length p=true) (s:ByteArray):PC Proofs.Tryz.prog 167 [aTr ps,ai p,astr s] (ai (varX ps p s)):=by
 obtain⟨p,rfl,hp⟩:=isPB_nat hpb
 rw[varX_get hp]
 have hm:=List.getElem_mem hp
 have hvl:=hs.vars _ hm
 have hgp:=getD_map (f:=aPr) hp
 have hhit:∀i (hi:i<ps[p].vars.length),(∀j (hj:j<ps[p].vars.length),j<i→nmB s ps[p].vars[j]=false)→nmB s ps[p].vars[i]=true→varIx ps[p].vars s=i:=by
  intro i hi h0 h1
  have:ps[p].vars.findIdx? (nmB s)=some i:=by rw[List.findIdx?_eq_some_iff_getElem];exact⟨hi,h1,fun j hj=>by simpa using h0 j (by omega) hj⟩
  unfold varIx;rw[this]
 have hno:(∀j (hj:j<ps[p].vars.length),nmB s ps[p].vars[j]=false)→varIx ps[p].vars s = -1:=by
  intro h0
  have:ps[p].vars.findIdx? (nmB s)=none:=by
   rw[List.findIdx?_eq_none_iff];intro x hx;obtain⟨i,hi,rfl⟩:=List.getElem_of_mem hx;exact h0 i hi
  unfold varIx;rw[this]
 generalize varIx ps[p].vars s=r at *
 refine PC.enter 29 [.tmp 6] [3] Proofs.Tryz.func167 rfl rfl rfl rfl rfl (by simp) (AWp.of ?_);simp only[go_sem]
 refine W1 hgp ?_
 refine AWp.block (AWp.count 8 ps[p].vars.length [] [2,7] (fun i vs L=>L=[]∧∀j (hj:j<ps[p].vars.length),j<i→nmB s ps[p].vars[j]=false) rfl rfl ⟨rfl,by omega⟩ ?_)
 rintro i vs L hi - ⟨rfl,hI⟩
 simp only[go_sem]
 refine Wk ?_
 refine⟨fun h1 => ?_,fun h1 => ?_⟩
 ·have hiv:i<ps[p].vars.length:=by omega
  have hgv:=getD_map (f:=aVar) hiv
  refine W1 hgv ?_
  refine⟨fun h2 => ?_,fun h2 => ?_⟩
  ·refine Wk ?_
   refine ret_eq ?_;simp only[go_sem]
   rw[hhit i hiv hI (decide_eq_true h2)]
  ·refine Wk ?_
   refine⟨_,List.Sublist.refl _,rfl,fun j hj hji => ?_⟩
   by_cases e:j=i
   ·subst e;exact decide_eq_false h2
   ·exact hI j hj (by omega)
 ·refine Wk ?_
  refine ret_eq ?_;simp only[go_sem]
  rw[hno fun j hj=>hI j hj (by omega)]
def leafR (ps:List Pr) (c:List Int) (o:Obs):Pd→Prop
 | .mk k _ p _ s _=>(k=2→∃ix cv:Int,PC Proofs.Tryz.prog 167 [aTr ps,ai p,astr s] (ai ix)∧PC Proofs.Tryz.prog 166 [aTr ps,ai p,ai ix,ai cv] (ai (o.var p s))∧0≤p∧c[p.toNat]?=some cv)∧(k=3→0≤p∧c[p.toNat]?=some (o.cnt p))∧(k=4→False)
theorem ref29_Value (ps:List Pr) (c:List Int) (o:Obs) (_hcl:c.length≤1000000) (t:Pd):szF t≤1000000→okT ps t=true→t.kind≤8→(intF ps t).2.2=true→AllP (obsB ps o) t→AllP (leafR ps c o) t →
  PC Proofs.Tryz.prog 138 [aTr ps,aInts c,aPd t] (ai (valF o t)):=by
 induction t using Pd.ind with
 | _ k n p q s l ih =>
 intro hz ht hk hi hob hlf
 have hbnd:=valF_bounds ps o _ ht hk hob hi
 obtain⟨o1,o2,o3,o4⟩:=okT_sub ht
 obtain⟨hpl,_⟩:=loc_len o1
 simp only[Pd.kind] at hk
 have hch:=child_le ht (show k≤12 by omega)
 have hsz:szF (.mk k n p q s l)=szL l+1:=by rw[szF]
 have hsp:=valF_mk o k n p q s l
 have hci:=bd_child hi
 obtain⟨⟨lf2,lf3,lf4⟩,hls⟩:=AllP_sub hlf
 obtain⟨_,hos⟩:=AllP_sub hob
 generalize valF o (.mk k n p q s l)=R at *
 have hb : -1125899906842624≤R∧R≤1125899906842624:=by omega
 clear hbnd hi
 have hcb:=fun (x:Pd) (hx:x ∈ l) (h:l.length≤2)=>valF_bounds ps o x (hch x hx).1 (hch x hx).2 (hos x hx) (hci h x hx)
 rcases parts_cases k with ⟨e,hc⟩|⟨e,hc⟩|⟨e,hc⟩|e
 ·obtain rfl:=len0 (l:=l) (by omega)
  simp only[List.map_nil,valN,aPd_mk] at *
  have hk4:k=1∨k=2∨k=3∨k=4:=by omega
  rcases hk4 with h|h|h|h
  ·have hsp:R=n:=by rw[hsp,if_pos h]
   refine PC.enter 106 [.tmp 6] [3,5] Proofs.Tryz.func138 rfl rfl rfl rfl rfl (by simp) (AWp.of ?_);simp only[go_sem]
   repeat(first|((with_reducible refine AWp.ofC ?_ ?_);exact rfl;simp only[go_sem,(eq_true h)])|((with_reducible refine an ?_ ?_);exact Au))
   refine ret_eq ?_;simp only[go_sem]
   rw[hsp]
  ·obtain⟨ix,cv,g1,g2,g3,g4⟩:=lf2 h
   obtain⟨hpc,hpe⟩:=List.getElem?_eq_some_iff.1 g4
   have hg:=getD_map (f:=ai) hpc
   rw[hpe] at hg
   have h1:¬k=1:=by omega
   rw[if_neg h1,if_pos h] at hsp
   refine PC.enter 106 [.tmp 6] [3,5] Proofs.Tryz.func138 rfl rfl rfl rfl rfl (by simp) (AWp.of ?_);simp only[go_sem]
   repeat(first|((with_reducible refine AWp.ofC ?_ ?_);exact rfl;simp only[go_sem,(eq_true h),h1])|((with_reducible refine an ?_ ?_);exact Au))
   repeat(first|(with_reducible refine AWp.seq ?_)|(with_reducible refine AWp.block ?_))
   refine AWp.mix mixed [0,1,2,3,4,5,6,7,8,9,10,11,12,13,14,15] .done (by kernel_rfl) ?_;simp only[go_sem]
   refine Sd ?_
   refine GCall.use (ai ix) (fun _=>⟨At,(g1).val.use ⟨rfl,rfl⟩⟩) ?_;simp only[go_sem,hg]
   refine Sd ?_
   refine Gc g2 ?_
   refine Sd ?_
   refine Wk ?_
   refine ret_eq ?_;simp only[go_sem]
   rw[hsp]
  ·obtain⟨p0,pc⟩:=lf3 h
   obtain⟨hpc,hpe⟩:=List.getElem?_eq_some_iff.1 pc
   have hg:=getD_map (f:=ai) hpc
   have h1:¬k=1:=by omega
   have h2:¬k=2:=by omega
   rw[if_neg h1,if_neg h2,if_pos h] at hsp
   rw[hpe] at hg
   refine PC.enter 106 [.tmp 6] [3,5] Proofs.Tryz.func138 rfl rfl rfl rfl rfl (by simp) (AWp.of ?_);simp only[go_sem]
   repeat(first|((with_reducible refine AWp.ofC ?_ ?_);exact rfl;simp only[go_sem,(eq_true h),h1,h2,hg])|((with_reducible refine an ?_ ?_);exact Au))
   refine ret_eq ?_;simp only[go_sem]
   rw[hsp]
  ·exact(lf4 h).elim
 ·obtain⟨a,rfl⟩:=len1 (l:=l) (by omega)
  have h5:k=5:=by omega
  have h1:¬k=1:=by omega
  have h2:¬k=2:=by omega
  have h3:¬k=3:=by omega
  have h4:¬k=4:=by omega
  obtain⟨c1,c2⟩:=hch a (by simp)
  have hza:=szL_mem (l:=[a]) (x:=a) (by simp)
  have hca:=ih a (by simp) (by omega) c1 c2 (hci (by simp) a (by simp)) (hos a (by simp)) (hls a (by simp))
  have hcb:=hcb a (by simp) (by simp)
  simp only[List.map_cons,List.map_nil,valN] at hsp
  generalize valF o a=A at *
  obtain⟨ka,na,pa,qa,sa,la⟩:=a
  simp only[aPd_mk,List.map_cons,List.map_nil] at *
  refine PC.enter 106 [.tmp 6] [3,5] Proofs.Tryz.func138 rfl rfl rfl rfl rfl (by simp) (AWp.of ?_);simp only[go_sem]
  repeat(first|((with_reducible refine AWp.ofC ?_ ?_);exact rfl;simp only[go_sem,(eq_true h5),h1,h2,h3,h4])|((with_reducible refine an ?_ ?_);exact Au))
  repeat(first|(with_reducible refine AWp.seq ?_)|(with_reducible refine AWp.block ?_))
  refine AWp.mix mixed [0,1,2,3,4,5,6,7,8] .done (by kernel_rfl) ?_;simp only[go_sem]
  refine Sd ?_
  refine Gc hca ?_
  refine Sd ?_
  refine Wk ?_
  refine ret_eq ?_;simp only[go_sem]
  rw[hsp]
 ·obtain⟨a,b,rfl⟩:=len2 (l:=l) (by omega)
  have h1:¬k=1:=by omega
  have h2:¬k=2:=by omega
  have h3:¬k=3:=by omega
  have h4:¬k=4:=by omega
  have h5:¬k=5:=by omega
  obtain⟨c1,c2⟩:=hch a (by simp)
  obtain⟨c3,c4⟩:=hch b (by simp)
  have hza:=szL_mem (l:=[a,b]) (x:=a) (by simp)
  have hzb:=szL_mem (l:=[a,b]) (x:=b) (by simp)
  have hca:=ih a (by simp) (by omega) c1 c2 (hci (by simp) a (by simp)) (hos a (by simp)) (hls a (by simp))
  have hcc:=ih b (by simp) (by omega) c3 c4 (hci (by simp) b (by simp)) (hos b (by simp)) (hls b (by simp))
  have hcba:=hcb a (by simp) (by simp)
  have hcbb:=hcb b (by simp) (by simp)
  simp only[List.map_cons,List.map_nil,valN] at hsp
  have hmw:=fun h=>mulW_eq (a:=valF o a) (b:=valF o b) h
  generalize valF o a=A at *
  generalize valF o b=B at *
  obtain⟨ka,na,pa,qa,sa,la⟩:=a
  obtain⟨kb,nb,pb,qb,sb,lb⟩:=b
  simp only[aPd_mk,List.map_cons,List.map_nil] at *
  refine PC.enter 106 [.tmp 6] [3,5] Proofs.Tryz.func138 rfl rfl rfl rfl rfl (by simp) (AWp.of ?_);simp only[go_sem]
  by_cases h6:k=6
  ·rw[if_pos h6] at hsp
   repeat(first|((with_reducible refine AWp.ofC ?_ ?_);exact rfl;simp only[go_sem,(eq_true h6),h1,h2,h3,h4,h5])|((with_reducible refine an ?_ ?_);exact Au))
   repeat(first|(with_reducible refine AWp.seq ?_)|(with_reducible refine AWp.block ?_))
   refine AWp.mix mixed [0,1,2,3,4,5,6,7,8,9,10,11,12,13,14,15] .done (by kernel_rfl) ?_;simp only[go_sem]
   refine Sd ?_
   refine Gc hca ?_
   refine Sd ?_
   refine Gc hcc ?_
   refine Sd ?_
   refine Wk ?_
   refine ret_eq ?_;simp only[go_sem]
   rw[hsp]
  by_cases h7:k=7
  ·rw[if_neg h6,if_pos h7] at hsp
   repeat(first|((with_reducible refine AWp.ofC ?_ ?_);exact rfl;simp only[go_sem,(eq_true h7),h1,h2,h3,h4,h5,h6])|((with_reducible refine an ?_ ?_);exact Au))
   repeat(first|(with_reducible refine AWp.seq ?_)|(with_reducible refine AWp.block ?_))
   refine AWp.mix mixed [0,1,2,3,4,5,6,7,8,9,10,11,12,13,14,15] .done (by kernel_rfl) ?_;simp only[go_sem]
   refine Sd ?_
   refine Gc hca ?_
   refine Sd ?_
   refine Gc hcc ?_
   refine Sd ?_
   refine Wk ?_
   refine ret_eq ?_;simp only[go_sem]
   rw[hsp]
  rw[if_neg h6,if_neg h7] at hsp
  have hmw:=hmw (by rw[← hsp];unfold I64;omega)
  repeat(first|((with_reducible refine AWp.ofC ?_ ?_);exact rfl;simp only[go_sem,h1,h2,h3,h4,h5,h6,h7])|((with_reducible refine an ?_ ?_);exact Au))
  refine AWp.seq ?_
  repeat(first|(with_reducible refine AWp.seq ?_)|(with_reducible refine AWp.block ?_))
  refine AWp.mix mixed [0,1,2,3,4,5,6,7,8,9,10,11,12,13,14,15] .done (by kernel_rfl) ?_;simp only[go_sem]
  refine Sd ?_
  refine Gc hca ?_
  refine Sd ?_
  refine Gc hcc ?_
  refine Sd ?_
  refine W1 hmw ?_
  refine ret_eq ?_;simp only[go_sem]
  rw[hsp]
 ·omega
theorem ref29_Truth (ps:List Pr) (c:List Int) (o:Obs) (hcl:c.length≤1000000) (t:Pd):szF t≤1000000→okT ps t=true→9≤t.kind→fitB ps t=true→allB ntmB t=true→AllP (obsB ps o) t→AllP (leafR ps c o) t →
  PC Proofs.Tryz.prog 100 [aTr ps,aInts c,aPd t] (ab (truF o t)):=by
 induction t using Pd.ind with
 | _ k n p q s l ih =>
 intro hz ht hk hi htm hob hlf
 obtain⟨o1,o2,o3,o4⟩:=okT_sub ht
 obtain⟨hpl,_⟩:=loc_len o1
 simp only[Pd.kind] at hk
 obtain⟨ht1,ht2⟩:=allB_sub htm
 have hnt:¬(18≤k∧k≤21):=by unfold ntmB tempB at ht1;simp at ht1;omega
 have hsz:szF (.mk k n p q s l)=szL l+1:=by rw[szF]
 have hsp:=truF_mk o k n p q s l
 have hfc:=fit_child hi hk
 obtain⟨_,hls⟩:=AllP_sub hlf
 obtain⟨_,hos⟩:=AllP_sub hob
 generalize truF o (.mk k n p q s l)=R at *
 unfold truN at hsp
 by_cases h12:k≤12
 ·have hch:=child_le ht h12
  obtain⟨a,b,rfl⟩:=len2 (l:=l) (by rcases parts_cases k with ⟨e,hc⟩|⟨e,hc⟩|⟨e,hc⟩|e <;> omega)
  obtain⟨c1,c2⟩:=hch a (by simp)
  obtain⟨c3,c4⟩:=hch b (by simp)
  have hza:=szL_mem (l:=[a,b]) (x:=a) (by simp)
  have hzb:=szL_mem (l:=[a,b]) (x:=b) (by simp)
  have hca:=ref29_Value ps c o hcl a (by omega) c1 c2 (fit_int (hfc a (by simp)) c2) (hos a (by simp)) (hls a (by simp))
  have hcc:=ref29_Value ps c o hcl b (by omega) c3 c4 (fit_int (hfc b (by simp)) c4) (hos b (by simp)) (hls b (by simp))
  simp only[List.map_cons,List.map_nil,List.getD_cons_zero,List.getD_cons_succ] at hsp
  generalize valF o a=A at *
  generalize valF o b=B at *
  clear ih hlf hls hob hos htm ht2 hch hfc
  obtain⟨ka,na,pa,qa,sa,la⟩:=a
  obtain⟨kb,nb,pb,qb,sb,lb⟩:=b
  simp only[aPd_mk,List.map_cons,List.map_nil] at *
  refine PC.enter 125 [.tmp 6] [3,5] Proofs.Tryz.func100 rfl rfl rfl rfl rfl (by simp) (AWp.of ?_);simp only[go_sem]
  by_cases h9:k=9
  ·rw[if_pos h9] at hsp
   repeat(first|((with_reducible refine AWp.ofC ?_ ?_);exact rfl;simp only[go_sem,(eq_true h9)])|((with_reducible refine an ?_ ?_);exact Au))
   repeat(first|(with_reducible refine AWp.seq ?_)|(with_reducible refine AWp.block ?_))
   refine AWp.mix mixed [0,1,2,3,4,5,6,7,8,9,10,11,12,13,14,15] .done (by kernel_rfl) ?_;simp only[go_sem]
   refine Sd ?_
   refine Gc hca ?_
   refine Sd ?_
   refine Gc hcc ?_
   refine Sd ?_
   refine Wk ?_
   refine ret_eq ?_;simp only[go_sem]
   rw[hsp]
  by_cases h10:k=10
  ·rw[if_neg h9,if_pos h10] at hsp
   repeat(first|((with_reducible refine AWp.ofC ?_ ?_);exact rfl;simp only[go_sem,(eq_true h10),h9])|((with_reducible refine an ?_ ?_);exact Au))
   repeat(first|(with_reducible refine AWp.seq ?_)|(with_reducible refine AWp.block ?_))
   refine AWp.mix mixed [0,1,2,3,4,5,6,7,8,9,10,11,12,13,14,15] .done (by kernel_rfl) ?_;simp only[go_sem]
   refine Sd ?_
   refine Gc hca ?_
   refine Sd ?_
   refine Gc hcc ?_
   refine Sd ?_
   refine Wk ?_
   refine ret_eq ?_;simp only[go_sem]
   rw[hsp]
  by_cases h11:k=11
  ·rw[if_neg h9,if_neg h10,if_pos h11] at hsp
   repeat(first|((with_reducible refine AWp.ofC ?_ ?_);exact rfl;simp only[go_sem,(eq_true h11),h9,h10])|((with_reducible refine an ?_ ?_);exact Au))
   repeat(first|(with_reducible refine AWp.seq ?_)|(with_reducible refine AWp.block ?_))
   refine AWp.mix mixed [0,1,2,3,4,5,6,7,8,9,10,11,12,13,14,15] .done (by kernel_rfl) ?_;simp only[go_sem]
   refine Sd ?_
   refine Gc hca ?_
   refine Sd ?_
   refine Gc hcc ?_
   refine Sd ?_
   refine Wk ?_
   refine ret_eq ?_;simp only[go_sem]
   rw[hsp]
  have h12:k=12:=by omega
  rw[if_neg h9,if_neg h10,if_neg h11,if_pos h12] at hsp
  repeat(first|((with_reducible refine AWp.ofC ?_ ?_);exact rfl;simp only[go_sem,(eq_true h12),h9,h10,h11])|((with_reducible refine an ?_ ?_);exact Au))
  repeat(first|(with_reducible refine AWp.seq ?_)|(with_reducible refine AWp.block ?_))
  refine AWp.mix mixed [0,1,2,3,4,5,6,7,8,9,10,11,12,13,14,15] .done (by kernel_rfl) ?_;simp only[go_sem]
  refine Sd ?_
  refine Gc hca ?_
  refine Sd ?_
  refine Gc hcc ?_
  refine Sd ?_
  refine Wk ?_
  refine ret_eq ?_;simp only[go_sem]
  rw[hsp]
 have h9:¬k=9:=by omega
 have h10:¬k=10:=by omega
 have h11:¬k=11:=by omega
 have h12:¬k=12:=by omega
 rw[if_neg h9,if_neg h10,if_neg h11,if_neg h12] at hsp
 have hch:=child_bool ht (by omega)
 rcases parts_cases k with ⟨e,hc⟩|⟨e,hc⟩|⟨e,hc⟩|e
 ·obtain rfl:=len0 (l:=l) (by omega)
  simp only[aPd_mk,List.map_nil] at *
  refine PC.enter 125 [.tmp 6] [3,5] Proofs.Tryz.func100 rfl rfl rfl rfl rfl (by simp) (AWp.of ?_);simp only[go_sem]
  by_cases h13:k=13
  ·rw[if_pos h13] at hsp
   repeat(first|((with_reducible refine AWp.ofC ?_ ?_);exact rfl;simp only[go_sem,(eq_true h13),h9,h10,h11,h12])|((with_reducible refine an ?_ ?_);exact Au))
   refine ret_eq ?_;simp only[go_sem]
   rw[hsp]
  ·have h14:k=14:=by omega
   rw[if_neg h13,if_pos h14] at hsp
   have h15:¬k=15:=by omega
   have h16:¬k=16:=by omega
   have h17:¬k=17:=by omega
   repeat(first|((with_reducible refine AWp.ofC ?_ ?_);exact rfl;simp only[go_sem,h9,h10,h11,h12,h13,h15,h16,h17])|((with_reducible refine an ?_ ?_);exact Au))
   refine ret_eq ?_;simp only[go_sem]
   rw[hsp]
 ·obtain⟨a,rfl⟩:=len1 (l:=l) (by omega)
  have h13:¬k=13:=by omega
  have h14:¬k=14:=by omega
  have h15:k=15:=by omega
  obtain⟨c1,c2⟩:=hch a (by simp)
  have hza:=szL_mem (l:=[a]) (x:=a) (by simp)
  have hca:=ih a (by simp) (by omega) c1 c2 (hfc a (by simp)) (ht2 a (by simp)) (hos a (by simp)) (hls a (by simp))
  simp only[List.map_cons,List.map_nil,List.getD_cons_zero,if_neg h13,if_neg h14,if_pos h15] at hsp
  generalize truF o a=A at *
  clear ih hlf hls hob hos htm ht2 hch hfc
  obtain⟨ka,na,pa,qa,sa,la⟩:=a
  simp only[aPd_mk,List.map_cons,List.map_nil] at *
  refine PC.enter 125 [.tmp 6] [3,5] Proofs.Tryz.func100 rfl rfl rfl rfl rfl (by simp) (AWp.of ?_);simp only[go_sem]
  repeat(first|((with_reducible refine AWp.ofC ?_ ?_);exact rfl;simp only[go_sem,(eq_true h15),h9,h10,h11,h12,h13])|((with_reducible refine an ?_ ?_);exact Au))
  repeat(first|(with_reducible refine AWp.seq ?_)|(with_reducible refine AWp.block ?_))
  refine AWp.mix mixed [0,1,2,3,4,5,6,7,8] .done (by kernel_rfl) ?_;simp only[go_sem]
  refine Sd ?_
  refine Gc hca ?_
  refine Sd ?_
  refine Wk ?_
  refine ret_eq ?_;simp only[go_sem]
  rw[hsp]
 ·obtain⟨a,b,rfl⟩:=len2 (l:=l) (by omega)
  have h13:¬k=13:=by omega
  have h14:¬k=14:=by omega
  have h15:¬k=15:=by omega
  obtain⟨c1,c2⟩:=hch a (by simp)
  obtain⟨c3,c4⟩:=hch b (by simp)
  have hza:=szL_mem (l:=[a,b]) (x:=a) (by simp)
  have hzb:=szL_mem (l:=[a,b]) (x:=b) (by simp)
  have hca:=ih a (by simp) (by omega) c1 c2 (hfc a (by simp)) (ht2 a (by simp)) (hos a (by simp)) (hls a (by simp))
  have hcc:=ih b (by simp) (by omega) c3 c4 (hfc b (by simp)) (ht2 b (by simp)) (hos b (by simp)) (hls b (by simp))
  simp only[List.map_cons,List.map_nil,List.getD_cons_zero,List.getD_cons_succ,if_neg h13,if_neg h14,if_neg h15] at hsp
  generalize truF o a=A at *
  generalize truF o b=B at *
  clear ih hlf hls hob hos htm ht2 hch hfc
  obtain⟨ka,na,pa,qa,sa,la⟩:=a
  obtain⟨kb,nb,pb,qb,sb,lb⟩:=b
  simp only[aPd_mk,List.map_cons,List.map_nil] at *
  refine PC.enter 125 [.tmp 6] [3,5] Proofs.Tryz.func100 rfl rfl rfl rfl rfl (by simp) (AWp.of ?_);simp only[go_sem]
  by_cases h16:k=16
  ·rw[if_pos h16] at hsp
   repeat(first|((with_reducible refine AWp.ofC ?_ ?_);exact rfl;simp only[go_sem,(eq_true h16),h9,h10,h11,h12,h13,h15])|((with_reducible refine an ?_ ?_);exact Au))
   repeat(first|(with_reducible refine AWp.seq ?_)|(with_reducible refine AWp.block ?_))
   refine AWp.mix mixed [0,1,2,3,4,5,6,7,8,9,10,11,12,13,14,15,16] .done (by kernel_rfl) ?_;simp only[go_sem]
   refine Sd ?_
   refine Gc hca ?_
   refine Sd ?_
   refine Gc hcc ?_
   refine Sd ?_
   refine Wk ?_
   refine ret_eq ?_;simp only[go_sem]
   rw[hsp]
  ·rw[if_neg h16] at hsp
   have h17:k=17:=by omega
   repeat(first|((with_reducible refine AWp.ofC ?_ ?_);exact rfl;simp only[go_sem,(eq_true h17),h9,h10,h11,h12,h13,h15,h16])|((with_reducible refine an ?_ ?_);exact Au))
   repeat(first|(with_reducible refine AWp.seq ?_)|(with_reducible refine AWp.block ?_))
   refine AWp.mix mixed [0,1,2,3,4,5,6,7,8,9,10,11,12,13,14,15,16] .done (by kernel_rfl) ?_;simp only[go_sem]
   refine Sd ?_
   refine Gc hca ?_
   refine Sd ?_
   refine Gc hcc ?_
   refine Sd ?_
   refine Wk ?_
   refine ret_eq ?_;simp only[go_sem]
   rw[hsp]
 ·omega
end Go.AL
end
