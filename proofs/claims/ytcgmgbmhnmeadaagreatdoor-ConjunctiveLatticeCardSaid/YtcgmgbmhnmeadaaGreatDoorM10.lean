/- Texts of this claim's proof: WBd, WCl, WRe, WLo, WLp, WLq, WNd. No condition. -/
import Derived.Test.YtcgmgbmhnmeadaaGreatDoorM9
section
namespace Go.AL
open Go Go.RowKit
set_option maxRecDepth 4000
def okL (E:Elim) (p:Nat):List AV:=(List.range (E.top p+1)).map fun k=>ab (E.ok p k)
def okM (E:Elim):List AV:=(List.range E.n).map fun p => .sl 1 (okL E p)
def needL (E:Elim) (q m:Nat):List AV:=(List.range E.n).map fun p=>ai (E.need q m p)
def needM (E:Elim) (q:Nat):List AV:=(List.range (E.top q+1)).map fun m => .sl 1 (needL E q m)
def needT (E:Elim):List AV:=(List.range E.n).map fun q => .sl 1 (needM E q)
theorem okL_len (E:Elim) (p:Nat):(okL E p).length=E.top p+1:=by simp [okL]
theorem okM_len (E:Elim):(okM E).length=E.n:=by simp [okM]
theorem needL_len (E:Elim) (q m:Nat):(needL E q m).length=E.n:=by simp [needL]
theorem needM_len (E:Elim) (q:Nat):(needM E q).length=E.top q+1:=by simp [needM]
theorem needT_len (E:Elim):(needT E).length=E.n:=by simp [needT]
section
variable {E:Elim} {p q m k:Nat}
theorem okL_get (hk:k≤E.top p):(okL E p).getD k .any=ab (E.ok p k):=map_range_getD (show k<E.top p+1 by omega) _
theorem okM_get (hp:p<E.n):(okM E).getD p .any = .sl 1 (okL E p):=map_range_getD hp _
theorem needL_get (hp:p<E.n):(needL E q m).getD p .any=ai (E.need q m p):=map_range_getD hp _
theorem needM_get (hm:m≤E.top q):(needM E q).getD m .any = .sl 1 (needL E q m):=map_range_getD (show m<E.top q+1 by omega) _
theorem needT_get (hq:q<E.n):(needT E).getD q .any = .sl 1 (needM E q):=map_range_getD hq _
end
def aBoard (E:Elim) (now:Nat→Nat):AV:=.rp 3 [.agg [.sl 1 (needT E),.sl 1 (okM E),.sl 1 (dnA E.n now)]] 0 0
structure SmE (E:Elim):Prop where
 n:E.n≤1000000
 top:∀q,E.top q≤1000000
theorem board_excluded (E:Elim) (hE:SmE E) (now:Nat→Nat) (hI:InE E now) (p k:Nat) (hp:p<E.n) (hk:k≤E.top p):PC Proofs.Tryz.prog 65 [aBoard E now,ai p,ai k] (ab (exB E now p k)):=by
 have hn:=hE.n
 have htp:=hE.top p
 have g1:=okM_get hp
 have g2:=okL_get hk
 have hex:exB E now p k=(!E.ok p k || exB E now p k):=by
  cases h:exB E now p k with
  | true=>rw[Bool.or_true]
  | false=>rw[(exB_false.1 h).1];rfl
 have hf:=exB_false (E:=E) (now:=now) (p:=p) (k:=k)
 unfold aBoard
 generalize exB E now p k=B at *
 refine PC.enter 51 [.tmp 6] [] Proofs.Tryz.func65 rfl rfl rfl rfl rfl (by simp) (AWp.of ?_);simp only[go_sem]
 repeat(first|((with_reducible refine AWp.ofC ?_ ?_);exact rfl;simp only[go_sem,g1,g2,okL_len,okM_len])|((with_reducible refine an ?_ ?_);exact Au))
 refine⟨fun h1 => ?_,fun h1 => ?_⟩
 ·refine Wk ?_
  refine ret_eq ?_;simp only[go_sem]
  rw[hex,h1];rfl
 ·repeat(first|((with_reducible refine AWp.ofC ?_ ?_);exact rfl;simp only[go_sem,dnA_length])|((with_reducible refine an ?_ ?_);exact Au))
  refine AWp.range' E.n [] [0,1,2,23,24] (fun q vs L=>L=[]∧∀j,j<q→j ≠ p→E.need j (now j) p≤k) (by omega) rfl rfl rfl ⟨rfl,fun j hj=>by omega⟩ ?_ ?_
  ·rintro q vs L hq - ⟨rfl,hJ⟩
   have n1:=dnA_get hq now
   have hnq:=hI q hq
   have htq:=hE.top q
   have g3:=needT_get hq
   have g4:=needM_get hnq
   have g5:=needL_get (q:=q) (m:=now q) hp
   by_cases e:q=p
   ·subst e
    simp only[go_sem]
    refine Sd ?_
    refine AWp.of ?_;simp only[go_sem,n1,dnA_length]
    repeat(first|((with_reducible refine AWp.ofC ?_ ?_);exact rfl;simp only[go_sem,g3,g4,g5,needL_len,needM_len,needT_len])|((with_reducible refine an ?_ ?_);exact Au))
    exact⟨_,List.Sublist.refl _,rfl,fun j hj hn=>hJ j (by omega) hn⟩
   ·have ei:¬(q:Int)=p:=by omega
    simp only[go_sem]
    refine Sd ?_
    refine AWp.of ?_;simp only[go_sem,n1,dnA_length]
    repeat(first|((with_reducible refine AWp.ofC ?_ ?_);exact rfl;simp only[go_sem,ei,g3,g4,g5,needL_len,needM_len,needT_len])|((with_reducible refine an ?_ ?_);exact Au))
    refine⟨fun h2 => ?_,fun h2 => ?_⟩
    ·refine Wk ?_
     refine ret_eq ?_;simp only[go_sem]
     cases B with
     | true=>rfl
     | false=>have:=(hf.1 rfl).2 q hq e;omega
    ·refine⟨_,List.Sublist.refl _,rfl,fun j hj hn => ?_⟩
     by_cases ej:j=q
     ·subst ej;omega
     ·exact hJ j (by omega) hn
  ·rintro vs L - ⟨rfl,hJ⟩
   simp only[go_sem]
   refine Wk ?_
   refine ret_eq ?_;simp only[go_sem]
   rw[hf.2 ⟨by simpa using h1,fun q hq hn=>hJ q hq hn⟩]
theorem board_left (E:Elim) (hE:SmE E) (now:Nat→Nat) (hnow:∀q,q<E.n→now q≤1000001) (p:Nat) (hp:p<E.n):PC Proofs.Tryz.prog 44 [aBoard E now,ai p] (ab (decide (now p<E.top p+1))):=by
 have hn:=hE.n
 have htp:=hE.top p
 have hnp:=hnow p hp
 have g0:=dnA_get hp now
 have g1:=okM_get hp
 unfold aBoard
 refine PC.enter 21 [.tmp 4] [] Proofs.Tryz.func44 rfl rfl rfl rfl rfl (by simp) (AWp.of ?_);simp only[go_sem]
 refine AWp.seq ?_
 repeat(first|(with_reducible refine AWp.seq ?_)|(with_reducible refine AWp.block ?_))
 refine AWp.mix mixed [0,1,2,3,4,5,6,7,8,9,10,11,12,13,14,15,16] .done (by kernel_rfl) ?_;simp only[go_sem,g0,g1,dnA_length,okL_len,okM_len]
 refine Sd ?_
 refine Wk ?_
 refine ret_eq ?_;simp only[go_sem]
 congr 2;simp only[decide_eq_decide];omega
def lostB (E:Elim) (now:Nat→Nat):Bool:=(List.range E.n).any fun q=>decide (E.top q<now q)
theorem board_lost (E:Elim) (hE:SmE E) (now:Nat→Nat) (hnow:∀q,q<E.n→now q≤1000001):PC Proofs.Tryz.prog 26 [aBoard E now] (ab (lostB E now)):=by
 have hn:=hE.n
 have hleft:=fun p hp=>board_left E hE now hnow p hp
 have hl:aBoard E now = .rp 3 [.agg [.sl 1 (needT E),.sl 1 (okM E),.sl 1 (dnA E.n now)]] 0 0:=rfl
 have h1:∀q,q<E.n→E.top q<now q→lostB E now=true:=fun q hq h=>List.any_eq_true.2 ⟨q,List.mem_range.2 hq,decide_eq_true h⟩
 have h0:(∀q,q<E.n→¬E.top q<now q)→lostB E now=false:=fun h=>List.any_eq_false.2 fun q hq=>by simpa using h q (List.mem_range.1 hq)
 generalize lostB E now=B at *
 rw[hl] at *
 refine PC.enter 17 [.tmp 2] [] Proofs.Tryz.func26 rfl rfl rfl rfl rfl (by simp) (AWp.of ?_);simp only[go_sem]
 repeat(first|((with_reducible refine AWp.ofC ?_ ?_);exact rfl;simp only[go_sem,dnA_length])|((with_reducible refine an ?_ ?_);exact Au))
 refine AWp.range' E.n [] [0,8] (fun q vs L=>L=[]∧∀j,j<q→¬E.top j<now j) (by omega) rfl rfl rfl ⟨rfl,fun j hj=>by omega⟩ ?_ ?_
 ·rintro q vs L hq - ⟨rfl,hJ⟩
  simp only[go_sem]
  refine Wk ?_
  refine Sd ?_
  refine(hleft q hq).val.use ?_;simp only[go_sem]
  refine Wk ?_
  refine⟨fun h2 => ?_,fun h2 => ?_⟩
  ·refine Wk ?_
   refine ret_eq ?_;simp only[go_sem]
   rw[h1 q hq (by omega)]
  ·refine⟨_,List.Sublist.refl _,rfl,fun j hj => ?_⟩
   by_cases ej:j=q
   ·subst ej;omega
   ·exact hJ j (by omega)
 ·rintro vs L - ⟨rfl,hJ⟩
  simp only[go_sem]
  refine Wk ?_
  refine ret_eq ?_;simp only[go_sem]
  rw[h0 hJ]
def boardL (E:Elim) (now:Nat→Nat) (bb bn:Nat):AHeap:=[(bb,.row 74 3 [.agg [.sl 1 (needT E),.sl 1 (okM E),.ls bn 1 0 E.n E.n]] 1),(bn,.row 3 1 (dnA E.n now) E.n)]
theorem board_view {E:Elim} {now:Nat→Nat} {bb bn:Nat} (hb:¬bn=bb):Vw (boardL E now bb bn) (.lp bb 3 0 0) (aBoard E now):=by
 have h1:lk (boardL E now bb bn) bb=some (.row 74 3 [.agg [.sl 1 (needT E),.sl 1 (okM E),.ls bn 1 0 E.n E.n]] 1):=by simp only[boardL,lk,if_true]
 have h2:lk (boardL E now bb bn) bn=some (.row 3 1 (dnA E.n now) E.n):=by simp only[boardL,lk,if_neg hb,if_true]
 unfold aBoard
 exact .lp h1 rfl (Vws.cons (.mkAgg (Vws.cons (.refl _) (Vws.cons (.refl _) (Vws.cons (Vw.ofLs h2 (dnA_length _ _).symm) .nil)))) .nil).2
theorem Own.eid (x:Eid):Own (aEid x):=Own.agg fun y hy=>by
 simp only[List.mem_cons,List.not_mem_nil,or_false] at hy
 rcases hy with rfl|rfl <;> exact Own.v _
theorem Own.miss (ps:List Pr) (c:List Int):Own (aMiss ps c):=by
 unfold aMiss
 split <;> exact Own.tup fun y hy=>by
  simp only[List.mem_cons,List.not_mem_nil,or_false] at hy
  rcases hy with rfl|rfl|rfl
  ·exact Own.eid _
  ·exact Own.eid _
  ·exact Own.v _
theorem cut_Close1 (c:List Int) (s r:Eid) (b n cap:Nat) (hn:n=c.length) (h0:0≤s.1) (h1:s.1<c.length):MCalls Proofs.Tryz.prog 94 [.ls b 1 0 n cap,aEid s,aEid r] [(b,.row 3 1 (c.map ai) cap)] fun _ L=>L=[(b,.row 3 1 ((c.set s.1.toNat s.2).map ai) cap)]:=by
 subst hn
 have hg:=getD_cAt (c:=c) h0 h1
 refine MCalls.enter' 12 [] [4,5] Proofs.Tryz.func94 rfl rfl rfl rfl rfl (by simp) (AWp.of ?_);simp only[go_sem]
 refine W1 hg ?_
 refine ret_own ?_
 simp only[go_sem]
 rw[List.map_set]
theorem cut_repaired (ps:List Pr) (hs:Sm ps) (hv:validF ps=true) (c:List Int) (hc:c.length=ps.length) (hr:inRangeF ps c=true) :
  PC Proofs.Tryz.prog 45 [aTr ps,aInts c,.v (.func (.func 94) #[] #[])] (.tup [aInts (closeF ps c),ai 0]):=by
 obtain⟨hl1,hl8⟩:=valid_len hv
 have hs1:=cut_sized ps hs [c] (by simp)
 have e1:sizedF ps [c]=true:=by unfold sizedF;rw[hv];simp [hc]
 rw[e1] at hs1
 have hs2:=cut_inRange ps hs c hc
 rw[hr] at hs2
 refine PC.enter 40 [.tmp 6,.tmp 7] [3,9,10,15] Proofs.Tryz.func45 rfl rfl rfl rfl rfl (by simp) (AWp.of ?_);simp only[go_sem]
 refine Wk ?_
 refine Sd ?_
 refine(hs1).val.use ?_;simp only[go_sem]
 refine Wk ?_
 refine Sd ?_
 refine(hs2).val.use ?_;simp only[go_sem]
 refine Wk ?_
 refine(ints_cloneO c (by omega)).val.mono ?_
 rintro r L hA
 rcases hA.inv with ⟨e1,rfl,rfl⟩|⟨b,cap,rfl,rfl⟩
 ·have:c.length=0:=by simpa using congrArg List.length e1
  omega
 simp only[go_sem,List.length_map]
 refine Sd ?_
 refine AWp.of ?_;simp only[go_sem]
 refine AWp.loopN [] [2,3,8] (fun m vs L=>∃d,d.length=ps.length∧inRangeF ps d=true∧closeF ps d=closeF ps c∧m=off ps ps.length - totC d∧L=[(b,.row 3 1 (d.map ai) cap)]) (off ps ps.length - totC c) ⟨c,hc,hr,rfl,rfl,rfl⟩ ?_
 rintro m vs L - ⟨d,hd,hdr,hde,rfl,rfl⟩
 have hm:=cut_missing ps hs d hv hd hdr
 have ho:=Own.miss ps d
 have hvw:Vws [(b,.row 3 1 (d.map ai) cap)] [aTr ps,.ls b 1 0 c.length cap] [aTr ps,aInts d]:=Vws.cons (.refl _) (Vws.cons (Vw.ofLs (if_pos rfl) (by rw[List.length_map];omega)) .nil)
 simp only[go_sem]
 refine Wk ?_
 cases h:missF ps d with
 | none =>
  rw[closeF_none h] at hde
  unfold aMiss at hm ho
  rw[h] at hm ho
  refine(PC.view hvw hm ho ?_).val
  simp only[go_sem]
  intro b9 g1 b10 g2 g3
  have n1:¬b9=b10:=by omega
  have n2:¬b10=b9:=by omega
  have n3:¬b=b9:=by omega
  have n4:¬b=b10:=by omega
  have n5:¬b9=b:=by omega
  have n6:¬b10=b:=by omega
  simp only[go_sem,n1,n6]
  refine W6 n1 n2 n3 n4 n5 n6 ?_
  refine ret_view [true] ?_;simp only[go_sem]
  rw[← hde]
  exact .mkTup (Vws.cons (Vw.ofLs (if_pos rfl) (by rw[List.length_map];omega)) (Vws.refl _))
 | some x =>
  obtain⟨a1,a2,a3⟩:=miss_next hv hd hdr h
  have hst:=closeF_step hv hd hdr h
  have ht:=totC_le a1 a2
  obtain⟨_,_,_,_,q,hq,j,hj,_,_,_,hx,_⟩:=miss_inv hv hd h
  have hx1:0≤x.1.1∧x.1.1<d.length:=by rw[hx];dsimp only;omega
  unfold aMiss at hm ho
  rw[h] at hm ho
  clear hx
  obtain⟨s,r⟩:=x
  refine(PC.view hvw hm ho ?_).val
  simp only[go_sem]
  intro b9 g1 b10 g2 g3
  have n1:¬b9=b10:=by omega
  have n2:¬b10=b9:=by omega
  have n3:¬b=b9:=by omega
  have n4:¬b=b10:=by omega
  have n5:¬b9=b:=by omega
  have n6:¬b10=b:=by omega
  simp only[go_sem,n1,n6]
  refine W6 n1 n2 n3 n4 n5 n6 ?_
  refine(cut_Close1 d s r b c.length cap (by omega) hx1.1 hx1.2).val.mono ?_
  rintro r L rfl
  simp only[go_sem]
  refine Wk ?_
  exact⟨_,List.Sublist.refl _,_,by omega,_,a1,a2,by rw[← hst,hde],rfl,rfl⟩
theorem cut_Close (ps:List Pr) (hs:Sm ps) (hv:validF ps=true) (c:List Int) (hc:c.length=ps.length) (hr:inRangeF ps c=true) :
  PC Proofs.Tryz.prog 64 [aTr ps,aInts c] (.tup [aInts (closeF ps c),ai 0]):=by
 have h:=cut_repaired ps hs hv c hc hr
 refine PC.enter 11 [.tmp 4,.tmp 5] [2] Proofs.Tryz.func64 rfl rfl rfl rfl rfl (by simp) (AWp.of ?_);simp only[go_sem]
 refine Wk ?_
 refine Sd ?_
 refine(h).val.use ?_;simp only[go_sem]
 refine Wk ?_
 refine ret_eq ?_;simp only[go_sem]
theorem ref22_Sent (ps:List Pr) (hs:Sm ps) (hv:validF ps=true) (c:List Int) (hc:c.length=ps.length) (p:Nat) (hp:p<ps.length) (i:Nat) (hi:i<ps[p].evs.length) (hic:(i:Int)<cAt c p) :
  PC Proofs.Tryz.prog 84 [aTr ps,aInts c,ai p,ai i] (ab (!badEv ps c (((p:Int),(i:Int)+1),ps[p].evs[i]))):=by
 obtain⟨hl1,hl8⟩:=valid_len hv
 have hl:=hs.procs
 have hel:=hs.evs _ (List.getElem_mem hp)
 have hgp:=getD_map (f:=aPr) hp
 have hge:=getD_map (f:=aEv) hi
 have hbad:badEv ps c (((p:Int),(i:Int)+1),ps[p].evs[i])=(decide (ps[p].evs[i].kind=3) && decide (cAt c (findIn (evIds ps) 2 ps[p].evs[i].msg).1<(findIn (evIds ps) 2 ps[p].evs[i].msg).2)):=by
  simp only[badEv,decide_eq_true (show (i:Int)+1≤cAt c p by omega),Bool.and_true]
 rw[hbad]
 have hfd:=ref12_Find ps hs 2 ps[p].evs[i].msg
 obtain⟨f1,f2⟩:=findIn_proc hl1 2 ps[p].evs[i].msg
 have hgs:=getD_cAt (c:=c) f1 (by omega)
 generalize findIn (evIds ps) 2 ps[p].evs[i].msg=s at *
 refine PC.enter 35 [.tmp 8] [4,9,10] Proofs.Tryz.func84 rfl rfl rfl rfl rfl (by simp) (AWp.of ?_);simp only[go_sem]
 refine W2 hgp hge ?_
 intro b9
 refine Wk ?_
 refine⟨fun h3 => ?_,fun h3 => ?_⟩
 ·refine Wk ?_
  refine ret_eq ?_;simp only[go_sem]
  rw[decide_eq_false h3];rfl
 ·refine Wk ?_
  refine Sd ?_
  refine(hfd).val.use ?_;simp only[go_sem]
  refine Sd ?_
  intro b10
  refine AWp.seq ?_
  refine AWp.drawn mixed 8 (by kernel_rfl) ?_;simp only[go_sem,hgs]
  refine Sd ?_
  refine Wk ?_
  refine ret_eq ?_;simp only[go_sem]
  rw[decide_eq_true h3,Bool.true_and,← decide_not]
  congr 2
  simp only[decide_eq_decide];omega
theorem stC_ok {ps:List Pr} {p:Nat} {k:Int} (hp:p<ps.length) (h0:0≤k) (hk:k≤ps[p].evs.length):(stC ps.length p k).length=ps.length∧inRangeF ps (stC ps.length p k)=true:=by
 have hl:(stC ps.length p k).length=ps.length:=by unfold stC;rw[List.length_set,List.length_replicate]
 refine⟨hl,?_⟩
 rw[inRange_iff hl]
 intro q hq
 unfold cAt stC
 rw[Int.toNat_natCast,getD_set0]
 split
 ·rename_i e;obtain⟨rfl,_⟩:=e;omega
 ·rw[List.getD_eq_getElem?_getD,List.getElem?_replicate,if_pos hq]
  exact⟨Int.le_refl 0,by simp⟩
theorem ref25_Index (ps:List Pr) (hs:Sm ps) (p:Int) (hpb:isPB ps.length p=true) (s:ByteArray):PC Proofs.Tryz.prog 124 [aTr ps,ai p,astr s] (ai (varX ps p s)):=by
 obtain⟨p,rfl,hp⟩:=isPB_nat hpb
 rw[varX_get hp]
 have hm:=List.getElem_mem hp
 have hvl:=hs.vars _ hm
 have hgp:=getD_map (f:=aPr) hp
 have hhit:∀i (hi:i<ps[p].vars.length),(∀j (hj:j<ps[p].vars.length),j<i→nmB s ps[p].vars[j]=false)→nmB s ps[p].vars[i]=true→varIx ps[p].vars s=i:=by
  intro i hi h0 h1
  have:ps[p].vars.findIdx? (nmB s)=some i:=by rw[List.findIdx?_eq_some_iff_getElem];exact⟨hi,h1,fun j hj=>by simpa using h0 j (by omega) hj⟩
  unfold varIx;rw[this]
 have hno:(∀j (hj:j<ps[p].vars.length),nmB s ps[p].vars[j]=false)→varIx ps[p].vars s = -1:=by
  intro h0
  have:ps[p].vars.findIdx? (nmB s)=none:=by
   rw[List.findIdx?_eq_none_iff];intro x hx;obtain⟨i,hi,rfl⟩:=List.getElem_of_mem hx;exact h0 i hi
  unfold varIx;rw[this]
 generalize varIx ps[p].vars s=r at *
 refine PC.enter 29 [.tmp 6] [3] Proofs.Tryz.func124 rfl rfl rfl rfl rfl (by simp) (AWp.of ?_);simp only[go_sem]
 refine W1 hgp ?_
 refine AWp.block (AWp.count 8 ps[p].vars.length [] [2,7] (fun i vs L=>L=[]∧∀j (hj:j<ps[p].vars.length),j<i→nmB s ps[p].vars[j]=false) rfl rfl ⟨rfl,by omega⟩ ?_)
 rintro i vs L hi - ⟨rfl,hI⟩
 simp only[go_sem]
 refine Wk ?_
 refine⟨fun h1 => ?_,fun h1 => ?_⟩
 ·have hiv:i<ps[p].vars.length:=by omega
  have hgv:=getD_map (f:=aVar) hiv
  refine W1 hgv ?_
  refine⟨fun h2 => ?_,fun h2 => ?_⟩
  ·refine Wk ?_
   refine ret_eq ?_;simp only[go_sem]
   rw[hhit i hiv hI (decide_eq_true h2)]
  ·refine Wk ?_
   refine⟨_,List.Sublist.refl _,rfl,fun j hj hji => ?_⟩
   by_cases e:j=i
   ·subst e;exact decide_eq_false h2
   ·exact hI j hj (by omega)
 ·refine Wk ?_
  refine ret_eq ?_;simp only[go_sem]
  rw[hno fun j hj=>hI j hj (by omega)]
def leafR (ps:List Pr) (c:List Int) (o:Obs):Pd→Prop
 | .mk k _ p _ s _=>(k=2→∃ix cv:Int,PC Proofs.Tryz.prog 124 [aTr ps,ai p,astr s] (ai ix)∧PC Proofs.Tryz.prog 123 [aTr ps,ai p,ai ix,ai cv] (ai (o.var p s))∧0≤p∧c[p.toNat]?=some cv)∧(k=3→0≤p∧c[p.toNat]?=some (o.cnt p))∧(k=4→False)
theorem ref29_Value (ps:List Pr) (c:List Int) (o:Obs) (_hcl:c.length≤1000000) (t:Pd):szF t≤1000000→okT ps t=true→t.kind≤8→(intF ps t).2.2=true→AllP (obsB ps o) t→AllP (leafR ps c o) t →
  PC Proofs.Tryz.prog 85 [aTr ps,aInts c,aPd t] (ai (valF o t)):=by
 induction t using Pd.ind with
 | _ k n p q s l ih =>
 intro hz ht hk hi hob hlf
 have hbnd:=valF_bounds ps o _ ht hk hob hi
 obtain⟨o1,o2,o3,o4⟩:=okT_sub ht
 obtain⟨hpl,_⟩:=loc_len o1
 simp only[Pd.kind] at hk
 have hch:=child_le ht (show k≤12 by omega)
 have hsz:szF (.mk k n p q s l)=szL l+1:=by rw[szF]
 have hsp:=valF_mk o k n p q s l
 have hci:=bd_child hi
 obtain⟨⟨lf2,lf3,lf4⟩,hls⟩:=AllP_sub hlf
 obtain⟨_,hos⟩:=AllP_sub hob
 generalize valF o (.mk k n p q s l)=R at *
 have hb : -1125899906842624≤R∧R≤1125899906842624:=by omega
 clear hbnd hi
 have hcb:=fun (x:Pd) (hx:x ∈ l) (h:l.length≤2)=>valF_bounds ps o x (hch x hx).1 (hch x hx).2 (hos x hx) (hci h x hx)
 rcases parts_cases k with ⟨e,hc⟩|⟨e,hc⟩|⟨e,hc⟩|e
 ·obtain rfl:=len0 (l:=l) (by omega)
  simp only[List.map_nil,valN,aPd_mk] at *
  have hk4:k=1∨k=2∨k=3∨k=4:=by omega
  rcases hk4 with h|h|h|h
  ·have hsp:R=n:=by rw[hsp,if_pos h]
   refine PC.enter 106 [.tmp 6] [3,5] Proofs.Tryz.func85 rfl rfl rfl rfl rfl (by simp) (AWp.of ?_);simp only[go_sem]
   repeat(first|((with_reducible refine AWp.ofC ?_ ?_);exact rfl;simp only[go_sem,(eq_true h)])|((with_reducible refine an ?_ ?_);exact Au))
   refine ret_eq ?_;simp only[go_sem]
   rw[hsp]
  ·obtain⟨ix,cv,g1,g2,g3,g4⟩:=lf2 h
   obtain⟨hpc,hpe⟩:=List.getElem?_eq_some_iff.1 g4
   have hg:=getD_map (f:=ai) hpc
   rw[hpe] at hg
   have h1:¬k=1:=by omega
   rw[if_neg h1,if_pos h] at hsp
   refine PC.enter 106 [.tmp 6] [3,5] Proofs.Tryz.func85 rfl rfl rfl rfl rfl (by simp) (AWp.of ?_);simp only[go_sem]
   repeat(first|((with_reducible refine AWp.ofC ?_ ?_);exact rfl;simp only[go_sem,(eq_true h),h1])|((with_reducible refine an ?_ ?_);exact Au))
   repeat(first|(with_reducible refine AWp.seq ?_)|(with_reducible refine AWp.block ?_))
   refine AWp.mix mixed [0,1,2,3,4,5,6,7,8,9,10,11,12,13,14,15] .done (by kernel_rfl) ?_;simp only[go_sem]
   refine Sd ?_
   refine GCall.use (ai ix) (fun _=>⟨At,(g1).val.use ⟨rfl,rfl⟩⟩) ?_;simp only[go_sem,hg]
   refine Sd ?_
   refine Gc g2 ?_
   refine Sd ?_
   refine Wk ?_
   refine ret_eq ?_;simp only[go_sem]
   rw[hsp]
  ·obtain⟨p0,pc⟩:=lf3 h
   obtain⟨hpc,hpe⟩:=List.getElem?_eq_some_iff.1 pc
   have hg:=getD_map (f:=ai) hpc
   have h1:¬k=1:=by omega
   have h2:¬k=2:=by omega
   rw[if_neg h1,if_neg h2,if_pos h] at hsp
   rw[hpe] at hg
   refine PC.enter 106 [.tmp 6] [3,5] Proofs.Tryz.func85 rfl rfl rfl rfl rfl (by simp) (AWp.of ?_);simp only[go_sem]
   repeat(first|((with_reducible refine AWp.ofC ?_ ?_);exact rfl;simp only[go_sem,(eq_true h),h1,h2,hg])|((with_reducible refine an ?_ ?_);exact Au))
   refine ret_eq ?_;simp only[go_sem]
   rw[hsp]
  ·exact(lf4 h).elim
 ·obtain⟨a,rfl⟩:=len1 (l:=l) (by omega)
  have h5:k=5:=by omega
  have h1:¬k=1:=by omega
  have h2:¬k=2:=by omega
  have h3:¬k=3:=by omega
  have h4:¬k=4:=by omega
  obtain⟨c1,c2⟩:=hch a (by simp)
  have hza:=szL_mem (l:=[a]) (x:=a) (by simp)
  have hca:=ih a (by simp) (by omega) c1 c2 (hci (by simp) a (by simp)) (hos a (by simp)) (hls a (by simp))
  have hcb:=hcb a (by simp) (by simp)
  simp only[List.map_cons,List.map_nil,valN] at hsp
  generalize valF o a=A at *
  obtain⟨ka,na,pa,qa,sa,la⟩:=a
  simp only[aPd_mk,List.map_cons,List.map_nil] at *
  refine PC.enter 106 [.tmp 6] [3,5] Proofs.Tryz.func85 rfl rfl rfl rfl rfl (by simp) (AWp.of ?_);simp only[go_sem]
  repeat(first|((with_reducible refine AWp.ofC ?_ ?_);exact rfl;simp only[go_sem,(eq_true h5),h1,h2,h3,h4])|((with_reducible refine an ?_ ?_);exact Au))
  repeat(first|(with_reducible refine AWp.seq ?_)|(with_reducible refine AWp.block ?_))
  refine AWp.mix mixed [0,1,2,3,4,5,6,7,8] .done (by kernel_rfl) ?_;simp only[go_sem]
  refine Sd ?_
  refine Gc hca ?_
  refine Sd ?_
  refine Wk ?_
  refine ret_eq ?_;simp only[go_sem]
  rw[hsp]
 ·obtain⟨a,b,rfl⟩:=len2 (l:=l) (by omega)
  have h1:¬k=1:=by omega
  have h2:¬k=2:=by omega
  have h3:¬k=3:=by omega
  have h4:¬k=4:=by omega
  have h5:¬k=5:=by omega
  obtain⟨c1,c2⟩:=hch a (by simp)
  obtain⟨c3,c4⟩:=hch b (by simp)
  have hza:=szL_mem (l:=[a,b]) (x:=a) (by simp)
  have hzb:=szL_mem (l:=[a,b]) (x:=b) (by simp)
  have hca:=ih a (by simp) (by omega) c1 c2 (hci (by simp) a (by simp)) (hos a (by simp)) (hls a (by simp))
  have hcc:=ih b (by simp) (by omega) c3 c4 (hci (by simp) b (by simp)) (hos b (by simp)) (hls b (by simp))
  have hcba:=hcb a (by simp) (by simp)
  have hcbb:=hcb b (by simp) (by simp)
  simp only[List.map_cons,List.map_nil,valN] at hsp
  have hmw:=fun h=>mulW_eq (a:=valF o a) (b:=valF o b) h
  generalize valF o a=A at *
  generalize valF o b=B at *
  obtain⟨ka,na,pa,qa,sa,la⟩:=a
  obtain⟨kb,nb,pb,qb,sb,lb⟩:=b
  simp only[aPd_mk,List.map_cons,List.map_nil] at *
  refine PC.enter 106 [.tmp 6] [3,5] Proofs.Tryz.func85 rfl rfl rfl rfl rfl (by simp) (AWp.of ?_);simp only[go_sem]
  by_cases h6:k=6
  ·rw[if_pos h6] at hsp
   repeat(first|((with_reducible refine AWp.ofC ?_ ?_);exact rfl;simp only[go_sem,(eq_true h6),h1,h2,h3,h4,h5])|((with_reducible refine an ?_ ?_);exact Au))
   repeat(first|(with_reducible refine AWp.seq ?_)|(with_reducible refine AWp.block ?_))
   refine AWp.mix mixed [0,1,2,3,4,5,6,7,8,9,10,11,12,13,14,15] .done (by kernel_rfl) ?_;simp only[go_sem]
   refine Sd ?_
   refine Gc hca ?_
   refine Sd ?_
   refine Gc hcc ?_
   refine Sd ?_
   refine Wk ?_
   refine ret_eq ?_;simp only[go_sem]
   rw[hsp]
  by_cases h7:k=7
  ·rw[if_neg h6,if_pos h7] at hsp
   repeat(first|((with_reducible refine AWp.ofC ?_ ?_);exact rfl;simp only[go_sem,(eq_true h7),h1,h2,h3,h4,h5,h6])|((with_reducible refine an ?_ ?_);exact Au))
   repeat(first|(with_reducible refine AWp.seq ?_)|(with_reducible refine AWp.block ?_))
   refine AWp.mix mixed [0,1,2,3,4,5,6,7,8,9,10,11,12,13,14,15] .done (by kernel_rfl) ?_;simp only[go_sem]
   refine Sd ?_
   refine Gc hca ?_
   refine Sd ?_
   refine Gc hcc ?_
   refine Sd ?_
   refine Wk ?_
   refine ret_eq ?_;simp only[go_sem]
   rw[hsp]
  rw[if_neg h6,if_neg h7] at hsp
  have hmw:=hmw (by rw[← hsp];unfold I64;omega)
  repeat(first|((with_reducible refine AWp.ofC ?_ ?_);exact rfl;simp only[go_sem,h1,h2,h3,h4,h5,h6,h7])|((with_reducible refine an ?_ ?_);exact Au))
  refine AWp.seq ?_
  repeat(first|(with_reducible refine AWp.seq ?_)|(with_reducible refine AWp.block ?_))
  refine AWp.mix mixed [0,1,2,3,4,5,6,7,8,9,10,11,12,13,14,15] .done (by kernel_rfl) ?_;simp only[go_sem]
  refine Sd ?_
  refine Gc hca ?_
  refine Sd ?_
  refine Gc hcc ?_
  refine Sd ?_
  refine W1 hmw ?_
  refine ret_eq ?_;simp only[go_sem]
  rw[hsp]
 ·omega
theorem ref29_Truth (ps:List Pr) (c:List Int) (o:Obs) (hcl:c.length≤1000000) (t:Pd):szF t≤1000000→okT ps t=true→9≤t.kind→fitB ps t=true→allB ntmB t=true→AllP (obsB ps o) t→AllP (leafR ps c o) t →
  PC Proofs.Tryz.prog 60 [aTr ps,aInts c,aPd t] (ab (truF o t)):=by
 induction t using Pd.ind with
 | _ k n p q s l ih =>
 intro hz ht hk hi htm hob hlf
 obtain⟨o1,o2,o3,o4⟩:=okT_sub ht
 obtain⟨hpl,_⟩:=loc_len o1
 simp only[Pd.kind] at hk
 obtain⟨ht1,ht2⟩:=allB_sub htm
 have hnt:¬(18≤k∧k≤21):=by unfold ntmB tempB at ht1;simp at ht1;omega
 have hsz:szF (.mk k n p q s l)=szL l+1:=by rw[szF]
 have hsp:=truF_mk o k n p q s l
 have hfc:=fit_child hi hk
 obtain⟨_,hls⟩:=AllP_sub hlf
 obtain⟨_,hos⟩:=AllP_sub hob
 generalize truF o (.mk k n p q s l)=R at *
 unfold truN at hsp
 by_cases h12:k≤12
 ·have hch:=child_le ht h12
  obtain⟨a,b,rfl⟩:=len2 (l:=l) (by rcases parts_cases k with ⟨e,hc⟩|⟨e,hc⟩|⟨e,hc⟩|e <;> omega)
  obtain⟨c1,c2⟩:=hch a (by simp)
  obtain⟨c3,c4⟩:=hch b (by simp)
  have hza:=szL_mem (l:=[a,b]) (x:=a) (by simp)
  have hzb:=szL_mem (l:=[a,b]) (x:=b) (by simp)
  have hca:=ref29_Value ps c o hcl a (by omega) c1 c2 (fit_int (hfc a (by simp)) c2) (hos a (by simp)) (hls a (by simp))
  have hcc:=ref29_Value ps c o hcl b (by omega) c3 c4 (fit_int (hfc b (by simp)) c4) (hos b (by simp)) (hls b (by simp))
  simp only[List.map_cons,List.map_nil,List.getD_cons_zero,List.getD_cons_succ] at hsp
  generalize valF o a=A at *
  generalize valF o b=B at *
  clear ih hlf hls hob hos htm ht2 hch hfc
  obtain⟨ka,na,pa,qa,sa,la⟩:=a
  obtain⟨kb,nb,pb,qb,sb,lb⟩:=b
  simp only[aPd_mk,List.map_cons,List.map_nil] at *
  refine PC.enter 125 [.tmp 6] [3,5] Proofs.Tryz.func60 rfl rfl rfl rfl rfl (by simp) (AWp.of ?_);simp only[go_sem]
  by_cases h9:k=9
  ·rw[if_pos h9] at hsp
   repeat(first|((with_reducible refine AWp.ofC ?_ ?_);exact rfl;simp only[go_sem,(eq_true h9)])|((with_reducible refine an ?_ ?_);exact Au))
   repeat(first|(with_reducible refine AWp.seq ?_)|(with_reducible refine AWp.block ?_))
   refine AWp.mix mixed [0,1,2,3,4,5,6,7,8,9,10,11,12,13,14,15] .done (by kernel_rfl) ?_;simp only[go_sem]
   refine Sd ?_
   refine Gc hca ?_
   refine Sd ?_
   refine Gc hcc ?_
   refine Sd ?_
   refine Wk ?_
   refine ret_eq ?_;simp only[go_sem]
   rw[hsp]
  by_cases h10:k=10
  ·rw[if_neg h9,if_pos h10] at hsp
   repeat(first|((with_reducible refine AWp.ofC ?_ ?_);exact rfl;simp only[go_sem,(eq_true h10),h9])|((with_reducible refine an ?_ ?_);exact Au))
   repeat(first|(with_reducible refine AWp.seq ?_)|(with_reducible refine AWp.block ?_))
   refine AWp.mix mixed [0,1,2,3,4,5,6,7,8,9,10,11,12,13,14,15] .done (by kernel_rfl) ?_;simp only[go_sem]
   refine Sd ?_
   refine Gc hca ?_
   refine Sd ?_
   refine Gc hcc ?_
   refine Sd ?_
   refine Wk ?_
   refine ret_eq ?_;simp only[go_sem]
   rw[hsp]
  by_cases h11:k=11
  ·rw[if_neg h9,if_neg h10,if_pos h11] at hsp
   repeat(first|((with_reducible refine AWp.ofC ?_ ?_);exact rfl;simp only[go_sem,(eq_true h11),h9,h10])|((with_reducible refine an ?_ ?_);exact Au))
   repeat(first|(with_reducible refine AWp.seq ?_)|(with_reducible refine AWp.block ?_))
   refine AWp.mix mixed [0,1,2,3,4,5,6,7,8,9,10,11,12,13,14,15] .done (by kernel_rfl) ?_;simp only[go_sem]
   refine Sd ?_
   refine Gc hca ?_
   refine Sd ?_
   refine Gc hcc ?_
   refine Sd ?_
   refine Wk ?_
   refine ret_eq ?_;simp only[go_sem]
   rw[hsp]
  have h12:k=12:=by omega
  rw[if_neg h9,if_neg h10,if_neg h11,if_pos h12] at hsp
  repeat(first|((with_reducible refine AWp.ofC ?_ ?_);exact rfl;simp only[go_sem,(eq_true h12),h9,h10,h11])|((with_reducible refine an ?_ ?_);exact Au))
  repeat(first|(with_reducible refine AWp.seq ?_)|(with_reducible refine AWp.block ?_))
  refine AWp.mix mixed [0,1,2,3,4,5,6,7,8,9,10,11,12,13,14,15] .done (by kernel_rfl) ?_;simp only[go_sem]
  refine Sd ?_
  refine Gc hca ?_
  refine Sd ?_
  refine Gc hcc ?_
  refine Sd ?_
  refine Wk ?_
  refine ret_eq ?_;simp only[go_sem]
  rw[hsp]
 have h9:¬k=9:=by omega
 have h10:¬k=10:=by omega
 have h11:¬k=11:=by omega
 have h12:¬k=12:=by omega
 rw[if_neg h9,if_neg h10,if_neg h11,if_neg h12] at hsp
 have hch:=child_bool ht (by omega)
 rcases parts_cases k with ⟨e,hc⟩|⟨e,hc⟩|⟨e,hc⟩|e
 ·obtain rfl:=len0 (l:=l) (by omega)
  simp only[aPd_mk,List.map_nil] at *
  refine PC.enter 125 [.tmp 6] [3,5] Proofs.Tryz.func60 rfl rfl rfl rfl rfl (by simp) (AWp.of ?_);simp only[go_sem]
  by_cases h13:k=13
  ·rw[if_pos h13] at hsp
   repeat(first|((with_reducible refine AWp.ofC ?_ ?_);exact rfl;simp only[go_sem,(eq_true h13),h9,h10,h11,h12])|((with_reducible refine an ?_ ?_);exact Au))
   refine ret_eq ?_;simp only[go_sem]
   rw[hsp]
  ·have h14:k=14:=by omega
   rw[if_neg h13,if_pos h14] at hsp
   have h15:¬k=15:=by omega
   have h16:¬k=16:=by omega
   have h17:¬k=17:=by omega
   repeat(first|((with_reducible refine AWp.ofC ?_ ?_);exact rfl;simp only[go_sem,h9,h10,h11,h12,h13,h15,h16,h17])|((with_reducible refine an ?_ ?_);exact Au))
   refine ret_eq ?_;simp only[go_sem]
   rw[hsp]
 ·obtain⟨a,rfl⟩:=len1 (l:=l) (by omega)
  have h13:¬k=13:=by omega
  have h14:¬k=14:=by omega
  have h15:k=15:=by omega
  obtain⟨c1,c2⟩:=hch a (by simp)
  have hza:=szL_mem (l:=[a]) (x:=a) (by simp)
  have hca:=ih a (by simp) (by omega) c1 c2 (hfc a (by simp)) (ht2 a (by simp)) (hos a (by simp)) (hls a (by simp))
  simp only[List.map_cons,List.map_nil,List.getD_cons_zero,if_neg h13,if_neg h14,if_pos h15] at hsp
  generalize truF o a=A at *
  clear ih hlf hls hob hos htm ht2 hch hfc
  obtain⟨ka,na,pa,qa,sa,la⟩:=a
  simp only[aPd_mk,List.map_cons,List.map_nil] at *
  refine PC.enter 125 [.tmp 6] [3,5] Proofs.Tryz.func60 rfl rfl rfl rfl rfl (by simp) (AWp.of ?_);simp only[go_sem]
  repeat(first|((with_reducible refine AWp.ofC ?_ ?_);exact rfl;simp only[go_sem,(eq_true h15),h9,h10,h11,h12,h13])|((with_reducible refine an ?_ ?_);exact Au))
  repeat(first|(with_reducible refine AWp.seq ?_)|(with_reducible refine AWp.block ?_))
  refine AWp.mix mixed [0,1,2,3,4,5,6,7,8] .done (by kernel_rfl) ?_;simp only[go_sem]
  refine Sd ?_
  refine Gc hca ?_
  refine Sd ?_
  refine Wk ?_
  refine ret_eq ?_;simp only[go_sem]
  rw[hsp]
 ·obtain⟨a,b,rfl⟩:=len2 (l:=l) (by omega)
  have h13:¬k=13:=by omega
  have h14:¬k=14:=by omega
  have h15:¬k=15:=by omega
  obtain⟨c1,c2⟩:=hch a (by simp)
  obtain⟨c3,c4⟩:=hch b (by simp)
  have hza:=szL_mem (l:=[a,b]) (x:=a) (by simp)
  have hzb:=szL_mem (l:=[a,b]) (x:=b) (by simp)
  have hca:=ih a (by simp) (by omega) c1 c2 (hfc a (by simp)) (ht2 a (by simp)) (hos a (by simp)) (hls a (by simp))
  have hcc:=ih b (by simp) (by omega) c3 c4 (hfc b (by simp)) (ht2 b (by simp)) (hos b (by simp)) (hls b (by simp))
  simp only[List.map_cons,List.map_nil,List.getD_cons_zero,List.getD_cons_succ,if_neg h13,if_neg h14,if_neg h15] at hsp
  generalize truF o a=A at *
  generalize truF o b=B at *
  clear ih hlf hls hob hos htm ht2 hch hfc
  obtain⟨ka,na,pa,qa,sa,la⟩:=a
  obtain⟨kb,nb,pb,qb,sb,lb⟩:=b
  simp only[aPd_mk,List.map_cons,List.map_nil] at *
  refine PC.enter 125 [.tmp 6] [3,5] Proofs.Tryz.func60 rfl rfl rfl rfl rfl (by simp) (AWp.of ?_);simp only[go_sem]
  by_cases h16:k=16
  ·rw[if_pos h16] at hsp
   repeat(first|((with_reducible refine AWp.ofC ?_ ?_);exact rfl;simp only[go_sem,(eq_true h16),h9,h10,h11,h12,h13,h15])|((with_reducible refine an ?_ ?_);exact Au))
   repeat(first|(with_reducible refine AWp.seq ?_)|(with_reducible refine AWp.block ?_))
   refine AWp.mix mixed [0,1,2,3,4,5,6,7,8,9,10,11,12,13,14,15,16] .done (by kernel_rfl) ?_;simp only[go_sem]
   refine Sd ?_
   refine Gc hca ?_
   refine Sd ?_
   refine Gc hcc ?_
   refine Sd ?_
   refine Wk ?_
   refine ret_eq ?_;simp only[go_sem]
   rw[hsp]
  ·rw[if_neg h16] at hsp
   have h17:k=17:=by omega
   repeat(first|((with_reducible refine AWp.ofC ?_ ?_);exact rfl;simp only[go_sem,(eq_true h17),h9,h10,h11,h12,h13,h15,h16])|((with_reducible refine an ?_ ?_);exact Au))
   repeat(first|(with_reducible refine AWp.seq ?_)|(with_reducible refine AWp.block ?_))
   refine AWp.mix mixed [0,1,2,3,4,5,6,7,8,9,10,11,12,13,14,15,16] .done (by kernel_rfl) ?_;simp only[go_sem]
   refine Sd ?_
   refine Gc hca ?_
   refine Sd ?_
   refine Gc hcc ?_
   refine Sd ?_
   refine Wk ?_
   refine ret_eq ?_;simp only[go_sem]
   rw[hsp]
 ·omega
theorem lcl_mk (pr k n p q:Int) (s:ByteArray) (l:List Pd):lclB pr (.mk k n p q s l)=if k=4∨(18≤k∧k≤21) then false else if k=2∨k=3 then decide (p=pr) else true:=rfl
theorem evaluate_local (pr:Int) (t:Pd):szF t≤1000000→allB locB t=true→PC Proofs.Tryz.prog 92 [ai pr,aPd t] (ab (allB (lclB pr) t)):=by
 induction t using Pd.ind with
 | _ k n p q s l ih =>
 intro hz ht
 have hsz:szF (.mk k n p q s l)=szL l+1:=by rw[szF]
 have hll:=szL_len l
 obtain⟨ht1,ht2⟩:=allB_sub ht
 obtain⟨hpl,_⟩:=loc_len ht1
 have hsp:allB (lclB pr) (.mk k n p q s l)=((if k=4∨(18≤k∧k≤21) then false else if k=2∨k=3 then decide (p=pr) else true) && l.all (allB (lclB pr))):=by rw[allB_mk,lcl_mk]
 have h1:∀x ∈ l,PV Proofs.Tryz.prog (.clo 136 [.rp 1 [ai pr] 0 0]) [aPd x] (ab (!allB (lclB pr) x)):=by
  intro x hx
  have hxi:=szL_mem hx
  have hch:=ih x hx (by omega) (ht2 x hx)
  generalize allB (lclB pr) x=b at *
  obtain⟨k2,n2,p2,q2,s2,l2⟩:=x
  refine PC.clo ?_
  simp only[aPd_mk] at *
  refine PC.enter 8 [.tmp 3] [2] Proofs.Tryz.func136 rfl rfl rfl rfl rfl (by simp) (AWp.of ?_);simp only[go_sem]
  refine Wk ?_
  refine Sd ?_
  refine(hch).val.use ?_;simp only[go_sem]
  refine Wk ?_
  refine ret_eq ?_;simp only[go_sem]
 have hc:=preds_containsFunc l (by omega) _ rfl (fun x => !allB (lclB pr) x) h1
 have hall:l.all (allB (lclB pr)) = !l.any fun x => !allB (lclB pr) x:=by rw[List.all_eq_not_any_not]
 rw[hall] at hsp
 clear h1 ih
 by_cases c1:k=4∨k=18∨k=19∨k=20∨k=21
 ·rw[if_pos (by omega),Bool.false_and] at hsp
  rw[hsp]
  clear hsp hall hc
  simp only[aPd_mk] at *
  rcases c1 with rfl|rfl|rfl|rfl|rfl
  all_goals refine PC.enter 25 [.tmp 4] [2,3] Proofs.Tryz.func92 rfl rfl rfl rfl rfl (by simp) (AWp.of ?_);simp only[go_sem]
  all_goals repeat(first|((with_reducible refine AWp.ofC ?_ ?_);exact rfl;simp only[go_sem,Int.reduceEq])|((with_reducible refine an ?_ ?_);exact Au))
  all_goals refine ret_eq ?_;simp only[go_sem]
 rw[if_neg (by omega)] at hsp
 by_cases c2:k=2∨k=3
 ·have hl0:l=[]:=by
   have:partsF k=0:=by rcases c2 with rfl|rfl <;> rfl
   exact len0 (by omega)
  subst hl0
  rw[if_pos c2] at hsp
  simp only[List.any_nil,Bool.not_false,Bool.and_true] at hsp
  rw[hsp]
  clear hsp hall hc
  simp only[aPd_mk] at *
  rcases c2 with rfl|rfl
  all_goals refine PC.enter 25 [.tmp 4] [2,3] Proofs.Tryz.func92 rfl rfl rfl rfl rfl (by simp) (AWp.of ?_);simp only[go_sem]
  all_goals repeat(first|((with_reducible refine AWp.ofC ?_ ?_);exact rfl;simp only[go_sem,Int.reduceEq])|((with_reducible refine an ?_ ?_);exact Au))
  all_goals refine ret_eq ?_;simp only[go_sem]
 rw[if_neg c2,Bool.true_and] at hsp
 rw[hsp]
 generalize (l.any fun x => !allB (lclB pr) x)=b at *
 clear hsp hall
 have a4:¬k=4:=by omega
 have a18:¬k=18:=by omega
 have a19:¬k=19:=by omega
 have a20:¬k=20:=by omega
 have a21:¬k=21:=by omega
 have a2:¬k=2:=by omega
 have a3:¬k=3:=by omega
 simp only[aPd_mk] at *
 refine PC.enter 25 [.tmp 4] [2,3] Proofs.Tryz.func92 rfl rfl rfl rfl rfl (by simp) (AWp.of ?_);simp only[go_sem]
 repeat(first|((with_reducible refine AWp.ofC ?_ ?_);exact rfl;simp only[go_sem,a2,a3,a4,a18,a19,a20,a21])|((with_reducible refine an ?_ ?_);exact Au))
 refine Sd ?_
 refine(hc).val.use ?_;simp only[go_sem]
 refine Wk ?_
 refine ret_eq ?_;simp only[go_sem]
theorem evaluate_check (ps:List Pr) (hs:Sm ps) (pr k:Int) (t:Pd) (hz:szF t≤1000000):PC Proofs.Tryz.prog 62 [aTr ps,ai pr,ai k,aPd t] (ai (lclF ps pr k t)):=by
 have h1:=predtype_Check ps hs t hz
 have h2:=fun a b=>evaluate_typed t hz a b 2
 have h3:=fun a=>evaluate_local pr t hz a
 have hl:=hs.procs
 have hel:=fun x hx=>hs.evs x hx
 have hck:checkF ps t=0→formedB t=true∧typedB t=true∧allB locB t=true:=fun h=>by
  obtain⟨_,f2,f3,_⟩:=checkF_zero h
  unfold okT at f3
  simp only[Bool.and_eq_true] at f3
  exact⟨f2,f3.2,f3.1.1⟩
 have hn1:checkF ps t=0→1≤ps.length:=fun h=>(valid_len (checkF_zero h).1).1
 have hE:lclF ps pr k t=if checkF ps t ≠ 0 then checkF ps t else if ¬(0≤pr∧pr<ps.length∧0≤k∧k≤evN ps pr) then 2 else if t.kind≤8 then 14 else if allB (lclB pr) t=false then 15 else 0:=rfl
 have hr:resF t.kind=2↔¬t.kind≤8:=by unfold resF;split <;> omega
 generalize lclF ps pr k t=E at *
 generalize checkF ps t=e at *
 generalize formedB t=f at *
 generalize typedB t=y at *
 generalize allB locB t=lb at *
 generalize allB (lclB pr) t=a at *
 generalize t.kind=kd at *
 obtain⟨k0,n,p,q,s,l⟩:=t
 simp only[aPd_mk] at *
 by_cases he:e=0
 ·subst he
  rw[if_neg (by decide)] at hE
  obtain⟨c1,c2,c3⟩:=hck rfl
  have hn1:=hn1 rfl
  have h2:=h2 c1 c2
  have h3:=h3 c3
  by_cases hp:0≤pr∧pr<ps.length
  ·obtain⟨i,rfl⟩:∃i:Nat,pr=i:=⟨pr.toNat,by omega⟩
   have hpi:i<ps.length:=by omega
   have hgp:=getD_map (f:=aPr) hpi
   rw[evN_get hpi] at hE
   have n1:¬(i:Int)<0:=by omega
   have n2:¬(ps.length:Int)≤i:=by omega
   by_cases hk:0≤k∧k≤ps[i].evs.length
   ·rw[if_neg (by omega)] at hE
    have n3:¬k<0:=by omega
    have n4:¬(ps[i].evs.length:Int)<k:=by omega
    by_cases hk8:kd≤8
    ·rw[if_pos hk8] at hE
     rw[if_neg (fun h=>hr.1 h hk8)] at h2
     refine PC.enter 50 [.tmp 8] [4,7] Proofs.Tryz.func62 rfl rfl rfl rfl rfl (by simp) (AWp.of ?_);simp only[go_sem]
     refine Wk ?_
     refine Sd ?_
     refine(h1).val.use ?_;simp only[go_sem]
     refine W5 n1 n2 n3 n4 hgp ?_
     refine Sd ?_
     refine(h2).val.use ?_;simp only[go_sem]
     repeat(first|((with_reducible refine AWp.ofC ?_ ?_);exact rfl;simp only[go_sem,Int.reduceEq])|((with_reducible refine an ?_ ?_);exact Au))
     refine ret_eq ?_;simp only[go_sem]
     rw[hE]
    rw[if_neg hk8] at hE
    rw[if_pos (hr.2 hk8)] at h2
    refine PC.enter 50 [.tmp 8] [4,7] Proofs.Tryz.func62 rfl rfl rfl rfl rfl (by simp) (AWp.of ?_);simp only[go_sem]
    refine Wk ?_
    refine Sd ?_
    refine(h1).val.use ?_;simp only[go_sem]
    refine W5 n1 n2 n3 n4 hgp ?_
    refine Sd ?_
    refine(h2).val.use ?_;simp only[go_sem]
    repeat(first|((with_reducible refine AWp.ofC ?_ ?_);exact rfl;simp only[go_sem])|((with_reducible refine an ?_ ?_);exact Au))
    refine Sd ?_
    refine(h3).val.use ?_;simp only[go_sem]
    refine Wk ?_
    refine⟨fun h5 => ?_,fun h5 => ?_⟩
    ·rw[if_pos h5] at hE
     refine Wk ?_
     refine ret_eq ?_;simp only[go_sem]
     rw[hE]
    ·rw[if_neg (by rw[h5];decide)] at hE
     refine Wk ?_
     refine ret_eq ?_;simp only[go_sem]
     rw[hE]
   ·rw[if_pos (by omega)] at hE
    refine PC.enter 50 [.tmp 8] [4,7] Proofs.Tryz.func62 rfl rfl rfl rfl rfl (by simp) (AWp.of ?_);simp only[go_sem]
    refine Wk ?_
    refine Sd ?_
    refine(h1).val.use ?_;simp only[go_sem]
    refine W3 n1 n2 hgp ?_
    refine⟨fun h5 => ?_,fun h5 => ?_⟩
    ·refine Wk ?_
     refine ret_eq ?_;simp only[go_sem]
     rw[hE]
    ·intros;omega
  ·rw[if_pos (by omega)] at hE
   by_cases hp0:pr<0
   ·have hgx:(ps.map aPr).getD pr.toNat .any=aPr (ps[0]'(by omega)):=by
     rw[show pr.toNat=0 by omega];exact getD_map (by omega)
    refine PC.enter 50 [.tmp 8] [4,7] Proofs.Tryz.func62 rfl rfl rfl rfl rfl (by simp) (AWp.of ?_);simp only[go_sem]
    refine Wk ?_
    refine Sd ?_
    refine(h1).val.use ?_;simp only[go_sem]
    refine W2 hp0 hgx ?_
    refine ret_eq ?_;simp only[go_sem]
    rw[hE]
   ·have hp1:(ps.length:Int)≤pr:=by omega
    have hgx:(ps.map aPr).getD pr.toNat .any = .any:=by
     rw[List.getD_eq_getElem?_getD,List.getElem?_eq_none (by rw[List.length_map];omega)];rfl
    refine PC.enter 50 [.tmp 8] [4,7] Proofs.Tryz.func62 rfl rfl rfl rfl rfl (by simp) (AWp.of ?_);simp only[go_sem]
    refine Wk ?_
    refine Sd ?_
    refine(h1).val.use ?_;simp only[go_sem]
    repeat(first|((with_reducible refine AWp.ofC ?_ ?_);exact rfl;simp only[go_sem,hp0,hp1,hgx,List.getD_nil])|((with_reducible refine an ?_ ?_);exact Au))
    refine ret_eq ?_;simp only[go_sem]
    rw[hE]
 ·rw[if_pos he] at hE
  refine PC.enter 50 [.tmp 8] [4,7] Proofs.Tryz.func62 rfl rfl rfl rfl rfl (by simp) (AWp.of ?_);simp only[go_sem]
  refine Wk ?_
  refine Sd ?_
  refine(h1).val.use ?_;simp only[go_sem]
  refine W1 he ?_
  refine ret_eq ?_;simp only[go_sem]
  rw[hE]
theorem stC_len (n p:Nat) (k:Int):(stC n p k).length=n:=by unfold stC;rw[List.length_set,List.length_replicate]
theorem stC_get {n p:Nat} {k:Int} (hp:p<n):(stC n p k).getD p 0=k:=by
 unfold stC;rw[List.getD_eq_getElem?_getD,List.getElem?_set_self (by simpa using hp)];rfl
theorem stC_get? {n p:Nat} {k:Int} (hp:p<n):(stC n p k)[p]?=some k:=by
 unfold stC;rw[List.getElem?_set_self (by simpa using hp)]
def stV (n p:Nat) (st:List Int):List (List Int):=(List.replicate n []).set p st
theorem stV_len (n p:Nat) (st:List Int):(stV n p st).length=n:=by unfold stV;rw[List.length_set,List.length_replicate]
theorem stV_get {n p:Nat} {st:List Int} (hp:p<(stV n p st).length):(stV n p st)[p]=st:=by simp [stV]
theorem st_leaf (ps:List Pr) (hs:Sm ps) (hv:validF ps=true) (p k:Nat) (hp:p<ps.length) (hk:k≤ps[p].evs.length) (t:Pd) (hr:allB (resB ps) t=true) (hn:allB (lclB p) t=true) :
  AllP (leafOk ps (stC ps.length p k) (stV ps.length p (stateAt ps[p] k)) (stO ps p k)) t∧AllP (obsB ps (stO ps p k)) t∧AllP (leafR ps (stC ps.length p k) (stO ps p k)) t:=by
 have hb:=allB_and t hr hn
 have hvar:∀s,(stO ps p k).var p s=(stateAt ps[p] k).getD (varIx ps[p].vars s).toNat 0:=fun s=>by
  unfold stO cutO;simp only[Int.toNat_natCast,List.getElem?_eq_getElem hp,stC_get hp]
 have hcnt:(stO ps p k).cnt p=k:=by
  unfold stO cutO;simp only[Int.toNat_natCast,stC_get hp]
 have hx:∀x:Pd,andB (resB ps) (lclB p) x=true→∀kk n pr q s l,x = .mk kk n pr q s l→((kk=2∨kk=3)→pr=p)∧kk ≠ 4∧(kk=2→knownB ps pr s=true):=fun x h kk n pr q s l e=>by
  subst e
  unfold andB at h
  rw[Bool.and_eq_true] at h
  have h2:=h.2
  rw[lcl_mk] at h2
  have n4:¬(kk=4∨(18≤kk∧kk≤21)):=fun h=>by rw[if_pos h] at h2;cases h2
  rw[if_neg n4] at h2
  refine⟨fun e => ?_,by omega,fun e=>((res_leaf h.1).1 e).2⟩
  rw[if_pos e] at h2
  simpa using h2
 refine⟨AllP_of_allB (fun x h => ?_) t hb,AllP_of_allB (fun x h => ?_) t hb,AllP_of_allB (fun x h => ?_) t hb⟩
 ·obtain⟨kk,n,pr,q,s,l⟩:=x
  obtain⟨g1,g2,g3⟩:=hx _ h _ _ _ _ _ _ rfl
  refine⟨fun e => ?_,fun e => ?_,fun e=>absurd e g2⟩
  ·obtain rfl:=g1 (.inl e)
   have hV:p<(stV ps.length p (stateAt ps[p] k)).length:=by rw[stV_len];exact hp
   have h:=view_variable ps hs (stC ps.length p k) (stV ps.length p (stateAt ps[p] k)) kk n p q s l hp (g3 e) hV (by rw[stV_get hV,stateAt_length])
   rw[stV_get hV] at h
   rw[hvar];exact h
  ·obtain rfl:=g1 (.inr e)
   exact⟨by omega,by rw[hcnt,Int.toNat_natCast,stC_get? hp]⟩
 ·obtain⟨kk,n,pr,q,s,l⟩:=x
  obtain⟨g1,g2,g3⟩:=hx _ h _ _ _ _ _ _ rfl
  refine⟨fun e => ?_,fun e => ?_,fun e=>absurd e g2⟩
  ·obtain rfl:=g1 (.inl e)
   have hm:=valsF_mem ps[p] (varIx ps[p].vars s).toNat (k:=k) hk
   rw[hvar]
   unfold varLo varHi
   simp only[Int.toNat_natCast,List.getElem?_eq_getElem hp]
   exact⟨minL_le hm,le_maxL hm⟩
  ·obtain rfl:=g1 (.inr e)
   rw[hcnt,evN_get hp]
   exact⟨by omega,by omega⟩
 ·obtain⟨kk,n,pr,q,s,l⟩:=x
  obtain⟨g1,g2,g3⟩:=hx _ h _ _ _ _ _ _ rfl
  refine⟨fun e => ?_,fun e => ?_,g2⟩
  ·obtain rfl:=g1 (.inl e)
   have hpb:isPB ps.length p=true:=by unfold isPB;simp;omega
   have h1:=ref25_Index ps hs p hpb s
   rw[varX_get hp] at h1
   obtain⟨i,hi,hil⟩:=known_ix (known_get hp (g3 e))
   have h2:=ref25_Value ps hs p hp i hil k hk (asg_of_valid hv p hp) (dis_of_valid hv p hp)
   rw[hi] at h1
   refine⟨_,_,h1,?_,by omega,by rw[Int.toNat_natCast,stC_get? hp]⟩
   rw[hvar,hi,Int.toNat_natCast,List.getD_eq_getElem?_getD,List.getElem?_eq_getElem (by rw[stateAt_length];exact hil)]
   exact h2
  ·obtain rfl:=g1 (.inr e)
   exact⟨by omega,by rw[hcnt,Int.toNat_natCast,stC_get? hp]⟩
theorem variable_State (ps:List Pr) (hs:Sm ps) (hv:validF ps=true) (p k:Nat) (hp:p<ps.length) (hk:k≤ps[p].evs.length):PC Proofs.Tryz.prog 93 [aTr ps,ai p,ai k] (.tup [aInts (stateAt ps[p] k),ai 0]):=by
 have hm:=List.getElem_mem hp
 have h1:=trace_Valid ps hs
 rw[hv] at h1
 have h2:=variable_state ps[p] (hs.vars _ hm) (hs.evs _ hm) (hs.asg _ hm) (asg_of_valid hv p hp) k hk
 have hl:=hs.procs
 have hel:=hs.evs _ hm
 have hgp:=getD_map (f:=aPr) hp
 have n1:¬(p:Int)<0:=by omega
 have n2:¬(ps.length:Int)≤p:=by omega
 have n3:¬(k:Int)<0:=by omega
 have n4:¬(ps[p].evs.length:Int)<k:=by omega
 generalize stateAt ps[p] k=S at *
 refine PC.enter 44 [.tmp 6,.tmp 7] [3] Proofs.Tryz.func93 rfl rfl rfl rfl rfl (by simp) (AWp.of ?_);simp only[go_sem]
 refine Wk ?_
 refine Sd ?_
 refine(h1).val.use ?_;simp only[go_sem]
 refine W5 n1 n2 n3 n4 hgp ?_
 refine Sd ?_
 refine(h2).val.use ?_;simp only[go_sem]
 refine Wk ?_
 refine ret_eq ?_;simp only[go_sem]
theorem lcl_ntm {p:Int} (t:Pd):allB (lclB p) t=true→allB ntmB t=true:=by
 induction t using Pd.ind with
 | _ k n pr q s l ih =>
 intro h
 obtain⟨h1,h2⟩:=allB_sub h
 rw[allB_mk,Bool.and_eq_true,List.all_eq_true]
 refine⟨?_,fun x hx=>ih x hx (h2 x hx)⟩
 rw[lcl_mk] at h1
 unfold ntmB tempB
 split at h1
 ·cases h1
 ·rename_i h;simp;omega
theorem lcl_ok {ps:List Pr} {p:Nat} {k:Int} {t:Pd} (h:lclF ps p k t=0):checkF ps t=0∧p<ps.length∧0≤k∧k≤evN ps p∧9≤t.kind∧allB (lclB p) t=true:=by
 unfold lclF at h
 split at h
 ·rename_i h1;exact absurd h h1
 ·rename_i h1
  split at h
  ·cases h
  ·rename_i h2
   split at h
   ·cases h
   ·rename_i h3
    split at h
    ·cases h
    ·rename_i h4
     exact⟨by simpa using h1,by omega,by omega,by omega,by omega,by simpa using h4⟩
theorem evaluate_inState (ps:List Pr) (hs:Sm ps) (p k:Nat) (hp:p<ps.length) (hk:k≤ps[p].evs.length) (t:Pd) (hz:szF t≤1000000) (hc:checkF ps t=0) (h9:9≤t.kind) (hl:allB (lclB p) t=true) :
  PC Proofs.Tryz.prog 63 [aTr ps,ai p,ai k,aPd t] (ab (lclT ps p t k)):=by
 obtain⟨hv,_,hok,hfit⟩:=checkF_zero hc
 have hok':=hok
 unfold okT at hok'
 simp only[Bool.and_eq_true] at hok'
 obtain⟨l1,l2,_⟩:=st_leaf ps hs hv p k hp hk t hok'.1.2 hl
 have hn:=hs.procs
 have h1:=view_truth ps (stC ps.length p k) (stV ps.length p (stateAt ps[p] k)) (stO ps p k) (by rw[stC_len];omega) t hz hok h9 hfit (lcl_ntm t hl) l2 l1
 have h2:=variable_State ps hs hv p k hp hk
 unfold lclT
 generalize truF (stO ps p k) t=b at *
 obtain⟨kk,n,pr,q,s,l⟩:=t
 have hC:(stC ps.length p k).map ai=(List.replicate ps.length (ai 0)).set p (ai k):=by unfold stC;rw[List.map_set,List.map_replicate]
 have hTr:aTr ps = .agg [aPrs ps]:=rfl
 generalize hS:stateAt ps[p] k=S at *
 simp only[aPd_mk] at *
 refine PC.enter 39 [.tmp 8] [4,7,9] Proofs.Tryz.func63 rfl rfl rfl rfl rfl (by simp) (AWp.of ?_);simp only[go_sem]
 refine Wk ?_
 refine AWp.cut [1,2,4,7,9] (fun vs L=>∃bc bv,L.Perm [(bv,.row 30 1 (List.replicate ps.length anil) ps.length),(bc,.row 3 1 (List.replicate ps.length (ai 0)) ps.length)] ∧
  vs=[ai p,ai k,.rp 1 [aTr ps] 0 0,.rp 6 [.agg [ai kk,ai n,ai pr,ai q,astr s,.sl 6 (l.map aPd)]] 0 0,.rp 3 [.agg [aPrs ps,.ls bc 1 0 ps.length ps.length,.ls bv 1 0 ps.length ps.length]] 0 0]) ?_ ?_
 ·repeat(first|(with_reducible refine AWp.seq ?_)|(with_reducible refine AWp.block ?_))
  refine AWp.mix mixed [0,1,2,3,5,6,7] (.step 4 (.step 8 (.step 9 (.step 10 (.step 11 .done .done) .done) (.step 10 (.step 9 (.step 11 .done .done) .done) .done)) (.step 10 (.step 8 (.step 9 (.step 11 .done .done) .done) .done) .done)) (.step 8 (.step 4 (.step 9 (.step 10 (.step 11 .done .done) .done) (.step 10 (.step 9 (.step 11 .done .done) .done) .done)) (.step 10 (.step 4 (.step 9 (.step 11 .done .done) .done) .done) .done)) (.step 10 (.step 4 (.step 8 (.step 9 (.step 11 .done .done) .done) .done) (.step 8 (.step 4 (.step 9 (.step 11 .done .done) .done) .done) .done)) .done))) (by kernel_rfl) ?_;simp only[go_sem]
  repeat' (first|(with_reducible refine And.intro ?_ ?_)|intro _)
  all_goals first|omega|skip
  all_goals ((repeat rw[if_neg (by omega)]);(try simp only[go_sem]))
  all_goals (repeat' (first|(with_reducible refine And.intro ?_ ?_)|intro _))
  all_goals first|omega|exact⟨_,List.Sublist.refl _,_,_,.refl _,rfl⟩|exact⟨_,List.Sublist.refl _,_,_,.swap _ _ _,rfl⟩
 ·rintro vs L - ⟨bc,bv,hP,rfl⟩
  refine AWp.perm hP (AWp.nodup fun hnd => ?_)
  have n1:¬bv=bc:=by simpa using hnd
  have n2:¬bc=bv:=fun e=>n1 e.symm
  have hg0:(List.replicate ps.length (ai 0)).getD p .any=ai 0:=by rw[List.getD_eq_getElem?_getD,List.getElem?_replicate,if_pos hp];rfl
  have hg1:(List.replicate ps.length anil).getD p .any=anil:=by rw[List.getD_eq_getElem?_getD,List.getElem?_replicate,if_pos hp];rfl
  simp only[go_sem]
  refine Sd ?_
  refine AWp.of ?_;simp only[go_sem,n2,hg0,List.length_replicate]
  refine Sd ?_
  rw[← hC]
  refine AWp.seq ?_
  repeat(first|(with_reducible refine AWp.seq ?_)|(with_reducible refine AWp.block ?_))
  refine AWp.mix mixed [0,1,2,3,4,5,6,7,8,9] (.step 10 (.step 11 .done .done) .done) (by kernel_rfl) ?_;simp only[go_sem]
  refine Sd ?_
  refine GCall.use (.tup [aInts S,ai 0]) (fun _=>⟨At,(h2).val.use ⟨rfl,rfl⟩⟩) ?_;simp only[go_sem,n1,hg1]
  refine Sd ?_
  refine AWp.view [true,true] [(9,.rp 3 [aView ps (stC ps.length p k) (stV ps.length p S)] 0 0)] (LVw.refl _) (fun x hx => ?_) ?_
  ·simp only[List.mem_singleton] at hx
   subst hx
   simp only[go_sem,pickT]
   refine .rp rfl (Vws.cons (.mkAgg (Vws.cons (.refl _) (Vws.cons (Vw.ofLs (t:=3) (cap:=ps.length) (by simp [lk,n2]) (by rw[List.length_map,stC_len])) (Vws.cons ?_ .nil)))) .nil).2
   refine .ls (t:=30) (xs:=(List.replicate ps.length anil).set p (aInts S)) (cap:=ps.length) (by simp [lk,aInts]) (by simp) (by simp [stV]) fun i x y hx hy => ?_
   rw[List.drop_zero,List.take_of_length_le (by simp),List.getElem?_set] at hx
   unfold stV at hy
   rw[List.map_set,List.getElem?_set] at hy
   by_cases e:p=i
   ·subst e
    simp [hp] at hx hy
    subst hx;subst hy;exact .refl _
   ·rw[if_neg e,List.getElem?_replicate] at hx
    rw[if_neg e,List.getElem?_map,List.getElem?_replicate] at hy
    by_cases h5:i<ps.length
    ·rw[if_pos h5] at hx hy
     cases hx;cases hy
     exact .nil 1
    ·rw[if_neg h5] at hx;cases hx
  ·simp only[go_sem,pickF]
   refine Wk ?_
   refine Sd ?_
   refine(h1).val.use ?_;simp only[go_sem]
   refine Wk ?_
   refine ret_eq ?_;simp only[go_sem]
theorem truthsF_nat {ps:List Pr} {p:Nat} (hp:p<ps.length) (t:Pd):truthsF ps p t=(List.range (ps[p].evs.length+1)).map fun (k:Nat)=>lclT ps p t k:=by
 unfold truthsF;rw[evN_get hp,Int.toNat_natCast]
noncomputable def aTruths (ps:List Pr) (p:Int) (t:Pd):AV:=if lclF ps p 0 t=0 then .tup [.sl 1 ((truthsF ps p.toNat t).map ab),ai 0] else .tup [.sl 1 [],ai (lclF ps p 0 t)]
theorem evaluate_Truths (ps:List Pr) (hs:Sm ps) (p:Int) (t:Pd) (hz:szF t≤1000000):PC Proofs.Tryz.prog 41 [aTr ps,ai p,aPd t] (aTruths ps p t):=by
 have h1:=evaluate_check ps hs p 0 t hz
 have hl:=hs.procs
 unfold aTruths
 by_cases he:lclF ps p 0 t=0
 ·rw[if_pos he]
  rw[he] at h1
  have hp0:0≤p:=by
   unfold lclF at he
   split at he
   ·rename_i h;exact absurd he h
   ·split at he
    ·cases he
    ·rename_i h;omega
  obtain⟨i,rfl⟩:∃i:Nat,p=i:=⟨p.toNat,by omega⟩
  rw[Int.toNat_natCast]
  obtain⟨hc,hp,_,_,h9,hlc⟩:=lcl_ok he
  have hel:=hs.evs _ (List.getElem_mem hp)
  have hgp:=getD_map (f:=aPr) hp
  have hst:=fun (k:Nat) hk=>evaluate_inState ps hs i k hp hk t hz hc h9 hlc
  rw[truthsF_nat hp,List.map_map]
  have hy:∀k,((List.range k).map fun (k:Nat)=>ab (lclT ps i t k)).length=k:=fun k=>by simp
  have hys:∀k,((List.range (k+1)).map fun (k:Nat)=>ab (lclT ps i t k))=((List.range k).map fun (k:Nat)=>ab (lclT ps i t k)) ++ [ab (lclT ps i t k)]:=fun k=>by rw[List.range_succ,List.map_append];rfl
  have hfin:(List.range (ps[i].evs.length+1)).map (ab ∘ fun (k:Nat)=>lclT ps i t k)=(List.range (ps[i].evs.length+1)).map fun (k:Nat)=>ab (lclT ps i t k):=rfl
  rw[hfin]
  obtain⟨k0,n,pp,q,s,l⟩:=t
  simp only[aPd_mk] at *
  generalize hY:(fun k:Nat=>(List.range k).map fun (j:Nat)=>ab (lclT ps i (.mk k0 n pp q s l) j))=Y at *
  have hYk:∀k,((List.range k).map fun (j:Nat)=>ab (lclT ps i (.mk k0 n pp q s l) j))=Y k:=fun k=>by rw[← hY]
  simp only[hYk] at hy hys ⊢
  refine PC.enter 39 [.tmp 6,.tmp 7] [3,5,35] Proofs.Tryz.func41 rfl rfl rfl rfl rfl (by simp) (AWp.of ?_);simp only[go_sem]
  refine Wk ?_
  refine Sd ?_
  refine(h1).val.use ?_;simp only[go_sem]
  refine W1 hgp ?_
  refine AWp.range' (ps[i].evs.length+1) [9] [1,3,5,25] (fun k vs L=>∃v,vs=[v]∧AppSt 4 1 (Y k) v L) (by omega) rfl rfl rfl ⟨anil,rfl,by rw[← hY];exact .nil⟩ ?_ ?_
  ·rintro k vs L' hk - ⟨v,rfl,hA⟩
   have hyl:=hy k
   have hst:=hst k (by omega)
   rw[hys k]
   have hfo:=hA.fo
   generalize Y k=ys at *
   generalize lclT ps i (.mk k0 n pp q s l) k=b at *
   rcases hA.inv with ⟨e1,rfl,rfl⟩|⟨b',cap,rfl,rfl⟩
   ·simp only[go_sem]
    refine Wk ?_
    refine Sd ?_
    refine(hst).val.use ?_;simp only[go_sem]
    refine Sd ?_
    intro b' cap' _
    refine⟨_,List.Sublist.refl _,_,rfl,?_⟩
    rw[e1]
    exact .row _ _ _
   ·simp only[go_sem]
    refine Wk ?_
    refine Sd ?_
    refine(hst).val.use ?_;simp only[go_sem]
    refine Sd ?_
    intro b' cap' _
    refine⟨_,List.Sublist.refl _,_,rfl,?_⟩
    have:=AppSt.row (t:=4) (k:=1) b' (ys ++ [ab b]) cap'
    simpa using this
  ·rintro vs L' - ⟨v,rfl,hA⟩
   have hyl:=hy (ps[i].evs.length+1)
   generalize Y (ps[i].evs.length+1)=ys at *
   simp only[go_sem]
   rcases hA.inv with ⟨e1,rfl,rfl⟩|⟨b,cap,rfl,rfl⟩
   ·rw[e1] at hyl;simp at hyl
   ·refine Wk ?_
    refine ret_view [true] ?_;simp only[go_sem]
    exact .mkTup (Vws.cons (Vw.ofLs (if_pos rfl) rfl) (Vws.refl _))
 ·rw[if_neg he]
  generalize lclF ps p 0 t=e at *
  obtain⟨k0,n,pp,q,s,l⟩:=t
  simp only[aPd_mk] at *
  refine PC.enter 39 [.tmp 6,.tmp 7] [3,5,35] Proofs.Tryz.func41 rfl rfl rfl rfl rfl (by simp) (AWp.of ?_);simp only[go_sem]
  refine Wk ?_
  refine Sd ?_
  refine(h1).val.use ?_;simp only[go_sem]
  refine W1 he ?_
  refine ret_view [] ?_;simp only[go_sem]
  exact .mkTup (Vws.cons (.nil 1) (Vws.refl _))
theorem ref29_Local (ps:List Pr) (hs:Sm ps) (p k:Nat) (hp:p<ps.length) (hk:k≤ps[p].evs.length) (t:Pd) (hz:szF t≤1000000) (hc:checkF ps t=0) (h9:9≤t.kind) (hl:allB (lclB p) t=true) :
  PC Proofs.Tryz.prog 35 [aTr ps,ai p,ai k,aPd t] (ab (lclT ps p t k)):=by
 obtain⟨hv,_,hok,hfit⟩:=checkF_zero hc
 have hok':=hok
 unfold okT at hok'
 simp only[Bool.and_eq_true] at hok'
 obtain⟨_,l2,l1⟩:=st_leaf ps hs hv p k hp hk t hok'.1.2 hl
 have hn:=hs.procs
 have h1:=ref29_Truth ps (stC ps.length p k) (stO ps p k) (by rw[stC_len];omega) t hz hok h9 hfit (lcl_ntm t hl) l2 l1
 unfold lclT
 generalize truF (stO ps p k) t=b at *
 obtain⟨kk,n,pr,q,s,l⟩:=t
 have hC:(stC ps.length p k).map ai=(List.replicate ps.length (ai 0)).set p (ai k):=by unfold stC;rw[List.map_set,List.map_replicate]
 have hg0:(List.replicate ps.length (ai 0)).getD p .any=ai 0:=by rw[List.getD_eq_getElem?_getD,List.getElem?_replicate,if_pos hp];rfl
 have hCl:(List.replicate ps.length (ai 0)).length=ps.length:=List.length_replicate
 simp only[aPd_mk] at *
 refine PC.enter 22 [.tmp 8] [4,7] Proofs.Tryz.func35 rfl rfl rfl rfl rfl (by simp) (AWp.of ?_);simp only[go_sem]
 refine Wk ?_
 refine Sd ?_
 intro b9
 refine Sd ?_
 refine AWp.of ?_;simp only[go_sem,hg0,List.length_replicate]
 refine Sd ?_
 rw[← hC]
 refine AWp.view [true] [(9,aInts (stC ps.length p k))] (LVw.refl _) (fun x hx => ?_) ?_
 ·simp only[List.mem_singleton] at hx
  subst hx
  simp only[go_sem,pickT]
  exact Vw.ofLs (t:=3) (cap:=ps.length) (by simp only[lk,if_true]) (by rw[List.length_map,stC_len])
 ·simp only[go_sem,pickF]
  refine Wk ?_
  refine Sd ?_
  refine(h1).val.use ?_;simp only[go_sem]
  refine Wk ?_
  refine ret_eq ?_;simp only[go_sem]
theorem Vws.setV {L:AHeap} {xs ys:List AV} {a b:AV} (h:Vws L xs ys) (hab:Vw L a b) (i:Nat):Vws L (xs.set i a) (ys.set i b):=by
 refine⟨by rw[List.length_set,List.length_set];exact h.1,fun j x y hx hy => ?_⟩
 rw[List.getElem?_set] at hx hy
 by_cases e:i=j
 ·subst e
  rw[if_pos rfl] at hx hy
  split at hx
  ·split at hy
   ·cases hx;cases hy;exact hab
   ·cases hy
  ·cases hx
 ·rw[if_neg e] at hx hy;exact h.2 j x y hx hy
noncomputable def elimOf (ps:List Pr) (ts:List Pd):Elim where
 n:=ps.length
 top:=nev ps
 ok:=fun p k=>match ts[p]? with|some t=>lclT ps p t k|none=>true
 need:=fun q k p=>cAt (closeF ps (stC ps.length q k)) p
theorem elim_sm {ps:List Pr} (hs:Sm ps) (ts:List Pd):SmE (elimOf ps ts):=⟨hs.procs,fun q=>by
 show nev ps q≤1000000
 by_cases hq:q<ps.length
 ·rw[nev_get hq];exact hs.evs _ (List.getElem_mem hq)
 ·unfold nev;rw[List.getD_eq_getElem?_getD,List.getElem?_eq_none (by omega)];simp⟩
def doneN (E:Elim) (p:Nat):List AV:=(List.range E.n).map fun q=>if q<p then .sl 1 (needM E q) else anil
theorem doneN_len (E:Elim) (p:Nat):(doneN E p).length=E.n:=by simp [doneN]
theorem doneN_zero (E:Elim):doneN E 0=List.replicate E.n anil:=by
 unfold doneN;apply List.ext_getElem (by simp);intro i h1 h2;simp
theorem doneN_full (E:Elim):doneN E E.n=needT E:=by
 unfold doneN needT
 refine List.map_congr_left fun q hq => ?_
 rw[if_pos (List.mem_range.1 hq)]
theorem doneN_get {E:Elim} {p:Nat} (hp:p<E.n):(doneN E p).getD p .any=anil:=by
 have:=map_range_getD hp (fun q=>if q<p then AV.sl 1 (needM E q) else anil)
 rw[if_neg (Nat.lt_irrefl p)] at this
 exact this
theorem doneN_set {E:Elim} {p:Nat} : (doneN E p).set p (.sl 1 (needM E p))=doneN E (p+1):=by
 unfold doneN
 rw[map_range_set]
 congr 1
 funext q
 by_cases e:q=p
 ·rw[if_pos e,if_pos (by omega),e]
 ·rw[if_neg e]
  by_cases e2:q<p
  ·rw[if_pos e2,if_pos (by omega)]
  ·rw[if_neg e2,if_neg (by omega)]
def needK (E:Elim) (q m:Nat):List AV:=(List.range m).map fun j => .sl 1 (needL E q j)
theorem needK_len (E:Elim) (q m:Nat):(needK E q m).length=m:=by simp [needK]
theorem needK_succ (E:Elim) (q m:Nat):needK E q (m+1)=needK E q m ++ [.sl 1 (needL E q m)]:=by unfold needK;rw[List.range_succ,List.map_append];rfl
theorem need_row {ps:List Pr} (hv:validF ps=true) (ts:List Pd) {p m:Nat} (hp:p<ps.length) (hm:m≤ps[p].evs.length):aInts (closeF ps (stC ps.length p m)) = .sl 1 (needL (elimOf ps ts) p m):=by
 obtain⟨a1,a2⟩:=stC_ok (k:=(m:Int)) hp (by omega) (by omega)
 obtain⟨b1,_,_⟩:=closeF_ok hv a1 a2
 unfold aInts needL
 congr 1
 apply List.ext_getElem
 ·rw[List.length_map,b1,List.length_map,List.length_range];rfl
 ·intro i h1 h2
  rw[List.getElem_map,List.getElem_map,List.getElem_range]
  show _=ai (cAt _ _)
  rw[cAt_nat (by simpa using h1)]
theorem conj_needs (ps:List Pr) (hs:Sm ps) (hv:validF ps=true) (ts:List Pd):PC Proofs.Tryz.prog 42 [aTr ps] (.sl 1 (needT (elimOf ps ts))):=by
 have hl:=hs.procs
 have hn:(elimOf ps ts).n=ps.length:=rfl
 have hrow:=fun p m hp hm=>need_row hv ts (p:=p) (m:=m) hp hm
 have htop:∀p (hp:p<ps.length),(elimOf ps ts).top p=ps[p].evs.length:=fun p hp=>nev_get hp
 generalize elimOf ps ts=E at *
 refine PC.enter 56 [.tmp 2] [1,5,50] Proofs.Tryz.func42 rfl rfl rfl rfl rfl (by simp) (AWp.of ?_);simp only[go_sem]
 refine Wk ?_
 refine Sd ?_
 intro b3
 refine Sd ?_
 refine AWp.of ?_;simp only[go_sem]
 rw[show List.replicate ps.length anil=doneN E 0 by rw[doneN_zero,hn]]
 refine AWp.range' ps.length [] [1,3,15,16] (fun p vs L=>L=[(b3,.row 31 1 (doneN E p) ps.length)]) (by omega) rfl rfl rfl rfl ?_ ?_
 ·rintro p vs L hp - rfl
  have hel:=hs.evs _ (List.getElem_mem hp)
  have hgp:=getD_map (f:=aPr) hp
  have hdn:=doneN_len E p
  have hds:=doneN_set (E:=E) (p:=p)
  have hdg:=doneN_get (E:=E) (p:=p) (by omega)
  simp only[go_sem]
  refine W1 hgp ?_
  intro b5 g5
  have n35:¬b3=b5:=by omega
  have n53:¬b5=b3:=by omega
  have hdp:p<(doneN E p).length:=by omega
  have hset0:doneN E p=(doneN E p).set p anil:=by
   have e:(doneN E p)[p]=anil:=by
    have:=hdg
    rw[List.getD_eq_getElem?_getD,List.getElem?_eq_getElem hdp] at this
    exact this
   rw[← e,List.set_getElem_self]
  have hgv:∀v:AV,((doneN E p).set p v).getD p .any=v:=fun v=>by
   rw[List.getD_eq_getElem?_getD,List.getElem?_set_self hdp];rfl
  have hsl:∀v:AV,((doneN E p).set p v).length=E.n:=fun v=>by rw[List.length_set,hdn]
  rw[hset0]
  generalize hD:doneN E p=D at *
  refine W2 n35 n53 ?_
  refine AWp.postV ?_
  refine AWp.range' (ps[p].evs.length+1) [] [1,3,4,15,16,17,25] (fun m vs L=>∃v Lq,L=Lq ++ [(b3,.row 31 1 (D.set p v) ps.length)]∧AppSt 30 1 (needK E p m) v Lq∧∀x ∈ Lq,x.1 ≠ b3) (by omega) rfl rfl rfl ⟨anil,[],rfl,.nil,by simp⟩ ?_ ?_
  ·rintro m vs L hm - ⟨v,Lq,rfl,hA,hq⟩
   have hyl:=needK_len E p m
   have hnd:=hrow p m hp (by omega)
   obtain⟨a1,a2⟩:=stC_ok (k:=(m:Int)) hp (by omega) (by omega)
   have hcl:=cut_Close ps hs hv _ a1 a2
   rw[hnd] at hcl
   have hC:(stC ps.length p m).map ai=(List.replicate ps.length (ai 0)).set p (ai m):=by unfold stC;rw[List.map_set,List.map_replicate]
   have hg0:(List.replicate ps.length (ai 0)).getD p .any=ai 0:=by rw[List.getD_eq_getElem?_getD,List.getElem?_replicate,if_pos hp];rfl
   rw[needK_succ]
   have hfo:=hA.fo
   generalize needK E p m=ys at *
   generalize needL E p m=xs at *
   rcases hA.inv with ⟨e1,rfl,rfl⟩|⟨bq,cap,rfl,rfl⟩
   ·simp only[go_sem,List.nil_append]
    refine Sd ?_
    refine AWp.of ?_;simp only[go_sem]
    refine Sd ?_
    refine AWp.of ?_;simp only[go_sem]
    refine Sd ?_
    intro b7 g7
    have n37:¬b3=b7:=by omega
    have n73:¬b7=b3:=by omega
    refine Sd ?_
    refine AWp.of ?_;simp only[go_sem,n73,hg0,List.length_replicate]
    refine Sd ?_
    rw[← hC]
    refine W2 n37 n73 ?_
    have hvw:Vws [(b7,.row 3 1 ((stC ps.length p m).map ai) ps.length)] [aTr ps,.ls b7 1 0 ps.length ps.length] [aTr ps,aInts (stC ps.length p m)]:=Vws.cons (.refl _) (Vws.cons (Vw.ofLs (if_pos rfl) (by rw[List.length_map,a1])) .nil)
    refine MVal.pass (Lf:=[(b7,.row 3 1 ((stC ps.length p m).map ai) ps.length)]) (Li:=[]) (Lr:=[(b3,.row 31 1 (D.set p anil) ps.length)]) (.refl _) hvw hcl.val ?_
    rintro r L1 ⟨rfl,rfl⟩
    refine⟨_,.refl _,?_⟩
    simp only[go_sem]
    refine W5 n37 n73 hgv hsl hn ?_
    refine Sd ?_
    intro b' cap' g8 _
    have n3':¬b3=b':=by omega
    simp only[go_sem,n3',hgv,hsl,List.set_set]
    refine⟨by omega,by omega,?_⟩
    refine⟨_,List.Sublist.refl _,.ls b' 1 0 1 cap',[(b',.row 30 1 [.sl 1 xs] cap')],rfl,?_,?_⟩
    ·rw[e1];exact .row _ _ _
    ·intro y hy;simp only[List.mem_singleton] at hy;subst hy;exact fun e=>n3' e.symm
   ·simp only[go_sem,List.cons_append,List.nil_append]
    refine Sd ?_
    refine AWp.of ?_;simp only[go_sem]
    refine Sd ?_
    refine AWp.of ?_;simp only[go_sem]
    refine Sd ?_
    intro b7 g7 g7'
    have n37:¬b3=b7:=by omega
    have n73:¬b7=b3:=by omega
    have nq3:¬bq=b3:=hq (bq,.row 30 1 ys cap) (by simp)
    have n3q:¬b3=bq:=fun e=>nq3 e.symm
    have n7q:¬b7=bq:=by omega
    have nq7:¬bq=b7:=by omega
    refine Sd ?_
    refine AWp.of ?_;simp only[go_sem,n73,n7q,hg0,List.length_replicate]
    refine Sd ?_
    rw[← hC]
    repeat(first|((with_reducible refine AWp.ofC ?_ ?_);exact rfl;simp only[go_sem])|((with_reducible refine an ?_ ?_);exact Au))
    have hvw:Vws [(b7,.row 3 1 ((stC ps.length p m).map ai) ps.length)] [aTr ps,.ls b7 1 0 ps.length ps.length] [aTr ps,aInts (stC ps.length p m)]:=Vws.cons (.refl _) (Vws.cons (Vw.ofLs (if_pos rfl) (by rw[List.length_map,a1])) .nil)
    refine MVal.pass (Lf:=[(b7,.row 3 1 ((stC ps.length p m).map ai) ps.length)]) (Li:=[]) (Lr:=[(bq,.row 30 1 ys cap),(b3,.row 31 1 (D.set p (.ls bq 1 0 ys.length cap)) ps.length)]) (.refl _) hvw hcl.val ?_
    rintro r L1 ⟨rfl,rfl⟩
    refine⟨_,.refl _,?_⟩
    simp only[go_sem]
    repeat(first|((with_reducible refine AWp.ofC ?_ ?_);exact rfl;simp only[go_sem,nq3,n3q,hgv,hsl,hn])|((with_reducible refine an ?_ ?_);exact Au))
    refine Sd ?_
    intro b' cap' g8 _
    have n3':¬b3=b':=g8
    simp only[go_sem,n3',hgv,hsl,List.set_set]
    refine⟨by omega,by omega,?_⟩
    refine⟨_,List.Sublist.refl _,.ls b' 1 0 (ys.length+1) cap',[(b',.row 30 1 (ys ++ [.sl 1 xs]) cap')],rfl,?_,?_⟩
    ·have:=AppSt.row (t:=30) (k:=1) b' (ys ++ [.sl 1 xs]) cap'
     simpa using this
    ·intro y hy;simp only[List.mem_singleton] at hy;subst hy;exact fun e=>n3' e.symm
  ·rintro vs L - ⟨v,Lq,rfl,hA,hq⟩
   have hkl:=needK_len E p (ps[p].evs.length+1)
   have hkm:needK E p (ps[p].evs.length+1)=needM E p:=by unfold needK needM;rw[htop p hp]
   rcases hA.inv with ⟨e1,rfl,rfl⟩|⟨bq,cap,rfl,rfl⟩
   ·rw[e1] at hkl;simp at hkl
   ·have nq3:¬bq=b3:=hq (bq,.row 30 1 _ cap) (by simp;rfl)
    rw[hkm] at *
    simp only[go_sem,List.cons_append,List.nil_append]
    refine⟨[_],[_],[(b3,.row 31 1 (doneN E (p+1)) ps.length)],.refl _,?_,_,List.Sublist.refl _,rfl⟩
    rw[← hds]
    have hvw:Vw [(bq,.row 30 1 (needM E p) cap)] (.ls bq 1 0 (needM E p).length cap) (.sl 1 (needM E p)):=Vw.ofLs (if_pos rfl) rfl
    exact .row (Vws.setV (Vws.refl _) hvw p) .nil
 ·rintro vs L - rfl
  simp only[go_sem]
  refine Wk ?_
  refine ret_view [true] ?_;simp only[go_sem]
  rw[← doneN_full,hn]
  exact Vw.ofLs (if_pos rfl) (by rw[doneN_len,hn])
end Go.AL
end
