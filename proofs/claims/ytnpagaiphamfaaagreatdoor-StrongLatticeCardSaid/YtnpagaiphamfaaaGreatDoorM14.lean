/- Texts of this claim's proof: WNd, WBs, WSb, WAw, WSr, WOf, WWl. No condition. -/
import Derived.Test.YtnpagaiphamfaaaGreatDoorM12
import Derived.Test.YtnpagaiphamfaaaGreatDoorM13
import Derived.Test.YtnpagaiphamfaaaGreatDoorM6
import Derived.Test.YtnpagaiphamfaaaGreatDoorM10
section
namespace Go.AL
open Go Go.RowKit
set_option maxRecDepth 4000
theorem Vws.setV {L:AHeap} {xs ys:List AV} {a b:AV} (h:Vws L xs ys) (hab:Vw L a b) (i:Nat):Vws L (xs.set i a) (ys.set i b):=by
 refine⟨by rw[List.length_set,List.length_set];exact h.1,fun j x y hx hy => ?_⟩
 rw[List.getElem?_set] at hx hy
 by_cases e:i=j
 ·subst e
  rw[if_pos rfl] at hx hy
  split at hx
  ·split at hy
   ·cases hx;cases hy;exact hab
   ·cases hy
  ·cases hx
 ·rw[if_neg e] at hx hy;exact h.2 j x y hx hy
noncomputable def elimOf (ps:List Pr) (ts:List Pd):Elim where
 n:=ps.length
 top:=nev ps
 ok:=fun p k=>match ts[p]? with|some t=>lclT ps p t k|none=>true
 need:=fun q k p=>cAt (closeF ps (stC ps.length q k)) p
theorem elim_sm {ps:List Pr} (hs:Sm ps) (ts:List Pd):SmE (elimOf ps ts):=⟨hs.procs,fun q=>by
 show nev ps q≤1000000
 by_cases hq:q<ps.length
 ·rw[nev_get hq];exact hs.evs _ (List.getElem_mem hq)
 ·unfold nev;rw[List.getD_eq_getElem?_getD,List.getElem?_eq_none (by omega)];simp⟩
def doneN (E:Elim) (p:Nat):List AV:=(List.range E.n).map fun q=>if q<p then .sl 1 (needM E q) else anil
theorem doneN_len (E:Elim) (p:Nat):(doneN E p).length=E.n:=by simp [doneN]
theorem doneN_zero (E:Elim):doneN E 0=List.replicate E.n anil:=by
 unfold doneN;apply List.ext_getElem (by simp);intro i h1 h2;simp
theorem doneN_full (E:Elim):doneN E E.n=needT E:=by
 unfold doneN needT
 refine List.map_congr_left fun q hq => ?_
 rw[if_pos (List.mem_range.1 hq)]
theorem doneN_get {E:Elim} {p:Nat} (hp:p<E.n):(doneN E p).getD p .any=anil:=by
 have:=map_range_getD hp (fun q=>if q<p then AV.sl 1 (needM E q) else anil)
 rw[if_neg (Nat.lt_irrefl p)] at this
 exact this
theorem doneN_set {E:Elim} {p:Nat} : (doneN E p).set p (.sl 1 (needM E p))=doneN E (p+1):=by
 unfold doneN
 rw[map_range_set]
 congr 1
 funext q
 by_cases e:q=p
 ·rw[if_pos e,if_pos (by omega),e]
 ·rw[if_neg e]
  by_cases e2:q<p
  ·rw[if_pos e2,if_pos (by omega)]
  ·rw[if_neg e2,if_neg (by omega)]
def needK (E:Elim) (q m:Nat):List AV:=(List.range m).map fun j => .sl 1 (needL E q j)
theorem needK_len (E:Elim) (q m:Nat):(needK E q m).length=m:=by simp [needK]
theorem needK_succ (E:Elim) (q m:Nat):needK E q (m+1)=needK E q m ++ [.sl 1 (needL E q m)]:=by unfold needK;rw[List.range_succ,List.map_append];rfl
theorem need_row {ps:List Pr} (hv:validF ps=true) (ts:List Pd) {p m:Nat} (hp:p<ps.length) (hm:m≤ps[p].evs.length):aInts (closeF ps (stC ps.length p m)) = .sl 1 (needL (elimOf ps ts) p m):=by
 obtain⟨a1,a2⟩:=stC_ok (k:=(m:Int)) hp (by omega) (by omega)
 obtain⟨b1,_,_⟩:=closeF_ok hv a1 a2
 unfold aInts needL
 congr 1
 apply List.ext_getElem
 ·rw[List.length_map,b1,List.length_map,List.length_range];rfl
 ·intro i h1 h2
  rw[List.getElem_map,List.getElem_map,List.getElem_range]
  show _=ai (cAt _ _)
  rw[cAt_nat (by simpa using h1)]
theorem conj_needs (ps:List Pr) (hs:Sm ps) (hv:validF ps=true) (ts:List Pd):PC Proofs.Tryz.prog 108 [aTr ps] (.sl 1 (needT (elimOf ps ts))):=by
 have hl:=hs.procs
 have hn:(elimOf ps ts).n=ps.length:=rfl
 have hrow:=fun p m hp hm=>need_row hv ts (p:=p) (m:=m) hp hm
 have htop:∀p (hp:p<ps.length),(elimOf ps ts).top p=ps[p].evs.length:=fun p hp=>nev_get hp
 generalize elimOf ps ts=E at *
 refine PC.enter 56 [.tmp 2] [1,5,50] Proofs.Tryz.func108 rfl rfl rfl rfl rfl (by simp) (AWp.of ?_);simp only[go_sem]
 refine Wk ?_
 refine Sd ?_
 intro b3
 refine Sd ?_
 refine AWp.of ?_;simp only[go_sem]
 rw[show List.replicate ps.length anil=doneN E 0 by rw[doneN_zero,hn]]
 refine AWp.range' ps.length [] [1,3,15,16] (fun p vs L=>L=[(b3,.row 28 1 (doneN E p) ps.length)]) (by omega) rfl rfl rfl rfl ?_ ?_
 ·rintro p vs L hp - rfl
  have hel:=hs.evs _ (List.getElem_mem hp)
  have hgp:=getD_map (f:=aPr) hp
  have hdn:=doneN_len E p
  have hds:=doneN_set (E:=E) (p:=p)
  have hdg:=doneN_get (E:=E) (p:=p) (by omega)
  simp only[go_sem]
  refine W1 hgp ?_
  intro b5 g5
  have n35:¬b3=b5:=by omega
  have n53:¬b5=b3:=by omega
  have hdp:p<(doneN E p).length:=by omega
  have hset0:doneN E p=(doneN E p).set p anil:=by
   have e:(doneN E p)[p]=anil:=by
    have:=hdg
    rw[List.getD_eq_getElem?_getD,List.getElem?_eq_getElem hdp] at this
    exact this
   rw[← e,List.set_getElem_self]
  have hgv:∀v:AV,((doneN E p).set p v).getD p .any=v:=fun v=>by
   rw[List.getD_eq_getElem?_getD,List.getElem?_set_self hdp];rfl
  have hsl:∀v:AV,((doneN E p).set p v).length=E.n:=fun v=>by rw[List.length_set,hdn]
  rw[hset0]
  generalize hD:doneN E p=D at *
  refine W2 n35 n53 ?_
  refine AWp.postV ?_
  refine AWp.range' (ps[p].evs.length+1) [] [1,3,4,15,16,17,25] (fun m vs L=>∃v Lq,L=Lq ++ [(b3,.row 28 1 (D.set p v) ps.length)]∧AppSt 42 1 (needK E p m) v Lq∧∀x ∈ Lq,x.1 ≠ b3) (by omega) rfl rfl rfl ⟨anil,[],rfl,.nil,by simp⟩ ?_ ?_
  ·rintro m vs L hm - ⟨v,Lq,rfl,hA,hq⟩
   have hyl:=needK_len E p m
   have hnd:=hrow p m hp (by omega)
   obtain⟨a1,a2⟩:=stC_ok (k:=(m:Int)) hp (by omega) (by omega)
   have hcl:=cut_Close ps hs hv _ a1 a2
   rw[hnd] at hcl
   have hC:(stC ps.length p m).map ai=(List.replicate ps.length (ai 0)).set p (ai m):=by unfold stC;rw[List.map_set,List.map_replicate]
   have hg0:(List.replicate ps.length (ai 0)).getD p .any=ai 0:=by rw[List.getD_eq_getElem?_getD,List.getElem?_replicate,if_pos hp];rfl
   rw[needK_succ]
   have hfo:=hA.fo
   generalize needK E p m=ys at *
   generalize needL E p m=xs at *
   rcases hA.inv with ⟨e1,rfl,rfl⟩|⟨bq,cap,rfl,rfl⟩
   ·simp only[go_sem,List.nil_append]
    refine Sd ?_
    refine AWp.of ?_;simp only[go_sem]
    refine Sd ?_
    refine AWp.of ?_;simp only[go_sem]
    refine Sd ?_
    intro b7 g7
    have n37:¬b3=b7:=by omega
    have n73:¬b7=b3:=by omega
    refine Sd ?_
    refine AWp.of ?_;simp only[go_sem,n73,hg0,List.length_replicate]
    refine Sd ?_
    rw[← hC]
    refine W2 n37 n73 ?_
    have hvw:Vws [(b7,.row 3 1 ((stC ps.length p m).map ai) ps.length)] [aTr ps,.ls b7 1 0 ps.length ps.length] [aTr ps,aInts (stC ps.length p m)]:=Vws.cons (.refl _) (Vws.cons (Vw.ofLs (if_pos rfl) (by rw[List.length_map,a1])) .nil)
    refine MVal.pass (Lf:=[(b7,.row 3 1 ((stC ps.length p m).map ai) ps.length)]) (Li:=[]) (Lr:=[(b3,.row 28 1 (D.set p anil) ps.length)]) (.refl _) hvw hcl.val ?_
    rintro r L1 ⟨rfl,rfl⟩
    refine⟨_,.refl _,?_⟩
    simp only[go_sem]
    refine W5 n37 n73 hgv hsl hn ?_
    refine Sd ?_
    intro b' cap' g8 _
    have n3':¬b3=b':=by omega
    simp only[go_sem,n3',hgv,hsl,List.set_set]
    refine⟨by omega,by omega,?_⟩
    refine⟨_,List.Sublist.refl _,.ls b' 1 0 1 cap',[(b',.row 42 1 [.sl 1 xs] cap')],rfl,?_,?_⟩
    ·rw[e1];exact .row _ _ _
    ·intro y hy;simp only[List.mem_singleton] at hy;subst hy;exact fun e=>n3' e.symm
   ·simp only[go_sem,List.cons_append,List.nil_append]
    refine Sd ?_
    refine AWp.of ?_;simp only[go_sem]
    refine Sd ?_
    refine AWp.of ?_;simp only[go_sem]
    refine Sd ?_
    intro b7 g7 g7'
    have n37:¬b3=b7:=by omega
    have n73:¬b7=b3:=by omega
    have nq3:¬bq=b3:=hq (bq,.row 42 1 ys cap) (by simp)
    have n3q:¬b3=bq:=fun e=>nq3 e.symm
    have n7q:¬b7=bq:=by omega
    have nq7:¬bq=b7:=by omega
    refine Sd ?_
    refine AWp.of ?_;simp only[go_sem,n73,n7q,hg0,List.length_replicate]
    refine Sd ?_
    rw[← hC]
    repeat(first|((with_reducible refine AWp.ofC ?_ ?_);exact rfl;simp only[go_sem])|((with_reducible refine an ?_ ?_);exact Au))
    have hvw:Vws [(b7,.row 3 1 ((stC ps.length p m).map ai) ps.length)] [aTr ps,.ls b7 1 0 ps.length ps.length] [aTr ps,aInts (stC ps.length p m)]:=Vws.cons (.refl _) (Vws.cons (Vw.ofLs (if_pos rfl) (by rw[List.length_map,a1])) .nil)
    refine MVal.pass (Lf:=[(b7,.row 3 1 ((stC ps.length p m).map ai) ps.length)]) (Li:=[]) (Lr:=[(bq,.row 42 1 ys cap),(b3,.row 28 1 (D.set p (.ls bq 1 0 ys.length cap)) ps.length)]) (.refl _) hvw hcl.val ?_
    rintro r L1 ⟨rfl,rfl⟩
    refine⟨_,.refl _,?_⟩
    simp only[go_sem]
    repeat(first|((with_reducible refine AWp.ofC ?_ ?_);exact rfl;simp only[go_sem,nq3,n3q,hgv,hsl,hn])|((with_reducible refine an ?_ ?_);exact Au))
    refine Sd ?_
    intro b' cap' g8 _
    have n3':¬b3=b':=g8
    simp only[go_sem,n3',hgv,hsl,List.set_set]
    refine⟨by omega,by omega,?_⟩
    refine⟨_,List.Sublist.refl _,.ls b' 1 0 (ys.length+1) cap',[(b',.row 42 1 (ys ++ [.sl 1 xs]) cap')],rfl,?_,?_⟩
    ·have:=AppSt.row (t:=42) (k:=1) b' (ys ++ [.sl 1 xs]) cap'
     simpa using this
    ·intro y hy;simp only[List.mem_singleton] at hy;subst hy;exact fun e=>n3' e.symm
  ·rintro vs L - ⟨v,Lq,rfl,hA,hq⟩
   have hkl:=needK_len E p (ps[p].evs.length+1)
   have hkm:needK E p (ps[p].evs.length+1)=needM E p:=by unfold needK needM;rw[htop p hp]
   rcases hA.inv with ⟨e1,rfl,rfl⟩|⟨bq,cap,rfl,rfl⟩
   ·rw[e1] at hkl;simp at hkl
   ·have nq3:¬bq=b3:=hq (bq,.row 42 1 _ cap) (by simp;rfl)
    rw[hkm] at *
    simp only[go_sem,List.cons_append,List.nil_append]
    refine⟨[_],[_],[(b3,.row 28 1 (doneN E (p+1)) ps.length)],.refl _,?_,_,List.Sublist.refl _,rfl⟩
    rw[← hds]
    have hvw:Vw [(bq,.row 42 1 (needM E p) cap)] (.ls bq 1 0 (needM E p).length cap) (.sl 1 (needM E p)):=Vw.ofLs (if_pos rfl) rfl
    exact .row (Vws.setV (Vws.refl _) hvw p) .nil
 ·rintro vs L - rfl
  simp only[go_sem]
  refine Wk ?_
  refine ret_view [true] ?_;simp only[go_sem]
  rw[← doneN_full,hn]
  exact Vw.ofLs (if_pos rfl) (by rw[doneN_len,hn])
def aStp (s:Stp):AV:=.agg [ai s.1,ai s.2.1,ai s.2.2]
def stepR (E:Elim) (now:Nat→Nat):AV:=match stepP E now with
 | none => .tup [(.agg [ai 0,ai 0,ai 0]),ab false]
 | some p => .tup [.agg [ai p,ai (now p),ai ((goF E now p:Int) - 1)],ab true]
def stepN (E:Elim) (now:Nat→Nat):Nat→Nat:=match stepP E now with
 | none=>now
 | some p=>updN now p (goF E now p)
theorem board_viewL {E:Elim} {now:Nat→Nat} {bb bn:Nat} {L:AHeap} (h1:lk L bb=some (.row 120 3 [.agg [.sl 1 (needT E),.sl 1 (okM E),.ls bn 1 0 E.n E.n]] 1)) (h2:lk L bn=some (.row 3 1 (dnA E.n now) E.n)) (xs:List AV) :
  Vws L (.lp bb 3 0 0 :: xs) (aBoard E now :: xs):=by
 unfold aBoard
 exact Vws.cons (.lp h1 rfl (Vws.cons (.mkAgg (Vws.cons (.refl _) (Vws.cons (.refl _) (Vws.cons (Vw.ofLs h2 (dnA_length _ _).symm) .nil)))) .nil).2) (Vws.refl _)
theorem board_step (E:Elim) (hE:SmE E) (now:Nat→Nat) (hI:InE E now) (bb bn:Nat) (hb:¬bn=bb):MCalls Proofs.Tryz.prog 109 [.lp bb 3 0 0] (boardL E now bb bn) fun r L=>r=stepR E now∧L=boardL E (stepN E now) bb bn:=by
 have hn:=hE.n
 have hb':¬bb=bn:=fun e=>hb e.symm
 have hr:∀p,p<E.n→exB E now p (now p)=true→(∀q,q<p→exB E now q (now q)=false)→stepR E now = .tup [.agg [ai p,ai (now p),ai ((goF E now p:Int) - 1)],ab true]∧stepN E now=updN now p (goF E now p):=fun p h1 h2 h3=>by
  have:stepP E now=some p:=find_range_of h1 h2 h3
  unfold stepR stepN;rw[this];exact⟨rfl,rfl⟩
 have hr0:(∀q,q<E.n→exB E now q (now q)=false)→stepR E now = .tup [(.agg [ai 0,ai 0,ai 0]),ab false]∧stepN E now=now:=fun h=>by
  have:stepP E now=none:=find_range_no h
  unfold stepR stepN;rw[this];exact⟨rfl,rfl⟩
 have hL:∀f,boardL E f bb bn=[(bb,.row 120 3 [.agg [.sl 1 (needT E),.sl 1 (okM E),.ls bn 1 0 E.n E.n]] 1),(bn,.row 3 1 (dnA E.n f) E.n)]:=fun f=>rfl
 generalize stepR E now=R at *
 generalize stepN E now=N' at *
 rw[hL]
 refine MCalls.enter' 57 [.cell 2 51,.tmp 3] [] Proofs.Tryz.func109 rfl rfl rfl rfl rfl (by simp) (AWp.of ?_);simp only[go_sem]
 intro b2 g2 g2'
 have n1:¬bb=b2:=by omega
 have n2:¬bn=b2:=by omega
 have n3:¬b2=bb:=by omega
 have n4:¬b2=bn:=by omega
 repeat(first|((with_reducible refine AWp.ofC ?_ ?_);exact rfl;simp only[go_sem,hb',n1])|((with_reducible refine an ?_ ?_);exact Au))
 have hbv:∀(z:ABlk) (xs:List AV),Vws ((b2,z) :: [(bb,.row 120 3 [.agg [.sl 1 (needT E),.sl 1 (okM E),.ls bn 1 0 E.n E.n]] 1),(bn,.row 3 1 (dnA E.n now) E.n)]) (.lp bb 3 0 0 :: xs) (aBoard E now :: xs):=fun z xs=>board_viewL (bn:=bn) (by simp only[lk,n1,if_false,if_true]) (by simp only[lk,n2,hb,if_false,if_true]) xs
 refine AWp.range' E.n [] [0,2,10,11] (fun p vs L=>L=[(b2,.row 51 3 [(.agg [ai 0,ai 0,ai 0])] 1),(bb,.row 120 3 [.agg [.sl 1 (needT E),.sl 1 (okM E),.ls bn 1 0 E.n E.n]] 1),(bn,.row 3 1 (dnA E.n now) E.n)]∧∀q,q<p→exB E now q (now q)=false) (by omega) rfl rfl rfl ⟨rfl,fun q hq=>by omega⟩ ?_ ?_
 ·rintro p vs L hp - ⟨rfl,hJ⟩
  have hgn:=dnA_get hp now
  have hIp:=hI p hp
  have hex:=board_excluded E hE now hI p (now p) hp hIp
  have htp:=hE.top p
  simp only[go_sem]
  refine Sd ?_
  refine AWp.of ?_;simp only[go_sem,hgn,hb,n2,dnA_length]
  refine Wk ?_
  refine(PC.view (hbv _ _) hex (Own.v _) ?_).val
  simp only[go_sem]
  refine Wk ?_
  refine⟨fun h1 => ?_,fun h1 => ?_⟩
  ·refine⟨_,List.Sublist.refl _,rfl,fun q hq => ?_⟩
   by_cases e:q=p
   ·subst e;exact h1
   ·exact hJ q (by omega)
  ·obtain⟨e1,e2⟩:=hr p hp h1 hJ
   have hgo:goF E now p=nextK (exB E now p) (E.top p) (now p+1):=nextK_hit hIp h1
   have hgk:=okM_get hp
   refine Wk ?_
   refine AWp.seq (AWp.block (AWp.loopN [6] [0,2,4,5] (fun m vs L=>L=[(b2,.row 51 3 [(.agg [ai 0,ai 0,ai 0])] 1),(bb,.row 120 3 [.agg [.sl 1 (needT E),.sl 1 (okM E),.ls bn 1 0 E.n E.n]] 1),(bn,.row 3 1 (dnA E.n now) E.n)]∧∃k:Nat,m=E.top p - k∧now p≤k∧k≤E.top p∧vs=[ai k]∧goF E now p=nextK (exB E now p) (E.top p) (k+1)) (E.top p - now p) ?_ ?_))
   ·exact⟨rfl,now p,rfl,Nat.le_refl _,hIp,rfl,hgo⟩
   rintro m vs L - ⟨rfl,k,rfl,h2,h3,rfl,h4⟩
   simp only[go_sem]
   refine Sd ?_
   refine AWp.of ?_;simp only[go_sem,hb',n1,hgk,okM_len,okL_len]
   refine Sd ?_
   refine GCall.use (ab (exB E now p (k+1))) ?_ ?_
   ·intro g
    have hk1:k+1≤E.top p:=by omega
    exact⟨At,(PC.view (hbv _ _) (board_excluded E hE now hI p (k+1) hp hk1) (Own.v _) ⟨rfl,rfl⟩).val⟩
   simp only[go_sem]
   refine Sd ?_
   refine Wk ?_
   refine⟨fun h5 h6 => ?_,fun h5 => ?_⟩
   ·refine Wk ?_
    exact⟨_,List.Sublist.refl _,_,by omega,rfl,k+1,rfl,by omega,by omega,by rw[show ((k+1:Nat):Int)=(k:Int)+1 by omega],by rw[h4,nextK_hit (by omega) h6]⟩
   ·have hk:goF E now p=k+1:=by
     rw[h4,nextK_stop]
     rintro⟨h7,h8⟩
     have:=h5 (by omega)
     rw[h8] at this;cases this
    have hgn2:((dnA E.n now).set p (ai ((k:Int)+1)))=dnA E.n (updN now p (goF E now p)):=dnA_set (by rw[updN_self,hk];omega) fun q hq=>updN_ne hq
    repeat(first|((with_reducible refine AWp.ofC ?_ ?_);exact rfl;simp only[go_sem,hb,hb',n1,n2,n3,n4,dnA_length,hgn])|((with_reducible refine an ?_ ?_);exact Au))
    rw[e1,e2]
    refine ret_sub [(bb,.row 120 3 [.agg [.sl 1 (needT E),.sl 1 (okM E),.ls bn 1 0 E.n E.n]] 1),(bn,.row 3 1 ((dnA E.n now).set p (ai ((k:Int)+1))) E.n)] (.cons _ (List.Sublist.refl _)) ?_
    simp only[go_sem]
    refine⟨?_,?_⟩
    ·rw[hk,show (((k+1:Nat):Int) - 1)=k by omega]
    ·rw[hL,← hgn2]
 ·rintro vs L - ⟨rfl,hJ⟩
  obtain⟨e1,e2⟩:=hr0 hJ
  simp only[go_sem]
  refine W6 hb hb' n1 n2 n3 n4 ?_
  rw[e1,e2]
  refine ret_sub [(bb,.row 120 3 [.agg [.sl 1 (needT E),.sl 1 (okM E),.ls bn 1 0 E.n E.n]] 1),(bn,.row 3 1 (dnA E.n now) E.n)] (.cons _ (List.Sublist.refl _)) ?_
  simp only[go_sem]
  rw[hL]
theorem inE_small {E:Elim} (hE:SmE E) {now:Nat→Nat} (hI:InE E now):∀q,q<E.n→now q≤1000001:=fun q hq=>by
 have:=hI q hq
 have:=hE.top q
 omega
theorem lostB_false {E:Elim} {now:Nat→Nat} (hI:InE E now):lostB E now=false:=List.any_eq_false.2 fun q hq=>by
 have:=hI q (List.mem_range.1 hq)
 simpa using this
theorem lostB_true {E:Elim} {now:Nat→Nat} {q:Nat} (hq:q<E.n) (h:E.top q<now q):lostB E now=true:=List.any_eq_true.2 ⟨q,List.mem_range.2 hq,decide_eq_true h⟩
theorem step_lost {E:Elim} {now:Nat→Nat} (hI:InE E now) {p:Nat} (h:stepP E now=some p) (hl:E.top p<goF E now p):lostB E (updN now p (goF E now p))=true∧∀q,q<E.n→E.top q≤1000000→updN now p (goF E now p) q≤1000001:=by
 obtain⟨h1,_,_,_,h5,_,_⟩:=step_inv hI h
 refine⟨lostB_true h1 (by rw[updN_self];exact hl),fun q hq ht => ?_⟩
 by_cases e:q=p
 ·subst e;rw[updN_self];omega
 ·rw[updN_ne e];have:=hI q hq;omega
theorem board_steps (E:Elim) (hE:SmE E) (now fin:Nat→Nat) (hI:InE E now) (st:List Stp) (l:Bool) (hR:RunR E now st fin l) (bb bn:Nat) (hb:¬bn=bb) :
  MCalls Proofs.Tryz.prog 63 [.lp bb 3 0 0] (boardL E now bb bn) fun r L=>∃Lq,AppSt 51 3 (st.map aStp) r Lq∧L=Lq ++ boardL E fin bb bn∧∀x ∈ Lq,x.1 ≠ bb∧x.1 ≠ bn:=by
 have hb':¬bb=bn:=fun e=>hb e.symm
 have hL:∀f,boardL E f bb bn=[(bb,.row 120 3 [.agg [.sl 1 (needT E),.sl 1 (okM E),.ls bn 1 0 E.n E.n]] 1),(bn,.row 3 1 (dnA E.n f) E.n)]:=fun f=>rfl
 have hvw:∀(f:Nat→Nat) (Lq:AHeap),(∀x ∈ Lq,x.1 ≠ bb∧x.1 ≠ bn)→Vws (Lq ++ boardL E f bb bn) [.lp bb 3 0 0] [aBoard E f]:=fun f Lq hq=>by
  have hlk:∀(b:Nat),(∀x ∈ Lq,x.1 ≠ b)→lk (Lq ++ boardL E f bb bn) b=lk (boardL E f bb bn) b:=fun b=>by
   clear hq
   induction Lq with
   | nil=>intro _;rfl
   | cons y Lq ih =>
    intro h
    obtain⟨yb,yx⟩:=y
    have h0:¬b=yb:=fun e=>h (yb,yx) (by simp) e.symm
    show (if b=yb then _ else _)=_
    rw[if_neg h0]
    exact ih fun x hx=>h x (List.mem_cons_of_mem _ hx)
  refine board_viewL (bn:=bn) ?_ ?_ []
  ·rw[hlk bb fun x hx=>(hq x hx).1,hL];simp only[lk,if_true]
  ·rw[hlk bn fun x hx=>(hq x hx).2,hL];simp only[lk,hb,if_false,if_true]
 rw[hL]
 refine MCalls.enter' 21 [.tmp 2] [4,18] Proofs.Tryz.func63 rfl rfl rfl rfl rfl (by simp) (AWp.of ?_);simp only[go_sem]
 refine Wk ?_
 rw[← hL]
 refine AWp.seq (AWp.block (AWp.loopN [3] [0] (fun m vs L=>∃(f:Nat→Nat) (acc st':List Stp) (v:AV) (Lq:AHeap),vs=[v]∧L=Lq ++ boardL E f bb bn∧AppSt 51 3 (acc.map aStp) v Lq∧(∀x ∈ Lq,x.1 ≠ bb∧x.1 ≠ bn)∧acc ++ st'=st∧(∀q,q<E.n→f q≤1000001) ∧
  ((InE E f∧RunR E f st' fin l∧m=roomE E f+1∧acc.length+roomE E f≤roomE E now)∨(lostB E f=true∧f=fin∧st'=[]∧m=0))) (roomE E now+1) ?_ ?_))
 ·exact⟨now,[],st,anil,[],rfl,rfl,.nil,by simp,rfl,inE_small hE hI,.inl ⟨hI,hR,rfl,by simp⟩⟩
 ·rintro m vs L - ⟨f,acc,st',v,Lq,rfl,rfl,hA,hq,hacc,hsm,hst⟩
  have hlo:=board_lost E hE f hsm
  have hvq:=hvw f Lq hq
  have hroom:roomE E now≤E.n * 1000001:=totS_le _ fun q hq=>by have:=hE.top q;omega
  have hEn:=hE.n
  rcases hst with ⟨hIf,hRf,rfl,hrf⟩|⟨hlt,rfl,rfl,rfl⟩
  ·rw[lostB_false hIf] at hlo
   have hstep:=board_step E hE f hIf bb bn hb
   simp only[go_sem]
   refine Sd ?_
   refine AWp.of ?_;simp only[go_sem]
   refine(PC.view hvq hlo (Own.v _) ?_).val
   simp only[go_sem]
   refine Wk ?_
   refine MVal.pass (Lf:=[]) (Li:=boardL E f bb bn) (Lr:=Lq) (by simpa using List.perm_append_comm) (Vws.refl _) hstep.val ?_
   rintro r L1 ⟨rfl,rfl⟩
   refine⟨Lq ++ boardL E (stepN E f) bb bn,List.perm_append_comm,?_⟩
   have hfo:=hA.fo
   cases hRf with
   | stop h =>
    have e1:stepR E fin = .tup [.agg [ai 0,ai 0,ai 0],ab false]:=by unfold stepR;rw[h]
    have e2:stepN E fin=fin:=by unfold stepN;rw[h]
    rw[List.append_nil] at hacc
    subst hacc
    rw[e1,e2]
    simp only[go_sem]
    intro b4 g4
    refine W1 hfo ?_
    refine ret_own ?_
    simp only[go_sem]
    exact⟨Lq,hA,rfl,hq⟩
   | @lost _ p h hl =>
    have hlt:=(step_inv hIf h).2.2.2.1
    have e1:stepR E f = .tup [.agg [ai p,ai (f p),ai ((goF E f p - 1:Nat):Int)],ab true]:=by
     unfold stepR;rw[h]
     dsimp only
     rw[show ((goF E f p - 1:Nat):Int)=(goF E f p:Int) - 1 by omega]
    have e2:stepN E f=updN f p (goF E f p):=by unfold stepN;rw[h]
    rw[e1,e2]
    have hap:∀(b' cap':Nat),AppSt 51 3 ((acc ++ [(p,f p,goF E f p - 1)]).map aStp) (.ls b' 3 0 (acc.length+1) cap') [(b',.row 51 3 (acc.map aStp ++ [.agg [ai p,ai (f p),ai ((goF E f p - 1:Nat):Int)]]) cap')]:=fun b' cap'=>by
     have:=AppSt.row (t:=51) (k:=3) b' ((acc ++ [(p,f p,goF E f p - 1)]).map aStp) cap'
     simpa [aStp] using this
    have hacl:(acc.map aStp).length=acc.length:=List.length_map _
    obtain⟨k1,k2⟩:=step_lost hIf h hl
    have hsm':∀q,q<E.n→updN f p (goF E f p) q≤1000001:=fun q hq=>k2 q hq (hE.top q)
    obtain⟨m',hm',hdj⟩:∃m',m'<roomE E f+1∧((InE E (updN f p (goF E f p))∧RunR E (updN f p (goF E f p)) [] (updN f p (goF E f p)) true∧m'=roomE E (updN f p (goF E f p))+1∧(acc ++ [(p,f p,goF E f p - 1)]).length+roomE E (updN f p (goF E f p))≤roomE E now)∨(lostB E (updN f p (goF E f p))=true∧updN f p (goF E f p)=updN f p (goF E f p)∧([]:List Stp)=[]∧m'=0)):=⟨0,by omega,.inr ⟨k1,rfl,rfl,rfl⟩⟩
    have hacc':(acc ++ [(p,f p,goF E f p - 1)]) ++ []=st:=by rw[List.append_assoc];exact hacc
    generalize hF:updN f p (goF E f p)=F at *
    generalize hY:acc.map aStp=ys at *
    rcases hA.inv with ⟨e3,rfl,rfl⟩|⟨bq,cap,rfl,rfl⟩
    ·simp only[go_sem,List.nil_append]
     intro b4 g4
     refine Wk ?_
     intro b' cap' g8 _
     have n1:¬b'=bb∧¬b'=bn:=by simp only[boardL,fresh] at g8;omega
     rw[e3] at hacl hap
     have h0:acc.length=0:=by simpa using hacl.symm
     have hap:=hap b' cap'
     rw[h0] at hap
     exact⟨_,List.Sublist.refl _,m',hm',F,_,[],_,[(b',_)],rfl,rfl,hap,fun x hx=>by simp only[List.mem_singleton] at hx;subst hx;exact n1,hacc',hsm',hdj⟩
    ·simp only[go_sem,List.cons_append,List.nil_append]
     intro b4 g4 g4'
     refine Wk ?_
     intro b' cap' g8 _
     have n1:¬b'=bb∧¬b'=bn:=by simp only[boardL,apart] at g8;omega
     have hap:=hap b' cap'
     rw[← hacl] at hap
     exact⟨_,List.Sublist.refl _,m',hm',F,_,[],_,[(b',_)],rfl,rfl,hap,fun x hx=>by simp only[List.mem_singleton] at hx;subst hx;exact n1,hacc',hsm',hdj⟩
   | @go _ _ p st'' _ h hl hr =>
    have hlt:=(step_inv hIf h).2.2.2.1
    have e1:stepR E f = .tup [.agg [ai p,ai (f p),ai ((goF E f p - 1:Nat):Int)],ab true]:=by
     unfold stepR;rw[h]
     dsimp only
     rw[show ((goF E f p - 1:Nat):Int)=(goF E f p:Int) - 1 by omega]
    have e2:stepN E f=updN f p (goF E f p):=by unfold stepN;rw[h]
    rw[e1,e2]
    have hap:∀(b' cap':Nat),AppSt 51 3 ((acc ++ [(p,f p,goF E f p - 1)]).map aStp) (.ls b' 3 0 (acc.length+1) cap') [(b',.row 51 3 (acc.map aStp ++ [.agg [ai p,ai (f p),ai ((goF E f p - 1:Nat):Int)]]) cap')]:=fun b' cap'=>by
     have:=AppSt.row (t:=51) (k:=3) b' ((acc ++ [(p,f p,goF E f p - 1)]).map aStp) cap'
     simpa [aStp] using this
    have hacl:(acc.map aStp).length=acc.length:=List.length_map _
    have hI':=inE_step hIf hl
    have hsm':∀q,q<E.n→updN f p (goF E f p) q≤1000001:=inE_small hE hI'
    have hrm:=(step_inv hIf h).2.2.2.2.2.2
    obtain⟨m',hm',hdj⟩:∃m',m'<roomE E f+1∧((InE E (updN f p (goF E f p))∧RunR E (updN f p (goF E f p)) st'' fin l∧m'=roomE E (updN f p (goF E f p))+1∧(acc ++ [(p,f p,goF E f p - 1)]).length+roomE E (updN f p (goF E f p))≤roomE E now)∨(lostB E (updN f p (goF E f p))=true∧updN f p (goF E f p)=fin∧st''=[]∧m'=0)):=⟨_,by omega,.inl ⟨hI',hr,rfl,by rw[List.length_append,List.length_singleton];omega⟩⟩
    have hacc':(acc ++ [(p,f p,goF E f p - 1)]) ++ st''=st:=by rw[List.append_assoc];exact hacc
    generalize hF:updN f p (goF E f p)=F at *
    generalize hY:acc.map aStp=ys at *
    rcases hA.inv with ⟨e3,rfl,rfl⟩|⟨bq,cap,rfl,rfl⟩
    ·simp only[go_sem,List.nil_append]
     intro b4 g4
     refine Wk ?_
     intro b' cap' g8 _
     have n1:¬b'=bb∧¬b'=bn:=by simp only[boardL,fresh] at g8;omega
     rw[e3] at hacl hap
     have h0:acc.length=0:=by simpa using hacl.symm
     have hap:=hap b' cap'
     rw[h0] at hap
     exact⟨_,List.Sublist.refl _,m',hm',F,_,st'',_,[(b',_)],rfl,rfl,hap,fun x hx=>by simp only[List.mem_singleton] at hx;subst hx;exact n1,hacc',hsm',hdj⟩
    ·simp only[go_sem,List.cons_append,List.nil_append]
     intro b4 g4 g4'
     refine Wk ?_
     intro b' cap' g8 _
     have n1:¬b'=bb∧¬b'=bn:=by simp only[boardL,apart] at g8;omega
     have hap:=hap b' cap'
     rw[← hacl] at hap
     exact⟨_,List.Sublist.refl _,m',hm',F,_,st'',_,[(b',_)],rfl,rfl,hap,fun x hx=>by simp only[List.mem_singleton] at hx;subst hx;exact n1,hacc',hsm',hdj⟩
  ·rw[hlt] at hlo
   have hfo:=hA.fo
   rw[List.append_nil] at hacc
   subst hacc
   simp only[go_sem]
   refine Sd ?_
   refine AWp.of ?_;simp only[go_sem]
   refine(PC.view hvq hlo (Own.v _) ?_).val
   simp only[go_sem]
   refine W1 hfo ?_
   refine ret_own ?_
   simp only[go_sem]
   exact⟨Lq,hA,rfl,hq⟩
def lclAt (z:Int→Pd→Int) (ts:List Pd) (p:Nat):Int:=match ts[p]? with|some t=>z p t|none=>0
noncomputable def conF (ps:List Pr) (ts:List Pd):Int :=
 if validF ps=true∧ts.length=ps.length then match (List.range ts.length).find? (fun p=>decide (lclAt (fun p t=>lclF ps p 0 t) ts p ≠ 0)) with|some p=>lclAt (fun p t=>lclF ps p 0 t) ts p|none=>0 else 1
theorem conF_bad {ps:List Pr} {ts:List Pd} (h:¬(validF ps=true∧ts.length=ps.length)):conF ps ts=1:=by unfold conF;rw[if_neg h]
theorem conF_hit {ps:List Pr} {ts:List Pd} (h:validF ps=true∧ts.length=ps.length) {p:Nat} (hp:p<ts.length) (h0:∀q (hq:q<ts.length),q<p→lclF ps q 0 ts[q]=0) (h1:lclF ps p 0 ts[p] ≠ 0):conF ps ts=lclF ps p 0 ts[p]:=by
 have e:∀q (hq:q<ts.length),lclAt (fun p t=>lclF ps p 0 t) ts q=lclF ps q 0 ts[q]:=fun q hq=>by unfold lclAt;rw[List.getElem?_eq_getElem hq]
 unfold conF
 rw[if_pos h,find_range_of hp (by rw[e p hp];exact decide_eq_true h1) fun q hq=>by rw[e q (by omega),h0 q (by omega) hq];rfl]
 exact e p hp
theorem conF_zero {ps:List Pr} {ts:List Pd} (h:validF ps=true∧ts.length=ps.length) (h0:∀q (hq:q<ts.length),lclF ps q 0 ts[q]=0):conF ps ts=0:=by
 have e:∀q (hq:q<ts.length),lclAt (fun p t=>lclF ps p 0 t) ts q=lclF ps q 0 ts[q]:=fun q hq=>by unfold lclAt;rw[List.getElem?_eq_getElem hq]
 unfold conF
 rw[if_pos h,find_range_no fun q hq=>by rw[e q hq,h0 q hq];rfl]
theorem conF_inv {ps:List Pr} {ts:List Pd} (h:conF ps ts=0):validF ps=true∧ts.length=ps.length∧∀q (hq:q<ts.length),lclF ps q 0 ts[q]=0:=by
 by_cases h1:validF ps=true∧ts.length=ps.length
 ·refine⟨h1.1,h1.2,fun q hq => ?_⟩
  have e:∀q (hq:q<ts.length),lclAt (fun p t=>lclF ps p 0 t) ts q=lclF ps q 0 ts[q]:=fun q hq=>by unfold lclAt;rw[List.getElem?_eq_getElem hq]
  unfold conF at h
  rw[if_pos h1] at h
  cases hf:(List.range ts.length).find? (fun p=>decide (lclAt (fun p t=>lclF ps p 0 t) ts p ≠ 0)) with
  | some p =>
   rw[hf] at h
   have:=(find_range hf).2.1
   have h:lclAt (fun p t=>lclF ps p 0 t) ts p=0:=h
   rw[h] at this;simp at this
  | none =>
   have:=find_range_none hf q hq
   rw[e q hq] at this
   simpa using this
 ·rw[conF_bad h1] at h;cases h
structure Ans where
 mode:Int
 holds:Bool
 kind:Int
 cut:List Int
 cuts:List (List Int)
 run:List (List Int)
 spans:List (Int × Int × Int)
 value:Int
def aSp (s:Int × Int × Int):AV:=.agg [ai s.1,ai s.2.1,ai s.2.2]
def aSps (l:List (Int × Int × Int)):AV:=.sl 3 (l.map aSp)
def aAns (a:Ans):AV:=.agg [ai a.mode,ab a.holds,ai a.kind,aInts a.cut,aRows a.cuts,aRows a.run,aSps a.spans,ai a.value]
def stpI (s:Stp):Int × Int × Int:=(s.1,s.2.1,s.2.2)
theorem aStp_I (l:List Stp) : .sl 3 (l.map aStp)=aSps (l.map stpI):=by unfold aSps;rw[List.map_map];rfl
def cutL (n:Nat) (f:Nat→Nat):List Int:=(List.range n).map fun q=>(f q:Int)
theorem dnA_I (n:Nat) (f:Nat→Nat) : .sl 1 (dnA n f)=aInts (cutL n f):=by unfold aInts cutL dnA;rw[List.map_map];rfl
theorem cutL_len (n:Nat) (f:Nat→Nat):(cutL n f).length=n:=by simp [cutL]
def noAns:Ans:=⟨0,false,0,[],[],[],[],0⟩
noncomputable def ansOf (E:Elim):Ans:=if lostF E=true then ⟨1,false,4,[],[],[],(stepsF E).map stpI,0⟩ else ⟨1,true,1,cutL E.n (finF E),[],[],[],0⟩
def oneT (p:Int) (s:ByteArray):Pd:=.mk 9 0 0 0 ByteArray.empty [.mk 2 0 p 0 s [],.mk 1 1 0 0 ByteArray.empty []]
structure NeedOk (ps:List Pr) (E:Elim):Prop where
 n:E.n=ps.length
 top:∀p (hp:p<ps.length),E.top p=ps[p].evs.length
 need:∀q k p,E.need q k p=cAt (closeF ps (stC ps.length q k)) p
theorem elim_need (ps:List Pr) (ts:List Pd):NeedOk ps (elimOf ps ts):=⟨rfl,fun _ hp=>nev_get hp,fun _ _ _=>rfl⟩
structure SatD (ps:List Pr) (E:Elim) (d:List Int):Prop where
 len:d.length=ps.length
 rng:inRangeF ps d=true
 clo:closedF ps d=true
 ok:∀p,p<ps.length→E.ok p (cAt d p).toNat=true
theorem stC_cAt {n p q:Nat} {k:Int} (hq:q<n):cAt (stC n p k) q=if p=q then k else 0:=by
 rw[cAt_nat (by rw[stC_len];exact hq)]
 unfold stC
 rw[List.getElem_set,List.getElem_replicate]
theorem need_le {ps:List Pr} (hv:validF ps=true) {d:List Int} (hd:d.length=ps.length) (hr:inRangeF ps d=true) (hcl:closedF ps d=true) {q k:Nat} (hq:q<ps.length) (hk:(k:Int)≤cAt d q):∀p,p<ps.length→cAt (closeF ps (stC ps.length q k)) p≤cAt d p:=by
 have h0:=(inRange_iff hd).1 hr
 obtain⟨a1,a2⟩:=stC_ok (k:=(k:Int)) hq (by omega) (by have:=(h0 q hq).2;omega)
 refine closeF_least hv hd hcl a1 a2 fun p hp => ?_
 rw[stC_cAt hp]
 split
 ·rename_i e;subst e;exact hk
 ·exact(h0 p hp).1
theorem peer_ne {ps:List Pr} (hv:validF ps=true) {p:Nat} (hp:p<ps.length) {i:Nat} (hi:i<ps[p].evs.length) (hk:ps[p].evs[i].kind=3):ps[p].evs[i].peer.toNat ≠ p:=by
 have h:=(evF_parts hp hi).1 (evF_of_valid hv hp hi)
 have h:=h.1
 unfold formedI at h
 rw[if_neg (by omega),if_pos (.inr hk)] at h
 simp only[Bool.and_eq_true,Bool.not_eq_true',decide_eq_false_iff_not] at h
 have h0:=h.1.1
 unfold inI at h0
 simp only[Bool.and_eq_true,decide_eq_true_eq] at h0
 intro e
 exact h.1.2 (by omega)
section
variable {ps:List Pr} {E:Elim}
theorem sat_run (hv:validF ps=true) (hN:NeedOk ps E) {d:List Int} (hd:SatD ps E d) {fin:Nat→Nat} {st:List Stp} {l:Bool} (h:RunR E (fun _=>0) st fin l):l=false∧∀p,p<ps.length→(fin p:Int)≤cAt d p:=by
 have h0:=(inRange_iff hd.len).1 hd.rng
 obtain⟨e1,e2⟩:=run_least (E:=E) (d:=fun p=>(cAt d p).toNat) (fun p hp=>by
  rw[hN.n] at hp
  refine⟨?_,hd.ok p hp⟩
  rw[hN.top p hp]
  have:=h0 p hp;omega) (fun q hq k hk p hp=>by
  rw[hN.n] at hq hp
  rw[hN.need]
  have h1:=h0 q hq
  have h2:=h0 p hp
  have:=need_le hv hd.len hd.rng hd.clo hq (k:=k) (by omega) p hp
  omega) h (inE_zero E) (fun p _=>Nat.zero_le _)
 refine⟨e1,fun p hp => ?_⟩
 have:=e2 p (by rw[hN.n];exact hp)
 have:=h0 p hp
 omega
theorem run_sat (hv:validF ps=true) (hN:NeedOk ps E) {fin:Nat→Nat} {st:List Stp} (h:RunR E (fun _=>0) st fin false):SatD ps E (cutL ps.length fin):=by
 obtain⟨hI,hex⟩:=run_fin h (inE_zero E) rfl
 have hc:∀p,p<ps.length→cAt (cutL ps.length fin) p=fin p:=fun p hp=>by
  rw[cAt_nat (by rw[cutL_len];exact hp)];simp [cutL]
 have hle:∀p (hp:p<ps.length),fin p≤ps[p].evs.length:=fun p hp=>by
  have:=hI p (by rw[hN.n];exact hp)
  rw[hN.top p hp] at this;exact this
 refine⟨cutL_len _ _,(inRange_iff (cutL_len _ _)).2 fun p hp => ?_,closed_iff.2 fun p hp i hi hk hle' => ?_,fun p hp => ?_⟩
 ·rw[hc p hp];have:=hle p hp;omega
 ·obtain⟨hq,j,hj,e,_,_⟩:=recv_peer (valid_parts hv).2.2 hp hi hk
  have hne:=peer_ne hv hp hi hk
  rw[e]
  simp only
  rw[hc p hp] at hle'
  rw[hc _ hq]
  obtain⟨a1,a2⟩:=stC_ok (k:=(fin p:Int)) hp (by omega) (by have:=hle p hp;omega)
  have hcl:=closed_iff.1 (closeF_closed hv a1 a2) p hp i hi hk (by
   have:=closeF_ge hv a1 a2 p hp
   rw[stC_cAt hp,if_pos rfl] at this
   omega)
  rw[e] at hcl
  simp only at hcl
  have:=(exB_false.1 (hex _ (by rw[hN.n];exact hq))).2 p (by rw[hN.n];exact hp) (Ne.symm hne)
  rw[hN.need] at this
  omega
 ·have:=(exB_false.1 (hex p (by rw[hN.n];exact hp))).1
  rw[hc p hp,Int.toNat_natCast];exact this
theorem lost_iff (hv:validF ps=true) (hN:NeedOk ps E):lostF E=false↔∃d,SatD ps E d:=by
 have hr:=run_spec E
 constructor
 ·intro h;rw[h] at hr;exact⟨_,run_sat hv hN hr⟩
 ·rintro⟨d,hd⟩;exact(sat_run hv hN hd hr).1
end
end Go.AL
end
