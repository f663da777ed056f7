/- Texts of this claim's proof: WEl, WBd, WCl, WRe, WLo, WLp, WLq, WNd, WBs, WSb, WAw, WSr, WOf, WWl, WCt, WLv, WSn, WMk, WMr, WMn, WCu, WBig, WMl, WMc, WMd, WMe, AlWrp, AlRng, AlGrd, WMf, WU1, WSs, WSp, WCp, WCk, WEx, WRr, WEy, WPq, WNa, WNb, WTm, WDx, WPu, WNc, WQa, WQb, WQc, WQf, WQg, WQh, WQi, WNe, WOa, WQd, WQj, WQk, WQl, WQm, WQp, WQn, WU7, WU2, WU3, WU4, WU5, WU6, WU8, WU9, WNf, WNd2, WNh, WU10, WU12, WU13, WQe, WXg, WU14, WI1, WNg, WNi, WNj. No condition. -/
import Derived.Test.YtbbcigpnpbiojaaGreatDoorM9
import Derived.Test.YtbbcigpnpbiojaaGreatDoorM8
import Derived.Test.YtbbcigpnpbiojaaGreatDoorM7
import Derived.Test.YtbbcigpnpbiojaaGreatDoorM5
import Derived.Test.YtbbcigpnpbiojaaGreatDoorM4
section
namespace Go.AL
open Go Go.RowKit
set_option maxRecDepth 4000
structure Elim where
 n:Nat
 top:Nat→Nat
 ok:Nat→Nat→Bool
 need:Nat→Nat→Nat→Int
def exB (E:Elim) (now:Nat→Nat) (p k:Nat):Bool:=!E.ok p k || (List.range E.n).any fun q=>decide (q ≠ p) && decide ((k:Int)<E.need q (now q) p)
def nextF (ex:Nat→Bool) (top:Nat):Nat→Nat→Nat
 | 0,k=>k
 | m+1,k=>if k≤top∧ex k=true then nextF ex top m (k+1) else k
def nextK (ex:Nat→Bool) (top k:Nat):Nat:=nextF ex top (top+1 - k) k
section
variable {ex:Nat→Bool} {top k:Nat}
theorem nextK_hit (h:k≤top) (he:ex k=true):nextK ex top k=nextK ex top (k+1):=by
 unfold nextK
 obtain⟨m,hm⟩:∃m,top+1 - k=m+1:=⟨top - k,by omega⟩
 rw[hm,nextF,if_pos ⟨h,he⟩,show top+1 - (k+1)=m by omega]
theorem nextK_stop (h:¬(k≤top∧ex k=true)):nextK ex top k=k:=by
 unfold nextK
 cases top+1 - k with
 | zero=>rfl
 | succ m=>rw[nextF,if_neg h]
theorem nextK_spec:∀(m k:Nat),top+1 - k=m→k≤top+1→k≤nextK ex top k∧nextK ex top k≤top+1∧(∀j,k≤j→j<nextK ex top k→ex j=true)∧(nextK ex top k≤top→ex (nextK ex top k)=false)
 | 0,k,hm,hk=>by
  rw[nextK_stop (by omega)]
  exact⟨Nat.le_refl _,hk,fun j _ _=>by omega,fun h=>by omega⟩
 | m+1,k,hm,hk=>by
  by_cases he:ex k=true
  ·rw[nextK_hit (by omega) he]
   obtain⟨a1,a2,a3,a4⟩:=nextK_spec m (k+1) (by omega) (by omega)
   refine⟨by omega,a2,fun j h1 h2 => ?_,a4⟩
   by_cases e:j=k
   ·subst e;exact he
   ·exact a3 j (by omega) h2
  ·rw[nextK_stop (fun h=>he h.2)]
   exact⟨Nat.le_refl _,hk,fun j _ _=>by omega,fun _=>by simpa using he⟩
end
def stepP (E:Elim) (now:Nat→Nat):Option Nat:=(List.range E.n).find? fun p=>exB E now p (now p)
def goF (E:Elim) (now:Nat→Nat) (p:Nat):Nat:=nextK (exB E now p) (E.top p) (now p)
def updN (f:Nat→Nat) (p x:Nat):Nat→Nat:=fun q=>if q=p then x else f q
theorem updN_self (f:Nat→Nat) (p x:Nat):updN f p x p=x:=if_pos rfl
theorem updN_ne {f:Nat→Nat} {p x q:Nat} (h:q ≠ p):updN f p x q=f q:=if_neg h
theorem find_range {n:Nat} {f:Nat→Bool} {p:Nat} (h:(List.range n).find? f=some p):p<n∧f p=true∧∀q,q<p→f q=false:=by
 rw[List.find?_eq_some_iff_getElem] at h
 obtain⟨h1,i,hi,e,h2⟩:=h
 rw[List.getElem_range] at e
 subst e
 refine⟨by simpa using hi,h1,fun q hq => ?_⟩
 have:=h2 q hq
 rw[List.getElem_range] at this
 simpa using this
abbrev Stp:=Nat × Nat × Nat
inductive RunR (E:Elim):(Nat→Nat)→List Stp→(Nat→Nat)→Bool→Prop
 | stop {now:Nat→Nat} (h:stepP E now=none):RunR E now [] now false
 | lost {now:Nat→Nat} {p:Nat} (h:stepP E now=some p) (hl:E.top p<goF E now p):RunR E now [(p,now p,goF E now p - 1)] (updN now p (goF E now p)) true
 | go {now fin:Nat→Nat} {p:Nat} {st:List Stp} {l:Bool} (h:stepP E now=some p) (hl:goF E now p≤E.top p) (hr:RunR E (updN now p (goF E now p)) st fin l):RunR E now ((p,now p,goF E now p - 1) :: st) fin l
def InE (E:Elim) (now:Nat→Nat):Prop:=∀q,q<E.n→now q≤E.top q
def roomE (E:Elim) (now:Nat→Nat):Nat:=totS E.n fun q=>E.top q+1 - now q
theorem totS_lt {c c':Nat→Nat} {p:Nat} (h:∀q,q ≠ p→c' q=c q) (hp:c' p<c p):∀n,totS n c'+(if p<n then 1 else 0)≤totS n c
 | 0=>by simp [totS]
 | n+1=>by
  have:=totS_lt h hp n
  rw[totS_succ,totS_succ]
  by_cases e:n=p
  ·subst e
   rw[if_neg (by omega)] at this
   rw[if_pos (by omega)];omega
  ·rw[h n e]
   by_cases e2:p<n
   ·rw[if_pos e2] at this;rw[if_pos (by omega)];omega
   ·rw[if_neg e2] at this;rw[if_neg (by omega)];omega
theorem step_inv {E:Elim} {now:Nat→Nat} (hI:InE E now) {p:Nat} (h:stepP E now=some p) :
  p<E.n∧exB E now p (now p)=true∧(∀q,q<p→exB E now q (now q)=false)∧now p<goF E now p∧goF E now p≤E.top p+1∧(∀j,now p≤j→j<goF E now p→exB E now p j=true)∧roomE E (updN now p (goF E now p))<roomE E now:=by
 obtain⟨h1,h2,h3⟩:=find_range h
 have hle:=hI p h1
 obtain⟨a1,a2,a3,a4⟩:=nextK_spec (ex:=exB E now p) (top:=E.top p) _ (now p) rfl (by omega)
 have hlt:now p<goF E now p:=by
  unfold goF
  rw[nextK_hit hle h2]
  obtain⟨b1,_⟩:=nextK_spec (ex:=exB E now p) (top:=E.top p) _ (now p+1) rfl (by omega)
  omega
 refine⟨h1,h2,h3,hlt,a2,a3,?_⟩
 unfold roomE
 have:=totS_lt (c:=fun q=>E.top q+1 - now q) (c':=fun q=>E.top q+1 - updN now p (goF E now p) q) (p:=p) (fun q hq=>by rw[updN_ne hq]) (by rw[updN_self];omega) E.n
 rw[if_pos h1] at this
 omega
theorem inE_step {E:Elim} {now:Nat→Nat} (hI:InE E now) {p:Nat} (hl:goF E now p≤E.top p):InE E (updN now p (goF E now p)):=fun q hq=>by
 by_cases e:q=p
 ·subst e;rw[updN_self];exact hl
 ·rw[updN_ne e];exact hI q hq
theorem run_ex (E:Elim):∀(m:Nat) (now:Nat→Nat),InE E now→roomE E now≤m→∃st fin l,RunR E now st fin l:=by
 intro m
 induction m with
 | zero =>
  intro now hI hm
  cases h:stepP E now with
  | none=>exact⟨_,_,_,.stop h⟩
  | some p=>have:=(step_inv hI h).2.2.2.2.2.2;omega
 | succ m ih =>
  intro now hI hm
  cases h:stepP E now with
  | none=>exact⟨_,_,_,.stop h⟩
  | some p =>
   have h7:=(step_inv hI h).2.2.2.2.2.2
   by_cases hl:goF E now p≤E.top p
   ·obtain⟨st,fin,l,hr⟩:=ih _ (inE_step hI hl) (by omega)
    exact⟨_,_,_,.go h hl hr⟩
   ·exact⟨_,_,_,.lost h (by omega)⟩
theorem inE_zero (E:Elim):InE E fun _=>0:=fun _ _=>Nat.zero_le _
open Classical in
noncomputable def stepsF (E:Elim):List Stp:=Classical.choose (run_ex E _ _ (inE_zero E) (Nat.le_refl _))
open Classical in
noncomputable def finF (E:Elim):Nat→Nat:=Classical.choose (Classical.choose_spec (run_ex E _ _ (inE_zero E) (Nat.le_refl _)))
open Classical in
noncomputable def lostF (E:Elim):Bool:=Classical.choose (Classical.choose_spec (Classical.choose_spec (run_ex E _ _ (inE_zero E) (Nat.le_refl _))))
end Go.AL
end
section
namespace Go.AL
open Go Go.RowKit
set_option maxRecDepth 4000
section
variable {E:Elim} {p q m k:Nat}
end
theorem Own.eid (x:Eid):Own (aEid x):=Own.agg fun y hy=>by
 simp only[List.mem_cons,List.not_mem_nil,or_false] at hy
 rcases hy with rfl|rfl <;> exact Own.v _
theorem Own.miss (ps:List Pr) (c:List Int):Own (aMiss ps c):=by
 unfold aMiss
 split <;> exact Own.tup fun y hy=>by
  simp only[List.mem_cons,List.not_mem_nil,or_false] at hy
  rcases hy with rfl|rfl|rfl
  ·exact Own.eid _
  ·exact Own.eid _
  ·exact Own.v _
theorem cut_Close1 (c:List Int) (s r:Eid) (b n cap:Nat) (hn:n=c.length) (h0:0≤s.1) (h1:s.1<c.length):MCalls Proofs.Tryz.prog 88 [.ls b 1 0 n cap,aEid s,aEid r] [(b,.row 3 1 (c.map ai) cap)] fun _ L=>L=[(b,.row 3 1 ((c.set s.1.toNat s.2).map ai) cap)]:=by
 subst hn
 have hg:=getD_cAt (c:=c) h0 h1
 refine MCalls.enter' 12 [] [4,5] Proofs.Tryz.func88 rfl rfl rfl rfl rfl (by simp) (AWp.of ?_);simp only[go_sem]
 refine W1 hg ?_
 refine ret_own ?_
 simp only[go_sem]
 rw[List.map_set]
theorem cut_repaired (ps:List Pr) (hs:Sm ps) (hv:validF ps=true) (c:List Int) (hc:c.length=ps.length) (hr:inRangeF ps c=true) :
  PC Proofs.Tryz.prog 87 [aTr ps,aInts c,.v (.func (.func 88) #[] #[])] (.tup [aInts (closeF ps c),ai 0]):=by
 obtain⟨hl1,hl8⟩:=valid_len hv
 have hs1:=cut_sized ps hs [c] (by simp)
 have e1:sizedF ps [c]=true:=by unfold sizedF;rw[hv];simp [hc]
 rw[e1] at hs1
 have hs2:=cut_inRange ps hs c hc
 rw[hr] at hs2
 refine PC.enter 40 [.tmp 6,.tmp 7] [3,9,10,15] Proofs.Tryz.func87 rfl rfl rfl rfl rfl (by simp) (AWp.of ?_);simp only[go_sem]
 refine Wk ?_
 refine Sd ?_
 refine(hs1).val.use ?_;simp only[go_sem]
 refine Wk ?_
 refine Sd ?_
 refine(hs2).val.use ?_;simp only[go_sem]
 refine Wk ?_
 refine(ints_cloneO c (by omega)).val.mono ?_
 rintro r L hA
 rcases hA.inv with ⟨e1,rfl,rfl⟩|⟨b,cap,rfl,rfl⟩
 ·have:c.length=0:=by simpa using congrArg List.length e1
  omega
 simp only[go_sem,List.length_map]
 refine Sd ?_
 refine AWp.of ?_;simp only[go_sem]
 refine AWp.loopN [] [2,3,8] (fun m vs L=>∃d,d.length=ps.length∧inRangeF ps d=true∧closeF ps d=closeF ps c∧m=off ps ps.length - totC d∧L=[(b,.row 3 1 (d.map ai) cap)]) (off ps ps.length - totC c) ⟨c,hc,hr,rfl,rfl,rfl⟩ ?_
 rintro m vs L - ⟨d,hd,hdr,hde,rfl,rfl⟩
 have hm:=cut_missing ps hs d hv hd hdr
 have ho:=Own.miss ps d
 have hvw:Vws [(b,.row 3 1 (d.map ai) cap)] [aTr ps,.ls b 1 0 c.length cap] [aTr ps,aInts d]:=Vws.cons (.refl _) (Vws.cons (Vw.ofLs (if_pos rfl) (by rw[List.length_map];omega)) .nil)
 simp only[go_sem]
 refine Wk ?_
 cases h:missF ps d with
 | none =>
  rw[closeF_none h] at hde
  unfold aMiss at hm ho
  rw[h] at hm ho
  refine(PC.view hvw hm ho ?_).val
  simp only[go_sem]
  intro b9 g1 b10 g2 g3
  have n1:¬b9=b10:=by omega
  have n2:¬b10=b9:=by omega
  have n3:¬b=b9:=by omega
  have n4:¬b=b10:=by omega
  have n5:¬b9=b:=by omega
  have n6:¬b10=b:=by omega
  simp only[go_sem,n1,n2,n3,n4,n5,n6]
  refine W6 n1 n2 n3 n4 n5 n6 ?_
  refine ret_view [true] ?_;simp only[go_sem]
  rw[← hde]
  exact .mkTup (Vws.cons (Vw.ofLs (if_pos rfl) (by rw[List.length_map];omega)) (Vws.refl _))
 | some x =>
  obtain⟨a1,a2,a3⟩:=miss_next hv hd hdr h
  have hst:=closeF_step hv hd hdr h
  have ht:=totC_le a1 a2
  obtain⟨_,_,_,_,q,hq,j,hj,_,_,_,hx,_⟩:=miss_inv hv hd h
  have hx1:0≤x.1.1∧x.1.1<d.length:=by rw[hx];dsimp only;omega
  unfold aMiss at hm ho
  rw[h] at hm ho
  clear hx
  obtain⟨s,r⟩:=x
  refine(PC.view hvw hm ho ?_).val
  simp only[go_sem]
  intro b9 g1 b10 g2 g3
  have n1:¬b9=b10:=by omega
  have n2:¬b10=b9:=by omega
  have n3:¬b=b9:=by omega
  have n4:¬b=b10:=by omega
  have n5:¬b9=b:=by omega
  have n6:¬b10=b:=by omega
  simp only[go_sem,n1,n2,n3,n4,n5,n6]
  refine W6 n1 n2 n3 n4 n5 n6 ?_
  refine(cut_Close1 d s r b c.length cap (by omega) hx1.1 hx1.2).val.mono ?_
  rintro r L rfl
  simp only[go_sem]
  refine Wk ?_
  exact⟨_,List.Sublist.refl _,_,by omega,_,a1,a2,by rw[← hst,hde],rfl,rfl⟩
theorem cut_Close (ps:List Pr) (hs:Sm ps) (hv:validF ps=true) (c:List Int) (hc:c.length=ps.length) (hr:inRangeF ps c=true) :
  PC Proofs.Tryz.prog 42 [aTr ps,aInts c] (.tup [aInts (closeF ps c),ai 0]):=by
 have h:=cut_repaired ps hs hv c hc hr
 refine PC.enter 11 [.tmp 4,.tmp 5] [2] Proofs.Tryz.func42 rfl rfl rfl rfl rfl (by simp) (AWp.of ?_);simp only[go_sem]
 refine Wk ?_
 refine Sd ?_
 refine(h).val.use ?_;simp only[go_sem]
 refine Wk ?_
 refine ret_eq ?_;simp only[go_sem]
theorem stC_ok {ps:List Pr} {p:Nat} {k:Int} (hp:p<ps.length) (h0:0≤k) (hk:k≤ps[p].evs.length):(stC ps.length p k).length=ps.length∧inRangeF ps (stC ps.length p k)=true:=by
 have hl:(stC ps.length p k).length=ps.length:=by unfold stC;rw[List.length_set,List.length_replicate]
 refine⟨hl,?_⟩
 rw[inRange_iff hl]
 intro q hq
 unfold cAt stC
 rw[Int.toNat_natCast,getD_set0]
 split
 ·rename_i e;obtain⟨rfl,_⟩:=e;omega
 ·rw[List.getD_eq_getElem?_getD,List.getElem?_replicate,if_pos hq]
  exact⟨Int.le_refl 0,by simp⟩
theorem stC_len (n p:Nat) (k:Int):(stC n p k).length=n:=by unfold stC;rw[List.length_set,List.length_replicate]
def lclAt (z:Int→Pd→Int) (ts:List Pd) (p:Nat):Int:=match ts[p]? with|some t=>z p t|none=>0
noncomputable def conF (ps:List Pr) (ts:List Pd):Int :=
 if validF ps=true∧ts.length=ps.length then match (List.range ts.length).find? (fun p=>decide (lclAt (fun p t=>lclF ps p 0 t) ts p ≠ 0)) with|some p=>lclAt (fun p t=>lclF ps p 0 t) ts p|none=>0 else 1
theorem AWp.only {C:Cfg} {cd:Code} {Q:AQ} {ρ:Env} {L:AHeap} (ks:List Nat) (h:AWp C cd Q (ks.zip (ks.map (get ρ))) L):AWp C cd Q ρ L :=
 AWp.st (fun w0 M A0 a w hh=>st_forget hh (get_zip ks ρ)) h
theorem Vw.mkRp {L:AHeap} {xs xs':List AV} {k i j:Nat} (h:Vws L xs xs'):Vw L (.rp k xs i j) (.rp k xs' i j):=.rp h.1 h.2
structure SatD (ps:List Pr) (E:Elim) (d:List Int):Prop where
 len:d.length=ps.length
 rng:inRangeF ps d=true
 clo:closedF ps d=true
 ok:∀p,p<ps.length→E.ok p (cAt d p).toNat=true
theorem stC_cAt {n p q:Nat} {k:Int} (hq:q<n):cAt (stC n p k) q=if p=q then k else 0:=by
 rw[cAt_nat (by rw[stC_len];exact hq)]
 unfold stC
 rw[List.getElem_set,List.getElem_replicate]
theorem need_le {ps:List Pr} (hv:validF ps=true) {d:List Int} (hd:d.length=ps.length) (hr:inRangeF ps d=true) (hcl:closedF ps d=true) {q k:Nat} (hq:q<ps.length) (hk:(k:Int)≤cAt d q):∀p,p<ps.length→cAt (closeF ps (stC ps.length q k)) p≤cAt d p:=by
 have h0:=(inRange_iff hd).1 hr
 obtain⟨a1,a2⟩:=stC_ok (k:=(k:Int)) hq (by omega) (by have:=(h0 q hq).2;omega)
 refine closeF_least hv hd hcl a1 a2 fun p hp => ?_
 rw[stC_cAt hp]
 split
 ·rename_i e;subst e;exact hk
 ·exact(h0 p hp).1
section
variable {ps:List Pr} {E:Elim}
end
open Classical in
noncomputable def anc (ps:List Pr) (x:Eid):Nat:=(evIds ps).countP fun e=>decide (Reach ps e.1 x)
theorem setc_cAt {d:List Int} {p q:Nat} {z:Int} (hq:q<d.length):cAt (d.set p z) q=if p=q then z else cAt d q:=by
 rw[cAt_nat (by rw[List.length_set];exact hq),List.getElem_set]
 split
 ·rfl
 ·rw[cAt_nat hq]
def isF (ps:List Pr) (c:List Int):Bool:=(decide (c.length=ps.length) && inRangeF ps c) && closedF ps c
theorem isF_iff {ps:List Pr} {c:List Int} : isF ps c=true↔c.length=ps.length∧inRangeF ps c=true∧closedF ps c=true:=by
 unfold isF
 rw[Bool.and_eq_true,Bool.and_eq_true,decide_eq_true_eq,and_assoc]
def stpC (c:List Int) (p:Nat):List Int:=c.set p (cAt c p+1)
def nx1 (ps:List Pr) (c:List Int) (p:Nat):List (List Int):=if cAt c p<nev ps p∧isF ps (stpC c p)=true then [stpC c p] else []
def nextT (ps:List Pr) (c:List Int) (k:Nat):List (List Int):=(List.range k).flatMap (nx1 ps c)
def nextL (ps:List Pr) (c:List Int):List (List Int):=nextT ps c c.length
def lexF:List Int→List Int→Bool
 | a :: x,b :: y=>if a=b then lexF x y else decide (a<b)
 | _,_=>false
def befF (a b:List Int):Bool:=if a.sum=b.sum then lexF a b else decide (a.sum<b.sum)
def insF (l:List (List Int)) (c:List Int):List (List Int):=if (l.dropWhile fun x=>befF x c).head?=some c then l else (l.takeWhile fun x=>befF x c) ++ c :: l.dropWhile fun x=>befF x c
def insL (acc l:List (List Int)):List (List Int):=l.foldl insF acc
def moreT (ps:List Pr) (lv:List (List Int)):List (List Int):=lv.foldl (fun acc c=>insL acc (nextL ps c)) []
def levF (ps:List Pr):Nat→List (List Int)
 | 0=>[List.replicate ps.length 0]
 | k+1=>moreT ps (levF ps k)
theorem sum_stpC {c:List Int} {p:Nat} (hp:p<c.length):(stpC c p).sum=c.sum+1:=by
 unfold stpC
 have h:=sum_set c p (cAt c p+1) hp
 have e:cAt c p=c.getD p 0:=by unfold cAt;simp
 rw[h,e];omega
theorem isF_nonneg {ps:List Pr} {c:List Int} (h:isF ps c=true):∀z ∈ c,0≤z:=fun z hz=>by
 obtain⟨h1,h2,_⟩:=isF_iff.1 h
 obtain⟨p,hp,rfl⟩:=List.getElem_of_mem hz
 have:=((inRange_iff h1).1 h2 p (by omega)).1
 rwa [cAt_nat hp] at this
theorem isF_zero {ps:List Pr} : isF ps (List.replicate ps.length 0)=true:=by
 have e:∀q:Int,cAt (List.replicate ps.length 0) q=0:=fun q=>by
  unfold cAt
  rw[List.getD_eq_getElem?_getD,List.getElem?_replicate]
  split <;> rfl
 have hl:(List.replicate ps.length (0:Int)).length=ps.length:=List.length_replicate
 refine isF_iff.2 ⟨hl,(inRange_iff hl).2 fun p hp => ?_,closed_iff.2 fun p hp i hi hk hle => ?_⟩
 ·rw[e];omega
 ·rw[e] at hle;omega
theorem sum_totC:∀ {c:List Int},(∀z ∈ c,0≤z)→c.sum=totC c
 | [],_=>rfl
 | a :: c,h=>by
  have h0:=h a List.mem_cons_self
  have:=sum_totC (c:=c) fun z hz=>h z (List.mem_cons_of_mem _ hz)
  unfold totC at *
  rw[List.sum_cons,List.map_cons,List.sum_cons,this]
  omega
theorem sum_le_off {ps:List Pr} {c:List Int} (h:isF ps c=true):c.sum≤off ps ps.length:=by
 obtain⟨h1,h2,_⟩:=isF_iff.1 h
 have h3:=totC_le h1 h2
 have h4:=sum_totC (isF_nonneg h)
 omega
def cumF (ps:List Pr) (k:Nat):List (List Int):=(List.range k).flatMap (levF ps)
def cutsF (ps:List Pr):List (List Int):=cumF ps (off ps ps.length+1)
end Go.AL
end
section
namespace Go.AL
open Go Go.RowKit
set_option maxRecDepth 4000
end Go.AL
end
section
namespace Go.AL
open Go Go.RowKit Go.Sort Go.Proofs Go.Shelf
set_option maxRecDepth 4000
theorem bits_zero:PC Proofs.Tryz.prog 97 [.v (.int .u64 0)] (ai 0):=by
 refine PC.same (vs:=[.int .u64 0]) (enters_of Proofs.Tryz.func97 rfl rfl) (fun w A us h => ?_) fun w => ?_
 ·obtain⟨u,us,rfl,h1,h2⟩:=h.inv_cons
  obtain rfl:=h2.inv_nil
  rw[h1.inv_v]
 ·have L:=sortRows
  have h:=Any.bits_Len (SlLaysF0.n15.bits (P:=Proofs.Tryz.prog) (ρ:=sortRows_ren) { L with }) 0 w (by omega) (by omega)
  exact h
theorem insert_nil (g:FuncId):PC Proofs.Tryz.prog 141 [anil,ai 0,ai 0,.v (.func (.func g) #[] #[])] (.tup []):=by
 refine PC.enter 53 [] [] Proofs.Tryz.func141 rfl rfl rfl rfl rfl (by simp) (AWp.of ?_);simp only[go_sem]
 refine Wk ?_
 refine AWp.block (AWp.loopN [8] [0,1,2,3] (fun _ vs L=>L=[]∧vs=[ai 1]) 0 ⟨rfl,rfl⟩ ?_)
 rintro m vs L - ⟨rfl,rfl⟩
 simp only[go_sem]
 refine Wk ?_
 intro _
 refine ret_eq ?_;simp only[go_sem]
theorem pdq_nil (g:FuncId):PC Proofs.Tryz.prog 96 [anil,ai 0,ai 0,ai 0,.v (.func (.func g) #[] #[])] (.tup []):=by
 refine PC.enter 148 [] [] Proofs.Tryz.func96 rfl rfl rfl rfl rfl (by simp) (AWp.of ?_);simp only[go_sem]
 refine Wk ?_
 refine AWp.block (AWp.loopN [1,2,3,10,11] [0,4] (fun _ vs L=>L=[]∧vs=[ai 0,ai 0,ai 0,ab true,ab true]) 0 ⟨rfl,rfl⟩ ?_)
 rintro m vs L - ⟨rfl,rfl⟩
 simp only[go_sem]
 refine Wk ?_
 refine⟨fun h => ?_,fun h => ?_⟩
 ·refine Wk ?_
  refine Sd ?_
  refine(insert_nil g).val.use ?_;simp only[go_sem]
  refine Wk ?_
  refine ret_eq ?_;simp only[go_sem]
 ·exact absurd (by omega) h
theorem sort_nil (g:FuncId):PC Proofs.Tryz.prog 49 [anil,.v (.func (.func g) #[] #[])] (.tup []):=by
 refine PC.enter 14 [] [] Proofs.Tryz.func49 rfl rfl rfl rfl rfl (by simp) (AWp.of ?_);simp only[go_sem]
 refine Wk ?_
 refine Sd ?_
 refine(bits_zero).val.use ?_;simp only[go_sem]
 refine Wk ?_
 refine Sd ?_
 refine(pdq_nil g).val.use ?_;simp only[go_sem]
 refine Wk ?_
 refine ret_eq ?_;simp only[go_sem]
end Go.AL
end
section
namespace Go.AL
open Go Go.RowKit
set_option maxRecDepth 4000
theorem AppSt.snoc {t:TypeId} {k:Nat} {ys:List AV} {x:AV} (b cap n:Nat) (hn:n=ys.length+1):AppSt t k (ys ++ [x]) (.ls b k 0 n cap) [(b,.row t k (ys ++ [x]) cap)]:=by
 subst hn
 have:=AppSt.row (t:=t) (k:=k) b (ys ++ [x]) cap
 rwa [List.length_append] at this
theorem cAt_stp {c:List Int} {p q:Nat} (hq:q<c.length):cAt (stpC c p) q=if p=q then cAt c q+1 else cAt c q:=by
 unfold stpC
 rw[setc_cAt hq]
 split
 ·rename_i e;rw[e]
 ·rfl
def rdyF (ps:List Pr) (c:List Int) (p:Nat):Bool:=decide (cAt c p<nev ps p∧isF ps (stpC c p)=true)
theorem Vw.ofLs' {L:AHeap} {b k len c:Nat} {t:TypeId} {xs xs':List AV} {cap:Nat} (h:lk L b=some (.row t k xs cap)) (hl:len=xs.length) (hv:Vws L xs xs'):Vw L (.ls b k 0 len c) (.sl k xs'):=by
 subst hl
 exact .ls h (by omega) (by rw[List.drop_zero,List.take_length];exact hv.1) (by rw[List.drop_zero,List.take_length];exact hv.2)
def asg20 (e:Ev):Bool:=decide (20<(e.asg.length:Int))
theorem off_small {ps:List Pr} (hs:Sm ps):∀k,k≤ps.length→off ps k≤k * 1000000:=by
 intro k
 induction k with
 | zero=>intro _;simp [off]
 | succ k ih =>
  intro hk
  rw[off_succ (by omega)]
  have h1:=ih (by omega)
  have h2:=hs.evs _ (List.getElem_mem (show k<ps.length by omega))
  omega
theorem Vw.pre {L:AHeap} {b k n c:Nat} {t:TypeId} {xs ys:List AV} {cap:Nat} (h:lk L b=some (.row t k xs cap)) (hn:n≤xs.length) (ht:xs.take n=ys):Vw L (.ls b k 0 n c) (.sl k ys) :=
 .ls h (by omega) (by rw[List.drop_zero,ht]) (by rw[List.drop_zero,ht];exact(Vws.refl ys).2)
def fullC (ps:List Pr):List Int:=ps.map fun x=>(x.evs.length:Int)
end Go.AL
end
section
namespace Go.AL
open Go Go.RowKit
def addW (a b:Int):Int:=IntKind.i64.wrap (a+b)
def aAddW (C:Cfg) (o:Oper) (x y:AV) (ρ:Env) (L:AHeap) (K:ARes):Prop :=
 match x,y with
 | .v (.int .i64 a),.v (.int .i64 b)=>K (put ρ o.dst (ai (addW a b))) L
 | _,_=>False
def aopW (C:Cfg) (o:Oper) (ρ:Env) (L:AHeap) (K:ARes):Prop :=
 match o.op with
 | .binOp .add _ x y _=>aAddW C o (ev ρ x) (ev ρ y) ρ L K
 | _=>aop C o ρ L K
theorem aopW_sound {C:Cfg} {o:Oper} {ρ:Env} {L:AHeap} {K:ARes} (hd:dstOk C o) (hdef:∀c,o.op ≠ .defer c) (h:aopW C o ρ L K):AOp C o ρ L K:=by
 unfold aopW at h
 split at h
 ·rename_i t x y t' hop
  unfold aAddW at h
  split at h
  ·rename_i a b hx hy
   refine AOp.val hd hdef (fun ac w A hρ hL=>⟨.int .i64 (addW a b),?_,.v _⟩) h
   have h1:=hρ x;rw[hx] at h1;have h1:=h1.inv_v
   have h2:=hρ y;rw[hy] at h2;have h2:=h2.inv_v
   unfold execOp
   rw[hop]
   simp [h1,h2,binOp,eqGuard,Op.intArith,addW]
  ·exact h.elim
 ·exact aop_sound hd hdef h
def aregionW (C:Cfg):List Oper→Env→AHeap→ARes→Prop
 | [],ρ,L,K=>K ρ L
 | o :: rest,ρ,L,K=>o.guard=none∧aopW C o ρ L fun ρ L=>aregionW C rest ρ L K
def aregWK (C:Cfg) (rest:List Oper) (K:ARes) (ρ:Env) (L:AHeap):Prop:=aregionW C rest ρ L K
theorem aregionW_nil (C:Cfg) (ρ:Env) (L:AHeap) (K:ARes):aregionW C [] ρ L K=K ρ L:=rfl
theorem aregionW_cons (C:Cfg) (rest:List Oper) (o:Oper) (ρ:Env) (L:AHeap) (K:ARes):aregionW C (o :: rest) ρ L K=(o.guard=none∧aopW C o ρ L (aregWK C rest K)):=rfl
theorem aregionW_sound {C:Cfg} {ops:Array Oper} {K:ARes} {n:Nat} {w0:World} {M A0:Foot} {Q:Exit→Act→World→Prop} (hQ:∀a w,post w0 M A0 C.N K a w→Q .normal a w) (hok:ops.toList.all (operOk C.N)=true) :
  ∀(l:List Oper) (k:Nat),(∀j,l[j]?=ops[k+j]?)→∀(ρ:Env) (L:AHeap) (a:Act) (w:World),aregionW C l ρ L K→St w0 M A0 C.N ρ L a w→wpOpsIn (Fw C.r) n C.P ops Q (List.range' k l.length) a w
 | [],k,_,ρ,L,a,w,h,hs=>hQ a w ⟨ρ,L,h,hs⟩
 | o :: l,k,hl,ρ,L,a,w,h,hs=>by
  have h0:ops[k]?=some o:=by simpa using (hl 0).symm
  have ho:operOk C.N o=true:=List.all_eq_true.1 hok o (List.mem_of_getElem? (by simpa using h0))
  rw[List.length_cons,List.range'_succ,wpOpsIn_cons]
  refine wpOpIn_mono ?_ (AOp.gop h0 h.1 (aopW_sound (operOk_dst ho) (operOk_def ho) h.2) n w0 M A0 a w Q hs)
  rintro a' w' ⟨ρ',L',h1,h2⟩
  exact aregionW_sound hQ hok l (k+1) (fun j=>by have:=hl (j+1);simpa [Nat.add_assoc,Nat.add_comm 1 j] using this) ρ' L' a' w' h1 h2
theorem AWp.regionW {C:Cfg} {id:Nat} {ops:Array Oper} {Q:AQ} {ρ:Env} {L:AHeap} (h:aregionW C ops.toList ρ L (Q .normal)):AWp C (.region id ops false) Q ρ L:=fun hok n w0 M A0 a w hs=>by
 refine wpIn_region ?_
 have:=aregionW_sound (C:=C) (ops:=ops) (K:=Q .normal) (n:=n) (Q:=cq C w0 M A0 Q) (fun a w ⟨ρ',L',h1,h2⟩=>⟨ρ',L',h1,h2⟩) hok ops.toList 0 (by simp) ρ L a w h hs
 rwa [Array.length_toList,← List.range_eq_range'] at this
attribute [go_sem] aregionW_nil aregionW_cons aregWK aopW aAddW
end Go.AL
end
section
namespace Go.AL
open Go Go.RowKit
end Go.AL
end
section
namespace Go.AL
open Go Go.RowKit
def astepF (C:Cfg) (all:List Oper) (o:Oper) (ρ:Env) (L:AHeap) (K:ARes):Prop :=
 match o.guard with
 | none=>aop C o ρ L K
 | some (j,want)=>match gval all ρ j want with
  | some b=>(b=want→aop C o ρ L K)∧(b ≠ want→K (put ρ o.dst .any) L)
  | none=>False
def aregionF (C:Cfg) (all:List Oper):List Oper→Env→AHeap→ARes→Prop
 | [],ρ,L,K=>K ρ L
 | o :: rest,ρ,L,K=>astepF C all o ρ L fun ρ L=>aregionF C all rest ρ L K
def aregFK (C:Cfg) (all rest:List Oper) (K:ARes) (ρ:Env) (L:AHeap):Prop:=aregionF C all rest ρ L K
theorem aregionF_nil (C:Cfg) (all:List Oper) (ρ:Env) (L:AHeap) (K:ARes):aregionF C all [] ρ L K=K ρ L:=rfl
theorem aregionF_cons (C:Cfg) (all rest:List Oper) (o:Oper) (ρ:Env) (L:AHeap) (K:ARes):aregionF C all (o :: rest) ρ L K=astepF C all o ρ L (aregFK C all rest K):=rfl
theorem astepF_sound {C:Cfg} {ops:Array Oper} {i:Nat} {o:Oper} {ρ:Env} {L:AHeap} {K:ARes} (hi:ops[i]?=some o) (hok:operOk C.N o=true) (h:astepF C ops.toList o ρ L K):GOp C ops i ρ L K:=by
 have hd:=operOk_dst hok
 have hdef:=operOk_def hok
 unfold astepF at h
 split at h
 ·rename_i hg;exact AOp.gop hi hg (aop_sound hd hdef h)
 ·rename_i j want hg
  split at h
  ·rename_i b hv
   exact GOp.of_guard' hi hg hv hd (fun hb=>aop_sound hd hdef (h.1 hb)) h.2
  ·exact h.elim
theorem aregionF_sound {C:Cfg} {ops:Array Oper} {K:ARes} {n:Nat} {w0:World} {M A0:Foot} {Q:Exit→Act→World→Prop} (hQ:∀a w,post w0 M A0 C.N K a w→Q .normal a w) (hok:ops.toList.all (operOk C.N)=true) :
  ∀(l:List Oper) (k:Nat),(∀j,l[j]?=ops[k+j]?)→∀(ρ:Env) (L:AHeap) (a:Act) (w:World),aregionF C ops.toList l ρ L K→St w0 M A0 C.N ρ L a w→wpOpsIn (Fw C.r) n C.P ops Q (List.range' k l.length) a w
 | [],k,_,ρ,L,a,w,h,hs=>hQ a w ⟨ρ,L,h,hs⟩
 | o :: l,k,hl,ρ,L,a,w,h,hs=>by
  have h0:ops[k]?=some o:=by simpa using (hl 0).symm
  have ho:operOk C.N o=true:=List.all_eq_true.1 hok o (List.mem_of_getElem? (by simpa using h0))
  rw[List.length_cons,List.range'_succ,wpOpsIn_cons]
  refine wpOpIn_mono ?_ (astepF_sound h0 ho h n w0 M A0 a w Q hs)
  rintro a' w' ⟨ρ',L',h1,h2⟩
  exact aregionF_sound hQ hok l (k+1) (fun j=>by have:=hl (j+1);simpa [Nat.add_assoc,Nat.add_comm 1 j] using this) ρ' L' a' w' h1 h2
theorem AWp.regionF {C:Cfg} {id:Nat} {ops:Array Oper} {Q:AQ} {ρ:Env} {L:AHeap} (h:aregionF C ops.toList ops.toList ρ L (Q .normal)):AWp C (.region id ops false) Q ρ L:=fun hok n w0 M A0 a w hs=>by
 refine wpIn_region ?_
 have:=aregionF_sound (C:=C) (ops:=ops) (K:=Q .normal) (n:=n) (Q:=cq C w0 M A0 Q) (fun a w ⟨ρ',L',h1,h2⟩=>⟨ρ',L',h1,h2⟩) hok ops.toList 0 (by simp) ρ L a w h hs
 rwa [Array.length_toList,← List.range_eq_range'] at this
attribute [go_sem] aregionF_nil aregionF_cons astepF aregFK
end Go.AL
end
section
namespace Go.AL
open Go Go.RowKit
set_option maxRecDepth 4000
section
variable {ps:List Pr} {ts:List Pd}
end
def leqF (a b:List Int):Bool:=decide (a.length=b.length) && (List.range a.length).all fun i=>decide (a.getD i 0≤b.getD i 0)
theorem leqF_ne {a b:List Int} (h:¬a.length=b.length):leqF a b=false:=by unfold leqF;rw[decide_eq_false h];rfl
theorem leqF_no {a b:List Int} {i:Nat} (hi:i<a.length) (h:b.getD i 0<a.getD i 0):leqF a b=false:=by
 unfold leqF
 rw[List.all_eq_false.2 ⟨i,List.mem_range.2 hi,by simpa using h⟩,Bool.and_false]
theorem leqF_yes {a b:List Int} (hl:a.length=b.length) (h:∀i,i<a.length→a.getD i 0≤b.getD i 0):leqF a b=true:=by
 unfold leqF
 rw[decide_eq_true hl,Bool.true_and,List.all_eq_true]
 exact fun i hi=>decide_eq_true (h i (List.mem_range.1 hi))
theorem leqF_iff {a b:List Int} : leqF a b=true↔a.length=b.length∧∀i,i<a.length→a.getD i 0≤b.getD i 0:=by
 unfold leqF
 rw[Bool.and_eq_true,List.all_eq_true,decide_eq_true_eq]
 exact⟨fun h=>⟨h.1,fun i hi=>of_decide_eq_true (h.2 i (List.mem_range.2 hi))⟩,fun h=>⟨h.1,fun i hi=>decide_eq_true (h.2 i (List.mem_range.1 hi))⟩⟩
theorem getD_ai2 {x:List Int} {i:Nat} (hi:i<x.length):(x.map ai).getD i .any=ai (x.getD i 0):=by
 rw[getD_map hi,List.getD_eq_getElem?_getD,List.getElem?_eq_getElem hi];rfl
theorem cut_Leq (a b:List Int) (ha:a.length≤1000000):PC Proofs.Tryz.prog 9 [aInts a,aInts b] (ab (leqF a b)):=by
 by_cases hl:a.length=b.length
 ·have hli:(a.length:Int)=b.length:=by omega
  have hno:=fun i hi h=>leqF_no (a:=a) (b:=b) (i:=i) hi h
  have hyes:=leqF_yes hl
  generalize leqF a b=B at *
  refine PC.enter 26 [.tmp 4] [] Proofs.Tryz.func9 rfl rfl rfl rfl rfl (by simp) (AWp.of ?_);simp only[go_sem]
  refine W1 hli ?_
  refine AWp.range' b.length [] [0,1,12] (fun i vs L=>L=[]∧∀j,j<i→a.getD j 0≤b.getD j 0) (by omega) rfl rfl rfl ⟨rfl,fun j h=>by omega⟩ ?_ ?_
  ·rintro i vs L hi - ⟨rfl,hJ⟩
   have ga:=getD_ai2 (show i<a.length by omega)
   have gb:=getD_ai2 hi
   have hno:=hno i (by omega)
   simp only[go_sem]
   refine Wk ?_
   refine AWp.seq ?_
   repeat(first|(with_reducible refine AWp.seq ?_)|(with_reducible refine AWp.block ?_))
   refine AWp.mix mixed [0,1,2,3,4,5,6,7,8] .done (by kernel_rfl) ?_;simp only[go_sem,ga,gb,hli]
   refine Sd ?_
   refine Wk ?_
   refine⟨fun h1 => ?_,fun h1 => ?_⟩
   ·refine Wk ?_
    refine ret_eq ?_;simp only[go_sem]
    rw[hno h1]
   ·refine⟨_,List.Sublist.refl _,rfl,fun j hj => ?_⟩
    by_cases e:j=i
    ·subst e;omega
    ·exact hJ j (by omega)
  ·rintro vs L - ⟨rfl,hJ⟩
   simp only[go_sem]
   refine Wk ?_
   refine ret_eq ?_;simp only[go_sem]
   rw[hyes fun i hi=>hJ i (by omega)]
 ·have hli:¬(a.length:Int)=b.length:=by omega
  rw[leqF_ne hl]
  refine PC.enter 26 [.tmp 4] [] Proofs.Tryz.func9 rfl rfl rfl rfl rfl (by simp) (AWp.of ?_);simp only[go_sem]
  refine W1 hli ?_
  refine ret_eq ?_;simp only[go_sem]
def OwnS (xs:List (List Int)) (v:AV) (L:AHeap):Prop :=
 (xs=[]∧v=anil∧L=[])∨∃b cap ws,v = .ls b 1 0 xs.length cap∧L=[(b,.row 30 1 (xs.map aInts ++ ws) cap)]
theorem OwnS.fo {xs:List (List Int)} {v:AV} {L:AHeap} (h:OwnS xs v L):AL.fo v=(True,v):=by
 rcases h with ⟨_,rfl,_⟩|⟨b,cap,ws,rfl,_⟩ <;> rfl
section
variable {ps:List Pr} {c:List Int}
variable {j:List Int} {ch:Int→Int→Int}
end
section
variable {ps:List Pr} {c:List Int}
end
def ordL (a b:List Int):Prop:=a.sum<b.sum∨(a.sum=b.sum∧cmpL a b<0)
theorem isF_given {ps:List Pr} (hv:validF ps=true) {c:List Int} : givenF ps [c] []=0↔isF ps c=true:=by
 rw[givenL,isF_iff];simp [hv,and_assoc]
theorem leq_iff_at {a b:List Int} : leqF a b=true↔a.length=b.length∧∀p:Nat,p<a.length→cAt a p≤cAt b p:=leqF_iff
theorem leq_sum:∀ {a b:List Int},leqF a b=true→a.sum≤b.sum∧(a.sum=b.sum→a=b)
 | [],[],_=>⟨Int.le_refl _,fun _=>rfl⟩
 | [],_ :: _,h=>by have:=(leqF_iff.1 h).1;simp at this
 | _ :: _,[],h=>by have:=(leqF_iff.1 h).1;simp at this
 | x :: a,y :: b,h=>by
  obtain⟨h1,h2⟩:=leqF_iff.1 h
  have h0:x≤y:=by simpa using h2 0 (by simp)
  obtain⟨i1,i2⟩:=leq_sum (a:=a) (b:=b) (leqF_iff.2 ⟨by simpa using h1,fun i hi=>by have:=h2 (i+1) (by simpa using hi);simpa using this⟩)
  rw[List.sum_cons,List.sum_cons]
  refine⟨by omega,fun h => ?_⟩
  rw[i2 (by omega),show x=y by omega]
section
variable {A:List (List Int)} (hA:A.Pairwise ordL)
include hA
end
theorem rdy_is {ps:List Pr} {c:List Int} {p:Nat} (h:rdyF ps c p=true):isF ps (stpC c p)=true:=(of_decide_eq_true h).2
theorem stp_len (c:List Int) (p:Nat):(stpC c p).length=c.length:=by unfold stpC;rw[List.length_set]
section
variable {ps:List Pr} (hv:validF ps=true)
include hv
end
def stepG (a b:List Int):Nat→Option Int
 | 0=>some (-1)
 | k+1=>match stepG a b k with
  | none=>none
  | some p=>if cAt a k=cAt b k then some p else if 0≤p∨¬cAt b k=cAt a k+1 then none else some k
def stepF (a b:List Int):Int:=if a.length=b.length then (stepG a b a.length).getD (-1) else -1
theorem stepG_some {a b:List Int} : ∀ {k:Nat} {z:Int},stepG a b k=some z↔(z = -1∧∀i:Nat,i<k→cAt a i=cAt b i)∨∃q:Nat,q<k∧z=q∧cAt b q=cAt a q+1∧∀i:Nat,i<k→i ≠ q→cAt a i=cAt b i
 | 0,z=>by
  constructor
  ·intro h;exact .inl ⟨(Option.some.inj h).symm,fun i hi=>by omega⟩
  ·rintro(⟨h,_⟩|⟨q,h,_⟩)
   ·rw[h];rfl
   ·omega
 | k+1,z=>by
  have e:stepG a b (k+1)=match stepG a b k with
   | none=>none
   | some p=>if cAt a k=cAt b k then some p else if 0≤p∨¬cAt b k=cAt a k+1 then none else some k:=rfl
  rw[e]
  constructor
  ·intro h
   cases hs:stepG a b k with
   | none=>rw[hs] at h;cases h
   | some p =>
    rw[hs] at h
    simp only at h
    have ih:=stepG_some.1 hs
    by_cases h1:cAt a k=cAt b k
    ·rw[if_pos h1] at h
     cases h
     rcases ih with ⟨i1,i2⟩|⟨q,i1,i2,i3,i4⟩
     ·exact .inl ⟨i1,fun i hi=>by
       by_cases e:i=k
       ·subst e;exact h1
       ·exact i2 i (by omega)⟩
     ·exact .inr ⟨q,by omega,i2,i3,fun i hi hn=>by
       by_cases e:i=k
       ·subst e;exact h1
       ·exact i4 i (by omega) hn⟩
    ·rw[if_neg h1] at h
     split at h
     ·cases h
     ·rename_i h2
      cases h
      rcases ih with ⟨i1,i2⟩|⟨q,i1,i2,i3,i4⟩
      ·refine .inr ⟨k,by omega,rfl,?_,fun i hi hn=>i2 i (by omega)⟩
       apply Classical.byContradiction;intro h3;exact h2 (.inr h3)
      ·exact absurd (.inl (by omega)) h2
  ·rintro(⟨i1,i2⟩|⟨q,i1,i2,i3,i4⟩)
   ·rw[stepG_some.2 (.inl ⟨i1,fun i hi=>i2 i (by omega)⟩)]
    simp only
    rw[if_pos (i2 k (by omega))]
   ·by_cases e:q=k
    ·subst e
     rw[stepG_some.2 (.inl ⟨rfl,fun i hi=>i4 i (by omega) (by omega)⟩)]
     simp only
     rw[if_neg (by omega),if_neg (by omega),i2]
    ·rw[stepG_some.2 (.inr ⟨q,by omega,i2,i3,fun i hi hn=>i4 i (by omega) hn⟩)]
     simp only
     rw[if_pos (i4 k (by omega) (by omega))]
theorem stepF_iff {a b:List Int} {q:Nat} : stepF a b=q↔q<a.length∧b=stpC a q:=by
 unfold stepF
 constructor
 ·intro h
  split at h
  ·rename_i hl
   cases hs:stepG a b a.length with
   | none=>rw[hs] at h;simp at h
   | some z =>
    rw[hs] at h
    simp only[Option.getD_some] at h
    subst h
    rcases stepG_some.1 hs with ⟨i1,_⟩|⟨p,i1,i2,i3,i4⟩
    ·omega
    ·have:p=q:=by omega
     subst this
     refine⟨i1,?_⟩
     apply List.ext_getElem (by rw[stp_len];omega)
     intro i g1 g2
     rw[← cAt_nat g1,← cAt_nat g2,cAt_stp (by omega)]
     split
     ·rename_i e;subst e;exact i3
     ·rename_i e;exact(i4 i (by omega) fun h=>e h.symm).symm
  ·omega
 ·rintro⟨hq,rfl⟩
  rw[if_pos (stp_len a q).symm,stepG_some.2 (.inr ⟨q,hq,rfl,?_,?_⟩)]
  ·rfl
  ·rw[cAt_stp hq,if_pos rfl]
  ·intro i hi hn
   rw[cAt_stp hi,if_neg (fun e=>hn e.symm)]
theorem stepF_range (a b:List Int):stepF a b = -1∨∃q:Nat,stepF a b=q:=by
 unfold stepF
 split
 ·cases hs:stepG a b a.length with
  | none=>exact .inl rfl
  | some z =>
   rcases stepG_some.1 hs with ⟨i1,_⟩|⟨p,_,i2,_⟩
   ·exact .inl i1
   ·exact .inr ⟨p,i2⟩
 ·exact .inl rfl
def stpP (ps:List Pr) (a b:List Int):Option Nat:=(List.range ps.length).find? fun p=>rdyF ps a p && decide (b=stpC a p)
theorem stpC_inj {a:List Int} {p q:Nat} (hp:p<a.length) (hq:q<a.length) (h:stpC a p=stpC a q):p=q:=by
 have h1:cAt (stpC a p) p=cAt (stpC a q) p:=by rw[h]
 rw[cAt_stp hp,cAt_stp hp,if_pos rfl] at h1
 split at h1
 ·rename_i e;exact e.symm
 ·omega
theorem stpP_some {ps:List Pr} {a b:List Int} (ha:a.length=ps.length) {p:Nat} : stpP ps a b=some p↔p<ps.length∧rdyF ps a p=true∧b=stpC a p:=by
 constructor
 ·intro h
  have h1:=List.find?_some h
  have h2:=List.mem_of_find?_eq_some h
  rw[Bool.and_eq_true,decide_eq_true_eq] at h1
  exact⟨List.mem_range.1 h2,h1.1,h1.2⟩
 ·rintro⟨h1,h2,h3⟩
  cases hf:stpP ps a b with
  | none =>
   have:=List.find?_eq_none.1 hf p (List.mem_range.2 h1)
   rw[h2,decide_eq_true h3] at this
   simp at this
  | some q =>
   have g1:=List.find?_some hf
   have g2:=List.mem_range.1 (List.mem_of_find?_eq_some hf)
   rw[Bool.and_eq_true,decide_eq_true_eq] at g1
   rw[stpC_inj (a:=a) (by omega) (by omega) (g1.2.symm.trans h3)]
theorem stpP_step {ps:List Pr} {a b:List Int} (ha:isF ps a=true):stpP ps a b=if isF ps b=true∧0≤stepF a b then some (stepF a b).toNat else none:=by
 have hl:=(isF_iff.1 ha).1
 split
 ·rename_i h
  rcases stepF_range a b with e|⟨q,e⟩
  ·rw[e] at h;exact absurd h.2 (by decide)
  ·rw[e]
   obtain⟨h1,h2⟩:=stepF_iff.1 e
   refine(stpP_some hl).2 ⟨by omega,?_,h2⟩
   have e2:((q:Int)).toNat=q:=by omega
   rw[e2]
   unfold rdyF
   rw[decide_eq_true_eq,← h2]
   refine⟨?_,h.1⟩
   obtain⟨bl,br,_⟩:=isF_iff.1 h.1
   have:=(inRange_iff bl).1 br q (by omega)
   have e3:cAt b q=cAt a q+1:=by rw[h2,cAt_stp h1,if_pos rfl]
   rw[nev_get (by omega)];omega
 ·rename_i h
  cases hf:stpP ps a b with
  | none=>rfl
  | some p =>
   obtain⟨g1,g2,g3⟩:=(stpP_some hl).1 hf
   exact absurd ⟨by rw[g3];exact rdy_is g2,by rw[stepF_iff.2 ⟨by omega,g3⟩];omega⟩ h
def zeroC (ps:List Pr):List Int:=List.replicate ps.length 0
def chnF (ps:List Pr):List Int→List (List Int)→Bool
 | _,[]=>true
 | a,b :: r=>(isF ps b && decide (0≤stepF a b)) && chnF ps b r
def isRunF (ps:List Pr):List (List Int)→Bool
 | []=>false
 | a :: r=>decide (a=zeroC ps∧(a :: r).getLast?=some (fullC ps)) && chnF ps a r
theorem zeroC_is (ps:List Pr):isF ps (zeroC ps)=true:=isF_zero
section
variable {ps:List Pr} (hv:validF ps=true) {l:List (List Int)} (hl:l=cutsF ps)
include hv hl
end
def ptF (ps:List Pr) (p i:Nat):List Int:=closeF ps (stC ps.length p ((i:Int)+1))
section
variable {ps:List Pr} (hv:validF ps=true) {p:Nat} (hp:p<ps.length) {i:Nat} (hi:i<ps[p].evs.length)
include hv hp hi
theorem pt_is:isF ps (ptF ps p i)=true:=by
 obtain⟨a1,a2⟩:=stC_ok (k:=(i:Int)+1) hp (by omega) (by omega)
 obtain⟨b1,b2,_⟩:=closeF_ok hv a1 a2
 exact isF_iff.2 ⟨b1,b2,closeF_closed hv a1 a2⟩
theorem pt_has:(i:Int)+1≤cAt (ptF ps p i) p:=by
 obtain⟨a1,a2⟩:=stC_ok (k:=(i:Int)+1) hp (by omega) (by omega)
 have:=closeF_ge hv a1 a2 p hp
 rw[stC_cAt hp,if_pos rfl] at this
 exact this
end
theorem pt_least {ps:List Pr} (hv:validF ps=true) {p:Nat} (hp:p<ps.length) {i:Nat} {d:List Int} (hd:isF ps d=true) (h:(i:Int)+1≤cAt d p):∀q,q<ps.length→cAt (ptF ps p i) q≤cAt d q:=by
 obtain⟨d1,d2,d3⟩:=isF_iff.1 hd
 have:=need_le hv d1 d2 d3 (q:=p) (k:=i+1) hp (by omega)
 have e:(((i+1:Nat):Nat):Int)=(i:Int)+1:=by omega
 rw[e] at this
 exact this
theorem chn_cons {ps:List Pr} {a b:List Int} {r:List (List Int)} (ha:isF ps a=true):chnF ps a (b :: r)=true↔∃q:Nat,q<ps.length∧rdyF ps a q=true∧b=stpC a q∧stepF a b=q∧chnF ps b r=true:=by
 have hl:=(isF_iff.1 ha).1
 have e:chnF ps a (b :: r)=((isF ps b && decide (0≤stepF a b)) && chnF ps b r):=rfl
 rw[e,Bool.and_eq_true,Bool.and_eq_true,decide_eq_true_eq]
 constructor
 ·rintro⟨⟨h1,h2⟩,h3⟩
  have h4:=stpP_step (b:=b) ha
  rw[if_pos ⟨h1,h2⟩] at h4
  obtain⟨g1,g2,g3⟩:=(stpP_some hl).1 h4
  exact⟨_,g1,g2,g3,by omega,h3⟩
 ·rintro⟨q,h1,h2,h3,h4,h5⟩
  exact⟨⟨by rw[h3];exact rdy_is h2,by omega⟩,h5⟩
theorem isrun_mk {ps:List Pr} {R:List (List Int)} (h:chnF ps (zeroC ps) R=true) (hl:(zeroC ps :: R).getLast?=some (fullC ps)):isRunF ps (zeroC ps :: R)=true:=by
 show (decide (zeroC ps=zeroC ps∧(zeroC ps :: R).getLast?=some (fullC ps)) && chnF ps (zeroC ps) R)=true
 rw[decide_eq_true ⟨rfl,hl⟩,h];rfl
theorem chn_app {ps:List Pr} : ∀ {R S:List (List Int)} {c d:List Int},(c :: R).getLast?=some d→chnF ps c R=true→chnF ps d S=true→chnF ps c (R ++ S)=true
 | [],S,c,d,h,_,h2=>by
  have:c=d:=Option.some.inj h
  subst this;exact h2
 | b :: R,S,c,d,h,h1,h2=>by
  have e:chnF ps c (b :: R)=((isF ps b && decide (0≤stepF c b)) && chnF ps b R):=rfl
  have e2:chnF ps c (b :: R ++ S)=((isF ps b && decide (0≤stepF c b)) && chnF ps b (R ++ S)):=rfl
  rw[e,Bool.and_eq_true] at h1
  rw[e2,h1.1,Bool.true_and]
  rw[List.getLast?_cons_cons] at h
  exact chn_app h h1.2 h2
end Go.AL
end
section
namespace Go.AL
open Go Go.RowKit
theorem fits_str (s:ByteArray):(KK.sc .str).fits (.string s)=true:=rfl
attribute [go_sem] fits_str
structure MpS (ks:List Value) (vs:List AV) (z:AV) (f:ByteArray→AV):Prop where
 fits:ks.all (KK.sc .str).fits=true
 len:vs.length=ks.length
 get:∀s,mget (.string s) ks vs z=f s
theorem MpS.nil (z:AV):MpS [] [] z fun _=>z:=⟨rfl,rfl,fun _=>rfl⟩
theorem mfind_lt {k:Value} : ∀ {ks:List Value} {i:Nat},mfind k ks=some i→i<ks.length
 | [],_,h=>by cases h
 | k' :: r,i,h=>by
  unfold mfind at h
  split at h
  ·cases h;simp
  ·split at h
   ·rename_i j hj;cases h;have:=mfind_lt hj;simp;omega
   ·cases h
theorem seqB_dec' (a b:ByteArray):seqB a b=decide (a=b):=seqB_dec a b
theorem keyB_str {s:ByteArray} {k:Value} (hk:(KK.sc .str).fits k=true):keyB (.string s) k=true↔k = .string s:=by
 have:=vfits_inv (k:=.str) (a:=k) hk
 cases this with
 | str t =>
  show seqB s t=true↔_
  rw[seqB_dec',decide_eq_true_eq]
  exact⟨fun h=>by rw[h],fun h=>by cases h;rfl⟩
theorem mfind_str {s:ByteArray} : ∀ {ks:List Value} (_:ks.all (KK.sc .str).fits=true) {i:Nat},mfind (.string s) ks=some i→ks[i]?=some (.string s)
 | [],_,_,h=>by cases h
 | k' :: r,hf,i,h=>by
  rw[List.all_cons,Bool.and_eq_true] at hf
  unfold mfind at h
  split at h
  ·rename_i hk;cases h;rw[(keyB_str hf.1).1 hk];rfl
  ·split at h
   ·rename_i j hj;cases h;exact mfind_str hf.2 hj
   ·cases h
theorem mfind_app {s t:ByteArray} : ∀ {ks:List Value},mfind (.string t) (ks ++ [.string s])=match mfind (.string t) ks with
  | some i=>some i
  | none=>if t=s then some ks.length else none
 | []=>by
  show (if keyB (.string t) (.string s)=true then some 0 else none)=if t=s then some 0 else none
  show (if seqB t s=true then some 0 else none)=_
  rw[seqB_dec']
  by_cases h:t=s
  ·rw[if_pos h,if_pos (decide_eq_true h)]
  ·rw[if_neg h,if_neg (by rw[decide_eq_false h];simp)]
 | k' :: r=>by
  have ih:=mfind_app (s:=s) (t:=t) (ks:=r)
  rw[List.cons_append]
  unfold mfind
  by_cases h:keyB (.string t) k'=true
  ·rw[if_pos h,if_pos h]
  ·rw[if_neg h,if_neg h,ih]
   cases hm:mfind (.string t) r with
   | some i=>rfl
   | none =>
    simp only
    by_cases e:t=s
    ·rw[if_pos e,if_pos e];simp
    ·rw[if_neg e,if_neg e]
theorem MpS.put {ks:List Value} {vs:List AV} {z:AV} {f:ByteArray→AV} (h:MpS ks vs z f) (s:ByteArray) (x:AV) :
  ∃ks' vs',mput (.string s) x ks vs = .amap ks' vs'∧MpS ks' vs' z fun t=>if t=s then x else f t:=by
 unfold mput
 cases hm:mfind (.string s) ks with
 | some i =>
  refine⟨ks,vs.set i x,rfl,h.fits,by rw[List.length_set];exact h.len,fun t => ?_⟩
  have hi:=mfind_lt hm
  have hl:=h.len
  unfold mget
  by_cases e:t=s
  ·subst e
   rw[hm,if_pos rfl]
   simp only
   rw[List.getD_eq_getElem?_getD,List.getElem?_set,if_pos rfl,if_pos (by omega)];rfl
  ·rw[if_neg e,← h.get t]
   unfold mget
   cases ht:mfind (.string t) ks with
   | none=>rfl
   | some j =>
    simp only
    have h1:=mfind_str h.fits hm
    have h2:=mfind_str h.fits ht
    have hne:i ≠ j:=fun e2=>by
     subst e2
     rw[h1] at h2
     exact e (by have:=Option.some.inj h2;injection this with h3;exact h3.symm)
    rw[List.getD_eq_getElem?_getD,List.getElem?_set_ne hne,← List.getD_eq_getElem?_getD]
 | none =>
  refine⟨ks ++ [.string s],vs ++ [x],rfl,by rw[List.all_append,h.fits];rfl,by rw[List.length_append,List.length_append,h.len];rfl,fun t => ?_⟩
  unfold mget
  rw[mfind_app]
  by_cases e:t=s
  ·subst e
   rw[hm,if_pos rfl]
   simp only
   rw[if_pos trivial,List.getD_eq_getElem?_getD,List.getElem?_append_right (by rw[h.len];exact Nat.le_refl _),h.len,Nat.sub_self];rfl
  ·rw[if_neg e,← h.get t]
   unfold mget
   cases ht:mfind (.string t) ks with
   | none=>simp only;rw[if_neg e]
   | some j =>
    have hj:=mfind_lt ht
    simp only
    rw[if_neg e,List.getD_eq_getElem?_getD,List.getElem?_append_left (by rw[h.len];exact hj),← List.getD_eq_getElem?_getD]
end Go.AL
end
section
namespace Go.AL
open Go Go.RowKit
set_option maxRecDepth 4000
theorem ret_viewK {P:Program} {rs:List ResultVar} {K:AV→AHeap→Prop} {ρ:Env} {L:AHeap} (m:List Bool) (r:AV) (hK:K r []) (h:retV P rs m r ρ L):retK P rs K ρ L:=by
 unfold retK;unfold retV at h
 split at h
 ·rename_i e;(try rw[e]);exact⟨h.1,m,r,[],h.2,.none _,hK⟩
 ·exact h.elim
theorem ref24_same (a b:List Int) (ha:a.length≤1000000):PC Proofs.Tryz.prog 27 [aInts a,aInts b] (ab (decide (a=b))):=by
 by_cases hl:a.length=b.length
 ·have hli:(a.length:Int)=b.length:=by omega
  refine PC.enter 26 [.tmp 4] [] Proofs.Tryz.func27 rfl rfl rfl rfl rfl (by simp) (AWp.of ?_);simp only[go_sem]
  refine W1 hli ?_
  refine AWp.block (AWp.count 5 a.length [] [0,1] (fun k vs L=>L=[]∧∀j (h1:j<a.length) (h2:j<b.length),j<k→a[j]=b[j]) rfl rfl ⟨rfl,fun j _ _ h=>by omega⟩ ?_)
  rintro k vs L hk - ⟨rfl,hI⟩
  simp only[go_sem]
  refine W1 hli ?_
  refine⟨fun h3 => ?_,fun h3 => ?_⟩
  ·have hka:k<a.length:=by omega
   have hkb:k<b.length:=by omega
   have ga:=getD_map (f:=ai) hka
   have gb:=getD_map (f:=ai) hkb
   refine AWp.seq (AWp.block (AWp.seq ?_))
   refine AWp.drawn mixed 9 (by kernel_rfl) ?_;simp only[go_sem,ga,gb]
   refine Sd ?_
   refine Wk ?_
   refine⟨fun h4 => ?_,fun h4 => ?_⟩
   ·refine Wk ?_
    refine ret_eq ?_;simp only[go_sem]
    rw[decide_eq_false]
    rintro rfl
    exact h4 rfl
   ·refine Wk ?_
    refine⟨_,List.Sublist.refl _,rfl,fun j j1 j2 hj => ?_⟩
    by_cases e:j=k
    ·subst e;omega
    ·exact hI j j1 j2 (by omega)
  ·refine Wk ?_
   refine ret_eq ?_;simp only[go_sem]
   rw[decide_eq_true]
   exact List.ext_getElem hl fun j j1 j2=>hI j j1 j2 (by omega)
 ·have hli:¬(a.length:Int)=b.length:=by omega
  rw[decide_eq_false fun h=>hl (by rw[h])]
  refine PC.enter 26 [.tmp 4] [] Proofs.Tryz.func27 rfl rfl rfl rfl rfl (by simp) (AWp.of ?_);simp only[go_sem]
  refine W1 hli ?_
  refine ret_eq ?_;simp only[go_sem]
theorem ref24_Same (a b:List (List Int)) (ha:a.length≤1000000) (hx:∀x ∈ a,x.length≤1000000):PC Proofs.Tryz.prog 11 [aRows a,aRows b] (ab (decide (a=b))):=by
 have hR:∀x:List (List Int),aRows x = .sl 1 (x.map aInts):=fun _=>rfl
 rw[hR,hR]
 by_cases hl:a.length=b.length
 ·have hli:(a.length:Int)=b.length:=by omega
  refine PC.enter 27 [.tmp 4] [] Proofs.Tryz.func11 rfl rfl rfl rfl rfl (by simp) (AWp.of ?_);simp only[go_sem]
  refine W1 hli ?_
  refine AWp.block (AWp.count 5 a.length [] [0,1] (fun k vs L=>L=[]∧∀j (h1:j<a.length) (h2:j<b.length),j<k→a[j]=b[j]) rfl rfl ⟨rfl,fun j _ _ h=>by omega⟩ ?_)
  rintro k vs L hk - ⟨rfl,hI⟩
  simp only[go_sem]
  refine W1 hli ?_
  refine⟨fun h3 => ?_,fun h3 => ?_⟩
  ·have hka:k<a.length:=by omega
   have hkb:k<b.length:=by omega
   have ga:=getD_map (f:=aInts) hka
   have gb:=getD_map (f:=aInts) hkb
   have hsl:=ref24_same a[k] b[k] (hx _ (List.getElem_mem hka))
   refine AWp.seq (AWp.block (AWp.seq ?_))
   repeat(first|(with_reducible refine AWp.seq ?_)|(with_reducible refine AWp.block ?_))
   refine AWp.read mixed [0,1,2,3,4,5,6,7,8,9] (by kernel_rfl) ?_;simp only[go_sem,ga,gb]
   refine Sd ?_
   refine GCall.use (ab (decide (a[k]=b[k]))) (fun _=>⟨At,hsl.val.use ⟨rfl,rfl⟩⟩) ?_
   simp only[go_sem]
   refine Sd ?_
   refine Wk ?_
   refine⟨fun h4 => ?_,fun h4 => ?_⟩
   ·refine Wk ?_
    refine ret_eq ?_;simp only[go_sem]
    rw[decide_eq_false]
    rintro rfl
    exact h4 rfl
   ·refine Wk ?_
    refine⟨_,List.Sublist.refl _,rfl,fun j j1 j2 hj => ?_⟩
    by_cases e:j=k
    ·subst e;exact h4
    ·exact hI j j1 j2 (by omega)
  ·refine Wk ?_
   refine ret_eq ?_;simp only[go_sem]
   rw[decide_eq_true]
   exact List.ext_getElem hl fun j j1 j2=>hI j j1 j2 (by omega)
 ·have hli:¬(a.length:Int)=b.length:=by omega
  rw[decide_eq_false fun h=>hl (by rw[h])]
  refine PC.enter 27 [.tmp 4] [] Proofs.Tryz.func11 rfl rfl rfl rfl rfl (by simp) (AWp.of ?_);simp only[go_sem]
  refine W1 hli ?_
  refine ret_eq ?_;simp only[go_sem]
def smW (ps:List Pr):Nat→Int
 | 0=>0
 | k+1=>addW (smW ps k) (nev ps k)
theorem smW_in (ps:List Pr):∀k,-9223372036854775808≤smW ps k∧smW ps k≤9223372036854775807
 | 0=>by show -9223372036854775808≤(0:Int)∧(0:Int)≤9223372036854775807;omega
 | k+1=>by
  show -9223372036854775808≤addW (smW ps k) (nev ps k)∧addW (smW ps k) (nev ps k)≤9223372036854775807
  unfold addW
  rw[IntKind.wrap_i64]
  omega
section
variable {ps:List Pr} (hva:PC Proofs.Tryz.prog 30 [aTr ps] (ab false))
include hva
end
theorem MCalls.pc {P:Program} {f:FuncId} {args:List AV} {K:AV→AHeap→Prop} {r0:AV} (h:MCalls P f args [] K) (hk:∀r L,K r L→Vw L r r0):PC P f args r0 :=
 ⟨h.1,fun n w A vs h1 h2=>(h.2 n w A vs h1 h2).mono fun e w' hp=>by
  obtain⟨v,r,L',A',e1,hK,hf,hA,hL,hkk,hr⟩:=hp
  refine⟨v,r0,[],fun b=>A' b∨keysOf L' b,e1,⟨rfl,rfl⟩,hf,fun b hb => ?_,hL.viewed (Lf:=L') (Lk:=[]) (by simp) .nil,fun x hx=>absurd hx (by simp),hL.view (Lf:=L') (Lk:=[]) (by simp) (hk r L' hK) hr⟩
  rcases hb with hb|⟨x,hx,rfl⟩
  ·exact hA b hb
  ·rcases hkk x hx with h|h
   ·exact .inr (.inl h)
   ·exact .inr (.inr h)⟩
def copK:Pd→AV→AHeap→Prop
 | .mk k n p q s l,r,L=>∃v,r = .agg [ai k,ai n,ai p,ai q,astr s,v]∧AppSt 27 6 (l.map aPd) v L
theorem copK_vw {t:Pd} {r:AV} {L:AHeap} (h:copK t r L):Vw L r (aPd t):=by
 obtain⟨k,n,p,q,s,l⟩:=t
 obtain⟨v,rfl,hA⟩:=h
 rw[aPd_mk]
 have hv:=hA.vw []
 rw[List.append_nil] at hv
 exact .mkAgg (Vws.cons (.refl _) (Vws.cons (.refl _) (Vws.cons (.refl _) (Vws.cons (.refl _) (Vws.cons (.refl _) (Vws.cons hv .nil))))))
theorem classify_copiedM (t:Pd):szF t≤1000000→MCalls Proofs.Tryz.prog 129 [aPd t] [] (copK t):=by
 induction t using Pd.ind with
 | _ k n p q s l ih =>
 intro hz
 have hsz:szF (.mk k n p q s l)=szL l+1:=by rw[szF]
 have hll:=szL_len l
 have hK:copK (.mk k n p q s l)=fun r L=>∃v,r = .agg [ai k,ai n,ai p,ai q,astr s,v]∧AppSt 27 6 (l.map aPd) v L:=rfl
 rw[hK]
 clear hK
 refine MCalls.enter' 24 [.cell 2 27] [5,19] Proofs.Tryz.func129 rfl rfl rfl rfl rfl (by simp) (AWp.of ?_);simp only[go_sem]
 intro b1 b2 hlt
 have n1:¬b1=b2:=by omega
 have n2:¬b2=b1:=by omega
 refine W2 n1 n2 ?_
 refine AWp.range' l.length [] [1,2,9,10] (fun i vs L=>∃v Ln,L=Ln ++ [(b2,ABlk.row 27 6 [aPd0] 1),(b1,ABlk.row 27 6 [.agg [ai k,ai n,ai p,ai q,astr s,v]] 1)]∧AppSt 27 6 ((l.take i).map aPd) v Ln∧∀x ∈ Ln,x.1 ≠ b1∧x.1 ≠ b2) (by omega) rfl rfl rfl ⟨anil,[],rfl,.nil,by simp⟩ ?_ ?_
 ·rintro i vs L hil - ⟨v,Ln,rfl,hA,hne⟩
  simp only[go_sem]
  have hgi:=getD_map (f:=aPd) hil
  have hzi:=szL_mem (List.getElem_mem hil)
  have hch:PC Proofs.Tryz.prog 129 [aPd l[i]] (aPd l[i]):=(ih l[i] (List.getElem_mem hil) (by omega)).pc fun r L h=>copK_vw h
  have hsu:(l.take (i+1)).map aPd=(l.take i).map aPd ++ [aPd l[i]]:=by
   rw[List.take_succ_eq_append_getElem hil,List.map_append];rfl
  have hyl:((l.take i).map aPd).length≤1000000:=by simp;omega
  generalize (l.take i).map aPd=ys at *
  generalize l[i]=x at *
  obtain⟨k2,o2,p2,q2,s2,l2⟩:=x
  simp only[aPd_mk] at hgi hch hsu
  rcases hA.inv with ⟨e1,rfl,rfl⟩|⟨b,cap,rfl,rfl⟩
  ·refine W1 hgi ?_
   intro b7 g1 g2
   have n7:¬b1=b7:=by omega
   have n8:¬b7=b1:=by omega
   refine Sd ?_
   repeat(first|(with_reducible refine AWp.seq ?_)|(with_reducible refine AWp.block ?_))
   refine AWp.mix mixed [0,2,3] (.step 1 (.step 4 (.step 5 (.step 6 (.step 7 .done .done) .done) .done) .done) (.step 4 (.step 1 (.step 5 (.step 6 (.step 7 .done .done) .done) .done) .done) .done)) (by kernel_rfl) ?_;simp only[go_sem,hgi,n1,n2,n7,n8]
   refine Sd ?_
   refine GCall.use (.agg [ai k2,ai o2,ai p2,ai q2,astr s2,.sl 6 (l2.map aPd)]) (fun _=>⟨At,(hch).val.use ⟨rfl,rfl⟩⟩) ?_;simp only[go_sem,n1,n2]
   repeat' (first|(with_reducible refine And.intro ?_ ?_)|(with_reducible intro _))
   all_goals first|omega|skip
   all_goals
    rename_i b' cap' f1 f2 f3
    have n5:¬b1=b':=by omega
    have n6:¬b2=b':=by omega
    simp only[go_sem,n1,n2,n5,n6]
    refine Sd ?_
    refine W4 n1 n2 n5 n6 ?_
    refine⟨_,List.Sublist.refl _,_,[(b',.row 27 6 [_] cap')],rfl,?_,?_⟩
    ·rw[hsu,e1];exact .row _ [_] _
    ·intro p hp;simp at hp;subst hp;exact⟨fun e=>n5 e.symm,fun e=>n6 e.symm⟩
  ·have m1:¬b=b1:=(hne (b,_) List.mem_cons_self).1
   have m2:¬b=b2:=(hne (b,_) List.mem_cons_self).2
   have m3:¬b1=b:=fun e=>m1 e.symm
   have m4:¬b2=b:=fun e=>m2 e.symm
   refine W1 hgi ?_
   intro b7 g0 g1 g2
   have n7:¬b1=b7:=by omega
   have n8:¬b7=b1:=by omega
   have n9:¬b=b7:=by omega
   have n10:¬b7=b:=by omega
   refine Sd ?_
   repeat(first|(with_reducible refine AWp.seq ?_)|(with_reducible refine AWp.block ?_))
   refine AWp.mix mixed [0,2,3] (.step 1 (.step 4 (.step 5 (.step 6 (.step 7 .done .done) .done) .done) .done) (.step 4 (.step 1 (.step 5 (.step 6 (.step 7 .done .done) .done) .done) .done) .done)) (by kernel_rfl) ?_;simp only[go_sem,hgi,n1,n2,m1,m2,m3,m4,n7,n8,n9,n10]
   refine Sd ?_
   refine GCall.use (.agg [ai k2,ai o2,ai p2,ai q2,astr s2,.sl 6 (l2.map aPd)]) (fun _=>⟨At,(hch).val.use ⟨rfl,rfl⟩⟩) ?_;simp only[go_sem,n1,n2,m1,m2,m3,m4]
   repeat' (first|(with_reducible refine And.intro ?_ ?_)|(with_reducible intro _))
   all_goals first|omega|skip
   all_goals
    rename_i b' cap' n5 n6 f3
    simp only[go_sem,n1,n2,n5,n6]
    refine Sd ?_
    refine W4 n1 n2 n5 n6 ?_
    refine⟨_,List.Sublist.refl _,_,[(b',.row 27 6 (ys ++ [_]) cap')],rfl,?_,?_⟩
    ·rw[hsu]
     have:=AppSt.row (t:=27) (k:=6) b' (ys ++ [.agg [ai k2,ai o2,ai p2,ai q2,astr s2,.sl 6 (l2.map aPd)]]) cap'
     simpa using this
    ·intro p hp;simp at hp;subst hp;exact⟨fun e=>n6 e.symm,fun e=>n5 e.symm⟩
 ·rintro vs L - ⟨v,Ln,rfl,hA,hne⟩
  simp only[go_sem]
  rw[List.take_length] at hA
  generalize l.map aPd=ys at *
  rcases hA.inv with ⟨e1,rfl,rfl⟩|⟨b,cap,rfl,rfl⟩
  ·repeat(first|((with_reducible refine AWp.ofC ?_ ?_);exact rfl;simp only[go_sem,n1,n2,aPd0])|((with_reducible refine an ?_ ?_);exact Au))
   refine ret_sub [] (List.nil_sublist _) ?_
   simp only[go_sem,n1,n2]
   exact⟨_,rfl,by rw[e1];exact .nil⟩
  ·have m1:¬b1=b:=fun e=>(hne (b,_) List.mem_cons_self).1 e.symm
   have m2:¬b2=b:=fun e=>(hne (b,_) List.mem_cons_self).2 e.symm
   repeat(first|((with_reducible refine AWp.ofC ?_ ?_);exact rfl;simp only[go_sem,n1,n2,m1,m2,aPd0])|((with_reducible refine an ?_ ?_);exact Au))
   refine ret_sub [(b,.row 27 6 ys cap)] (List.Sublist.cons_cons _ (List.nil_sublist _)) ?_
   simp only[go_sem,n1,n2,m1,m2]
   exact⟨_,rfl,.row b ys cap⟩
def oppL:List (Int × Int)→Int→Int
 | [],k=>k
 | (a,b) :: r,k=>if k=a then b else if k=b then a else oppL r k
def prsO:List (Int × Int):=[(13,14),(16,17),(9,10),(11,12),(18,21),(19,20)]
def oppF (k:Int):Int:=oppL prsO k
def aPr2 (p:Int × Int):AV:=.agg [ai p.1,ai p.2]
theorem oppL_drop {l:List (Int × Int)} {i:Nat} (hi:i<l.length) (k:Int):oppL (l.drop i) k=if k=l[i].1 then l[i].2 else if k=l[i].2 then l[i].1 else oppL (l.drop (i+1)) k:=by
 rw[List.drop_eq_getElem_cons hi]
 rfl
theorem prsO_len:prsO.length=6:=rfl
theorem classify_opposite (k:Int):PC Proofs.Tryz.prog 130 [ai k] (ai (oppF k)):=by
 have hl6:=prsO_len
 have hd0:oppL (prsO.drop 0) k=oppF k:=rfl
 have hd6:oppL (prsO.drop 6) k=k:=rfl
 have hdr:=fun i (hi:i<prsO.length)=>oppL_drop hi k
 have hgx:=fun i (hi:i<prsO.length)=>getD_map (f:=aPr2) hi
 have hgc:∀i (hi:i<prsO.length),[AV.agg [ai 13,ai 14],.agg [ai 16,ai 17],.agg [ai 9,ai 10],.agg [ai 11,ai 12],.agg [ai 18,ai 21],.agg [ai 19,ai 20]].getD i .any=aPr2 prsO[i]:=hgx
 clear hgx
 generalize oppF k=r at *
 refine PC.enter 34 [.tmp 2] [5,12] Proofs.Tryz.func130 rfl rfl rfl rfl rfl (by simp) (AWp.of ?_);simp only[go_sem]
 refine Wk ?_
 refine AWp.range' 6 [] [0,13,14] (fun i vs L=>L=[]∧oppL (prsO.drop i) k=r) (by omega) rfl rfl rfl ⟨rfl,hd0⟩ ?_ ?_
 ·rintro i vs L hi - ⟨rfl,hI⟩
  have hip:i<prsO.length:=by omega
  have hg:=hgc i hip
  have hd:=hdr i hip
  rw[hI] at hd
  clear hdr hgc
  generalize prsO[i]=p at *
  obtain⟨x,y⟩:=p
  unfold aPr2 at hg
  simp only[go_sem] at hd hg ⊢
  repeat(first|((with_reducible refine AWp.ofC ?_ ?_);exact rfl;simp only[go_sem,hg,List.flatten_cons,List.flatten_nil,List.cons_append,List.nil_append])|((with_reducible refine an ?_ ?_);exact Au))
  intro b5
  refine W1 hg ?_
  refine⟨fun h1 => ?_,fun h1 => ?_⟩
  ·refine W1 hg ?_
   refine ret_eq ?_;simp only[go_sem]
   rw[hd,if_pos h1]
  ·refine W1 hg ?_
   refine⟨fun h2 => ?_,fun h2 => ?_⟩
   ·refine W1 hg ?_
    refine ret_eq ?_;simp only[go_sem]
    rw[hd,if_neg h1,if_pos h2]
   ·refine W1 hg ?_
    exact⟨_,List.Sublist.refl _,rfl,by rw[hd,if_neg h1,if_neg h2]⟩
 ·rintro vs L - ⟨rfl,hI⟩
  rw[hd6] at hI
  simp only[go_sem]
  refine Wk ?_
  refine ret_eq ?_;simp only[go_sem]
  rw[hI]
end Go.AL
end
