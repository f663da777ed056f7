/- Texts of this claim's proof: WAw, WSr, WOf, WWl, WCt, WLv, WSn, WMk, WMr, WMn, WCu, WBig, WMl, WMc, WMd, AlGrd, WSs, WSp, WCp, WCk, WEx, WRr, WEy, WPq, WNa, WNb, WNe, WTm, WDx, WPu, WNc, WOa. No condition. -/
import Derived.Test.YtplamfpmmogbeaaGreatDoorM6
import Derived.Test.YtplamfpmmogbeaaGreatDoorM12
import Derived.Test.YtplamfpmmogbeaaGreatDoorM10
import Derived.Test.YtplamfpmmogbeaaGreatDoorM8
import Derived.Test.YtplamfpmmogbeaaGreatDoorM7
section
namespace Go.AL
open Go Go.RowKit
set_option maxRecDepth 4000
theorem AWp.only {C:Cfg} {cd:Code} {Q:AQ} {ρ:Env} {L:AHeap} (ks:List Nat) (h:AWp C cd Q (ks.zip (ks.map (get ρ))) L):AWp C cd Q ρ L :=
 AWp.st (fun _w0 _M _A0 _a _w hh=>st_forget hh (get_zip ks ρ)) h
def aSp (s:Int × Int × Int):AV:=.agg [ai s.1,ai s.2.1,ai s.2.2]
def aSps (l:List (Int × Int × Int)):AV:=.sl 3 (l.map aSp)
def stpI (s:Stp):Int × Int × Int:=(s.1,s.2.1,s.2.2)
theorem stC_cAt {n p q:Nat} {k:Int} (hq:q<n):cAt (stC n p k) q=if p=q then k else 0:=by
 rw[cAt_nat (by rw[stC_len];exact hq)]
 unfold stC
 rw[List.getElem_set,List.getElem_replicate]
theorem need_le {ps:List Pr} (hv:validF ps=true) {d:List Int} (hd:d.length=ps.length) (hr:inRangeF ps d=true) (hcl:closedF ps d=true) {q k:Nat} (hq:q<ps.length) (hk:(k:Int)≤cAt d q):∀p,p<ps.length→cAt (closeF ps (stC ps.length q k)) p≤cAt d p:=by
 have h0:=(inRange_iff hd).1 hr
 obtain⟨a1,a2⟩:=stC_ok (k:=(k:Int)) hq (by omega) (by have:=(h0 q hq).2;omega)
 refine closeF_least hv hd hcl a1 a2 fun p hp => ?_
 rw[stC_cAt hp]
 split
 ·rename_i e;subst e;exact hk
 ·exact(h0 p hp).1
theorem peer_ne {ps:List Pr} (hv:validF ps=true) {p:Nat} (hp:p<ps.length) {i:Nat} (hi:i<ps[p].evs.length) (hk:ps[p].evs[i].kind=3):ps[p].evs[i].peer.toNat ≠ p:=by
 have h:=(evF_parts hp hi).1 (evF_of_valid hv hp hi)
 have h:=h.1
 unfold formedI at h
 rw[if_neg (by omega),if_pos (.inr hk)] at h
 simp only[Bool.and_eq_true,Bool.not_eq_true',decide_eq_false_iff_not] at h
 have h0:=h.1.1
 unfold inI at h0
 simp only[Bool.and_eq_true,decide_eq_true_eq] at h0
 intro e
 exact h.1.2 (by omega)
section
variable {ps:List Pr} {E:Elim}
end
theorem noreach {ps:List Pr} (hv:validF ps=true) {x:Eid} (hx:VEv ps x):¬Reach ps x x:=by
 obtain⟨p,hp,i,hi,rfl⟩:=hx
 have h0:=valid_cyc hv
 unfold cycF at h0
 rw[Option.map_eq_none_iff,List.find?_eq_none] at h0
 simpa using h0 _ (List.mem_of_getElem? (evIds_get hp hi))
theorem reach_trans {ps:List Pr} {a b c:Eid} (h1:Reach ps a b) (h2:Reach ps b c):Reach ps a c:=by
 induction h2 with
 | single h=>exact .tail h1 h
 | tail _ h ih=>exact .tail ih h
theorem countP_lt {α:Type} {p q:α→Bool} : ∀ {l:List α},(∀a ∈ l,p a=true→q a=true)→(∃a ∈ l,p a=false∧q a=true)→l.countP p<l.countP q
 | [],_,⟨a,h,_⟩=>by cases h
 | b :: l,h1,⟨a,ha,h2,h3⟩=>by
  have hle:l.countP p≤l.countP q:=List.countP_mono_left fun a ha h=>h1 a (List.mem_cons_of_mem _ ha) h
  rw[List.countP_cons,List.countP_cons]
  have hb:=h1 b List.mem_cons_self
  rcases List.mem_cons.1 ha with rfl|ha
  ·rw[h2,h3];simp;omega
  ·have:=countP_lt (l:=l) (fun a ha h=>h1 a (List.mem_cons_of_mem _ ha) h) ⟨a,ha,h2,h3⟩
   by_cases e:p b=true
   ·rw[e,hb e];omega
   ·rw[if_neg e];split <;> omega
open Classical in
noncomputable def anc (ps:List Pr) (x:Eid):Nat:=(evIds ps).countP fun e=>decide (Reach ps e.1 x)
theorem anc_lt {ps:List Pr} (hv:validF ps=true) {x y:Eid} (hx:VEv ps x) (h:Reach ps x y):anc ps x<anc ps y:=by
 classical
 unfold anc
 refine countP_lt (fun a _ ha=>decide_eq_true (reach_trans (of_decide_eq_true ha) h)) ?_
 obtain⟨e,he,e1⟩:=List.mem_map.1 hx.mem
 exact⟨e,he,decide_eq_false (by rw[e1];exact noreach hv hx),decide_eq_true (by rw[e1];exact h)⟩
theorem nx_line {ps:List Pr} (hm:msgF ps=none) {p:Nat} (hp:p<ps.length) {j:Nat} (hj:j+1<ps[p].evs.length):Nx ps ((p:Int),(j:Int)+1) ((p:Int),((j+1:Nat):Int)+1):=by
 refine((dirL_iff hm hp hj _).1 ?_).2
 unfold dirL
 rw[List.mem_append,if_pos (by omega)]
 exact .inl (by simp)
theorem nx_send {ps:List Pr} (hm:msgF ps=none) {p:Nat} (hp:p<ps.length) {i:Nat} (hi:i<ps[p].evs.length) (hk:ps[p].evs[i].kind=3):Nx ps (sndr ps ps[p].evs[i].msg) ((p:Int),(i:Int)+1):=by
 refine((dirL_iff hm hp hi _).1 ?_).2
 unfold dirL
 rw[List.mem_append,evq_get hp hi,if_pos hk]
 exact .inr (by simp)
theorem reach_line {ps:List Pr} (hm:msgF ps=none) {p:Nat} (hp:p<ps.length) {i:Nat} : ∀ {j:Nat},i<j→j<ps[p].evs.length→Reach ps ((p:Int),(i:Int)+1) ((p:Int),(j:Int)+1)
 | 0,h,_=>by omega
 | j+1,h,hj=>by
  by_cases e:i=j
  ·subst e;exact .single (nx_line hm hp hj)
  ·exact .tail (reach_line hm hp (by omega) (by omega)) (nx_line hm hp hj)
theorem anc_line {ps:List Pr} (hv:validF ps=true) {p:Nat} (hp:p<ps.length) {i j:Nat} (hij:i≤j) (hj:j<ps[p].evs.length):anc ps ((p:Int),(i:Int)+1)≤anc ps ((p:Int),(j:Int)+1):=by
 by_cases e:i=j
 ·subst e;exact Nat.le_refl _
 ·exact Nat.le_of_lt (anc_lt hv ⟨p,hp,i,by omega,rfl⟩ (reach_line (valid_parts hv).2.2 hp (by omega) hj))
theorem argmax (f:Nat→Nat) (P:Nat→Prop):∀n,(∃p,p<n∧P p)→∃p,p<n∧P p∧∀q,q<n→P q→f q≤f p
 | 0,⟨p,h,_⟩=>by omega
 | n+1,⟨p,hp,h⟩=>by
  classical
  by_cases hx:∃p,p<n∧P p
  ·obtain⟨m,h1,h2,h3⟩:=argmax f P n hx
   by_cases hn:P n∧f m<f n
   ·refine⟨n,by omega,hn.1,fun q hq hP => ?_⟩
    by_cases e:q=n
    ·subst e;exact Nat.le_refl _
    ·have:=h3 q (by omega) hP;omega
   ·refine⟨m,by omega,h2,fun q hq hP => ?_⟩
    by_cases e:q=n
    ·subst e
     have:¬f m<f q:=fun h=>hn ⟨hP,h⟩
     omega
    ·exact h3 q (by omega) hP
  ·have:p=n:=by
    by_cases e:p=n
    ·exact e
    ·exact absurd ⟨p,by omega,h⟩ hx
   subst this
   refine⟨p,by omega,h,fun q hq hP => ?_⟩
   by_cases e:q=p
   ·subst e;exact Nat.le_refl _
   ·exact absurd ⟨q,by omega,hP⟩ hx
theorem setc_cAt {d:List Int} {p q:Nat} {z:Int} (hq:q<d.length):cAt (d.set p z) q=if p=q then z else cAt d q:=by
 rw[cAt_nat (by rw[List.length_set];exact hq),List.getElem_set]
 split
 ·rfl
 ·rw[cAt_nat hq]
theorem cut_remove {ps:List Pr} (hv:validF ps=true) {c:List Int} (hl:c.length=ps.length) (hr:inRangeF ps c=true) (hcl:closedF ps c=true) (h0:∃p,p<ps.length∧0<cAt c p) :
  ∃p,p<ps.length∧0<cAt c p∧inRangeF ps (c.set p (cAt c p - 1))=true∧closedF ps (c.set p (cAt c p - 1))=true:=by
 have hm:=(valid_parts hv).2.2
 have hrr:=(inRange_iff hl).1 hr
 obtain⟨p,hp,hp0,hmax⟩:=argmax (fun p=>anc ps ((p:Int),cAt c p)) (fun p=>0<cAt c p) ps.length h0
 refine⟨p,hp,hp0,(inRange_iff (by rw[List.length_set];exact hl)).2 fun q hq => ?_,closed_iff.2 fun q hq i hi hk hle => ?_⟩
 ·rw[setc_cAt (by omega)]
  split
  ·rename_i e;subst e;have:=hrr p hp;omega
  ·exact hrr q hq
 ·have hle':(i:Int)+1≤cAt c q:=by
   rw[setc_cAt (by omega)] at hle
   split at hle
   ·rename_i e;subst e;omega
   ·exact hle
  have h1:=closed_iff.1 hcl q hq i hi hk hle'
  obtain⟨s,hs,j,hj,e,_,_⟩:=sndr_some (recv_sndr hm hq hi hk)
  have hn:=nx_send hm hq hi hk
  rw[e] at h1 hn ⊢
  simp only at h1 ⊢
  rw[setc_cAt (by omega)]
  split
  ·rename_i es;subst es
   by_cases hj2:(j:Int)+1=cAt c p
   ·exfalso
    have h2:=anc_lt hv ⟨p,hs,j,hj,rfl⟩ (.single hn)
    have h3:=hmax q hq (by omega)
    have hq2:=(hrr q hq).2
    have h4:=anc_line hv hq (i:=i) (j:=(cAt c q).toNat - 1) (by omega) (by omega)
    have h5:(((cAt c q).toNat - 1:Nat):Int)+1=cAt c q:=by omega
    rw[h5] at h4
    rw[hj2] at h2
    omega
   ·omega
  ·exact h1
def isF (ps:List Pr) (c:List Int):Bool:=(decide (c.length=ps.length) && inRangeF ps c) && closedF ps c
theorem isF_iff {ps:List Pr} {c:List Int} : isF ps c=true↔c.length=ps.length∧inRangeF ps c=true∧closedF ps c=true:=by
 unfold isF
 rw[Bool.and_eq_true,Bool.and_eq_true,decide_eq_true_eq,and_assoc]
def stpC (c:List Int) (p:Nat):List Int:=c.set p (cAt c p+1)
def nx1 (ps:List Pr) (c:List Int) (p:Nat):List (List Int):=if cAt c p<nev ps p∧isF ps (stpC c p)=true then [stpC c p] else []
def nextT (ps:List Pr) (c:List Int) (k:Nat):List (List Int):=(List.range k).flatMap (nx1 ps c)
def nextL (ps:List Pr) (c:List Int):List (List Int):=nextT ps c c.length
def lexF:List Int→List Int→Bool
 | a :: x,b :: y=>if a=b then lexF x y else decide (a<b)
 | _,_=>false
def befF (a b:List Int):Bool:=if a.sum=b.sum then lexF a b else decide (a.sum<b.sum)
def insF (l:List (List Int)) (c:List Int):List (List Int):=if (l.dropWhile fun x=>befF x c).head?=some c then l else (l.takeWhile fun x=>befF x c) ++ c :: l.dropWhile fun x=>befF x c
def insL (acc l:List (List Int)):List (List Int):=l.foldl insF acc
def moreT (ps:List Pr) (lv:List (List Int)):List (List Int):=lv.foldl (fun acc c=>insL acc (nextL ps c)) []
def levF (ps:List Pr):Nat→List (List Int)
 | 0=>[List.replicate ps.length 0]
 | k+1=>moreT ps (levF ps k)
theorem sum_stpC {c:List Int} {p:Nat} (hp:p<c.length):(stpC c p).sum=c.sum+1:=by
 unfold stpC
 have h:=sum_set c p (cAt c p+1) hp
 have e:cAt c p=c.getD p 0:=by unfold cAt;simp
 rw[h,e];omega
theorem isF_nonneg {ps:List Pr} {c:List Int} (h:isF ps c=true):∀z ∈ c,0≤z:=fun z hz=>by
 obtain⟨h1,h2,_⟩:=isF_iff.1 h
 obtain⟨p,hp,rfl⟩:=List.getElem_of_mem hz
 have:=((inRange_iff h1).1 h2 p (by omega)).1
 rwa [cAt_nat hp] at this
theorem isF_zero {ps:List Pr} : isF ps (List.replicate ps.length 0)=true:=by
 have e:∀q:Int,cAt (List.replicate ps.length 0) q=0:=fun q=>by
  unfold cAt
  rw[List.getD_eq_getElem?_getD,List.getElem?_replicate]
  split <;> rfl
 have hl:(List.replicate ps.length (0:Int)).length=ps.length:=List.length_replicate
 refine isF_iff.2 ⟨hl,(inRange_iff hl).2 fun p hp => ?_,closed_iff.2 fun p hp i hi hk hle => ?_⟩
 ·rw[e];omega
 ·rw[e] at hle;omega
theorem sum_totC:∀ {c:List Int},(∀z ∈ c,0≤z)→c.sum=totC c
 | [],_=>rfl
 | a :: c,h=>by
  have h0:=h a List.mem_cons_self
  have:=sum_totC (c:=c) fun z hz=>h z (List.mem_cons_of_mem _ hz)
  unfold totC at *
  rw[List.sum_cons,List.map_cons,List.sum_cons,this]
  omega
theorem sum_le_off {ps:List Pr} {c:List Int} (h:isF ps c=true):c.sum≤off ps ps.length:=by
 obtain⟨h1,h2,_⟩:=isF_iff.1 h
 have h3:=totC_le h1 h2
 have h4:=sum_totC (isF_nonneg h)
 omega
def cumF (ps:List Pr) (k:Nat):List (List Int):=(List.range k).flatMap (levF ps)
def cutsF (ps:List Pr):List (List Int):=cumF ps (off ps ps.length+1)
end Go.AL
end
section
namespace Go.AL
open Go Go.RowKit
set_option maxRecDepth 4000
end Go.AL
end
section
namespace Go.AL
open Go Go.RowKit Go.Sort Go.Proofs Go.Shelf
set_option maxRecDepth 4000
end Go.AL
end
section
namespace Go.AL
open Go Go.RowKit
set_option maxRecDepth 4000
def needE (ps:List Pr) (e:Ev):Eid:=if e.kind=3 then sndr ps e.msg else (0,0)
theorem AppSt.snoc {t:TypeId} {k:Nat} {ys:List AV} {x:AV} (b cap n:Nat) (hn:n=ys.length+1):AppSt t k (ys ++ [x]) (.ls b k 0 n cap) [(b,.row t k (ys ++ [x]) cap)]:=by
 subst hn
 have:=AppSt.row (t:=t) (k:=k) b (ys ++ [x]) cap
 rwa [List.length_append] at this
theorem cAt_stp {c:List Int} {p q:Nat} (hq:q<c.length):cAt (stpC c p) q=if p=q then cAt c q+1 else cAt c q:=by
 unfold stpC
 rw[setc_cAt hq]
 split
 ·rename_i e;rw[e]
 ·rfl
theorem stp_iff {ps:List Pr} (hv:validF ps=true) {c:List Int} (hc:isF ps c=true) {p:Nat} (hp:p<ps.length) {i:Nat} (hi:i<ps[p].evs.length) (hci:cAt c p=i) :
  isF ps (stpC c p)=true↔(needE ps ps[p].evs[i]).2≤cAt c (needE ps ps[p].evs[i]).1:=by
 obtain⟨h1,h2,h3⟩:=isF_iff.1 hc
 have hm:=(valid_parts hv).2.2
 have hr:=(inRange_iff h1).1 h2
 have hlen:(stpC c p).length=ps.length:=by unfold stpC;rw[List.length_set,h1]
 have hmono:∀q,q<ps.length→cAt c q≤cAt (stpC c p) q:=fun q hq=>by rw[cAt_stp (by omega)];split <;> omega
 unfold needE
 constructor
 ·intro h
  obtain⟨_,_,g3⟩:=isF_iff.1 h
  by_cases hk:ps[p].evs[i].kind=3
  ·rw[if_pos hk]
   have:=closed_iff.1 g3 p hp i hi hk (by rw[cAt_stp (by omega),if_pos rfl,hci];omega)
   obtain⟨s,hs,j,hj,e,hk2,_⟩:=sndr_some (recv_sndr hm hp hi hk)
   rw[e] at this ⊢
   dsimp only at this ⊢
   rw[cAt_stp (by omega)] at this
   split at this
   ·rename_i es;subst es
    by_cases hji:j=i
    ·subst hji;omega
    ·omega
   ·exact this
  ·rw[if_neg hk]
   have:=(hr 0 (by omega)).1
   simpa using this
 ·intro h
  refine isF_iff.2 ⟨hlen,(inRange_iff hlen).2 fun q hq => ?_,closed_iff.2 fun q hq i' hi' hk hle => ?_⟩
  ·have:=hr q hq
   rw[cAt_stp (by omega)]
   split
   ·rename_i e;subst e;omega
   ·exact this
  ·obtain⟨s,hs,j,hj,e,hk2,_⟩:=sndr_some (recv_sndr hm hq hi' hk)
   have hms:=hmono s hs
   by_cases hnew:q=p∧i'=i
   ·obtain⟨rfl,rfl⟩:=hnew
    rw[if_pos hk,e] at h
    rw[e];dsimp only at h ⊢;omega
   ·have:=closed_iff.1 h3 q hq i' hi' hk (by
     rw[cAt_stp (by omega)] at hle
     split at hle
     ·rename_i e2;subst e2
      have:i' ≠ i:=fun e=>hnew ⟨rfl,e⟩
      omega
     ·exact hle)
    rw[e] at this ⊢;dsimp only at this ⊢;omega
def rdyF (ps:List Pr) (c:List Int) (p:Nat):Bool:=decide (cAt c p<nev ps p∧isF ps (stpC c p)=true)
theorem off_small {ps:List Pr} (hs:Sm ps):∀k,k≤ps.length→off ps k≤k * 1000000:=by
 intro k
 induction k with
 | zero=>intro _;simp [off]
 | succ k ih =>
  intro hk
  rw[off_succ (by omega)]
  have h1:=ih (by omega)
  have h2:=hs.evs _ (List.getElem_mem (show k<ps.length by omega))
  omega
def fullC (ps:List Pr):List Int:=ps.map fun x=>(x.evs.length:Int)
theorem fullC_at {ps:List Pr} {p:Nat} (hp:p<ps.length):cAt (fullC ps) p=ps[p].evs.length:=by
 unfold fullC
 rw[cAt_nat (by rw[List.length_map];exact hp),List.getElem_map]
theorem fullC_is {ps:List Pr} (hv:validF ps=true):isF ps (fullC ps)=true:=by
 have hl:(fullC ps).length=ps.length:=List.length_map _
 refine isF_iff.2 ⟨hl,(inRange_iff hl).2 fun p hp => ?_,closed_iff.2 fun p hp i hi hk _ => ?_⟩
 ·rw[fullC_at hp];omega
 ·obtain⟨s,hs,j,hj,e,_,_⟩:=sndr_some (recv_sndr (valid_parts hv).2.2 hp hi hk)
  rw[e]
  simp only
  rw[fullC_at hs];omega
theorem fullC_sum (ps:List Pr):(fullC ps).sum=off ps ps.length:=by
 unfold fullC off
 rw[List.take_length]
 induction ps with
 | nil=>rfl
 | cons x ps ih=>rw[List.map_cons,List.sum_cons,ih,List.map_cons,List.sum_cons];omega
end Go.AL
end
section
namespace Go.AL
open Go Go.RowKit
def astepF (C:Cfg) (all:List Oper) (o:Oper) (ρ:Env) (L:AHeap) (K:ARes):Prop :=
 match o.guard with
 | none=>aop C o ρ L K
 | some (j,want)=>match gval all ρ j want with
  | some b=>(b=want→aop C o ρ L K)∧(b ≠ want→K (put ρ o.dst .any) L)
  | none=>False
def aregionF (C:Cfg) (all:List Oper):List Oper→Env→AHeap→ARes→Prop
 | [],ρ,L,K=>K ρ L
 | o :: rest,ρ,L,K=>astepF C all o ρ L fun ρ L=>aregionF C all rest ρ L K
def aregFK (C:Cfg) (all rest:List Oper) (K:ARes) (ρ:Env) (L:AHeap):Prop:=aregionF C all rest ρ L K
theorem aregionF_nil (C:Cfg) (all:List Oper) (ρ:Env) (L:AHeap) (K:ARes):aregionF C all [] ρ L K=K ρ L:=rfl
theorem aregionF_cons (C:Cfg) (all rest:List Oper) (o:Oper) (ρ:Env) (L:AHeap) (K:ARes):aregionF C all (o :: rest) ρ L K=astepF C all o ρ L (aregFK C all rest K):=rfl
theorem astepF_sound {C:Cfg} {ops:Array Oper} {i:Nat} {o:Oper} {ρ:Env} {L:AHeap} {K:ARes} (hi:ops[i]?=some o) (hok:operOk C.N o=true) (h:astepF C ops.toList o ρ L K):GOp C ops i ρ L K:=by
 have hd:=operOk_dst hok
 have hdef:=operOk_def hok
 unfold astepF at h
 split at h
 ·rename_i hg;exact AOp.gop hi hg (aop_sound hd hdef h)
 ·rename_i j want hg
  split at h
  ·rename_i b hv
   exact GOp.of_guard' hi hg hv hd (fun hb=>aop_sound hd hdef (h.1 hb)) h.2
  ·exact h.elim
theorem aregionF_sound {C:Cfg} {ops:Array Oper} {K:ARes} {n:Nat} {w0:World} {M A0:Foot} {Q:Exit→Act→World→Prop} (hQ:∀a w,post w0 M A0 C.N K a w→Q .normal a w) (hok:ops.toList.all (operOk C.N)=true) :
  ∀(l:List Oper) (k:Nat),(∀j,l[j]?=ops[k+j]?)→∀(ρ:Env) (L:AHeap) (a:Act) (w:World),aregionF C ops.toList l ρ L K→St w0 M A0 C.N ρ L a w→wpOpsIn (Fw C.r) n C.P ops Q (List.range' k l.length) a w
 | [],k,_,ρ,L,a,w,h,hs=>hQ a w ⟨ρ,L,h,hs⟩
 | o :: l,k,hl,ρ,L,a,w,h,hs=>by
  have h0:ops[k]?=some o:=by simpa using (hl 0).symm
  have ho:operOk C.N o=true:=List.all_eq_true.1 hok o (List.mem_of_getElem? (by simpa using h0))
  rw[List.length_cons,List.range'_succ,wpOpsIn_cons]
  refine wpOpIn_mono ?_ (astepF_sound h0 ho h n w0 M A0 a w Q hs)
  rintro a' w' ⟨ρ',L',h1,h2⟩
  exact aregionF_sound hQ hok l (k+1) (fun j=>by have:=hl (j+1);simpa [Nat.add_assoc,Nat.add_comm 1 j] using this) ρ' L' a' w' h1 h2
theorem AWp.regionF {C:Cfg} {id:Nat} {ops:Array Oper} {Q:AQ} {ρ:Env} {L:AHeap} (h:aregionF C ops.toList ops.toList ρ L (Q .normal)):AWp C (.region id ops false) Q ρ L:=fun hok n w0 M A0 a w hs=>by
 refine wpIn_region ?_
 have:=aregionF_sound (C:=C) (ops:=ops) (K:=Q .normal) (n:=n) (Q:=cq C w0 M A0 Q) (fun a w ⟨ρ',L',h1,h2⟩=>⟨ρ',L',h1,h2⟩) hok ops.toList 0 (by simp) ρ L a w h hs
 rwa [Array.length_toList,← List.range_eq_range'] at this
attribute [go_sem] aregionF_nil aregionF_cons astepF aregFK
end Go.AL
end
section
namespace Go.AL
open Go Go.RowKit
set_option maxRecDepth 4000
section
variable {ps:List Pr} {ts:List Pd}
end
theorem ref37_Fault (ps:List Pr) (hs:Sm ps) (ts:List Pd) (hz:∀t ∈ ts,szF t≤1000000) (htl:ts.length≤1000000):PC Proofs.Tryz.prog 10 [aTr ps,.sl 6 (ts.map aPd)] (ai (conF ps ts)):=by
 have h1:=ref12_Valid ps hs
 have hl:=hs.procs
 by_cases hv:validF ps=true∧ts.length=ps.length
 ·have hvl:(ts.length:Int)=ps.length:=by omega
  rw[hv.1] at h1
  have hhit:=fun p hp=>conF_hit hv (p:=p) hp
  have hzero:=conF_zero hv
  generalize conF ps ts=C at *
  refine PC.enter 34 [.tmp 4] [2] Proofs.Tryz.func10 rfl rfl rfl rfl rfl (by simp) (AWp.of ?_);simp only[go_sem]
  refine Wk ?_
  refine Sd ?_
  refine(h1).val.use ?_;simp only[go_sem,hvl]
  refine W1 hvl ?_
  refine AWp.block (AWp.count 5 ts.length [] [1,2] (fun p vs L=>L=[]∧∀q (hq:q<ts.length),q<p→lclF ps q 0 ts[q]=0) rfl rfl ⟨rfl,fun q hq h=>by omega⟩ ?_)
  rintro p vs L hp - ⟨rfl,hJ⟩
  simp only[go_sem]
  refine Wk ?_
  refine⟨fun h2 => ?_,fun h2 => ?_⟩
  ·have hpt:p<ts.length:=by omega
   have hgt:=getD_map (f:=aPd) hpt
   have hlf:=ref29_LocalFault ps hs p 0 ts[p] (hz _ (List.getElem_mem hpt))
   have hh:=hhit p hpt hJ
   generalize hE:lclF ps p 0 ts[p]=e at *
   generalize hT:ts[p]=t at *
   obtain⟨k0,n,pp,q,s,l⟩:=t
   simp only[aPd_mk] at *
   refine AWp.seq (AWp.block (AWp.seq ?_))
   repeat(first|(with_reducible refine AWp.seq ?_)|(with_reducible refine AWp.block ?_))
   refine AWp.mix mixed [0,1,2,3,4,5,6,7] .done (by kernel_rfl) ?_;simp only[go_sem,hgt]
   refine Sd ?_
   refine Sd ?_
   refine Gc hlf ?_
   refine Sd ?_
   refine Wk ?_
   refine⟨fun h3 => ?_,fun h3 => ?_⟩
   ·refine Wk ?_
    refine ret_eq ?_;simp only[go_sem]
    rw[hh h3]
   ·refine Wk ?_
    refine⟨_,List.Sublist.refl _,rfl,fun j hj hjp => ?_⟩
    by_cases ej:j=p
    ·subst ej;rw[hT,hE,h3]
    ·exact hJ j hj (by omega)
  ·refine Wk ?_
   refine ret_eq ?_;simp only[go_sem]
   rw[hzero fun q hq=>hJ q hq (by omega)]
 ·rw[conF_bad hv]
  by_cases hv1:validF ps=true
  ·have hvl:¬(ts.length:Int)=ps.length:=fun e=>hv ⟨hv1,by omega⟩
   rw[hv1] at h1
   refine PC.enter 34 [.tmp 4] [2] Proofs.Tryz.func10 rfl rfl rfl rfl rfl (by simp) (AWp.of ?_);simp only[go_sem]
   refine Wk ?_
   refine Sd ?_
   refine(h1).val.use ?_;simp only[go_sem,hvl]
   refine W1 hvl ?_
   refine ret_eq ?_;simp only[go_sem]
  ·rw[show validF ps=false by simpa using hv1] at h1
   refine PC.enter 34 [.tmp 4] [2] Proofs.Tryz.func10 rfl rfl rfl rfl rfl (by simp) (AWp.of ?_);simp only[go_sem]
   refine Wk ?_
   refine Sd ?_
   refine(h1).val.use ?_;simp only[go_sem]
   refine Wk ?_
   refine ret_eq ?_;simp only[go_sem]
def leqF (a b:List Int):Bool:=decide (a.length=b.length) && (List.range a.length).all fun i=>decide (a.getD i 0≤b.getD i 0)
theorem leqF_iff {a b:List Int} : leqF a b=true↔a.length=b.length∧∀i,i<a.length→a.getD i 0≤b.getD i 0:=by
 unfold leqF
 rw[Bool.and_eq_true,List.all_eq_true,decide_eq_true_eq]
 exact⟨fun h=>⟨h.1,fun i hi=>of_decide_eq_true (h.2 i (List.mem_range.2 hi))⟩,fun h=>⟨h.1,fun i hi=>decide_eq_true (h.2 i (List.mem_range.1 hi))⟩⟩
def takC (c:List Int) (p:Nat):List Int:=c.set p (cAt c p - 1)
def remB (ps:List Pr) (c:List Int) (p:Nat):Bool:=decide (0<cAt c p) && isF ps (takC c p)
def remN (ps:List Pr) (c:List Int) (k:Nat):Nat:=((List.range k).filter (remB ps c)).length
def irrF (ps:List Pr) (c:List Int):Bool:=decide (remN ps c c.length=1)
section
variable {ps:List Pr} {c:List Int}
variable {j:List Int} {ch:Int→Int→Int}
end
section
variable {ps:List Pr} {c:List Int}
end
def ordL (a b:List Int):Prop:=a.sum<b.sum∨(a.sum=b.sum∧cmpL a b<0)
theorem isF_given {ps:List Pr} (hv:validF ps=true) {c:List Int} : givenF ps [c] []=0↔isF ps c=true:=by
 rw[givenL,isF_iff];simp [hv]
theorem leq_iff_at {a b:List Int} : leqF a b=true↔a.length=b.length∧∀p:Nat,p<a.length→cAt a p≤cAt b p:=leqF_iff
theorem leq_sum:∀ {a b:List Int},leqF a b=true→a.sum≤b.sum∧(a.sum=b.sum→a=b)
 | [],[],_=>⟨Int.le_refl _,fun _=>rfl⟩
 | [],_ :: _,h=>by have:=(leqF_iff.1 h).1;simp at this
 | _ :: _,[],h=>by have:=(leqF_iff.1 h).1;simp at this
 | x :: a,y :: b,h=>by
  obtain⟨h1,h2⟩:=leqF_iff.1 h
  have h0:x≤y:=by simpa using h2 0 (by simp)
  obtain⟨i1,i2⟩:=leq_sum (a:=a) (b:=b) (leqF_iff.2 ⟨by simpa using h1,fun i hi=>by have:=h2 (i+1) (by simpa using hi);simpa using this⟩)
  rw[List.sum_cons,List.sum_cons]
  refine⟨by omega,fun h => ?_⟩
  rw[i2 (by omega),show x=y by omega]
section
variable {A:List (List Int)} (hA:A.Pairwise ordL)
include hA
end
def ptF (ps:List Pr) (p i:Nat):List Int:=closeF ps (stC ps.length p ((i:Int)+1))
section
variable {ps:List Pr} (hv:validF ps=true) {p:Nat} (hp:p<ps.length) {i:Nat} (hi:i<ps[p].evs.length)
include hv hp hi
theorem pt_is:isF ps (ptF ps p i)=true:=by
 obtain⟨a1,a2⟩:=stC_ok (k:=(i:Int)+1) hp (by omega) (by omega)
 obtain⟨b1,b2,_⟩:=closeF_ok hv a1 a2
 exact isF_iff.2 ⟨b1,b2,closeF_closed hv a1 a2⟩
theorem pt_has:(i:Int)+1≤cAt (ptF ps p i) p:=by
 obtain⟨a1,a2⟩:=stC_ok (k:=(i:Int)+1) hp (by omega) (by omega)
 have:=closeF_ge hv a1 a2 p hp
 rw[stC_cAt hp,if_pos rfl] at this
 exact this
end
theorem pt_least {ps:List Pr} (hv:validF ps=true) {p:Nat} (hp:p<ps.length) {i:Nat} {d:List Int} (hd:isF ps d=true) (h:(i:Int)+1≤cAt d p):∀q,q<ps.length→cAt (ptF ps p i) q≤cAt d q:=by
 obtain⟨d1,d2,d3⟩:=isF_iff.1 hd
 have:=need_le hv d1 d2 d3 (q:=p) (k:=i+1) hp (by omega)
 have e:(((i+1:Nat):Nat):Int)=(i:Int)+1:=by omega
 rw[e] at this
 exact this
theorem tak_at {c:List Int} {p q:Nat} (hq:q<c.length):cAt (takC c p) q=if p=q then cAt c p - 1 else cAt c q:=by
 unfold takC;rw[setc_cAt hq]
theorem rem_is {ps:List Pr} {c:List Int} {p:Nat} (h:remB ps c p=true):0<cAt c p∧isF ps (takC c p)=true:=by
 unfold remB at h
 rw[Bool.and_eq_true,decide_eq_true_eq] at h
 exact h
theorem rem_pt {ps:List Pr} (hv:validF ps=true) {p:Nat} (hp:p<ps.length) {i:Nat} (hi:i<ps[p].evs.length) {q:Nat} (hq:q<ps.length) (h:remB ps (ptF ps p i) q=true):q=p∧cAt (ptF ps p i) p=(i:Int)+1:=by
 obtain⟨h0,ht⟩:=rem_is h
 have hl:=(isF_iff.1 (pt_is hv hp hi)).1
 have hh:=pt_has hv hp hi
 by_cases hx:(i:Int)+1≤cAt (takC (ptF ps p i) q) p
 ·have:=pt_least hv hp ht hx q hq
  rw[tak_at (by omega),if_pos rfl] at this
  omega
 ·rw[tak_at (by omega)] at hx
  split at hx
  ·rename_i e;subst e;exact⟨rfl,by omega⟩
  ·omega
theorem filt_one {f:Nat→Bool} : ∀ {n:Nat},((List.range n).filter f).length=1↔∃p,p<n∧f p=true∧∀q,q<n→f q=true→q=p
 | 0=>by simp
 | n+1=>by
  have ih:=filt_one (f:=f) (n:=n)
  rw[List.range_succ,List.filter_append,List.length_append]
  cases h:f n with
  | false =>
   simp only[List.filter_cons_of_neg (by rw[h];decide:¬f n=true),List.filter_nil,List.length_nil,Nat.add_zero]
   rw[ih]
   constructor
   ·rintro⟨p,h1,h2,h3⟩
    exact⟨p,by omega,h2,fun q hq hf=>h3 q (by
     by_cases e:q=n
     ·subst e;rw[h] at hf;cases hf
     ·omega) hf⟩
   ·rintro⟨p,h1,h2,h3⟩
    refine⟨p,?_,h2,fun q hq=>h3 q (by omega)⟩
    by_cases e:p=n
    ·subst e;rw[h] at h2;cases h2
    ·omega
  | true =>
   simp only[List.filter_cons_of_pos h,List.filter_nil,List.length_cons,List.length_nil]
   constructor
   ·intro h1
    have h0:(List.range n).filter f=[]:=List.eq_nil_of_length_eq_zero (by omega)
    rw[List.filter_eq_nil_iff] at h0
    refine⟨n,by omega,h,fun q hq hf => ?_⟩
    by_cases e:q=n
    ·exact e
    ·exact absurd hf (h0 q (List.mem_range.2 (by omega)))
   ·rintro⟨p,h1,h2,h3⟩
    have e:n=p:=h3 n (by omega) h
    have h0:(List.range n).filter f=[]:=List.filter_eq_nil_iff.2 fun q hq hf=>by
     have:=h3 q (by have:=List.mem_range.1 hq;omega) hf
     have:=List.mem_range.1 hq
     omega
    rw[h0];rfl
theorem irr_iff {ps:List Pr} {c:List Int} : irrF ps c=true↔∃p,p<c.length∧remB ps c p=true∧∀q,q<c.length→remB ps c q=true→q=p:=by
 unfold irrF remN
 rw[decide_eq_true_eq]
 exact filt_one
theorem irr_pt {ps:List Pr} (hv:validF ps=true) {p:Nat} (hp:p<ps.length) {i:Nat} (hi:i<ps[p].evs.length):irrF ps (ptF ps p i)=true∧cAt (ptF ps p i) p=(i:Int)+1∧remB ps (ptF ps p i) p=true:=by
 have his:=pt_is hv hp hi
 obtain⟨hl,hr,hcl⟩:=isF_iff.1 his
 have hh:=pt_has hv hp hi
 obtain⟨q,hq,h0,r1,r2⟩:=cut_remove hv hl hr hcl ⟨p,hp,by omega⟩
 have hrm:remB ps (ptF ps p i) q=true:=by
  unfold remB
  rw[decide_eq_true h0,Bool.true_and]
  exact isF_iff.2 ⟨by unfold takC;rw[List.length_set];exact hl,r1,r2⟩
 obtain⟨rfl,he⟩:=rem_pt hv hp hi hq hrm
 exact⟨irr_iff.2 ⟨q,by omega,hrm,fun r hr hrr=>(rem_pt hv hp hi (by omega) hrr).1⟩,he,hrm⟩
end Go.AL
end
