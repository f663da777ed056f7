/- Texts of this claim's proof: WAw, WSr, WOf, WWl, WCt, WLv, WSn, WMk, WMr, WMn. No condition. -/
import Derived.Test.YtplamfpmmogbeaaGreatDoorM6
import Derived.Test.YtplamfpmmogbeaaGreatDoorM12
import Derived.Test.YtplamfpmmogbeaaGreatDoorM10
import Derived.Test.YtplamfpmmogbeaaGreatDoorM8
section
namespace Go.AL
open Go Go.RowKit
set_option maxRecDepth 4000
theorem AWp.only {C:Cfg} {cd:Code} {Q:AQ} {ρ:Env} {L:AHeap} (ks:List Nat) (h:AWp C cd Q (ks.zip (ks.map (get ρ))) L):AWp C cd Q ρ L :=
 AWp.st (fun _w0 _M _A0 _a _w hh=>st_forget hh (get_zip ks ρ)) h
def aSp (s:Int × Int × Int):AV:=.agg [ai s.1,ai s.2.1,ai s.2.2]
def aSps (l:List (Int × Int × Int)):AV:=.sl 3 (l.map aSp)
theorem stC_cAt {n p q:Nat} {k:Int} (hq:q<n):cAt (stC n p k) q=if p=q then k else 0:=by
 rw[cAt_nat (by rw[stC_len];exact hq)]
 unfold stC
 rw[List.getElem_set,List.getElem_replicate]
theorem need_le {ps:List Pr} (hv:validF ps=true) {d:List Int} (hd:d.length=ps.length) (hr:inRangeF ps d=true) (hcl:closedF ps d=true) {q k:Nat} (hq:q<ps.length) (hk:(k:Int)≤cAt d q):∀p,p<ps.length→cAt (closeF ps (stC ps.length q k)) p≤cAt d p:=by
 have h0:=(inRange_iff hd).1 hr
 obtain⟨a1,a2⟩:=stC_ok (k:=(k:Int)) hq (by omega) (by have:=(h0 q hq).2;omega)
 refine closeF_least hv hd hcl a1 a2 fun p hp => ?_
 rw[stC_cAt hp]
 split
 ·rename_i e;subst e;exact hk
 ·exact(h0 p hp).1
theorem peer_ne {ps:List Pr} (hv:validF ps=true) {p:Nat} (hp:p<ps.length) {i:Nat} (hi:i<ps[p].evs.length) (hk:ps[p].evs[i].kind=3):ps[p].evs[i].peer.toNat ≠ p:=by
 have h:=(evF_parts hp hi).1 (evF_of_valid hv hp hi)
 have h:=h.1
 unfold formedI at h
 rw[if_neg (by omega),if_pos (.inr hk)] at h
 simp only[Bool.and_eq_true,Bool.not_eq_true',decide_eq_false_iff_not] at h
 have h0:=h.1.1
 unfold inI at h0
 simp only[Bool.and_eq_true,decide_eq_true_eq] at h0
 intro e
 exact h.1.2 (by omega)
section
variable {ps:List Pr} {E:Elim}
end
theorem noreach {ps:List Pr} (hv:validF ps=true) {x:Eid} (hx:VEv ps x):¬Reach ps x x:=by
 obtain⟨p,hp,i,hi,rfl⟩:=hx
 have h0:=valid_cyc hv
 unfold cycF at h0
 rw[Option.map_eq_none_iff,List.find?_eq_none] at h0
 simpa using h0 _ (List.mem_of_getElem? (evIds_get hp hi))
theorem reach_trans {ps:List Pr} {a b c:Eid} (h1:Reach ps a b) (h2:Reach ps b c):Reach ps a c:=by
 induction h2 with
 | single h=>exact .tail h1 h
 | tail _ h ih=>exact .tail ih h
theorem countP_lt {α:Type} {p q:α→Bool} : ∀ {l:List α},(∀a ∈ l,p a=true→q a=true)→(∃a ∈ l,p a=false∧q a=true)→l.countP p<l.countP q
 | [],_,⟨a,h,_⟩=>by cases h
 | b :: l,h1,⟨a,ha,h2,h3⟩=>by
  have hle:l.countP p≤l.countP q:=List.countP_mono_left fun a ha h=>h1 a (List.mem_cons_of_mem _ ha) h
  rw[List.countP_cons,List.countP_cons]
  have hb:=h1 b List.mem_cons_self
  rcases List.mem_cons.1 ha with rfl|ha
  ·rw[h2,h3];simp;omega
  ·have:=countP_lt (l:=l) (fun a ha h=>h1 a (List.mem_cons_of_mem _ ha) h) ⟨a,ha,h2,h3⟩
   by_cases e:p b=true
   ·rw[e,hb e];omega
   ·rw[if_neg e];split <;> omega
open Classical in
noncomputable def anc (ps:List Pr) (x:Eid):Nat:=(evIds ps).countP fun e=>decide (Reach ps e.1 x)
theorem anc_lt {ps:List Pr} (hv:validF ps=true) {x y:Eid} (hx:VEv ps x) (h:Reach ps x y):anc ps x<anc ps y:=by
 classical
 unfold anc
 refine countP_lt (fun a _ ha=>decide_eq_true (reach_trans (of_decide_eq_true ha) h)) ?_
 obtain⟨e,he,e1⟩:=List.mem_map.1 hx.mem
 exact⟨e,he,decide_eq_false (by rw[e1];exact noreach hv hx),decide_eq_true (by rw[e1];exact h)⟩
theorem nx_line {ps:List Pr} (hm:msgF ps=none) {p:Nat} (hp:p<ps.length) {j:Nat} (hj:j+1<ps[p].evs.length):Nx ps ((p:Int),(j:Int)+1) ((p:Int),((j+1:Nat):Int)+1):=by
 refine((dirL_iff hm hp hj _).1 ?_).2
 unfold dirL
 rw[List.mem_append,if_pos (by omega)]
 exact .inl (by simp)
theorem nx_send {ps:List Pr} (hm:msgF ps=none) {p:Nat} (hp:p<ps.length) {i:Nat} (hi:i<ps[p].evs.length) (hk:ps[p].evs[i].kind=3):Nx ps (sndr ps ps[p].evs[i].msg) ((p:Int),(i:Int)+1):=by
 refine((dirL_iff hm hp hi _).1 ?_).2
 unfold dirL
 rw[List.mem_append,evq_get hp hi,if_pos hk]
 exact .inr (by simp)
theorem reach_line {ps:List Pr} (hm:msgF ps=none) {p:Nat} (hp:p<ps.length) {i:Nat} : ∀ {j:Nat},i<j→j<ps[p].evs.length→Reach ps ((p:Int),(i:Int)+1) ((p:Int),(j:Int)+1)
 | 0,h,_=>by omega
 | j+1,h,hj=>by
  by_cases e:i=j
  ·subst e;exact .single (nx_line hm hp hj)
  ·exact .tail (reach_line hm hp (by omega) (by omega)) (nx_line hm hp hj)
theorem anc_line {ps:List Pr} (hv:validF ps=true) {p:Nat} (hp:p<ps.length) {i j:Nat} (hij:i≤j) (hj:j<ps[p].evs.length):anc ps ((p:Int),(i:Int)+1)≤anc ps ((p:Int),(j:Int)+1):=by
 by_cases e:i=j
 ·subst e;exact Nat.le_refl _
 ·exact Nat.le_of_lt (anc_lt hv ⟨p,hp,i,by omega,rfl⟩ (reach_line (valid_parts hv).2.2 hp (by omega) hj))
theorem argmax (f:Nat→Nat) (P:Nat→Prop):∀n,(∃p,p<n∧P p)→∃p,p<n∧P p∧∀q,q<n→P q→f q≤f p
 | 0,⟨p,h,_⟩=>by omega
 | n+1,⟨p,hp,h⟩=>by
  classical
  by_cases hx:∃p,p<n∧P p
  ·obtain⟨m,h1,h2,h3⟩:=argmax f P n hx
   by_cases hn:P n∧f m<f n
   ·refine⟨n,by omega,hn.1,fun q hq hP => ?_⟩
    by_cases e:q=n
    ·subst e;exact Nat.le_refl _
    ·have:=h3 q (by omega) hP;omega
   ·refine⟨m,by omega,h2,fun q hq hP => ?_⟩
    by_cases e:q=n
    ·subst e
     have:¬f m<f q:=fun h=>hn ⟨hP,h⟩
     omega
    ·exact h3 q (by omega) hP
  ·have:p=n:=by
    by_cases e:p=n
    ·exact e
    ·exact absurd ⟨p,by omega,h⟩ hx
   subst this
   refine⟨p,by omega,h,fun q hq hP => ?_⟩
   by_cases e:q=p
   ·subst e;exact Nat.le_refl _
   ·exact absurd ⟨q,by omega,hP⟩ hx
theorem setc_cAt {d:List Int} {p q:Nat} {z:Int} (hq:q<d.length):cAt (d.set p z) q=if p=q then z else cAt d q:=by
 rw[cAt_nat (by rw[List.length_set];exact hq),List.getElem_set]
 split
 ·rfl
 ·rw[cAt_nat hq]
theorem cut_remove {ps:List Pr} (hv:validF ps=true) {c:List Int} (hl:c.length=ps.length) (hr:inRangeF ps c=true) (hcl:closedF ps c=true) (h0:∃p,p<ps.length∧0<cAt c p) :
  ∃p,p<ps.length∧0<cAt c p∧inRangeF ps (c.set p (cAt c p - 1))=true∧closedF ps (c.set p (cAt c p - 1))=true:=by
 have hm:=(valid_parts hv).2.2
 have hrr:=(inRange_iff hl).1 hr
 obtain⟨p,hp,hp0,hmax⟩:=argmax (fun p=>anc ps ((p:Int),cAt c p)) (fun p=>0<cAt c p) ps.length h0
 refine⟨p,hp,hp0,(inRange_iff (by rw[List.length_set];exact hl)).2 fun q hq => ?_,closed_iff.2 fun q hq i hi hk hle => ?_⟩
 ·rw[setc_cAt (by omega)]
  split
  ·rename_i e;subst e;have:=hrr p hp;omega
  ·exact hrr q hq
 ·have hle':(i:Int)+1≤cAt c q:=by
   rw[setc_cAt (by omega)] at hle
   split at hle
   ·rename_i e;subst e;omega
   ·exact hle
  have h1:=closed_iff.1 hcl q hq i hi hk hle'
  obtain⟨s,hs,j,hj,e,_,_⟩:=sndr_some (recv_sndr hm hq hi hk)
  have hn:=nx_send hm hq hi hk
  rw[e] at h1 hn ⊢
  simp only at h1 ⊢
  rw[setc_cAt (by omega)]
  split
  ·rename_i es;subst es
   by_cases hj2:(j:Int)+1=cAt c p
   ·exfalso
    have h2:=anc_lt hv ⟨p,hs,j,hj,rfl⟩ (.single hn)
    have h3:=hmax q hq (by omega)
    have hq2:=(hrr q hq).2
    have h4:=anc_line hv hq (i:=i) (j:=(cAt c q).toNat - 1) (by omega) (by omega)
    have h5:(((cAt c q).toNat - 1:Nat):Int)+1=cAt c q:=by omega
    rw[h5] at h4
    rw[hj2] at h2
    omega
   ·omega
  ·exact h1
def isF (ps:List Pr) (c:List Int):Bool:=(decide (c.length=ps.length) && inRangeF ps c) && closedF ps c
theorem isF_iff {ps:List Pr} {c:List Int} : isF ps c=true↔c.length=ps.length∧inRangeF ps c=true∧closedF ps c=true:=by
 unfold isF
 rw[Bool.and_eq_true,Bool.and_eq_true,decide_eq_true_eq,and_assoc]
def stpC (c:List Int) (p:Nat):List Int:=c.set p (cAt c p+1)
def nx1 (ps:List Pr) (c:List Int) (p:Nat):List (List Int):=if cAt c p<nev ps p∧isF ps (stpC c p)=true then [stpC c p] else []
def nextT (ps:List Pr) (c:List Int) (k:Nat):List (List Int):=(List.range k).flatMap (nx1 ps c)
def nextL (ps:List Pr) (c:List Int):List (List Int):=nextT ps c c.length
theorem nextT_succ (ps:List Pr) (c:List Int) (k:Nat):nextT ps c (k+1)=nextT ps c k ++ nx1 ps c k:=by unfold nextT;rw[List.range_succ,List.flatMap_append];simp
theorem nextT_len (ps:List Pr) (c:List Int):∀k,(nextT ps c k).length≤k
 | 0=>by simp [nextT]
 | k+1=>by
  rw[nextT_succ,List.length_append]
  have:=nextT_len ps c k
  unfold nx1
  split <;> simp <;> omega
def lexF:List Int→List Int→Bool
 | a :: x,b :: y=>if a=b then lexF x y else decide (a<b)
 | _,_=>false
def befF (a b:List Int):Bool:=if a.sum=b.sum then lexF a b else decide (a.sum<b.sum)
def insF (l:List (List Int)) (c:List Int):List (List Int):=if (l.dropWhile fun x=>befF x c).head?=some c then l else (l.takeWhile fun x=>befF x c) ++ c :: l.dropWhile fun x=>befF x c
theorem insF_len (l:List (List Int)) (c:List Int):(insF l c).length≤l.length+1:=by
 unfold insF
 split
 ·omega
 ·have h:=congrArg List.length (List.takeWhile_append_dropWhile (p:=fun x=>befF x c) (l:=l))
  rw[List.length_append] at h
  rw[List.length_append,List.length_cons];omega
theorem mem_insF {l:List (List Int)} {c d:List Int} : d ∈ insF l c↔d ∈ l∨d=c:=by
 unfold insF
 have h:=List.takeWhile_append_dropWhile (p:=fun x=>befF x c) (l:=l)
 split
 ·rename_i hh
  constructor
  ·exact .inl
  ·rintro(h1|rfl)
   ·exact h1
   ·rw[← h]
    exact List.mem_append_right _ (List.mem_of_mem_head? hh)
 ·rw[List.mem_append,List.mem_cons]
  constructor
  ·rintro(h1|h1|h1)
   ·left;rw[← h];exact List.mem_append_left _ h1
   ·exact .inr h1
   ·left;rw[← h];exact List.mem_append_right _ h1
  ·rintro(h1|h1)
   ·rw[← h,List.mem_append] at h1
    rcases h1 with h1|h1
    ·exact .inl h1
    ·exact .inr (.inr h1)
   ·exact .inr (.inl h1)
def insL (acc l:List (List Int)):List (List Int):=l.foldl insF acc
theorem mem_insL {d:List Int} : ∀ {l acc:List (List Int)},d ∈ insL acc l↔d ∈ acc∨d ∈ l
 | [],acc=>by simp [insL]
 | c :: l,acc=>by
  show d ∈ insL (insF acc c) l↔_
  rw[mem_insL,mem_insF,List.mem_cons,or_assoc]
theorem insL_len:∀(l acc:List (List Int)),(insL acc l).length≤acc.length+l.length
 | [],acc=>by simp [insL]
 | c :: l,acc=>by
  have:=insL_len l (insF acc c)
  have:=insF_len acc c
  show (insL (insF acc c) l).length≤_
  rw[List.length_cons];omega
def moreT (ps:List Pr) (lv:List (List Int)):List (List Int):=lv.foldl (fun acc c=>insL acc (nextL ps c)) []
theorem mem_more {ps:List Pr} {d:List Int} : ∀ {lv acc:List (List Int)},d ∈ lv.foldl (fun acc c=>insL acc (nextL ps c)) acc↔d ∈ acc∨∃c ∈ lv,d ∈ nextL ps c
 | [],acc=>by simp
 | c :: lv,acc=>by
  rw[List.foldl_cons,mem_more,mem_insL,or_assoc]
  simp
def levF (ps:List Pr):Nat→List (List Int)
 | 0=>[List.replicate ps.length 0]
 | k+1=>moreT ps (levF ps k)
theorem mem_nextL {ps:List Pr} {c d:List Int} : d ∈ nextL ps c↔∃p,p<c.length∧cAt c p<nev ps p∧isF ps (stpC c p)=true∧d=stpC c p:=by
 unfold nextL nextT
 rw[List.mem_flatMap]
 constructor
 ·rintro⟨p,hp,h⟩
  unfold nx1 at h
  split at h
  ·rename_i h1
   exact⟨p,List.mem_range.1 hp,h1.1,h1.2,by simpa using h⟩
  ·cases h
 ·rintro⟨p,hp,h1,h2,rfl⟩
  exact⟨p,List.mem_range.2 hp,by unfold nx1;rw[if_pos ⟨h1,h2⟩];simp⟩
theorem sum_stpC {c:List Int} {p:Nat} (hp:p<c.length):(stpC c p).sum=c.sum+1:=by
 unfold stpC
 have h:=sum_set c p (cAt c p+1) hp
 have e:cAt c p=c.getD p 0:=by unfold cAt;simp
 rw[h,e];omega
theorem isF_nonneg {ps:List Pr} {c:List Int} (h:isF ps c=true):∀z ∈ c,0≤z:=fun z hz=>by
 obtain⟨h1,h2,_⟩:=isF_iff.1 h
 obtain⟨p,hp,rfl⟩:=List.getElem_of_mem hz
 have:=((inRange_iff h1).1 h2 p (by omega)).1
 rwa [cAt_nat hp] at this
theorem isF_zero {ps:List Pr} : isF ps (List.replicate ps.length 0)=true:=by
 have e:∀q:Int,cAt (List.replicate ps.length 0) q=0:=fun q=>by
  unfold cAt
  rw[List.getD_eq_getElem?_getD,List.getElem?_replicate]
  split <;> rfl
 have hl:(List.replicate ps.length (0:Int)).length=ps.length:=List.length_replicate
 refine isF_iff.2 ⟨hl,(inRange_iff hl).2 fun p hp => ?_,closed_iff.2 fun p hp i hi hk hle => ?_⟩
 ·rw[e];omega
 ·rw[e] at hle;omega
theorem mem_levF {ps:List Pr} (hv:validF ps=true):∀(k:Nat) (c:List Int),c ∈ levF ps k↔isF ps c=true∧c.sum=k
 | 0,c=>by
  show c ∈ [List.replicate ps.length 0]↔_
  rw[List.mem_singleton]
  constructor
  ·rintro rfl
   refine⟨isF_zero,?_⟩
   have:∀n,(List.replicate n (0:Int)).sum=0:=fun n=>by
    induction n with
    | zero=>rfl
    | succ n ih=>rw[List.replicate_succ,List.sum_cons,ih];rfl
   rw[this];rfl
  ·rintro⟨h,hs⟩
   obtain⟨h1,h2,h3⟩:=isF_iff.1 h
   have hn:=isF_nonneg h
   apply List.ext_getElem (by rw[h1,List.length_replicate])
   intro i hi hi2
   have:=sum_ge c hn (List.getElem_mem hi)
   have:=hn _ (List.getElem_mem hi)
   rw[List.getElem_replicate]
   rw[hs] at *
   omega
 | k+1,c=>by
  show c ∈ moreT ps (levF ps k)↔_
  unfold moreT
  rw[mem_more]
  constructor
  ·rintro(h|⟨d,hd,hc⟩)
   ·cases h
   ·obtain⟨p,hp,_,h2,rfl⟩:=mem_nextL.1 hc
    have:=((mem_levF hv k d).1 hd).2
    exact⟨h2,by rw[sum_stpC hp,this];omega⟩
  ·rintro⟨h,hs⟩
   obtain⟨h1,h2,h3⟩:=isF_iff.1 h
   have hn:=isF_nonneg h
   have hpos:∃p,p<ps.length∧0<cAt c p:=by
    by_cases hx:∃p,p<ps.length∧0<cAt c p
    ·exact hx
    ·exfalso
     have:∀z ∈ c,z=0:=fun z hz=>by
      obtain⟨p,hp,rfl⟩:=List.getElem_of_mem hz
      have:=hn _ hz
      have h4:¬0<cAt c p:=fun h=>hx ⟨p,by omega,h⟩
      rw[cAt_nat hp] at h4
      omega
     have e:c.sum=0:=by
      clear hs hn h hx h1 h2 h3
      induction c with
      | nil=>rfl
      | cons a c ih =>
       rw[List.sum_cons,this a List.mem_cons_self,ih fun z hz=>this z (List.mem_cons_of_mem _ hz)];rfl
     omega
   obtain⟨p,hp,hp0,r1,r2⟩:=cut_remove hv h1 h2 h3 hpos
   have hpc:p<c.length:=by omega
   have hdl:(c.set p (cAt c p - 1)).length=c.length:=List.length_set
   have hst:stpC (c.set p (cAt c p - 1)) p=c:=by
    unfold stpC
    rw[setc_cAt hpc,if_pos rfl,List.set_set,show cAt c p - 1+1=cAt c p by omega,cAt_nat hpc,List.set_getElem_self]
   refine .inr ⟨c.set p (cAt c p - 1),(mem_levF hv k _).2 ⟨isF_iff.2 ⟨by rw[hdl,h1],r1,r2⟩,?_⟩,mem_nextL.2 ⟨p,by omega,?_,by rw[hst];exact h,hst.symm⟩⟩
   ·have:=sum_stpC (c:=c.set p (cAt c p - 1)) (p:=p) (by omega)
    rw[hst] at this;omega
   ·rw[setc_cAt hpc,if_pos rfl,nev_get hp]
    have:=((inRange_iff h1).1 h2 p hp).2
    omega
theorem sum_totC:∀ {c:List Int},(∀z ∈ c,0≤z)→c.sum=totC c
 | [],_=>rfl
 | a :: c,h=>by
  have h0:=h a List.mem_cons_self
  have:=sum_totC (c:=c) fun z hz=>h z (List.mem_cons_of_mem _ hz)
  unfold totC at *
  rw[List.sum_cons,List.map_cons,List.sum_cons,this]
  omega
theorem sum_le_off {ps:List Pr} {c:List Int} (h:isF ps c=true):c.sum≤off ps ps.length:=by
 obtain⟨h1,h2,_⟩:=isF_iff.1 h
 have h3:=totC_le h1 h2
 have h4:=sum_totC (isF_nonneg h)
 omega
theorem levF_end {ps:List Pr} (hv:validF ps=true) {k:Nat} (h:off ps ps.length<k):levF ps k=[]:=by
 rw[List.eq_nil_iff_forall_not_mem]
 intro c hc
 obtain⟨h1,h2⟩:=(mem_levF hv k c).1 hc
 have:=sum_le_off h1
 omega
theorem levF_nil {ps:List Pr} {k:Nat} (h:levF ps k=[]):∀j,levF ps (k+j)=[]
 | 0=>h
 | j+1=>by
  show moreT ps (levF ps (k+j))=[]
  rw[levF_nil h j];rfl
def cumF (ps:List Pr) (k:Nat):List (List Int):=(List.range k).flatMap (levF ps)
theorem cumF_succ (ps:List Pr) (k:Nat):cumF ps (k+1)=cumF ps k ++ levF ps k:=by unfold cumF;rw[List.range_succ,List.flatMap_append];simp
def cutsF (ps:List Pr):List (List Int):=cumF ps (off ps ps.length+1)
theorem mem_cutsF {ps:List Pr} (hv:validF ps=true) {c:List Int} : c ∈ cutsF ps↔isF ps c=true:=by
 unfold cutsF cumF
 rw[List.mem_flatMap]
 constructor
 ·rintro⟨k,_,h⟩
  exact((mem_levF hv k c).1 h).1
 ·intro h
  have h1:=sum_le_off h
  have h2:0≤c.sum:=sum_nonneg c (isF_nonneg h)
  exact⟨c.sum.toNat,List.mem_range.2 (by omega),(mem_levF hv _ c).2 ⟨h,by omega⟩⟩
theorem cumF_mono {ps:List Pr} {j:Nat} : ∀ {k:Nat},j≤k→(cumF ps j).length≤(cumF ps k).length
 | 0,h=>by
  have:j=0:=by omega
  subst this;exact Nat.le_refl _
 | k+1,h=>by
  by_cases e:j=k+1
  ·subst e;exact Nat.le_refl _
  ·have:=cumF_mono (ps:=ps) (j:=j) (k:=k) (by omega)
   rw[cumF_succ,List.length_append];omega
theorem cumF_end {ps:List Pr} {j:Nat} (h:levF ps j=[]):∀m,cumF ps (j+m)=cumF ps j
 | 0=>rfl
 | m+1=>by
  show cumF ps ((j+m)+1)=_
  rw[cumF_succ,levF_nil h m,List.append_nil,cumF_end h m]
end Go.AL
end
section
namespace Go.AL
open Go Go.RowKit
set_option maxRecDepth 4000
end Go.AL
end
section
namespace Go.AL
open Go Go.RowKit Go.Sort Go.Proofs Go.Shelf
set_option maxRecDepth 4000
end Go.AL
end
section
namespace Go.AL
open Go Go.RowKit
set_option maxRecDepth 4000
def needE (ps:List Pr) (e:Ev):Eid:=if e.kind=3 then sndr ps e.msg else (0,0)
theorem AppSt.snoc {t:TypeId} {k:Nat} {ys:List AV} {x:AV} (b cap n:Nat) (hn:n=ys.length+1):AppSt t k (ys ++ [x]) (.ls b k 0 n cap) [(b,.row t k (ys ++ [x]) cap)]:=by
 subst hn
 have:=AppSt.row (t:=t) (k:=k) b (ys ++ [x]) cap
 rwa [List.length_append] at this
theorem cAt_stp {c:List Int} {p q:Nat} (hq:q<c.length):cAt (stpC c p) q=if p=q then cAt c q+1 else cAt c q:=by
 unfold stpC
 rw[setc_cAt hq]
 split
 ·rename_i e;rw[e]
 ·rfl
theorem stp_iff {ps:List Pr} (hv:validF ps=true) {c:List Int} (hc:isF ps c=true) {p:Nat} (hp:p<ps.length) {i:Nat} (hi:i<ps[p].evs.length) (hci:cAt c p=i) :
  isF ps (stpC c p)=true↔(needE ps ps[p].evs[i]).2≤cAt c (needE ps ps[p].evs[i]).1:=by
 obtain⟨h1,h2,h3⟩:=isF_iff.1 hc
 have hm:=(valid_parts hv).2.2
 have hr:=(inRange_iff h1).1 h2
 have hlen:(stpC c p).length=ps.length:=by unfold stpC;rw[List.length_set,h1]
 have hmono:∀q,q<ps.length→cAt c q≤cAt (stpC c p) q:=fun q hq=>by rw[cAt_stp (by omega)];split <;> omega
 unfold needE
 constructor
 ·intro h
  obtain⟨_,_,g3⟩:=isF_iff.1 h
  by_cases hk:ps[p].evs[i].kind=3
  ·rw[if_pos hk]
   have:=closed_iff.1 g3 p hp i hi hk (by rw[cAt_stp (by omega),if_pos rfl,hci];omega)
   obtain⟨s,hs,j,hj,e,hk2,_⟩:=sndr_some (recv_sndr hm hp hi hk)
   rw[e] at this ⊢
   dsimp only at this ⊢
   rw[cAt_stp (by omega)] at this
   split at this
   ·rename_i es;subst es
    by_cases hji:j=i
    ·subst hji;omega
    ·omega
   ·exact this
  ·rw[if_neg hk]
   have:=(hr 0 (by omega)).1
   simpa using this
 ·intro h
  refine isF_iff.2 ⟨hlen,(inRange_iff hlen).2 fun q hq => ?_,closed_iff.2 fun q hq i' hi' hk hle => ?_⟩
  ·have:=hr q hq
   rw[cAt_stp (by omega)]
   split
   ·rename_i e;subst e;omega
   ·exact this
  ·obtain⟨s,hs,j,hj,e,hk2,_⟩:=sndr_some (recv_sndr hm hq hi' hk)
   have hms:=hmono s hs
   by_cases hnew:q=p∧i'=i
   ·obtain⟨rfl,rfl⟩:=hnew
    rw[if_pos hk,e] at h
    rw[e];dsimp only at h ⊢;omega
   ·have:=closed_iff.1 h3 q hq i' hi' hk (by
     rw[cAt_stp (by omega)] at hle
     split at hle
     ·rename_i e2;subst e2
      have:i' ≠ i:=fun e=>hnew ⟨rfl,e⟩
      omega
     ·exact hle)
    rw[e] at this ⊢;dsimp only at this ⊢;omega
def rdyF (ps:List Pr) (c:List Int) (p:Nat):Bool:=decide (cAt c p<nev ps p∧isF ps (stpC c p)=true)
end Go.AL
end
