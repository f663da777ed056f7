/- Texts of this claim's proof: WCt, WLv, WSn, WMk, WMr, WMn, WCu, WBig, WMl, WMc, WMd, AlGrd, WSs, WSp, WCp, WCk, WEx, WRr, WEy, WPq, WNa, WNb, WTm, WDx, WPu, WNc, WNg, WZ1. No condition. -/
import Derived.Test.YtjblppbkhgihoaaGreatDoorM8
import Derived.Test.YtjblppbkhgihoaaGreatDoorM7
import Derived.Test.YtjblppbkhgihoaaGreatDoorM6
section
namespace Go.AL
open Go Go.RowKit
set_option maxRecDepth 4000
theorem noreach {ps:List Pr} (hv:validF ps=true) {x:Eid} (hx:VEv ps x):¬Reach ps x x:=by
 obtain⟨p,hp,i,hi,rfl⟩:=hx
 have h0:=valid_cyc hv
 unfold cycF at h0
 rw[Option.map_eq_none_iff,List.find?_eq_none] at h0
 simpa using h0 _ (List.mem_of_getElem? (evIds_get hp hi))
theorem reach_trans {ps:List Pr} {a b c:Eid} (h1:Reach ps a b) (h2:Reach ps b c):Reach ps a c:=by
 induction h2 with
 | single h=>exact .tail h1 h
 | tail _ h ih=>exact .tail ih h
theorem countP_lt {α:Type} {p q:α→Bool} : ∀ {l:List α},(∀a ∈ l,p a=true→q a=true)→(∃a ∈ l,p a=false∧q a=true)→l.countP p<l.countP q
 | [],_,⟨a,h,_⟩=>by cases h
 | b :: l,h1,⟨a,ha,h2,h3⟩=>by
  have hle:l.countP p≤l.countP q:=List.countP_mono_left fun a ha h=>h1 a (List.mem_cons_of_mem _ ha) h
  rw[List.countP_cons,List.countP_cons]
  have hb:=h1 b List.mem_cons_self
  rcases List.mem_cons.1 ha with rfl|ha
  ·rw[h2,h3];simp;omega
  ·have:=countP_lt (l:=l) (fun a ha h=>h1 a (List.mem_cons_of_mem _ ha) h) ⟨a,ha,h2,h3⟩
   by_cases e:p b=true
   ·rw[e,hb e];omega
   ·rw[if_neg e];split <;> omega
open Classical in
noncomputable def anc (ps:List Pr) (x:Eid):Nat:=(evIds ps).countP fun e=>decide (Reach ps e.1 x)
theorem anc_lt {ps:List Pr} (hv:validF ps=true) {x y:Eid} (hx:VEv ps x) (h:Reach ps x y):anc ps x<anc ps y:=by
 classical
 unfold anc
 refine countP_lt (fun a _ ha=>decide_eq_true (reach_trans (of_decide_eq_true ha) h)) ?_
 obtain⟨e,he,e1⟩:=List.mem_map.1 hx.mem
 exact⟨e,he,decide_eq_false (by rw[e1];exact noreach hv hx),decide_eq_true (by rw[e1];exact h)⟩
theorem nx_line {ps:List Pr} (hm:msgF ps=none) {p:Nat} (hp:p<ps.length) {j:Nat} (hj:j+1<ps[p].evs.length):Nx ps ((p:Int),(j:Int)+1) ((p:Int),((j+1:Nat):Int)+1):=by
 refine((dirL_iff hm hp hj _).1 ?_).2
 unfold dirL
 rw[List.mem_append,if_pos (by omega)]
 exact .inl (by simp)
theorem nx_send {ps:List Pr} (hm:msgF ps=none) {p:Nat} (hp:p<ps.length) {i:Nat} (hi:i<ps[p].evs.length) (hk:ps[p].evs[i].kind=3):Nx ps (sndr ps ps[p].evs[i].msg) ((p:Int),(i:Int)+1):=by
 refine((dirL_iff hm hp hi _).1 ?_).2
 unfold dirL
 rw[List.mem_append,evq_get hp hi,if_pos hk]
 exact .inr (by simp)
theorem reach_line {ps:List Pr} (hm:msgF ps=none) {p:Nat} (hp:p<ps.length) {i:Nat} : ∀ {j:Nat},i<j→j<ps[p].evs.length→Reach ps ((p:Int),(i:Int)+1) ((p:Int),(j:Int)+1)
 | 0,h,_=>by omega
 | j+1,h,hj=>by
  by_cases e:i=j
  ·subst e;exact .single (nx_line hm hp hj)
  ·exact .tail (reach_line hm hp (by omega) (by omega)) (nx_line hm hp hj)
theorem anc_line {ps:List Pr} (hv:validF ps=true) {p:Nat} (hp:p<ps.length) {i j:Nat} (hij:i≤j) (hj:j<ps[p].evs.length):anc ps ((p:Int),(i:Int)+1)≤anc ps ((p:Int),(j:Int)+1):=by
 by_cases e:i=j
 ·subst e;exact Nat.le_refl _
 ·exact Nat.le_of_lt (anc_lt hv ⟨p,hp,i,by omega,rfl⟩ (reach_line (valid_parts hv).2.2 hp (by omega) hj))
theorem argmax (f:Nat→Nat) (P:Nat→Prop):∀n,(∃p,p<n∧P p)→∃p,p<n∧P p∧∀q,q<n→P q→f q≤f p
 | 0,⟨p,h,_⟩=>by omega
 | n+1,⟨p,hp,h⟩=>by
  classical
  by_cases hx:∃p,p<n∧P p
  ·obtain⟨m,h1,h2,h3⟩:=argmax f P n hx
   by_cases hn:P n∧f m<f n
   ·refine⟨n,by omega,hn.1,fun q hq hP => ?_⟩
    by_cases e:q=n
    ·subst e;exact Nat.le_refl _
    ·have:=h3 q (by omega) hP;omega
   ·refine⟨m,by omega,h2,fun q hq hP => ?_⟩
    by_cases e:q=n
    ·subst e
     have:¬f m<f q:=fun h=>hn ⟨hP,h⟩
     omega
    ·exact h3 q (by omega) hP
  ·have:p=n:=by
    by_cases e:p=n
    ·exact e
    ·exact absurd ⟨p,by omega,h⟩ hx
   subst this
   refine⟨p,by omega,h,fun q hq hP => ?_⟩
   by_cases e:q=p
   ·subst e;exact Nat.le_refl _
   ·exact absurd ⟨q,by omega,hP⟩ hx
theorem setc_cAt {d:List Int} {p q:Nat} {z:Int} (hq:q<d.length):cAt (d.set p z) q=if p=q then z else cAt d q:=by
 rw[cAt_nat (by rw[List.length_set];exact hq),List.getElem_set]
 split
 ·rfl
 ·rw[cAt_nat hq]
theorem cut_remove {ps:List Pr} (hv:validF ps=true) {c:List Int} (hl:c.length=ps.length) (hr:inRangeF ps c=true) (hcl:closedF ps c=true) (h0:∃p,p<ps.length∧0<cAt c p) :
  ∃p,p<ps.length∧0<cAt c p∧inRangeF ps (c.set p (cAt c p - 1))=true∧closedF ps (c.set p (cAt c p - 1))=true:=by
 have hm:=(valid_parts hv).2.2
 have hrr:=(inRange_iff hl).1 hr
 obtain⟨p,hp,hp0,hmax⟩:=argmax (fun p=>anc ps ((p:Int),cAt c p)) (fun p=>0<cAt c p) ps.length h0
 refine⟨p,hp,hp0,(inRange_iff (by rw[List.length_set];exact hl)).2 fun q hq => ?_,closed_iff.2 fun q hq i hi hk hle => ?_⟩
 ·rw[setc_cAt (by omega)]
  split
  ·rename_i e;subst e;have:=hrr p hp;omega
  ·exact hrr q hq
 ·have hle':(i:Int)+1≤cAt c q:=by
   rw[setc_cAt (by omega)] at hle
   split at hle
   ·rename_i e;subst e;omega
   ·exact hle
  have h1:=closed_iff.1 hcl q hq i hi hk hle'
  obtain⟨s,hs,j,hj,e,_,_⟩:=sndr_some (recv_sndr hm hq hi hk)
  have hn:=nx_send hm hq hi hk
  rw[e] at h1 hn ⊢
  simp only at h1 ⊢
  rw[setc_cAt (by omega)]
  split
  ·rename_i es;subst es
   by_cases hj2:(j:Int)+1=cAt c p
   ·exfalso
    have h2:=anc_lt hv ⟨p,hs,j,hj,rfl⟩ (.single hn)
    have h3:=hmax q hq (by omega)
    have hq2:=(hrr q hq).2
    have h4:=anc_line hv hq (i:=i) (j:=(cAt c q).toNat - 1) (by omega) (by omega)
    have h5:(((cAt c q).toNat - 1:Nat):Int)+1=cAt c q:=by omega
    rw[h5] at h4
    rw[hj2] at h2
    omega
   ·omega
  ·exact h1
def isF (ps:List Pr) (c:List Int):Bool:=(decide (c.length=ps.length) && inRangeF ps c) && closedF ps c
theorem isF_iff {ps:List Pr} {c:List Int} : isF ps c=true↔c.length=ps.length∧inRangeF ps c=true∧closedF ps c=true:=by
 unfold isF
 rw[Bool.and_eq_true,Bool.and_eq_true,decide_eq_true_eq,and_assoc]
def stpC (c:List Int) (p:Nat):List Int:=c.set p (cAt c p+1)
def nx1 (ps:List Pr) (c:List Int) (p:Nat):List (List Int):=if cAt c p<nev ps p∧isF ps (stpC c p)=true then [stpC c p] else []
def nextT (ps:List Pr) (c:List Int) (k:Nat):List (List Int):=(List.range k).flatMap (nx1 ps c)
def nextL (ps:List Pr) (c:List Int):List (List Int):=nextT ps c c.length
theorem nextT_succ (ps:List Pr) (c:List Int) (k:Nat):nextT ps c (k+1)=nextT ps c k ++ nx1 ps c k:=by unfold nextT;rw[List.range_succ,List.flatMap_append];simp
theorem nextT_len (ps:List Pr) (c:List Int):∀k,(nextT ps c k).length≤k
 | 0=>by simp [nextT]
 | k+1=>by
  rw[nextT_succ,List.length_append]
  have:=nextT_len ps c k
  unfold nx1
  split <;> simp <;> omega
def lexF:List Int→List Int→Bool
 | a :: x,b :: y=>if a=b then lexF x y else decide (a<b)
 | _,_=>false
def befF (a b:List Int):Bool:=if a.sum=b.sum then lexF a b else decide (a.sum<b.sum)
def insF (l:List (List Int)) (c:List Int):List (List Int):=if (l.dropWhile fun x=>befF x c).head?=some c then l else (l.takeWhile fun x=>befF x c) ++ c :: l.dropWhile fun x=>befF x c
theorem insF_len (l:List (List Int)) (c:List Int):(insF l c).length≤l.length+1:=by
 unfold insF
 split
 ·omega
 ·have h:=congrArg List.length (List.takeWhile_append_dropWhile (p:=fun x=>befF x c) (l:=l))
  rw[List.length_append] at h
  rw[List.length_append,List.length_cons];omega
theorem mem_insF {l:List (List Int)} {c d:List Int} : d ∈ insF l c↔d ∈ l∨d=c:=by
 unfold insF
 have h:=List.takeWhile_append_dropWhile (p:=fun x=>befF x c) (l:=l)
 split
 ·rename_i hh
  constructor
  ·exact .inl
  ·rintro(h1|rfl)
   ·exact h1
   ·rw[← h]
    exact List.mem_append_right _ (List.mem_of_mem_head? hh)
 ·rw[List.mem_append,List.mem_cons]
  constructor
  ·rintro(h1|h1|h1)
   ·left;rw[← h];exact List.mem_append_left _ h1
   ·exact .inr h1
   ·left;rw[← h];exact List.mem_append_right _ h1
  ·rintro(h1|h1)
   ·rw[← h,List.mem_append] at h1
    rcases h1 with h1|h1
    ·exact .inl h1
    ·exact .inr (.inr h1)
   ·exact .inr (.inl h1)
def insL (acc l:List (List Int)):List (List Int):=l.foldl insF acc
theorem mem_insL {d:List Int} : ∀ {l acc:List (List Int)},d ∈ insL acc l↔d ∈ acc∨d ∈ l
 | [],acc=>by simp [insL]
 | c :: l,acc=>by
  show d ∈ insL (insF acc c) l↔_
  rw[mem_insL,mem_insF,List.mem_cons,or_assoc]
theorem insL_len:∀(l acc:List (List Int)),(insL acc l).length≤acc.length+l.length
 | [],acc=>by simp [insL]
 | c :: l,acc=>by
  have:=insL_len l (insF acc c)
  have:=insF_len acc c
  show (insL (insF acc c) l).length≤_
  rw[List.length_cons];omega
def moreT (ps:List Pr) (lv:List (List Int)):List (List Int):=lv.foldl (fun acc c=>insL acc (nextL ps c)) []
theorem mem_more {ps:List Pr} {d:List Int} : ∀ {lv acc:List (List Int)},d ∈ lv.foldl (fun acc c=>insL acc (nextL ps c)) acc↔d ∈ acc∨∃c ∈ lv,d ∈ nextL ps c
 | [],acc=>by simp
 | c :: lv,acc=>by
  rw[List.foldl_cons,mem_more,mem_insL,or_assoc]
  simp
def levF (ps:List Pr):Nat→List (List Int)
 | 0=>[List.replicate ps.length 0]
 | k+1=>moreT ps (levF ps k)
theorem mem_nextL {ps:List Pr} {c d:List Int} : d ∈ nextL ps c↔∃p,p<c.length∧cAt c p<nev ps p∧isF ps (stpC c p)=true∧d=stpC c p:=by
 unfold nextL nextT
 rw[List.mem_flatMap]
 constructor
 ·rintro⟨p,hp,h⟩
  unfold nx1 at h
  split at h
  ·rename_i h1
   exact⟨p,List.mem_range.1 hp,h1.1,h1.2,by simpa using h⟩
  ·cases h
 ·rintro⟨p,hp,h1,h2,rfl⟩
  exact⟨p,List.mem_range.2 hp,by unfold nx1;rw[if_pos ⟨h1,h2⟩];simp⟩
theorem sum_stpC {c:List Int} {p:Nat} (hp:p<c.length):(stpC c p).sum=c.sum+1:=by
 unfold stpC
 have h:=sum_set c p (cAt c p+1) hp
 have e:cAt c p=c.getD p 0:=by unfold cAt;simp
 rw[h,e];omega
theorem isF_nonneg {ps:List Pr} {c:List Int} (h:isF ps c=true):∀z ∈ c,0≤z:=fun z hz=>by
 obtain⟨h1,h2,_⟩:=isF_iff.1 h
 obtain⟨p,hp,rfl⟩:=List.getElem_of_mem hz
 have:=((inRange_iff h1).1 h2 p (by omega)).1
 rwa [cAt_nat hp] at this
theorem isF_zero {ps:List Pr} : isF ps (List.replicate ps.length 0)=true:=by
 have e:∀q:Int,cAt (List.replicate ps.length 0) q=0:=fun q=>by
  unfold cAt
  rw[List.getD_eq_getElem?_getD,List.getElem?_replicate]
  split <;> rfl
 have hl:(List.replicate ps.length (0:Int)).length=ps.length:=List.length_replicate
 refine isF_iff.2 ⟨hl,(inRange_iff hl).2 fun p hp => ?_,closed_iff.2 fun p hp i hi hk hle => ?_⟩
 ·rw[e];omega
 ·rw[e] at hle;omega
theorem mem_levF {ps:List Pr} (hv:validF ps=true):∀(k:Nat) (c:List Int),c ∈ levF ps k↔isF ps c=true∧c.sum=k
 | 0,c=>by
  show c ∈ [List.replicate ps.length 0]↔_
  rw[List.mem_singleton]
  constructor
  ·rintro rfl
   refine⟨isF_zero,?_⟩
   have:∀n,(List.replicate n (0:Int)).sum=0:=fun n=>by
    induction n with
    | zero=>rfl
    | succ n ih=>rw[List.replicate_succ,List.sum_cons,ih];rfl
   rw[this];rfl
  ·rintro⟨h,hs⟩
   obtain⟨h1,h2,h3⟩:=isF_iff.1 h
   have hn:=isF_nonneg h
   apply List.ext_getElem (by rw[h1,List.length_replicate])
   intro i hi hi2
   have:=sum_ge c hn (List.getElem_mem hi)
   have:=hn _ (List.getElem_mem hi)
   rw[List.getElem_replicate]
   rw[hs] at *
   omega
 | k+1,c=>by
  show c ∈ moreT ps (levF ps k)↔_
  unfold moreT
  rw[mem_more]
  constructor
  ·rintro(h|⟨d,hd,hc⟩)
   ·cases h
   ·obtain⟨p,hp,_,h2,rfl⟩:=mem_nextL.1 hc
    have:=((mem_levF hv k d).1 hd).2
    exact⟨h2,by rw[sum_stpC hp,this];omega⟩
  ·rintro⟨h,hs⟩
   obtain⟨h1,h2,h3⟩:=isF_iff.1 h
   have hn:=isF_nonneg h
   have hpos:∃p,p<ps.length∧0<cAt c p:=by
    by_cases hx:∃p,p<ps.length∧0<cAt c p
    ·exact hx
    ·exfalso
     have:∀z ∈ c,z=0:=fun z hz=>by
      obtain⟨p,hp,rfl⟩:=List.getElem_of_mem hz
      have:=hn _ hz
      have h4:¬0<cAt c p:=fun h=>hx ⟨p,by omega,h⟩
      rw[cAt_nat hp] at h4
      omega
     have e:c.sum=0:=by
      clear hs hn h hx h1 h2 h3
      induction c with
      | nil=>rfl
      | cons a c ih =>
       rw[List.sum_cons,this a List.mem_cons_self,ih fun z hz=>this z (List.mem_cons_of_mem _ hz)];rfl
     omega
   obtain⟨p,hp,hp0,r1,r2⟩:=cut_remove hv h1 h2 h3 hpos
   have hpc:p<c.length:=by omega
   have hdl:(c.set p (cAt c p - 1)).length=c.length:=List.length_set
   have hst:stpC (c.set p (cAt c p - 1)) p=c:=by
    unfold stpC
    rw[setc_cAt hpc,if_pos rfl,List.set_set,show cAt c p - 1+1=cAt c p by omega,cAt_nat hpc,List.set_getElem_self]
   refine .inr ⟨c.set p (cAt c p - 1),(mem_levF hv k _).2 ⟨isF_iff.2 ⟨by rw[hdl,h1],r1,r2⟩,?_⟩,mem_nextL.2 ⟨p,by omega,?_,by rw[hst];exact h,hst.symm⟩⟩
   ·have:=sum_stpC (c:=c.set p (cAt c p - 1)) (p:=p) (by omega)
    rw[hst] at this;omega
   ·rw[setc_cAt hpc,if_pos rfl,nev_get hp]
    have:=((inRange_iff h1).1 h2 p hp).2
    omega
theorem sum_totC:∀ {c:List Int},(∀z ∈ c,0≤z)→c.sum=totC c
 | [],_=>rfl
 | a :: c,h=>by
  have h0:=h a List.mem_cons_self
  have:=sum_totC (c:=c) fun z hz=>h z (List.mem_cons_of_mem _ hz)
  unfold totC at *
  rw[List.sum_cons,List.map_cons,List.sum_cons,this]
  omega
theorem sum_le_off {ps:List Pr} {c:List Int} (h:isF ps c=true):c.sum≤off ps ps.length:=by
 obtain⟨h1,h2,_⟩:=isF_iff.1 h
 have h3:=totC_le h1 h2
 have h4:=sum_totC (isF_nonneg h)
 omega
theorem levF_end {ps:List Pr} (hv:validF ps=true) {k:Nat} (h:off ps ps.length<k):levF ps k=[]:=by
 rw[List.eq_nil_iff_forall_not_mem]
 intro c hc
 obtain⟨h1,h2⟩:=(mem_levF hv k c).1 hc
 have:=sum_le_off h1
 omega
theorem levF_nil {ps:List Pr} {k:Nat} (h:levF ps k=[]):∀j,levF ps (k+j)=[]
 | 0=>h
 | j+1=>by
  show moreT ps (levF ps (k+j))=[]
  rw[levF_nil h j];rfl
def cumF (ps:List Pr) (k:Nat):List (List Int):=(List.range k).flatMap (levF ps)
theorem cumF_succ (ps:List Pr) (k:Nat):cumF ps (k+1)=cumF ps k ++ levF ps k:=by unfold cumF;rw[List.range_succ,List.flatMap_append];simp
def cutsF (ps:List Pr):List (List Int):=cumF ps (off ps ps.length+1)
theorem mem_cutsF {ps:List Pr} (hv:validF ps=true) {c:List Int} : c ∈ cutsF ps↔isF ps c=true:=by
 unfold cutsF cumF
 rw[List.mem_flatMap]
 constructor
 ·rintro⟨k,_,h⟩
  exact((mem_levF hv k c).1 h).1
 ·intro h
  have h1:=sum_le_off h
  have h2:0≤c.sum:=sum_nonneg c (isF_nonneg h)
  exact⟨c.sum.toNat,List.mem_range.2 (by omega),(mem_levF hv _ c).2 ⟨h,by omega⟩⟩
theorem cumF_mono {ps:List Pr} {j:Nat} : ∀ {k:Nat},j≤k→(cumF ps j).length≤(cumF ps k).length
 | 0,h=>by
  have:j=0:=by omega
  subst this;exact Nat.le_refl _
 | k+1,h=>by
  by_cases e:j=k+1
  ·subst e;exact Nat.le_refl _
  ·have:=cumF_mono (ps:=ps) (j:=j) (k:=k) (by omega)
   rw[cumF_succ,List.length_append];omega
theorem cumF_end {ps:List Pr} {j:Nat} (h:levF ps j=[]):∀m,cumF ps (j+m)=cumF ps j
 | 0=>rfl
 | m+1=>by
  show cumF ps ((j+m)+1)=_
  rw[cumF_succ,levF_nil h m,List.append_nil,cumF_end h m]
end Go.AL
end
section
namespace Go.AL
open Go Go.RowKit
set_option maxRecDepth 4000
theorem lexF_iff:∀ {a b:List Int},a.length=b.length→(lexF a b=true↔cmpL a b<0)
 | [],[],_=>by simp [lexF,cmpL]
 | [],_ :: _,h=>by simp at h
 | _ :: _,[],h=>by simp at h
 | x :: a,y :: b,h=>by
  rw[cmpL_cons]
  unfold lexF
  by_cases e:x=y
  ·subst e
   rw[if_pos rfl,if_neg (by omega),if_neg (by omega)]
   exact lexF_iff (by simpa using h)
  ·rw[if_neg e,decide_eq_true_eq]
   by_cases c:x<y
   ·rw[if_pos c];omega
   ·rw[if_neg c,if_pos (by omega)];omega
def Asc (l:List (List Int)):Prop:=l.Pairwise fun x y=>cmpL x y<0
theorem asc_eq {l m:List (List Int)} (h1:Asc l) (h2:Asc m) (h:∀x,x ∈ l↔x ∈ m):l=m:=by
 have hn:∀ {l:List (List Int)},Asc l→l.Nodup:=fun {l} h=>h.imp fun {a b} hab e=>by subst e;rw[cmpL_irr] at hab;omega
 have hp:l.Perm m:=(List.perm_ext_iff_of_nodup (hn h1) (hn h2)).2 h
 exact hp.eq_of_pairwise (fun a b _ _ h3 h4=>absurd (cmpL_trans _ _ _ h3 h4) (by rw[cmpL_irr];omega)) h1 h2
theorem asc_comp (l:List (List Int)):Asc (compL (sortL l)):=compN_pair (sortBy_pair swoL l) _ (Nat.le_refl _)
theorem mem_comp {l:List (List Int)} {x:List Int} : x ∈ compL (sortL l)↔x ∈ l:=by rw[compL_mem];exact(sortBy_perm cmpL l).mem_iff
theorem asc_ins {l:List (List Int)} {c:List Int} (h:Asc l) (hl:∀x ∈ l,x.length=c.length∧x.sum=c.sum):Asc (insF l c):=by
 have hb:∀x ∈ l,(befF x c=true↔cmpL x c<0):=fun x hx=>by
  unfold befF;rw[if_pos (hl x hx).2];exact lexF_iff (hl x hx).1
 unfold insF
 have hsp:=List.takeWhile_append_dropWhile (p:=fun x=>befF x c) (l:=l)
 split
 ·exact h
 ·rename_i hh
  generalize ht:l.takeWhile (fun x=>befF x c)=t at *
  generalize hd:l.dropWhile (fun x=>befF x c)=d at *
  have htm:∀x ∈ t,cmpL x c<0:=fun x hx=>by
   have h1:x ∈ l:=by rw[← hsp];exact List.mem_append_left _ hx
   refine(hb x h1).1 ?_
   have:=List.all_takeWhile (p:=fun x=>befF x c) (l:=l)
   rw[ht] at this
   exact List.all_eq_true.1 this x hx
  unfold Asc at h ⊢
  rw[← hsp,List.pairwise_append] at h
  obtain⟨a1,a2,a3⟩:=h
  have hdm:∀y ∈ d,cmpL c y<0:=fun y hy=>by
   cases d with
   | nil=>cases hy
   | cons z d =>
    have hz:cmpL c z<0:=by
     have hzl:z ∈ l:=by rw[← hsp];simp
     have hf:¬befF z c=true:=by
      have:=List.head?_dropWhile_not (fun x=>befF x c) l
      rw[hd] at this
      simpa using this
     by_cases e:cmpL c z<0
     ·exact e
     ·exact absurd (congrArg some (cmpL_anti z c (fun h=>hf ((hb z hzl).2 h)) e)) hh
    rcases List.mem_cons.1 hy with rfl|hy
    ·exact hz
    ·exact cmpL_trans _ _ _ hz (List.rel_of_pairwise_cons a2 hy)
  rw[List.pairwise_append,List.pairwise_cons]
  refine⟨a1,⟨hdm,a2⟩,fun x hx y hy => ?_⟩
  rcases List.mem_cons.1 hy with rfl|hy
  ·exact htm x hx
  ·exact a3 x hx y hy
theorem asc_insL {n:Nat} {s:Int} : ∀ {l acc:List (List Int)},Asc acc→(∀x ∈ acc,x.length=n∧x.sum=s)→(∀x ∈ l,x.length=n∧x.sum=s)→Asc (insL acc l)
 | [],_,h,_,_=>h
 | c :: l,acc,h,h1,h2=>by
  have hc:=h2 c List.mem_cons_self
  show Asc (insL (insF acc c) l)
  refine asc_insL (asc_ins h fun x hx=>by have:=h1 x hx;omega) (fun x hx => ?_) fun x hx=>h2 x (List.mem_cons_of_mem _ hx)
  rcases mem_insF.1 hx with hx|rfl
  ·exact h1 x hx
  ·exact hc
theorem asc_lev {ps:List Pr} (hv:validF ps=true):∀k,Asc (levF ps k)
 | 0=>List.pairwise_singleton _ _
 | k+1=>by
  have hm:∀(lv acc:List (List Int)),(∀c ∈ lv,isF ps c=true∧c.sum=k)→Asc acc→(∀x ∈ acc,x.length=ps.length∧x.sum=k+1)→Asc (lv.foldl (fun acc c=>insL acc (nextL ps c)) acc):=by
   intro lv
   induction lv with
   | nil=>intro acc _ h _;exact h
   | cons c lv ih =>
    intro acc h1 h2 h3
    have hc:=h1 c List.mem_cons_self
    have hnx:∀x ∈ nextL ps c,x.length=ps.length∧x.sum=k+1:=fun x hx=>by
     obtain⟨p,hp,_,h4,rfl⟩:=mem_nextL.1 hx
     exact⟨(isF_iff.1 h4).1,by rw[sum_stpC hp,hc.2]⟩
    refine ih _ (fun d hd=>h1 d (List.mem_cons_of_mem _ hd)) (asc_insL h2 h3 hnx) fun x hx => ?_
    rcases mem_insL.1 hx with hx|hx
    ·exact h3 x hx
    ·exact hnx x hx
  exact hm (levF ps k) [] (fun c hc=>(mem_levF hv k c).1 hc) List.Pairwise.nil fun x hx=>by cases hx
theorem next_lev {ps:List Pr} (hv:validF ps=true) (k:Nat) {l:List (List Int)} (h:∀x,x ∈ l↔∃c ∈ levF ps k,x ∈ nextL ps c):compL (sortL l)=levF ps (k+1):=by
 refine asc_eq (asc_comp l) (asc_lev hv (k+1)) fun x => ?_
 rw[mem_comp,h]
 show _↔x ∈ moreT ps (levF ps k)
 unfold moreT
 rw[mem_more]
 simp
end Go.AL
end
section
namespace Go.AL
open Go Go.RowKit Go.Sort Go.Proofs Go.Shelf
set_option maxRecDepth 4000
theorem bits_zero:PC Proofs.Tryz.prog 124 [.v (.int .u64 0)] (ai 0):=by
 refine PC.same (vs:=[.int .u64 0]) (enters_of Proofs.Tryz.func124 rfl rfl) (fun w A us h => ?_) fun w => ?_
 ·obtain⟨u,us,rfl,h1,h2⟩:=h.inv_cons
  obtain rfl:=h2.inv_nil
  rw[h1.inv_v]
 ·have L:=sortRows
  have h:=Any.bits_Len (SlLaysF0.n15.bits (P:=Proofs.Tryz.prog) (ρ:=sortRows_ren) { L with }) 0 w (by omega) (by omega)
  exact h
theorem insert_nil (g:FuncId):PC Proofs.Tryz.prog 131 [anil,ai 0,ai 0,.v (.func (.func g) #[] #[])] (.tup []):=by
 refine PC.enter 53 [] [] Proofs.Tryz.func131 rfl rfl rfl rfl rfl (by simp) (AWp.of ?_);simp only[go_sem]
 refine Wk ?_
 refine AWp.block (AWp.loopN [8] [0,1,2,3] (fun _ vs L=>L=[]∧vs=[ai 1]) 0 ⟨rfl,rfl⟩ ?_)
 rintro m vs L - ⟨rfl,rfl⟩
 simp only[go_sem]
 refine Wk ?_
 intro _
 refine ret_eq ?_;simp only[go_sem]
theorem pdq_nil (g:FuncId):PC Proofs.Tryz.prog 123 [anil,ai 0,ai 0,ai 0,.v (.func (.func g) #[] #[])] (.tup []):=by
 refine PC.enter 148 [] [] Proofs.Tryz.func123 rfl rfl rfl rfl rfl (by simp) (AWp.of ?_);simp only[go_sem]
 refine Wk ?_
 refine AWp.block (AWp.loopN [1,2,3,10,11] [0,4] (fun _ vs L=>L=[]∧vs=[ai 0,ai 0,ai 0,ab true,ab true]) 0 ⟨rfl,rfl⟩ ?_)
 rintro m vs L - ⟨rfl,rfl⟩
 simp only[go_sem]
 refine Wk ?_
 refine⟨fun h => ?_,fun h => ?_⟩
 ·refine Wk ?_
  refine Sd ?_
  refine(insert_nil g).val.use ?_;simp only[go_sem]
  refine Wk ?_
  refine ret_eq ?_;simp only[go_sem]
 ·exact absurd (by omega) h
theorem sort_nil (g:FuncId):PC Proofs.Tryz.prog 109 [anil,.v (.func (.func g) #[] #[])] (.tup []):=by
 refine PC.enter 14 [] [] Proofs.Tryz.func109 rfl rfl rfl rfl rfl (by simp) (AWp.of ?_);simp only[go_sem]
 refine Wk ?_
 refine Sd ?_
 refine(bits_zero).val.use ?_;simp only[go_sem]
 refine Wk ?_
 refine Sd ?_
 refine(pdq_nil g).val.use ?_;simp only[go_sem]
 refine Wk ?_
 refine ret_eq ?_;simp only[go_sem]
theorem compact_nil (g:FuncId):PC Proofs.Tryz.prog 112 [anil,.v (.func (.func g) #[] #[])] anil:=by
 refine PC.enter 66 [.tmp 4] [] Proofs.Tryz.func112 rfl rfl rfl rfl rfl (by simp) (AWp.of ?_);simp only[go_sem]
 refine Wk ?_
 refine⟨fun h => ?_,fun h => ?_⟩
 ·refine Wk ?_
  refine ret_eq ?_;simp only[go_sem]
 ·exact absurd (by omega) h
end Go.AL
end
section
namespace Go.AL
open Go Go.RowKit
set_option maxRecDepth 4000
def needE (ps:List Pr) (e:Ev):Eid:=if e.kind=3 then sndr ps e.msg else (0,0)
def aNeeds (ps:List Pr) (l:List Pr):List AV:=l.map fun x=>aEids (x.evs.map (needE ps))
def aMk (ps:List Pr):AV:=.agg [.sl 1 (ps.map fun x=>ai (x.evs.length:Nat)),.sl 1 (aNeeds ps ps)]
theorem AppSt.snoc {t:TypeId} {k:Nat} {ys:List AV} {x:AV} (b cap n:Nat) (hn:n=ys.length+1):AppSt t k (ys ++ [x]) (.ls b k 0 n cap) [(b,.row t k (ys ++ [x]) cap)]:=by
 subst hn
 have:=AppSt.row (t:=t) (k:=k) b (ys ++ [x]) cap
 rwa [List.length_append] at this
def mkL (ps:List Pr) (b2 b3 p:Nat) (L:AHeap):Prop :=
 (p=0∧L=[(b3,.row 164 2 [.agg [anil,anil]] 1),(b2,.row 164 2 [.agg [anil,anil]] 1)]) ∨
 ∃c1 c2 cap1 cap2,(¬c1=b3∧¬c1=b2∧¬c2=b3∧¬c2=b2∧¬c1=c2)∧L=[(c2,.row 70 1 (aNeeds ps (ps.take p)) cap2),(c1,.row 3 1 ((ps.take p).map fun x=>ai (x.evs.length:Nat)) cap1),
  (b3,.row 164 2 [.agg [.ls c1 1 0 p cap1,.ls c2 1 0 p cap2]] 1),(b2,.row 164 2 [.agg [anil,anil]] 1)]
theorem cuts_of (ps:List Pr) (hs:Sm ps) (hv:validF ps=true):PC Proofs.Tryz.prog 89 [aTr ps] (aMk ps):=by
 obtain⟨hl1,hl8⟩:=valid_len hv
 have hfs:∀m,findV ps 2 m=sndr ps m:=fun m=>by unfold findV sndr;rw[if_pos hv]
 have hsd:=trace_Sender ps hs
 simp only[hfs] at hsd
 refine PC.enter 55 [.cell 2 164] [1,5,8,9,36,44,50] Proofs.Tryz.func89 rfl rfl rfl rfl rfl (by simp) (AWp.of ?_);simp only[go_sem]
 intro b2
 refine Wk ?_
 intro b3 g1
 have n1:¬b3=b2:=by omega
 have n2:¬b2=b3:=by omega
 refine W2 n1 n2 ?_
 refine AWp.range' ps.length [] [1,2,3,11,12] (fun p vs L=>vs=[]∧mkL ps b2 b3 p L) (by omega) rfl rfl rfl ⟨rfl,.inl ⟨rfl,rfl⟩⟩ ?_ ?_
 ·rintro p vs L hp - ⟨rfl,hL⟩
  have hgp:=getD_map (f:=aPr) hp
  simp only[go_sem]
  refine W1 hgp ?_
  intro b5 g5
  have hel:=hs.evs _ (List.getElem_mem hp)
  refine Sd ?_
  refine AWp.of ?_;simp only[go_sem]
  refine AWp.cutF [1,2,3,5,6,11,12,13] (fun vs L1=>∃v,AppSt 54 2 ((ps[p].evs.map (needE ps)).map aEid) v L1 ∧
   vs=[.rp 1 [aTr ps] 0 0,.lp b2 2 0 0,.lp b3 2 0 0,.rp 3 [aPr ps[p]] 0 0,v,aPrs ps,ai (ps.length:Nat),ai (p:Nat)]) ?_ ?_
  ·refine Wk ?_
   refine AWp.range' ps[p].evs.length [6] [1,2,3,5,11,12,13,18,19] (fun i vs L=>∃v,vs=[v]∧AppSt 54 2 (((ps[p].evs.take i).map (needE ps)).map aEid) v L) (by omega) rfl rfl rfl ⟨anil,rfl,by rw[List.take_zero];exact .nil⟩ ?_ ?_
   ·rintro i vs L hi - ⟨v,rfl,hA⟩
    have hge:=getD_map (f:=aEv) hi
    have hne:needE ps ps[p].evs[i]=if ps[p].evs[i].kind=3 then sndr ps ps[p].evs[i].msg else (0,0):=rfl
    have hsn:=hsd ps[p].evs[i].msg
    have htk:((ps[p].evs.take (i+1)).map (needE ps)).map aEid=((ps[p].evs.take i).map (needE ps)).map aEid ++ [aEid (needE ps ps[p].evs[i])]:=by
     rw[List.take_succ_eq_append_getElem hi,List.map_append,List.map_append];rfl
    have hyl:(((ps[p].evs.take i).map (needE ps)).map aEid).length=i:=by simp;omega
    rw[htk]
    generalize ((ps[p].evs.take i).map (needE ps)).map aEid=ys at *
    generalize needE ps ps[p].evs[i]=ne at *
    rcases hA.inv with ⟨e1,rfl,rfl⟩|⟨bq,capq,rfl,rfl⟩
    ·simp only[go_sem]
     refine W1 hge ?_
     intro b8
     refine Wk ?_
     intro b9
     refine Wk ?_
     refine⟨fun h3 => ?_,fun h3 => ?_⟩
     ·rw[if_pos h3] at hne
      subst hne
      generalize sndr ps ps[p].evs[i].msg=sx at *
      obtain⟨s1,s2⟩:=sx
      refine Sd ?_
      refine(hsn).val.use ?_;simp only[go_sem]
      refine Wk ?_
      intro b' cap' hc'
      exact⟨_,List.cons_sublist_cons.2 (List.nil_sublist _),_,rfl,by rw[e1];exact .row b' [_] cap'⟩
     ·rw[if_neg h3] at hne
      subst hne
      refine Wk ?_
      intro b' cap' g' hc'
      exact⟨_,List.cons_sublist_cons.2 (List.nil_sublist _),_,rfl,by rw[e1];exact .row b' [_] cap'⟩
    ·simp only[go_sem]
     refine W1 hge ?_
     intro b8 g8
     refine Wk ?_
     intro b9 g9
     have n3:¬b9=bq:=by omega
     have n4:¬bq=b9:=by omega
     refine W2 n3 n4 ?_
     refine⟨fun h3 => ?_,fun h3 => ?_⟩
     ·rw[if_pos h3] at hne
      subst hne
      generalize sndr ps ps[p].evs[i].msg=sx at *
      obtain⟨s1,s2⟩:=sx
      refine Sd ?_
      refine(hsn).val.use ?_;simp only[go_sem]
      refine W2 n3 n4 ?_
      intro b' cap' hc'
      exact⟨_,List.cons_sublist_cons.2 (List.nil_sublist _),_,rfl,AppSt.snoc b' cap' _ rfl⟩
     ·rw[if_neg h3] at hne
      subst hne
      refine W2 n3 n4 ?_
      intro b' cap' g' hc'
      exact⟨_,List.cons_sublist_cons.2 (List.nil_sublist _),_,rfl,AppSt.snoc b' cap' _ rfl⟩
   ·rintro vs L - ⟨v,rfl,hA⟩
    rw[List.take_length] at hA
    simp only[go_sem]
    exact⟨L,List.Sublist.refl _,v,hA,rfl⟩
  ·rintro vs L1 - ⟨v,hA,rfl⟩
   simp only[go_sem]
   refine AWp.viewA (j:=6) hA rfl ?_
   clear g5
   have hs1:((ps.take (p+1)).map fun x=>ai (x.evs.length:Nat))=((ps.take p).map fun x=>ai (x.evs.length:Nat)) ++ [ai (ps[p].evs.length:Nat)]:=by
    rw[List.take_succ_eq_append_getElem hp,List.map_append];rfl
   have hs2:aNeeds ps (ps.take (p+1))=aNeeds ps (ps.take p) ++ [.sl 2 ((ps[p].evs.map (needE ps)).map aEid)]:=by
    unfold aNeeds;rw[List.take_succ_eq_append_getElem hp,List.map_append];rfl
   have hy1:((ps.take p).map fun x=>ai (x.evs.length:Nat)).length=p:=by simp;omega
   have hy2:(aNeeds ps (ps.take p)).length=p:=by simp [aNeeds];omega
   unfold mkL
   rw[hs1,hs2]
   generalize ((ps[p].evs.map (needE ps)).map aEid)=ne at *
   rcases hL with ⟨rfl,rfl⟩|⟨c1,c2,cap1,cap2,⟨d1,d2,d3,d4,d5⟩,rfl⟩
   ·have e1:=List.eq_nil_of_length_eq_zero hy1
    have e2:=List.eq_nil_of_length_eq_zero hy2
    rw[e1,e2]
    simp only[go_sem]
    refine W2 n1 n2 ?_
    intro c1 k1 h31 h21 hk1
    have d1:¬c1=b3:=by omega
    have d2:¬c1=b2:=by omega
    have d7:¬b3=c1:=by omega
    have d9:¬b2=c1:=by omega
    simp only[go_sem,d1,d2,d7,d9]
    refine W6 n1 n2 d1 d2 d7 d9 ?_
    intro c2 k2 h12 h32 h22 hk2
    have d3:¬c2=b3:=by omega
    have d4:¬c2=b2:=by omega
    have d5:¬c1=c2:=by omega
    have d8:¬b3=c2:=by omega
    simp only[go_sem,d8]
    exact⟨_,List.Sublist.refl _,c1,c2,k1,k2,⟨d1,d2,d3,d4,d5⟩,rfl⟩
   ·generalize ((ps.take p).map fun x=>ai (x.evs.length:Nat))=ys1 at *
    generalize aNeeds ps (ps.take p)=ys2 at *
    have ht1:ys1.take p=ys1:=List.take_of_length_le (by omega)
    have ht2:ys2.take p=ys2:=List.take_of_length_le (by omega)
    have d6:¬c2=c1:=fun e=>d5 e.symm
    have d7:¬b3=c1:=fun e=>d1 e.symm
    have d8:¬b3=c2:=fun e=>d3 e.symm
    have d9:¬b2=c1:=fun e=>d2 e.symm
    have d10:¬b2=c2:=fun e=>d4 e.symm
    repeat(first|((with_reducible refine AWp.ofC ?_ ?_);exact rfl;simp only[go_sem,n1,n2,d1,d2,d3,d4,d5,d6,d7,d8,d9,d10,ht1,ht2])|((with_reducible refine an ?_ ?_);exact Au))
    intro x1 k1 h21 h31 h41 hk1
    have d1:¬x1=b3:=fun e=>h31 e.symm
    have d2:¬x1=b2:=fun e=>h41 e.symm
    have d11:¬x1=c2:=fun e=>h21 e.symm
    simp only[go_sem,h31,h41,h21,d1,d2,d11]
    repeat(first|((with_reducible refine AWp.ofC ?_ ?_);exact rfl;simp only[go_sem,n1,n2,d1,d2,d3,d4,d8,d10,d11,h31,h41,h21,ht1,ht2])|((with_reducible refine an ?_ ?_);exact Au))
    intro x2 k2 h12 h32 h42 hk2
    simp only[go_sem,h32]
    exact⟨_,List.Sublist.refl _,x1,x2,k1,k2,⟨d1,d2,fun e=>h32 e.symm,fun e=>h42 e.symm,h12⟩,rfl⟩
 ·rintro vs L - ⟨rfl,hL⟩
  rcases hL with ⟨h0,rfl⟩|⟨c1,c2,cap1,cap2,⟨d1,d2,d3,d4,d5⟩,rfl⟩
  ·omega
  have d6:¬c2=c1:=fun e=>d5 e.symm
  have d7:¬b3=c1:=fun e=>d1 e.symm
  have d8:¬b3=c2:=fun e=>d3 e.symm
  have d9:¬b2=c1:=fun e=>d2 e.symm
  have d10:¬b2=c2:=fun e=>d4 e.symm
  rw[List.take_length]
  have hy1:(ps.map fun x=>ai (x.evs.length:Nat)).length=ps.length:=List.length_map _
  have hy2:(aNeeds ps ps).length=ps.length:=List.length_map _
  unfold aMk
  generalize (ps.map fun x=>ai (x.evs.length:Nat))=ys1 at *
  generalize aNeeds ps ps=ys2 at *
  simp only[go_sem]
  repeat(first|((with_reducible refine AWp.ofC ?_ ?_);exact rfl;simp only[go_sem,n1,n2,d1,d2,d3,d4,d5,d6,d7,d8,d9,d10])|((with_reducible refine an ?_ ?_);exact Au))
  refine ret_view [true,true,true,true] ?_;simp only[go_sem]
  simp only[go_sem,n2,d9,d10]
  exact .mkAgg (Vws.cons (Vw.ofLs (t:=3) (cap:=cap1) (by simp only[lk,d5,if_false,if_true]) hy1.symm) (Vws.cons (Vw.ofLs (t:=70) (cap:=cap2) (if_pos rfl) hy2.symm) .nil))
theorem cAt_stp {c:List Int} {p q:Nat} (hq:q<c.length):cAt (stpC c p) q=if p=q then cAt c q+1 else cAt c q:=by
 unfold stpC
 rw[setc_cAt hq]
 split
 ·rename_i e;rw[e]
 ·rfl
theorem stp_iff {ps:List Pr} (hv:validF ps=true) {c:List Int} (hc:isF ps c=true) {p:Nat} (hp:p<ps.length) {i:Nat} (hi:i<ps[p].evs.length) (hci:cAt c p=i) :
  isF ps (stpC c p)=true↔(needE ps ps[p].evs[i]).2≤cAt c (needE ps ps[p].evs[i]).1:=by
 obtain⟨h1,h2,h3⟩:=isF_iff.1 hc
 have hm:=(valid_parts hv).2.2
 have hr:=(inRange_iff h1).1 h2
 have hlen:(stpC c p).length=ps.length:=by unfold stpC;rw[List.length_set,h1]
 have hmono:∀q,q<ps.length→cAt c q≤cAt (stpC c p) q:=fun q hq=>by rw[cAt_stp (by omega)];split <;> omega
 unfold needE
 constructor
 ·intro h
  obtain⟨_,_,g3⟩:=isF_iff.1 h
  by_cases hk:ps[p].evs[i].kind=3
  ·rw[if_pos hk]
   have:=closed_iff.1 g3 p hp i hi hk (by rw[cAt_stp (by omega),if_pos rfl,hci];omega)
   obtain⟨s,hs,j,hj,e,hk2,_⟩:=sndr_some (recv_sndr hm hp hi hk)
   rw[e] at this ⊢
   dsimp only at this ⊢
   rw[cAt_stp (by omega)] at this
   split at this
   ·rename_i es;subst es
    by_cases hji:j=i
    ·subst hji;omega
    ·omega
   ·exact this
  ·rw[if_neg hk]
   have:=(hr 0 (by omega)).1
   simpa using this
 ·intro h
  refine isF_iff.2 ⟨hlen,(inRange_iff hlen).2 fun q hq => ?_,closed_iff.2 fun q hq i' hi' hk hle => ?_⟩
  ·have:=hr q hq
   rw[cAt_stp (by omega)]
   split
   ·rename_i e;subst e;omega
   ·exact this
  ·obtain⟨s,hs,j,hj,e,hk2,_⟩:=sndr_some (recv_sndr hm hq hi' hk)
   have hms:=hmono s hs
   by_cases hnew:q=p∧i'=i
   ·obtain⟨rfl,rfl⟩:=hnew
    rw[if_pos hk,e] at h
    rw[e];dsimp only at h ⊢;omega
   ·have:=closed_iff.1 h3 q hq i' hi' hk (by
     rw[cAt_stp (by omega)] at hle
     split at hle
     ·rename_i e2;subst e2
      have:i' ≠ i:=fun e=>hnew ⟨rfl,e⟩
      omega
     ·exact hle)
    rw[e] at this ⊢;dsimp only at this ⊢;omega
def rdyF (ps:List Pr) (c:List Int) (p:Nat):Bool:=decide (cAt c p<nev ps p∧isF ps (stpC c p)=true)
theorem need_in {ps:List Pr} (hv:validF ps=true) {p:Nat} (hp:p<ps.length) {i:Nat} (hi:i<ps[p].evs.length):0≤(needE ps ps[p].evs[i]).1∧(needE ps ps[p].evs[i]).1<ps.length:=by
 have hm:=(valid_parts hv).2.2
 unfold needE
 split
 ·rename_i hk
  obtain⟨s,hs,j,hj,e,hk2,_⟩:=sndr_some (recv_sndr hm hp hi hk)
  rw[e];dsimp only;omega
 ·dsimp only;omega
theorem maker_ready (ps:List Pr) (hs:Sm ps) (hv:validF ps=true) (c:List Int) (hc:isF ps c=true) (p:Nat) (hp:p<ps.length):PC Proofs.Tryz.prog 108 [aMk ps,aInts c,ai (p:Nat)] (ab (rdyF ps c p)):=by
 obtain⟨h1,h2,h3⟩:=isF_iff.1 hc
 have hr:=(inRange_iff h1).1 h2 p hp
 obtain⟨i,hci⟩:∃i:Nat,cAt c p=i:=⟨(cAt c p).toNat,by omega⟩
 have hpc:p<c.length:=by omega
 have hcp:c[p]=(i:Int):=by rw[← cAt_nat hpc];exact hci
 have hel:=hs.evs _ (List.getElem_mem hp)
 have g1:(c.map ai).getD p .any=ai i:=by rw[getD_map hpc,hcp]
 have g2:(ps.map fun x=>ai (x.evs.length:Nat)).getD p .any=ai (ps[p].evs.length:Nat):=getD_map (f:=fun x:Pr=>ai (x.evs.length:Nat)) hp
 have g3:(aNeeds ps ps).getD p .any=aEids (ps[p].evs.map (needE ps)):=getD_map (f:=fun x:Pr=>aEids (x.evs.map (needE ps))) hp
 have hnl:(aNeeds ps ps).length=ps.length:=List.length_map _
 have hrd:rdyF ps c p=decide (i<ps[p].evs.length∧isF ps (stpC c p)=true):=by
  unfold rdyF;rw[hci,nev_get hp];congr 2;exact propext ⟨fun h=>by omega,fun h=>by omega⟩
 rw[hrd]
 unfold aMk
 refine PC.enter 37 [.tmp 6] [3,7] Proofs.Tryz.func108 rfl rfl rfl rfl rfl (by simp) (AWp.of ?_);simp only[go_sem]
 refine W3 g1 g2 hnl ?_
 refine AWp.seq (AWp.seq ?_)
 repeat(first|(with_reducible refine AWp.seq ?_)|(with_reducible refine AWp.block ?_))
 refine AWp.read mixed [0,1,2,3,4,5,6,7,8,9] (by kernel_rfl) ?_;simp only[go_sem,g1,g2]
 refine Sd ?_
 refine Wk ?_
 refine⟨fun h => ?_,fun h => ?_⟩
 ·have:(decide (i<ps[p].evs.length) && isF ps (stpC c p))=false:=by rw[decide_eq_false (by omega)];rfl
  rw[this]
  refine Wk ?_
  refine ret_eq ?_;simp only[go_sem]
 ·have hi:i<ps[p].evs.length:=by
   have h5:=hr.2
   rw[hci] at h5
   omega
  have hst:=stp_iff hv hc hp hi hci
  have hin:=need_in hv hp hi
  have g4:((ps[p].evs.map (needE ps)).map aEid).getD i .any=aEid (needE ps ps[p].evs[i]):=by rw[List.map_map];exact getD_map (f:=fun e=>aEid (needE ps e)) hi
  have g5:((ps[p].evs.map (needE ps)).map aEid).length=ps[p].evs.length:=by rw[List.length_map,List.length_map]
  have e1:decide (i<ps[p].evs.length)=true:=decide_eq_true hi
  have e2:isF ps (stpC c p)=decide ((needE ps ps[p].evs[i]).2≤cAt c (needE ps ps[p].evs[i]).1):=by
   by_cases hb:isF ps (stpC c p)=true
   ·rw[hb];exact(decide_eq_true (hst.1 hb)).symm
   ·rw[Bool.not_eq_true] at hb
    rw[hb];exact(decide_eq_false fun h=>by rw[hst.2 h] at hb;cases hb).symm
  rw[e1,e2,Bool.true_and]
  generalize needE ps ps[p].evs[i]=ne at *
  obtain⟨n1,n2⟩:=ne
  have g6:=getD_cAt (c:=c) hin.1 (by omega)
  dsimp only at hin
  refine Wk ?_
  refine AWp.seq ?_
  repeat(first|(with_reducible refine AWp.seq ?_)|(with_reducible refine AWp.block ?_))
  refine AWp.mix mixed [0,1,2,3,4,5,6,7,8,9,10] (.step 11 (.step 12 .done .done) .done) (by kernel_rfl) ?_;simp only[go_sem,g1,g3,g4,g5,hnl]
  refine Sd ?_
  intro b7
  refine AWp.seq ?_
  repeat(first|(with_reducible refine AWp.seq ?_)|(with_reducible refine AWp.block ?_))
  refine AWp.read mixed [0,1,2,3,4,5,6,7,8] (by kernel_rfl) ?_;simp only[go_sem,g6]
  refine Sd ?_
  refine Wk ?_
  refine ret_eq ?_;simp only[go_sem]
def chl (ps:List Pr) (lv:List (List Int)) (i:Nat):List (List Int):=(lv.take i).flatMap (nextL ps)
theorem chl_succ {ps:List Pr} {lv:List (List Int)} {i:Nat} (hi:i<lv.length):chl ps lv (i+1)=chl ps lv i ++ nextL ps lv[i]:=by
 unfold chl;rw[List.take_succ_eq_append_getElem hi,List.flatMap_append];simp
theorem chl_len {ps:List Pr} {lv:List (List Int)} (h:∀c ∈ lv,c.length≤8):∀i,i≤lv.length→(chl ps lv i).length≤8 * i
 | 0,_=>by simp [chl]
 | i+1,hi=>by
  have:=chl_len (ps:=ps) h i (by omega)
  have h2:=nextT_len ps lv[i] lv[i].length
  have h3:=h lv[i] (List.getElem_mem _)
  rw[chl_succ (by omega),List.length_append]
  unfold nextL
  omega
theorem mem_chl {ps:List Pr} {lv:List (List Int)} {x:List Int} : x ∈ chl ps lv lv.length↔∃c ∈ lv,x ∈ nextL ps c:=by unfold chl;rw[List.take_length,List.mem_flatMap]
theorem Vw.front {L:AHeap} {b k n c:Nat} {t:TypeId} {xs ws:List AV} {cap:Nat} (h:lk L b=some (.row t k (xs ++ ws) cap)) (hn:n=xs.length):Vw L (.ls b k 0 n c) (.sl k xs):=by
 have e:((xs ++ ws).drop 0).take n=xs:=by rw[List.drop_zero,hn,List.take_left]
 exact .ls h (by rw[List.length_append];omega) (by rw[e]) (by rw[e];exact(Vws.refl xs).2)
theorem maker_next (ps:List Pr) (hs:Sm ps) (hv:validF ps=true) (k:Nat) (hk:(levF ps k).length≤5000):PC Proofs.Tryz.prog 90 [aMk ps,aRows (levF ps k)] (aRows (levF ps (k+1))):=by
 obtain⟨hl1,hl8⟩:=valid_len hv
 have hlev:∀c ∈ levF ps k,isF ps c=true:=fun c h=>((mem_levF hv k c).1 h).1
 have hnl:=next_lev hv k (l:=chl ps (levF ps k) (levF ps k).length) fun x=>mem_chl
 have hcl:=chl_len (ps:=ps) (lv:=levF ps k) fun c hc=>by rw[(isF_iff.1 (hlev c hc)).1];exact hl8
 have hall:∀x ∈ chl ps (levF ps k) (levF ps k).length,x.length≤1000000:=fun x hx=>by
  obtain⟨c,hc,hx⟩:=mem_chl.1 hx
  obtain⟨p,_,_,h4,rfl⟩:=mem_nextL.1 hx
  rw[(isF_iff.1 h4).1];omega
 rw[← hnl]
 clear hnl
 generalize levF ps k=lv at *
 unfold aMk
 refine PC.enter 43 [.tmp 4] [2,35] Proofs.Tryz.func90 rfl rfl rfl rfl rfl (by simp) (AWp.of ?_);simp only[go_sem]
 refine Wk ?_
 refine AWp.range' lv.length [5] [2,10,11] (fun i vs L=>∃v,vs=[v]∧AppSt 47 1 ((chl ps lv i).map aInts) v L) (by omega) rfl rfl rfl ⟨anil,rfl,by exact .nil⟩ ?_ ?_
 ·rintro i vs L hi - ⟨v,rfl,hA⟩
  have hgi:=getD_map (f:=aInts) hi
  have hci:=hlev _ (List.getElem_mem hi)
  have hcli:=hcl i (by omega)
  have hlc:=(isF_iff.1 hci).1
  rw[chl_succ hi]
  have hnx:nextL ps lv[i]=nextT ps lv[i] lv[i].length:=rfl
  rw[hnx]
  generalize lv[i]=c at *
  simp only[go_sem]
  refine W1 hgi ?_
  refine AWp.range' c.length [5] [2,7,10,11,12,17] (fun p vs L=>∃v,vs=[v]∧AppSt 47 1 ((chl ps lv i ++ nextT ps c p).map aInts) v L) (by omega) rfl rfl rfl ⟨v,rfl,by rw[show nextT ps c 0=[] from rfl,List.append_nil];exact hA⟩ ?_ ?_
  ·clear hA
   rintro p vs L hp - ⟨v,rfl,hA⟩
   have hrd:=maker_ready ps hs hv c hci p (by omega)
   have hrl:=nextT_len ps c p
   simp only[go_sem]
   unfold aMk at hrd
   have hn1:nextT ps c (p+1)=nextT ps c p ++ if rdyF ps c p=true then [stpC c p] else []:=by
    rw[nextT_succ];unfold nx1 rdyF;simp only[decide_eq_true_eq]
   rw[hn1]
   have hrg:=(inRange_iff hlc).1 (isF_iff.1 hci).2.1 p (by omega)
   have hel:=hs.evs _ (List.getElem_mem (show p<ps.length by omega))
   have hcp:cAt c p=c[p]:=cAt_nat hp
   have hgp:=getD_map (f:=ai) hp
   have hst:((c.map ai).set p (ai (c[p]+1)))=(stpC c p).map ai:=by unfold stpC;rw[List.map_set,hcp]
   have hsl:(stpC c p).length=c.length:=by unfold stpC;rw[List.length_set]
   generalize nextT ps c p=nt at *
   refine Wk ?_
   refine Sd ?_
   refine(hrd).val.use ?_;simp only[go_sem]
   generalize rdyF ps c p=rb at *
   refine Wk ?_
   refine⟨fun hb => ?_,fun hb => ?_⟩
   ·rw[if_pos hb]
    refine(MVal.frame (Lm:=[]) (Lr:=L) (ints_cloneO c (by omega)).val).mono ?_
    rintro r L' ⟨L1,rfl,hC⟩
    rcases hC.inv with ⟨e1,_,_⟩|⟨bc,capc,rfl,rfl⟩
    ·have:c.length=0:=by simpa using congrArg List.length e1
     omega
    simp only[go_sem,List.length_map]
    refine Sd ?_
    refine AWp.of ?_;simp only[go_sem,hgp]
    refine Sd ?_
    have ez:(chl ps lv i ++ (nt ++ [stpC c p])).map aInts=(chl ps lv i ++ nt).map aInts ++ [aInts (stpC c p)]:=by
     rw[← List.append_assoc,List.map_append];rfl
    have hyl:((chl ps lv i ++ nt).map aInts).length≤8 * 5000+8:=by rw[List.length_map,List.length_append];omega
    rw[ez]
    refine AWp.viewP (Lf:=[(bc,_)]) (Lk:=L) (L':=L) (List.Perm.refl _) (LVw.refl _) [(9,aInts (stpC c p))] (fun q hq => ?_) ?_
    ·obtain rfl:=List.mem_singleton.1 hq
     simp only[go_sem]
     rw[← hst]
     exact Vw.ofLs (t:=3) (cap:=capc) (if_pos rfl) (by simp)
    generalize (chl ps lv i ++ nt).map aInts=ys at *
    generalize stpC c p=d at *
    rcases hA.inv with ⟨e1,rfl,rfl⟩|⟨bq,capq,rfl,rfl⟩
    ·simp only[go_sem]
     refine Wk ?_
     intro b' cap' hc'
     exact⟨_,List.Sublist.refl _,_,rfl,by rw[e1];exact .row b' [_] cap'⟩
    ·simp only[go_sem]
     refine Wk ?_
     intro b' cap' hc'
     exact⟨_,List.Sublist.refl _,_,rfl,AppSt.snoc b' cap' _ rfl⟩
   ·rw[if_neg (by rw[hb];exact Bool.false_ne_true),List.append_nil]
    refine Wk ?_
    exact⟨L,List.Sublist.refl _,v,rfl,hA⟩
  ·rintro vs L - ⟨v,rfl,hA⟩
   simp only[go_sem]
   refine Wk ?_
   exact⟨L,List.Sublist.refl _,v,rfl,hA⟩
 ·rintro vs L - ⟨v,rfl,hA⟩
  have hchl:=hcl lv.length (Nat.le_refl _)
  generalize chl ps lv lv.length=ch at *
  have hsl:(sortL ch).length=ch.length:=(sortBy_perm cmpL ch).length_eq
  have hsm:∀x ∈ sortL ch,x.length≤1000000:=fun x hx=>hall x ((sortBy_perm cmpL ch).mem_iff.1 hx)
  rcases hA.inv with ⟨e1,rfl,rfl⟩|⟨b,cap,rfl,rfl⟩
  ·obtain rfl:ch=[]:=by simpa using e1
   simp only[go_sem]
   refine Wk ?_
   refine Sd ?_
   refine(sort_nil _).val.use ?_;simp only[go_sem]
   refine Wk ?_
   refine Sd ?_
   refine(compact_nil _).val.use ?_;simp only[go_sem]
   refine Wk ?_
   refine ret_view [] ?_;simp only[go_sem]
   rw[List.eq_nil_of_length_eq_zero (l:=sortL []) hsl]
   exact .nil 1
  ·have hso:=sort_rows b cap ch hall (by omega) 47
   have hco:=rows_compact b cap (sortL ch) hsm (by omega)
   rw[hsl] at hco
   generalize sortL ch=sc at *
   simp only[go_sem,List.length_map]
   refine Wk ?_
   refine hso.val.mono ?_
   rintro r L ⟨rfl,rfl⟩
   simp only[go_sem]
   refine Wk ?_
   refine hco.val.mono ?_
   rintro r L ⟨ws,cap',rfl,rfl⟩
   generalize compL sc=cc at *
   simp only[go_sem]
   refine Wk ?_
   refine ret_view [true] ?_;simp only[go_sem]
   exact Vw.front (if_pos rfl) (by rw[List.length_map])
def Cb (c:List Int):Prop:=c.length≤1000000∧∀z ∈ c,0≤z∧z≤1000000
theorem isF_cb {ps:List Pr} (hs:Sm ps) {c:List Int} (h:isF ps c=true):Cb c:=by
 obtain⟨h1,h2,_⟩:=isF_iff.1 h
 have:=hs.procs
 refine⟨by omega,fun z hz=>⟨isF_nonneg h z hz,?_⟩⟩
 obtain⟨p,hp,rfl⟩:=List.getElem_of_mem hz
 have h3:=((inRange_iff h1).1 h2 p (by omega)).2
 have:=hs.evs _ (List.getElem_mem (show p<ps.length by omega))
 rw[cAt_nat hp] at h3
 omega
theorem Vw.ofLs' {L:AHeap} {b k len c:Nat} {t:TypeId} {xs xs':List AV} {cap:Nat} (h:lk L b=some (.row t k xs cap)) (hl:len=xs.length) (hv:Vws L xs xs'):Vw L (.ls b k 0 len c) (.sl k xs'):=by
 subst hl
 exact .ls h (by omega) (by rw[List.drop_zero,List.take_length];exact hv.1) (by rw[List.drop_zero,List.take_length];exact hv.2)
theorem moreT_len {ps:List Pr} {B:Nat} : ∀ {l acc:List (List Int)},(∀c ∈ l,c.length≤B)→(l.foldl (fun acc c=>insL acc (nextL ps c)) acc).length≤acc.length+l.length * B
 | [],acc,_=>by simp
 | c :: l,acc,h=>by
  have h1:=moreT_len (ps:=ps) (B:=B) (l:=l) (acc:=insL acc (nextL ps c)) fun c hc=>h c (List.mem_cons_of_mem _ hc)
  have h2:=insL_len (nextL ps c) acc
  have h3:=nextT_len ps c c.length
  have h4:=h c List.mem_cons_self
  have h5:(nextL ps c).length=(nextT ps c c.length).length:=rfl
  rw[List.foldl_cons,List.length_cons,Nat.add_mul]
  omega
theorem off_small {ps:List Pr} (hs:Sm ps):∀k,k≤ps.length→off ps k≤k * 1000000:=by
 intro k
 induction k with
 | zero=>intro _;simp [off]
 | succ k ih =>
  intro hk
  rw[off_succ (by omega)]
  have h1:=ih (by omega)
  have h2:=hs.evs _ (List.getElem_mem (show k<ps.length by omega))
  omega
def nlev (ps:List Pr):Nat:=(List.range (off ps ps.length+2)).findIdx fun k=>(levF ps k).isEmpty
theorem range_findIdx (p:Nat→Bool) (n:Nat) (h:(List.range n).findIdx p<n):p ((List.range n).findIdx p)=true:=by
 have w:(List.range n).findIdx p<(List.range n).length:=by rw[List.length_range];exact h
 have:=List.findIdx_getElem (w:=w)
 rwa [List.getElem_range] at this
theorem nlev_lt {ps:List Pr} {j:Nat} (h:j<nlev ps):levF ps j ≠ []:=fun e=>by
 unfold nlev at h
 have hl:j<(List.range (off ps ps.length+2)).length:=Nat.lt_of_lt_of_le h List.findIdx_le_length
 have:=List.not_of_lt_findIdx h
 rw[List.getElem_range] at this
 simp [e] at this
theorem nlev_eq {ps:List Pr} {k:Nat} (hk:k≤nlev ps) (h:levF ps k=[]):k=nlev ps:=by
 rcases Nat.lt_or_ge k (nlev ps) with h1|h1
 ·exact absurd h (nlev_lt h1)
 ·omega
theorem nlev_succ {ps:List Pr} (hv:validF ps=true) {k:Nat} (hk:k≤nlev ps) (h:levF ps k ≠ []):k+1≤nlev ps:=by
 rcases Nat.lt_or_ge k (nlev ps) with h1|h1
 ·omega
 ·exfalso
  have e:k=nlev ps:=by omega
  have hko:k≤off ps ps.length:=by
   rcases Nat.lt_or_ge (off ps ps.length) k with h|h'
   ·exact absurd (levF_end hv h) ‹levF ps k ≠ []›
   ·exact h'
  have this:(levF ps (nlev ps)).isEmpty=true:=range_findIdx (fun k=>(levF ps k).isEmpty) _ (show nlev ps<_ by omega)
  rw[e] at h
  exact h (List.isEmpty_iff.1 this)
def lvsF (ps:List Pr) (k:Nat):List AV:=(List.range k).map fun j=>aRows (levF ps j)
theorem lvsF_succ (ps:List Pr) (k:Nat):lvsF ps (k+1)=lvsF ps k ++ [aRows (levF ps k)]:=by unfold lvsF;rw[List.range_succ,List.map_append];rfl
theorem lvsF_len (ps:List Pr) (k:Nat):(lvsF ps k).length=k:=by simp [lvsF]
noncomputable def aLvs (ps:List Pr):AV:=if validF ps=true then (if (cutsF ps).length≤5000 then .tup [.sl 1 (lvsF ps (nlev ps)),ai 0] else .tup [.sl 1 [],ai 16]) else .tup [.sl 1 [],ai 1]
theorem cuts_levels (ps:List Pr) (hs:Sm ps):PC Proofs.Tryz.prog 66 [aTr ps] (aLvs ps):=by
 have hva:=trace_Valid ps hs
 unfold aLvs
 refine PC.enter 35 [.tmp 2,.tmp 3] [1,4,32] Proofs.Tryz.func66 rfl rfl rfl rfl rfl (by simp) (AWp.of ?_);simp only[go_sem]
 refine Wk ?_
 refine Sd ?_
 refine(hva).val.use ?_;simp only[go_sem]
 cases hv:validF ps with
 | false =>
  refine Wk ?_
  refine ret_view [] ?_;simp only[go_sem]
  exact .mkTup (Vws.cons (.nil 1) (Vws.refl _))
 | true =>
  obtain⟨hl1,hl8⟩:=valid_len hv
  have hof:=cuts_of ps hs hv
  rw[if_pos rfl]
  unfold aMk at hof
  refine Wk ?_
  refine Sd ?_
  refine(hof).val.use ?_;simp only[go_sem]
  intro b4
  refine Wk ?_
  intro b0 b1 g1
  have n1:¬b1=b0:=by omega
  have n2:¬b0=b1:=by omega
  refine AWp.view [true,true] [(5,.sl 1 ((levF ps 0).map aInts))] (LVw.refl _) ?_ ?_
  ·intro q hq
   simp only[List.mem_singleton] at hq
   subst hq
   simp only[go_sem,pickT]
   have e:List.replicate ps.length (ai 0)=(List.replicate ps.length (0:Int)).map ai:=(List.map_replicate).symm
   rw[e]
   exact Vw.ofLs' (t:=47) (cap:=1) (if_pos rfl) rfl (Vws.cons (Vw.ofLs (t:=3) (cap:=ps.length) (by simp only[lk,n2,if_false,if_true]) (by rw[List.length_map,List.length_replicate])) .nil)
  simp only[go_sem,pickF]
  have hz0:(0:Int)=((cumF ps 0).length:Nat):=rfl
  have hof1:1≤off ps ps.length+1:=by omega
  refine Wk ?_
  refine AWp.block (AWp.loopN [5,6,7] [4] (fun m vs L=>∃(k:Nat) (v:AV),vs=[.sl 1 ((levF ps k).map aInts),v,ai (cumF ps k).length]∧AppSt 44 1 (lvsF ps k) v L∧(cumF ps k).length≤5000∧(levF ps k).length≤40000∧k≤nlev ps∧k≤off ps ps.length+1∧m=off ps ps.length+1 - k) (off ps ps.length+1) ⟨0,anil,rfl,.nil,by simp [cumF],by simp [levF],by omega,by omega,rfl⟩ ?_)
  rintro m vs L - ⟨k,v,rfl,hA,h5,hl4,hkn,hk,rfl⟩
  by_cases hlv:levF ps k=[]
  ·have hz:¬(0:Int)<((levF ps k).length:Int):=by rw[hlv];simp
   have hcut:cutsF ps=cumF ps k:=by
    unfold cutsF
    rw[show off ps ps.length+1=k+(off ps ps.length+1 - k) by omega,cumF_end hlv]
   rw[hcut,if_pos h5,← nlev_eq hkn hlv]
   generalize lvsF ps k=ys at *
   rcases hA.inv with ⟨e1,rfl,rfl⟩|⟨bq,cap,rfl,rfl⟩
   ·simp only[go_sem]
    refine W1 hz ?_
    refine ret_view [] ?_;simp only[go_sem]
    rw[e1]
    exact .mkTup (Vws.cons (.nil 1) (Vws.refl _))
   ·simp only[go_sem]
    refine W1 hz ?_
    refine ret_view [true] ?_;simp only[go_sem]
    exact .mkTup (Vws.cons (Vw.ofLs (if_pos rfl) rfl) (Vws.refl _))
  ·have hko:k≤off ps ps.length:=by
    rcases Nat.lt_or_ge (off ps ps.length) k with h|h
    ·exact absurd (levF_end hv h) hlv
    ·exact h
   have hpos:0<(levF ps k).length:=List.length_pos_iff.2 hlv
   have hposi:(0:Int)<((levF ps k).length:Int):=by omega
   have hcs:=cumF_succ ps k
   have hcsl:(cumF ps (k+1)).length=(cumF ps k).length+(levF ps k).length:=by rw[hcs,List.length_append]
   have hmono:=cumF_mono (ps:=ps) (j:=k+1) (k:=off ps ps.length+1) (by omega)
   have hcutl:(cumF ps (off ps ps.length+1)).length=(cutsF ps).length:=rfl
   have hsum:=nlev_succ hv hkn hlv
   have hmore:(levF ps k).length≤5000→(levF ps (k+1)).length≤40000:=fun h=>by
    have:=moreT_len (ps:=ps) (B:=ps.length) (l:=levF ps k) (acc:=[]) fun c hc=>by rw[(isF_iff.1 ((mem_levF hv k c).1 hc).1).1];exact Nat.le_refl _
    have h2:(levF ps k).length * ps.length≤5000 * 8:=Nat.mul_le_mul h hl8
    have h3:(levF ps (k+1)).length=((levF ps k).foldl (fun acc c=>insL acc (nextL ps c)) []).length:=rfl
    rw[h3]
    simp only[List.length_nil] at this
    omega
   have hnx:=fun h=>maker_next ps hs hv k h
   unfold aMk aRows at hnx
   have hys:=lvsF_succ ps k
   have hyl:=lvsF_len ps k
   unfold aRows at hys
   have hofl:off ps ps.length≤8000000:=by
    have:=off_small hs ps.length (Nat.le_refl _)
    omega
   rcases hA.inv with ⟨e1,rfl,rfl⟩|⟨bq,cap,rfl,rfl⟩
   ·simp only[go_sem]
    repeat(first|((with_reducible refine AWp.ofC ?_ ?_);exact rfl;simp only[go_sem,hposi])|((with_reducible refine an ?_ ?_);exact Au))
    refine Wk ?_
    refine⟨fun h9 => ?_,fun h9 => ?_⟩
    ·rw[if_neg (by omega)]
     refine Wk ?_
     refine ret_view [] ?_;simp only[go_sem]
     exact .mkTup (Vws.cons (.nil 1) (Vws.refl _))
    ·have hnx:=hnx (by omega)
     refine Wk ?_
     intro b' cap' hc'
     refine Wk ?_
     refine Sd ?_
     refine(hnx).val.use ?_;simp only[go_sem]
     refine Wk ?_
     refine⟨_,List.Sublist.refl _,_,?_,k+1,.ls b' 1 0 1 cap',by rw[hcsl];simp,?_,by omega,hmore (by omega),hsum,by omega,rfl⟩
     ·omega
     ·rw[hys,e1];exact .row b' [_] cap'
   ·simp only[go_sem]
    repeat(first|((with_reducible refine AWp.ofC ?_ ?_);exact rfl;simp only[go_sem,hposi])|((with_reducible refine an ?_ ?_);exact Au))
    refine Wk ?_
    refine⟨fun h9 => ?_,fun h9 => ?_⟩
    ·rw[if_neg (by omega)]
     refine Wk ?_
     refine ret_view [true] ?_;simp only[go_sem]
     exact .mkTup (Vws.cons (.nil 1) (Vws.refl _))
    ·have hnx:=hnx (by omega)
     refine W1 hyl ?_
     intro b' cap' hc'
     refine Wk ?_
     refine Sd ?_
     refine(hnx).val.use ?_;simp only[go_sem]
     refine Wk ?_
     refine⟨_,List.Sublist.refl _,_,?_,k+1,.ls b' 1 0 (k+1) cap',by rw[hcsl];simp,?_,by omega,hmore (by omega),hsum,by omega,rfl⟩
     ·omega
     ·rw[hys,show List.take k (lvsF ps k)=lvsF ps k from List.take_of_length_le (by omega)];exact AppSt.snoc b' cap' (k+1) (congrArg (· + 1) hyl.symm)
def GrowS (n:Nat) (r:AV) (L:AHeap):Prop:=(n=0∧r=anil∧L=[])∨∃b cap,n≤cap∧r = .ls b 1 0 0 cap∧L=[(b,.row 47 1 (List.replicate n anil) cap)]
theorem rows_grow (n:Nat) (hn:n≤1000000):MCalls Proofs.Tryz.prog 91 [anil,ai (n:Nat)] [] (GrowS n):=by
 refine MCalls.enter' 27 [.tmp 4] [] Proofs.Tryz.func91 rfl rfl rfl rfl rfl (by simp) (AWp.of ?_);simp only[go_sem]
 refine Wk ?_
 intro _
 refine Wk ?_
 refine Wk ?_
 refine⟨fun h1 => ?_,fun h1 => ?_⟩
 ·refine Wk ?_
  intro b cap hc
  refine Wk ?_
  refine ret_own ?_
  simp only[go_sem]
  have e:((n:Int) - (((0:Nat):Int) - ((0:Nat):Int))).toNat=n:=by omega
  rw[e]
  exact .inr ⟨b,cap,by omega,by simp,rfl⟩
 ·have:n=0:=by omega
  refine Wk ?_
  refine ret_own ?_
  simp only[go_sem]
  exact .inl ⟨this,rfl,rfl⟩
def CatS (ls:List (List (List Int))) (k:Nat) (v:AV) (L:AHeap):Prop :=
 (ls.flatten=[]∧v=anil∧L=[])∨∃b cap xs,v = .ls b 1 0 (ls.take k).flatten.length cap∧L=[(b,.row 47 1 xs cap)]∧(ls.take k).flatten.length≤xs.length∧xs.take (ls.take k).flatten.length=(ls.take k).flatten.map aInts
theorem flat_succ {ls:List (List (List Int))} {k:Nat} (hk:k<ls.length):(ls.take (k+1)).flatten=(ls.take k).flatten ++ ls[k]:=by
 rw[List.take_succ_eq_append_getElem hk,List.flatten_append];simp
theorem flat_le {ls:List (List (List Int))} (k:Nat):(ls.take k).flatten.length≤ls.flatten.length:=by
 conv=>rhs;rw[← List.take_append_drop k ls,List.flatten_append,List.length_append]
 omega
theorem rows_concat (ls:List (List (List Int))) (hl:ls.length≤100000000) (hf:ls.flatten.length≤1000000) :
  MCalls Proofs.Tryz.prog 67 [.sl 1 (ls.map aRows)] [] fun r L=>CatS ls ls.length r L:=by
 have hR:∀x:List (List Int),aRows x = .sl 1 (x.map aInts):=fun _=>rfl
 refine MCalls.enter' 36 [.tmp 2] [] Proofs.Tryz.func67 rfl rfl rfl rfl rfl (by simp) (AWp.of ?_);simp only[go_sem]
 refine Wk ?_
 refine AWp.range' ls.length [3] [0,9,10] (fun k vs L=>L=[]∧vs=[ai ((ls.take k).flatten.length:Nat)]) (by omega) rfl rfl rfl ⟨rfl,by rw[List.take_zero];rfl⟩ ?_ ?_
 ·rintro k vs L hk - ⟨rfl,rfl⟩
  have h1:=flat_le (ls:=ls) k
  have h2:=flat_le (ls:=ls) (k+1)
  have h3:=congrArg List.length (flat_succ hk)
  rw[List.length_append] at h3
  have hg:=getD_map (f:=aRows) hk
  simp only[go_sem]
  refine W2 hg hR ?_
  intro _
  refine Wk ?_
  exact⟨_,List.Sublist.refl _,rfl,by rw[h3];simp⟩
 ·rintro vs L - ⟨rfl,rfl⟩
  rw[List.take_length]
  simp only[go_sem]
  refine Wk ?_
  refine(rows_grow _ hf).val.mono ?_
  intro r L hr
  have hI:CatS ls 0 r L:=by
   rcases hr with ⟨h0,rfl,rfl⟩|⟨b,cap,hc,rfl,rfl⟩
   ·exact .inl ⟨List.eq_nil_of_length_eq_zero h0,rfl,rfl⟩
   ·exact .inr ⟨b,cap,_,by simp,rfl,by simp,by simp⟩
  clear hr
  have hfo:fo r=(True,r):=by rcases hI with ⟨_,rfl,_⟩|⟨b,cap,xs,rfl,_⟩ <;> rfl
  simp only[go_sem,hfo]
  refine W1 hfo ?_
  refine AWp.range' ls.length [6] [25,26] (fun k vs L=>∃v,vs=[v]∧CatS ls k v L) (by omega) rfl rfl rfl ⟨_,rfl,hI⟩ ?_ ?_
  ·clear hI
   rintro k vs L hk - ⟨v,rfl,hC⟩
   have h2:=flat_le (ls:=ls) (k+1)
   have hs:=flat_succ hk
   have h3:=congrArg List.length hs
   rw[List.length_append] at h3
   have hg:=getD_map (f:=aRows) hk
   have hll:(ls[k].map aInts).length=ls[k].length:=List.length_map _
   rcases hC with ⟨h0,rfl,rfl⟩|⟨b,cap,xs,rfl,rfl,hx,ht⟩
   ·have he:ls[k].map aInts=[]:=by
     rw[List.flatten_eq_nil_iff.1 h0 _ (List.getElem_mem hk)];rfl
    simp only[go_sem]
    refine W3 hg hR he ?_
    exact⟨_,List.Sublist.refl _,_,rfl,.inl ⟨h0,rfl,rfl⟩⟩
   ·have hy:(ls.take (k+1)).flatten.map aInts=(ls.take k).flatten.map aInts ++ ls[k].map aInts:=by rw[hs,List.map_append]
    unfold CatS
    rw[hy,h3,← ht]
    simp only[go_sem]
    refine W2 hg hR ?_
    intro b' cap' hc
    refine⟨_,List.Sublist.refl _,_,rfl,.inr ⟨b',cap',_,rfl,rfl,?_,?_⟩⟩
    ·rw[List.length_append,List.length_take];omega
    ·rw[List.take_of_length_le (by rw[List.length_append,List.length_take];omega)]
  ·clear hI
   rintro vs L - ⟨v,rfl,hC⟩
   have hfo:fo v=(True,v):=by rcases hC with ⟨_,rfl,_⟩|⟨b,cap,xs,rfl,_⟩ <;> rfl
   simp only[go_sem,hfo]
   refine W1 hfo ?_
   refine ret_own ?_
   simp only[go_sem,hfo]
   exact hC
noncomputable def lstE (ps:List Pr):Int:=if validF ps=true then (if (cutsF ps).length≤5000 then 0 else 16) else 1
noncomputable def lvOf (ps:List Pr):List (List (List Int)):=if lstE ps=0 then (List.range (nlev ps)).map (levF ps) else []
noncomputable def lstF (ps:List Pr):List (List Int):=if lstE ps=0 then cutsF ps else []
noncomputable def aLst (ps:List Pr):AV:=.tup [aRows (lstF ps),ai (lstE ps)]
theorem lst_zero {ps:List Pr} : lstE ps=0↔validF ps=true∧(cutsF ps).length≤5000:=by
 unfold lstE
 split
 ·split <;> simp_all
 ·simp_all
theorem aLvs_eq (ps:List Pr):aLvs ps = .tup [.sl 1 ((lvOf ps).map aRows),ai (lstE ps)]:=by
 unfold aLvs lvOf lvsF
 by_cases hv:validF ps=true
 ·by_cases h5:(cutsF ps).length≤5000
  ·rw[if_pos hv,if_pos h5,if_pos (lst_zero.2 ⟨hv,h5⟩)]
   unfold lstE
   rw[if_pos hv,if_pos h5,List.map_map];rfl
  ·rw[if_pos hv,if_neg h5,if_neg fun h=>h5 (lst_zero.1 h).2]
   unfold lstE
   rw[if_pos hv,if_neg h5];rfl
 ·rw[if_neg hv,if_neg fun h=>hv (lst_zero.1 h).1]
  unfold lstE
  rw[if_neg hv];rfl
theorem lev_nlev {ps:List Pr} (hv:validF ps=true):levF ps (nlev ps)=[]:=by
 have h1:(levF ps (off ps ps.length+1)).isEmpty=true:=by rw[levF_end hv (by omega)];rfl
 have:nlev ps<off ps ps.length+2:=by
  unfold nlev
  have:=List.findIdx_lt_length_of_exists (p:=fun k=>(levF ps k).isEmpty) (xs:=List.range (off ps ps.length+2)) ⟨off ps ps.length+1,by simp,h1⟩
  rwa [List.length_range] at this
 exact List.isEmpty_iff.1 (range_findIdx (fun k=>(levF ps k).isEmpty) _ this)
theorem nlev_le {ps:List Pr} : nlev ps≤off ps ps.length+2:=by
 have:=List.findIdx_le_length (p:=fun k=>(levF ps k).isEmpty) (xs:=List.range (off ps ps.length+2))
 rwa [List.length_range] at this
theorem cum_nlev {ps:List Pr} (hv:validF ps=true):cumF ps (nlev ps)=cutsF ps:=by
 have h:=cumF_end (lev_nlev hv)
 unfold cutsF
 rcases Nat.lt_or_ge (off ps ps.length+1) (nlev ps) with h1|h1
 ·have h2:=cumF_end (levF_end hv (show off ps ps.length<off ps ps.length+1 by omega)) (nlev ps - (off ps ps.length+1))
  rw[show off ps ps.length+1+(nlev ps - (off ps ps.length+1))=nlev ps by omega] at h2
  exact h2
 ·have:=h (off ps ps.length+1 - nlev ps)
  rw[show nlev ps+(off ps ps.length+1 - nlev ps)=off ps ps.length+1 by omega] at this
  exact this.symm
theorem lv_flat (ps:List Pr):(lvOf ps).flatten=lstF ps:=by
 unfold lvOf lstF
 split
 ·rename_i h
  rw[← cum_nlev (lst_zero.1 h).1]
  unfold cumF
  rw[List.flatMap_def]
 ·rfl
theorem lst_len (ps:List Pr):(lstF ps).length≤5000:=by
 unfold lstF
 split
 ·rename_i h;exact(lst_zero.1 h).2
 ·exact Nat.zero_le _
theorem lv_len {ps:List Pr} (hs:Sm ps):(lvOf ps).length≤10000002:=by
 unfold lvOf
 split
 ·rename_i h
  have:=(valid_len (lst_zero.1 h).1).2
  rw[List.length_map,List.length_range]
  have:=nlev_le (ps:=ps)
  have:=off_small hs ps.length (Nat.le_refl _)
  omega
 ·exact Nat.zero_le _
theorem cuts_levels' (ps:List Pr) (hs:Sm ps):PC Proofs.Tryz.prog 66 [aTr ps] (.tup [.sl 1 ((lvOf ps).map aRows),ai (lstE ps)]):=by
 rw[← aLvs_eq];exact cuts_levels ps hs
theorem Vw.pre {L:AHeap} {b k n c:Nat} {t:TypeId} {xs ys:List AV} {cap:Nat} (h:lk L b=some (.row t k xs cap)) (hn:n≤xs.length) (ht:xs.take n=ys):Vw L (.ls b k 0 n c) (.sl k ys) :=
 .ls h (by omega) (by rw[List.drop_zero,ht]) (by rw[List.drop_zero,ht];exact(Vws.refl ys).2)
theorem cuts_list (ps:List Pr) (hs:Sm ps):PC Proofs.Tryz.prog 41 [aTr ps] (aLst ps):=by
 have h1:=cuts_levels' ps hs
 have hf:(lvOf ps).flatten.length≤1000000:=by rw[lv_flat];have:=lst_len ps;omega
 have h2:=rows_concat (lvOf ps) (by have:=lv_len hs;omega) hf
 have hR:∀x:List (List Int),aRows x = .sl 1 (x.map aInts):=fun _=>rfl
 have hfl:=lv_flat ps
 unfold aLst
 rw[← hfl,hR]
 generalize lvOf ps=ls at *
 generalize lstE ps=e at *
 refine PC.enter 14 [.tmp 2,.tmp 3] [1] Proofs.Tryz.func41 rfl rfl rfl rfl rfl (by simp) (AWp.of ?_);simp only[go_sem]
 refine Wk ?_
 refine Sd ?_
 refine(h1).val.use ?_;simp only[go_sem]
 refine Wk ?_
 refine h2.val.mono ?_
 intro r L hC
 unfold CatS at hC
 rw[List.take_length] at hC
 rcases hC with ⟨h0,rfl,rfl⟩|⟨b,cap,xs,rfl,rfl,hx,ht⟩
 ·simp only[go_sem]
  refine Wk ?_
  refine ret_view [] ?_;simp only[go_sem]
  rw[h0]
  exact .mkTup (Vws.cons (.nil 1) (Vws.refl _))
 ·simp only[go_sem]
  refine Wk ?_
  refine ret_view [true] ?_;simp only[go_sem]
  exact .mkTup (Vws.cons (Vw.pre (if_pos rfl) hx ht) (Vws.refl _))
theorem cuts_List (ps:List Pr) (hs:Sm ps):PC Proofs.Tryz.prog 17 [aTr ps] (aLst ps):=by
 have h1:=cuts_list ps hs
 unfold aLst at *
 refine PC.enter 8 [.tmp 2,.tmp 3] [1] Proofs.Tryz.func17 rfl rfl rfl rfl rfl (by simp) (AWp.of ?_);simp only[go_sem]
 refine Wk ?_
 refine Sd ?_
 refine(h1).val.use ?_;simp only[go_sem]
 refine Wk ?_
 refine ret_eq ?_;simp only[go_sem]
def fullC (ps:List Pr):List Int:=ps.map fun x=>(x.evs.length:Int)
theorem fullC_at {ps:List Pr} {p:Nat} (hp:p<ps.length):cAt (fullC ps) p=ps[p].evs.length:=by
 unfold fullC
 rw[cAt_nat (by rw[List.length_map];exact hp),List.getElem_map]
theorem fullC_is {ps:List Pr} (hv:validF ps=true):isF ps (fullC ps)=true:=by
 have hl:(fullC ps).length=ps.length:=List.length_map _
 refine isF_iff.2 ⟨hl,(inRange_iff hl).2 fun p hp => ?_,closed_iff.2 fun p hp i hi hk _ => ?_⟩
 ·rw[fullC_at hp];omega
 ·obtain⟨s,hs,j,hj,e,_,_⟩:=sndr_some (recv_sndr (valid_parts hv).2.2 hp hi hk)
  rw[e]
  simp only
  rw[fullC_at hs];omega
theorem fullC_sum (ps:List Pr):(fullC ps).sum=off ps ps.length:=by
 unfold fullC off
 rw[List.take_length]
 induction ps with
 | nil=>rfl
 | cons x ps ih=>rw[List.map_cons,List.sum_cons,ih,List.map_cons,List.sum_cons];omega
end Go.AL
end
section
namespace Go.AL
open Go Go.RowKit
def astepF (C:Cfg) (all:List Oper) (o:Oper) (ρ:Env) (L:AHeap) (K:ARes):Prop :=
 match o.guard with
 | none=>aop C o ρ L K
 | some (j,want)=>match gval all ρ j want with
  | some b=>(b=want→aop C o ρ L K)∧(b ≠ want→K (put ρ o.dst .any) L)
  | none=>False
def aregionF (C:Cfg) (all:List Oper):List Oper→Env→AHeap→ARes→Prop
 | [],ρ,L,K=>K ρ L
 | o :: rest,ρ,L,K=>astepF C all o ρ L fun ρ L=>aregionF C all rest ρ L K
def aregFK (C:Cfg) (all rest:List Oper) (K:ARes) (ρ:Env) (L:AHeap):Prop:=aregionF C all rest ρ L K
theorem aregionF_nil (C:Cfg) (all:List Oper) (ρ:Env) (L:AHeap) (K:ARes):aregionF C all [] ρ L K=K ρ L:=rfl
theorem aregionF_cons (C:Cfg) (all rest:List Oper) (o:Oper) (ρ:Env) (L:AHeap) (K:ARes):aregionF C all (o :: rest) ρ L K=astepF C all o ρ L (aregFK C all rest K):=rfl
attribute [go_sem] aregionF_nil aregionF_cons astepF aregFK
end Go.AL
end
section
namespace Go.AL
open Go Go.RowKit
set_option maxRecDepth 4000
section
variable {ps:List Pr} {ts:List Pd}
end
theorem cut_Consistent (ps:List Pr) (hs:Sm ps) (c:List Int):PC Proofs.Tryz.prog 53 [aTr ps,aInts c] (ab (decide (givenF ps [c] []=0))):=by
 have hg:=cut_given ps hs [c] (by simp) [] (by simp)
 generalize givenF ps [c] []=G at *
 refine PC.enter 10 [.tmp 4] [2,7] Proofs.Tryz.func53 rfl rfl rfl rfl rfl (by simp) (AWp.of ?_);simp only[go_sem]
 refine Wk ?_
 refine(PC.view (Vws.cons (.refl _) (Vws.cons (.refl _) (Vws.cons (.nil 1) .nil))) hg (Own.v _) ?_).val
 simp only[go_sem]
 refine Wk ?_
 refine ret_eq ?_;simp only[go_sem]
def leqF (a b:List Int):Bool:=decide (a.length=b.length) && (List.range a.length).all fun i=>decide (a.getD i 0≤b.getD i 0)
theorem leqF_iff {a b:List Int} : leqF a b=true↔a.length=b.length∧∀i,i<a.length→a.getD i 0≤b.getD i 0:=by
 unfold leqF
 rw[Bool.and_eq_true,List.all_eq_true,decide_eq_true_eq]
 exact⟨fun h=>⟨h.1,fun i hi=>of_decide_eq_true (h.2 i (List.mem_range.2 hi))⟩,fun h=>⟨h.1,fun i hi=>decide_eq_true (h.2 i (List.mem_range.1 hi))⟩⟩
def OwnS (xs:List (List Int)) (v:AV) (L:AHeap):Prop :=
 (xs=[]∧v=anil∧L=[])∨∃b cap ws,v = .ls b 1 0 xs.length cap∧L=[(b,.row 47 1 (xs.map aInts ++ ws) cap)]
theorem OwnS.fo {xs:List (List Int)} {v:AV} {L:AHeap} (h:OwnS xs v L):AL.fo v=(True,v):=by
 rcases h with ⟨_,rfl,_⟩|⟨b,cap,ws,rfl,_⟩ <;> rfl
def idxF (l:List (List Int)) (c:List Int):Int:=match l.findIdx? fun d=>decide (c=d) with|some i=>(i:Int)|none => -1
section
variable {ps:List Pr} {c:List Int}
variable {j:List Int} {ch:Int→Int→Int}
end
section
variable {ps:List Pr} {c:List Int}
end
def ordL (a b:List Int):Prop:=a.sum<b.sum∨(a.sum=b.sum∧cmpL a b<0)
theorem ordL_irr {a:List Int} (h:ordL a a):False:=by
 rcases h with h|⟨_,h⟩
 ·omega
 ·rw[cmpL_irr] at h;omega
theorem cum_ord {ps:List Pr} (hv:validF ps=true):∀n,(cumF ps n).Pairwise ordL∧∀x ∈ cumF ps n,x.sum<n
 | 0=>⟨List.Pairwise.nil,fun x hx=>by cases hx⟩
 | n+1=>by
  obtain⟨h1,h2⟩:=cum_ord hv n
  rw[cumF_succ]
  have hl:∀x ∈ levF ps n,x.sum=n:=fun x hx=>((mem_levF hv n x).1 hx).2
  refine⟨List.pairwise_append.2 ⟨h1,?_,fun x hx y hy => .inl (by rw[hl y hy];exact h2 x hx)⟩,fun x hx => ?_⟩
  ·refine(asc_lev hv n).imp_of_mem fun {a b} ha hb hab => .inr ⟨by rw[hl a ha,hl b hb],hab⟩
  ·rcases List.mem_append.1 hx with hx|hx
   ·have:=h2 x hx;omega
   ·have:=hl x hx;omega
theorem cuts_ord {ps:List Pr} (hv:validF ps=true):(cutsF ps).Pairwise ordL:=(cum_ord hv _).1
theorem isF_given {ps:List Pr} (hv:validF ps=true) {c:List Int} : givenF ps [c] []=0↔isF ps c=true:=by
 rw[givenL,isF_iff];simp [hv,and_assoc]
theorem leq_iff_at {a b:List Int} : leqF a b=true↔a.length=b.length∧∀p:Nat,p<a.length→cAt a p≤cAt b p:=leqF_iff
theorem leq_sum:∀ {a b:List Int},leqF a b=true→a.sum≤b.sum∧(a.sum=b.sum→a=b)
 | [],[],_=>⟨Int.le_refl _,fun _=>rfl⟩
 | [],_ :: _,h=>by have:=(leqF_iff.1 h).1;simp at this
 | _ :: _,[],h=>by have:=(leqF_iff.1 h).1;simp at this
 | x :: a,y :: b,h=>by
  obtain⟨h1,h2⟩:=leqF_iff.1 h
  have h0:x≤y:=by simpa using h2 0 (by simp)
  obtain⟨i1,i2⟩:=leq_sum (a:=a) (b:=b) (leqF_iff.2 ⟨by simpa using h1,fun i hi=>by have:=h2 (i+1) (by simpa using hi);simpa using this⟩)
  rw[List.sum_cons,List.sum_cons]
  refine⟨by omega,fun h => ?_⟩
  rw[i2 (by omega),show x=y by omega]
section
variable {A:List (List Int)} (hA:A.Pairwise ordL)
include hA
theorem ord_get {i j:Nat} (hi:i<A.length) (hj:j<A.length) (h:i<j):ordL A[i] A[j]:=List.pairwise_iff_getElem.1 hA i j hi hj h
theorem ord_inj {i j:Nat} (hi:i<A.length) (hj:j<A.length) (h:A[i]=A[j]):i=j:=by
 rcases Nat.lt_trichotomy i j with h1|h1|h1
 ·have:=ord_get hA hi hj h1;rw[h] at this;exact(ordL_irr this).elim
 ·exact h1
 ·have:=ord_get hA hj hi h1;rw[h] at this;exact(ordL_irr this).elim
theorem idx_get {i:Nat} (hi:i<A.length):idxF A A[i]=i:=by
 have:A.findIdx? (fun d=>decide (A[i]=d))=some i:=by
  rw[List.findIdx?_eq_some_iff_getElem]
  refine⟨hi,decide_eq_true rfl,fun j hj h => ?_⟩
  have:=ord_inj hA hi (by omega) (of_decide_eq_true h)
  omega
 unfold idxF
 rw[this]
theorem idx_leq {i j:Nat} (hi:i<A.length) (hj:j<A.length) (h:leqF A[i] A[j]=true):i≤j:=by
 rcases Nat.lt_or_ge j i with h1|h1
 ·exfalso
  obtain⟨s1,s2⟩:=leq_sum h
  have ho:=ord_get hA hj hi h1
  rcases ho with ho|⟨e,ho⟩
  ·omega
  ·have:=s2 e.symm
   rw[this,cmpL_irr] at ho
   omega
 ·exact h1
end
abbrev au64 (n:Int):AV:=.v (.int .u64 n)
def wordOf (f:Nat→Bool) (w:Nat):Nat→Nat
 | 0=>0
 | j+1=>if f j=true∧j / 64=w then wordOf f w j+2 ^ (j % 64) else wordOf f w j
theorem word_zero {f:Nat→Bool} {w:Nat} : ∀ {j:Nat},j≤64 * w→wordOf f w j=0
 | 0,_=>rfl
 | j+1,h=>by
  unfold wordOf
  rw[if_neg (by omega)]
  exact word_zero (by omega)
theorem word_lt {f:Nat→Bool} : ∀ {j:Nat},wordOf f (j / 64) j<2 ^ (j % 64)
 | 0=>by show (0:Nat)<2 ^ (0 % 64);decide
 | j+1=>by
  have ih:=word_lt (f:=f) (j:=j)
  by_cases h:(j+1) % 64=0
  ·rw[word_zero (by omega),h];decide
  ·have e1:(j+1) / 64=j / 64:=by omega
   have e2:(j+1) % 64=j % 64+1:=by omega
   rw[e1,e2,Nat.pow_succ]
   unfold wordOf
   split <;> omega
theorem word_big {f:Nat→Bool} {w:Nat} : ∀ {j:Nat},wordOf f w j<2 ^ 64
 | 0=>by show (0:Nat)<2 ^ 64;decide
 | j+1=>by
  have ih:=word_big (f:=f) (w:=w) (j:=j)
  unfold wordOf
  split
  ·rename_i h
   have h1:=word_lt (f:=f) (j:=j)
   rw[h.2] at h1
   have h2:2 ^ (j % 64+1)≤2 ^ 64:=Nat.pow_le_pow_right (by decide) (by omega)
   rw[Nat.pow_succ] at h2
   omega
  ·exact ih
theorem word_congr {f g:Nat→Bool} {w:Nat} : ∀ {j:Nat},(∀i,i<j→f i=g i)→wordOf f w j=wordOf g w j
 | 0,_=>rfl
 | j+1,h=>by
  unfold wordOf
  rw[h j (by omega),word_congr fun i hi=>h i (by omega)]
def nW (n:Nat):Nat:=(n+63) / 64
def wordsF (f:Nat→Bool) (n j:Nat):List Nat:=(List.range (nW n)).map fun w=>wordOf f w j
theorem words_len (f:Nat→Bool) (n j:Nat):(wordsF f n j).length=nW n:=by simp [wordsF]
theorem words_get {f:Nat→Bool} {n j i:Nat} (h:i<nW n):(wordsF f n j)[i]?=some (wordOf f i j):=by
 unfold wordsF;rw[List.getElem?_map,List.getElem?_range h];rfl
theorem words_zero (f:Nat→Bool) (n:Nat):wordsF f n 0=List.replicate (nW n) 0:=by
 apply List.ext_getElem?
 intro i
 by_cases h:i<nW n
 ·rw[words_get h,List.getElem?_replicate,if_pos h];rfl
 ·rw[List.getElem?_eq_none (by rw[words_len];omega),List.getElem?_eq_none (by rw[List.length_replicate];omega)]
theorem words_no {f:Nat→Bool} {n j:Nat} (h:f j=false):wordsF f n (j+1)=wordsF f n j:=by
 unfold wordsF
 refine List.map_congr_left fun w _ => ?_
 conv=>lhs;unfold wordOf
 rw[if_neg (by rw[h];simp)]
theorem words_set {f:Nat→Bool} {n j:Nat} (h:f j=true):wordsF f n (j+1)=(wordsF f n j).set (j / 64) (wordOf f (j / 64) j+2 ^ (j % 64)):=by
 apply List.ext_getElem?
 intro i
 rw[List.getElem?_set]
 by_cases hi:i<nW n
 ·rw[words_get hi,words_len]
  conv=>lhs;unfold wordOf
  by_cases e:j / 64=i
  ·rw[if_pos ⟨h,e⟩,if_pos e,if_pos (by omega),e]
  ·rw[if_neg (fun g=>e g.2),if_neg e,words_get hi]
 ·rw[List.getElem?_eq_none (by rw[words_len];omega)]
  split
  ·rw[words_len,if_neg (by omega)]
  ·rw[List.getElem?_eq_none (by rw[words_len];omega)]
theorem words_congr {f g:Nat→Bool} {n j:Nat} (h:∀i,i<j→f i=g i):wordsF f n j=wordsF g n j:=by
 unfold wordsF
 exact List.map_congr_left fun w _=>word_congr h
theorem quo64 (j:Nat) (h:j≤1000000):IntKind.i64.wrap ((j:Int).tdiv 64)=((j / 64:Nat):Int):=by
 have:(j:Int).tdiv 64=((j / 64:Nat):Int):=rfl
 rw[this]
 exact IntWalk.i64_in _ (by omega)
theorem rem64 (j:Nat):(j:Int).tmod 64=((j % 64:Nat):Int):=rfl
theorem wrap_u64n {x:Nat} (h:x<2 ^ 64):IntKind.u64.wrap (x:Int)=x:=by
 rw[IntKind.wrap_u64];omega
theorem pow_b {b:Nat} (h:b<64):2 ^ b<2 ^ 64:=Nat.pow_lt_pow_right (by decide) h
theorem shl_bit {b:Nat} (h:b<64):shlK .u64 1 (b:Nat)=((2 ^ b:Nat):Int):=by
 unfold shlK
 have:min (b:Int).toNat (IntKind.u64.bits)=b:=by
  show min (b:Int).toNat 64=b
  omega
 rw[this,Int.one_mul]
 have e:((2:Int) ^ b)=((2 ^ b:Nat):Int):=by rw[Int.natCast_pow];rfl
 rw[e]
 exact wrap_u64n (pow_b h)
theorem add_lt {x b:Nat} (hx:x<2 ^ b) (h:b<64):x+2 ^ b<2 ^ 64:=by
 have h2:2 ^ (b+1)≤2 ^ 64:=Nat.pow_le_pow_right (by decide) (by omega)
 rw[Nat.pow_succ] at h2
 omega
theorem or_bit {x b:Nat} (hx:x<2 ^ b) (h:b<64):orK .u64 (x:Nat) ((2 ^ b:Nat):Int)=((x+2 ^ b:Nat):Int):=by
 have hp:=pow_b h
 have hl:=add_lt hx h
 unfold orK
 have e1:((BitVec.ofInt IntKind.u64.bits (x:Nat) ||| BitVec.ofInt IntKind.u64.bits ((2 ^ b:Nat):Int)).toNat)=x+2 ^ b:=by
  show ((BitVec.ofInt 64 (x:Nat) ||| BitVec.ofInt 64 ((2 ^ b:Nat):Int)).toNat)=x+2 ^ b
  rw[BitVec.toNat_or,BitVec.ofInt_natCast,BitVec.ofInt_natCast,BitVec.toNat_ofNat,BitVec.toNat_ofNat,Nat.mod_eq_of_lt (by omega),Nat.mod_eq_of_lt hp,Nat.or_comm]
  have:=Nat.two_pow_add_eq_or_of_lt hx 1
  rw[Nat.mul_one] at this
  omega
 rw[e1]
 exact wrap_u64n hl
def aBits (n:Nat) (ws:List Nat):AV:=.agg [ai n,.sl 1 (ws.map fun w:Nat=>au64 (w:Int))]
def aRelR (n:Nat) (rs:List (List Nat)):AV:=.agg [.sl 2 (rs.map (aBits n))]
theorem bit_word {f:Nat→Bool} {w b:Nat} (hb:b<64):∀ {j:Nat},(wordOf f w j).testBit b=(decide (64 * w+b<j) && f (64 * w+b))
 | 0=>by
  rw[decide_eq_false (by omega),Bool.false_and]
  show (0:Nat).testBit b=false
  exact Nat.zero_testBit b
 | j+1=>by
  have ih:=bit_word (f:=f) (w:=w) hb (j:=j)
  unfold wordOf
  by_cases h:f j=true∧j / 64=w
  ·rw[if_pos h]
   have hlt:=word_lt (f:=f) (j:=j)
   rw[h.2] at hlt
   have hor:=Nat.two_pow_add_eq_or_of_lt hlt 1
   rw[Nat.mul_one,Nat.add_comm] at hor
   rw[hor,Nat.testBit_or,ih,Nat.testBit_two_pow]
   by_cases e:j % 64=b
   ·have hj:64 * w+b=j:=by omega
    rw[hj,decide_eq_true e,Bool.true_or,decide_eq_true (by omega),h.1];rfl
   ·rw[decide_eq_false e,Bool.false_or]
    congr 1
    rw[decide_eq_decide];omega
  ·rw[if_neg h,ih]
   by_cases e:64 * w+b=j
   ·rw[decide_eq_false (show ¬64 * w+b<j by omega),Bool.false_and,decide_eq_true (by omega),Bool.true_and,e]
    cases hf:f j with
    | false=>rfl
    | true=>exact absurd ⟨hf,by omega⟩ h
   ·congr 1
    rw[decide_eq_decide];omega
theorem word_ext {x y:Nat} (hx:x<2 ^ 64) (hy:y<2 ^ 64) (h:∀b,b<64→x.testBit b=y.testBit b):x=y:=by
 refine Nat.eq_of_testBit_eq fun b => ?_
 by_cases hb:b<64
 ·exact h b hb
 ·have hp:2 ^ 64≤2 ^ b:=Nat.pow_le_pow_right (by decide) (by omega)
  rw[Nat.testBit_lt_two_pow (by omega),Nat.testBit_lt_two_pow (by omega)]
theorem bv_nat {x:Nat} (h:x<2 ^ 64):(BitVec.ofInt 64 (x:Int)).toNat=x:=by
 rw[BitVec.ofInt_natCast,BitVec.toNat_ofNat,Nat.mod_eq_of_lt h]
theorem and_nat {x y:Nat} (hx:x<2 ^ 64) (hy:y<2 ^ 64):andK .u64 (x:Nat) (y:Nat)=((x &&& y:Nat):Int):=by
 have hl:x &&& y<2 ^ 64:=Nat.lt_of_le_of_lt Nat.and_le_left hx
 have e:(BitVec.ofInt IntKind.u64.bits (x:Nat) &&& BitVec.ofInt IntKind.u64.bits (y:Nat)).toNat=x &&& y:=by
  show (BitVec.ofInt 64 (x:Nat) &&& BitVec.ofInt 64 (y:Nat)).toNat=_
  rw[BitVec.toNat_and,bv_nat hx,bv_nat hy]
 unfold andK
 rw[e]
 exact wrap_u64n hl
def mnsN (x y:Nat):Nat:=(BitVec.ofNat 64 x &&& ~~~ BitVec.ofNat 64 y).toNat
theorem mns_lt (x y:Nat):mnsN x y<2 ^ 64:=BitVec.isLt _
theorem mns_bit {x y b:Nat} (hb:b<64):(mnsN x y).testBit b=(x.testBit b && !y.testBit b):=by
 unfold mnsN
 rw[BitVec.testBit_toNat,BitVec.getLsbD_and,BitVec.getLsbD_not,BitVec.getLsbD_ofNat,BitVec.getLsbD_ofNat]
 simp [hb]
theorem mns_nat {x y:Nat} : andNotK .u64 (x:Nat) (y:Nat)=((mnsN x y:Nat):Int):=by
 unfold andNotK
 have e:(BitVec.ofInt IntKind.u64.bits (x:Nat) &&& ~~~BitVec.ofInt IntKind.u64.bits (y:Nat)).toNat=mnsN x y:=by
  show (BitVec.ofInt 64 (x:Nat) &&& ~~~BitVec.ofInt 64 (y:Nat)).toNat=_
  rw[BitVec.ofInt_natCast,BitVec.ofInt_natCast];rfl
 rw[e]
 exact wrap_u64n (mns_lt x y)
theorem word_mns {f g:Nat→Bool} {w n:Nat} : mnsN (wordOf f w n) (wordOf g w n)=wordOf (fun i=>f i && !g i) w n:=by
 refine word_ext (mns_lt _ _) word_big fun b hb => ?_
 rw[mns_bit hb,bit_word hb,bit_word hb,bit_word hb]
 cases decide (64 * w+b<n) <;> simp
theorem shr_nat {x b:Nat} (hb:b≤64):shrK .u64 (x:Nat) (b:Nat)=((x / 2 ^ b:Nat):Int):=by
 unfold shrK
 have:min (b:Int).toNat (IntKind.u64.bits)=b:=by
  show min (b:Int).toNat 64=b
  omega
 rw[this]
 have e:((2:Int) ^ b)=((2 ^ b:Nat):Int):=by rw[Int.natCast_pow];rfl
 rw[e,Int.fdiv_eq_ediv_of_nonneg _ (Int.natCast_nonneg _)]
 rfl
def cntB (f:Nat→Bool) (n:Nat):Nat:=((List.range n).filter f).length
theorem cntB_succ (f:Nat→Bool) (n:Nat):cntB f (n+1)=cntB f n+if f n=true then 1 else 0:=by
 unfold cntB
 rw[List.range_succ,List.filter_append,List.length_append]
 by_cases h:f n=true
 ·rw[if_pos h,List.filter_cons_of_pos h];rfl
 ·rw[if_neg h,List.filter_cons_of_neg h];rfl
theorem cntB_add (f:Nat→Bool) (m:Nat):∀n,cntB f (m+n)=cntB f m+cntB (fun i=>f (m+i)) n
 | 0=>by simp [cntB]
 | n+1=>by rw[← Nat.add_assoc,cntB_succ,cntB_add f m n,cntB_succ];omega
theorem cntB_congr {f g:Nat→Bool} : ∀ {n:Nat},(∀i,i<n→f i=g i)→cntB f n=cntB g n
 | 0,_=>rfl
 | n+1,h=>by rw[cntB_succ,cntB_succ,cntB_congr fun i hi=>h i (by omega),h n (by omega)]
theorem cntB_le (f:Nat→Bool) (n:Nat):cntB f n≤n:=by
 unfold cntB
 exact Nat.le_trans (List.length_filter_le _ _) (by simp)
theorem cntB_zero {f:Nat→Bool} : ∀ {n:Nat},cntB f n=0↔∀i,i<n→f i=false
 | 0=>by simp [cntB]
 | n+1=>by
  rw[cntB_succ]
  constructor
  ·intro h i hi
   have h1:cntB f n=0:=by omega
   by_cases e:i=n
   ·subst e
    cases hf:f i with
    | false=>rfl
    | true=>rw[if_pos hf] at h;omega
   ·exact cntB_zero.1 h1 i (by omega)
  ·intro h
   rw[cntB_zero.2 fun i hi=>h i (by omega),if_neg (by rw[h n (by omega)];decide)]
def popN (x:Nat):Nat:=cntB (fun b=>x.testBit b) 64
def bytN (x:Nat):Nat:=cntB (fun b=>x.testBit b) 8
theorem pop_word {f:Nat→Bool} {w n:Nat} : popN (wordOf f w n)=cntB (fun b=>decide (64 * w+b<n) && f (64 * w+b)) 64:=cntB_congr fun b hb=>bit_word hb
theorem pop_words (f:Nat→Bool) (n:Nat):∀k,((List.range k).map fun w=>popN (wordOf f w n)).sum=cntB (fun i=>decide (i<n) && f i) (64 * k)
 | 0=>rfl
 | k+1=>by
  rw[List.range_succ,List.map_append,List.sum_append,pop_words f n k,Nat.mul_succ,cntB_add,List.map_singleton,List.sum_singleton,pop_word]
theorem pop_all (f:Nat→Bool) (n:Nat):cntB (fun i=>decide (i<n) && f i) (64 * nW n)=cntB f n:=by
 obtain⟨d,hd⟩:∃d,64 * nW n=n+d:=⟨64 * nW n - n,by unfold nW;omega⟩
 have h2:cntB (fun i=>decide (n+i<n) && f (n+i)) d=0:=cntB_zero.2 fun i _=>by rw[decide_eq_false (by omega)];rfl
 rw[hd,cntB_add,h2,Nat.add_zero]
 exact cntB_congr fun i hi=>by rw[decide_eq_true hi,Bool.true_and]
end Go.AL
end
