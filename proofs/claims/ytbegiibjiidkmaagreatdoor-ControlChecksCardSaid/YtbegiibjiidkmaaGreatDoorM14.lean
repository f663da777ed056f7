/- Texts of this claim's proof: WCt, WLv, WSn, WMk. No condition. -/
import Derived.Test.YtbegiibjiidkmaaGreatDoorM13
import Derived.Test.YtbegiibjiidkmaaGreatDoorM10
import Derived.Test.YtbegiibjiidkmaaGreatDoorM12
import Derived.Test.YtbegiibjiidkmaaGreatDoorM11
section
namespace Go.AL
open Go Go.RowKit Proofs.Tryz
set_option maxRecDepth 4000
theorem noreach {ps:List Pr}(hv:validF ps=true){x:Eid}(hx:VEv ps x):¬Reach ps x x:=by
 obtain⟨p,hp,i,hi,rfl⟩:=hx
 have h0:=valid_cyc hv
 unfold cycF at h0
 rw[Option.map_eq_none_iff,List.find?_eq_none] at h0
 simpa using h0 _ (List.mem_of_getElem? (evIds_get hp hi))
theorem reach_trans {ps:List Pr}{a b c:Eid}(h1:Reach ps a b)(h2:Reach ps b c):Reach ps a c:=by
 induction h2 with
 | single h=>exact .tail h1 h
 | tail _ h ih=>exact .tail ih h
theorem countP_lt {α:Type}{p q:α->Bool} : ∀ {l:List α},(∀a ∈ l,p a=true->q a=true)->(∃a ∈ l,p a=false/\q a=true)->l.countP p<l.countP q
 | [],_,⟨a,h,_⟩=>by cases h
 | b :: l,h1,⟨a,ha,h2,h3⟩=>by
  have hle:l.countP p<=l.countP q:=List.countP_mono_left fun a ha h=>h1 a (List.mem_cons_of_mem _ ha) h
  rw[List.countP_cons,List.countP_cons]
  have hb:=h1 b List.mem_cons_self
  rcases List.mem_cons.1 ha with rfl|ha
  ·rw[h2,h3];simp;omega
  ·have:=countP_lt (l:=l) (fun a ha h=>h1 a (List.mem_cons_of_mem _ ha) h) ⟨a,ha,h2,h3⟩
   by_cases e:p b=true
   ·rw[e,hb e];omega
   ·rw[if_neg e];split <;> omega
open Classical in
noncomputable def anc (ps:List Pr)(x:Eid):Nat:=(evIds ps).countP fun e=>decide (Reach ps e.1 x)
theorem anc_lt {ps:List Pr}(hv:validF ps=true){x y:Eid}(hx:VEv ps x)(h:Reach ps x y):anc ps x<anc ps y:=by
 classical
 unfold anc
 refine countP_lt (fun a _ ha=>decide_eq_true (reach_trans (of_decide_eq_true ha) h)) ?_
 obtain⟨e,he,e1⟩:=List.mem_map.1 hx.mem
 exact⟨e,he,decide_eq_false (by rw[e1];exact noreach hv hx),decide_eq_true (by rw[e1];exact h)⟩
theorem nx_line {ps:List Pr}(hm:msgF ps=none){p:Nat}(hp:p<ps.length){j:Nat}(hj:j+1<ps[p].evs.length):Nx ps ((p:Int),(j:Int)+1) ((p:Int),((j+1:Nat):Int)+1):=by
 refine((dirL_iff hm hp hj _).1 ?_).2
 unfold dirL
 rw[List.mem_append,if_pos (by omega)]
 exact .inl (by simp)
theorem nx_send {ps:List Pr}(hm:msgF ps=none){p:Nat}(hp:p<ps.length){i:Nat}(hi:i<ps[p].evs.length)(hk:ps[p].evs[i].kind=3):Nx ps (sndr ps ps[p].evs[i].msg) ((p:Int),(i:Int)+1):=by
 refine((dirL_iff hm hp hi _).1 ?_).2
 unfold dirL
 rw[List.mem_append,evq_get hp hi,if_pos hk]
 exact .inr (by simp)
theorem reach_line {ps:List Pr}(hm:msgF ps=none){p:Nat}(hp:p<ps.length){i:Nat} : ∀ {j:Nat},i<j->j<ps[p].evs.length->Reach ps ((p:Int),(i:Int)+1) ((p:Int),(j:Int)+1)
 | 0,h,_=>by omega
 | j+1,h,hj=>by
  by_cases e:i=j
  ·subst e;exact .single (nx_line hm hp hj)
  ·exact .tail (reach_line hm hp (by omega) (by omega)) (nx_line hm hp hj)
theorem anc_line {ps:List Pr}(hv:validF ps=true){p:Nat}(hp:p<ps.length){i j:Nat}(hij:i<=j)(hj:j<ps[p].evs.length):anc ps ((p:Int),(i:Int)+1)<=anc ps ((p:Int),(j:Int)+1):=by
 by_cases e:i=j
 ·subst e;exact Nat.le_refl _
 ·exact Nat.le_of_lt (anc_lt hv ⟨p,hp,i,by omega,rfl⟩ (reach_line (valid_parts hv).2.2 hp (by omega) hj))
theorem argmax (f:Nat->Nat)(P:Nat->Prop):∀n,(∃p,p<n/\P p)->∃p,p<n/\P p/\∀q,q<n->P q->f q<=f p
 | 0,⟨p,h,_⟩=>by omega
 | n+1,⟨p,hp,h⟩=>by
  classical
  by_cases hx:∃p,p<n/\P p
  ·obtain⟨m,h1,h2,h3⟩:=argmax f P n hx
   by_cases hn:P n/\f m<f n
   ·refine⟨n,by omega,hn.1,fun q hq hP=>?_⟩
    by_cases e:q=n
    ·subst e;exact Nat.le_refl _
    ·have:=h3 q (by omega) hP;omega
   ·refine⟨m,by omega,h2,fun q hq hP=>?_⟩
    by_cases e:q=n
    ·subst e
     have:¬f m<f q:=fun h=>hn ⟨hP,h⟩
     omega
    ·exact h3 q (by omega) hP
  ·have:p=n:=by
    by_cases e:p=n
    ·exact e
    ·exact absurd ⟨p,by omega,h⟩ hx
   subst this
   refine⟨p,by omega,h,fun q hq hP=>?_⟩
   by_cases e:q=p
   ·subst e;exact Nat.le_refl _
   ·exact absurd ⟨q,by omega,hP⟩ hx
theorem setc_cAt {d:List Int}{p q:Nat}{z:Int}(hq:q<d.length):cAt (d.set p z) q=if p=q then z else cAt d q:=by
 rw[cAt_nat (by rw[List.length_set];exact hq),List.getElem_set]
 split
 ·rfl
 ·rw[cAt_nat hq]
theorem cut_remove {ps:List Pr}(hv:validF ps=true){c:List Int}(hl:c.length=ps.length)(hr:inRangeF ps c=true)(hcl:closedF ps c=true)(h0:∃p,p<ps.length/\0<cAt c p) :
  ∃p,p<ps.length/\0<cAt c p/\inRangeF ps (c.set p (cAt c p - 1))=true/\closedF ps (c.set p (cAt c p - 1))=true:=by
 have hm:=(valid_parts hv).2.2
 have hrr:=(inRange_iff hl).1 hr
 obtain⟨p,hp,hp0,hmax⟩:=argmax (fun p=>anc ps ((p:Int),cAt c p)) (fun p=>0<cAt c p) ps.length h0
 refine⟨p,hp,hp0,(inRange_iff (by rw[List.length_set];exact hl)).2 fun q hq=>?_,closed_iff.2 fun q hq i hi hk hle=>?_⟩
 ·rw[setc_cAt (by omega)]
  split
  ·rename_i e;subst e;have:=hrr p hp;omega
  ·exact hrr q hq
 ·have hle':(i:Int)+1<=cAt c q:=by
   rw[setc_cAt (by omega)] at hle
   split at hle
   ·rename_i e;subst e;omega
   ·exact hle
  have h1:=closed_iff.1 hcl q hq i hi hk hle'
  obtain⟨s,hs,j,hj,e,_,_⟩:=sndr_some (recv_sndr hm hq hi hk)
  have hn:=nx_send hm hq hi hk
  rw[e] at h1 hn ⊢
  simp only at h1 ⊢
  rw[setc_cAt (by omega)]
  split
  ·rename_i es;subst es
   by_cases hj2:(j:Int)+1=cAt c p
   ·exfalso
    have h2:=anc_lt hv ⟨p,hs,j,hj,rfl⟩ (.single hn)
    have h3:=hmax q hq (by omega)
    have hq2:=(hrr q hq).2
    have h4:=anc_line hv hq (i:=i) (j:=(cAt c q).toNat - 1) (by omega) (by omega)
    have h5:(((cAt c q).toNat - 1:Nat):Int)+1=cAt c q:=by omega
    rw[h5] at h4
    rw[hj2] at h2
    omega
   ·omega
  ·exact h1
def isF (ps:List Pr)(c:List Int):Bool:=(decide (c.length=ps.length) && inRangeF ps c) && closedF ps c
theorem isF_iff {ps:List Pr}{c:List Int} : isF ps c=true↔c.length=ps.length/\inRangeF ps c=true/\closedF ps c=true:=by
 unfold isF
 rw[Bool.and_eq_true,Bool.and_eq_true,decide_eq_true_eq,and_assoc]
def stpC (c:List Int)(p:Nat):List Int:=c.set p (cAt c p+1)
def nx1 (ps:List Pr)(c:List Int)(p:Nat):List (List Int):=if cAt c p<nev ps p/\isF ps (stpC c p)=true then [stpC c p] else []
def nextT (ps:List Pr)(c:List Int)(k:Nat):List (List Int):=(List.range k).flatMap (nx1 ps c)
def nextL (ps:List Pr)(c:List Int):List (List Int):=nextT ps c c.length
theorem nextT_succ (ps:List Pr)(c:List Int)(k:Nat):nextT ps c (k+1)=nextT ps c k ++ nx1 ps c k:=by unfold nextT;rw[List.range_succ,List.flatMap_append];simp
theorem nextT_len (ps:List Pr)(c:List Int):∀k,(nextT ps c k).length<=k
 | 0=>by simp [nextT]
 | k+1=>by
  rw[nextT_succ,List.length_append]
  have:=nextT_len ps c k
  unfold nx1
  split <;> simp <;> omega
def lexF:List Int->List Int->Bool
 | a :: x,b :: y=>if a=b then lexF x y else decide (a<b)
 | _,_=>false
def befF (a b:List Int):Bool:=if a.sum=b.sum then lexF a b else decide (a.sum<b.sum)
def insF (l:List (List Int))(c:List Int):List (List Int):=if (l.dropWhile fun x=>befF x c).head?=some c then l else (l.takeWhile fun x=>befF x c) ++ c :: l.dropWhile fun x=>befF x c
theorem insF_len (l:List (List Int))(c:List Int):(insF l c).length<=l.length+1:=by
 unfold insF
 split
 ·omega
 ·have h:=congrArg List.length (List.takeWhile_append_dropWhile (p:=fun x=>befF x c) (l:=l))
  rw[List.length_append] at h
  rw[List.length_append,List.length_cons];omega
theorem mem_insF {l:List (List Int)}{c d:List Int} : d ∈ insF l c↔d ∈ l\/d=c:=by
 unfold insF
 have h:=List.takeWhile_append_dropWhile (p:=fun x=>befF x c) (l:=l)
 split
 ·rename_i hh
  constructor
  ·exact .inl
  ·rintro(h1|rfl)
   ·exact h1
   ·rw[<- h]
    exact List.mem_append_right _ (List.mem_of_mem_head? hh)
 ·rw[List.mem_append,List.mem_cons]
  constructor
  ·rintro(h1|h1|h1)
   ·left;rw[<- h];exact List.mem_append_left _ h1
   ·exact .inr h1
   ·left;rw[<- h];exact List.mem_append_right _ h1
  ·rintro(h1|h1)
   ·rw[<- h,List.mem_append] at h1
    rcases h1 with h1|h1
    ·exact .inl h1
    ·exact .inr (.inr h1)
   ·exact .inr (.inl h1)
def insL (acc l:List (List Int)):List (List Int):=l.foldl insF acc
theorem mem_insL {d:List Int} : ∀ {l acc:List (List Int)},d ∈ insL acc l↔d ∈ acc\/d ∈ l
 | [],acc=>by simp [insL]
 | c :: l,acc=>by
  show d ∈ insL (insF acc c) l↔_
  rw[mem_insL,mem_insF,List.mem_cons,or_assoc]
theorem insL_len:∀(l acc:List (List Int)),(insL acc l).length<=acc.length+l.length
 | [],acc=>by simp [insL]
 | c :: l,acc=>by
  have:=insL_len l (insF acc c)
  have:=insF_len acc c
  show (insL (insF acc c) l).length<=_
  rw[List.length_cons];omega
def moreT (ps:List Pr)(lv:List (List Int)):List (List Int):=lv.foldl (fun acc c=>insL acc (nextL ps c)) []
theorem mem_more {ps:List Pr}{d:List Int} : ∀ {lv acc:List (List Int)},d ∈ lv.foldl (fun acc c=>insL acc (nextL ps c)) acc↔d ∈ acc\/∃c ∈ lv,d ∈ nextL ps c
 | [],acc=>by simp
 | c :: lv,acc=>by
  rw[List.foldl_cons,mem_more,mem_insL,or_assoc]
  simp
def levF (ps:List Pr):Nat->List (List Int)
 | 0=>[List.replicate ps.length 0]
 | k+1=>moreT ps (levF ps k)
theorem mem_nextL {ps:List Pr}{c d:List Int} : d ∈ nextL ps c↔∃p,p<c.length/\cAt c p<nev ps p/\isF ps (stpC c p)=true/\d=stpC c p:=by
 unfold nextL nextT
 rw[List.mem_flatMap]
 constructor
 ·rintro⟨p,hp,h⟩
  unfold nx1 at h
  split at h
  ·rename_i h1
   exact⟨p,List.mem_range.1 hp,h1.1,h1.2,by simpa using h⟩
  ·cases h
 ·rintro⟨p,hp,h1,h2,rfl⟩
  exact⟨p,List.mem_range.2 hp,by unfold nx1;rw[if_pos ⟨h1,h2⟩];simp⟩
theorem sum_stpC {c:List Int}{p:Nat}(hp:p<c.length):(stpC c p).sum=c.sum+1:=by
 unfold stpC
 have h:=sum_set c p (cAt c p+1) hp
 have e:cAt c p=c.getD p 0:=by unfold cAt;simp
 rw[h,e];omega
theorem isF_nonneg {ps:List Pr}{c:List Int}(h:isF ps c=true):∀z ∈ c,0<=z:=fun z hz=>by
 obtain⟨h1,h2,_⟩:=isF_iff.1 h
 obtain⟨p,hp,rfl⟩:=List.getElem_of_mem hz
 have:=((inRange_iff h1).1 h2 p (by omega)).1
 rwa [cAt_nat hp] at this
theorem isF_zero {ps:List Pr} : isF ps (List.replicate ps.length 0)=true:=by
 have e:∀q:Int,cAt (List.replicate ps.length 0) q=0:=fun q=>by
  unfold cAt
  rw[List.getD_eq_getElem?_getD,List.getElem?_replicate]
  split <;> rfl
 have hl:(List.replicate ps.length (0:Int)).length=ps.length:=List.length_replicate
 refine isF_iff.2 ⟨hl,(inRange_iff hl).2 fun p hp=>?_,closed_iff.2 fun p hp i hi hk hle=>?_⟩
 ·rw[e];omega
 ·rw[e] at hle;omega
theorem mem_levF {ps:List Pr}(hv:validF ps=true):∀(k:Nat) (c:List Int),c ∈ levF ps k↔isF ps c=true/\c.sum=k
 | 0,c=>by
  show c ∈ [List.replicate ps.length 0]↔_
  rw[List.mem_singleton]
  constructor
  ·rintro rfl
   refine⟨isF_zero,?_⟩
   have:∀n,(List.replicate n (0:Int)).sum=0:=fun n=>by
    induction n with
    | zero=>rfl
    | succ n ih=>rw[List.replicate_succ,List.sum_cons,ih];rfl
   rw[this];rfl
  ·rintro⟨h,hs⟩
   obtain⟨h1,h2,h3⟩:=isF_iff.1 h
   have hn:=isF_nonneg h
   apply List.ext_getElem (by rw[h1,List.length_replicate])
   intro i hi hi2
   have:=sum_ge c hn (List.getElem_mem hi)
   have:=hn _ (List.getElem_mem hi)
   rw[List.getElem_replicate]
   rw[hs] at *
   omega
 | k+1,c=>by
  show c ∈ moreT ps (levF ps k)↔_
  unfold moreT
  rw[mem_more]
  constructor
  ·rintro(h|⟨d,hd,hc⟩)
   ·cases h
   ·obtain⟨p,hp,_,h2,rfl⟩:=mem_nextL.1 hc
    have:=((mem_levF hv k d).1 hd).2
    exact⟨h2,by rw[sum_stpC hp,this];omega⟩
  ·rintro⟨h,hs⟩
   obtain⟨h1,h2,h3⟩:=isF_iff.1 h
   have hn:=isF_nonneg h
   have hpos:∃p,p<ps.length/\0<cAt c p:=by
    by_cases hx:∃p,p<ps.length/\0<cAt c p
    ·exact hx
    ·exfalso
     have:∀z ∈ c,z=0:=fun z hz=>by
      obtain⟨p,hp,rfl⟩:=List.getElem_of_mem hz
      have:=hn _ hz
      have h4:¬0<cAt c p:=fun h=>hx ⟨p,by omega,h⟩
      rw[cAt_nat hp] at h4
      omega
     have e:c.sum=0:=by
      clear hs hn h hx h1 h2 h3
      induction c with
      | nil=>rfl
      | cons a c ih =>
       rw[List.sum_cons,this a List.mem_cons_self,ih fun z hz=>this z (List.mem_cons_of_mem _ hz)];rfl
     omega
   obtain⟨p,hp,hp0,r1,r2⟩:=cut_remove hv h1 h2 h3 hpos
   have hpc:p<c.length:=by omega
   have hdl:(c.set p (cAt c p - 1)).length=c.length:=List.length_set
   have hst:stpC (c.set p (cAt c p - 1)) p=c:=by
    unfold stpC
    rw[setc_cAt hpc,if_pos rfl,List.set_set,show cAt c p - 1+1=cAt c p by omega,cAt_nat hpc,List.set_getElem_self]
   refine .inr ⟨c.set p (cAt c p - 1),(mem_levF hv k _).2 ⟨isF_iff.2 ⟨by rw[hdl,h1],r1,r2⟩,?_⟩,mem_nextL.2 ⟨p,by omega,?_,by rw[hst];exact h,hst.symm⟩⟩
   ·have:=sum_stpC (c:=c.set p (cAt c p - 1)) (p:=p) (by omega)
    rw[hst] at this;omega
   ·rw[setc_cAt hpc,if_pos rfl,nev_get hp]
    have:=((inRange_iff h1).1 h2 p hp).2
    omega
theorem sum_totC:∀ {c:List Int},(∀z ∈ c,0<=z)->c.sum=totC c
 | [],_=>rfl
 | a :: c,h=>by
  have h0:=h a List.mem_cons_self
  have:=sum_totC (c:=c) fun z hz=>h z (List.mem_cons_of_mem _ hz)
  unfold totC at *
  rw[List.sum_cons,List.map_cons,List.sum_cons,this]
  omega
theorem sum_le_off {ps:List Pr}{c:List Int}(h:isF ps c=true):c.sum<=off ps ps.length:=by
 obtain⟨h1,h2,_⟩:=isF_iff.1 h
 have h3:=totC_le h1 h2
 have h4:=sum_totC (isF_nonneg h)
 omega
theorem levF_end {ps:List Pr}(hv:validF ps=true){k:Nat}(h:off ps ps.length<k):levF ps k=[]:=by
 rw[List.eq_nil_iff_forall_not_mem]
 intro c hc
 obtain⟨h1,h2⟩:=(mem_levF hv k c).1 hc
 have:=sum_le_off h1
 omega
theorem levF_nil {ps:List Pr}{k:Nat}(h:levF ps k=[]):∀j,levF ps (k+j)=[]
 | 0=>h
 | j+1=>by
  show moreT ps (levF ps (k+j))=[]
  rw[levF_nil h j];rfl
def cumF (ps:List Pr)(k:Nat):List (List Int):=(List.range k).flatMap (levF ps)
theorem cumF_succ (ps:List Pr)(k:Nat):cumF ps (k+1)=cumF ps k ++ levF ps k:=by unfold cumF;rw[List.range_succ,List.flatMap_append];simp
def cutsF (ps:List Pr):List (List Int):=cumF ps (off ps ps.length+1)
theorem mem_cutsF {ps:List Pr}(hv:validF ps=true){c:List Int} : c ∈ cutsF ps↔isF ps c=true:=by
 unfold cutsF cumF
 rw[List.mem_flatMap]
 constructor
 ·rintro⟨k,_,h⟩
  exact((mem_levF hv k c).1 h).1
 ·intro h
  have h1:=sum_le_off h
  have h2:0<=c.sum:=sum_nonneg c (isF_nonneg h)
  exact⟨c.sum.toNat,List.mem_range.2 (by omega),(mem_levF hv _ c).2 ⟨h,by omega⟩⟩
theorem cumF_mono {ps:List Pr}{j:Nat} : ∀ {k:Nat},j<=k->(cumF ps j).length<=(cumF ps k).length
 | 0,h=>by
  have:j=0:=by omega
  subst this;exact Nat.le_refl _
 | k+1,h=>by
  by_cases e:j=k+1
  ·subst e;exact Nat.le_refl _
  ·have:=cumF_mono (ps:=ps) (j:=j) (k:=k) (by omega)
   rw[cumF_succ,List.length_append];omega
theorem cumF_end {ps:List Pr}{j:Nat}(h:levF ps j=[]):∀m,cumF ps (j+m)=cumF ps j
 | 0=>rfl
 | m+1=>by
  show cumF ps ((j+m)+1)=_
  rw[cumF_succ,levF_nil h m,List.append_nil,cumF_end h m]
end Go.AL
end
section
namespace Go.AL
open Go Go.RowKit Proofs.Tryz
set_option maxRecDepth 4000
theorem lexF_iff:∀ {a b:List Int},a.length=b.length->(lexF a b=true↔cmpL a b<0)
 | [],[],_=>by simp [lexF,cmpL]
 | [],_ :: _,h=>by simp at h
 | _ :: _,[],h=>by simp at h
 | x :: a,y :: b,h=>by
  rw[cmpL_cons]
  unfold lexF
  by_cases e:x=y
  ·subst e
   rw[if_pos rfl,if_neg (by omega),if_neg (by omega)]
   exact lexF_iff (by simpa using h)
  ·rw[if_neg e,decide_eq_true_eq]
   by_cases c:x<y
   ·rw[if_pos c];omega
   ·rw[if_neg c,if_pos (by omega)];omega
def Asc (l:List (List Int)):Prop:=l.Pairwise fun x y=>cmpL x y<0
theorem asc_eq {l m:List (List Int)}(h1:Asc l)(h2:Asc m)(h:∀x,x ∈ l↔x ∈ m):l=m:=by
 have hn:∀ {l:List (List Int)},Asc l->l.Nodup:=fun {l} h=>h.imp fun {a b} hab e=>by subst e;rw[cmpL_irr] at hab;omega
 have hp:l.Perm m:=(List.perm_ext_iff_of_nodup (hn h1) (hn h2)).2 h
 exact hp.eq_of_pairwise (fun a b _ _ h3 h4=>absurd (cmpL_trans _ _ _ h3 h4) (by rw[cmpL_irr];omega)) h1 h2
theorem asc_comp (l:List (List Int)):Asc (compL (sortL l)):=compN_pair (sortBy_pair swoL l) _ (Nat.le_refl _)
theorem mem_comp {l:List (List Int)}{x:List Int} : x ∈ compL (sortL l)↔x ∈ l:=by rw[compL_mem];exact(sortBy_perm cmpL l).mem_iff
theorem asc_ins {l:List (List Int)}{c:List Int}(h:Asc l)(hl:∀x ∈ l,x.length=c.length/\x.sum=c.sum):Asc (insF l c):=by
 have hb:∀x ∈ l,(befF x c=true↔cmpL x c<0):=fun x hx=>by
  unfold befF;rw[if_pos (hl x hx).2];exact lexF_iff (hl x hx).1
 unfold insF
 have hsp:=List.takeWhile_append_dropWhile (p:=fun x=>befF x c) (l:=l)
 split
 ·exact h
 ·rename_i hh
  generalize ht:l.takeWhile (fun x=>befF x c)=t at *
  generalize hd:l.dropWhile (fun x=>befF x c)=d at *
  have htm:∀x ∈ t,cmpL x c<0:=fun x hx=>by
   have h1:x ∈ l:=by rw[<- hsp];exact List.mem_append_left _ hx
   refine(hb x h1).1 ?_
   have:=List.all_takeWhile (p:=fun x=>befF x c) (l:=l)
   rw[ht] at this
   exact List.all_eq_true.1 this x hx
  unfold Asc at h ⊢
  rw[<- hsp,List.pairwise_append] at h
  obtain⟨a1,a2,a3⟩:=h
  have hdm:∀y ∈ d,cmpL c y<0:=fun y hy=>by
   cases d with
   | nil=>cases hy
   | cons z d =>
    have hz:cmpL c z<0:=by
     have hzl:z ∈ l:=by rw[<- hsp];simp
     have hf:¬befF z c=true:=by
      have:=List.head?_dropWhile_not (fun x=>befF x c) l
      rw[hd] at this
      simpa using this
     by_cases e:cmpL c z<0
     ·exact e
     ·exact absurd (congrArg some (cmpL_anti z c (fun h=>hf ((hb z hzl).2 h)) e)) hh
    rcases List.mem_cons.1 hy with rfl|hy
    ·exact hz
    ·exact cmpL_trans _ _ _ hz (List.rel_of_pairwise_cons a2 hy)
  rw[List.pairwise_append,List.pairwise_cons]
  refine⟨a1,⟨hdm,a2⟩,fun x hx y hy=>?_⟩
  rcases List.mem_cons.1 hy with rfl|hy
  ·exact htm x hx
  ·exact a3 x hx y hy
theorem asc_insL {n:Nat}{s:Int} : ∀ {l acc:List (List Int)},Asc acc->(∀x ∈ acc,x.length=n/\x.sum=s)->(∀x ∈ l,x.length=n/\x.sum=s)->Asc (insL acc l)
 | [],_,h,_,_=>h
 | c :: l,acc,h,h1,h2=>by
  have hc:=h2 c List.mem_cons_self
  show Asc (insL (insF acc c) l)
  refine asc_insL (asc_ins h fun x hx=>by have:=h1 x hx;omega) (fun x hx=>?_) fun x hx=>h2 x (List.mem_cons_of_mem _ hx)
  rcases mem_insF.1 hx with hx|rfl
  ·exact h1 x hx
  ·exact hc
theorem asc_lev {ps:List Pr}(hv:validF ps=true):∀k,Asc (levF ps k)
 | 0=>List.pairwise_singleton _ _
 | k+1=>by
  have hm:∀(lv acc:List (List Int)),(∀c ∈ lv,isF ps c=true/\c.sum=k)->Asc acc->(∀x ∈ acc,x.length=ps.length/\x.sum=k+1)->Asc (lv.foldl (fun acc c=>insL acc (nextL ps c)) acc):=by
   intro lv
   induction lv with
   | nil=>intro acc _ h _;exact h
   | cons c lv ih =>
    intro acc h1 h2 h3
    have hc:=h1 c List.mem_cons_self
    have hnx:∀x ∈ nextL ps c,x.length=ps.length/\x.sum=k+1:=fun x hx=>by
     obtain⟨p,hp,_,h4,rfl⟩:=mem_nextL.1 hx
     exact⟨(isF_iff.1 h4).1,by rw[sum_stpC hp,hc.2]⟩
    refine ih _ (fun d hd=>h1 d (List.mem_cons_of_mem _ hd)) (asc_insL h2 h3 hnx) fun x hx=>?_
    rcases mem_insL.1 hx with hx|hx
    ·exact h3 x hx
    ·exact hnx x hx
  exact hm (levF ps k) [] (fun c hc=>(mem_levF hv k c).1 hc) List.Pairwise.nil fun x hx=>by cases hx
theorem next_lev {ps:List Pr}(hv:validF ps=true)(k:Nat){l:List (List Int)}(h:∀x,x ∈ l↔∃c ∈ levF ps k,x ∈ nextL ps c):compL (sortL l)=levF ps (k+1):=by
 refine asc_eq (asc_comp l) (asc_lev hv (k+1)) fun x=>?_
 rw[mem_comp,h]
 show _↔x ∈ moreT ps (levF ps k)
 unfold moreT
 rw[mem_more]
 simp
end Go.AL
end
section
namespace Go.AL
open Go Go.RowKit Go.Sort Go.Proofs Go.Shelf Proofs.Tryz
set_option maxRecDepth 4000
theorem bits_zero:PC prog 243 [.v (.int .u64 0)] (ai 0):=by
 refine PC.same (vs:=[.int .u64 0]) (enters_of func243 rfl rfl) (fun w A us h=>?_) fun w=>?_
 ·obtain⟨u,us,rfl,h1,h2⟩:=h.inv_cons
  obtain rfl:=h2.inv_nil
  rw[h1.inv_v]
 ·have L:=sortRows
  have h:=Any.bits_Len (SlLaysF0.n15.bits (P:=prog) (ρ:=sortRows_ren) { L with }) 0 w (by omega) (by omega)
  exact h
theorem insert_nil (g:FuncId):PC prog 257 [anil,ai 0,ai 0,.v (.func (.func g) #[] #[])] (.tup []):=by
 refine PE 53 [] [] func257 ?_;simp only[go_sem]
 refine Wk ?_
 refine AWp.block (AWp.loopN [8] [0,1,2,3] (fun _ vs L=>L=[]/\vs=[ai 1]) 0 ⟨rfl,rfl⟩ ?_)
 rintro m vs L - ⟨rfl,rfl⟩
 simp only[go_sem]
 refine Wk ?_
 intro _
 exact Rz
theorem pdq_nil (g:FuncId):PC prog 242 [anil,ai 0,ai 0,ai 0,.v (.func (.func g) #[] #[])] (.tup []):=by
 refine PE 148 [] [] func242 ?_;simp only[go_sem]
 refine Wk ?_
 refine AWp.block (AWp.loopN [1,2,3,10,11] [0,4] (fun _ vs L=>L=[]/\vs=[ai 0,ai 0,ai 0,ab true,ab true]) 0 ⟨rfl,rfl⟩ ?_)
 rintro m vs L - ⟨rfl,rfl⟩
 simp only[go_sem]
 refine Wk ?_
 constructor<;>intro h
 ·refine Wk ?_
  refine Sd ?_
  refine(insert_nil g).val.use ?_;simp only[go_sem]
  refine Wk ?_
  exact Rz
 ·exact absurd (by omega) h
theorem sort_nil (g:FuncId):PC prog 211 [anil,.v (.func (.func g) #[] #[])] (.tup []):=by
 refine PE 14 [] [] func211 ?_;simp only[go_sem]
 refine Wk ?_
 refine Sd ?_
 refine Vu bits_zero ?_
 refine Wk ?_
 refine Sd ?_
 refine(pdq_nil g).val.use ?_;simp only[go_sem]
 refine Wk ?_
 exact Rz
theorem compact_nil (g:FuncId):PC prog 214 [anil,.v (.func (.func g) #[] #[])] anil:=by
 refine PE 66 [.tmp 4] [] func214 ?_;simp only[go_sem]
 refine Wk ?_
 constructor<;>intro h
 ·refine Wk ?_
  exact Rz
 ·exact absurd (by omega) h
end Go.AL
end
section
namespace Go.AL
open Go Go.RowKit Proofs.Tryz
set_option maxRecDepth 4000
def needE (ps:List Pr)(e:Ev):Eid:=if e.kind=3 then sndr ps e.msg else (0,0)
def aNeeds (ps:List Pr)(l:List Pr):List AV:=l.map fun x=>aEids (x.evs.map (needE ps))
def aMk (ps:List Pr):AV:=.agg [.sl 1 (ps.map fun x=>ai (x.evs.length:Nat)),.sl 1 (aNeeds ps ps)]
theorem AppSt.snoc {t:TypeId}{k:Nat}{ys:List AV}{x:AV}(b cap n:Nat)(hn:n=ys.length+1):AppSt t k (ys ++ [x]) (.ls b k 0 n cap) [(b,.row t k (ys ++ [x]) cap)]:=by
 subst hn
 have:=AppSt.row (t:=t) (k:=k) b (ys ++ [x]) cap
 rwa [List.length_append] at this
def mkL (ps:List Pr)(b2 b3 p:Nat)(L:AHeap):Prop :=
 (p=0/\L=[(b3,.row 226 2 [.agg [anil,anil]] 1),(b2,.row 226 2 [.agg [anil,anil]] 1)]) \/
 ∃c1 c2 cap1 cap2,(¬c1=b3/\¬c1=b2/\¬c2=b3/\¬c2=b2/\¬c1=c2)/\L=[(c2,.row 102 1 (aNeeds ps (ps.take p)) cap2),(c1,.row 3 1 ((ps.take p).map fun x=>ai (x.evs.length:Nat)) cap1),
  (b3,.row 226 2 [.agg [.ls c1 1 0 p cap1,.ls c2 1 0 p cap2]] 1),(b2,.row 226 2 [.agg [anil,anil]] 1)]
theorem cuts_of (ps:List Pr)(hs:Sm ps)(hv:validF ps=true):PC prog 165 [aTr ps] (aMk ps):=by
 obtain⟨hl1,hl8⟩:=valid_len hv
 have hfs:∀m,findV ps 2 m=sndr ps m:=fun m=>by unfold findV sndr;rw[if_pos hv]
 have hsd:=trace_Sender ps hs
 simp only[hfs] at hsd
 refine PE 55 [.cell 2 226] [1,5,8,9,36,44,50] func165 ?_;simp only[go_sem]
 intro b2
 refine Wk ?_
 intro b3 g1
 have n1:¬b3=b2:=by omega
 have n2:¬b2=b3:=by omega
 refine W2 n1 n2 ?_
 refine AWp.range' ps.length [] [1,2,3,11,12] (fun p vs L=>vs=[]/\mkL ps b2 b3 p L) (by omega) rfl rfl rfl ⟨rfl,.inl ⟨rfl,rfl⟩⟩ ?_ ?_
 ·rintro p vs L hp - ⟨rfl,hL⟩
  have hgp:=getD_map (f:=aPr) hp
  simp only[go_sem]
  refine W1 hgp ?_
  intro b5 g5
  have hel:=hs.evs _ (List.getElem_mem hp)
  refine Sd ?_
  refine Ao ?_
  refine AWp.cutF [1,2,3,5,6,11,12,13] (fun vs L1=>∃v,AppSt 53 2 ((ps[p].evs.map (needE ps)).map aEid) v L1 /\
   vs=[.rp 1 [aTr ps] 0 0,.lp b2 2 0 0,.lp b3 2 0 0,.rp 3 [aPr ps[p]] 0 0,v,aPrs ps,ai (ps.length:Nat),ai (p:Nat)]) ?_ ?_
  ·refine Wk ?_
   refine AWp.range' ps[p].evs.length [6] [1,2,3,5,11,12,13,18,19] (fun i vs L=>∃v,vs=[v]/\AppSt 53 2 (((ps[p].evs.take i).map (needE ps)).map aEid) v L) (by omega) rfl rfl rfl ⟨anil,rfl,by rw[List.take_zero];exact .nil⟩ ?_ ?_
   ·rintro i vs L hi - ⟨v,rfl,hA⟩
    have hge:=getD_map (f:=aEv) hi
    have hne:needE ps ps[p].evs[i]=if ps[p].evs[i].kind=3 then sndr ps ps[p].evs[i].msg else (0,0):=rfl
    have hsn:=hsd ps[p].evs[i].msg
    have htk:((ps[p].evs.take (i+1)).map (needE ps)).map aEid=((ps[p].evs.take i).map (needE ps)).map aEid ++ [aEid (needE ps ps[p].evs[i])]:=by
     rw[List.take_succ_eq_append_getElem hi,List.map_append,List.map_append];rfl
    have hyl:(((ps[p].evs.take i).map (needE ps)).map aEid).length=i:=by simp;omega
    rw[htk]
    generalize ((ps[p].evs.take i).map (needE ps)).map aEid=ys at *
    generalize needE ps ps[p].evs[i]=ne at *
    rcases hA.inv with ⟨e1,rfl,rfl⟩|⟨bq,capq,rfl,rfl⟩
    ·simp only[go_sem]
     refine W1 hge ?_
     intro b8
     refine Wk ?_
     intro b9
     refine Wk ?_
     constructor<;>intro h3
     ·rw[if_pos h3] at hne
      subst hne
      generalize sndr ps ps[p].evs[i].msg=sx at *
      obtain⟨s1,s2⟩:=sx
      refine Sd ?_
      refine Vu hsn ?_
      refine Wk ?_
      intro b' cap' hc'
      exact⟨_,List.cons_sublist_cons.2 (List.nil_sublist _),_,rfl,by rw[e1];exact .row b' [_] cap'⟩
     ·rw[if_neg h3] at hne
      subst hne
      refine Wk ?_
      intro b' cap' g' hc'
      exact⟨_,List.cons_sublist_cons.2 (List.nil_sublist _),_,rfl,by rw[e1];exact .row b' [_] cap'⟩
    ·simp only[go_sem]
     refine W1 hge ?_
     intro b8 g8
     refine Wk ?_
     intro b9 g9
     have n3:¬b9=bq:=by omega
     have n4:¬bq=b9:=by omega
     refine W2 n3 n4 ?_
     constructor<;>intro h3
     ·rw[if_pos h3] at hne
      subst hne
      generalize sndr ps ps[p].evs[i].msg=sx at *
      obtain⟨s1,s2⟩:=sx
      refine Sd ?_
      refine Vu hsn ?_
      refine W2 n3 n4 ?_
      intro b' cap' hc'
      exact⟨_,List.cons_sublist_cons.2 (List.nil_sublist _),_,rfl,AppSt.snoc b' cap' _ rfl⟩
     ·rw[if_neg h3] at hne
      subst hne
      refine W2 n3 n4 ?_
      intro b' cap' g' hc'
      exact⟨_,List.cons_sublist_cons.2 (List.nil_sublist _),_,rfl,AppSt.snoc b' cap' _ rfl⟩
   ·rintro vs L - ⟨v,rfl,hA⟩
    rw[List.take_length] at hA
    simp only[go_sem]
    exact⟨L,List.Sublist.refl _,v,hA,rfl⟩
  ·rintro vs L1 - ⟨v,hA,rfl⟩
   simp only[go_sem]
   refine AWp.viewA (j:=6) hA rfl ?_
   clear g5
   have hs1:((ps.take (p+1)).map fun x=>ai (x.evs.length:Nat))=((ps.take p).map fun x=>ai (x.evs.length:Nat)) ++ [ai (ps[p].evs.length:Nat)]:=by
    rw[List.take_succ_eq_append_getElem hp,List.map_append];rfl
   have hs2:aNeeds ps (ps.take (p+1))=aNeeds ps (ps.take p) ++ [.sl 2 ((ps[p].evs.map (needE ps)).map aEid)]:=by
    unfold aNeeds;rw[List.take_succ_eq_append_getElem hp,List.map_append];rfl
   have hy1:((ps.take p).map fun x=>ai (x.evs.length:Nat)).length=p:=by simp;omega
   have hy2:(aNeeds ps (ps.take p)).length=p:=by simp [aNeeds];omega
   unfold mkL
   rw[hs1,hs2]
   generalize ((ps[p].evs.map (needE ps)).map aEid)=ne at *
   rcases hL with ⟨rfl,rfl⟩|⟨c1,c2,cap1,cap2,⟨d1,d2,d3,d4,d5⟩,rfl⟩
   ·have e1:=List.eq_nil_of_length_eq_zero hy1
    have e2:=List.eq_nil_of_length_eq_zero hy2
    rw[e1,e2]
    simp only[go_sem]
    refine W2 n1 n2 ?_
    intro c1 k1 h31 h21 hk1
    have d1:¬c1=b3:=by omega
    have d2:¬c1=b2:=by omega
    have d7:¬b3=c1:=by omega
    have d9:¬b2=c1:=by omega
    simp only[go_sem,d1,d2,d7,d9]
    refine W6 n1 n2 d1 d2 d7 d9 ?_
    intro c2 k2 h12 h32 h22 hk2
    have d3:¬c2=b3:=by omega
    have d4:¬c2=b2:=by omega
    have d5:¬c1=c2:=by omega
    have d8:¬b3=c2:=by omega
    simp only[go_sem,d8]
    exact⟨_,.refl _,c1,c2,k1,k2,⟨d1,d2,d3,d4,d5⟩,rfl⟩
   ·generalize ((ps.take p).map fun x=>ai (x.evs.length:Nat))=ys1 at *
    generalize aNeeds ps (ps.take p)=ys2 at *
    have ht1:ys1.take p=ys1:=List.take_of_length_le (by omega)
    have ht2:ys2.take p=ys2:=List.take_of_length_le (by omega)
    have d6:¬c2=c1:=fun e=>d5 e.symm
    have d7:¬b3=c1:=fun e=>d1 e.symm
    have d8:¬b3=c2:=fun e=>d3 e.symm
    have d9:¬b2=c1:=fun e=>d2 e.symm
    have d10:¬b2=c2:=fun e=>d4 e.symm
    repeat(first|((with_reducible refine AWp.ofC ?_ ?_);exact rfl;simp only[go_sem,n1,n2,d1,d2,d3,d4,d5,d6,d7,d8,d9,d10,ht1,ht2])|((with_reducible refine an ?_ ?_);exact Au))
    intro x1 k1 h21 h31 h41 hk1
    have d1:¬x1=b3:=fun e=>h31 e.symm
    have d2:¬x1=b2:=fun e=>h41 e.symm
    have d11:¬x1=c2:=fun e=>h21 e.symm
    simp only[go_sem,h31,h41,h21,d1,d2,d11]
    repeat(first|((with_reducible refine AWp.ofC ?_ ?_);exact rfl;simp only[go_sem,n1,n2,d1,d2,d3,d4,d8,d10,d11,h31,h41,h21,ht1,ht2])|((with_reducible refine an ?_ ?_);exact Au))
    intro x2 k2 h12 h32 h42 hk2
    simp only[go_sem,h32]
    exact⟨_,.refl _,x1,x2,k1,k2,⟨d1,d2,fun e=>h32 e.symm,fun e=>h42 e.symm,h12⟩,rfl⟩
 ·rintro vs L - ⟨rfl,hL⟩
  rcases hL with ⟨h0,rfl⟩|⟨c1,c2,cap1,cap2,⟨d1,d2,d3,d4,d5⟩,rfl⟩
  ·omega
  have d6:¬c2=c1:=fun e=>d5 e.symm
  have d7:¬b3=c1:=fun e=>d1 e.symm
  have d8:¬b3=c2:=fun e=>d3 e.symm
  have d9:¬b2=c1:=fun e=>d2 e.symm
  have d10:¬b2=c2:=fun e=>d4 e.symm
  rw[List.take_length]
  have hy1:(ps.map fun x=>ai (x.evs.length:Nat)).length=ps.length:=List.length_map _
  have hy2:(aNeeds ps ps).length=ps.length:=List.length_map _
  unfold aMk
  generalize (ps.map fun x=>ai (x.evs.length:Nat))=ys1 at *
  generalize aNeeds ps ps=ys2 at *
  simp only[go_sem]
  repeat(first|((with_reducible refine AWp.ofC ?_ ?_);exact rfl;simp only[go_sem,n1,n2,d1,d2,d3,d4,d5,d6,d7,d8,d9,d10])|((with_reducible refine an ?_ ?_);exact Au))
  refine ret_view [true,true,true,true] ?_;simp only[go_sem]
  simp only[go_sem,n2,d9,d10]
  exact .mkAgg (Vws.cons (Vw.ofLs (t:=3) (cap:=cap1) (by simp only[lk,d5,if_false,if_true]) hy1.symm) (Vws.cons (Vw.ofLs (t:=102) (cap:=cap2) (if_pos rfl) hy2.symm) .nil))
end Go.AL
end
