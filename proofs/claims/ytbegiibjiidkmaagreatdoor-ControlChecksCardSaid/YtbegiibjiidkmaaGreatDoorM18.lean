/- Texts of this claim's proof: WQa, WQb, WNe, WOa, WQd, WV2, WV3, WQc, WQf, WQg, WQh, WQi, WQj, WQk, WQl, WQm, WMe, WQn, WU2, WNg, WNf. No condition. -/
import Derived.Test.YtbegiibjiidkmaaGreatDoorM15
import Derived.Test.YtbegiibjiidkmaaGreatDoorM17
import Derived.Test.YtbegiibjiidkmaaGreatDoorM10
import Derived.Test.YtbegiibjiidkmaaGreatDoorM9
import Derived.Test.YtbegiibjiidkmaaGreatDoorM4
section
namespace Go.AL
open Go Go.RowKit
set_option maxRecDepth 4000
theorem argmin (f:Nat->Nat)(P:Nat->Prop):∀n,(∃p,p<n/\P p)->∃p,p<n/\P p/\∀q,q<n->P q->f p<=f q
 | 0,⟨_,h,_⟩=>by omega
 | n+1,⟨p,hp,hP⟩=>by
  by_cases hn:∃p,p<n/\P p
  ·obtain⟨a,a1,a2,a3⟩:=argmin f P n hn
   by_cases hb:P n/\f n<f a
   ·refine⟨n,by omega,hb.1,fun q hq hQ=>?_⟩
    by_cases e:q=n
    ·subst e;exact Nat.le_refl _
    ·have:=a3 q (by omega) hQ;omega
   ·refine⟨a,by omega,a2,fun q hq hQ=>?_⟩
    by_cases e:q=n
    ·subst e
     have:¬f q<f a:=fun h=>hb ⟨hQ,h⟩
     omega
    ·exact a3 q (by omega) hQ
  ·have e:p=n:=by
    by_cases e:p=n
    ·exact e
    ·exact absurd ⟨p,by omega,hP⟩ hn
   subst e
   refine⟨p,by omega,hP,fun q hq hQ=>?_⟩
   by_cases e:q=p
   ·subst e;exact Nat.le_refl _
   ·exact absurd ⟨q,by omega,hQ⟩ hn
theorem add_below {ps:List Pr}(hv:validF ps=true){c d:List Int}(hc:isF ps c=true)(hd:isF ps d=true)(hle:∀q:Nat,q<ps.length->cAt c q<=cAt d q)(hne:∃q:Nat,q<ps.length/\cAt c q<cAt d q) :
  ∃q:Nat,q<ps.length/\cAt c q<cAt d q/\rdyF ps c q=true:=by
 obtain⟨hl,hr,hcl⟩:=isF_iff.1 hc
 obtain⟨dl,dr,dcl⟩:=isF_iff.1 hd
 have hm:=(valid_parts hv).2.2
 have hrr:=(inRange_iff hl).1 hr
 have drr:=(inRange_iff dl).1 dr
 obtain⟨p,hp,hp0,hmin⟩:=argmin (fun p=>anc ps ((p:Int),cAt c p+1)) (fun p=>cAt c p<cAt d p) ps.length hne
 have h1:=hrr p hp
 have h2:=drr p hp
 have hi:(cAt c p).toNat<ps[p].evs.length:=by omega
 have hci:cAt c p=((cAt c p).toNat:Nat):=by omega
 refine⟨p,hp,hp0,?_⟩
 unfold rdyF
 rw[decide_eq_true_eq]
 refine⟨by rw[nev_get hp];omega,(stp_iff hv hc hp hi hci).2 ?_⟩
 unfold needE
 split
 ·rename_i hk
  obtain⟨s,hs,j,hj,e,_,_⟩:=sndr_some (recv_sndr hm hp hi hk)
  have hn:=nx_send hm hp hi hk
  have hcd:=closed_iff.1 dcl p hp _ hi hk (by omega)
  rw[e] at hn hcd ⊢
  simp only at hcd ⊢
  by_cases hle2:(j:Int)+1<=cAt c s
  ·exact hle2
  ·exfalso
   have h3:=hmin s hs (by omega)
   have h4:=anc_lt hv ⟨s,hs,j,hj,rfl⟩ (.single hn)
   have h5:=hrr s hs
   have h6:=anc_line hv hs (i:=(cAt c s).toNat) (j:=j) (by omega) hj
   have h7:(((cAt c s).toNat:Nat):Int)=cAt c s:=by omega
   have h8:(((cAt c p).toNat:Nat):Int)=cAt c p:=by omega
   rw[h7] at h6
   rw[h8] at h4
   omega
 ·have:=(hrr 0 (by omega)).1
  simpa using this
theorem rdy_is {ps:List Pr}{c:List Int}{p:Nat}(h:rdyF ps c p=true):isF ps (stpC c p)=true:=(of_decide_eq_true h).2
def firstP (ps:List Pr)(perm:List Int->Bool)(c:List Int):Option Nat:=(List.range c.length).find? fun p=>rdyF ps c p && perm (stpC c p)
theorem firstP_some {ps:List Pr}{f:List Int->Bool}{c:List Int}{p:Nat}(h:firstP ps f c=some p):p<c.length/\rdyF ps c p=true/\f (stpC c p)=true:=by
 have h1:=List.find?_some h
 have h2:=List.mem_of_find?_eq_some h
 rw[Bool.and_eq_true] at h1
 exact⟨List.mem_range.1 h2,h1.1,h1.2⟩
theorem firstP_none {ps:List Pr}{f:List Int->Bool}{c:List Int}(h:firstP ps f c=none){p:Nat}(hp:p<c.length)(hr:rdyF ps c p=true):f (stpC c p)=false:=by
 have:=List.find?_eq_none.1 h p (List.mem_range.2 hp)
 rw[hr,Bool.true_and] at this
 simpa using this
def wlkR (ps:List Pr)(perm:List Int->Bool):Nat->List Int->Option (List (List Int))
 | 0,_=>some []
 | n+1,c=>match firstP ps perm c with
  | none=>none
  | some p=>(wlkR ps perm n (stpC c p)).map (stpC c p :: ·)
theorem wlkR_succ (ps:List Pr)(perm:List Int->Bool)(n:Nat)(c:List Int):wlkR ps perm (n+1) c=match firstP ps perm c with
  | none=>none
  | some p=>(wlkR ps perm n (stpC c p)).map (stpC c p :: ·):=rfl
theorem leq_stp {ps:List Pr}{c d:List Int}(hc:c.length=ps.length)(h:∀q:Nat,q<ps.length->cAt c q<=cAt d q)(hd:d.length=ps.length){p:Nat}(hp:cAt c p<cAt d p):∀q:Nat,q<ps.length->cAt (stpC c p) q<=cAt d q:=fun q hq=>by
 rw[cAt_stp (by omega)]
 split
 ·rename_i e;subst e;omega
 ·exact h q hq
theorem leq_at {a b:List Int}{n:Nat}(ha:a.length=n)(hb:b.length=n):leqF a b=true↔∀q:Nat,q<n->cAt a q<=cAt b q:=by
 rw[leq_iff_at,ha,hb]
 exact⟨fun h=>h.2,fun h=>⟨rfl,h⟩⟩
theorem stp_len (c:List Int)(p:Nat):(stpC c p).length=c.length:=by unfold stpC;rw[List.length_set]
theorem leq_full {ps:List Pr}{c:List Int}(h:isF ps c=true):leqF c (fullC ps)=true:=by
 obtain⟨hl,hr,_⟩:=isF_iff.1 h
 refine(leq_at hl (by unfold fullC;rw[List.length_map])).2 fun q hq=>?_
 rw[fullC_at hq]
 exact((inRange_iff hl).1 hr q hq).2
section
variable {ps:List Pr} (hv:validF ps=true)
include hv
theorem first_to {c to:List Int}(hc:isF ps c=true)(ht:isF ps to=true)(hle:leqF c to=true)(hne:c.sum<to.sum):∃p,firstP ps (fun d=>leqF d to) c=some p/\p<ps.length/\isF ps (stpC c p)=true/\leqF (stpC c p) to=true:=by
 have hl:=(isF_iff.1 hc).1
 have tl:=(isF_iff.1 ht).1
 have h1:=(leq_at hl tl).1 hle
 have hex:∃q:Nat,q<ps.length/\cAt c q<cAt to q:=by
  apply Classical.byContradiction
  intro hn
  have:c=to:=by
   apply List.ext_getElem (by omega)
   intro i g1 g2
   rw[<- cAt_nat g1,<- cAt_nat g2]
   have:=h1 i (by omega)
   have:¬cAt c i<cAt to i:=fun h=>hn ⟨i,by omega,h⟩
   omega
  rw[this] at hne;omega
 obtain⟨q,hq,hq1,hq2⟩:=add_below hv hc ht h1 hex
 have hlq:leqF (stpC c q) to=true:=(leq_at (by rw[stp_len];exact hl) tl).2 (leq_stp hl h1 tl hq1)
 cases hf:firstP ps (fun d=>leqF d to) c with
 | none =>
  have:=firstP_none hf (p:=q) (by omega) hq2
  rw[hlq] at this;cases this
 | some p =>
  obtain⟨a1,a2,a3⟩:=firstP_some hf
  exact⟨p,rfl,by omega,rdy_is a2,a3⟩
theorem wlk_to {to:List Int}(ht:isF ps to=true):∀(n:Nat) (c:List Int),isF ps c=true->leqF c to=true->c.sum+n=to.sum->∃R,wlkR ps (fun d=>leqF d to) n c=some R/\R.length=n/\(∀d ∈ R,isF ps d=true/\leqF d to=true)/\(c :: R).getLast?=some to
 | 0,c,hc,hle,hs=>by
  have:c=to:=(leq_sum hle).2 (by omega)
  subst this
  exact⟨[],rfl,rfl,fun d hd=>(by cases hd),rfl⟩
 | n+1,c,hc,hle,hs=>by
  obtain⟨p,h1,h2,h3,h4⟩:=first_to hv hc ht hle (by omega)
  have hsum:(stpC c p).sum=c.sum+1:=sum_stpC (by have:=(isF_iff.1 hc).1;omega)
  obtain⟨R,g1,g2,g3,g4⟩:=wlk_to ht n (stpC c p) h3 h4 (by omega)
  refine⟨stpC c p :: R,by rw[wlkR_succ,h1];simp only[g1,Option.map_some],by rw[List.length_cons,g2],fun d hd=>?_,?_⟩
  ·rcases List.mem_cons.1 hd with rfl|hd
   ·exact⟨h3,h4⟩
   ·exact g3 d hd
  ·rw[List.getLast?_cons_cons];exact g4
end
def stepG (a b:List Int):Nat->Option Int
 | 0=>some (-1)
 | k+1=>match stepG a b k with
  | none=>none
  | some p=>if cAt a k=cAt b k then some p else if 0<=p\/¬cAt b k=cAt a k+1 then none else some k
def stepF (a b:List Int):Int:=if a.length=b.length then (stepG a b a.length).getD (-1) else -1
theorem stepG_some {a b:List Int} : ∀ {k:Nat} {z:Int},stepG a b k=some z↔(z = -1/\∀i:Nat,i<k->cAt a i=cAt b i)\/∃q:Nat,q<k/\z=q/\cAt b q=cAt a q+1/\∀i:Nat,i<k->i ≠ q->cAt a i=cAt b i
 | 0,z=>by
  constructor
  ·intro h;exact .inl ⟨(Option.some.inj h).symm,fun i hi=>by omega⟩
  ·rintro(⟨h,_⟩|⟨q,h,_⟩)
   ·rw[h];rfl
   ·omega
 | k+1,z=>by
  have e:stepG a b (k+1)=match stepG a b k with
   | none=>none
   | some p=>if cAt a k=cAt b k then some p else if 0<=p\/¬cAt b k=cAt a k+1 then none else some k:=rfl
  rw[e]
  constructor
  ·intro h
   cases hs:stepG a b k with
   | none=>rw[hs] at h;cases h
   | some p =>
    rw[hs] at h
    simp only at h
    have ih:=stepG_some.1 hs
    by_cases h1:cAt a k=cAt b k
    ·rw[if_pos h1] at h
     cases h
     rcases ih with ⟨i1,i2⟩|⟨q,i1,i2,i3,i4⟩
     ·exact .inl ⟨i1,fun i hi=>by
       by_cases e:i=k
       ·subst e;exact h1
       ·exact i2 i (by omega)⟩
     ·exact .inr ⟨q,by omega,i2,i3,fun i hi hn=>by
       by_cases e:i=k
       ·subst e;exact h1
       ·exact i4 i (by omega) hn⟩
    ·rw[if_neg h1] at h
     split at h
     ·cases h
     ·rename_i h2
      cases h
      rcases ih with ⟨i1,i2⟩|⟨q,i1,i2,i3,i4⟩
      ·refine .inr ⟨k,by omega,rfl,?_,fun i hi hn=>i2 i (by omega)⟩
       apply Classical.byContradiction;intro h3;exact h2 (.inr h3)
      ·exact absurd (.inl (by omega)) h2
  ·rintro(⟨i1,i2⟩|⟨q,i1,i2,i3,i4⟩)
   ·rw[stepG_some.2 (.inl ⟨i1,fun i hi=>i2 i (by omega)⟩)]
    simp only
    rw[if_pos (i2 k (by omega))]
   ·by_cases e:q=k
    ·subst e
     rw[stepG_some.2 (.inl ⟨rfl,fun i hi=>i4 i (by omega) (by omega)⟩)]
     simp only
     rw[if_neg (by omega),if_neg (by omega),i2]
    ·rw[stepG_some.2 (.inr ⟨q,by omega,i2,i3,fun i hi hn=>i4 i (by omega) hn⟩)]
     simp only
     rw[if_pos (i4 k (by omega) (by omega))]
theorem stepF_iff {a b:List Int}{q:Nat} : stepF a b=q↔q<a.length/\b=stpC a q:=by
 unfold stepF
 constructor
 ·intro h
  split at h
  ·rename_i hl
   cases hs:stepG a b a.length with
   | none=>rw[hs] at h;simp at h
   | some z =>
    rw[hs] at h
    simp only[Option.getD_some] at h
    subst h
    rcases stepG_some.1 hs with ⟨i1,_⟩|⟨p,i1,i2,i3,i4⟩
    ·omega
    ·have:p=q:=by omega
     subst this
     refine⟨i1,?_⟩
     apply List.ext_getElem (by rw[stp_len];omega)
     intro i g1 g2
     rw[<- cAt_nat g1,<- cAt_nat g2,cAt_stp (by omega)]
     split
     ·rename_i e;subst e;exact i3
     ·rename_i e;exact(i4 i (by omega) fun h=>e h.symm).symm
  ·omega
 ·rintro⟨hq,rfl⟩
  rw[if_pos (stp_len a q).symm,stepG_some.2 (.inr ⟨q,hq,rfl,?_,?_⟩)]
  ·rfl
  ·rw[cAt_stp hq,if_pos rfl]
  ·intro i hi hn
   rw[cAt_stp hi,if_neg (fun e=>hn e.symm)]
theorem stepF_range (a b:List Int):stepF a b = -1\/∃q:Nat,stepF a b=q:=by
 unfold stepF
 split
 ·cases hs:stepG a b a.length with
  | none=>exact .inl rfl
  | some z =>
   rcases stepG_some.1 hs with ⟨i1,_⟩|⟨p,_,i2,_⟩
   ·exact .inl i1
   ·exact .inr ⟨p,i2⟩
 ·exact .inl rfl
def stpP (ps:List Pr)(a b:List Int):Option Nat:=(List.range ps.length).find? fun p=>rdyF ps a p && decide (b=stpC a p)
theorem stpC_inj {a:List Int}{p q:Nat}(hp:p<a.length)(hq:q<a.length)(h:stpC a p=stpC a q):p=q:=by
 have h1:cAt (stpC a p) p=cAt (stpC a q) p:=by rw[h]
 rw[cAt_stp hp,cAt_stp hp,if_pos rfl] at h1
 split at h1
 ·rename_i e;exact e.symm
 ·omega
theorem stpP_some {ps:List Pr}{a b:List Int}(ha:a.length=ps.length){p:Nat} : stpP ps a b=some p↔p<ps.length/\rdyF ps a p=true/\b=stpC a p:=by
 constructor
 ·intro h
  have h1:=List.find?_some h
  have h2:=List.mem_of_find?_eq_some h
  rw[Bool.and_eq_true,decide_eq_true_eq] at h1
  exact⟨List.mem_range.1 h2,h1.1,h1.2⟩
 ·rintro⟨h1,h2,h3⟩
  cases hf:stpP ps a b with
  | none =>
   have:=List.find?_eq_none.1 hf p (List.mem_range.2 h1)
   rw[h2,decide_eq_true h3] at this
   simp at this
  | some q =>
   have g1:=List.find?_some hf
   have g2:=List.mem_range.1 (List.mem_of_find?_eq_some hf)
   rw[Bool.and_eq_true,decide_eq_true_eq] at g1
   rw[stpC_inj (a:=a) (by omega) (by omega) (g1.2.symm.trans h3)]
theorem stpP_step {ps:List Pr}{a b:List Int}(ha:isF ps a=true):stpP ps a b=if isF ps b=true/\0<=stepF a b then some (stepF a b).toNat else none:=by
 have hl:=(isF_iff.1 ha).1
 split
 ·rename_i h
  rcases stepF_range a b with e|⟨q,e⟩
  ·rw[e] at h;exact absurd h.2 (by decide)
  ·rw[e]
   obtain⟨h1,h2⟩:=stepF_iff.1 e
   refine(stpP_some hl).2 ⟨by omega,?_,h2⟩
   have e2:((q:Int)).toNat=q:=by omega
   rw[e2]
   unfold rdyF
   rw[decide_eq_true_eq,<- h2]
   refine⟨?_,h.1⟩
   obtain⟨bl,br,_⟩:=isF_iff.1 h.1
   have:=(inRange_iff bl).1 br q (by omega)
   have e3:cAt b q=cAt a q+1:=by rw[h2,cAt_stp h1,if_pos rfl]
   rw[nev_get (by omega)];omega
 ·rename_i h
  cases hf:stpP ps a b with
  | none=>rfl
  | some p =>
   obtain⟨g1,g2,g3⟩:=(stpP_some hl).1 hf
   exact absurd ⟨by rw[g3];exact rdy_is g2,by rw[stepF_iff.2 ⟨by omega,g3⟩];omega⟩ h
def stpsG (ps:List Pr):List Int->List (List Int)->Option (List Nat)
 | _,[]=>some []
 | a,b :: r=>match stpP ps a b with
  | none=>none
  | some p=>(stpsG ps b r).map (p :: ·)
def zeroC (ps:List Pr):List Int:=List.replicate ps.length 0
def stpsF (ps:List Pr):List (List Int)->Option (List Nat)
 | []=>none
 | a :: r=>if a=zeroC ps/\(a :: r).getLast?=some (fullC ps) then stpsG ps a r else none
def chnF (ps:List Pr):List Int->List (List Int)->Bool
 | _,[]=>true
 | a,b :: r=>(isF ps b && decide (0<=stepF a b)) && chnF ps b r
def isRunF (ps:List Pr):List (List Int)->Bool
 | []=>false
 | a :: r=>decide (a=zeroC ps/\(a :: r).getLast?=some (fullC ps)) && chnF ps a r
theorem zeroC_is (ps:List Pr):isF ps (zeroC ps)=true:=isF_zero
def evtG:List Int->List (List Int)->List Eid
 | _,[]=>[]
 | a,b :: r=>(stepF a b,cAt b (stepF a b)) :: evtG b r
def takC (c:List Int)(p:Nat):List Int:=c.set p (cAt c p - 1)
def remB (ps:List Pr)(c:List Int)(p:Nat):Bool:=decide (0<cAt c p) && isF ps (takC c p)
def remN (ps:List Pr)(c:List Int)(k:Nat):Nat:=((List.range k).filter (remB ps c)).length
def irrF (ps:List Pr)(c:List Int):Bool:=decide (remN ps c c.length=1)
def ptF (ps:List Pr)(p i:Nat):List Int:=closeF ps (stC ps.length p ((i:Int)+1))
section
variable {ps:List Pr} (hv:validF ps=true) {p:Nat} (hp:p<ps.length) {i:Nat} (hi:i<ps[p].evs.length)
include hv hp hi
theorem pt_is:isF ps (ptF ps p i)=true:=by
 obtain⟨a1,a2⟩:=stC_ok (k:=(i:Int)+1) hp (by omega) (by omega)
 obtain⟨b1,b2,_⟩:=closeF_ok hv a1 a2
 exact isF_iff.2 ⟨b1,b2,closeF_closed hv a1 a2⟩
theorem pt_has:(i:Int)+1<=cAt (ptF ps p i) p:=by
 obtain⟨a1,a2⟩:=stC_ok (k:=(i:Int)+1) hp (by omega) (by omega)
 have:=closeF_ge hv a1 a2 p hp
 rw[stC_cAt hp,if_pos rfl] at this
 exact this
end
theorem pt_least {ps:List Pr}(hv:validF ps=true){p:Nat}(hp:p<ps.length){i:Nat}{d:List Int}(hd:isF ps d=true)(h:(i:Int)+1<=cAt d p):∀q,q<ps.length->cAt (ptF ps p i) q<=cAt d q:=by
 obtain⟨d1,d2,d3⟩:=isF_iff.1 hd
 have:=need_le hv d1 d2 d3 (q:=p) (k:=i+1) hp (by omega)
 have e:(((i+1:Nat):Nat):Int)=(i:Int)+1:=by omega
 rw[e] at this
 exact this
theorem tak_at {c:List Int}{p q:Nat}(hq:q<c.length):cAt (takC c p) q=if p=q then cAt c p - 1 else cAt c q:=by
 unfold takC;rw[setc_cAt hq]
theorem rem_is {ps:List Pr}{c:List Int}{p:Nat}(h:remB ps c p=true):0<cAt c p/\isF ps (takC c p)=true:=by
 unfold remB at h
 rw[Bool.and_eq_true,decide_eq_true_eq] at h
 exact h
theorem rem_pt {ps:List Pr}(hv:validF ps=true){p:Nat}(hp:p<ps.length){i:Nat}(hi:i<ps[p].evs.length){q:Nat}(hq:q<ps.length)(h:remB ps (ptF ps p i) q=true):q=p/\cAt (ptF ps p i) p=(i:Int)+1:=by
 obtain⟨h0,ht⟩:=rem_is h
 have hl:=(isF_iff.1 (pt_is hv hp hi)).1
 have hh:=pt_has hv hp hi
 by_cases hx:(i:Int)+1<=cAt (takC (ptF ps p i) q) p
 ·have:=pt_least hv hp ht hx q hq
  rw[tak_at (by omega),if_pos rfl] at this
  omega
 ·rw[tak_at (by omega)] at hx
  split at hx
  ·rename_i e;subst e;exact⟨rfl,by omega⟩
  ·omega
theorem filt_one {f:Nat->Bool} : ∀ {n:Nat},((List.range n).filter f).length=1↔∃p,p<n/\f p=true/\∀q,q<n->f q=true->q=p
 | 0=>by simp
 | n+1=>by
  have ih:=filt_one (f:=f) (n:=n)
  rw[List.range_succ,List.filter_append,List.length_append]
  cases h:f n with
  | false =>
   simp only[List.filter_cons_of_neg (by rw[h];decide:¬f n=true),List.filter_nil,List.length_nil,Nat.add_zero]
   rw[ih]
   constructor
   ·rintro⟨p,h1,h2,h3⟩
    exact⟨p,by omega,h2,fun q hq hf=>h3 q (by
     by_cases e:q=n
     ·subst e;rw[h] at hf;cases hf
     ·omega) hf⟩
   ·rintro⟨p,h1,h2,h3⟩
    refine⟨p,?_,h2,fun q hq=>h3 q (by omega)⟩
    by_cases e:p=n
    ·subst e;rw[h] at h2;cases h2
    ·omega
  | true =>
   simp only[List.filter_cons_of_pos h,List.filter_nil,List.length_cons,List.length_nil]
   constructor
   ·intro h1
    have h0:(List.range n).filter f=[]:=List.eq_nil_of_length_eq_zero (by omega)
    rw[List.filter_eq_nil_iff] at h0
    refine⟨n,by omega,h,fun q hq hf=>?_⟩
    by_cases e:q=n
    ·exact e
    ·exact absurd hf (h0 q (List.mem_range.2 (by omega)))
   ·rintro⟨p,h1,h2,h3⟩
    have e:n=p:=h3 n (by omega) h
    have h0:(List.range n).filter f=[]:=List.filter_eq_nil_iff.2 fun q hq hf=>by
     have:=h3 q (by have:=List.mem_range.1 hq;omega) hf
     have:=List.mem_range.1 hq
     omega
    rw[h0];rfl
theorem irr_iff {ps:List Pr}{c:List Int} : irrF ps c=true↔∃p,p<c.length/\remB ps c p=true/\∀q,q<c.length->remB ps c q=true->q=p:=by
 unfold irrF remN
 rw[decide_eq_true_eq]
 exact filt_one
theorem irr_pt {ps:List Pr}(hv:validF ps=true){p:Nat}(hp:p<ps.length){i:Nat}(hi:i<ps[p].evs.length):irrF ps (ptF ps p i)=true/\cAt (ptF ps p i) p=(i:Int)+1/\remB ps (ptF ps p i) p=true:=by
 have his:=pt_is hv hp hi
 obtain⟨hl,hr,hcl⟩:=isF_iff.1 his
 have hh:=pt_has hv hp hi
 obtain⟨q,hq,h0,r1,r2⟩:=cut_remove hv hl hr hcl ⟨p,hp,by omega⟩
 have hrm:remB ps (ptF ps p i) q=true:=by
  unfold remB
  rw[decide_eq_true h0,Bool.true_and]
  exact isF_iff.2 ⟨by unfold takC;rw[List.length_set];exact hl,r1,r2⟩
 obtain⟨rfl,he⟩:=rem_pt hv hp hi hq hrm
 exact⟨irr_iff.2 ⟨q,by omega,hrm,fun r hr hrr=>(rem_pt hv hp hi (by omega) hrr).1⟩,he,hrm⟩
theorem chn_cons {ps:List Pr}{a b:List Int}{r:List (List Int)}(ha:isF ps a=true):chnF ps a (b :: r)=true↔∃q:Nat,q<ps.length/\rdyF ps a q=true/\b=stpC a q/\stepF a b=q/\chnF ps b r=true:=by
 have hl:=(isF_iff.1 ha).1
 have e:chnF ps a (b :: r)=((isF ps b && decide (0<=stepF a b)) && chnF ps b r):=rfl
 rw[e,Bool.and_eq_true,Bool.and_eq_true,decide_eq_true_eq]
 constructor
 ·rintro⟨⟨h1,h2⟩,h3⟩
  have h4:=stpP_step (b:=b) ha
  rw[if_pos ⟨h1,h2⟩] at h4
  obtain⟨g1,g2,g3⟩:=(stpP_some hl).1 h4
  exact⟨_,g1,g2,g3,by omega,h3⟩
 ·rintro⟨q,h1,h2,h3,h4,h5⟩
  exact⟨⟨by rw[h3];exact rdy_is h2,by omega⟩,h5⟩
theorem isrun_inv {ps:List Pr}{r:List (List Int)}(h:isRunF ps r=true):∃R,r=zeroC ps :: R/\chnF ps (zeroC ps) R=true/\(zeroC ps :: R).getLast?=some (fullC ps):=by
 cases r with
 | nil=>cases h
 | cons a R =>
  have h:(decide (a=zeroC ps/\(a :: R).getLast?=some (fullC ps)) && chnF ps a R)=true:=h
  rw[Bool.and_eq_true,decide_eq_true_eq] at h
  obtain⟨⟨rfl,h2⟩,h3⟩:=h
  exact⟨R,rfl,h3,h2⟩
theorem isrun_mk {ps:List Pr}{R:List (List Int)}(h:chnF ps (zeroC ps) R=true)(hl:(zeroC ps :: R).getLast?=some (fullC ps)):isRunF ps (zeroC ps :: R)=true:=by
 show (decide (zeroC ps=zeroC ps/\(zeroC ps :: R).getLast?=some (fullC ps)) && chnF ps (zeroC ps) R)=true
 rw[decide_eq_true ⟨rfl,hl⟩,h];rfl
theorem wlk_chn {ps:List Pr}{perm:List Int->Bool} : ∀ {n:Nat} {c:List Int} {R:List (List Int)},isF ps c=true->wlkR ps perm n c=some R->chnF ps c R=true/\R.length=n
 | 0,c,R,hc,h=>by
  have:R=[]:=(Option.some.inj h).symm
  subst this;exact⟨rfl,rfl⟩
 | n+1,c,R,hc,h=>by
  rw[wlkR_succ] at h
  cases hf:firstP ps perm c with
  | none=>rw[hf] at h;cases h
  | some p =>
   rw[hf] at h
   simp only at h
   cases hs:wlkR ps perm n (stpC c p) with
   | none=>rw[hs] at h;cases h
   | some R' =>
    rw[hs] at h
    have hR:R=stpC c p :: R':=(Option.some.inj h).symm
    subst hR
    obtain⟨a1,a2,_⟩:=firstP_some hf
    obtain⟨i1,i2⟩:=wlk_chn (rdy_is a2) hs
    have hl:=(isF_iff.1 hc).1
    exact⟨(chn_cons hc).2 ⟨p,by omega,a2,rfl,stepF_iff.2 ⟨a1,rfl⟩,i1⟩,by rw[List.length_cons,i2]⟩
theorem chn_app {ps:List Pr} : ∀ {R S:List (List Int)} {c d:List Int},(c :: R).getLast?=some d->chnF ps c R=true->chnF ps d S=true->chnF ps c (R ++ S)=true
 | [],S,c,d,h,_,h2=>by
  have:c=d:=Option.some.inj h
  subst this;exact h2
 | b :: R,S,c,d,h,h1,h2=>by
  have e:chnF ps c (b :: R)=((isF ps b && decide (0<=stepF c b)) && chnF ps b R):=rfl
  have e2:chnF ps c (b :: R ++ S)=((isF ps b && decide (0<=stepF c b)) && chnF ps b (R ++ S)):=rfl
  rw[e,Bool.and_eq_true] at h1
  rw[e2,h1.1,Bool.true_and]
  rw[List.getLast?_cons_cons] at h
  exact chn_app h h1.2 h2
theorem chn_get {ps:List Pr} : ∀ {R:List (List Int)} {c:List Int},isF ps c=true->chnF ps c R=true->(evtG c R).length=R.length/\∀(i:Nat) (hi:i<(evtG c R).length) (hi2:i+1<(c :: R).length),
  ∃p:Nat,p<ps.length/\isF ps (c :: R)[i]=true/\rdyF ps (c :: R)[i] p=true/\(c :: R)[i+1]=stpC (c :: R)[i] p/\(evtG c R)[i]=((p:Int),cAt (c :: R)[i] p+1)
 | [],c,hc,h=>⟨rfl,fun i hi=>by cases hi⟩
 | b :: R,c,hc,h=>by
  obtain⟨q,h1,h2,rfl,h4,h5⟩:=(chn_cons hc).1 h
  have hl:=(isF_iff.1 hc).1
  have e:evtG c (stpC c q :: R)=(stepF c (stpC c q),cAt (stpC c q) (stepF c (stpC c q))) :: evtG (stpC c q) R:=rfl
  obtain⟨i1,i2⟩:=chn_get (rdy_is h2) h5
  refine⟨by rw[e,List.length_cons,List.length_cons,i1],fun i hi hi2=>?_⟩
  cases i with
  | zero =>
   refine⟨q,h1,hc,h2,rfl,?_⟩
   show (stepF c (stpC c q),cAt (stpC c q) (stepF c (stpC c q)))=_
   rw[h4,cAt_stp (by omega),if_pos rfl]
   rfl
  | succ i =>
   have hi':i<(evtG (stpC c q) R).length:=by rw[e,List.length_cons] at hi;omega
   exact i2 i hi' (by rw[List.length_cons] at hi2;omega)
theorem chn_mono {ps:List Pr}{R:List (List Int)}{c:List Int}(hc:isF ps c=true)(h:chnF ps c R=true){i:Nat}(hi:i<(c :: R).length):∀(m:Nat) (hj:i+m<(c :: R).length),∀q:Nat,q<ps.length->cAt (c :: R)[i] q<=cAt (c :: R)[i+m] q
 | 0,hj,q,hq=>Int.le_refl _
 | m+1,hj,q,hq=>by
  obtain⟨g1,g2⟩:=chn_get hc h
  have hj1:i+m+1<(c :: R).length:=hj
  obtain⟨p,a1,a2,a3,a4,a5⟩:=g2 (i+m) (by rw[g1];rw[List.length_cons] at hj;omega) hj1
  have ih:=chn_mono hc h hi m (by omega) q hq
  have e:(c :: R)[i+(m+1)]=stpC (c :: R)[i+m] p:=a4
  rw[e,cAt_stp (by rw[(isF_iff.1 a2).1];exact hq)]
  split <;> omega
structure SpOk (b:Nat->Bool)(p K:Nat)(l:List Stp):Prop where
 el:∀s ∈ l,s.1=p/\s.2.1<=s.2.2/\s.2.2<K/\∀j,s.2.1<=j->j<=s.2.2->b j=true
 ord:l.Pairwise fun s u=>s.2.2+1<u.2.1
 cov:∀j,j<K->b j=true->∃s ∈ l,s.2.1<=j/\j<=s.2.2
theorem spL_ok (b:Nat->Bool)(p:Nat):∀k,SpOk b p k (spL b p k)
 | 0=>⟨(by rw[spL_zero];intro s h;cases h),(by rw[spL_zero];exact .nil),fun j h=>by omega⟩
 | k+1=>by
  have ih:=spL_ok b p k
  cases h:b k with
  | false =>
   rw[spL_no h]
   refine⟨fun s hs=>?_,ih.ord,fun j hj hb=>?_⟩
   ·obtain⟨h1,h2,h3,h4⟩:=ih.el s hs
    exact⟨h1,h2,by omega,h4⟩
   ·by_cases e:j=k
    ·subst e;rw[h] at hb;cases hb
    ·exact ih.cov j (by omega) hb
  | true =>
   cases h0:decide (0<k) && b (k - 1) with
   | false =>
    rw[spL_new h h0]
    refine⟨fun s hs=>?_,?_,fun j hj hb=>?_⟩
    ·rcases List.mem_append.1 hs with hs|hs
     ·obtain⟨h1,h2,h3,h4⟩:=ih.el s hs
      exact⟨h1,h2,by omega,h4⟩
     ·simp only[List.mem_singleton] at hs;subst hs
      refine⟨rfl,Nat.le_refl _,Nat.lt_succ_self _,fun j h1 h2=>?_⟩
      have:j=k:=Nat.le_antisymm h2 h1
      subst this;exact h
    ·refine List.pairwise_append.2 ⟨ih.ord,List.pairwise_singleton _ _,fun s hs u hu=>?_⟩
     simp only[List.mem_singleton] at hu;subst hu
     obtain⟨h1,h2,h3,h4⟩:=ih.el s hs
     have h5:=h4 s.2.2 h2 (Nat.le_refl _)
     show s.2.2+1<k
     apply Classical.byContradiction;intro h6
     have e:s.2.2=k - 1:=by omega
     rw[e] at h5
     rw[h5,Bool.and_true] at h0
     have:=of_decide_eq_false h0
     omega
    ·by_cases e:j=k
     ·subst e;exact⟨_,List.mem_append_right _ (List.mem_singleton_self _),Nat.le_refl _,Nat.le_refl _⟩
     ·obtain⟨s,hs,h1⟩:=ih.cov j (by omega) hb
      exact⟨s,List.mem_append_left _ hs,h1⟩
   | true =>
    obtain⟨d,f,e1,e2⟩:=spL_on (p:=p) h h0
    rw[e1] at ih
    rw[e2]
    have hk:0<k:=by
     apply Classical.byContradiction;intro h6
     rw[decide_eq_false h6] at h0;cases h0
    have hord:=List.pairwise_append.1 ih.ord
    obtain⟨_,g2,g3,g4⟩:=ih.el (p,f,k - 1) (List.mem_append_right _ (List.mem_singleton_self _))
    have g2:f<=k - 1:=g2
    refine⟨fun s hs=>?_,?_,fun j hj hb=>?_⟩
    ·rcases List.mem_append.1 hs with hs|hs
     ·obtain⟨h1,h2,h3,h4⟩:=ih.el s (List.mem_append_left _ hs)
      exact⟨h1,h2,by omega,h4⟩
     ·simp only[List.mem_singleton] at hs;subst hs
      refine⟨rfl,show f<=k by omega,Nat.lt_succ_self _,fun j h1 h2=>?_⟩
      have h1:f<=j:=h1
      have h2:j<=k:=h2
      by_cases e:j=k
      ·subst e;exact h
      ·exact g4 j h1 (show j<=k - 1 by omega)
    ·refine List.pairwise_append.2 ⟨hord.1,List.pairwise_singleton _ _,fun s hs u hu=>?_⟩
     simp only[List.mem_singleton] at hu;subst hu
     exact hord.2.2 s hs (p,f,k - 1) (List.mem_singleton_self _)
    ·by_cases e:j=k
     ·subst e;exact⟨_,List.mem_append_right _ (List.mem_singleton_self _),show f<=j by omega,Nat.le_refl _⟩
     ·obtain⟨s,hs,h1,h2⟩:=ih.cov j (by omega) hb
      rcases List.mem_append.1 hs with hs|hs
      ·exact⟨s,List.mem_append_left _ hs,h1,h2⟩
      ·simp only[List.mem_singleton] at hs;subst hs
       exact⟨_,List.mem_append_right _ (List.mem_singleton_self _),h1,show j<=k by omega⟩
section
variable {b:Nat->Bool} {p K:Nat} {l:List Stp}
theorem SpOk.lt (h:SpOk b p K l){i j:Nat}(hj:j<l.length)(hij:i<j):(l[i]'(by omega)).2.2+1<l[j].2.1:=List.pairwise_iff_getElem.1 h.ord i j (by omega) hj hij
theorem SpOk.gap (h:SpOk b p K l){i:Nat}(hi:i<l.length){c:Nat}(h0:∀(j:Nat) (hj:j<l.length),j<i->l[j].2.2<c){x:Nat}(hx:c<=x)(hxf:x<l[i].2.1):b x=false:=by
 cases hb:b x with
 | false=>rfl
 | true =>
  obtain⟨_,g2,g3,_⟩:=h.el l[i] (List.getElem_mem hi)
  obtain⟨s,hs,k1,k2⟩:=h.cov x (by omega) hb
  obtain⟨m,hm,rfl⟩:=List.getElem_of_mem hs
  rcases Nat.lt_trichotomy m i with e|e|e
  ·have:=h0 m hm e;omega
  ·subst e;omega
  ·have:=h.lt hm e
   omega
theorem SpOk.past (h:SpOk b p K l){c:Nat}(h0:∀s ∈ l,s.2.2<c){x:Nat}(hx:c<=x)(hxK:x<K):b x=false:=by
 cases hb:b x with
 | false=>rfl
 | true =>
  obtain⟨s,hs,k1,k2⟩:=h.cov x hxK hb
  have:=h0 s hs
  omega
theorem SpOk.first (h:SpOk b p K l)(hK:0<K)(h0:b 0=true):∃(hl:0<l.length),l[0].2.1=0:=by
 obtain⟨s,hs,k1,k2⟩:=h.cov 0 hK h0
 obtain⟨m,hm,rfl⟩:=List.getElem_of_mem hs
 refine⟨by omega,?_⟩
 rcases Nat.eq_zero_or_pos m with e|e
 ·subst e;omega
 ·have:=h.lt hm e
  omega
end
def bgN (ps:List Pr)(a o:Stp):Bool:=decide (a.2.1=0) || (decide (o.2.2=nev ps o.1) || decide ((a.2.1:Int)<=cAt (ptF ps o.1 o.2.2) a.1))
def fSp (rows:Nat->List Stp)(p i:Nat):Stp:=(rows p).getD i (0,0,0)
def lenSp (rows:Nat->List Stp)(p:Nat):Nat:=(rows p).length
abbrev TgtS (ps:List Pr) (rows:Nat->List Stp) (t:Nat->Nat):Prop:=Tgt (bgN ps) (lenSp rows) (fSp rows) ps.length t
abbrev LeastS (ps:List Pr) (rows:Nat->List Stp) (t:Nat->Nat):Prop:=LeastT (bgN ps) (lenSp rows) (fSp rows) ps.length t
def RowsOk (ps:List Pr)(b:Nat->Nat->Bool)(rows:Nat->List Stp):Prop:=∀p,p<ps.length->SpOk (b p) p (nev ps p+1) (rows p)
theorem fSp_eq {rows:Nat->List Stp}{p i:Nat}(h:i<(rows p).length):fSp rows p i=(rows p)[i]:=by
 unfold fSp;rw[List.getD_eq_getElem?_getD,List.getElem?_eq_getElem h,Option.getD_some]
def AvoidC (ps:List Pr)(b:Nat->Nat->Bool)(c:List Int):Prop:=∃p,p<ps.length/\b p (cAt c p).toNat=false
structure DgI (ps:List Pr)(rows:Nat->List Stp)(c:List Int):Prop where
 is:isF ps c=true
 wit:∀i,i<ps.length->cAt c i=0\/∃a,a<ps.length/\∃s ∈ rows a,(s.2.2:Int)<cAt c a/\s.2.2<nev ps a/\cAt c i<=cAt (ptF ps a s.2.2) i
structure Com (ps:List Pr)(rows:Nat->List Stp)(c:List Int)(x:Nat->Nat):Prop where
 lt:∀p,p<ps.length->x p<(rows p).length
 ge:∀p,p<ps.length->cAt c p<=((fSp rows p (x p)).2.2:Int)
 be:∀p,p<ps.length->∀j,j<x p->((fSp rows p j).2.2:Int)<cAt c p
section
variable {ps:List Pr} (hv:validF ps=true)
include hv
theorem pt_trans {a i e j:Nat}(ha:a<ps.length)(he:e<ps.length)(hj:j<nev ps e)(hi:(i:Int)+1<=cAt (ptF ps e j) a):∀q,q<ps.length->cAt (ptF ps a i) q<=cAt (ptF ps e j) q :=
 pt_least hv ha (pt_is hv he (by rw[nev_get he] at hj;exact hj)) hi
theorem pt_self {a i:Nat}(ha:a<ps.length)(hi:i<nev ps a):cAt (ptF ps a i) a=(i:Int)+1:=(irr_pt hv ha (by rw[nev_get ha] at hi;exact hi)).2.1
theorem pt_isN {a i:Nat}(ha:a<ps.length)(hi:i<nev ps a):isF ps (ptF ps a i)=true:=pt_is hv ha (by rw[nev_get ha] at hi;exact hi)
theorem pt_less {a i e j:Nat}(ha:a<ps.length)(he:e<ps.length)(hi:i<nev ps a)(hj:j<nev ps e)(h:∀q,q<ps.length->cAt (ptF ps a i) q<=cAt (ptF ps e j) q)(hlt:cAt (ptF ps a i) e<cAt (ptF ps e j) e):(ptF ps a i).sum<(ptF ps e j).sum:=by
 have h1:=pt_isN hv ha hi
 have h2:=pt_isN hv he hj
 have l1:=(isF_iff.1 h1).1
 have l2:=(isF_iff.1 h2).1
 obtain⟨g1,g2⟩:=leq_sum ((leq_at l1 l2).2 h)
 rcases Int.lt_or_eq_of_le g1 with g|g
 ·exact g
 ·rw[g2 g] at hlt;omega
end
section
variable {ps:List Pr} {b:Nat->Nat->Bool} {rows:Nat->List Stp} (hv:validF ps=true) (hR:RowsOk ps b rows)
include hR
theorem mon_rows:MonB (bgN ps) (lenSp rows) (fSp rows) ps.length:=fun p i j hp hij hj o h=>by
 have hj:j<(rows p).length:=hj
 rw[fSp_eq hj] at h
 rw[fSp_eq (show i<(rows p).length by omega)]
 have e1:=((hR p hp).el _ (List.getElem_mem hj))
 have e2:=((hR p hp).el _ (List.getElem_mem (show i<(rows p).length by omega)))
 have e3:(rows p)[i].2.1<=(rows p)[j].2.1:=by
  rcases Nat.lt_or_eq_of_le hij with e|e
  ·have:=(hR p hp).lt hj e
   omega
  ·subst e;exact Nat.le_refl _
 unfold bgN at h ⊢
 rw[e2.1]
 rw[e1.1] at h
 simp only[Bool.or_eq_true,decide_eq_true_eq] at h ⊢
 rcases h with h|h|h
 ·exact .inl (by omega)
 ·exact .inr (.inl h)
 ·exact .inr (.inr (by omega))
theorem zero_avoid (hT:¬ ∃t,TgtS ps rows t):AvoidC ps b (zeroC ps):=by
 apply Classical.byContradiction
 intro hn
 have hb:∀p,p<ps.length->b p 0=true:=fun p hp=>by
  have h0:cAt (zeroC ps) p=0:=by unfold zeroC;rw[cAt_nat (by simpa using hp)];simp
  cases h:b p 0 with
  | true=>rfl
  | false=>exact absurd ⟨p,hp,by rw[h0];exact h⟩ hn
 refine hT ⟨fun _=>0,fun p hp=>?_,fun p q hp hq hpq=>?_⟩
 ·obtain⟨h1,_⟩:=(hR p hp).first (by omega) (hb p hp)
  exact h1
 ·obtain⟨h1,h2⟩:=(hR p hp).first (by omega) (hb p hp)
  unfold bgN
  rw[fSp_eq h1,h2];rfl
include hv
theorem dg_chain {c:List Int}(I:DgI ps rows c){x:Nat->Nat}(hx:Com ps rows c x):∀(m i:Nat),i<ps.length->0<(fSp rows i (x i)).2.1->((fSp rows i (x i)).2.1:Int)<=cAt c i ->
  off ps ps.length - (ptF ps i ((fSp rows i (x i)).2.1 - 1)).sum.toNat<m->∃a,a<ps.length/\cAt c a<((fSp rows a (x a)).2.1:Int)/\((fSp rows i (x i)).2.1:Int)<=cAt (ptF ps a ((fSp rows a (x a)).2.1 - 1)) i
 | 0,i,hi,_,_,hm=>by omega
 | m+1,i,hi,h0,hle,hm=>by
  obtain⟨li,lr,_⟩:=isF_iff.1 I.is
  have hE:=fun p (hp:p<ps.length)=>(hR p hp).el _ (List.getElem_mem (hx.lt p hp))
  have hF:=fun p (hp:p<ps.length)=>fSp_eq (hx.lt p hp)
  rcases I.wit i hi with h|⟨a,ha,s,hs,s1,s2,s3⟩
  ·omega
  ·obtain⟨j,hj,rfl⟩:=List.getElem_of_mem hs
   have hja:j<x a:=by
    apply Classical.byContradiction
    intro hn
    have g1:=hx.ge a ha
    rw[hF a ha] at g1
    rcases Nat.lt_or_eq_of_le (Nat.le_of_not_lt hn) with e|e
    ·have g2:=(hR a ha).lt hj e
     have g3:=(hR a ha).el _ (List.getElem_mem hj)
     omega
    ·subst e;omega
   have xa:=hx.lt a ha
   have xi:=hx.lt i hi
   have g2:=(hR a ha).lt (hx.lt a ha) hja
   obtain⟨e1,e2,e3,_⟩:=hE a ha
   obtain⟨i1,i2,i3,_⟩:=hE i hi
   have hEa:=hE a ha
   rw[hF i hi] at h0 hle hm ⊢
   have hFa:=hF a ha
   have hN:(rows a)[x a].2.1 - 1<nev ps a:=by omega
   have hself:=pt_self hv ha hN
   have hself2:=pt_self hv ha s2
   have hup:=pt_trans hv (i:=(rows a)[j].2.2) ha ha hN (by rw[hself];omega)
   have k1:=hup i hi
   by_cases hca:cAt c a<((rows a)[x a].2.1:Int)
   ·exact⟨a,ha,by rw[hFa];exact hca,by rw[hFa];omega⟩
   ·have hNi:(rows i)[x i].2.1 - 1<nev ps i:=by omega
    have q1:=pt_trans hv (a:=i) (i:=(rows i)[x i].2.1 - 1) (e:=a) (j:=(rows a)[j].2.2) hi ha s2 (by omega)
    have q2:∀q,q<ps.length->cAt (ptF ps i ((rows i)[x i].2.1 - 1)) q<=cAt (ptF ps a ((rows a)[x a].2.1 - 1)) q:=fun q hq=>Int.le_trans (q1 q hq) (hup q hq)
    have q3:=q1 a ha
    have q4:=pt_less hv hi ha hNi hN q2 (by omega)
    have q5:=sum_le_off (pt_isN hv ha hN)
    have q6:0<=(ptF ps i ((rows i)[x i].2.1 - 1)).sum:=by
     rw[sum_totC (isF_nonneg (pt_isN hv hi hNi))];omega
    obtain⟨d,hd,d1,d2⟩:=dg_chain I hx m a ha (by rw[hFa];omega) (by rw[hFa];omega) (by rw[hFa];omega)
    refine⟨d,hd,d1,?_⟩
    rw[hFa] at d2
    have hdl:=hx.lt d hd
    obtain⟨_,d3,d4,_⟩:=hE d hd
    have hFd:=hF d hd
    rw[hFd] at d1 d2 ⊢
    have hd0:0<=cAt c d:=((inRange_iff li).1 lr d hd).1
    have:=pt_trans hv (a:=a) (i:=(rows a)[x a].2.1 - 1) (e:=d) (j:=(rows d)[x d].2.1 - 1) ha hd (by omega) (by omega) i hi
    omega
theorem dg_tight {c:List Int}(I:DgI ps rows c){x:Nat->Nat}(hx:Com ps rows c x)(hno:∀i k,i<ps.length->k<ps.length->i ≠ k->cAt c i<((fSp rows i (x i)).2.1:Int)->bgN ps (fSp rows i (x i)) (fSp rows k (x k))=true):TgtS ps rows x:=by
 obtain⟨li,lr,_⟩:=isF_iff.1 I.is
 have hE:=fun p (hp:p<ps.length)=>(hR p hp).el _ (List.getElem_mem (hx.lt p hp))
 have hF:=fun p (hp:p<ps.length)=>fSp_eq (hx.lt p hp)
 refine⟨fun p hp=>hx.lt p hp,fun i k hi hk hik=>?_⟩
 by_cases h0:(fSp rows i (x i)).2.1=0
 ·unfold bgN;rw[h0];rfl
 ·by_cases hc:cAt c i<((fSp rows i (x i)).2.1:Int)
  ·exact hno i k hi hk hik hc
  ·obtain⟨a,ha,a1,a2⟩:=dg_chain hv hR I hx _ i hi (by omega) (by omega) (Nat.lt_succ_self _)
   have xi:=hx.lt i hi
   have xk:=hx.lt k hk
   have xa:=hx.lt a ha
   have hFi:=hF i hi
   have hFk:=hF k hk
   have hFa:=hF a ha
   obtain⟨i1,i2,i3,_⟩:=hE i hi
   obtain⟨k1,k2,k3,_⟩:=hE k hk
   obtain⟨e1,e2,e3,_⟩:=hE a ha
   have ha0:0<=cAt c a:=((inRange_iff li).1 lr a ha).1
   have hgoal:(rows k)[x k].2.2=nev ps k\/((rows i)[x i].2.1:Int)<=cAt (ptF ps k (rows k)[x k].2.2) i:=by
    by_cases hke:(rows k)[x k].2.2=nev ps k
    ·exact .inl hke
    ·refine .inr ?_
     rw[hFa] at a1 a2
     rw[hFi] at a2
     by_cases hka:a=k
     ·subst hka
      have hs:=pt_self hv ha (show (rows a)[x a].2.2<nev ps a by omega)
      have:=pt_trans hv (a:=a) (i:=(rows a)[x a].2.1 - 1) (e:=a) (j:=(rows a)[x a].2.2) ha ha (by omega) (by omega) i hi
      omega
     ·have hb:=hno a k ha hk hka (by rw[hFa];exact a1)
      unfold bgN at hb
      rw[hFa,hFk,e1,k1] at hb
      simp only[Bool.or_eq_true,decide_eq_true_eq] at hb
      rcases hb with hb|hb|hb
      ·omega
      ·exact absurd hb hke
      ·have:=pt_trans hv (a:=a) (i:=(rows a)[x a].2.1 - 1) (e:=k) (j:=(rows k)[x k].2.2) ha hk (by omega) (by omega) i hi
       omega
   unfold bgN
   rw[hFi,hFk,i1,k1]
   simp only[Bool.or_eq_true,decide_eq_true_eq]
   exact .inr hgoal
theorem dg_step {c:List Int}(I:DgI ps rows c){x:Nat->Nat}(hx:Com ps rows c x){i k:Nat}(hi:i<ps.length)(hk:k<ps.length)(hc:cAt c i<((fSp rows i (x i)).2.1:Int))(hb:bgN ps (fSp rows i (x i)) (fSp rows k (x k))=false) :
  (fSp rows k (x k)).2.2<nev ps k/\DgI ps rows (joinL c (ptF ps k (fSp rows k (x k)).2.2))/\leqF c (joinL c (ptF ps k (fSp rows k (x k)).2.2))=true/\c.sum<(joinL c (ptF ps k (fSp rows k (x k)).2.2)).sum /\
   ∀d,isF ps d=true->leqF c d=true->leqF d (joinL c (ptF ps k (fSp rows k (x k)).2.2))=true->AvoidC ps b d:=by
 obtain⟨li,lr,_⟩:=isF_iff.1 I.is
 have hE:=fun p (hp:p<ps.length)=>(hR p hp).el _ (List.getElem_mem (hx.lt p hp))
 have hF:=fun p (hp:p<ps.length)=>fSp_eq (hx.lt p hp)
 obtain⟨i1,i2,i3,_⟩:=hE i hi
 obtain⟨k1,k2,k3,_⟩:=hE k hk
 have xi:=hx.lt i hi
 have xk:=hx.lt k hk
 unfold bgN at hb
 have hge:=hx.ge k hk
 have hbe:=hx.be i hi
 rw[hF k hk] at hge
 rw[hF i hi] at hc
 rw[hF i hi,hF k hk,i1,k1] at hb
 simp only[Bool.or_eq_false_iff,decide_eq_false_iff_not] at hb
 obtain⟨b1,b2,b3⟩:=hb
 rw[hF k hk]
 have hN:(rows k)[x k].2.2<nev ps k:=by omega
 have hpi:=pt_isN hv hk hN
 have hps:=pt_self hv hk hN
 have pl:=(isF_iff.1 hpi).1
 have hlen:c.length=(ptF ps k (rows k)[x k].2.2).length:=by omega
 have hmem:=List.getElem_mem (hx.lt k hk)
 generalize hP:ptF ps k (rows k)[x k].2.2=P at *
 have hjl:=join_len hlen
 have hja:∀q:Nat,q<ps.length->cAt (joinL c P) q=if cAt c q<cAt P q then cAt P q else cAt c q:=fun q hq=>join_cAt hlen (by omega)
 have hji:isF ps (joinL c P)=true:=(isF_given hv).1 (join_given ((isF_given hv).2 I.is) ((isF_given hv).2 hpi))
 have hle:leqF c (joinL c P)=true:=(leq_at li (by omega)).2 fun q hq=>by rw[hja q hq];split <;> omega
 refine⟨hN,⟨hji,fun q hq=>?_⟩,hle,?_,fun d hd h1 h2=>⟨i,hi,?_⟩⟩
 ·rw[hja q hq]
  by_cases h:cAt c q<cAt P q
  ·rw[if_pos h]
   refine .inr ⟨k,hk,_,hmem,?_,hN,by rw[hP];exact Int.le_refl _⟩
   rw[hja k hk];split <;> omega
  ·rw[if_neg h]
   rcases I.wit q hq with h1|⟨a,ha,s,hs,s1,s2,s3⟩
   ·exact .inl h1
   ·refine .inr ⟨a,ha,s,hs,?_,s2,s3⟩
    rw[hja a ha];split <;> omega
 ·obtain⟨g1,g2⟩:=leq_sum hle
  rcases Int.lt_or_eq_of_le g1 with g|g
  ·exact g
  ·have:=hja k hk
   rw[<- g2 g,if_pos (by omega)] at this
   omega
 ·have ld:=(isF_iff.1 hd).1
  have q1:=(leq_at li ld).1 h1 i hi
  have q2:=(leq_at ld (by omega)).1 h2 i hi
  rw[hja i hi] at q2
  have q0:0<=cAt c i:=((inRange_iff li).1 lr i hi).1
  have q3:cAt d i<((rows i)[x i].2.1:Int):=by
   split at q2 <;> omega
  refine(hR i hi).gap (hx.lt i hi) (c:=(cAt c i).toNat) (fun j hj hji=>?_) (x:=(cAt d i).toNat) (by omega) (by omega)
  have:=hbe j hji
  rw[fSp_eq hj] at this
  omega
omit hv in
theorem dg_end {c:List Int}(hc:isF ps c=true){p:Nat}(hp:p<ps.length)(h:∀s ∈ rows p,(s.2.2:Int)<cAt c p):∀d,isF ps d=true->leqF c d=true->AvoidC ps b d:=fun d hd hle=>by
 obtain⟨lc,rc,_⟩:=isF_iff.1 hc
 obtain⟨ld,rd,_⟩:=isF_iff.1 hd
 have q1:=(leq_at lc ld).1 hle p hp
 have q2:=(inRange_iff lc).1 rc p hp
 have q3:=(inRange_iff ld).1 rd p hp
 refine⟨p,hp,(hR p hp).past (c:=(cAt c p).toNat) (fun s hs=>?_) (by omega) ?_⟩
 ·have:=h s hs
  omega
 ·rw[nev_get hp];omega
omit hv hR in
theorem dg_zero:DgI ps rows (zeroC ps):=⟨zeroC_is ps,fun i hi=>.inl (by unfold zeroC;rw[cAt_nat (by simpa using hi)];simp)⟩
end
section
variable {ps:List Pr} (hv:validF ps=true)
include hv
end
section
variable {ps:List Pr} (hv:validF ps=true)
include hv
end
open Classical in
noncomputable def tgtO (ps:List Pr)(rows:Nat->List Stp):Option (Nat->Nat):=if h:∃a,LeastS ps rows a then some (Classical.choose h) else none
theorem tgtO_some {ps:List Pr}{rows:Nat->List Stp}{a:Nat->Nat}(h:LeastS ps rows a):∃a',tgtO ps rows=some a'/\∀p,p<ps.length->a' p=a p:=by
 have hx:∃a,LeastS ps rows a:=⟨a,h⟩
 refine⟨Classical.choose hx,by unfold tgtO;rw[dif_pos hx],fun p hp=>least_unique (Classical.choose_spec hx) h hp⟩
theorem tgtO_none {ps:List Pr}{rows:Nat->List Stp}(h:¬ ∃t,TgtS ps rows t):tgtO ps rows=none:=by
 unfold tgtO
 rw[dif_neg fun ⟨a,ha⟩=>h ⟨a,ha.1⟩]
def chcL (n:Nat)(rows:Nat->List Stp)(a:Nat->Nat):List Stp:=(List.range n).map fun p=>fSp rows p (a p)
theorem chcL_len (n:Nat)(rows:Nat->List Stp)(a:Nat->Nat):(chcL n rows a).length=n:=by simp [chcL]
theorem chcL_congr {n:Nat}{rows:Nat->List Stp}{a b:Nat->Nat}(h:∀p,p<n->a p=b p):chcL n rows a=chcL n rows b:=List.map_congr_left fun p hp=>by rw[h p (List.mem_range.1 hp)]
structure DodgeR (ps:List Pr)(b:Nat->Nat->Bool)(R:List (List Int)):Prop where
 run:isRunF ps R=true
 av:∀d ∈ R,AvoidC ps b d
structure DgO (ps:List Pr)(b:Nat->Nat->Bool)(O:List (List Int))(c:List Int):Prop where
 ex:∃R,O=zeroC ps :: R/\chnF ps (zeroC ps) R=true
 last:O.getLast?=some c
 av:∀d ∈ O,AvoidC ps b d
section
variable {ps:List Pr} (hv:validF ps=true) {b:Nat->Nat->Bool}
theorem chn_last {ps:List Pr} : ∀ {R:List (List Int)} {c d:List Int},isF ps c=true->chnF ps c R=true->(c :: R).getLast?=some d->isF ps d=true/\d.sum=c.sum+R.length
 | [],c,d,hc,_,h=>by
  have:c=d:=Option.some.inj h
  subst this;exact⟨hc,by simp⟩
 | e :: R,c,d,hc,h,hl=>by
  obtain⟨q,h1,h2,rfl,h4,h5⟩:=(chn_cons hc).1 h
  rw[List.getLast?_cons_cons] at hl
  obtain⟨g1,g2⟩:=chn_last (rdy_is h2) h5 hl
  refine⟨g1,?_⟩
  rw[g2,sum_stpC (by rw[(isF_iff.1 hc).1];exact h1),List.length_cons]
  omega
theorem DgO.is {O:List (List Int)}{c:List Int}(h:DgO ps b O c):isF ps c=true/\c.sum+1=O.length:=by
 obtain⟨R,rfl,hch⟩:=h.ex
 obtain⟨g1,g2⟩:=chn_last (zeroC_is ps) hch h.last
 have h0:(zeroC ps).sum=0:=by unfold zeroC;simp
 rw[List.length_cons]
 exact⟨g1,by omega⟩
theorem DgO.start (h:AvoidC ps b (zeroC ps)):DgO ps b [zeroC ps] (zeroC ps):=⟨⟨[],rfl,rfl⟩,rfl,fun d hd=>by simp only[List.mem_singleton] at hd;subst hd;exact h⟩
include hv in
theorem wlk_go {c to:List Int}(hc:isF ps c=true)(ht:isF ps to=true)(hle:leqF c to=true):∃R,wlkR ps (fun d=>leqF d to) (to.sum - c.sum).toNat c=some R/\chnF ps c R=true/\(c :: R).getLast?=some to/\(c.sum+R.length=to.sum) /\
  ∀d ∈ R,isF ps d=true/\leqF c d=true/\leqF d to=true:=by
 have hs:=(leq_sum hle).1
 obtain⟨R,h1,h2,h3,h4⟩:=wlk_to hv ht (to.sum - c.sum).toNat c hc hle (by omega)
 have h5:=(wlk_chn hc h1).1
 refine⟨R,h1,h5,h4,by omega,fun d hd=>⟨(h3 d hd).1,?_,(h3 d hd).2⟩⟩
 obtain⟨i,hi,rfl⟩:=List.getElem_of_mem hd
 have hlc:=(isF_iff.1 hc).1
 refine(leq_at hlc (isF_iff.1 (h3 _ hd).1).1).2 fun q hq=>?_
 have:=chn_mono hc h5 (i:=0) (by simp) (i+1) (by rw[List.length_cons];omega) q hq
 have e:(c :: R)[0+(i+1)]'(by rw[List.length_cons];omega)=R[i]:=by simp
 rw[e] at this
 exact this
theorem DgO.go {O:List (List Int)}{c to:List Int}(h:DgO ps b O c){R:List (List Int)}(hch:chnF ps c R=true)(hl:(c :: R).getLast?=some to)(hav:∀d ∈ R,AvoidC ps b d):DgO ps b (O ++ R) to:=by
 obtain⟨S,rfl,hS⟩:=h.ex
 refine⟨⟨S ++ R,rfl,chn_app h.last hS hch⟩,?_,fun d hd=>?_⟩
 ·cases R with
  | nil =>
   rw[List.append_nil,h.last]
   exact hl
  | cons r R =>
   rw[List.getLast?_cons_cons] at hl
   rw[List.getLast?_append,hl];rfl
 ·rcases List.mem_append.1 hd with hd|hd
  ·exact h.av d hd
  ·exact hav d hd
theorem DgO.done {O:List (List Int)}(h:DgO ps b O (fullC ps)):DodgeR ps b O:=by
 obtain⟨S,rfl,hS⟩:=h.ex
 exact⟨isrun_mk hS h.last,h.av⟩
end
end Go.AL
end
section
namespace Go.AL
open Go Go.RowKit
set_option maxRecDepth 4000
section
variable {ps:List Pr} (hv:validF ps=true) {l:List (List Int)} (hl:l=cutsF ps)
include hv hl
end
end Go.AL
end
section
namespace Go.AL
open Go Go.RowKit
theorem fits_str (s:ByteArray):(KK.sc .str).fits (.string s)=true:=rfl
attribute [go_sem] fits_str
end Go.AL
end
section
namespace Go.AL
open Go Go.RowKit
set_option maxRecDepth 4000
end Go.AL
end
