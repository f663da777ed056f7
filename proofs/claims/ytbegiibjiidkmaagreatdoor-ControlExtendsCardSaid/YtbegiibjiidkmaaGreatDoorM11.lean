/- Texts of this claim's proof: WV2, WV3, WY5, WY4. No condition. -/
import Derived.Test.YtbegiibjiidkmaaGreatDoorM10
import Derived.Test.YtbegiibjiidkmaaGreatDoorM7
section
namespace Go.AL
open Go Go.RowKit
set_option maxRecDepth 4000
structure SpOk (b:Nat->Bool)(p K:Nat)(l:List Stp):Prop where
 el:∀s ∈ l,s.1=p/\s.2.1<=s.2.2/\s.2.2<K/\∀j,s.2.1<=j->j<=s.2.2->b j=true
 ord:l.Pairwise fun s u=>s.2.2+1<u.2.1
 cov:∀j,j<K->b j=true->∃s ∈ l,s.2.1<=j/\j<=s.2.2
theorem spL_ok (b:Nat->Bool)(p:Nat):∀k,SpOk b p k (spL b p k)
 | 0=>⟨(by rw[spL_zero];intro s h;cases h),(by rw[spL_zero];exact .nil),fun j h=>by omega⟩
 | k+1=>by
  have ih:=spL_ok b p k
  cases h:b k with
  | false =>
   rw[spL_no h]
   refine⟨fun s hs=>?_,ih.ord,fun j hj hb=>?_⟩
   ·obtain⟨h1,h2,h3,h4⟩:=ih.el s hs
    exact⟨h1,h2,by omega,h4⟩
   ·by_cases e:j=k
    ·subst e;rw[h] at hb;cases hb
    ·exact ih.cov j (by omega) hb
  | true =>
   cases h0:decide (0<k) && b (k - 1) with
   | false =>
    rw[spL_new h h0]
    refine⟨fun s hs=>?_,?_,fun j hj hb=>?_⟩
    ·rcases List.mem_append.1 hs with hs|hs
     ·obtain⟨h1,h2,h3,h4⟩:=ih.el s hs
      exact⟨h1,h2,by omega,h4⟩
     ·simp only[List.mem_singleton] at hs;subst hs
      refine⟨rfl,Nat.le_refl _,Nat.lt_succ_self _,fun j h1 h2=>?_⟩
      have:j=k:=Nat.le_antisymm h2 h1
      subst this;exact h
    ·refine List.pairwise_append.2 ⟨ih.ord,List.pairwise_singleton _ _,fun s hs u hu=>?_⟩
     simp only[List.mem_singleton] at hu;subst hu
     obtain⟨h1,h2,h3,h4⟩:=ih.el s hs
     have h5:=h4 s.2.2 h2 (Nat.le_refl _)
     show s.2.2+1<k
     apply Classical.byContradiction;intro h6
     have e:s.2.2=k - 1:=by omega
     rw[e] at h5
     rw[h5,Bool.and_true] at h0
     have:=of_decide_eq_false h0
     omega
    ·by_cases e:j=k
     ·subst e;exact⟨_,List.mem_append_right _ (List.mem_singleton_self _),Nat.le_refl _,Nat.le_refl _⟩
     ·obtain⟨s,hs,h1⟩:=ih.cov j (by omega) hb
      exact⟨s,List.mem_append_left _ hs,h1⟩
   | true =>
    obtain⟨d,f,e1,e2⟩:=spL_on (p:=p) h h0
    rw[e1] at ih
    rw[e2]
    have hk:0<k:=by
     apply Classical.byContradiction;intro h6
     rw[decide_eq_false h6] at h0;cases h0
    have hord:=List.pairwise_append.1 ih.ord
    obtain⟨_,g2,g3,g4⟩:=ih.el (p,f,k - 1) (List.mem_append_right _ (List.mem_singleton_self _))
    have g2:f<=k - 1:=g2
    refine⟨fun s hs=>?_,?_,fun j hj hb=>?_⟩
    ·rcases List.mem_append.1 hs with hs|hs
     ·obtain⟨h1,h2,h3,h4⟩:=ih.el s (List.mem_append_left _ hs)
      exact⟨h1,h2,by omega,h4⟩
     ·simp only[List.mem_singleton] at hs;subst hs
      refine⟨rfl,show f<=k by omega,Nat.lt_succ_self _,fun j h1 h2=>?_⟩
      have h1:f<=j:=h1
      have h2:j<=k:=h2
      by_cases e:j=k
      ·subst e;exact h
      ·exact g4 j h1 (show j<=k - 1 by omega)
    ·refine List.pairwise_append.2 ⟨hord.1,List.pairwise_singleton _ _,fun s hs u hu=>?_⟩
     simp only[List.mem_singleton] at hu;subst hu
     exact hord.2.2 s hs (p,f,k - 1) (List.mem_singleton_self _)
    ·by_cases e:j=k
     ·subst e;exact⟨_,List.mem_append_right _ (List.mem_singleton_self _),show f<=j by omega,Nat.le_refl _⟩
     ·obtain⟨s,hs,h1,h2⟩:=ih.cov j (by omega) hb
      rcases List.mem_append.1 hs with hs|hs
      ·exact⟨s,List.mem_append_left _ hs,h1,h2⟩
      ·simp only[List.mem_singleton] at hs;subst hs
       exact⟨_,List.mem_append_right _ (List.mem_singleton_self _),h1,show j<=k by omega⟩
section
variable {b:Nat->Bool} {p K:Nat} {l:List Stp}
theorem SpOk.lt (h:SpOk b p K l){i j:Nat}(hj:j<l.length)(hij:i<j):(l[i]'(by omega)).2.2+1<l[j].2.1:=List.pairwise_iff_getElem.1 h.ord i j (by omega) hj hij
theorem SpOk.gap (h:SpOk b p K l){i:Nat}(hi:i<l.length){c:Nat}(h0:∀(j:Nat) (hj:j<l.length),j<i->l[j].2.2<c){x:Nat}(hx:c<=x)(hxf:x<l[i].2.1):b x=false:=by
 cases hb:b x with
 | false=>rfl
 | true =>
  obtain⟨_,g2,g3,_⟩:=h.el l[i] (List.getElem_mem hi)
  obtain⟨s,hs,k1,k2⟩:=h.cov x (by omega) hb
  obtain⟨m,hm,rfl⟩:=List.getElem_of_mem hs
  rcases Nat.lt_trichotomy m i with e|e|e
  ·have:=h0 m hm e;omega
  ·subst e;omega
  ·have:=h.lt hm e
   omega
theorem SpOk.past (h:SpOk b p K l){c:Nat}(h0:∀s ∈ l,s.2.2<c){x:Nat}(hx:c<=x)(hxK:x<K):b x=false:=by
 cases hb:b x with
 | false=>rfl
 | true =>
  obtain⟨s,hs,k1,k2⟩:=h.cov x hxK hb
  have:=h0 s hs
  omega
theorem SpOk.first (h:SpOk b p K l)(hK:0<K)(h0:b 0=true):∃(hl:0<l.length),l[0].2.1=0:=by
 obtain⟨s,hs,k1,k2⟩:=h.cov 0 hK h0
 obtain⟨m,hm,rfl⟩:=List.getElem_of_mem hs
 refine⟨by omega,?_⟩
 rcases Nat.eq_zero_or_pos m with e|e
 ·subst e;omega
 ·have:=h.lt hm e
  omega
end
def bgN (ps:List Pr)(a o:Stp):Bool:=decide (a.2.1=0) || (decide (o.2.2=nev ps o.1) || decide ((a.2.1:Int)<=cAt (ptF ps o.1 o.2.2) a.1))
def fSp (rows:Nat->List Stp)(p i:Nat):Stp:=(rows p).getD i (0,0,0)
def lenSp (rows:Nat->List Stp)(p:Nat):Nat:=(rows p).length
abbrev TgtS (ps:List Pr) (rows:Nat->List Stp) (t:Nat->Nat):Prop:=Tgt (bgN ps) (lenSp rows) (fSp rows) ps.length t
abbrev LeastS (ps:List Pr) (rows:Nat->List Stp) (t:Nat->Nat):Prop:=LeastT (bgN ps) (lenSp rows) (fSp rows) ps.length t
def RowsOk (ps:List Pr)(b:Nat->Nat->Bool)(rows:Nat->List Stp):Prop:=∀p,p<ps.length->SpOk (b p) p (nev ps p+1) (rows p)
theorem fSp_eq {rows:Nat->List Stp}{p i:Nat}(h:i<(rows p).length):fSp rows p i=(rows p)[i]:=by
 unfold fSp;rw[List.getD_eq_getElem?_getD,List.getElem?_eq_getElem h,Option.getD_some]
def AvoidC (ps:List Pr)(b:Nat->Nat->Bool)(c:List Int):Prop:=∃p,p<ps.length/\b p (cAt c p).toNat=false
structure DgI (ps:List Pr)(rows:Nat->List Stp)(c:List Int):Prop where
 is:isF ps c=true
 wit:∀i,i<ps.length->cAt c i=0\/∃a,a<ps.length/\∃s ∈ rows a,(s.2.2:Int)<cAt c a/\s.2.2<nev ps a/\cAt c i<=cAt (ptF ps a s.2.2) i
structure Com (ps:List Pr)(rows:Nat->List Stp)(c:List Int)(x:Nat->Nat):Prop where
 lt:∀p,p<ps.length->x p<(rows p).length
 ge:∀p,p<ps.length->cAt c p<=((fSp rows p (x p)).2.2:Int)
 be:∀p,p<ps.length->∀j,j<x p->((fSp rows p j).2.2:Int)<cAt c p
section
variable {ps:List Pr} (hv:validF ps=true)
include hv
theorem pt_trans {a i e j:Nat}(ha:a<ps.length)(he:e<ps.length)(hj:j<nev ps e)(hi:(i:Int)+1<=cAt (ptF ps e j) a):∀q,q<ps.length->cAt (ptF ps a i) q<=cAt (ptF ps e j) q :=
 pt_least hv ha (pt_is hv he (by rw[nev_get he] at hj;exact hj)) hi
theorem pt_self {a i:Nat}(ha:a<ps.length)(hi:i<nev ps a):cAt (ptF ps a i) a=(i:Int)+1:=(irr_pt hv ha (by rw[nev_get ha] at hi;exact hi)).2.1
theorem pt_isN {a i:Nat}(ha:a<ps.length)(hi:i<nev ps a):isF ps (ptF ps a i)=true:=pt_is hv ha (by rw[nev_get ha] at hi;exact hi)
theorem pt_less {a i e j:Nat}(ha:a<ps.length)(he:e<ps.length)(hi:i<nev ps a)(hj:j<nev ps e)(h:∀q,q<ps.length->cAt (ptF ps a i) q<=cAt (ptF ps e j) q)(hlt:cAt (ptF ps a i) e<cAt (ptF ps e j) e):(ptF ps a i).sum<(ptF ps e j).sum:=by
 have h1:=pt_isN hv ha hi
 have h2:=pt_isN hv he hj
 have l1:=(isF_iff.1 h1).1
 have l2:=(isF_iff.1 h2).1
 obtain⟨g1,g2⟩:=leq_sum ((leq_at l1 l2).2 h)
 rcases Int.lt_or_eq_of_le g1 with g|g
 ·exact g
 ·rw[g2 g] at hlt;omega
end
section
variable {ps:List Pr} {b:Nat->Nat->Bool} {rows:Nat->List Stp} (hv:validF ps=true) (hR:RowsOk ps b rows)
include hR
theorem mon_rows:MonB (bgN ps) (lenSp rows) (fSp rows) ps.length:=fun p i j hp hij hj o h=>by
 have hj:j<(rows p).length:=hj
 rw[fSp_eq hj] at h
 rw[fSp_eq (show i<(rows p).length by omega)]
 have e1:=((hR p hp).el _ (List.getElem_mem hj))
 have e2:=((hR p hp).el _ (List.getElem_mem (show i<(rows p).length by omega)))
 have e3:(rows p)[i].2.1<=(rows p)[j].2.1:=by
  rcases Nat.lt_or_eq_of_le hij with e|e
  ·have:=(hR p hp).lt hj e
   omega
  ·subst e;exact Nat.le_refl _
 unfold bgN at h ⊢
 rw[e2.1]
 rw[e1.1] at h
 simp only[Bool.or_eq_true,decide_eq_true_eq] at h ⊢
 rcases h with h|h|h
 ·exact .inl (by omega)
 ·exact .inr (.inl h)
 ·exact .inr (.inr (by omega))
theorem zero_avoid (hT:¬ ∃t,TgtS ps rows t):AvoidC ps b (zeroC ps):=by
 apply Classical.byContradiction
 intro hn
 have hb:∀p,p<ps.length->b p 0=true:=fun p hp=>by
  have h0:cAt (zeroC ps) p=0:=by unfold zeroC;rw[cAt_nat (by simpa using hp)];simp
  cases h:b p 0 with
  | true=>rfl
  | false=>exact absurd ⟨p,hp,by rw[h0];exact h⟩ hn
 refine hT ⟨fun _=>0,fun p hp=>?_,fun p q hp hq hpq=>?_⟩
 ·obtain⟨h1,_⟩:=(hR p hp).first (by omega) (hb p hp)
  exact h1
 ·obtain⟨h1,h2⟩:=(hR p hp).first (by omega) (hb p hp)
  unfold bgN
  rw[fSp_eq h1,h2];rfl
include hv
theorem dg_chain {c:List Int}(I:DgI ps rows c){x:Nat->Nat}(hx:Com ps rows c x):∀(m i:Nat),i<ps.length->0<(fSp rows i (x i)).2.1->((fSp rows i (x i)).2.1:Int)<=cAt c i ->
  off ps ps.length - (ptF ps i ((fSp rows i (x i)).2.1 - 1)).sum.toNat<m->∃a,a<ps.length/\cAt c a<((fSp rows a (x a)).2.1:Int)/\((fSp rows i (x i)).2.1:Int)<=cAt (ptF ps a ((fSp rows a (x a)).2.1 - 1)) i
 | 0,i,hi,_,_,hm=>by omega
 | m+1,i,hi,h0,hle,hm=>by
  obtain⟨li,lr,_⟩:=isF_iff.1 I.is
  have hE:=fun p (hp:p<ps.length)=>(hR p hp).el _ (List.getElem_mem (hx.lt p hp))
  have hF:=fun p (hp:p<ps.length)=>fSp_eq (hx.lt p hp)
  rcases I.wit i hi with h|⟨a,ha,s,hs,s1,s2,s3⟩
  ·omega
  ·obtain⟨j,hj,rfl⟩:=List.getElem_of_mem hs
   have hja:j<x a:=by
    apply Classical.byContradiction
    intro hn
    have g1:=hx.ge a ha
    rw[hF a ha] at g1
    rcases Nat.lt_or_eq_of_le (Nat.le_of_not_lt hn) with e|e
    ·have g2:=(hR a ha).lt hj e
     have g3:=(hR a ha).el _ (List.getElem_mem hj)
     omega
    ·subst e;omega
   have xa:=hx.lt a ha
   have xi:=hx.lt i hi
   have g2:=(hR a ha).lt (hx.lt a ha) hja
   obtain⟨e1,e2,e3,_⟩:=hE a ha
   obtain⟨i1,i2,i3,_⟩:=hE i hi
   have hEa:=hE a ha
   rw[hF i hi] at h0 hle hm ⊢
   have hFa:=hF a ha
   have hN:(rows a)[x a].2.1 - 1<nev ps a:=by omega
   have hself:=pt_self hv ha hN
   have hself2:=pt_self hv ha s2
   have hup:=pt_trans hv (i:=(rows a)[j].2.2) ha ha hN (by rw[hself];omega)
   have k1:=hup i hi
   by_cases hca:cAt c a<((rows a)[x a].2.1:Int)
   ·exact⟨a,ha,by rw[hFa];exact hca,by rw[hFa];omega⟩
   ·have hNi:(rows i)[x i].2.1 - 1<nev ps i:=by omega
    have q1:=pt_trans hv (a:=i) (i:=(rows i)[x i].2.1 - 1) (e:=a) (j:=(rows a)[j].2.2) hi ha s2 (by omega)
    have q2:∀q,q<ps.length->cAt (ptF ps i ((rows i)[x i].2.1 - 1)) q<=cAt (ptF ps a ((rows a)[x a].2.1 - 1)) q:=fun q hq=>Int.le_trans (q1 q hq) (hup q hq)
    have q3:=q1 a ha
    have q4:=pt_less hv hi ha hNi hN q2 (by omega)
    have q5:=sum_le_off (pt_isN hv ha hN)
    have q6:0<=(ptF ps i ((rows i)[x i].2.1 - 1)).sum:=by
     rw[sum_totC (isF_nonneg (pt_isN hv hi hNi))];omega
    obtain⟨d,hd,d1,d2⟩:=dg_chain I hx m a ha (by rw[hFa];omega) (by rw[hFa];omega) (by rw[hFa];omega)
    refine⟨d,hd,d1,?_⟩
    rw[hFa] at d2
    have hdl:=hx.lt d hd
    obtain⟨_,d3,d4,_⟩:=hE d hd
    have hFd:=hF d hd
    rw[hFd] at d1 d2 ⊢
    have hd0:0<=cAt c d:=((inRange_iff li).1 lr d hd).1
    have:=pt_trans hv (a:=a) (i:=(rows a)[x a].2.1 - 1) (e:=d) (j:=(rows d)[x d].2.1 - 1) ha hd (by omega) (by omega) i hi
    omega
theorem dg_tight {c:List Int}(I:DgI ps rows c){x:Nat->Nat}(hx:Com ps rows c x)(hno:∀i k,i<ps.length->k<ps.length->i ≠ k->cAt c i<((fSp rows i (x i)).2.1:Int)->bgN ps (fSp rows i (x i)) (fSp rows k (x k))=true):TgtS ps rows x:=by
 obtain⟨li,lr,_⟩:=isF_iff.1 I.is
 have hE:=fun p (hp:p<ps.length)=>(hR p hp).el _ (List.getElem_mem (hx.lt p hp))
 have hF:=fun p (hp:p<ps.length)=>fSp_eq (hx.lt p hp)
 refine⟨fun p hp=>hx.lt p hp,fun i k hi hk hik=>?_⟩
 by_cases h0:(fSp rows i (x i)).2.1=0
 ·unfold bgN;rw[h0];rfl
 ·by_cases hc:cAt c i<((fSp rows i (x i)).2.1:Int)
  ·exact hno i k hi hk hik hc
  ·obtain⟨a,ha,a1,a2⟩:=dg_chain hv hR I hx _ i hi (by omega) (by omega) (Nat.lt_succ_self _)
   have xi:=hx.lt i hi
   have xk:=hx.lt k hk
   have xa:=hx.lt a ha
   have hFi:=hF i hi
   have hFk:=hF k hk
   have hFa:=hF a ha
   obtain⟨i1,i2,i3,_⟩:=hE i hi
   obtain⟨k1,k2,k3,_⟩:=hE k hk
   obtain⟨e1,e2,e3,_⟩:=hE a ha
   have ha0:0<=cAt c a:=((inRange_iff li).1 lr a ha).1
   have hgoal:(rows k)[x k].2.2=nev ps k\/((rows i)[x i].2.1:Int)<=cAt (ptF ps k (rows k)[x k].2.2) i:=by
    by_cases hke:(rows k)[x k].2.2=nev ps k
    ·exact .inl hke
    ·refine .inr ?_
     rw[hFa] at a1 a2
     rw[hFi] at a2
     by_cases hka:a=k
     ·subst hka
      have hs:=pt_self hv ha (show (rows a)[x a].2.2<nev ps a by omega)
      have:=pt_trans hv (a:=a) (i:=(rows a)[x a].2.1 - 1) (e:=a) (j:=(rows a)[x a].2.2) ha ha (by omega) (by omega) i hi
      omega
     ·have hb:=hno a k ha hk hka (by rw[hFa];exact a1)
      unfold bgN at hb
      rw[hFa,hFk,e1,k1] at hb
      simp only[Bool.or_eq_true,decide_eq_true_eq] at hb
      rcases hb with hb|hb|hb
      ·omega
      ·exact absurd hb hke
      ·have:=pt_trans hv (a:=a) (i:=(rows a)[x a].2.1 - 1) (e:=k) (j:=(rows k)[x k].2.2) ha hk (by omega) (by omega) i hi
       omega
   unfold bgN
   rw[hFi,hFk,i1,k1]
   simp only[Bool.or_eq_true,decide_eq_true_eq]
   exact .inr hgoal
theorem dg_step {c:List Int}(I:DgI ps rows c){x:Nat->Nat}(hx:Com ps rows c x){i k:Nat}(hi:i<ps.length)(hk:k<ps.length)(hc:cAt c i<((fSp rows i (x i)).2.1:Int))(hb:bgN ps (fSp rows i (x i)) (fSp rows k (x k))=false) :
  (fSp rows k (x k)).2.2<nev ps k/\DgI ps rows (joinL c (ptF ps k (fSp rows k (x k)).2.2))/\leqF c (joinL c (ptF ps k (fSp rows k (x k)).2.2))=true/\c.sum<(joinL c (ptF ps k (fSp rows k (x k)).2.2)).sum /\
   ∀d,isF ps d=true->leqF c d=true->leqF d (joinL c (ptF ps k (fSp rows k (x k)).2.2))=true->AvoidC ps b d:=by
 obtain⟨li,lr,_⟩:=isF_iff.1 I.is
 have hE:=fun p (hp:p<ps.length)=>(hR p hp).el _ (List.getElem_mem (hx.lt p hp))
 have hF:=fun p (hp:p<ps.length)=>fSp_eq (hx.lt p hp)
 obtain⟨i1,i2,i3,_⟩:=hE i hi
 obtain⟨k1,k2,k3,_⟩:=hE k hk
 have xi:=hx.lt i hi
 have xk:=hx.lt k hk
 unfold bgN at hb
 have hge:=hx.ge k hk
 have hbe:=hx.be i hi
 rw[hF k hk] at hge
 rw[hF i hi] at hc
 rw[hF i hi,hF k hk,i1,k1] at hb
 simp only[Bool.or_eq_false_iff,decide_eq_false_iff_not] at hb
 obtain⟨b1,b2,b3⟩:=hb
 rw[hF k hk]
 have hN:(rows k)[x k].2.2<nev ps k:=by omega
 have hpi:=pt_isN hv hk hN
 have hps:=pt_self hv hk hN
 have pl:=(isF_iff.1 hpi).1
 have hlen:c.length=(ptF ps k (rows k)[x k].2.2).length:=by omega
 have hmem:=List.getElem_mem (hx.lt k hk)
 generalize hP:ptF ps k (rows k)[x k].2.2=P at *
 have hjl:=join_len hlen
 have hja:∀q:Nat,q<ps.length->cAt (joinL c P) q=if cAt c q<cAt P q then cAt P q else cAt c q:=fun q hq=>join_cAt hlen (by omega)
 have hji:isF ps (joinL c P)=true:=(isF_given hv).1 (join_given ((isF_given hv).2 I.is) ((isF_given hv).2 hpi))
 have hle:leqF c (joinL c P)=true:=(leq_at li (by omega)).2 fun q hq=>by rw[hja q hq];split <;> omega
 refine⟨hN,⟨hji,fun q hq=>?_⟩,hle,?_,fun d hd h1 h2=>⟨i,hi,?_⟩⟩
 ·rw[hja q hq]
  by_cases h:cAt c q<cAt P q
  ·rw[if_pos h]
   refine .inr ⟨k,hk,_,hmem,?_,hN,by rw[hP];exact Int.le_refl _⟩
   rw[hja k hk];split <;> omega
  ·rw[if_neg h]
   rcases I.wit q hq with h1|⟨a,ha,s,hs,s1,s2,s3⟩
   ·exact .inl h1
   ·refine .inr ⟨a,ha,s,hs,?_,s2,s3⟩
    rw[hja a ha];split <;> omega
 ·obtain⟨g1,g2⟩:=leq_sum hle
  rcases Int.lt_or_eq_of_le g1 with g|g
  ·exact g
  ·have:=hja k hk
   rw[<- g2 g,if_pos (by omega)] at this
   omega
 ·have ld:=(isF_iff.1 hd).1
  have q1:=(leq_at li ld).1 h1 i hi
  have q2:=(leq_at ld (by omega)).1 h2 i hi
  rw[hja i hi] at q2
  have q0:0<=cAt c i:=((inRange_iff li).1 lr i hi).1
  have q3:cAt d i<((rows i)[x i].2.1:Int):=by
   split at q2 <;> omega
  refine(hR i hi).gap (hx.lt i hi) (c:=(cAt c i).toNat) (fun j hj hji=>?_) (x:=(cAt d i).toNat) (by omega) (by omega)
  have:=hbe j hji
  rw[fSp_eq hj] at this
  omega
omit hv in
theorem dg_end {c:List Int}(hc:isF ps c=true){p:Nat}(hp:p<ps.length)(h:∀s ∈ rows p,(s.2.2:Int)<cAt c p):∀d,isF ps d=true->leqF c d=true->AvoidC ps b d:=fun d hd hle=>by
 obtain⟨lc,rc,_⟩:=isF_iff.1 hc
 obtain⟨ld,rd,_⟩:=isF_iff.1 hd
 have q1:=(leq_at lc ld).1 hle p hp
 have q2:=(inRange_iff lc).1 rc p hp
 have q3:=(inRange_iff ld).1 rd p hp
 refine⟨p,hp,(hR p hp).past (c:=(cAt c p).toNat) (fun s hs=>?_) (by omega) ?_⟩
 ·have:=h s hs
  omega
 ·rw[nev_get hp];omega
omit hv hR in
theorem dg_zero:DgI ps rows (zeroC ps):=⟨zeroC_is ps,fun i hi=>.inl (by unfold zeroC;rw[cAt_nat (by simpa using hi)];simp)⟩
end
section
variable {ps:List Pr} (hv:validF ps=true)
include hv
end
theorem down_count {P:Nat->Bool} : ∀N,(∀i j,i<=j->j<N->P j=true->P i=true)->((List.range N).filter P).length<=N/\∀i,i<N->(i<((List.range N).filter P).length↔P i=true)
 | 0,_=>⟨Nat.le_refl _,fun i hi=>by omega⟩
 | N+1,h=>by
  obtain⟨g1,g2⟩:=down_count N fun i j h1 h2=>h i j h1 (by omega)
  rw[List.range_succ,List.filter_append,List.length_append]
  cases hN:P N with
  | true =>
   have e:(List.range N).filter P=List.range N:=List.filter_eq_self.2 fun i hi=>h i N (by have:=List.mem_range.1 hi;omega) (by omega) hN
   rw[e,List.filter_cons_of_pos hN,List.length_range]
   refine⟨Nat.le_refl _,fun i hi=>⟨fun _=>h i N (by omega) (by omega) hN,fun _=>by simpa using hi⟩⟩
  | false =>
   rw[List.filter_cons_of_neg (by rw[hN];decide),List.filter_nil,List.length_nil,Nat.add_zero]
   refine⟨by omega,fun i hi=>?_⟩
   by_cases e:i=N
   ·subst e;rw[hN];exact⟨fun h=>by omega,fun h=>by cases h⟩
   ·exact g2 i (by omega)
section
variable {ps:List Pr} (hv:validF ps=true)
include hv
end
open Classical in
noncomputable def tgtO (ps:List Pr)(rows:Nat->List Stp):Option (Nat->Nat):=if h:∃a,LeastS ps rows a then some (Classical.choose h) else none
theorem tgtO_some {ps:List Pr}{rows:Nat->List Stp}{a:Nat->Nat}(h:LeastS ps rows a):∃a',tgtO ps rows=some a'/\∀p,p<ps.length->a' p=a p:=by
 have hx:∃a,LeastS ps rows a:=⟨a,h⟩
 refine⟨Classical.choose hx,by unfold tgtO;rw[dif_pos hx],fun p hp=>least_unique (Classical.choose_spec hx) h hp⟩
theorem tgtO_none {ps:List Pr}{rows:Nat->List Stp}(h:¬ ∃t,TgtS ps rows t):tgtO ps rows=none:=by
 unfold tgtO
 rw[dif_neg fun ⟨a,ha⟩=>h ⟨a,ha.1⟩]
def chcL (n:Nat)(rows:Nat->List Stp)(a:Nat->Nat):List Stp:=(List.range n).map fun p=>fSp rows p (a p)
theorem chcL_len (n:Nat)(rows:Nat->List Stp)(a:Nat->Nat):(chcL n rows a).length=n:=by simp [chcL]
theorem chcL_congr {n:Nat}{rows:Nat->List Stp}{a b:Nat->Nat}(h:∀p,p<n->a p=b p):chcL n rows a=chcL n rows b:=List.map_congr_left fun p hp=>by rw[h p (List.mem_range.1 hp)]
structure DodgeR (ps:List Pr)(b:Nat->Nat->Bool)(R:List (List Int)):Prop where
 run:isRunF ps R=true
 av:∀d ∈ R,AvoidC ps b d
structure DgO (ps:List Pr)(b:Nat->Nat->Bool)(O:List (List Int))(c:List Int):Prop where
 ex:∃R,O=zeroC ps :: R/\chnF ps (zeroC ps) R=true
 last:O.getLast?=some c
 av:∀d ∈ O,AvoidC ps b d
section
variable {ps:List Pr} (hv:validF ps=true) {b:Nat->Nat->Bool}
theorem chn_last {ps:List Pr} : ∀ {R:List (List Int)} {c d:List Int},isF ps c=true->chnF ps c R=true->(c :: R).getLast?=some d->isF ps d=true/\d.sum=c.sum+R.length
 | [],c,d,hc,_,h=>by
  have:c=d:=Option.some.inj h
  subst this;exact⟨hc,by simp⟩
 | e :: R,c,d,hc,h,hl=>by
  obtain⟨q,h1,h2,rfl,h4,h5⟩:=(chn_cons hc).1 h
  rw[List.getLast?_cons_cons] at hl
  obtain⟨g1,g2⟩:=chn_last (rdy_is h2) h5 hl
  refine⟨g1,?_⟩
  rw[g2,sum_stpC (by rw[(isF_iff.1 hc).1];exact h1),List.length_cons]
  omega
theorem DgO.is {O:List (List Int)}{c:List Int}(h:DgO ps b O c):isF ps c=true/\c.sum+1=O.length:=by
 obtain⟨R,rfl,hch⟩:=h.ex
 obtain⟨g1,g2⟩:=chn_last (zeroC_is ps) hch h.last
 have h0:(zeroC ps).sum=0:=by unfold zeroC;simp
 rw[List.length_cons]
 exact⟨g1,by omega⟩
theorem DgO.start (h:AvoidC ps b (zeroC ps)):DgO ps b [zeroC ps] (zeroC ps):=⟨⟨[],rfl,rfl⟩,rfl,fun d hd=>by simp only[List.mem_singleton] at hd;subst hd;exact h⟩
include hv in
theorem wlk_go {c to:List Int}(hc:isF ps c=true)(ht:isF ps to=true)(hle:leqF c to=true):∃R,wlkR ps (fun d=>leqF d to) (to.sum - c.sum).toNat c=some R/\chnF ps c R=true/\(c :: R).getLast?=some to/\(c.sum+R.length=to.sum) /\
  ∀d ∈ R,isF ps d=true/\leqF c d=true/\leqF d to=true:=by
 have hs:=(leq_sum hle).1
 obtain⟨R,h1,h2,h3,h4⟩:=wlk_to hv ht (to.sum - c.sum).toNat c hc hle (by omega)
 have h5:=(wlk_chn hc h1).1
 refine⟨R,h1,h5,h4,by omega,fun d hd=>⟨(h3 d hd).1,?_,(h3 d hd).2⟩⟩
 obtain⟨i,hi,rfl⟩:=List.getElem_of_mem hd
 have hlc:=(isF_iff.1 hc).1
 refine(leq_at hlc (isF_iff.1 (h3 _ hd).1).1).2 fun q hq=>?_
 have:=chn_mono hc h5 (i:=0) (by simp) (i+1) (by rw[List.length_cons];omega) q hq
 have e:(c :: R)[0+(i+1)]'(by rw[List.length_cons];omega)=R[i]:=by simp
 rw[e] at this
 exact this
theorem DgO.go {O:List (List Int)}{c to:List Int}(h:DgO ps b O c){R:List (List Int)}(hch:chnF ps c R=true)(hl:(c :: R).getLast?=some to)(hav:∀d ∈ R,AvoidC ps b d):DgO ps b (O ++ R) to:=by
 obtain⟨S,rfl,hS⟩:=h.ex
 refine⟨⟨S ++ R,rfl,chn_app h.last hS hch⟩,?_,fun d hd=>?_⟩
 ·cases R with
  | nil =>
   rw[List.append_nil,h.last]
   exact hl
  | cons r R =>
   rw[List.getLast?_cons_cons] at hl
   rw[List.getLast?_append,hl];rfl
 ·rcases List.mem_append.1 hd with hd|hd
  ·exact h.av d hd
  ·exact hav d hd
theorem DgO.done {O:List (List Int)}(h:DgO ps b O (fullC ps)):DodgeR ps b O:=by
 obtain⟨S,rfl,hS⟩:=h.ex
 exact⟨isrun_mk hS h.last,h.av⟩
end
end Go.AL
end
section
namespace Go.AL
open Go Go.RowKit
set_option maxRecDepth 4000
def EvX (ps:List Pr)(y:Eid):Prop:=0<=y.1/\y.1<ps.length/\1<=y.2/\y.2<=nev ps y.1.toNat
def DirR (ps:List Pr)(l:List Syn)(x y:Eid):Prop:=EvX ps y/\x ∈ dirX ps l y.1.toNat (y.2.toNat - 1)
abbrev RchX (ps:List Pr) (l:List Syn):Eid->Eid->Prop:=Relation.TransGen (DirR ps l)
theorem evx_form {ps:List Pr}{y:Eid}(h:EvX ps y):∃p i:Nat,p<ps.length/\i<nev ps p/\y=((p:Int),(i:Int)+1):=by
 obtain⟨a,b⟩:=y
 obtain⟨h1,h2,h3,h4⟩:=h
 refine⟨a.toNat,b.toNat - 1,?_,?_,?_⟩
 ·have h2:a<ps.length:=h2
  have h1:0<=a:=h1
  omega
 ·have h4:b<=nev ps a.toNat:=h4
  have h3:1<=b:=h3
  omega
 ·have h1:0<=a:=h1
  have h3:1<=b:=h3
  rw[Prod.mk.injEq];omega
theorem dir_mk {ps:List Pr}{l:List Syn}{p i:Nat}(hp:p<ps.length)(hi:i<nev ps p){x:Eid}(hx:x ∈ dirX ps l p i):DirR ps l x ((p:Int),(i:Int)+1):=by
 have e:((i:Int)+1).toNat - 1=i:=by omega
 refine⟨⟨by show (0:Int)<=(p:Int);omega,by show (p:Int)<_;omega,by show (1:Int)<=(i:Int)+1;omega,by show (i:Int)+1<=nev ps ((p:Int)).toNat;rw[Int.toNat_natCast];omega⟩,?_⟩
 show x ∈ dirX ps l ((p:Int)).toNat (((i:Int)+1).toNat - 1)
 rw[Int.toNat_natCast,e];exact hx
theorem dir_iff {ps:List Pr}{l:List Syn}{p i:Nat}{x:Eid}(h:DirR ps l x ((p:Int),(i:Int)+1)):p<ps.length/\i<nev ps p/\x ∈ dirX ps l p i:=by
 obtain⟨⟨_,h2,_,h4⟩,h5⟩:=h
 have e:((i:Int)+1).toNat - 1=i:=by omega
 have h2:(p:Int)<ps.length:=h2
 have h4:(i:Int)+1<=nev ps ((p:Int)).toNat:=h4
 have h5:x ∈ dirX ps l ((p:Int)).toNat (((i:Int)+1).toNat - 1):=h5
 rw[Int.toNat_natCast] at h4 h5
 rw[e] at h5
 exact⟨by omega,by omega,h5⟩
theorem clo_dir {ps:List Pr}{l:List Syn}{d:Nat->Int}(h:CloX ps l d){x y:Eid}(hd:DirR ps l x y)(hy:y.2<=d y.1.toNat):x.2<=d x.1.toNat:=by
 obtain⟨p,i,hp,hi,rfl⟩:=evx_form hd.1
 obtain⟨_,_,hx⟩:=dir_iff hd
 exact h p hp i hi (by simpa using hy) x hx
theorem clo_rch {ps:List Pr}{l:List Syn}{d:Nat->Int}(h:CloX ps l d){x y:Eid}(hr:RchX ps l x y):y.2<=d y.1.toNat->x.2<=d x.1.toNat:=by
 induction hr with
 | single hd=>exact clo_dir h hd
 | tail _ hd ih=>exact fun hy=>ih (clo_dir h hd hy)
section
variable {ps:List Pr} {l:List Syn} {S:Nat->List (List Int)} (hv:validF ps=true) (hl:SynOk ps l) (hG:GenX ps l S)
include hv hl hG
theorem rch_entry {x:Eid}{p k:Nat}(hp:p<ps.length)(hk:k<(S p).length)(hr:RchX ps l x ((p:Int),(k:Int))):x.2<=(stOf S p k).getD x.1.toNat 0:=by
 have hst:=hG.st hv hl p k hk
 refine clo_rch hst.clo hr ?_
 show (k:Int)<=(stOf S p k).getD ((p:Int)).toNat 0
 rw[Int.toNat_natCast,hst.own hp];exact Int.le_refl _
open Classical in
theorem entry_rch {x:Eid}(hx:EvX ps x){p i:Nat}(hp:p<ps.length)(hi:i<nev ps p)(hk:i+1<(S p).length)(h:x.2<=(stOf S p (i+1)).getD x.1.toNat 0):x=((p:Int),(i:Int)+1)\/RchX ps l x ((p:Int),(i:Int)+1):=by
 let y:Eid:=((p:Int),(i:Int)+1)
 let RE:Eid->Prop:=fun z=>z=y\/RchX ps l z y
 have hRE:∀z w,DirR ps l z w->RE w->RE z:=fun z w hd hw=>by
  rcases hw with rfl|hw
  ·exact .inr (.single hd)
  ·exact .inr (Relation.TransGen.trans (.single hd) hw)
 let P:Nat->Nat->Bool:=fun q j=>decide (RE ((q:Int),(j:Int)+1))
 have hdown:∀q,∀i j,i<=j->j<(if q<ps.length then nev ps q else 0)->P q j=true->P q i=true:=fun q i j hij=>by
  induction j with
  | zero=>intro _ h;have:i=0:=by omega
          subst this;exact h
  | succ j ih =>
   intro hj h
   by_cases e:i=j+1
   ·subst e;exact h
   ·refine ih (by omega) (by omega) ?_
    split at hj
    ·rename_i hq
     refine decide_eq_true (hRE _ _ (dir_mk (l:=l) hq hj ?_) (of_decide_eq_true h))
     unfold dirX dirE
     rw[if_pos (by omega)]
     simp
    ·omega
 let d:Nat->Int:=fun q=>(((List.range (if q<ps.length then nev ps q else 0)).filter (P q)).length:Nat)
 have hcnt:=fun q=>(down_count (P:=P q) (if q<ps.length then nev ps q else 0) (hdown q)).2
 have hle:=fun q=>(down_count (P:=P q) (if q<ps.length then nev ps q else 0) (hdown q)).1
 have hd:CloX ps l d:=fun a ha j hj hdj z hz=>by
  have hPa:P a j=true:=(hcnt a j (by rw[if_pos ha];exact hj)).1 (by have hdj:(j:Int)+1<=(((List.range (if a<ps.length then nev ps a else 0)).filter (P a)).length:Nat):=hdj;omega)
  have hRz:=hRE _ _ (dir_mk (l:=l) ha hj hz) (of_decide_eq_true hPa)
  obtain⟨z1,z2,z3,z4⟩:=dirX_ev hv hl ha hj z hz
  obtain⟨u,w,hu,hw,rfl⟩:=evx_form ⟨z1,z2,z3,z4⟩
  have:=(hcnt u w (by rw[if_pos hu];exact hw)).2 (decide_eq_true hRz)
  show (w:Int)+1<=d ((u:Int)).toNat
  rw[Int.toNat_natCast]
  show (w:Int)+1<=(((List.range (if u<ps.length then nev ps u else 0)).filter (P u)).length:Nat)
  omega
 have hst:=hG.st hv hl p (i+1) hk
 have hself:=(hcnt p i (by rw[if_pos hp];exact hi)).2 (decide_eq_true (.inl rfl))
 have h2:=hst.least d hd (fun j=>Int.natCast_nonneg _) (by
  show ((i+1:Nat):Int)<=(((List.range (if p<ps.length then nev ps p else 0)).filter (P p)).length:Nat)
  omega) x.1.toNat
 obtain⟨u,w,hu,hw,rfl⟩:=evx_form hx
 have h3:(w:Int)+1<=d u:=by
  have h:(w:Int)+1<=(stOf S p (i+1)).getD ((u:Int)).toNat 0:=h
  have h2:(stOf S p (i+1)).getD ((u:Int)).toNat 0<=d ((u:Int)).toNat:=h2
  rw[Int.toNat_natCast] at h h2
  exact Int.le_trans h h2
 have h3:(w:Int)+1<=(((List.range (if u<ps.length then nev ps u else 0)).filter (P u)).length:Nat):=h3
 have:=(hcnt u w (by rw[if_pos hu];exact hw)).1 (by omega)
 exact of_decide_eq_true this
theorem entry_less:∀p k,1<=k->k<(S p).length->∀y ∈ dirX ps l p (k - 1),(nedX S y).getD p 0<(k:Int):=by
 induction hG with
 | init=>intro p k h1 h2;simp at h2;omega
 | @step S r h hr ih =>
  intro p k h1 h2 y hy
  by_cases hold:k<(S p).length
  ·obtain⟨_,_,h3,_⟩:=h.entry p k h1 hold
   have e:nedX (upS S r (vecX ps l S r (S r).length)) y=nedX S y:=upS_old (h3 y hy)
   rw[e]
   exact ih p k h1 hold y hy
  ·rw[upS_len] at h2
   by_cases e:p=r
   ·subst e
    rw[if_pos rfl] at h2
    have hke:k=(S p).length:=by omega
    subst hke
    have e:nedX (upS S p (vecX ps l S p (S p).length)) y=nedX S y:=upS_old (hr.2.2 y hy)
    rw[e]
    exact(h.st hv hl y.1.toNat y.2.toNat (hr.2.2 y hy)).le p
   ·rw[if_neg e] at h2;omega
theorem whl_acyc (hW:WhlX ps S){x:Eid}(h:RchX ps l x x):False:=by
 have key:∀ {x y:Eid},RchX ps l x y->∃z,DirR ps l z y/\(x=z\/RchX ps l x z):=fun {x y} h=>by
  cases h with
  | single h=>exact⟨x,h,.inl rfl⟩
  | tail h1 h2=>exact⟨_,h2,.inr h1⟩
 obtain⟨z,hz,h1⟩:=key h
 obtain⟨p,i,hp,hi,rfl⟩:=evx_form hz.1
 obtain⟨_,_,hm⟩:=dir_iff hz
 have hlen:=hW p hp
 have h2:=entry_less hv hl hG p (i+1) (by omega) (by omega) z (by rw[Nat.add_sub_cancel];exact hm)
 obtain⟨z1,z2,z3,z4⟩:=dirX_ev hv hl hp hi z hm
 obtain⟨u,w,hu,hw,rfl⟩:=evx_form ⟨z1,z2,z3,z4⟩
 have hlu:=hW u hu
 have e:nedX S ((u:Int),(w:Int)+1)=stOf S u (w+1):=by
  unfold nedX
  rw[Int.toNat_natCast]
  congr 1
 rw[e] at h2
 have h3:(i:Int)+1<=(stOf S u (w+1)).getD p 0:=by
  rcases h1 with h1|h1
  ·rw[Prod.mk.injEq] at h1
   have:p=u:=by omega
   subst this
   rw[(hG.st hv hl p (w+1) (by omega)).own hp]
   omega
  ·have:=rch_entry hv hl hG hu (k:=w+1) (by omega) (x:=((p:Int),(i:Int)+1)) (by rw[show ((w+1:Nat):Int)=(w:Int)+1 by omega];exact h1)
   simpa using this
 omega
end
def wstep (k:Nat)(f:Nat->Nat->Bool):Nat->Nat->Bool:=fun i j=>f i j || (f i k && f k j)
def warF:Nat->(Nat->Nat->Bool)->Nat->Nat->Bool
 | 0,f=>f
 | k+1,f=>wstep k (warF k f)
inductive PthK (f:Nat->Nat->Bool)(k:Nat):Nat->Nat->Prop
 | one {i j:Nat} : f i j=true->PthK f k i j
 | cons {i m j:Nat} : f i m=true->m<k->PthK f k m j->PthK f k i j
theorem PthK.mono {f:Nat->Nat->Bool}{k k':Nat}(h:k<=k'){i j:Nat}(p:PthK f k i j):PthK f k' i j:=by
 induction p with
 | one h1=>exact .one h1
 | cons h1 h2 _ ih=>exact .cons h1 (by omega) ih
theorem PthK.app {f:Nat->Nat->Bool}{k i m j:Nat}(p:PthK f k i m)(hm:m<k)(q:PthK f k m j):PthK f k i j:=by
 induction p with
 | one h1=>exact .cons h1 hm q
 | cons h1 h2 _ ih=>exact .cons h1 h2 (ih hm q)
theorem war_iff {f:Nat->Nat->Bool} : ∀ {k i j:Nat},warF k f i j=true↔PthK f k i j
 | 0,i,j=>by
  constructor
  ·exact .one
  ·intro p
   cases p with
   | one h=>exact h
   | cons _ h _=>omega
 | k+1,i,j=>by
  show (warF k f i j || (warF k f i k && warF k f k j))=true↔_
  rw[Bool.or_eq_true,Bool.and_eq_true,war_iff,war_iff,war_iff]
  constructor
  ·rintro(h|⟨h1,h2⟩)
   ·exact h.mono (Nat.le_succ k)
   ·exact(h1.mono (Nat.le_succ k)).app (Nat.lt_succ_self k) (h2.mono (Nat.le_succ k))
  ·intro p
   induction p with
   | one h=>exact .inl (.one h)
   | @cons i m j h1 h2 _ ih =>
    by_cases e:m=k
    ·subst e
     rcases ih with h|⟨_,h⟩
     ·exact .inr ⟨.one h1,h⟩
     ·exact .inr ⟨.one h1,h⟩
    ·have hm:m<k:=by omega
     rcases ih with h|⟨g1,g2⟩
     ·exact .inl (.cons h1 hm h)
     ·exact .inr ⟨.cons h1 hm g1,g2⟩
theorem war_trans {f:Nat->Nat->Bool}{n:Nat}(hf:∀i j,f i j=true->i<n/\j<n){i j:Nat} : warF n f i j=true↔Relation.TransGen (fun a b=>f a b=true) i j:=by
 rw[war_iff]
 constructor
 ·intro p
  induction p with
  | one h=>exact .single h
  | cons h1 _ _ ih=>exact Relation.TransGen.trans (.single h1) ih
 ·intro t
  induction t with
  | single h=>exact .one h
  | tail _ h ih=>exact ih.app (hf _ _ h).1 (.one h)
end Go.AL
end
