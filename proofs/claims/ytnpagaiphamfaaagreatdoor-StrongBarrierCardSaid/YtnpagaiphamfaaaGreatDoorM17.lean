/- Texts of this claim's proof: WV2, WV3, WQc, WQf, WQg. No condition. -/
import Derived.Test.YtnpagaiphamfaaaGreatDoorM4
import Derived.Test.YtnpagaiphamfaaaGreatDoorM10
import Derived.Test.YtnpagaiphamfaaaGreatDoorM16
import Derived.Test.YtnpagaiphamfaaaGreatDoorM7
import Derived.Test.YtnpagaiphamfaaaGreatDoorM14
section
namespace Go.AL
open Go Go.RowKit
set_option maxRecDepth 4000
structure SpOk (b:Nat→Bool) (p K:Nat) (l:List Stp):Prop where
 el:∀s ∈ l,s.1=p∧s.2.1≤s.2.2∧s.2.2<K∧∀j,s.2.1≤j→j≤s.2.2→b j=true
 ord:l.Pairwise fun s u=>s.2.2+1<u.2.1
 cov:∀j,j<K→b j=true→∃s ∈ l,s.2.1≤j∧j≤s.2.2
theorem spL_ok (b:Nat→Bool) (p:Nat):∀k,SpOk b p k (spL b p k)
 | 0=>⟨(by rw[spL_zero];intro s h;cases h),(by rw[spL_zero];exact .nil),fun j h=>by omega⟩
 | k+1=>by
  have ih:=spL_ok b p k
  cases h:b k with
  | false =>
   rw[spL_no h]
   refine⟨fun s hs => ?_,ih.ord,fun j hj hb => ?_⟩
   ·obtain⟨h1,h2,h3,h4⟩:=ih.el s hs
    exact⟨h1,h2,by omega,h4⟩
   ·by_cases e:j=k
    ·subst e;rw[h] at hb;cases hb
    ·exact ih.cov j (by omega) hb
  | true =>
   cases h0:decide (0<k) && b (k - 1) with
   | false =>
    rw[spL_new h h0]
    refine⟨fun s hs => ?_,?_,fun j hj hb => ?_⟩
    ·rcases List.mem_append.1 hs with hs|hs
     ·obtain⟨h1,h2,h3,h4⟩:=ih.el s hs
      exact⟨h1,h2,by omega,h4⟩
     ·simp only[List.mem_singleton] at hs;subst hs
      refine⟨rfl,Nat.le_refl _,Nat.lt_succ_self _,fun j h1 h2 => ?_⟩
      have:j=k:=Nat.le_antisymm h2 h1
      subst this;exact h
    ·refine List.pairwise_append.2 ⟨ih.ord,List.pairwise_singleton _ _,fun s hs u hu => ?_⟩
     simp only[List.mem_singleton] at hu;subst hu
     obtain⟨h1,h2,h3,h4⟩:=ih.el s hs
     have h5:=h4 s.2.2 h2 (Nat.le_refl _)
     show s.2.2+1<k
     apply Classical.byContradiction;intro h6
     have e:s.2.2=k - 1:=by omega
     rw[e] at h5
     rw[h5,Bool.and_true] at h0
     have:=of_decide_eq_false h0
     omega
    ·by_cases e:j=k
     ·subst e;exact⟨_,List.mem_append_right _ (List.mem_singleton_self _),Nat.le_refl _,Nat.le_refl _⟩
     ·obtain⟨s,hs,h1⟩:=ih.cov j (by omega) hb
      exact⟨s,List.mem_append_left _ hs,h1⟩
   | true =>
    obtain⟨d,f,e1,e2⟩:=spL_on (p:=p) h h0
    rw[e1] at ih
    rw[e2]
    have hk:0<k:=by
     apply Classical.byContradiction;intro h6
     rw[decide_eq_false h6] at h0;cases h0
    have hord:=List.pairwise_append.1 ih.ord
    obtain⟨_,g2,g3,g4⟩:=ih.el (p,f,k - 1) (List.mem_append_right _ (List.mem_singleton_self _))
    have g2:f≤k - 1:=g2
    refine⟨fun s hs => ?_,?_,fun j hj hb => ?_⟩
    ·rcases List.mem_append.1 hs with hs|hs
     ·obtain⟨h1,h2,h3,h4⟩:=ih.el s (List.mem_append_left _ hs)
      exact⟨h1,h2,by omega,h4⟩
     ·simp only[List.mem_singleton] at hs;subst hs
      refine⟨rfl,show f≤k by omega,Nat.lt_succ_self _,fun j h1 h2 => ?_⟩
      have h1:f≤j:=h1
      have h2:j≤k:=h2
      by_cases e:j=k
      ·subst e;exact h
      ·exact g4 j h1 (show j≤k - 1 by omega)
    ·refine List.pairwise_append.2 ⟨hord.1,List.pairwise_singleton _ _,fun s hs u hu => ?_⟩
     simp only[List.mem_singleton] at hu;subst hu
     exact hord.2.2 s hs (p,f,k - 1) (List.mem_singleton_self _)
    ·by_cases e:j=k
     ·subst e;exact⟨_,List.mem_append_right _ (List.mem_singleton_self _),show f≤j by omega,Nat.le_refl _⟩
     ·obtain⟨s,hs,h1,h2⟩:=ih.cov j (by omega) hb
      rcases List.mem_append.1 hs with hs|hs
      ·exact⟨s,List.mem_append_left _ hs,h1,h2⟩
      ·simp only[List.mem_singleton] at hs;subst hs
       exact⟨_,List.mem_append_right _ (List.mem_singleton_self _),h1,show j≤k by omega⟩
section
variable {b:Nat→Bool} {p K:Nat} {l:List Stp}
theorem SpOk.lt (h:SpOk b p K l) {i j:Nat} (hj:j<l.length) (hij:i<j):(l[i]'(by omega)).2.2+1<l[j].2.1:=List.pairwise_iff_getElem.1 h.ord i j (by omega) hj hij
theorem SpOk.gap (h:SpOk b p K l) {i:Nat} (hi:i<l.length) {c:Nat} (h0:∀(j:Nat) (hj:j<l.length),j<i→l[j].2.2<c) {x:Nat} (hx:c≤x) (hxf:x<l[i].2.1):b x=false:=by
 cases hb:b x with
 | false=>rfl
 | true =>
  obtain⟨_,g2,g3,_⟩:=h.el l[i] (List.getElem_mem hi)
  obtain⟨s,hs,k1,k2⟩:=h.cov x (by omega) hb
  obtain⟨m,hm,rfl⟩:=List.getElem_of_mem hs
  rcases Nat.lt_trichotomy m i with e|e|e
  ·have:=h0 m hm e;omega
  ·subst e;omega
  ·have:=h.lt hm e
   omega
theorem SpOk.past (h:SpOk b p K l) {c:Nat} (h0:∀s ∈ l,s.2.2<c) {x:Nat} (hx:c≤x) (hxK:x<K):b x=false:=by
 cases hb:b x with
 | false=>rfl
 | true =>
  obtain⟨s,hs,k1,k2⟩:=h.cov x hxK hb
  have:=h0 s hs
  omega
theorem SpOk.first (h:SpOk b p K l) (hK:0<K) (h0:b 0=true):∃(hl:0<l.length),l[0].2.1=0:=by
 obtain⟨s,hs,k1,k2⟩:=h.cov 0 hK h0
 obtain⟨m,hm,rfl⟩:=List.getElem_of_mem hs
 refine⟨by omega,?_⟩
 rcases Nat.eq_zero_or_pos m with e|e
 ·subst e;omega
 ·have:=h.lt hm e
  omega
end
def bgN (ps:List Pr) (a o:Stp):Bool:=decide (a.2.1=0) || (decide (o.2.2=nev ps o.1) || decide ((a.2.1:Int)≤cAt (ptF ps o.1 o.2.2) a.1))
def fSp (rows:Nat→List Stp) (p i:Nat):Stp:=(rows p).getD i (0,0,0)
def lenSp (rows:Nat→List Stp) (p:Nat):Nat:=(rows p).length
abbrev TgtS (ps:List Pr) (rows:Nat→List Stp) (t:Nat→Nat):Prop:=Tgt (bgN ps) (lenSp rows) (fSp rows) ps.length t
abbrev LeastS (ps:List Pr) (rows:Nat→List Stp) (t:Nat→Nat):Prop:=LeastT (bgN ps) (lenSp rows) (fSp rows) ps.length t
def RowsOk (ps:List Pr) (b:Nat→Nat→Bool) (rows:Nat→List Stp):Prop:=∀p,p<ps.length→SpOk (b p) p (nev ps p+1) (rows p)
theorem fSp_eq {rows:Nat→List Stp} {p i:Nat} (h:i<(rows p).length):fSp rows p i=(rows p)[i]:=by
 unfold fSp;rw[List.getD_eq_getElem?_getD,List.getElem?_eq_getElem h,Option.getD_some]
def AvoidC (ps:List Pr) (b:Nat→Nat→Bool) (c:List Int):Prop:=∃p,p<ps.length∧b p (cAt c p).toNat=false
structure DgI (ps:List Pr) (rows:Nat→List Stp) (c:List Int):Prop where
 is:isF ps c=true
 wit:∀i,i<ps.length→cAt c i=0∨∃a,a<ps.length∧∃s ∈ rows a,(s.2.2:Int)<cAt c a∧s.2.2<nev ps a∧cAt c i≤cAt (ptF ps a s.2.2) i
structure Com (ps:List Pr) (rows:Nat→List Stp) (c:List Int) (x:Nat→Nat):Prop where
 lt:∀p,p<ps.length→x p<(rows p).length
 ge:∀p,p<ps.length→cAt c p≤((fSp rows p (x p)).2.2:Int)
 be:∀p,p<ps.length→∀j,j<x p→((fSp rows p j).2.2:Int)<cAt c p
section
variable {ps:List Pr} (hv:validF ps=true)
include hv
theorem pt_trans {a i e j:Nat} (ha:a<ps.length) (he:e<ps.length) (hj:j<nev ps e) (hi:(i:Int)+1≤cAt (ptF ps e j) a):∀q,q<ps.length→cAt (ptF ps a i) q≤cAt (ptF ps e j) q :=
 pt_least hv ha (pt_is hv he (by rw[nev_get he] at hj;exact hj)) hi
theorem pt_self {a i:Nat} (ha:a<ps.length) (hi:i<nev ps a):cAt (ptF ps a i) a=(i:Int)+1:=(irr_pt hv ha (by rw[nev_get ha] at hi;exact hi)).2.1
theorem pt_isN {a i:Nat} (ha:a<ps.length) (hi:i<nev ps a):isF ps (ptF ps a i)=true:=pt_is hv ha (by rw[nev_get ha] at hi;exact hi)
theorem pt_less {a i e j:Nat} (ha:a<ps.length) (he:e<ps.length) (hi:i<nev ps a) (hj:j<nev ps e) (h:∀q,q<ps.length→cAt (ptF ps a i) q≤cAt (ptF ps e j) q) (hlt:cAt (ptF ps a i) e<cAt (ptF ps e j) e):(ptF ps a i).sum<(ptF ps e j).sum:=by
 have h1:=pt_isN hv ha hi
 have h2:=pt_isN hv he hj
 have l1:=(isF_iff.1 h1).1
 have l2:=(isF_iff.1 h2).1
 obtain⟨g1,g2⟩:=leq_sum ((leq_at l1 l2).2 h)
 rcases Int.lt_or_eq_of_le g1 with g|g
 ·exact g
 ·rw[g2 g] at hlt;omega
end
section
variable {ps:List Pr} {b:Nat→Nat→Bool} {rows:Nat→List Stp} (hv:validF ps=true) (hR:RowsOk ps b rows)
include hR
theorem mon_rows:MonB (bgN ps) (lenSp rows) (fSp rows) ps.length:=fun p i j hp hij hj o h=>by
 have hj:j<(rows p).length:=hj
 rw[fSp_eq hj] at h
 rw[fSp_eq (show i<(rows p).length by omega)]
 have e1:=((hR p hp).el _ (List.getElem_mem hj))
 have e2:=((hR p hp).el _ (List.getElem_mem (show i<(rows p).length by omega)))
 have e3:(rows p)[i].2.1≤(rows p)[j].2.1:=by
  rcases Nat.lt_or_eq_of_le hij with e|e
  ·have:=(hR p hp).lt hj e
   omega
  ·subst e;exact Nat.le_refl _
 unfold bgN at h ⊢
 rw[e2.1]
 rw[e1.1] at h
 simp only[Bool.or_eq_true,decide_eq_true_eq] at h ⊢
 rcases h with h|h|h
 ·exact .inl (by omega)
 ·exact .inr (.inl h)
 ·exact .inr (.inr (by omega))
theorem zero_avoid (hT:¬ ∃t,TgtS ps rows t):AvoidC ps b (zeroC ps):=by
 apply Classical.byContradiction
 intro hn
 have hb:∀p,p<ps.length→b p 0=true:=fun p hp=>by
  have h0:cAt (zeroC ps) p=0:=by unfold zeroC;rw[cAt_nat (by simpa using hp)];simp
  cases h:b p 0 with
  | true=>rfl
  | false=>exact absurd ⟨p,hp,by rw[h0];exact h⟩ hn
 refine hT ⟨fun _=>0,fun p hp => ?_,fun p q hp hq hpq => ?_⟩
 ·obtain⟨h1,_⟩:=(hR p hp).first (by omega) (hb p hp)
  exact h1
 ·obtain⟨h1,h2⟩:=(hR p hp).first (by omega) (hb p hp)
  unfold bgN
  rw[fSp_eq h1,h2];rfl
include hv
theorem dg_chain {c:List Int} (I:DgI ps rows c) {x:Nat→Nat} (hx:Com ps rows c x):∀(m i:Nat),i<ps.length→0<(fSp rows i (x i)).2.1→((fSp rows i (x i)).2.1:Int)≤cAt c i →
  off ps ps.length - (ptF ps i ((fSp rows i (x i)).2.1 - 1)).sum.toNat<m→∃a,a<ps.length∧cAt c a<((fSp rows a (x a)).2.1:Int)∧((fSp rows i (x i)).2.1:Int)≤cAt (ptF ps a ((fSp rows a (x a)).2.1 - 1)) i
 | 0,i,hi,_,_,hm=>by omega
 | m+1,i,hi,h0,hle,hm=>by
  obtain⟨li,lr,_⟩:=isF_iff.1 I.is
  have hE:=fun p (hp:p<ps.length)=>(hR p hp).el _ (List.getElem_mem (hx.lt p hp))
  have hF:=fun p (hp:p<ps.length)=>fSp_eq (hx.lt p hp)
  rcases I.wit i hi with h|⟨a,ha,s,hs,s1,s2,s3⟩
  ·omega
  ·obtain⟨j,hj,rfl⟩:=List.getElem_of_mem hs
   have hja:j<x a:=by
    apply Classical.byContradiction
    intro hn
    have g1:=hx.ge a ha
    rw[hF a ha] at g1
    rcases Nat.lt_or_eq_of_le (Nat.le_of_not_lt hn) with e|e
    ·have g2:=(hR a ha).lt hj e
     have g3:=(hR a ha).el _ (List.getElem_mem hj)
     omega
    ·subst e;omega
   have xa:=hx.lt a ha
   have xi:=hx.lt i hi
   have g2:=(hR a ha).lt (hx.lt a ha) hja
   obtain⟨e1,e2,e3,_⟩:=hE a ha
   obtain⟨i1,i2,i3,_⟩:=hE i hi
   have hEa:=hE a ha
   rw[hF i hi] at h0 hle hm ⊢
   have hFa:=hF a ha
   have hN:(rows a)[x a].2.1 - 1<nev ps a:=by omega
   have hself:=pt_self hv ha hN
   have hself2:=pt_self hv ha s2
   have hup:=pt_trans hv (i:=(rows a)[j].2.2) ha ha hN (by rw[hself];omega)
   have k1:=hup i hi
   by_cases hca:cAt c a<((rows a)[x a].2.1:Int)
   ·exact⟨a,ha,by rw[hFa];exact hca,by rw[hFa];omega⟩
   ·have hNi:(rows i)[x i].2.1 - 1<nev ps i:=by omega
    have q1:=pt_trans hv (a:=i) (i:=(rows i)[x i].2.1 - 1) (e:=a) (j:=(rows a)[j].2.2) hi ha s2 (by omega)
    have q2:∀q,q<ps.length→cAt (ptF ps i ((rows i)[x i].2.1 - 1)) q≤cAt (ptF ps a ((rows a)[x a].2.1 - 1)) q:=fun q hq=>Int.le_trans (q1 q hq) (hup q hq)
    have q3:=q1 a ha
    have q4:=pt_less hv hi ha hNi hN q2 (by omega)
    have q5:=sum_le_off (pt_isN hv ha hN)
    have q6:0≤(ptF ps i ((rows i)[x i].2.1 - 1)).sum:=by
     rw[sum_totC (isF_nonneg (pt_isN hv hi hNi))];omega
    obtain⟨d,hd,d1,d2⟩:=dg_chain I hx m a ha (by rw[hFa];omega) (by rw[hFa];omega) (by rw[hFa];omega)
    refine⟨d,hd,d1,?_⟩
    rw[hFa] at d2
    have hdl:=hx.lt d hd
    obtain⟨_,d3,d4,_⟩:=hE d hd
    have hFd:=hF d hd
    rw[hFd] at d1 d2 ⊢
    have hd0:0≤cAt c d:=((inRange_iff li).1 lr d hd).1
    have:=pt_trans hv (a:=a) (i:=(rows a)[x a].2.1 - 1) (e:=d) (j:=(rows d)[x d].2.1 - 1) ha hd (by omega) (by omega) i hi
    omega
theorem dg_tight {c:List Int} (I:DgI ps rows c) {x:Nat→Nat} (hx:Com ps rows c x) (hno:∀i k,i<ps.length→k<ps.length→i ≠ k→cAt c i<((fSp rows i (x i)).2.1:Int)→bgN ps (fSp rows i (x i)) (fSp rows k (x k))=true):TgtS ps rows x:=by
 obtain⟨li,lr,_⟩:=isF_iff.1 I.is
 have hE:=fun p (hp:p<ps.length)=>(hR p hp).el _ (List.getElem_mem (hx.lt p hp))
 have hF:=fun p (hp:p<ps.length)=>fSp_eq (hx.lt p hp)
 refine⟨fun p hp=>hx.lt p hp,fun i k hi hk hik => ?_⟩
 by_cases h0:(fSp rows i (x i)).2.1=0
 ·unfold bgN;rw[h0];rfl
 ·by_cases hc:cAt c i<((fSp rows i (x i)).2.1:Int)
  ·exact hno i k hi hk hik hc
  ·obtain⟨a,ha,a1,a2⟩:=dg_chain hv hR I hx _ i hi (by omega) (by omega) (Nat.lt_succ_self _)
   have xi:=hx.lt i hi
   have xk:=hx.lt k hk
   have xa:=hx.lt a ha
   have hFi:=hF i hi
   have hFk:=hF k hk
   have hFa:=hF a ha
   obtain⟨i1,i2,i3,_⟩:=hE i hi
   obtain⟨k1,k2,k3,_⟩:=hE k hk
   obtain⟨e1,e2,e3,_⟩:=hE a ha
   have ha0:0≤cAt c a:=((inRange_iff li).1 lr a ha).1
   have hgoal:(rows k)[x k].2.2=nev ps k∨((rows i)[x i].2.1:Int)≤cAt (ptF ps k (rows k)[x k].2.2) i:=by
    by_cases hke:(rows k)[x k].2.2=nev ps k
    ·exact .inl hke
    ·refine .inr ?_
     rw[hFa] at a1 a2
     rw[hFi] at a2
     by_cases hka:a=k
     ·subst hka
      have hs:=pt_self hv ha (show (rows a)[x a].2.2<nev ps a by omega)
      have:=pt_trans hv (a:=a) (i:=(rows a)[x a].2.1 - 1) (e:=a) (j:=(rows a)[x a].2.2) ha ha (by omega) (by omega) i hi
      omega
     ·have hb:=hno a k ha hk hka (by rw[hFa];exact a1)
      unfold bgN at hb
      rw[hFa,hFk,e1,k1] at hb
      simp only[Bool.or_eq_true,decide_eq_true_eq] at hb
      rcases hb with hb|hb|hb
      ·omega
      ·exact absurd hb hke
      ·have:=pt_trans hv (a:=a) (i:=(rows a)[x a].2.1 - 1) (e:=k) (j:=(rows k)[x k].2.2) ha hk (by omega) (by omega) i hi
       omega
   unfold bgN
   rw[hFi,hFk,i1,k1]
   simp only[Bool.or_eq_true,decide_eq_true_eq]
   exact .inr hgoal
theorem dg_step {c:List Int} (I:DgI ps rows c) {x:Nat→Nat} (hx:Com ps rows c x) {i k:Nat} (hi:i<ps.length) (hk:k<ps.length) (hc:cAt c i<((fSp rows i (x i)).2.1:Int)) (hb:bgN ps (fSp rows i (x i)) (fSp rows k (x k))=false) :
  (fSp rows k (x k)).2.2<nev ps k∧DgI ps rows (joinL c (ptF ps k (fSp rows k (x k)).2.2))∧leqF c (joinL c (ptF ps k (fSp rows k (x k)).2.2))=true∧c.sum<(joinL c (ptF ps k (fSp rows k (x k)).2.2)).sum ∧
   ∀d,isF ps d=true→leqF c d=true→leqF d (joinL c (ptF ps k (fSp rows k (x k)).2.2))=true→AvoidC ps b d:=by
 obtain⟨li,lr,_⟩:=isF_iff.1 I.is
 have hE:=fun p (hp:p<ps.length)=>(hR p hp).el _ (List.getElem_mem (hx.lt p hp))
 have hF:=fun p (hp:p<ps.length)=>fSp_eq (hx.lt p hp)
 obtain⟨i1,i2,i3,_⟩:=hE i hi
 obtain⟨k1,k2,k3,_⟩:=hE k hk
 have xi:=hx.lt i hi
 have xk:=hx.lt k hk
 unfold bgN at hb
 have hge:=hx.ge k hk
 have hbe:=hx.be i hi
 rw[hF k hk] at hge
 rw[hF i hi] at hc
 rw[hF i hi,hF k hk,i1,k1] at hb
 simp only[Bool.or_eq_false_iff,decide_eq_false_iff_not] at hb
 obtain⟨b1,b2,b3⟩:=hb
 rw[hF k hk]
 have hN:(rows k)[x k].2.2<nev ps k:=by omega
 have hpi:=pt_isN hv hk hN
 have hps:=pt_self hv hk hN
 have pl:=(isF_iff.1 hpi).1
 have hlen:c.length=(ptF ps k (rows k)[x k].2.2).length:=by omega
 have hmem:=List.getElem_mem (hx.lt k hk)
 generalize hP:ptF ps k (rows k)[x k].2.2=P at *
 have hjl:=join_len hlen
 have hja:∀q:Nat,q<ps.length→cAt (joinL c P) q=if cAt c q<cAt P q then cAt P q else cAt c q:=fun q hq=>join_cAt hlen (by omega)
 have hji:isF ps (joinL c P)=true:=(isF_given hv).1 (join_given ((isF_given hv).2 I.is) ((isF_given hv).2 hpi))
 have hle:leqF c (joinL c P)=true:=(leq_at li (by omega)).2 fun q hq=>by rw[hja q hq];split <;> omega
 refine⟨hN,⟨hji,fun q hq => ?_⟩,hle,?_,fun d hd h1 h2=>⟨i,hi,?_⟩⟩
 ·rw[hja q hq]
  by_cases h:cAt c q<cAt P q
  ·rw[if_pos h]
   refine .inr ⟨k,hk,_,hmem,?_,hN,by rw[hP];exact Int.le_refl _⟩
   rw[hja k hk];split <;> omega
  ·rw[if_neg h]
   rcases I.wit q hq with h1|⟨a,ha,s,hs,s1,s2,s3⟩
   ·exact .inl h1
   ·refine .inr ⟨a,ha,s,hs,?_,s2,s3⟩
    rw[hja a ha];split <;> omega
 ·obtain⟨g1,g2⟩:=leq_sum hle
  rcases Int.lt_or_eq_of_le g1 with g|g
  ·exact g
  ·have:=hja k hk
   rw[← g2 g,if_pos (by omega)] at this
   omega
 ·have ld:=(isF_iff.1 hd).1
  have q1:=(leq_at li ld).1 h1 i hi
  have q2:=(leq_at ld (by omega)).1 h2 i hi
  rw[hja i hi] at q2
  have q0:0≤cAt c i:=((inRange_iff li).1 lr i hi).1
  have q3:cAt d i<((rows i)[x i].2.1:Int):=by
   split at q2 <;> omega
  refine(hR i hi).gap (hx.lt i hi) (c:=(cAt c i).toNat) (fun j hj hji => ?_) (x:=(cAt d i).toNat) (by omega) (by omega)
  have:=hbe j hji
  rw[fSp_eq hj] at this
  omega
omit hv in
theorem dg_end {c:List Int} (hc:isF ps c=true) {p:Nat} (hp:p<ps.length) (h:∀s ∈ rows p,(s.2.2:Int)<cAt c p):∀d,isF ps d=true→leqF c d=true→AvoidC ps b d:=fun d hd hle=>by
 obtain⟨lc,rc,_⟩:=isF_iff.1 hc
 obtain⟨ld,rd,_⟩:=isF_iff.1 hd
 have q1:=(leq_at lc ld).1 hle p hp
 have q2:=(inRange_iff lc).1 rc p hp
 have q3:=(inRange_iff ld).1 rd p hp
 refine⟨p,hp,(hR p hp).past (c:=(cAt c p).toNat) (fun s hs => ?_) (by omega) ?_⟩
 ·have:=h s hs
  omega
 ·rw[nev_get hp];omega
omit hv hR in
theorem dg_zero:DgI ps rows (zeroC ps):=⟨zeroC_is ps,fun i hi => .inl (by unfold zeroC;rw[cAt_nat (by simpa using hi)];simp)⟩
end
section
variable {ps:List Pr} (hv:validF ps=true)
include hv
end
section
variable {ps:List Pr} (hv:validF ps=true)
include hv
end
open Classical in
noncomputable def tgtO (ps:List Pr) (rows:Nat→List Stp):Option (Nat→Nat):=if h:∃a,LeastS ps rows a then some (Classical.choose h) else none
theorem tgtO_some {ps:List Pr} {rows:Nat→List Stp} {a:Nat→Nat} (h:LeastS ps rows a):∃a',tgtO ps rows=some a'∧∀p,p<ps.length→a' p=a p:=by
 have hx:∃a,LeastS ps rows a:=⟨a,h⟩
 refine⟨Classical.choose hx,by unfold tgtO;rw[dif_pos hx],fun p hp=>least_unique (Classical.choose_spec hx) h hp⟩
theorem tgtO_none {ps:List Pr} {rows:Nat→List Stp} (h:¬ ∃t,TgtS ps rows t):tgtO ps rows=none:=by
 unfold tgtO
 rw[dif_neg fun ⟨a,ha⟩=>h ⟨a,ha.1⟩]
def chcL (n:Nat) (rows:Nat→List Stp) (a:Nat→Nat):List Stp:=(List.range n).map fun p=>fSp rows p (a p)
theorem chcL_len (n:Nat) (rows:Nat→List Stp) (a:Nat→Nat):(chcL n rows a).length=n:=by simp [chcL]
theorem chcL_congr {n:Nat} {rows:Nat→List Stp} {a b:Nat→Nat} (h:∀p,p<n→a p=b p):chcL n rows a=chcL n rows b:=List.map_congr_left fun p hp=>by rw[h p (List.mem_range.1 hp)]
theorem chcL_get {n:Nat} {rows:Nat→List Stp} {a:Nat→Nat} {p:Nat} (hp:p<(chcL n rows a).length):(chcL n rows a)[p]=fSp rows p (a p):=by simp [chcL]
structure DodgeR (ps:List Pr) (b:Nat→Nat→Bool) (R:List (List Int)):Prop where
 run:isRunF ps R=true
 av:∀d ∈ R,AvoidC ps b d
structure DgO (ps:List Pr) (b:Nat→Nat→Bool) (O:List (List Int)) (c:List Int):Prop where
 ex:∃R,O=zeroC ps :: R∧chnF ps (zeroC ps) R=true
 last:O.getLast?=some c
 av:∀d ∈ O,AvoidC ps b d
section
variable {ps:List Pr} (hv:validF ps=true) {b:Nat→Nat→Bool}
theorem chn_last {ps:List Pr} : ∀ {R:List (List Int)} {c d:List Int},isF ps c=true→chnF ps c R=true→(c :: R).getLast?=some d→isF ps d=true∧d.sum=c.sum+R.length
 | [],c,d,hc,_,h=>by
  have:c=d:=Option.some.inj h
  subst this;exact⟨hc,by simp⟩
 | e :: R,c,d,hc,h,hl=>by
  obtain⟨q,h1,h2,rfl,h4,h5⟩:=(chn_cons hc).1 h
  rw[List.getLast?_cons_cons] at hl
  obtain⟨g1,g2⟩:=chn_last (rdy_is h2) h5 hl
  refine⟨g1,?_⟩
  rw[g2,sum_stpC (by rw[(isF_iff.1 hc).1];exact h1),List.length_cons]
  omega
theorem DgO.is {O:List (List Int)} {c:List Int} (h:DgO ps b O c):isF ps c=true∧c.sum+1=O.length:=by
 obtain⟨R,rfl,hch⟩:=h.ex
 obtain⟨g1,g2⟩:=chn_last (zeroC_is ps) hch h.last
 have h0:(zeroC ps).sum=0:=by unfold zeroC;simp
 rw[List.length_cons]
 exact⟨g1,by omega⟩
theorem DgO.start (h:AvoidC ps b (zeroC ps)):DgO ps b [zeroC ps] (zeroC ps):=⟨⟨[],rfl,rfl⟩,rfl,fun d hd=>by simp only[List.mem_singleton] at hd;subst hd;exact h⟩
include hv in
theorem wlk_go {c to:List Int} (hc:isF ps c=true) (ht:isF ps to=true) (hle:leqF c to=true):∃R,wlkR ps (fun d=>leqF d to) (to.sum - c.sum).toNat c=some R∧chnF ps c R=true∧(c :: R).getLast?=some to∧(c.sum+R.length=to.sum) ∧
  ∀d ∈ R,isF ps d=true∧leqF c d=true∧leqF d to=true:=by
 have hs:=(leq_sum hle).1
 obtain⟨R,h1,h2,h3,h4⟩:=wlk_to hv ht (to.sum - c.sum).toNat c hc hle (by omega)
 have h5:=(wlk_chn hc h1).1
 refine⟨R,h1,h5,h4,by omega,fun d hd=>⟨(h3 d hd).1,?_,(h3 d hd).2⟩⟩
 obtain⟨i,hi,rfl⟩:=List.getElem_of_mem hd
 have hlc:=(isF_iff.1 hc).1
 refine(leq_at hlc (isF_iff.1 (h3 _ hd).1).1).2 fun q hq => ?_
 have:=chn_mono hc h5 (i:=0) (by simp) (i+1) (by rw[List.length_cons];omega) q hq
 have e:(c :: R)[0+(i+1)]'(by rw[List.length_cons];omega)=R[i]:=by simp
 rw[e] at this
 exact this
theorem DgO.go {O:List (List Int)} {c to:List Int} (h:DgO ps b O c) {R:List (List Int)} (hch:chnF ps c R=true) (hl:(c :: R).getLast?=some to) (hav:∀d ∈ R,AvoidC ps b d):DgO ps b (O ++ R) to:=by
 obtain⟨S,rfl,hS⟩:=h.ex
 refine⟨⟨S ++ R,rfl,chn_app h.last hS hch⟩,?_,fun d hd => ?_⟩
 ·cases R with
  | nil =>
   rw[List.append_nil,h.last]
   exact hl
  | cons r R =>
   rw[List.getLast?_cons_cons] at hl
   rw[List.getLast?_append,hl];rfl
 ·rcases List.mem_append.1 hd with hd|hd
  ·exact h.av d hd
  ·exact hav d hd
theorem DgO.done {O:List (List Int)} (h:DgO ps b O (fullC ps)):DodgeR ps b O:=by
 obtain⟨S,rfl,hS⟩:=h.ex
 exact⟨isrun_mk hS h.last,h.av⟩
end
end Go.AL
end
section
namespace Go.AL
open Go Go.RowKit
set_option maxRecDepth 4000
def enF (ps:List Pr) (c:List Int) (k:Nat):List Nat:=(List.range k).filter (rdyF ps c)
theorem enF_succ (ps:List Pr) (c:List Int) (k:Nat):enF ps c (k+1)=enF ps c k ++ if rdyF ps c k=true then [k] else []:=by
 unfold enF
 rw[List.range_succ,List.filter_append,List.filter_cons]
 split <;> rfl
theorem mem_enF {ps:List Pr} {c:List Int} {k p:Nat} : p ∈ enF ps c k↔p<k∧rdyF ps c p=true:=by unfold enF;rw[List.mem_filter,List.mem_range]
theorem enF_len (ps:List Pr) (c:List Int) (k:Nat):(enF ps c k).length≤k:=by
 have:=List.length_filter_le (rdyF ps c) (List.range k)
 rw[List.length_range] at this;exact this
def wayT (ps:List Pr):Nat→List Int→Nat
 | 0,_=>1
 | n+1,c=>((enF ps c c.length).map fun p=>wayT ps n (stpC c p)).sum
theorem en_sum {ps:List Pr} {c:List Int} (hc:isF ps c=true) {k p:Nat} (hk:k≤c.length) (hp:p ∈ enF ps c k):isF ps (stpC c p)=true∧(stpC c p).sum=c.sum+1∧c.sum<off ps ps.length∧0≤c.sum:=by
 obtain⟨h1,h2⟩:=mem_enF.1 hp
 have h3:=rdy_is h2
 have h4:(stpC c p).sum=c.sum+1:=sum_stpC (by omega)
 have h5:=sum_le_off h3
 have h6:=sum_nonneg c (isF_nonneg hc)
 exact⟨h3,h4,by omega,h6⟩
def idxN (l:List (List Int)) (c:List Int):Nat:=(idxF l c).toNat
section
variable {ps:List Pr} (hv:validF ps=true) {l:List (List Int)} (hl:l=cutsF ps)
include hv hl
theorem idx_step {i:Nat} (hi:i<l.length) {p:Nat} (hp:p ∈ enF ps l[i] l[i].length):i<idxN l (stpC l[i] p)∧∃h:idxN l (stpC l[i] p)<l.length,l[idxN l (stpC l[i] p)]=stpC l[i] p:=by
 have ho:l.Pairwise ordL:=by rw[hl];exact cuts_ord hv
 have hm:∀c,c ∈ l↔isF ps c=true:=fun c=>by rw[hl];exact mem_cutsF hv
 obtain⟨h1,h2,_,_⟩:=en_sum ((hm _).1 (List.getElem_mem hi)) (Nat.le_refl _) hp
 obtain⟨j,hj,e⟩:=List.getElem_of_mem ((hm _).2 h1)
 have hx:=idx_get ho hj
 rw[e] at hx
 have hj2:idxN l (stpC l[i] p)=j:=by unfold idxN;rw[hx];rfl
 rw[hj2]
 refine⟨?_,hj,e⟩
 rcases Nat.lt_or_ge i j with h|h
 ·exact h
 ·exfalso
  rcases Nat.lt_or_ge j i with h3|h3
  ·rcases ord_get ho hj hi h3 with h4|⟨h4,_⟩
   ·rw[e] at h4;omega
   ·rw[e] at h4;omega
  ·have:i=j:=by omega
   subst this
   have:=congrArg List.sum e
   omega
theorem lst_len0:0<l.length:=by
 have:zeroC ps ∈ l:=by rw[hl];exact(mem_cutsF hv).2 (zeroC_is ps)
 exact List.length_pos_of_mem this
theorem lst_last:l.getD (l.length - 1) []=fullC ps:=by
 have ho:l.Pairwise ordL:=by rw[hl];exact cuts_ord hv
 have hm:∀c,c ∈ l↔isF ps c=true:=fun c=>by rw[hl];exact mem_cutsF hv
 have h0:=lst_len0 hv hl
 have h1:l.length - 1<l.length:=by omega
 rw[List.getD_eq_getElem?_getD,List.getElem?_eq_getElem h1]
 obtain⟨j,hj,e⟩:=List.getElem_of_mem ((hm _).2 (fullC_is hv))
 show l[l.length - 1]=fullC ps
 have:=idx_leq ho h1 hj (by rw[e];exact leq_full ((hm _).1 (List.getElem_mem h1)))
 have hj2:j=l.length - 1:=by omega
 subst hj2;exact e
end
def opnT (ps:List Pr) (bad:List Int→Bool):Nat→List Int→Bool
 | 0,c => !bad c
 | n+1,c => !bad c && (enF ps c c.length).any fun p=>opnT ps bad n (stpC c p)
def opnV (ps:List Pr) (bad:List Int→Bool) (c:List Int):Bool:=opnT ps bad (off ps ps.length - c.sum.toNat) c
theorem opnV_full {ps:List Pr} {bad:List Int→Bool} {c:List Int} (h:c.sum=off ps ps.length):opnV ps bad c = !bad c:=by
 unfold opnV
 rw[h,show off ps ps.length - ((off ps ps.length:Nat):Int).toNat=0 by omega]
 rfl
theorem any_congr' {α:Type} {f g:α→Bool} : ∀ {l:List α},(∀x ∈ l,f x=g x)→l.any f=l.any g
 | [],_=>rfl
 | x :: l,h=>by rw[List.any_cons,List.any_cons,h x (by simp),any_congr' fun y hy=>h y (List.mem_cons_of_mem _ hy)]
theorem opnV_stp {ps:List Pr} {bad:List Int→Bool} {c:List Int} (hc:isF ps c=true) (h:c.sum<off ps ps.length):opnV ps bad c=(!bad c && (enF ps c c.length).any fun p=>opnV ps bad (stpC c p)):=by
 have h6:=sum_nonneg c (isF_nonneg hc)
 have e:off ps ps.length - c.sum.toNat=(off ps ps.length - (c.sum.toNat+1))+1:=by omega
 unfold opnV
 rw[e]
 show (!bad c && (enF ps c c.length).any fun p=>opnT ps bad _ (stpC c p))=_
 congr 1
 refine any_congr' fun p hp => ?_
 obtain⟨_,h4,_,_⟩:=en_sum hc (Nat.le_refl _) hp
 rw[h4,show (c.sum+1).toNat=c.sum.toNat+1 by omega]
def aRs (ps:List Pr):AV:=.rp 2 [.agg [.sl 3 (ps.map aPr),.sl 1 (aNeeds ps ps)]] 0 0
theorem run_sender1 (f e:Ev):PC Proofs.Tryz.prog 140 [aEv f,.rp 5 [aEv e] 0 0] (ab (decide (f.kind=2) && decide (f.msg=e.msg))):=by
 refine PC.enter 14 [.tmp 3] [2] Proofs.Tryz.func140 rfl rfl rfl rfl rfl (by simp) (AWp.of ?_);simp only[go_sem]
 refine Wk ?_
 refine ret_eq ?_;simp only[go_sem]
theorem run_sender (ps:List Pr) (hs:Sm ps) (hv:validF ps=true) (p:Nat) (hp:p<ps.length) (i:Nat) (hi:i<ps[p].evs.length) (hk:ps[p].evs[i].kind=3):PC Proofs.Tryz.prog 106 [aTr ps,aEv ps[p].evs[i]] (.tup [aEid (sndr ps ps[p].evs[i].msg),ab true]):=by
 have hm:=(valid_parts hv).2.2
 obtain⟨hq,j,hj,hsd,h1,h2⟩:=recv_peer hm hp hi hk
 have hpr:0≤ps[p].evs[i].peer:=by
  have:=(evF_parts hp hi).1 (evF_of_valid hv hp hi)
  exact(formed_msg this.1 (.inr hk)).2.2.1
 have hix:ps[ps[p].evs[i].peer.toNat].evs.findIdx? (fun f=>decide (f.kind=2) && decide (f.msg=ps[p].evs[i].msg))=some j:=by
  rw[List.findIdx?_eq_some_iff_getElem]
  refine⟨hj,by rw[h1,h2];simp,fun k hkj h => ?_⟩
  simp only[Bool.and_eq_true,decide_eq_true_eq] at h
  have g1:=valid_unique hv hq hj h1
  have g2:=valid_unique hv hq (i:=k) (by omega) h.1
  rw[h2] at g1
  rw[h.2,g1] at g2
  have:=(Prod.mk.inj g2).2
  omega
 have hel:=hs.evs _ (List.getElem_mem hq)
 have hir:=events_indexFunc ps[ps[p].evs[i].peer.toNat].evs hel (.clo 140 [.rp 5 [aEv ps[p].evs[i]] 0 0]) rfl _ fun f _=>(run_sender1 f ps[p].evs[i]).clo
 rw[hix] at hir
 rw[hsd]
 have hgp:=getD_map (f:=aPr) hq
 have e1:((ps[p].evs[i].peer.toNat:Nat):Int)=ps[p].evs[i].peer:=by omega
 rw[e1]
 generalize ps[ps[p].evs[i].peer.toNat]=y at *
 generalize ps[p].evs[i]=e at *
 refine PC.enter 23 [.cell 4 104,.tmp 5] [2,3] Proofs.Tryz.func106 rfl rfl rfl rfl rfl (by simp) (AWp.of ?_);simp only[go_sem]
 intro b4
 refine W1 hgp ?_
 refine Sd ?_
 refine(hir).val.use ?_;simp only[go_sem]
 have z0:(0:Int)≤(j:Int):=by omega
 refine W1 z0 ?_
 refine ret_eq ?_;simp only[go_sem]
def rsL (ps:List Pr) (b p:Nat) (L:AHeap):Prop :=
 (p=0∧L=[(b,.row 160 2 [.agg [.sl 3 (ps.map aPr),anil]] 1)]) ∨
 ∃c cap,(¬c=b∧¬b=c)∧L=[(c,.row 161 1 (aNeeds ps (ps.take p)) cap),(b,.row 160 2 [.agg [.sl 3 (ps.map aPr),.ls c 1 0 p cap]] 1)]
theorem run_open (ps:List Pr) (hs:Sm ps) (hv:validF ps=true):PC Proofs.Tryz.prog 60 [aTr ps] (aRs ps):=by
 obtain⟨hl1,hl8⟩:=valid_len hv
 refine PC.enter 53 [.tmp 2] [1,5,8,9,38,47] Proofs.Tryz.func60 rfl rfl rfl rfl rfl (by simp) (AWp.of ?_);simp only[go_sem]
 refine Wk ?_
 intro b3
 refine Wk ?_
 refine AWp.range' ps.length [] [1,3,14,15] (fun p vs L=>vs=[]∧rsL ps b3 p L) (by omega) rfl rfl rfl ⟨rfl,.inl ⟨rfl,rfl⟩⟩ ?_ ?_
 ·rintro p vs L hp - ⟨rfl,hL⟩
  have hgp:=getD_map (f:=aPr) hp
  simp only[go_sem]
  refine W1 hgp ?_
  intro b5 g5
  have hel:=hs.evs _ (List.getElem_mem hp)
  refine Sd ?_
  refine AWp.of ?_;simp only[go_sem]
  refine AWp.cutF [1,3,6,14,15,16] (fun vs L1=>∃v,AppSt 104 2 ((ps[p].evs.map (needE ps)).map aEid) v L1 ∧
   vs=[.rp 1 [aTr ps] 0 0,.lp b3 2 0 0,v,aPrs ps,ai (ps.length:Nat),ai (p:Nat)]) ?_ ?_
  ·refine Wk ?_
   refine AWp.range' ps[p].evs.length [6] [1,3,14,15,16,21,22] (fun i vs L=>∃v,vs=[v]∧AppSt 104 2 (((ps[p].evs.take i).map (needE ps)).map aEid) v L) (by omega) rfl rfl rfl ⟨anil,rfl,by rw[List.take_zero];exact .nil⟩ ?_ ?_
   ·rintro i vs L hi - ⟨v,rfl,hA⟩
    have hge:=getD_map (f:=aEv) hi
    have hne:needE ps ps[p].evs[i]=if ps[p].evs[i].kind=3 then sndr ps ps[p].evs[i].msg else (0,0):=rfl
    have hsn:=fun hk=>run_sender ps hs hv p hp i hi hk
    have htk:((ps[p].evs.take (i+1)).map (needE ps)).map aEid=((ps[p].evs.take i).map (needE ps)).map aEid ++ [aEid (needE ps ps[p].evs[i])]:=by
     rw[List.take_succ_eq_append_getElem hi,List.map_append,List.map_append];rfl
    have hyl:(((ps[p].evs.take i).map (needE ps)).map aEid).length=i:=by simp;omega
    rw[htk]
    generalize ((ps[p].evs.take i).map (needE ps)).map aEid=ys at *
    generalize needE ps ps[p].evs[i]=ne at *
    generalize ps[p].evs[i]=ev at *
    rcases hA.inv with ⟨e1,rfl,rfl⟩|⟨bq,capq,rfl,rfl⟩
    ·simp only[go_sem]
     refine W1 hge ?_
     intro b8
     refine Wk ?_
     intro b9
     refine Wk ?_
     refine⟨fun h3 => ?_,fun h3 => ?_⟩
     ·rw[if_pos h3] at hne
      subst hne
      have hsn:=hsn h3
      generalize sndr ps ev.msg=sx at *
      obtain⟨s1,s2⟩:=sx
      refine Sd ?_
      refine(hsn).val.use ?_;simp only[go_sem]
      refine Wk ?_
      intro b' cap' hc'
      exact⟨_,List.cons_sublist_cons.2 (List.nil_sublist _),_,rfl,by rw[e1];exact .row b' [_] cap'⟩
     ·rw[if_neg h3] at hne
      subst hne
      refine Wk ?_
      intro b' cap' g' hc'
      exact⟨_,List.cons_sublist_cons.2 (List.nil_sublist _),_,rfl,by rw[e1];exact .row b' [_] cap'⟩
    ·simp only[go_sem]
     refine W1 hge ?_
     intro b8 g8
     refine Wk ?_
     intro b9 g9
     have n3:¬b9=bq:=by omega
     have n4:¬bq=b9:=by omega
     refine W2 n3 n4 ?_
     refine⟨fun h3 => ?_,fun h3 => ?_⟩
     ·rw[if_pos h3] at hne
      subst hne
      have hsn:=hsn h3
      generalize sndr ps ev.msg=sx at *
      obtain⟨s1,s2⟩:=sx
      refine Sd ?_
      refine(hsn).val.use ?_;simp only[go_sem]
      refine W2 n3 n4 ?_
      intro b' cap' hc'
      exact⟨_,List.cons_sublist_cons.2 (List.nil_sublist _),_,rfl,AppSt.snoc b' cap' _ rfl⟩
     ·rw[if_neg h3] at hne
      subst hne
      refine W2 n3 n4 ?_
      intro b' cap' g' hc'
      exact⟨_,List.cons_sublist_cons.2 (List.nil_sublist _),_,rfl,AppSt.snoc b' cap' _ rfl⟩
   ·rintro vs L - ⟨v,rfl,hA⟩
    rw[List.take_length] at hA
    simp only[go_sem]
    exact⟨L,List.Sublist.refl _,v,hA,rfl⟩
  ·rintro vs L1 - ⟨v,hA,rfl⟩
   simp only[go_sem]
   refine AWp.viewA (j:=6) hA rfl ?_
   clear g5
   have hs2:aNeeds ps (ps.take (p+1))=aNeeds ps (ps.take p) ++ [.sl 2 ((ps[p].evs.map (needE ps)).map aEid)]:=by
    unfold aNeeds;rw[List.take_succ_eq_append_getElem hp,List.map_append];rfl
   have hy2:(aNeeds ps (ps.take p)).length=p:=by simp [aNeeds];omega
   unfold rsL
   rw[hs2]
   generalize (ps[p].evs.map (needE ps)).map aEid=ne at *
   rcases hL with ⟨rfl,rfl⟩|⟨c2,cap2,⟨d1,d2⟩,rfl⟩
   ·have e2:=List.eq_nil_of_length_eq_zero hy2
    rw[e2]
    simp only[go_sem]
    refine Wk ?_
    intro c1 k1 h31 hk1
    have d1:¬c1=b3:=by omega
    have d7:¬b3=c1:=by omega
    simp only[go_sem,d7]
    exact⟨_,List.Sublist.refl _,c1,k1,⟨d1,d7⟩,rfl⟩
   ·generalize aNeeds ps (ps.take p)=ys2 at *
    have ht2:ys2.take p=ys2:=List.take_of_length_le (by omega)
    refine W3 d1 d2 ht2 ?_
    intro x1 k1 h21 hk1
    have d3:¬x1=b3:=fun e=>h21 e.symm
    simp only[go_sem,h21]
    exact⟨_,List.Sublist.refl _,x1,k1,⟨d3,h21⟩,rfl⟩
 ·rintro vs L - ⟨rfl,hL⟩
  rcases hL with ⟨h0,rfl⟩|⟨c1,cap1,⟨d1,d2⟩,rfl⟩
  ·omega
  rw[List.take_length]
  have hy2:(aNeeds ps ps).length=ps.length:=List.length_map _
  unfold aRs
  generalize aNeeds ps ps=ys2 at *
  simp only[go_sem]
  refine W2 d1 d2 ?_
  refine ret_view [true,true] ?_;simp only[go_sem]
  refine Vw.lp (t:=160) (cap:=1) (xs:=[.agg [.sl 3 (ps.map aPr),.ls c1 1 0 ps.length cap1]]) (by simp only[lk,d2,if_false,if_true]) rfl fun i x y hx hy => ?_
  cases i with
  | zero =>
   cases hx;cases hy
   refine .mkAgg (Vws.cons (.refl _) (Vws.cons ?_ .nil))
   exact Vw.ofLs (t:=161) (cap:=cap1) (if_pos rfl) hy2.symm
  | succ i=>cases hx
theorem needs_len (ps:List Pr):(aNeeds ps ps).length=ps.length:=List.length_map _
theorem run_zero (ps:List Pr) (hv:validF ps=true):PC Proofs.Tryz.prog 61 [aRs ps] (aInts (zeroC ps)):=by
 have hl:=needs_len ps
 have hl8:=(valid_len hv).2
 unfold aRs
 refine PC.enter 9 [.tmp 2] [] Proofs.Tryz.func61 rfl rfl rfl rfl rfl (by simp) (AWp.of ?_);simp only[go_sem]
 refine W1 hl ?_
 refine Sd ?_
 intro b8
 refine Wk ?_
 refine ret_view [true] ?_;simp only[go_sem]
 have e:(zeroC ps).map ai=List.replicate ps.length (ai 0):=by unfold zeroC;rw[List.map_replicate]
 show Vw _ _ (.sl 1 ((zeroC ps).map ai))
 rw[e]
 exact Vw.ofLs (if_pos rfl) (by simp)
def mayF (ps:List Pr) (c:List Int) (p:Int):Bool:=decide (0≤p∧p<ps.length) && rdyF ps c p.toNat
theorem run_may (ps:List Pr) (hs:Sm ps) (hv:validF ps=true) (c:List Int) (hc:isF ps c=true) (p:Int):PC Proofs.Tryz.prog 104 [aRs ps,aInts c,ai p] (ab (mayF ps c p)):=by
 obtain⟨h1,h2,h3⟩:=isF_iff.1 hc
 have hnl:=needs_len ps
 have hl1:=(valid_len hv).1
 by_cases hp0:p<0
 ·have e0:p.toNat=0:=by omega
  have g1:=getD_map (f:=ai) (l:=c) (k:=0) (by omega)
  have g3:(aNeeds ps ps).getD 0 .any=aEids (ps[0].evs.map (needE ps)):=getD_map (f:=fun x:Pr=>aEids (x.evs.map (needE ps))) (by omega)
  have hm:mayF ps c p=false:=by unfold mayF;rw[decide_eq_false (by omega)];rfl
  rw[hm]
  unfold aRs
  refine PC.enter 57 [.tmp 6] [7] Proofs.Tryz.func104 rfl rfl rfl rfl rfl (by simp) (AWp.of ?_);simp only[go_sem]
  refine W1 hp0 ?_
  refine AWp.seq (AWp.seq ?_)
  repeat(first|(with_reducible refine AWp.seq ?_)|(with_reducible refine AWp.block ?_))
  refine AWp.read mixed [0,1,2,3,4,5,6,7,8,9,10,11,12,13,14,15,16,17,18,19,20,21,22] (by kernel_rfl) ?_;simp only[go_sem,hp0,e0,g1,g3,hnl]
  refine Sd ?_
  refine Wk ?_
  refine ret_eq ?_;simp only[go_sem]
 ·by_cases hpl:p<ps.length
  ·obtain⟨q,rfl⟩:∃q:Nat,p=q:=⟨p.toNat,by omega⟩
   have hp:q<ps.length:=by omega
   have hr:=(inRange_iff h1).1 h2 q hp
   obtain⟨i,hci⟩:∃i:Nat,cAt c q=i:=⟨(cAt c q).toNat,by omega⟩
   have hpc:q<c.length:=by omega
   have hcp:c[q]=(i:Int):=by rw[← cAt_nat hpc];exact hci
   have hel:=hs.evs _ (List.getElem_mem hp)
   have g1:(c.map ai).getD q .any=ai i:=by rw[getD_map hpc,hcp]
   have g3:(aNeeds ps ps).getD q .any=aEids (ps[q].evs.map (needE ps)):=getD_map (f:=fun x:Pr=>aEids (x.evs.map (needE ps))) hp
   have g5:((ps[q].evs.map (needE ps)).map aEid).length=ps[q].evs.length:=by rw[List.length_map,List.length_map]
   have z0:¬(q:Int)<0:=by omega
   have z1:¬(c.length:Int)≤(q:Int):=by omega
   have hrd:mayF ps c q=(decide (i<ps[q].evs.length) && isF ps (stpC c q)):=by
    unfold mayF rdyF
    rw[decide_eq_true ⟨by omega,by omega⟩,Bool.true_and]
    have e2:((q:Int)).toNat=q:=by omega
    rw[e2,hci,nev_get hp,Bool.decide_and,Bool.decide_eq_true];congr 1;congr 1;exact propext ⟨fun h=>by omega,fun h=>by omega⟩
   rw[hrd]
   unfold aRs
   refine PC.enter 57 [.tmp 6] [7] Proofs.Tryz.func104 rfl rfl rfl rfl rfl (by simp) (AWp.of ?_);simp only[go_sem]
   refine W5 z0 z1 g1 g3 hnl ?_
   refine AWp.seq (AWp.seq ?_)
   repeat(first|(with_reducible refine AWp.seq ?_)|(with_reducible refine AWp.block ?_))
   refine AWp.read mixed [0,1,2,3,4,5,6,7,8,9,10,11,12,13,14,15,16,17,18,19,20,21,22] (by kernel_rfl) ?_;simp only[go_sem,z0,z1,g1,g3,g5,hnl]
   refine Sd ?_
   refine Wk ?_
   refine⟨fun h => ?_,fun h => ?_⟩
   ·have:(decide (i<ps[q].evs.length) && isF ps (stpC c q))=false:=by rw[decide_eq_false (by omega)];rfl
    rw[this]
    refine Wk ?_
    refine ret_eq ?_;simp only[go_sem]
   ·have hi:i<ps[q].evs.length:=by omega
    have hst:=stp_iff hv hc hp hi hci
    have hin:=need_in hv hp hi
    have g4:((ps[q].evs.map (needE ps)).map aEid).getD i .any=aEid (needE ps ps[q].evs[i]):=by rw[List.map_map];exact getD_map (f:=fun e=>aEid (needE ps e)) hi
    have e1:decide (i<ps[q].evs.length)=true:=decide_eq_true hi
    have e2:isF ps (stpC c q)=decide ((needE ps ps[q].evs[i]).2≤cAt c (needE ps ps[q].evs[i]).1):=by
     by_cases hb:isF ps (stpC c q)=true
     ·rw[hb];exact(decide_eq_true (hst.1 hb)).symm
     ·rw[Bool.not_eq_true] at hb
      rw[hb];exact(decide_eq_false fun h=>by rw[hst.2 h] at hb;cases hb).symm
    have h0n:0≤cAt c (needE ps ps[q].evs[i]).1:=by
     have h5:=(inRange_iff h1).1 h2 (needE ps ps[q].evs[i]).1.toNat (by omega)
     rw[Int.toNat_of_nonneg hin.1] at h5
     exact h5.1
    rw[e1,e2,Bool.true_and]
    generalize needE ps ps[q].evs[i]=ne at *
    obtain⟨n1,n2⟩:=ne
    have g6:=getD_cAt (c:=c) hin.1 (by omega)
    dsimp only at hin h0n
    refine Wk ?_
    refine AWp.seq ?_
    repeat(first|(with_reducible refine AWp.seq ?_)|(with_reducible refine AWp.block ?_))
    refine AWp.mix mixed [0,1,2,3,4,5,6,7,8,9,10,11,12] (.step 13 (.step 14 .done .done) .done) (by kernel_rfl) ?_;simp only[go_sem,g1,g3,g4,g5,hnl]
    refine Sd ?_
    intro b7
    refine AWp.seq ?_
    repeat(first|(with_reducible refine AWp.seq ?_)|(with_reducible refine AWp.block ?_))
    refine AWp.read mixed [0,1,2,3,4,5,6,7,8,9,10,11,12,13] (by kernel_rfl) ?_;simp only[go_sem,g6]
    refine Sd ?_
    have hor:(decide (n2=0) || decide (n2≤cAt c n1))=decide (n2≤cAt c n1):=by
     by_cases hz:n2=0
     ·rw[hz,decide_eq_true h0n];rfl
     ·rw[decide_eq_false hz,Bool.false_or]
    refine W1 hor ?_
    refine ret_eq ?_;simp only[go_sem]
  ·have g1:(c.map ai).getD p.toNat .any = .any:=by
    rw[List.getD_eq_getElem?_getD,List.getElem?_eq_none (by rw[List.length_map];omega)];rfl
   have g3:(aNeeds ps ps).getD p.toNat .any = .any:=by
    rw[List.getD_eq_getElem?_getD,List.getElem?_eq_none (by rw[hnl];omega)];rfl
   have z1:(c.length:Int)≤p:=by omega
   have hm:mayF ps c p=false:=by unfold mayF;rw[decide_eq_false (by omega)];rfl
   rw[hm]
   unfold aRs
   refine PC.enter 57 [.tmp 6] [7] Proofs.Tryz.func104 rfl rfl rfl rfl rfl (by simp) (AWp.of ?_);simp only[go_sem]
   refine W1 hp0 ?_
   refine AWp.seq (AWp.seq ?_)
   repeat(first|(with_reducible refine AWp.seq ?_)|(with_reducible refine AWp.block ?_))
   refine AWp.read mixed [0,1,2,3,4,5,6,7,8,9,10,11,12,13,14,15,16,17,18,19,20,21,22] (by kernel_rfl) ?_;simp only[go_sem,hp0,z1,g1,g3,hnl]
   refine Sd ?_
   refine Wk ?_
   refine ret_eq ?_;simp only[go_sem]
theorem run_next (c:List Int) (hc:c.length≤1000000) (hb:∀z ∈ c,0≤z∧z≤1000000) (p:Nat) (hp:p<c.length):PC Proofs.Tryz.prog 105 [aInts c,ai (p:Nat)] (aInts (stpC c p)):=by
 have hcl:=ints_cloneO c hc
 have hcp:=cAt_nat hp
 have hz:=hb _ (List.getElem_mem hp)
 have g1:=getD_map (f:=ai) hp
 refine PC.enter 15 [.tmp 4] [] Proofs.Tryz.func105 rfl rfl rfl rfl rfl (by simp) (AWp.of ?_);simp only[go_sem]
 refine Wk ?_
 refine hcl.val.mono ?_
 rintro r L hA
 rcases hA.inv with ⟨e1,rfl,rfl⟩|⟨b,cap,rfl,rfl⟩
 ·have:=congrArg List.length e1
  rw[List.length_map] at this
  have:c.length=0:=this
  omega
 ·simp only[go_sem]
  refine W1 g1 ?_
  refine ret_view [true] ?_;simp only[go_sem]
  have e:(c.map ai).set p (ai (c[p]+1))=(stpC c p).map ai:=by unfold stpC;rw[List.map_set,hcp]
  show Vw [(b,.row 3 1 ((c.map ai).set p (ai (c[p]+1))) cap)] _ (.sl 1 ((stpC c p).map ai))
  rw[e]
  exact Vw.ofLs (if_pos rfl) (by rw[List.length_map,stp_len])
end Go.AL
end
