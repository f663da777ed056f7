/- Texts of this claim's proof: WQd, WV1, WSq, WV2, WV3, WQc, WQf, WQg, WQh. No condition. -/
import Derived.Test.YtjblppbkhgihoaaGreatDoorM10
import Derived.Test.YtjblppbkhgihoaaGreatDoorM5
import Derived.Test.YtjblppbkhgihoaaGreatDoorM8
import Derived.Test.YtjblppbkhgihoaaGreatDoorM9
section
namespace Go.AL
open Go Go.RowKit
set_option maxRecDepth 4000
theorem chn_cons {ps:List Pr} {a b:List Int} {r:List (List Int)} (ha:isF ps a=true):chnF ps a (b :: r)=true↔∃q:Nat,q<ps.length∧rdyF ps a q=true∧b=stpC a q∧stepF a b=q∧chnF ps b r=true:=by
 have hl:=(isF_iff.1 ha).1
 have e:chnF ps a (b :: r)=((isF ps b && decide (0≤stepF a b)) && chnF ps b r):=rfl
 rw[e,Bool.and_eq_true,Bool.and_eq_true,decide_eq_true_eq]
 constructor
 ·rintro⟨⟨h1,h2⟩,h3⟩
  have h4:=stpP_step (b:=b) ha
  rw[if_pos ⟨h1,h2⟩] at h4
  obtain⟨g1,g2,g3⟩:=(stpP_some hl).1 h4
  exact⟨_,g1,g2,g3,by omega,h3⟩
 ·rintro⟨q,h1,h2,h3,h4,h5⟩
  exact⟨⟨by rw[h3];exact rdy_is h2,by omega⟩,h5⟩
theorem isrun_mk {ps:List Pr} {R:List (List Int)} (h:chnF ps (zeroC ps) R=true) (hl:(zeroC ps :: R).getLast?=some (fullC ps)):isRunF ps (zeroC ps :: R)=true:=by
 show (decide (zeroC ps=zeroC ps∧(zeroC ps :: R).getLast?=some (fullC ps)) && chnF ps (zeroC ps) R)=true
 rw[decide_eq_true ⟨rfl,hl⟩,h];rfl
theorem wlk_chn {ps:List Pr} {perm:List Int→Bool} : ∀ {n:Nat} {c:List Int} {R:List (List Int)},isF ps c=true→wlkR ps perm n c=some R→chnF ps c R=true∧R.length=n
 | 0,c,R,hc,h=>by
  have:R=[]:=(Option.some.inj h).symm
  subst this;exact⟨rfl,rfl⟩
 | n+1,c,R,hc,h=>by
  rw[wlkR_succ] at h
  cases hf:firstP ps perm c with
  | none=>rw[hf] at h;cases h
  | some p =>
   rw[hf] at h
   simp only at h
   cases hs:wlkR ps perm n (stpC c p) with
   | none=>rw[hs] at h;cases h
   | some R' =>
    rw[hs] at h
    have hR:R=stpC c p :: R':=(Option.some.inj h).symm
    subst hR
    obtain⟨a1,a2,_⟩:=firstP_some hf
    obtain⟨i1,i2⟩:=wlk_chn (rdy_is a2) hs
    have hl:=(isF_iff.1 hc).1
    exact⟨(chn_cons hc).2 ⟨p,by omega,a2,rfl,stepF_iff.2 ⟨a1,rfl⟩,i1⟩,by rw[List.length_cons,i2]⟩
theorem chn_app {ps:List Pr} : ∀ {R S:List (List Int)} {c d:List Int},(c :: R).getLast?=some d→chnF ps c R=true→chnF ps d S=true→chnF ps c (R ++ S)=true
 | [],S,c,d,h,_,h2=>by
  have:c=d:=Option.some.inj h
  subst this;exact h2
 | b :: R,S,c,d,h,h1,h2=>by
  have e:chnF ps c (b :: R)=((isF ps b && decide (0≤stepF c b)) && chnF ps b R):=rfl
  have e2:chnF ps c (b :: R ++ S)=((isF ps b && decide (0≤stepF c b)) && chnF ps b (R ++ S)):=rfl
  rw[e,Bool.and_eq_true] at h1
  rw[e2,h1.1,Bool.true_and]
  rw[List.getLast?_cons_cons] at h
  exact chn_app h h1.2 h2
theorem chn_get {ps:List Pr} : ∀ {R:List (List Int)} {c:List Int},isF ps c=true→chnF ps c R=true→(evtG c R).length=R.length∧∀(i:Nat) (hi:i<(evtG c R).length) (hi2:i+1<(c :: R).length),
  ∃p:Nat,p<ps.length∧isF ps (c :: R)[i]=true∧rdyF ps (c :: R)[i] p=true∧(c :: R)[i+1]=stpC (c :: R)[i] p∧(evtG c R)[i]=((p:Int),cAt (c :: R)[i] p+1)
 | [],c,hc,h=>⟨rfl,fun i hi=>by cases hi⟩
 | b :: R,c,hc,h=>by
  obtain⟨q,h1,h2,rfl,h4,h5⟩:=(chn_cons hc).1 h
  have hl:=(isF_iff.1 hc).1
  have e:evtG c (stpC c q :: R)=(stepF c (stpC c q),cAt (stpC c q) (stepF c (stpC c q))) :: evtG (stpC c q) R:=rfl
  obtain⟨i1,i2⟩:=chn_get (rdy_is h2) h5
  refine⟨by rw[e,List.length_cons,List.length_cons,i1],fun i hi hi2 => ?_⟩
  cases i with
  | zero =>
   refine⟨q,h1,hc,h2,rfl,?_⟩
   show (stepF c (stpC c q),cAt (stpC c q) (stepF c (stpC c q)))=_
   rw[h4,cAt_stp (by omega),if_pos rfl]
   rfl
  | succ i =>
   have hi':i<(evtG (stpC c q) R).length:=by rw[e,List.length_cons] at hi;omega
   exact i2 i hi' (by rw[List.length_cons] at hi2;omega)
theorem chn_mono {ps:List Pr} {R:List (List Int)} {c:List Int} (hc:isF ps c=true) (h:chnF ps c R=true) {i:Nat} (hi:i<(c :: R).length):∀(m:Nat) (hj:i+m<(c :: R).length),∀q:Nat,q<ps.length→cAt (c :: R)[i] q≤cAt (c :: R)[i+m] q
 | 0,hj,q,hq=>Int.le_refl _
 | m+1,hj,q,hq=>by
  obtain⟨g1,g2⟩:=chn_get hc h
  have hj1:i+m+1<(c :: R).length:=hj
  obtain⟨p,a1,a2,a3,a4,a5⟩:=g2 (i+m) (by rw[g1];rw[List.length_cons] at hj;omega) hj1
  have ih:=chn_mono hc h hi m (by omega) q hq
  have e:(c :: R)[i+(m+1)]=stpC (c :: R)[i+m] p:=a4
  rw[e,cAt_stp (by rw[(isF_iff.1 a2).1];exact hq)]
  split <;> omega
end Go.AL
end
section
namespace Go.AL
open Go Go.RowKit
section
variable {α:Type} (bg:α→α→Bool) (len:Nat→Nat) (f:Nat→Nat→α) (n:Nat)
def Tgt (t:Nat→Nat):Prop:=(∀p,p<n→t p<len p)∧∀p q,p<n→q<n→p ≠ q→bg (f p (t p)) (f q (t q))=true
def MonB:Prop:=∀p i j,p<n→i≤j→j<len p→∀o,bg (f p j) o=true→bg (f p i) o=true
def LeastT (a:Nat→Nat):Prop:=Tgt bg len f n a∧∀t,Tgt bg len f n t→∀p,p<n→a p≤t p
variable {bg len f n}
theorem tgt_step (hm:MonB bg len f n) {a:Nat→Nat} (ha:∀t,Tgt bg len f n t→∀p,p<n→a p≤t p) {p q:Nat} (hp:p<n) (hq:q<n) (hpq:p ≠ q) (h:bg (f p (a p)) (f q (a q))=false) :
  ∀t,Tgt bg len f n t→∀r,r<n→(if r=q then a q+1 else a r)≤t r:=fun t ht r hr=>by
 have h1:=ha t ht
 split
 ·rename_i e
  subst e
  have h2:=h1 r hr
  by_cases e:a r=t r
  ·exfalso
   have h3:=ht.2 p r hp hr hpq
   have h4:=hm p (a p) (t p) hp (h1 p hp) (ht.1 p hp) _ h3
   rw[← e,h] at h4;cases h4
  ·omega
 ·exact h1 r hr
theorem tgt_none {a:Nat→Nat} (ha:∀t,Tgt bg len f n t→∀p,p<n→a p≤t p) {p:Nat} (hp:p<n) (h:len p≤a p):¬ ∃t,Tgt bg len f n t:=fun ⟨t,ht⟩=>by
 have h1:=ha t ht p hp
 have h2:=ht.1 p hp
 omega
end
end Go.AL
end
section
namespace Go.AL
open Go Go.RowKit
set_option maxRecDepth 4000
section
variable {b:Nat→Bool} {p:Nat}
end
structure SpOk (b:Nat→Bool) (p K:Nat) (l:List Stp):Prop where
 el:∀s ∈ l,s.1=p∧s.2.1≤s.2.2∧s.2.2<K∧∀j,s.2.1≤j→j≤s.2.2→b j=true
 ord:l.Pairwise fun s u=>s.2.2+1<u.2.1
 cov:∀j,j<K→b j=true→∃s ∈ l,s.2.1≤j∧j≤s.2.2
section
variable {b:Nat→Bool} {p K:Nat} {l:List Stp}
theorem SpOk.lt (h:SpOk b p K l) {i j:Nat} (hj:j<l.length) (hij:i<j):(l[i]'(by omega)).2.2+1<l[j].2.1:=List.pairwise_iff_getElem.1 h.ord i j (by omega) hj hij
end
def bgN (ps:List Pr) (a o:Stp):Bool:=decide (a.2.1=0) || (decide (o.2.2=nev ps o.1) || decide ((a.2.1:Int)≤cAt (ptF ps o.1 o.2.2) a.1))
def fSp (rows:Nat→List Stp) (p i:Nat):Stp:=(rows p).getD i (0,0,0)
def lenSp (rows:Nat→List Stp) (p:Nat):Nat:=(rows p).length
abbrev TgtS (ps:List Pr) (rows:Nat→List Stp) (t:Nat→Nat):Prop:=Tgt (bgN ps) (lenSp rows) (fSp rows) ps.length t
abbrev LeastS (ps:List Pr) (rows:Nat→List Stp) (t:Nat→Nat):Prop:=LeastT (bgN ps) (lenSp rows) (fSp rows) ps.length t
def RowsOk (ps:List Pr) (b:Nat→Nat→Bool) (rows:Nat→List Stp):Prop:=∀p,p<ps.length→SpOk (b p) p (nev ps p+1) (rows p)
theorem fSp_eq {rows:Nat→List Stp} {p i:Nat} (h:i<(rows p).length):fSp rows p i=(rows p)[i]:=by
 unfold fSp;rw[List.getD_eq_getElem?_getD,List.getElem?_eq_getElem h,Option.getD_some]
def AvoidC (ps:List Pr) (b:Nat→Nat→Bool) (c:List Int):Prop:=∃p,p<ps.length∧b p (cAt c p).toNat=false
section
variable {ps:List Pr} (hv:validF ps=true)
include hv
theorem pt_self {a i:Nat} (ha:a<ps.length) (hi:i<nev ps a):cAt (ptF ps a i) a=(i:Int)+1:=(irr_pt hv ha (by rw[nev_get ha] at hi;exact hi)).2.1
theorem pt_isN {a i:Nat} (ha:a<ps.length) (hi:i<nev ps a):isF ps (ptF ps a i)=true:=pt_is hv ha (by rw[nev_get ha] at hi;exact hi)
end
section
variable {ps:List Pr} {b:Nat→Nat→Bool} {rows:Nat→List Stp} (hv:validF ps=true) (hR:RowsOk ps b rows)
include hR
theorem mon_rows:MonB (bgN ps) (lenSp rows) (fSp rows) ps.length:=fun p i j hp hij hj o h=>by
 have hj:j<(rows p).length:=hj
 rw[fSp_eq hj] at h
 rw[fSp_eq (show i<(rows p).length by omega)]
 have e1:=((hR p hp).el _ (List.getElem_mem hj))
 have e2:=((hR p hp).el _ (List.getElem_mem (show i<(rows p).length by omega)))
 have e3:(rows p)[i].2.1≤(rows p)[j].2.1:=by
  rcases Nat.lt_or_eq_of_le hij with e|e
  ·have:=(hR p hp).lt hj e
   omega
  ·subst e;exact Nat.le_refl _
 unfold bgN at h ⊢
 rw[e2.1]
 rw[e1.1] at h
 simp only[Bool.or_eq_true,decide_eq_true_eq] at h ⊢
 rcases h with h|h|h
 ·exact .inl (by omega)
 ·exact .inr (.inl h)
 ·exact .inr (.inr (by omega))
end
section
variable {ps:List Pr} (hv:validF ps=true)
include hv
end
theorem down_count {P:Nat→Bool} : ∀N,(∀i j,i≤j→j<N→P j=true→P i=true)→((List.range N).filter P).length≤N∧∀i,i<N→(i<((List.range N).filter P).length↔P i=true)
 | 0,_=>⟨Nat.le_refl _,fun i hi=>by omega⟩
 | N+1,h=>by
  obtain⟨g1,g2⟩:=down_count N fun i j h1 h2=>h i j h1 (by omega)
  rw[List.range_succ,List.filter_append,List.length_append]
  cases hN:P N with
  | true =>
   have e:(List.range N).filter P=List.range N:=List.filter_eq_self.2 fun i hi=>h i N (by have:=List.mem_range.1 hi;omega) (by omega) hN
   rw[e,List.filter_cons_of_pos hN,List.length_range]
   refine⟨Nat.le_refl _,fun i hi=>⟨fun _=>h i N (by omega) (by omega) hN,fun _=>by simpa using hi⟩⟩
  | false =>
   rw[List.filter_cons_of_neg (by rw[hN];decide),List.filter_nil,List.length_nil,Nat.add_zero]
   refine⟨by omega,fun i hi => ?_⟩
   by_cases e:i=N
   ·subst e;rw[hN];exact⟨fun h=>by omega,fun h=>by cases h⟩
   ·exact g2 i (by omega)
section
variable {ps:List Pr} (hv:validF ps=true)
include hv
end
open Classical in
noncomputable def tgtO (ps:List Pr) (rows:Nat→List Stp):Option (Nat→Nat):=if h:∃a,LeastS ps rows a then some (Classical.choose h) else none
structure DodgeR (ps:List Pr) (b:Nat→Nat→Bool) (R:List (List Int)):Prop where
 run:isRunF ps R=true
 av:∀d ∈ R,AvoidC ps b d
structure DgO (ps:List Pr) (b:Nat→Nat→Bool) (O:List (List Int)) (c:List Int):Prop where
 ex:∃R,O=zeroC ps :: R∧chnF ps (zeroC ps) R=true
 last:O.getLast?=some c
 av:∀d ∈ O,AvoidC ps b d
section
variable {ps:List Pr} (hv:validF ps=true) {b:Nat→Nat→Bool}
theorem DgO.start (h:AvoidC ps b (zeroC ps)):DgO ps b [zeroC ps] (zeroC ps):=⟨⟨[],rfl,rfl⟩,rfl,fun d hd=>by simp only[List.mem_singleton] at hd;subst hd;exact h⟩
include hv in
theorem wlk_go {c to:List Int} (hc:isF ps c=true) (ht:isF ps to=true) (hle:leqF c to=true):∃R,wlkR ps (fun d=>leqF d to) (to.sum - c.sum).toNat c=some R∧chnF ps c R=true∧(c :: R).getLast?=some to∧(c.sum+R.length=to.sum) ∧
  ∀d ∈ R,isF ps d=true∧leqF c d=true∧leqF d to=true:=by
 have hs:=(leq_sum hle).1
 obtain⟨R,h1,h2,h3,h4⟩:=wlk_to hv ht (to.sum - c.sum).toNat c hc hle (by omega)
 have h5:=(wlk_chn hc h1).1
 refine⟨R,h1,h5,h4,by omega,fun d hd=>⟨(h3 d hd).1,?_,(h3 d hd).2⟩⟩
 obtain⟨i,hi,rfl⟩:=List.getElem_of_mem hd
 have hlc:=(isF_iff.1 hc).1
 refine(leq_at hlc (isF_iff.1 (h3 _ hd).1).1).2 fun q hq => ?_
 have:=chn_mono hc h5 (i:=0) (by simp) (i+1) (by rw[List.length_cons];omega) q hq
 have e:(c :: R)[0+(i+1)]'(by rw[List.length_cons];omega)=R[i]:=by simp
 rw[e] at this
 exact this
theorem DgO.go {O:List (List Int)} {c to:List Int} (h:DgO ps b O c) {R:List (List Int)} (hch:chnF ps c R=true) (hl:(c :: R).getLast?=some to) (hav:∀d ∈ R,AvoidC ps b d):DgO ps b (O ++ R) to:=by
 obtain⟨S,rfl,hS⟩:=h.ex
 refine⟨⟨S ++ R,rfl,chn_app h.last hS hch⟩,?_,fun d hd => ?_⟩
 ·cases R with
  | nil =>
   rw[List.append_nil,h.last]
   exact hl
  | cons r R =>
   rw[List.getLast?_cons_cons] at hl
   rw[List.getLast?_append,hl];rfl
 ·rcases List.mem_append.1 hd with hd|hd
  ·exact h.av d hd
  ·exact hav d hd
theorem DgO.done {O:List (List Int)} (h:DgO ps b O (fullC ps)):DodgeR ps b O:=by
 obtain⟨S,rfl,hS⟩:=h.ex
 exact⟨isrun_mk hS h.last,h.av⟩
end
end Go.AL
end
section
namespace Go.AL
open Go Go.RowKit
set_option maxRecDepth 4000
def enF (ps:List Pr) (c:List Int) (k:Nat):List Nat:=(List.range k).filter (rdyF ps c)
theorem enF_succ (ps:List Pr) (c:List Int) (k:Nat):enF ps c (k+1)=enF ps c k ++ if rdyF ps c k=true then [k] else []:=by
 unfold enF
 rw[List.range_succ,List.filter_append,List.filter_cons]
 split <;> rfl
theorem mem_enF {ps:List Pr} {c:List Int} {k p:Nat} : p ∈ enF ps c k↔p<k∧rdyF ps c p=true:=by unfold enF;rw[List.mem_filter,List.mem_range]
theorem enF_len (ps:List Pr) (c:List Int) (k:Nat):(enF ps c k).length≤k:=by
 have:=List.length_filter_le (rdyF ps c) (List.range k)
 rw[List.length_range] at this;exact this
def wayT (ps:List Pr):Nat→List Int→Nat
 | 0,_=>1
 | n+1,c=>((enF ps c c.length).map fun p=>wayT ps n (stpC c p)).sum
def wayV (ps:List Pr) (c:List Int):Nat:=wayT ps (off ps ps.length - c.sum.toNat) c
theorem en_sum {ps:List Pr} {c:List Int} (hc:isF ps c=true) {k p:Nat} (hk:k≤c.length) (hp:p ∈ enF ps c k):isF ps (stpC c p)=true∧(stpC c p).sum=c.sum+1∧c.sum<off ps ps.length∧0≤c.sum:=by
 obtain⟨h1,h2⟩:=mem_enF.1 hp
 have h3:=rdy_is h2
 have h4:(stpC c p).sum=c.sum+1:=sum_stpC (by omega)
 have h5:=sum_le_off h3
 have h6:=sum_nonneg c (isF_nonneg hc)
 exact⟨h3,h4,by omega,h6⟩
theorem map_congr' {α β:Type} {f g:α→β} {l:List α} (h:∀x ∈ l,f x=g x):l.map f=l.map g:=List.map_congr_left h
theorem wayV_full {ps:List Pr} {c:List Int} (h:c.sum=off ps ps.length):wayV ps c=1:=by
 unfold wayV
 rw[h,show off ps ps.length - ((off ps ps.length:Nat):Int).toNat=0 by omega]
 rfl
theorem wayV_stp {ps:List Pr} {c:List Int} (hc:isF ps c=true) (h:c.sum<off ps ps.length):wayV ps c=((enF ps c c.length).map fun p=>wayV ps (stpC c p)).sum:=by
 have h6:=sum_nonneg c (isF_nonneg hc)
 have e:off ps ps.length - c.sum.toNat=(off ps ps.length - (c.sum.toNat+1))+1:=by omega
 unfold wayV
 rw[e]
 show ((enF ps c c.length).map fun p=>wayT ps _ (stpC c p)).sum=_
 congr 1
 refine map_congr' fun p hp => ?_
 obtain⟨_,h4,_,_⟩:=en_sum hc (Nat.le_refl _) hp
 rw[h4,show (c.sum+1).toNat=c.sum.toNat+1 by omega]
def idxN (l:List (List Int)) (c:List Int):Nat:=(idxF l c).toNat
section
variable {ps:List Pr} (hv:validF ps=true) {l:List (List Int)} (hl:l=cutsF ps)
include hv hl
theorem idx_step {i:Nat} (hi:i<l.length) {p:Nat} (hp:p ∈ enF ps l[i] l[i].length):i<idxN l (stpC l[i] p)∧∃h:idxN l (stpC l[i] p)<l.length,l[idxN l (stpC l[i] p)]=stpC l[i] p:=by
 have ho:l.Pairwise ordL:=by rw[hl];exact cuts_ord hv
 have hm:∀c,c ∈ l↔isF ps c=true:=fun c=>by rw[hl];exact mem_cutsF hv
 obtain⟨h1,h2,_,_⟩:=en_sum ((hm _).1 (List.getElem_mem hi)) (Nat.le_refl _) hp
 obtain⟨j,hj,e⟩:=List.getElem_of_mem ((hm _).2 h1)
 have hx:=idx_get ho hj
 rw[e] at hx
 have hj2:idxN l (stpC l[i] p)=j:=by unfold idxN;rw[hx];rfl
 rw[hj2]
 refine⟨?_,hj,e⟩
 rcases Nat.lt_or_ge i j with h|h
 ·exact h
 ·exfalso
  rcases Nat.lt_or_ge j i with h3|h3
  ·rcases ord_get ho hj hi h3 with h4|⟨h4,_⟩
   ·rw[e] at h4;omega
   ·rw[e] at h4;omega
  ·have:i=j:=by omega
   subst this
   have:=congrArg List.sum e
   omega
theorem lst_len0:0<l.length:=by
 have:zeroC ps ∈ l:=by rw[hl];exact(mem_cutsF hv).2 (zeroC_is ps)
 exact List.length_pos_of_mem this
theorem lst_first:l.getD 0 []=zeroC ps:=by
 have ho:l.Pairwise ordL:=by rw[hl];exact cuts_ord hv
 have hm:∀c,c ∈ l↔isF ps c=true:=fun c=>by rw[hl];exact mem_cutsF hv
 have h0:=lst_len0 hv hl
 rw[List.getD_eq_getElem?_getD,List.getElem?_eq_getElem h0]
 obtain⟨j,hj,e⟩:=List.getElem_of_mem ((hm _).2 (zeroC_is ps))
 show l[0]=zeroC ps
 rcases Nat.eq_zero_or_pos j with h|h
 ·subst h;exact e
 ·exfalso
  have hs:=sum_nonneg l[0] (isF_nonneg ((hm _).1 (List.getElem_mem h0)))
  have hz:(zeroC ps).sum=0:=by unfold zeroC;simp
  have hle:leqF (zeroC ps) l[0]=true:=by
   have hl0:=(isF_iff.1 ((hm _).1 (List.getElem_mem h0))).1
   refine(leq_at (by unfold zeroC;simp) hl0).2 fun q hq => ?_
   have:cAt (zeroC ps) q=0:=by unfold zeroC;rw[cAt_nat (by simp;exact hq)];simp
   rw[this,cAt_nat (by omega)]
   exact isF_nonneg ((hm _).1 (List.getElem_mem h0)) _ (List.getElem_mem _)
  have:=idx_leq ho hj h0 (by rw[e];exact hle)
  omega
theorem lst_last:l.getD (l.length - 1) []=fullC ps:=by
 have ho:l.Pairwise ordL:=by rw[hl];exact cuts_ord hv
 have hm:∀c,c ∈ l↔isF ps c=true:=fun c=>by rw[hl];exact mem_cutsF hv
 have h0:=lst_len0 hv hl
 have h1:l.length - 1<l.length:=by omega
 rw[List.getD_eq_getElem?_getD,List.getElem?_eq_getElem h1]
 obtain⟨j,hj,e⟩:=List.getElem_of_mem ((hm _).2 (fullC_is hv))
 show l[l.length - 1]=fullC ps
 have:=idx_leq ho h1 hj (by rw[e];exact leq_full ((hm _).1 (List.getElem_mem h1)))
 have hj2:j=l.length - 1:=by omega
 subst hj2;exact e
end
def opnT (ps:List Pr) (bad:List Int→Bool):Nat→List Int→Bool
 | 0,c => !bad c
 | n+1,c => !bad c && (enF ps c c.length).any fun p=>opnT ps bad n (stpC c p)
def opnV (ps:List Pr) (bad:List Int→Bool) (c:List Int):Bool:=opnT ps bad (off ps ps.length - c.sum.toNat) c
theorem opnV_full {ps:List Pr} {bad:List Int→Bool} {c:List Int} (h:c.sum=off ps ps.length):opnV ps bad c = !bad c:=by
 unfold opnV
 rw[h,show off ps ps.length - ((off ps ps.length:Nat):Int).toNat=0 by omega]
 rfl
theorem any_congr' {α:Type} {f g:α→Bool} : ∀ {l:List α},(∀x ∈ l,f x=g x)→l.any f=l.any g
 | [],_=>rfl
 | x :: l,h=>by rw[List.any_cons,List.any_cons,h x (by simp),any_congr' fun y hy=>h y (List.mem_cons_of_mem _ hy)]
theorem opnV_stp {ps:List Pr} {bad:List Int→Bool} {c:List Int} (hc:isF ps c=true) (h:c.sum<off ps ps.length):opnV ps bad c=(!bad c && (enF ps c c.length).any fun p=>opnV ps bad (stpC c p)):=by
 have h6:=sum_nonneg c (isF_nonneg hc)
 have e:off ps ps.length - c.sum.toNat=(off ps ps.length - (c.sum.toNat+1))+1:=by omega
 unfold opnV
 rw[e]
 show (!bad c && (enF ps c c.length).any fun p=>opnT ps bad _ (stpC c p))=_
 congr 1
 refine any_congr' fun p hp => ?_
 obtain⟨_,h4,_,_⟩:=en_sum hc (Nat.le_refl _) hp
 rw[h4,show (c.sum+1).toNat=c.sum.toNat+1 by omega]
def aRs (ps:List Pr):AV:=.rp 2 [.agg [.sl 3 (ps.map aPr),.sl 1 (aNeeds ps ps)]] 0 0
theorem run_sender1 (f e:Ev):PC Proofs.Tryz.prog 68 [aEv f,.rp 5 [aEv e] 0 0] (ab (decide (f.kind=2) && decide (f.msg=e.msg))):=by
 refine PC.enter 14 [.tmp 3] [2] Proofs.Tryz.func68 rfl rfl rfl rfl rfl (by simp) (AWp.of ?_);simp only[go_sem]
 refine Wk ?_
 refine ret_eq ?_;simp only[go_sem]
theorem run_sender (ps:List Pr) (hs:Sm ps) (hv:validF ps=true) (p:Nat) (hp:p<ps.length) (i:Nat) (hi:i<ps[p].evs.length) (hk:ps[p].evs[i].kind=3):PC Proofs.Tryz.prog 42 [aTr ps,aEv ps[p].evs[i]] (.tup [aEid (sndr ps ps[p].evs[i].msg),ab true]):=by
 have hm:=(valid_parts hv).2.2
 obtain⟨hq,j,hj,hsd,h1,h2⟩:=recv_peer hm hp hi hk
 have hpr:0≤ps[p].evs[i].peer:=by
  have:=(evF_parts hp hi).1 (evF_of_valid hv hp hi)
  exact(formed_msg this.1 (.inr hk)).2.2.1
 have hix:ps[ps[p].evs[i].peer.toNat].evs.findIdx? (fun f=>decide (f.kind=2) && decide (f.msg=ps[p].evs[i].msg))=some j:=by
  rw[List.findIdx?_eq_some_iff_getElem]
  refine⟨hj,by rw[h1,h2];simp,fun k hkj h => ?_⟩
  simp only[Bool.and_eq_true,decide_eq_true_eq] at h
  have g1:=valid_unique hv hq hj h1
  have g2:=valid_unique hv hq (i:=k) (by omega) h.1
  rw[h2] at g1
  rw[h.2,g1] at g2
  have:=(Prod.mk.inj g2).2
  omega
 have hel:=hs.evs _ (List.getElem_mem hq)
 have hir:=events_indexFunc ps[ps[p].evs[i].peer.toNat].evs hel (.clo 68 [.rp 5 [aEv ps[p].evs[i]] 0 0]) rfl _ fun f _=>(run_sender1 f ps[p].evs[i]).clo
 rw[hix] at hir
 rw[hsd]
 have hgp:=getD_map (f:=aPr) hq
 have e1:((ps[p].evs[i].peer.toNat:Nat):Int)=ps[p].evs[i].peer:=by omega
 rw[e1]
 generalize ps[ps[p].evs[i].peer.toNat]=y at *
 generalize ps[p].evs[i]=e at *
 refine PC.enter 23 [.cell 4 54,.tmp 5] [2,3] Proofs.Tryz.func42 rfl rfl rfl rfl rfl (by simp) (AWp.of ?_);simp only[go_sem]
 intro b4
 refine W1 hgp ?_
 refine Sd ?_
 refine(hir).val.use ?_;simp only[go_sem]
 have z0:(0:Int)≤(j:Int):=by omega
 refine W1 z0 ?_
 refine ret_eq ?_;simp only[go_sem]
def rsL (ps:List Pr) (b p:Nat) (L:AHeap):Prop :=
 (p=0∧L=[(b,.row 97 2 [.agg [.sl 3 (ps.map aPr),anil]] 1)]) ∨
 ∃c cap,(¬c=b∧¬b=c)∧L=[(c,.row 70 1 (aNeeds ps (ps.take p)) cap),(b,.row 97 2 [.agg [.sl 3 (ps.map aPr),.ls c 1 0 p cap]] 1)]
theorem run_open (ps:List Pr) (hs:Sm ps) (hv:validF ps=true):PC Proofs.Tryz.prog 18 [aTr ps] (aRs ps):=by
 obtain⟨hl1,hl8⟩:=valid_len hv
 refine PC.enter 53 [.tmp 2] [1,5,8,9,38,47] Proofs.Tryz.func18 rfl rfl rfl rfl rfl (by simp) (AWp.of ?_);simp only[go_sem]
 refine Wk ?_
 intro b3
 refine Wk ?_
 refine AWp.range' ps.length [] [1,3,14,15] (fun p vs L=>vs=[]∧rsL ps b3 p L) (by omega) rfl rfl rfl ⟨rfl,.inl ⟨rfl,rfl⟩⟩ ?_ ?_
 ·rintro p vs L hp - ⟨rfl,hL⟩
  have hgp:=getD_map (f:=aPr) hp
  simp only[go_sem]
  refine W1 hgp ?_
  intro b5 g5
  have hel:=hs.evs _ (List.getElem_mem hp)
  refine Sd ?_
  refine AWp.of ?_;simp only[go_sem]
  refine AWp.cutF [1,3,6,14,15,16] (fun vs L1=>∃v,AppSt 54 2 ((ps[p].evs.map (needE ps)).map aEid) v L1 ∧
   vs=[.rp 1 [aTr ps] 0 0,.lp b3 2 0 0,v,aPrs ps,ai (ps.length:Nat),ai (p:Nat)]) ?_ ?_
  ·refine Wk ?_
   refine AWp.range' ps[p].evs.length [6] [1,3,14,15,16,21,22] (fun i vs L=>∃v,vs=[v]∧AppSt 54 2 (((ps[p].evs.take i).map (needE ps)).map aEid) v L) (by omega) rfl rfl rfl ⟨anil,rfl,by rw[List.take_zero];exact .nil⟩ ?_ ?_
   ·rintro i vs L hi - ⟨v,rfl,hA⟩
    have hge:=getD_map (f:=aEv) hi
    have hne:needE ps ps[p].evs[i]=if ps[p].evs[i].kind=3 then sndr ps ps[p].evs[i].msg else (0,0):=rfl
    have hsn:=fun hk=>run_sender ps hs hv p hp i hi hk
    have htk:((ps[p].evs.take (i+1)).map (needE ps)).map aEid=((ps[p].evs.take i).map (needE ps)).map aEid ++ [aEid (needE ps ps[p].evs[i])]:=by
     rw[List.take_succ_eq_append_getElem hi,List.map_append,List.map_append];rfl
    have hyl:(((ps[p].evs.take i).map (needE ps)).map aEid).length=i:=by simp;omega
    rw[htk]
    generalize ((ps[p].evs.take i).map (needE ps)).map aEid=ys at *
    generalize needE ps ps[p].evs[i]=ne at *
    generalize ps[p].evs[i]=ev at *
    rcases hA.inv with ⟨e1,rfl,rfl⟩|⟨bq,capq,rfl,rfl⟩
    ·simp only[go_sem]
     refine W1 hge ?_
     intro b8
     refine Wk ?_
     intro b9
     refine Wk ?_
     refine⟨fun h3 => ?_,fun h3 => ?_⟩
     ·rw[if_pos h3] at hne
      subst hne
      have hsn:=hsn h3
      generalize sndr ps ev.msg=sx at *
      obtain⟨s1,s2⟩:=sx
      refine Sd ?_
      refine(hsn).val.use ?_;simp only[go_sem]
      refine Wk ?_
      intro b' cap' hc'
      exact⟨_,List.cons_sublist_cons.2 (List.nil_sublist _),_,rfl,by rw[e1];exact .row b' [_] cap'⟩
     ·rw[if_neg h3] at hne
      subst hne
      refine Wk ?_
      intro b' cap' g' hc'
      exact⟨_,List.cons_sublist_cons.2 (List.nil_sublist _),_,rfl,by rw[e1];exact .row b' [_] cap'⟩
    ·simp only[go_sem]
     refine W1 hge ?_
     intro b8 g8
     refine Wk ?_
     intro b9 g9
     have n3:¬b9=bq:=by omega
     have n4:¬bq=b9:=by omega
     refine W2 n3 n4 ?_
     refine⟨fun h3 => ?_,fun h3 => ?_⟩
     ·rw[if_pos h3] at hne
      subst hne
      have hsn:=hsn h3
      generalize sndr ps ev.msg=sx at *
      obtain⟨s1,s2⟩:=sx
      refine Sd ?_
      refine(hsn).val.use ?_;simp only[go_sem]
      refine W2 n3 n4 ?_
      intro b' cap' hc'
      exact⟨_,List.cons_sublist_cons.2 (List.nil_sublist _),_,rfl,AppSt.snoc b' cap' _ rfl⟩
     ·rw[if_neg h3] at hne
      subst hne
      refine W2 n3 n4 ?_
      intro b' cap' g' hc'
      exact⟨_,List.cons_sublist_cons.2 (List.nil_sublist _),_,rfl,AppSt.snoc b' cap' _ rfl⟩
   ·rintro vs L - ⟨v,rfl,hA⟩
    rw[List.take_length] at hA
    simp only[go_sem]
    exact⟨L,List.Sublist.refl _,v,hA,rfl⟩
  ·rintro vs L1 - ⟨v,hA,rfl⟩
   simp only[go_sem]
   refine AWp.viewA (j:=6) hA rfl ?_
   clear g5
   have hs2:aNeeds ps (ps.take (p+1))=aNeeds ps (ps.take p) ++ [.sl 2 ((ps[p].evs.map (needE ps)).map aEid)]:=by
    unfold aNeeds;rw[List.take_succ_eq_append_getElem hp,List.map_append];rfl
   have hy2:(aNeeds ps (ps.take p)).length=p:=by simp [aNeeds];omega
   unfold rsL
   rw[hs2]
   generalize (ps[p].evs.map (needE ps)).map aEid=ne at *
   rcases hL with ⟨rfl,rfl⟩|⟨c2,cap2,⟨d1,d2⟩,rfl⟩
   ·have e2:=List.eq_nil_of_length_eq_zero hy2
    rw[e2]
    simp only[go_sem]
    refine Wk ?_
    intro c1 k1 h31 hk1
    have d1:¬c1=b3:=by omega
    have d7:¬b3=c1:=by omega
    simp only[go_sem,d1,d7]
    exact⟨_,List.Sublist.refl _,c1,k1,⟨d1,d7⟩,rfl⟩
   ·generalize aNeeds ps (ps.take p)=ys2 at *
    have ht2:ys2.take p=ys2:=List.take_of_length_le (by omega)
    refine W3 d1 d2 ht2 ?_
    intro x1 k1 h21 hk1
    have d3:¬x1=b3:=fun e=>h21 e.symm
    simp only[go_sem,h21,d3]
    exact⟨_,List.Sublist.refl _,x1,k1,⟨d3,h21⟩,rfl⟩
 ·rintro vs L - ⟨rfl,hL⟩
  rcases hL with ⟨h0,rfl⟩|⟨c1,cap1,⟨d1,d2⟩,rfl⟩
  ·omega
  rw[List.take_length]
  have hy2:(aNeeds ps ps).length=ps.length:=List.length_map _
  unfold aRs
  generalize aNeeds ps ps=ys2 at *
  simp only[go_sem]
  refine W2 d1 d2 ?_
  refine ret_view [true,true] ?_;simp only[go_sem]
  refine Vw.lp (t:=97) (cap:=1) (xs:=[.agg [.sl 3 (ps.map aPr),.ls c1 1 0 ps.length cap1]]) (by simp only[lk,d2,if_false,if_true]) rfl fun i x y hx hy => ?_
  cases i with
  | zero =>
   cases hx;cases hy
   refine .mkAgg (Vws.cons (.refl _) (Vws.cons ?_ .nil))
   exact Vw.ofLs (t:=70) (cap:=cap1) (if_pos rfl) hy2.symm
  | succ i=>cases hx
theorem needs_len (ps:List Pr):(aNeeds ps ps).length=ps.length:=List.length_map _
theorem run_zero (ps:List Pr) (hv:validF ps=true):PC Proofs.Tryz.prog 23 [aRs ps] (aInts (zeroC ps)):=by
 have hl:=needs_len ps
 have hl8:=(valid_len hv).2
 unfold aRs
 refine PC.enter 9 [.tmp 2] [] Proofs.Tryz.func23 rfl rfl rfl rfl rfl (by simp) (AWp.of ?_);simp only[go_sem]
 refine W1 hl ?_
 refine Sd ?_
 intro b8
 refine Wk ?_
 refine ret_view [true] ?_;simp only[go_sem]
 have e:(zeroC ps).map ai=List.replicate ps.length (ai 0):=by unfold zeroC;rw[List.map_replicate]
 show Vw _ _ (.sl 1 ((zeroC ps).map ai))
 rw[e]
 exact Vw.ofLs (if_pos rfl) (by simp)
theorem run_zeroO (ps:List Pr) (hv:validF ps=true):MCalls Proofs.Tryz.prog 23 [aRs ps] [] fun r L=>∃b,r = .ls b 1 0 ps.length ps.length∧L=[(b,.row 3 1 ((zeroC ps).map ai) ps.length)]:=by
 have hl:=needs_len ps
 have hl8:=(valid_len hv).2
 unfold aRs
 refine MCalls.enter' 9 [.tmp 2] [] Proofs.Tryz.func23 rfl rfl rfl rfl rfl (by simp) (AWp.of ?_);simp only[go_sem]
 refine W1 hl ?_
 refine Sd ?_
 intro b8
 refine Wk ?_
 refine ret_own ?_
 simp only[go_sem]
 have e:(zeroC ps).map ai=List.replicate ps.length (ai 0):=by unfold zeroC;rw[List.map_replicate]
 rw[e]
 exact⟨b8,rfl,rfl⟩
def fulT (ps:List Pr) (k:Nat):List Int:=(List.range ps.length).map fun p=>if p<k then (nev ps p:Int) else 0
theorem fulT_zero (ps:List Pr):fulT ps 0=zeroC ps:=by
 unfold fulT zeroC
 exact List.eq_replicate_iff.2 ⟨by simp,fun x hx=>by
  obtain⟨p,_,rfl⟩:=List.mem_map.1 hx
  exact if_neg (by omega)⟩
theorem fulT_len (ps:List Pr) (k:Nat):(fulT ps k).length=ps.length:=by simp [fulT]
theorem fulT_succ (ps:List Pr) {k:Nat} (hk:k<ps.length):fulT ps (k+1)=(fulT ps k).set k (ps[k].evs.length:Int):=by
 apply List.ext_getElem (by rw[List.length_set,fulT_len,fulT_len])
 intro i h1 h2
 rw[List.getElem_set]
 simp only[fulT,List.getElem_map,List.getElem_range]
 by_cases e:k=i
 ·subst e;rw[if_pos (by omega),if_pos rfl,nev_get hk]
 ·rw[if_neg e]
  by_cases h:i<k
  ·rw[if_pos h,if_pos (by omega)]
  ·rw[if_neg h,if_neg (by omega)]
theorem fulT_full (ps:List Pr):fulT ps ps.length=fullC ps:=by
 apply List.ext_getElem (by rw[fulT_len];simp [fullC])
 intro i h1 h2
 have hi:i<ps.length:=by rw[fulT_len] at h1;exact h1
 simp only[fulT,fullC,List.getElem_map,List.getElem_range]
 rw[if_pos hi,nev_get hi]
theorem run_full (ps:List Pr) (hs:Sm ps) (hv:validF ps=true):PC Proofs.Tryz.prog 20 [aRs ps] (aInts (fullC ps)):=by
 have hl:=needs_len ps
 have hl8:=(valid_len hv).2
 have hz:=run_zeroO ps hv
 unfold aRs at hz ⊢
 refine PC.enter 25 [.tmp 2] [] Proofs.Tryz.func20 rfl rfl rfl rfl rfl (by simp) (AWp.of ?_);simp only[go_sem]
 refine Wk ?_
 refine hz.val.mono ?_
 rintro r L ⟨b,rfl,rfl⟩
 simp only[go_sem]
 refine W1 hl ?_
 refine AWp.range' ps.length [] [3,11,12] (fun k vs L=>vs=[]∧L=[(b,.row 3 1 ((fulT ps k).map ai) ps.length)]) (by omega) rfl rfl rfl ⟨rfl,by rw[fulT_zero]⟩ ?_ ?_
 ·rintro k vs L hk - ⟨rfl,rfl⟩
  have hel:=hs.evs _ (List.getElem_mem hk)
  have g3:(aNeeds ps ps).getD k .any=aEids (ps[k].evs.map (needE ps)):=getD_map (f:=fun x:Pr=>aEids (x.evs.map (needE ps))) hk
  have g5:((ps[k].evs.map (needE ps)).map aEid).length=ps[k].evs.length:=by rw[List.length_map,List.length_map]
  have hfl:=fulT_len ps k
  simp only[go_sem]
  have g7:=getD_map (f:=ai) (l:=fulT ps k) (k:=k) (by omega)
  refine W4 g3 g5 hfl g7 ?_
  exact⟨_,List.Sublist.refl _,by rw[fulT_succ ps hk,List.map_set]⟩
 ·rintro vs L - ⟨rfl,rfl⟩
  rw[fulT_full]
  simp only[go_sem]
  refine Wk ?_
  refine ret_view [true] ?_;simp only[go_sem]
  exact Vw.ofLs (if_pos rfl) (by simp [fullC])
def mayF (ps:List Pr) (c:List Int) (p:Int):Bool:=decide (0≤p∧p<ps.length) && rdyF ps c p.toNat
theorem run_may (ps:List Pr) (hs:Sm ps) (hv:validF ps=true) (c:List Int) (hc:isF ps c=true) (p:Int):PC Proofs.Tryz.prog 21 [aRs ps,aInts c,ai p] (ab (mayF ps c p)):=by
 obtain⟨h1,h2,h3⟩:=isF_iff.1 hc
 have hnl:=needs_len ps
 have hl1:=(valid_len hv).1
 by_cases hp0:p<0
 ·have e0:p.toNat=0:=by omega
  have g1:=getD_map (f:=ai) (l:=c) (k:=0) (by omega)
  have g3:(aNeeds ps ps).getD 0 .any=aEids (ps[0].evs.map (needE ps)):=getD_map (f:=fun x:Pr=>aEids (x.evs.map (needE ps))) (by omega)
  have hm:mayF ps c p=false:=by unfold mayF;rw[decide_eq_false (by omega)];rfl
  rw[hm]
  unfold aRs
  refine PC.enter 57 [.tmp 6] [7] Proofs.Tryz.func21 rfl rfl rfl rfl rfl (by simp) (AWp.of ?_);simp only[go_sem]
  refine W1 hp0 ?_
  refine AWp.seq (AWp.seq ?_)
  repeat(first|(with_reducible refine AWp.seq ?_)|(with_reducible refine AWp.block ?_))
  refine AWp.read mixed [0,1,2,3,4,5,6,7,8,9,10,11,12,13,14,15,16,17,18,19,20,21,22] (by kernel_rfl) ?_;simp only[go_sem,hp0,e0,g1,g3,hnl]
  refine Sd ?_
  refine Wk ?_
  refine ret_eq ?_;simp only[go_sem]
 ·by_cases hpl:p<ps.length
  ·obtain⟨q,rfl⟩:∃q:Nat,p=q:=⟨p.toNat,by omega⟩
   have hp:q<ps.length:=by omega
   have hr:=(inRange_iff h1).1 h2 q hp
   obtain⟨i,hci⟩:∃i:Nat,cAt c q=i:=⟨(cAt c q).toNat,by omega⟩
   have hpc:q<c.length:=by omega
   have hcp:c[q]=(i:Int):=by rw[← cAt_nat hpc];exact hci
   have hel:=hs.evs _ (List.getElem_mem hp)
   have g1:(c.map ai).getD q .any=ai i:=by rw[getD_map hpc,hcp]
   have g3:(aNeeds ps ps).getD q .any=aEids (ps[q].evs.map (needE ps)):=getD_map (f:=fun x:Pr=>aEids (x.evs.map (needE ps))) hp
   have g5:((ps[q].evs.map (needE ps)).map aEid).length=ps[q].evs.length:=by rw[List.length_map,List.length_map]
   have z0:¬(q:Int)<0:=by omega
   have z1:¬(c.length:Int)≤(q:Int):=by omega
   have hrd:mayF ps c q=(decide (i<ps[q].evs.length) && isF ps (stpC c q)):=by
    unfold mayF rdyF
    rw[decide_eq_true ⟨by omega,by omega⟩,Bool.true_and]
    have e2:((q:Int)).toNat=q:=by omega
    rw[e2,hci,nev_get hp,Bool.decide_and,Bool.decide_eq_true];congr 1;congr 1;exact propext ⟨fun h=>by omega,fun h=>by omega⟩
   rw[hrd]
   unfold aRs
   refine PC.enter 57 [.tmp 6] [7] Proofs.Tryz.func21 rfl rfl rfl rfl rfl (by simp) (AWp.of ?_);simp only[go_sem]
   refine W5 z0 z1 g1 g3 hnl ?_
   refine AWp.seq (AWp.seq ?_)
   repeat(first|(with_reducible refine AWp.seq ?_)|(with_reducible refine AWp.block ?_))
   refine AWp.read mixed [0,1,2,3,4,5,6,7,8,9,10,11,12,13,14,15,16,17,18,19,20,21,22] (by kernel_rfl) ?_;simp only[go_sem,z0,z1,g1,g3,g5,hnl]
   refine Sd ?_
   refine Wk ?_
   refine⟨fun h => ?_,fun h => ?_⟩
   ·have:(decide (i<ps[q].evs.length) && isF ps (stpC c q))=false:=by rw[decide_eq_false (by omega)];rfl
    rw[this]
    refine Wk ?_
    refine ret_eq ?_;simp only[go_sem]
   ·have hi:i<ps[q].evs.length:=by omega
    have hst:=stp_iff hv hc hp hi hci
    have hin:=need_in hv hp hi
    have g4:((ps[q].evs.map (needE ps)).map aEid).getD i .any=aEid (needE ps ps[q].evs[i]):=by rw[List.map_map];exact getD_map (f:=fun e=>aEid (needE ps e)) hi
    have e1:decide (i<ps[q].evs.length)=true:=decide_eq_true hi
    have e2:isF ps (stpC c q)=decide ((needE ps ps[q].evs[i]).2≤cAt c (needE ps ps[q].evs[i]).1):=by
     by_cases hb:isF ps (stpC c q)=true
     ·rw[hb];exact(decide_eq_true (hst.1 hb)).symm
     ·rw[Bool.not_eq_true] at hb
      rw[hb];exact(decide_eq_false fun h=>by rw[hst.2 h] at hb;cases hb).symm
    have h0n:0≤cAt c (needE ps ps[q].evs[i]).1:=by
     have h5:=(inRange_iff h1).1 h2 (needE ps ps[q].evs[i]).1.toNat (by omega)
     rw[Int.toNat_of_nonneg hin.1] at h5
     exact h5.1
    rw[e1,e2,Bool.true_and]
    generalize needE ps ps[q].evs[i]=ne at *
    obtain⟨n1,n2⟩:=ne
    have g6:=getD_cAt (c:=c) hin.1 (by omega)
    dsimp only at hin h0n
    refine Wk ?_
    refine AWp.seq ?_
    repeat(first|(with_reducible refine AWp.seq ?_)|(with_reducible refine AWp.block ?_))
    refine AWp.mix mixed [0,1,2,3,4,5,6,7,8,9,10,11,12] (.step 13 (.step 14 .done .done) .done) (by kernel_rfl) ?_;simp only[go_sem,g1,g3,g4,g5,hnl]
    refine Sd ?_
    intro b7
    refine AWp.seq ?_
    repeat(first|(with_reducible refine AWp.seq ?_)|(with_reducible refine AWp.block ?_))
    refine AWp.read mixed [0,1,2,3,4,5,6,7,8,9,10,11,12,13] (by kernel_rfl) ?_;simp only[go_sem,g6]
    refine Sd ?_
    have hor:(decide (n2=0) || decide (n2≤cAt c n1))=decide (n2≤cAt c n1):=by
     by_cases hz:n2=0
     ·rw[hz,decide_eq_true h0n];rfl
     ·rw[decide_eq_false hz,Bool.false_or]
    refine W1 hor ?_
    refine ret_eq ?_;simp only[go_sem]
  ·have g1:(c.map ai).getD p.toNat .any = .any:=by
    rw[List.getD_eq_getElem?_getD,List.getElem?_eq_none (by rw[List.length_map];omega)];rfl
   have g3:(aNeeds ps ps).getD p.toNat .any = .any:=by
    rw[List.getD_eq_getElem?_getD,List.getElem?_eq_none (by rw[hnl];omega)];rfl
   have z1:(c.length:Int)≤p:=by omega
   have hm:mayF ps c p=false:=by unfold mayF;rw[decide_eq_false (by omega)];rfl
   rw[hm]
   unfold aRs
   refine PC.enter 57 [.tmp 6] [7] Proofs.Tryz.func21 rfl rfl rfl rfl rfl (by simp) (AWp.of ?_);simp only[go_sem]
   refine W1 hp0 ?_
   refine AWp.seq (AWp.seq ?_)
   repeat(first|(with_reducible refine AWp.seq ?_)|(with_reducible refine AWp.block ?_))
   refine AWp.read mixed [0,1,2,3,4,5,6,7,8,9,10,11,12,13,14,15,16,17,18,19,20,21,22] (by kernel_rfl) ?_;simp only[go_sem,hp0,z1,g1,g3,hnl,List.getD_nil]
   refine Sd ?_
   refine Wk ?_
   refine ret_eq ?_;simp only[go_sem]
theorem run_next (c:List Int) (hc:c.length≤1000000) (hb:∀z ∈ c,0≤z∧z≤1000000) (p:Nat) (hp:p<c.length):PC Proofs.Tryz.prog 22 [aInts c,ai (p:Nat)] (aInts (stpC c p)):=by
 have hcl:=ints_cloneO c hc
 have hcp:=cAt_nat hp
 have hz:=hb _ (List.getElem_mem hp)
 have g1:=getD_map (f:=ai) hp
 refine PC.enter 15 [.tmp 4] [] Proofs.Tryz.func22 rfl rfl rfl rfl rfl (by simp) (AWp.of ?_);simp only[go_sem]
 refine Wk ?_
 refine hcl.val.mono ?_
 rintro r L hA
 rcases hA.inv with ⟨e1,rfl,rfl⟩|⟨b,cap,rfl,rfl⟩
 ·have:=congrArg List.length e1
  rw[List.length_map] at this
  have:c.length=0:=this
  omega
 ·simp only[go_sem]
  refine W1 g1 ?_
  refine ret_view [true] ?_;simp only[go_sem]
  have e:(c.map ai).set p (ai (c[p]+1))=(stpC c p).map ai:=by unfold stpC;rw[List.map_set,hcp]
  show Vw [(b,.row 3 1 ((c.map ai).set p (ai (c[p]+1))) cap)] _ (.sl 1 ((stpC c p).map ai))
  rw[e]
  exact Vw.ofLs (if_pos rfl) (by rw[List.length_map,stp_len])
def k8 (z:Int):Int:=IntKind.u8.wrap z
def keyS (c:List Int):ByteArray:=bytesS (c.map k8)
theorem run_key (c:List Int) (hc:c.length≤1000000):PC Proofs.Tryz.prog 19 [aInts c] (.v (.string (keyS c))):=by
 refine PC.enter 23 [.tmp 2] [18] Proofs.Tryz.func19 rfl rfl rfl rfl rfl (by simp) (AWp.of ?_);simp only[go_sem]
 refine Wk ?_
 refine Sd ?_
 intro b8
 refine Wk ?_
 refine AWp.range' c.length [3] [9,10] (fun k vs L=>∃b cap ys,vs=[.ls b 1 0 k cap]∧L=[(b,.row 5 1 ys cap)]∧k≤ys.length∧ys.take k=((c.map k8).map a8).take k) (by omega) rfl rfl rfl ⟨_,_,_,rfl,rfl,Nat.zero_le _,rfl⟩ ?_ ?_
 ·rintro k vs L hk - ⟨b,cap,ys,rfl,rfl,hy1,hy2⟩
  have hg:=getD_map (f:=ai) hk
  simp only[go_sem]
  refine W1 hg ?_
  intro b' cap' hc'
  refine⟨_,List.Sublist.refl _,b',cap',_,rfl,rfl,?_,?_⟩
  ·rw[List.length_append,List.length_take];simp only[List.length_cons,List.length_nil];omega
  ·have e:((c.take (k+1)).map k8).map a8=((c.take k).map k8).map a8 ++ [.v (.int .u8 (IntKind.u8.wrap c[k]))]:=by
    rw[List.take_succ_eq_append_getElem hk,List.map_append,List.map_append];rfl
   rw[e,List.take_of_length_le (by rw[List.length_append,List.length_take];simp only[List.length_cons,List.length_nil];omega)]
   rw[← List.map_take,← List.map_take] at hy2
   rw[hy2]
 ·rintro vs L - ⟨b,cap,ys,rfl,rfl,hy1,hy2⟩
  have hy3:ys.take c.length=(c.map k8).map a8:=by
   rw[hy2];exact List.take_of_length_le (by simp)
  simp only[go_sem]
  repeat(first|((with_reducible refine AWp.ofC ?_ ?_);exact rfl;simp only[go_sem,hy3,bytesOf_map])|((with_reducible refine an ?_ ?_);exact Au))
  refine ret_eq ?_;simp only[go_sem]
  rfl
theorem bytesS_eq (l:List Int):bytesS l=⟨(l.map fun n=>UInt8.ofNat n.toNat).toArray⟩:=by
 unfold bytesS
 have:∀(l:List Int) (r:ByteArray),l.foldl (fun r n=>r.push (UInt8.ofNat n.toNat)) r=⟨r.data ++ (l.map fun n=>UInt8.ofNat n.toNat).toArray⟩:=fun l=>by
  induction l with
  | nil=>intro r;simp
  | cons n l ih=>intro r;rw[List.foldl_cons,ih];simp [ByteArray.push]
 rw[this]
 have h0:ByteArray.empty.data = #[]:=rfl
 rw[h0];simp
theorem keyS_inj {c d:List Int} (hc:∀z ∈ c,0≤z∧z≤255) (hd:∀z ∈ d,0≤z∧z≤255) (h:keyS c=keyS d):c=d:=by
 unfold keyS at h
 rw[bytesS_eq,bytesS_eq] at h
 have h1:(c.map k8).map (fun n=>UInt8.ofNat n.toNat)=(d.map k8).map (fun n=>UInt8.ofNat n.toNat):=by
  have:=congrArg (fun b=>b.data.toList) h
  simpa using this
 have e:∀l:List Int,(∀z ∈ l,0≤z∧z≤255)→l.map k8=l:=fun l hl=>by
  refine(List.map_congr_left fun z hz => ?_).trans (List.map_id _)
  exact IntWalk.u8_in z (hl z hz)
 rw[e c hc,e d hd] at h1
 apply List.ext_getElem (by have:=congrArg List.length h1;rw[List.length_map,List.length_map] at this;exact this)
 intro i g1 g2
 have h2:=List.getElem_of_eq h1 (i:=i) (by rw[List.length_map];exact g1)
 rw[List.getElem_map,List.getElem_map] at h2
 have a1:=hc _ (List.getElem_mem g1)
 have a2:=hd _ (List.getElem_mem g2)
 have h3:=congrArg UInt8.toNat h2
 rw[UInt8.toNat_ofNat',UInt8.toNat_ofNat'] at h3
 omega
theorem isF_byte {ps:List Pr} (hv:validF ps=true) {c:List Int} (hc:isF ps c=true):∀z ∈ c,0≤z∧z≤255:=fun z hz=>by
 obtain⟨h1,h2,_⟩:=isF_iff.1 hc
 obtain⟨i,hi,rfl⟩:=List.getElem_of_mem hz
 have h3:=(inRange_iff h1).1 h2 i (by omega)
 have h4:=((procF_parts (show i<ps.length by omega)).1 (procF_of_valid hv (by omega))).2.2.2
 rw[cAt_nat hi] at h3
 omega
end Go.AL
end
