/- Texts of this claim's proof: WDx, WPu, WNc, WQa, WQb, WQc, WQf, WQg, WQh, WQi, WNe, WOa, WQd, WQj, WQk, WQl, WQm, WQp, WQn, WU7, WU2, WU3, WU4, WU5, WU6, WU8, WU9, WNf, WNd2, WNh, WU10, WU12, WU13, WQe, WXg, WU14, WI1, WNg, WNi, WNj. No condition. -/
import Derived.Test.YtpcmoecaaphjmaaGreatDoorM10
import Derived.Test.YtpcmoecaaphjmaaGreatDoorM9
import Derived.Test.YtpcmoecaaphjmaaGreatDoorM4
import Derived.Test.YtpcmoecaaphjmaaGreatDoorM5
import Derived.Test.YtpcmoecaaphjmaaGreatDoorM8
section
namespace Go.AL
open Go Go.RowKit
set_option maxRecDepth 4000
section
variable {ps:List Pr} {c:List Int}
end
def ordL (a b:List Int):Prop:=a.sum<b.sum∨(a.sum=b.sum∧cmpL a b<0)
theorem isF_given {ps:List Pr} (hv:validF ps=true) {c:List Int} : givenF ps [c] []=0↔isF ps c=true:=by
 rw[givenL,isF_iff];simp [hv,and_assoc]
theorem leq_iff_at {a b:List Int} : leqF a b=true↔a.length=b.length∧∀p:Nat,p<a.length→cAt a p≤cAt b p:=leqF_iff
theorem leq_sum:∀ {a b:List Int},leqF a b=true→a.sum≤b.sum∧(a.sum=b.sum→a=b)
 | [],[],_=>⟨Int.le_refl _,fun _=>rfl⟩
 | [],_ :: _,h=>by have:=(leqF_iff.1 h).1;simp at this
 | _ :: _,[],h=>by have:=(leqF_iff.1 h).1;simp at this
 | x :: a,y :: b,h=>by
  obtain⟨h1,h2⟩:=leqF_iff.1 h
  have h0:x≤y:=by simpa using h2 0 (by simp)
  obtain⟨i1,i2⟩:=leq_sum (a:=a) (b:=b) (leqF_iff.2 ⟨by simpa using h1,fun i hi=>by have:=h2 (i+1) (by simpa using hi);simpa using this⟩)
  rw[List.sum_cons,List.sum_cons]
  refine⟨by omega,fun h => ?_⟩
  rw[i2 (by omega),show x=y by omega]
theorem ord_bef {a b:List Int} (hl:a.length=b.length) (h:ordL a b):befF a b=true:=by
 unfold befF
 rcases h with h|⟨h1,h2⟩
 ·rw[if_neg (by omega)];exact decide_eq_true h
 ·rw[if_pos h1];exact(lexF_iff hl).2 h2
section
variable {A:List (List Int)} (hA:A.Pairwise ordL)
include hA
end
theorem rdy_is {ps:List Pr} {c:List Int} {p:Nat} (h:rdyF ps c p=true):isF ps (stpC c p)=true:=(of_decide_eq_true h).2
theorem stp_len (c:List Int) (p:Nat):(stpC c p).length=c.length:=by unfold stpC;rw[List.length_set]
section
variable {ps:List Pr} (hv:validF ps=true)
include hv
end
def stepG (a b:List Int):Nat→Option Int
 | 0=>some (-1)
 | k+1=>match stepG a b k with
  | none=>none
  | some p=>if cAt a k=cAt b k then some p else if 0≤p∨¬cAt b k=cAt a k+1 then none else some k
def stepF (a b:List Int):Int:=if a.length=b.length then (stepG a b a.length).getD (-1) else -1
theorem stepG_some {a b:List Int} : ∀ {k:Nat} {z:Int},stepG a b k=some z↔(z = -1∧∀i:Nat,i<k→cAt a i=cAt b i)∨∃q:Nat,q<k∧z=q∧cAt b q=cAt a q+1∧∀i:Nat,i<k→i ≠ q→cAt a i=cAt b i
 | 0,z=>by
  constructor
  ·intro h;exact .inl ⟨(Option.some.inj h).symm,fun i hi=>by omega⟩
  ·rintro(⟨h,_⟩|⟨q,h,_⟩)
   ·rw[h];rfl
   ·omega
 | k+1,z=>by
  have e:stepG a b (k+1)=match stepG a b k with
   | none=>none
   | some p=>if cAt a k=cAt b k then some p else if 0≤p∨¬cAt b k=cAt a k+1 then none else some k:=rfl
  rw[e]
  constructor
  ·intro h
   cases hs:stepG a b k with
   | none=>rw[hs] at h;cases h
   | some p =>
    rw[hs] at h
    simp only at h
    have ih:=stepG_some.1 hs
    by_cases h1:cAt a k=cAt b k
    ·rw[if_pos h1] at h
     cases h
     rcases ih with ⟨i1,i2⟩|⟨q,i1,i2,i3,i4⟩
     ·exact .inl ⟨i1,fun i hi=>by
       by_cases e:i=k
       ·subst e;exact h1
       ·exact i2 i (by omega)⟩
     ·exact .inr ⟨q,by omega,i2,i3,fun i hi hn=>by
       by_cases e:i=k
       ·subst e;exact h1
       ·exact i4 i (by omega) hn⟩
    ·rw[if_neg h1] at h
     split at h
     ·cases h
     ·rename_i h2
      cases h
      rcases ih with ⟨i1,i2⟩|⟨q,i1,i2,i3,i4⟩
      ·refine .inr ⟨k,by omega,rfl,?_,fun i hi hn=>i2 i (by omega)⟩
       apply Classical.byContradiction;intro h3;exact h2 (.inr h3)
      ·exact absurd (.inl (by omega)) h2
  ·rintro(⟨i1,i2⟩|⟨q,i1,i2,i3,i4⟩)
   ·rw[stepG_some.2 (.inl ⟨i1,fun i hi=>i2 i (by omega)⟩)]
    simp only
    rw[if_pos (i2 k (by omega))]
   ·by_cases e:q=k
    ·subst e
     rw[stepG_some.2 (.inl ⟨rfl,fun i hi=>i4 i (by omega) (by omega)⟩)]
     simp only
     rw[if_neg (by omega),if_neg (by omega),i2]
    ·rw[stepG_some.2 (.inr ⟨q,by omega,i2,i3,fun i hi hn=>i4 i (by omega) hn⟩)]
     simp only
     rw[if_pos (i4 k (by omega) (by omega))]
theorem stepF_iff {a b:List Int} {q:Nat} : stepF a b=q↔q<a.length∧b=stpC a q:=by
 unfold stepF
 constructor
 ·intro h
  split at h
  ·rename_i hl
   cases hs:stepG a b a.length with
   | none=>rw[hs] at h;simp at h
   | some z =>
    rw[hs] at h
    simp only[Option.getD_some] at h
    subst h
    rcases stepG_some.1 hs with ⟨i1,_⟩|⟨p,i1,i2,i3,i4⟩
    ·omega
    ·have:p=q:=by omega
     subst this
     refine⟨i1,?_⟩
     apply List.ext_getElem (by rw[stp_len];omega)
     intro i g1 g2
     rw[← cAt_nat g1,← cAt_nat g2,cAt_stp (by omega)]
     split
     ·rename_i e;subst e;exact i3
     ·rename_i e;exact(i4 i (by omega) fun h=>e h.symm).symm
  ·omega
 ·rintro⟨hq,rfl⟩
  rw[if_pos (stp_len a q).symm,stepG_some.2 (.inr ⟨q,hq,rfl,?_,?_⟩)]
  ·rfl
  ·rw[cAt_stp hq,if_pos rfl]
  ·intro i hi hn
   rw[cAt_stp hi,if_neg (fun e=>hn e.symm)]
theorem stepF_range (a b:List Int):stepF a b = -1∨∃q:Nat,stepF a b=q:=by
 unfold stepF
 split
 ·cases hs:stepG a b a.length with
  | none=>exact .inl rfl
  | some z =>
   rcases stepG_some.1 hs with ⟨i1,_⟩|⟨p,_,i2,_⟩
   ·exact .inl i1
   ·exact .inr ⟨p,i2⟩
 ·exact .inl rfl
def stpP (ps:List Pr) (a b:List Int):Option Nat:=(List.range ps.length).find? fun p=>rdyF ps a p && decide (b=stpC a p)
theorem stpC_inj {a:List Int} {p q:Nat} (hp:p<a.length) (hq:q<a.length) (h:stpC a p=stpC a q):p=q:=by
 have h1:cAt (stpC a p) p=cAt (stpC a q) p:=by rw[h]
 rw[cAt_stp hp,cAt_stp hp,if_pos rfl] at h1
 split at h1
 ·rename_i e;exact e.symm
 ·omega
theorem stpP_some {ps:List Pr} {a b:List Int} (ha:a.length=ps.length) {p:Nat} : stpP ps a b=some p↔p<ps.length∧rdyF ps a p=true∧b=stpC a p:=by
 constructor
 ·intro h
  have h1:=List.find?_some h
  have h2:=List.mem_of_find?_eq_some h
  rw[Bool.and_eq_true,decide_eq_true_eq] at h1
  exact⟨List.mem_range.1 h2,h1.1,h1.2⟩
 ·rintro⟨h1,h2,h3⟩
  cases hf:stpP ps a b with
  | none =>
   have:=List.find?_eq_none.1 hf p (List.mem_range.2 h1)
   rw[h2,decide_eq_true h3] at this
   simp at this
  | some q =>
   have g1:=List.find?_some hf
   have g2:=List.mem_range.1 (List.mem_of_find?_eq_some hf)
   rw[Bool.and_eq_true,decide_eq_true_eq] at g1
   rw[stpC_inj (a:=a) (by omega) (by omega) (g1.2.symm.trans h3)]
theorem stpP_step {ps:List Pr} {a b:List Int} (ha:isF ps a=true):stpP ps a b=if isF ps b=true∧0≤stepF a b then some (stepF a b).toNat else none:=by
 have hl:=(isF_iff.1 ha).1
 split
 ·rename_i h
  rcases stepF_range a b with e|⟨q,e⟩
  ·rw[e] at h;exact absurd h.2 (by decide)
  ·rw[e]
   obtain⟨h1,h2⟩:=stepF_iff.1 e
   refine(stpP_some hl).2 ⟨by omega,?_,h2⟩
   have e2:((q:Int)).toNat=q:=by omega
   rw[e2]
   unfold rdyF
   rw[decide_eq_true_eq,← h2]
   refine⟨?_,h.1⟩
   obtain⟨bl,br,_⟩:=isF_iff.1 h.1
   have:=(inRange_iff bl).1 br q (by omega)
   have e3:cAt b q=cAt a q+1:=by rw[h2,cAt_stp h1,if_pos rfl]
   rw[nev_get (by omega)];omega
 ·rename_i h
  cases hf:stpP ps a b with
  | none=>rfl
  | some p =>
   obtain⟨g1,g2,g3⟩:=(stpP_some hl).1 hf
   exact absurd ⟨by rw[g3];exact rdy_is g2,by rw[stepF_iff.2 ⟨by omega,g3⟩];omega⟩ h
def zeroC (ps:List Pr):List Int:=List.replicate ps.length 0
def chnF (ps:List Pr):List Int→List (List Int)→Bool
 | _,[]=>true
 | a,b :: r=>(isF ps b && decide (0≤stepF a b)) && chnF ps b r
def isRunF (ps:List Pr):List (List Int)→Bool
 | []=>false
 | a :: r=>decide (a=zeroC ps∧(a :: r).getLast?=some (fullC ps)) && chnF ps a r
theorem zeroC_is (ps:List Pr):isF ps (zeroC ps)=true:=isF_zero
section
variable {ps:List Pr} (hv:validF ps=true) {l:List (List Int)} (hl:l=cutsF ps)
include hv hl
end
def ptF (ps:List Pr) (p i:Nat):List Int:=closeF ps (stC ps.length p ((i:Int)+1))
section
variable {ps:List Pr} (hv:validF ps=true) {p:Nat} (hp:p<ps.length) {i:Nat} (hi:i<ps[p].evs.length)
include hv hp hi
theorem pt_is:isF ps (ptF ps p i)=true:=by
 obtain⟨a1,a2⟩:=stC_ok (k:=(i:Int)+1) hp (by omega) (by omega)
 obtain⟨b1,b2,_⟩:=closeF_ok hv a1 a2
 exact isF_iff.2 ⟨b1,b2,closeF_closed hv a1 a2⟩
theorem pt_has:(i:Int)+1≤cAt (ptF ps p i) p:=by
 obtain⟨a1,a2⟩:=stC_ok (k:=(i:Int)+1) hp (by omega) (by omega)
 have:=closeF_ge hv a1 a2 p hp
 rw[stC_cAt hp,if_pos rfl] at this
 exact this
end
theorem pt_least {ps:List Pr} (hv:validF ps=true) {p:Nat} (hp:p<ps.length) {i:Nat} {d:List Int} (hd:isF ps d=true) (h:(i:Int)+1≤cAt d p):∀q,q<ps.length→cAt (ptF ps p i) q≤cAt d q:=by
 obtain⟨d1,d2,d3⟩:=isF_iff.1 hd
 have:=need_le hv d1 d2 d3 (q:=p) (k:=i+1) hp (by omega)
 have e:(((i+1:Nat):Nat):Int)=(i:Int)+1:=by omega
 rw[e] at this
 exact this
theorem chn_cons {ps:List Pr} {a b:List Int} {r:List (List Int)} (ha:isF ps a=true):chnF ps a (b :: r)=true↔∃q:Nat,q<ps.length∧rdyF ps a q=true∧b=stpC a q∧stepF a b=q∧chnF ps b r=true:=by
 have hl:=(isF_iff.1 ha).1
 have e:chnF ps a (b :: r)=((isF ps b && decide (0≤stepF a b)) && chnF ps b r):=rfl
 rw[e,Bool.and_eq_true,Bool.and_eq_true,decide_eq_true_eq]
 constructor
 ·rintro⟨⟨h1,h2⟩,h3⟩
  have h4:=stpP_step (b:=b) ha
  rw[if_pos ⟨h1,h2⟩] at h4
  obtain⟨g1,g2,g3⟩:=(stpP_some hl).1 h4
  exact⟨_,g1,g2,g3,by omega,h3⟩
 ·rintro⟨q,h1,h2,h3,h4,h5⟩
  exact⟨⟨by rw[h3];exact rdy_is h2,by omega⟩,h5⟩
theorem isrun_mk {ps:List Pr} {R:List (List Int)} (h:chnF ps (zeroC ps) R=true) (hl:(zeroC ps :: R).getLast?=some (fullC ps)):isRunF ps (zeroC ps :: R)=true:=by
 show (decide (zeroC ps=zeroC ps∧(zeroC ps :: R).getLast?=some (fullC ps)) && chnF ps (zeroC ps) R)=true
 rw[decide_eq_true ⟨rfl,hl⟩,h];rfl
theorem chn_app {ps:List Pr} : ∀ {R S:List (List Int)} {c d:List Int},(c :: R).getLast?=some d→chnF ps c R=true→chnF ps d S=true→chnF ps c (R ++ S)=true
 | [],S,c,d,h,_,h2=>by
  have:c=d:=Option.some.inj h
  subst this;exact h2
 | b :: R,S,c,d,h,h1,h2=>by
  have e:chnF ps c (b :: R)=((isF ps b && decide (0≤stepF c b)) && chnF ps b R):=rfl
  have e2:chnF ps c (b :: R ++ S)=((isF ps b && decide (0≤stepF c b)) && chnF ps b (R ++ S)):=rfl
  rw[e,Bool.and_eq_true] at h1
  rw[e2,h1.1,Bool.true_and]
  rw[List.getLast?_cons_cons] at h
  exact chn_app h h1.2 h2
end Go.AL
end
section
namespace Go.AL
open Go Go.RowKit
theorem fits_str (s:ByteArray):(KK.sc .str).fits (.string s)=true:=rfl
attribute [go_sem] fits_str
structure MpS (ks:List Value) (vs:List AV) (z:AV) (f:ByteArray→AV):Prop where
 fits:ks.all (KK.sc .str).fits=true
 len:vs.length=ks.length
 get:∀s,mget (.string s) ks vs z=f s
theorem MpS.nil (z:AV):MpS [] [] z fun _=>z:=⟨rfl,rfl,fun _=>rfl⟩
theorem mfind_lt {k:Value} : ∀ {ks:List Value} {i:Nat},mfind k ks=some i→i<ks.length
 | [],_,h=>by cases h
 | k' :: r,i,h=>by
  unfold mfind at h
  split at h
  ·cases h;simp
  ·split at h
   ·rename_i j hj;cases h;have:=mfind_lt hj;simp;omega
   ·cases h
theorem seqB_dec' (a b:ByteArray):seqB a b=decide (a=b):=seqB_dec a b
theorem keyB_str {s:ByteArray} {k:Value} (hk:(KK.sc .str).fits k=true):keyB (.string s) k=true↔k = .string s:=by
 have:=vfits_inv (k:=.str) (a:=k) hk
 cases this with
 | str t =>
  show seqB s t=true↔_
  rw[seqB_dec',decide_eq_true_eq]
  exact⟨fun h=>by rw[h],fun h=>by cases h;rfl⟩
theorem mfind_str {s:ByteArray} : ∀ {ks:List Value} (_:ks.all (KK.sc .str).fits=true) {i:Nat},mfind (.string s) ks=some i→ks[i]?=some (.string s)
 | [],_,_,h=>by cases h
 | k' :: r,hf,i,h=>by
  rw[List.all_cons,Bool.and_eq_true] at hf
  unfold mfind at h
  split at h
  ·rename_i hk;cases h;rw[(keyB_str hf.1).1 hk];rfl
  ·split at h
   ·rename_i j hj;cases h;exact mfind_str hf.2 hj
   ·cases h
theorem mfind_app {s t:ByteArray} : ∀ {ks:List Value},mfind (.string t) (ks ++ [.string s])=match mfind (.string t) ks with
  | some i=>some i
  | none=>if t=s then some ks.length else none
 | []=>by
  show (if keyB (.string t) (.string s)=true then some 0 else none)=if t=s then some 0 else none
  show (if seqB t s=true then some 0 else none)=_
  rw[seqB_dec']
  by_cases h:t=s
  ·rw[if_pos h,if_pos (decide_eq_true h)]
  ·rw[if_neg h,if_neg (by rw[decide_eq_false h];simp)]
 | k' :: r=>by
  have ih:=mfind_app (s:=s) (t:=t) (ks:=r)
  rw[List.cons_append]
  unfold mfind
  by_cases h:keyB (.string t) k'=true
  ·rw[if_pos h,if_pos h]
  ·rw[if_neg h,if_neg h,ih]
   cases hm:mfind (.string t) r with
   | some i=>rfl
   | none =>
    simp only
    by_cases e:t=s
    ·rw[if_pos e,if_pos e];simp
    ·rw[if_neg e,if_neg e]
theorem MpS.put {ks:List Value} {vs:List AV} {z:AV} {f:ByteArray→AV} (h:MpS ks vs z f) (s:ByteArray) (x:AV) :
  ∃ks' vs',mput (.string s) x ks vs = .amap ks' vs'∧MpS ks' vs' z fun t=>if t=s then x else f t:=by
 unfold mput
 cases hm:mfind (.string s) ks with
 | some i =>
  refine⟨ks,vs.set i x,rfl,h.fits,by rw[List.length_set];exact h.len,fun t => ?_⟩
  have hi:=mfind_lt hm
  have hl:=h.len
  unfold mget
  by_cases e:t=s
  ·subst e
   rw[hm,if_pos rfl]
   simp only
   rw[List.getD_eq_getElem?_getD,List.getElem?_set,if_pos rfl,if_pos (by omega)];rfl
  ·rw[if_neg e,← h.get t]
   unfold mget
   cases ht:mfind (.string t) ks with
   | none=>rfl
   | some j =>
    simp only
    have h1:=mfind_str h.fits hm
    have h2:=mfind_str h.fits ht
    have hne:i ≠ j:=fun e2=>by
     subst e2
     rw[h1] at h2
     exact e (by have:=Option.some.inj h2;injection this with h3;exact h3.symm)
    rw[List.getD_eq_getElem?_getD,List.getElem?_set_ne hne,← List.getD_eq_getElem?_getD]
 | none =>
  refine⟨ks ++ [.string s],vs ++ [x],rfl,by rw[List.all_append,h.fits];rfl,by rw[List.length_append,List.length_append,h.len];rfl,fun t => ?_⟩
  unfold mget
  rw[mfind_app]
  by_cases e:t=s
  ·subst e
   rw[hm,if_pos rfl]
   simp only
   rw[if_pos trivial,List.getD_eq_getElem?_getD,List.getElem?_append_right (by rw[h.len];exact Nat.le_refl _),h.len,Nat.sub_self];rfl
  ·rw[if_neg e,← h.get t]
   unfold mget
   cases ht:mfind (.string t) ks with
   | none=>simp only;rw[if_neg e]
   | some j =>
    have hj:=mfind_lt ht
    simp only
    rw[if_neg e,List.getD_eq_getElem?_getD,List.getElem?_append_left (by rw[h.len];exact hj),← List.getD_eq_getElem?_getD]
end Go.AL
end
section
namespace Go.AL
open Go Go.RowKit
set_option maxRecDepth 4000
theorem ret_viewK {P:Program} {rs:List ResultVar} {K:AV→AHeap→Prop} {ρ:Env} {L:AHeap} (m:List Bool) (r:AV) (hK:K r []) (h:retV P rs m r ρ L):retK P rs K ρ L:=by
 unfold retK;unfold retV at h
 split at h
 ·rename_i e;(try rw[e]);exact⟨h.1,m,r,[],h.2,.none _,hK⟩
 ·exact h.elim
theorem ref24_same (a b:List Int) (ha:a.length≤1000000):PC Proofs.Tryz.prog 78 [aInts a,aInts b] (ab (decide (a=b))):=by
 by_cases hl:a.length=b.length
 ·have hli:(a.length:Int)=b.length:=by omega
  refine PC.enter 26 [.tmp 4] [] Proofs.Tryz.func78 rfl rfl rfl rfl rfl (by simp) (AWp.of ?_);simp only[go_sem]
  refine W1 hli ?_
  refine AWp.block (AWp.count 5 a.length [] [0,1] (fun k vs L=>L=[]∧∀j (h1:j<a.length) (h2:j<b.length),j<k→a[j]=b[j]) rfl rfl ⟨rfl,fun j _ _ h=>by omega⟩ ?_)
  rintro k vs L hk - ⟨rfl,hI⟩
  simp only[go_sem]
  refine W1 hli ?_
  refine⟨fun h3 => ?_,fun h3 => ?_⟩
  ·have hka:k<a.length:=by omega
   have hkb:k<b.length:=by omega
   have ga:=getD_map (f:=ai) hka
   have gb:=getD_map (f:=ai) hkb
   refine AWp.seq (AWp.block (AWp.seq ?_))
   refine AWp.drawn mixed 9 (by kernel_rfl) ?_;simp only[go_sem,ga,gb]
   refine Sd ?_
   refine Wk ?_
   refine⟨fun h4 => ?_,fun h4 => ?_⟩
   ·refine Wk ?_
    refine ret_eq ?_;simp only[go_sem]
    rw[decide_eq_false]
    rintro rfl
    exact h4 rfl
   ·refine Wk ?_
    refine⟨_,List.Sublist.refl _,rfl,fun j j1 j2 hj => ?_⟩
    by_cases e:j=k
    ·subst e;omega
    ·exact hI j j1 j2 (by omega)
  ·refine Wk ?_
   refine ret_eq ?_;simp only[go_sem]
   rw[decide_eq_true]
   exact List.ext_getElem hl fun j j1 j2=>hI j j1 j2 (by omega)
 ·have hli:¬(a.length:Int)=b.length:=by omega
  rw[decide_eq_false fun h=>hl (by rw[h])]
  refine PC.enter 26 [.tmp 4] [] Proofs.Tryz.func78 rfl rfl rfl rfl rfl (by simp) (AWp.of ?_);simp only[go_sem]
  refine W1 hli ?_
  refine ret_eq ?_;simp only[go_sem]
theorem ref24_Same (a b:List (List Int)) (ha:a.length≤1000000) (hx:∀x ∈ a,x.length≤1000000):PC Proofs.Tryz.prog 38 [aRows a,aRows b] (ab (decide (a=b))):=by
 have hR:∀x:List (List Int),aRows x = .sl 1 (x.map aInts):=fun _=>rfl
 rw[hR,hR]
 by_cases hl:a.length=b.length
 ·have hli:(a.length:Int)=b.length:=by omega
  refine PC.enter 27 [.tmp 4] [] Proofs.Tryz.func38 rfl rfl rfl rfl rfl (by simp) (AWp.of ?_);simp only[go_sem]
  refine W1 hli ?_
  refine AWp.block (AWp.count 5 a.length [] [0,1] (fun k vs L=>L=[]∧∀j (h1:j<a.length) (h2:j<b.length),j<k→a[j]=b[j]) rfl rfl ⟨rfl,fun j _ _ h=>by omega⟩ ?_)
  rintro k vs L hk - ⟨rfl,hI⟩
  simp only[go_sem]
  refine W1 hli ?_
  refine⟨fun h3 => ?_,fun h3 => ?_⟩
  ·have hka:k<a.length:=by omega
   have hkb:k<b.length:=by omega
   have ga:=getD_map (f:=aInts) hka
   have gb:=getD_map (f:=aInts) hkb
   have hsl:=ref24_same a[k] b[k] (hx _ (List.getElem_mem hka))
   refine AWp.seq (AWp.block (AWp.seq ?_))
   repeat(first|(with_reducible refine AWp.seq ?_)|(with_reducible refine AWp.block ?_))
   refine AWp.read mixed [0,1,2,3,4,5,6,7,8,9] (by kernel_rfl) ?_;simp only[go_sem,ga,gb]
   refine Sd ?_
   refine GCall.use (ab (decide (a[k]=b[k]))) (fun _=>⟨At,hsl.val.use ⟨rfl,rfl⟩⟩) ?_
   simp only[go_sem]
   refine Sd ?_
   refine Wk ?_
   refine⟨fun h4 => ?_,fun h4 => ?_⟩
   ·refine Wk ?_
    refine ret_eq ?_;simp only[go_sem]
    rw[decide_eq_false]
    rintro rfl
    exact h4 rfl
   ·refine Wk ?_
    refine⟨_,List.Sublist.refl _,rfl,fun j j1 j2 hj => ?_⟩
    by_cases e:j=k
    ·subst e;exact h4
    ·exact hI j j1 j2 (by omega)
  ·refine Wk ?_
   refine ret_eq ?_;simp only[go_sem]
   rw[decide_eq_true]
   exact List.ext_getElem hl fun j j1 j2=>hI j j1 j2 (by omega)
 ·have hli:¬(a.length:Int)=b.length:=by omega
  rw[decide_eq_false fun h=>hl (by rw[h])]
  refine PC.enter 27 [.tmp 4] [] Proofs.Tryz.func38 rfl rfl rfl rfl rfl (by simp) (AWp.of ?_);simp only[go_sem]
  refine W1 hli ?_
  refine ret_eq ?_;simp only[go_sem]
def smW (ps:List Pr):Nat→Int
 | 0=>0
 | k+1=>addW (smW ps k) (nev ps k)
theorem smW_in (ps:List Pr):∀k,-9223372036854775808≤smW ps k∧smW ps k≤9223372036854775807
 | 0=>by show -9223372036854775808≤(0:Int)∧(0:Int)≤9223372036854775807;omega
 | k+1=>by
  show -9223372036854775808≤addW (smW ps k) (nev ps k)∧addW (smW ps k) (nev ps k)≤9223372036854775807
  unfold addW
  rw[IntKind.wrap_i64]
  omega
section
variable {ps:List Pr} (hva:PC Proofs.Tryz.prog 72 [aTr ps] (ab false))
include hva
end
theorem ref23_Find (l:List (List Int)) (c:List Int) (hl:l.length≤1000000) (hx:∀x ∈ l,x.length≤1000000):PC Proofs.Tryz.prog 27 [aRows l,aInts c] (ai (idxF l c)):=by
 have hR:∀x:List (List Int),aRows x = .sl 1 (x.map aInts):=fun _=>rfl
 have hid:idxF l c=match l.findIdx? fun d=>decide (d=c) with|some i=>(i:Int)|none => -1:=by
  unfold idxF
  have:(fun d=>decide (c=d))=fun d=>decide (d=c):=funext fun d=>by rw[decide_eq_decide];exact eq_comm
  rw[this];rfl
 rw[hR]
 refine PC.enter 19 [.tmp 4] [] Proofs.Tryz.func27 rfl rfl rfl rfl rfl (by simp) (AWp.of ?_);simp only[go_sem]
 refine Wk ?_
 refine AWp.block (AWp.count 5 l.length [] [0,1] (fun k vs L=>L=[]∧∀(j:Nat) (hj:j<l.length),j<k→¬l[j]=c) rfl rfl ⟨rfl,fun j hj h=>by omega⟩ ?_)
 rintro k vs L hk - ⟨rfl,hI⟩
 simp only[go_sem]
 refine Wk ?_
 refine⟨fun h1 => ?_,fun h1 => ?_⟩
 ·have hkl:k<l.length:=by omega
  have hg:=getD_map (f:=aInts) hkl
  have hS:=ref15_SameList l[k] c (hx _ (List.getElem_mem hkl))
  refine W1 hg ?_
  refine Sd ?_
  refine(hS).val.use ?_;simp only[go_sem]
  refine Wk ?_
  refine⟨fun h2 => ?_,fun h2 => ?_⟩
  ·have:(l.findIdx? fun d=>decide (d=c))=some k:=by
    rw[List.findIdx?_eq_some_iff_getElem]
    exact⟨hkl,decide_eq_true h2,fun j hj=>by simpa using hI j (by omega) hj⟩
   rw[this] at hid
   rw[hid]
   refine Wk ?_
   refine ret_eq ?_;simp only[go_sem]
  ·refine Wk ?_
   refine⟨_,List.Sublist.refl _,rfl,fun j hj hjk => ?_⟩
   by_cases e:j=k
   ·subst e;exact h2
   ·exact hI j hj (by omega)
 ·have:(l.findIdx? fun d=>decide (d=c))=none:=by
   rw[List.findIdx?_eq_none_iff]
   intro x hx
   obtain⟨j,hj,rfl⟩:=List.getElem_of_mem hx
   exact decide_eq_false (hI j hj (by omega))
  rw[this] at hid
  rw[hid]
  refine Wk ?_
  refine ret_eq ?_;simp only[go_sem]
theorem MCalls.pc {P:Program} {f:FuncId} {args:List AV} {K:AV→AHeap→Prop} {r0:AV} (h:MCalls P f args [] K) (hk:∀r L,K r L→Vw L r r0):PC P f args r0 :=
 ⟨h.1,fun n w A vs h1 h2=>(h.2 n w A vs h1 h2).mono fun e w' hp=>by
  obtain⟨v,r,L',A',e1,hK,hf,hA,hL,hkk,hr⟩:=hp
  refine⟨v,r0,[],fun b=>A' b∨keysOf L' b,e1,⟨rfl,rfl⟩,hf,fun b hb => ?_,hL.viewed (Lf:=L') (Lk:=[]) (by simp) .nil,fun x hx=>absurd hx (by simp),hL.view (Lf:=L') (Lk:=[]) (by simp) (hk r L' hK) hr⟩
  rcases hb with hb|⟨x,hx,rfl⟩
  ·exact hA b hb
  ·rcases hkk x hx with h|h
   ·exact .inr (.inl h)
   ·exact .inr (.inr h)⟩
def copK:Pd→AV→AHeap→Prop
 | .mk k n p q s l,r,L=>∃v,r = .agg [ai k,ai n,ai p,ai q,astr s,v]∧AppSt 27 6 (l.map aPd) v L
theorem copK_vw {t:Pd} {r:AV} {L:AHeap} (h:copK t r L):Vw L r (aPd t):=by
 obtain⟨k,n,p,q,s,l⟩:=t
 obtain⟨v,rfl,hA⟩:=h
 rw[aPd_mk]
 have hv:=hA.vw []
 rw[List.append_nil] at hv
 exact .mkAgg (Vws.cons (.refl _) (Vws.cons (.refl _) (Vws.cons (.refl _) (Vws.cons (.refl _) (Vws.cons (.refl _) (Vws.cons hv .nil))))))
theorem classify_copiedM (t:Pd):szF t≤1000000→MCalls Proofs.Tryz.prog 219 [aPd t] [] (copK t):=by
 induction t using Pd.ind with
 | _ k n p q s l ih =>
 intro hz
 have hsz:szF (.mk k n p q s l)=szL l+1:=by rw[szF]
 have hll:=szL_len l
 have hK:copK (.mk k n p q s l)=fun r L=>∃v,r = .agg [ai k,ai n,ai p,ai q,astr s,v]∧AppSt 27 6 (l.map aPd) v L:=rfl
 rw[hK]
 clear hK
 refine MCalls.enter' 24 [.cell 2 27] [5,19] Proofs.Tryz.func219 rfl rfl rfl rfl rfl (by simp) (AWp.of ?_);simp only[go_sem]
 intro b1 b2 hlt
 have n1:¬b1=b2:=by omega
 have n2:¬b2=b1:=by omega
 refine W2 n1 n2 ?_
 refine AWp.range' l.length [] [1,2,9,10] (fun i vs L=>∃v Ln,L=Ln ++ [(b2,ABlk.row 27 6 [aPd0] 1),(b1,ABlk.row 27 6 [.agg [ai k,ai n,ai p,ai q,astr s,v]] 1)]∧AppSt 27 6 ((l.take i).map aPd) v Ln∧∀x ∈ Ln,x.1 ≠ b1∧x.1 ≠ b2) (by omega) rfl rfl rfl ⟨anil,[],rfl,.nil,by simp⟩ ?_ ?_
 ·rintro i vs L hil - ⟨v,Ln,rfl,hA,hne⟩
  simp only[go_sem]
  have hgi:=getD_map (f:=aPd) hil
  have hzi:=szL_mem (List.getElem_mem hil)
  have hch:PC Proofs.Tryz.prog 219 [aPd l[i]] (aPd l[i]):=(ih l[i] (List.getElem_mem hil) (by omega)).pc fun r L h=>copK_vw h
  have hsu:(l.take (i+1)).map aPd=(l.take i).map aPd ++ [aPd l[i]]:=by
   rw[List.take_succ_eq_append_getElem hil,List.map_append];rfl
  have hyl:((l.take i).map aPd).length≤1000000:=by simp;omega
  generalize (l.take i).map aPd=ys at *
  generalize l[i]=x at *
  obtain⟨k2,o2,p2,q2,s2,l2⟩:=x
  simp only[aPd_mk] at hgi hch hsu
  rcases hA.inv with ⟨e1,rfl,rfl⟩|⟨b,cap,rfl,rfl⟩
  ·refine W1 hgi ?_
   intro b7 g1 g2
   have n7:¬b1=b7:=by omega
   have n8:¬b7=b1:=by omega
   refine Sd ?_
   repeat(first|(with_reducible refine AWp.seq ?_)|(with_reducible refine AWp.block ?_))
   refine AWp.mix mixed [0,2,3] (.step 1 (.step 4 (.step 5 (.step 6 (.step 7 .done .done) .done) .done) .done) (.step 4 (.step 1 (.step 5 (.step 6 (.step 7 .done .done) .done) .done) .done) .done)) (by kernel_rfl) ?_;simp only[go_sem,hgi,n1,n2,n7,n8]
   refine Sd ?_
   refine GCall.use (.agg [ai k2,ai o2,ai p2,ai q2,astr s2,.sl 6 (l2.map aPd)]) (fun _=>⟨At,(hch).val.use ⟨rfl,rfl⟩⟩) ?_;simp only[go_sem,n1,n2]
   repeat' (first|(with_reducible refine And.intro ?_ ?_)|(with_reducible intro _))
   all_goals first|omega|skip
   all_goals
    rename_i b' cap' f1 f2 f3
    have n5:¬b1=b':=by omega
    have n6:¬b2=b':=by omega
    simp only[go_sem,n1,n2,n5,n6]
    refine Sd ?_
    refine W4 n1 n2 n5 n6 ?_
    refine⟨_,List.Sublist.refl _,_,[(b',.row 27 6 [_] cap')],rfl,?_,?_⟩
    ·rw[hsu,e1];exact .row _ [_] _
    ·intro p hp;simp at hp;subst hp;exact⟨fun e=>n5 e.symm,fun e=>n6 e.symm⟩
  ·have m1:¬b=b1:=(hne (b,_) List.mem_cons_self).1
   have m2:¬b=b2:=(hne (b,_) List.mem_cons_self).2
   have m3:¬b1=b:=fun e=>m1 e.symm
   have m4:¬b2=b:=fun e=>m2 e.symm
   refine W1 hgi ?_
   intro b7 g0 g1 g2
   have n7:¬b1=b7:=by omega
   have n8:¬b7=b1:=by omega
   have n9:¬b=b7:=by omega
   have n10:¬b7=b:=by omega
   refine Sd ?_
   repeat(first|(with_reducible refine AWp.seq ?_)|(with_reducible refine AWp.block ?_))
   refine AWp.mix mixed [0,2,3] (.step 1 (.step 4 (.step 5 (.step 6 (.step 7 .done .done) .done) .done) .done) (.step 4 (.step 1 (.step 5 (.step 6 (.step 7 .done .done) .done) .done) .done) .done)) (by kernel_rfl) ?_;simp only[go_sem,hgi,n1,n2,m1,m2,m3,m4,n7,n8,n9,n10]
   refine Sd ?_
   refine GCall.use (.agg [ai k2,ai o2,ai p2,ai q2,astr s2,.sl 6 (l2.map aPd)]) (fun _=>⟨At,(hch).val.use ⟨rfl,rfl⟩⟩) ?_;simp only[go_sem,n1,n2,m1,m2,m3,m4]
   repeat' (first|(with_reducible refine And.intro ?_ ?_)|(with_reducible intro _))
   all_goals first|omega|skip
   all_goals
    rename_i b' cap' n5 n6 f3
    simp only[go_sem,n1,n2,n5,n6]
    refine Sd ?_
    refine W4 n1 n2 n5 n6 ?_
    refine⟨_,List.Sublist.refl _,_,[(b',.row 27 6 (ys ++ [_]) cap')],rfl,?_,?_⟩
    ·rw[hsu]
     have:=AppSt.row (t:=27) (k:=6) b' (ys ++ [.agg [ai k2,ai o2,ai p2,ai q2,astr s2,.sl 6 (l2.map aPd)]]) cap'
     simpa using this
    ·intro p hp;simp at hp;subst hp;exact⟨fun e=>n6 e.symm,fun e=>n5 e.symm⟩
 ·rintro vs L - ⟨v,Ln,rfl,hA,hne⟩
  simp only[go_sem]
  rw[List.take_length] at hA
  generalize l.map aPd=ys at *
  rcases hA.inv with ⟨e1,rfl,rfl⟩|⟨b,cap,rfl,rfl⟩
  ·repeat(first|((with_reducible refine AWp.ofC ?_ ?_);exact rfl;simp only[go_sem,n1,n2,aPd0])|((with_reducible refine an ?_ ?_);exact Au))
   refine ret_sub [] (List.nil_sublist _) ?_
   simp only[go_sem,n1,n2]
   exact⟨_,rfl,by rw[e1];exact .nil⟩
  ·have m1:¬b1=b:=fun e=>(hne (b,_) List.mem_cons_self).1 e.symm
   have m2:¬b2=b:=fun e=>(hne (b,_) List.mem_cons_self).2 e.symm
   repeat(first|((with_reducible refine AWp.ofC ?_ ?_);exact rfl;simp only[go_sem,n1,n2,m1,m2,aPd0])|((with_reducible refine an ?_ ?_);exact Au))
   refine ret_sub [(b,.row 27 6 ys cap)] (List.Sublist.cons_cons _ (List.nil_sublist _)) ?_
   simp only[go_sem,n1,n2,m1,m2]
   exact⟨_,rfl,.row b ys cap⟩
def oppL:List (Int × Int)→Int→Int
 | [],k=>k
 | (a,b) :: r,k=>if k=a then b else if k=b then a else oppL r k
def prsO:List (Int × Int):=[(13,14),(16,17),(9,10),(11,12),(18,21),(19,20)]
def oppF (k:Int):Int:=oppL prsO k
def aPr2 (p:Int × Int):AV:=.agg [ai p.1,ai p.2]
theorem oppL_drop {l:List (Int × Int)} {i:Nat} (hi:i<l.length) (k:Int):oppL (l.drop i) k=if k=l[i].1 then l[i].2 else if k=l[i].2 then l[i].1 else oppL (l.drop (i+1)) k:=by
 rw[List.drop_eq_getElem_cons hi]
 rfl
theorem prsO_len:prsO.length=6:=rfl
theorem classify_opposite (k:Int):PC Proofs.Tryz.prog 220 [ai k] (ai (oppF k)):=by
 have hl6:=prsO_len
 have hd0:oppL (prsO.drop 0) k=oppF k:=rfl
 have hd6:oppL (prsO.drop 6) k=k:=rfl
 have hdr:=fun i (hi:i<prsO.length)=>oppL_drop hi k
 have hgx:=fun i (hi:i<prsO.length)=>getD_map (f:=aPr2) hi
 have hgc:∀i (hi:i<prsO.length),[AV.agg [ai 13,ai 14],.agg [ai 16,ai 17],.agg [ai 9,ai 10],.agg [ai 11,ai 12],.agg [ai 18,ai 21],.agg [ai 19,ai 20]].getD i .any=aPr2 prsO[i]:=hgx
 clear hgx
 generalize oppF k=r at *
 refine PC.enter 34 [.tmp 2] [5,12] Proofs.Tryz.func220 rfl rfl rfl rfl rfl (by simp) (AWp.of ?_);simp only[go_sem]
 refine Wk ?_
 refine AWp.range' 6 [] [0,13,14] (fun i vs L=>L=[]∧oppL (prsO.drop i) k=r) (by omega) rfl rfl rfl ⟨rfl,hd0⟩ ?_ ?_
 ·rintro i vs L hi - ⟨rfl,hI⟩
  have hip:i<prsO.length:=by omega
  have hg:=hgc i hip
  have hd:=hdr i hip
  rw[hI] at hd
  clear hdr hgc
  generalize prsO[i]=p at *
  obtain⟨x,y⟩:=p
  unfold aPr2 at hg
  simp only[go_sem] at hd hg ⊢
  repeat(first|((with_reducible refine AWp.ofC ?_ ?_);exact rfl;simp only[go_sem,hg,List.flatten_cons,List.flatten_nil,List.cons_append,List.nil_append])|((with_reducible refine an ?_ ?_);exact Au))
  intro b5
  refine W1 hg ?_
  refine⟨fun h1 => ?_,fun h1 => ?_⟩
  ·refine W1 hg ?_
   refine ret_eq ?_;simp only[go_sem]
   rw[hd,if_pos h1]
  ·refine W1 hg ?_
   refine⟨fun h2 => ?_,fun h2 => ?_⟩
   ·refine W1 hg ?_
    refine ret_eq ?_;simp only[go_sem]
    rw[hd,if_neg h1,if_pos h2]
   ·refine W1 hg ?_
    exact⟨_,List.Sublist.refl _,rfl,by rw[hd,if_neg h1,if_neg h2]⟩
 ·rintro vs L - ⟨rfl,hI⟩
  rw[hd6] at hI
  simp only[go_sem]
  refine Wk ?_
  refine ret_eq ?_;simp only[go_sem]
  rw[hI]
end Go.AL
end
