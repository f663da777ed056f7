/- Texts of this claim's proof: WCf, WStp, WStp2, WRk, WSame, WDrop, WDv, WRf1, WRf2, WRf3, WDn, WRf4. No condition. -/
import Derived.Test.YtjblppbkhgihoaaGreatDoorM6
import Derived.Test.YtjblppbkhgihoaaGreatDoorM5
section
namespace Go.AL
open Go Go.RowKit
set_option maxRecDepth 4000
def compN (xs:List (List Int)):Nat→List (List Int)
 | 0=>[]
 | 1=>xs.take 1
 | n+2=>if xs[n+1]?=xs[n]? then compN xs (n+1) else compN xs (n+1) ++ xs[n+1]?.toList
def compL (xs:List (List Int)):List (List Int):=compN xs xs.length
theorem compN_all {xs:List (List Int)} : ∀ {n:Nat},n≤xs.length→(∀(i:Nat),0<i→i<n→xs[i]? ≠ xs[i - 1]?)→compN xs n=xs.take n
 | 0,_,_=>by simp [compN]
 | 1,_,_=>rfl
 | n+2,hn,h=>by
  have h1:=compN_all (n:=n+1) (by omega) fun i h0 hi=>h i h0 (by omega)
  have h2:=h (n+1) (by omega) (by omega)
  unfold compN
  rw[if_neg (by simpa using h2),h1,List.take_add_one (i:=n+1)]
theorem compN_mem {xs:List (List Int)} {x:List Int} : ∀n,x ∈ compN xs n↔x ∈ xs.take n
 | 0=>by simp [compN]
 | 1=>by unfold compN;rfl
 | n+2=>by
  have ih:=compN_mem (xs:=xs) (x:=x) (n+1)
  unfold compN
  rw[List.take_add_one (i:=n+1),List.mem_append,← ih]
  split
  ·rename_i e
   refine⟨.inl,fun h=>h.elim id fun h=>ih.2 ?_⟩
   rw[e] at h
   rw[List.take_add_one,List.mem_append];exact .inr h
  ·rw[List.mem_append]
theorem compL_mem {xs:List (List Int)} {x:List Int} : x ∈ compL xs↔x ∈ xs:=by unfold compL;rw[compN_mem,List.take_length]
theorem compN_pair {xs:List (List Int)} (hs:xs.Pairwise fun x y=>¬cmpL y x<0):∀n,n≤xs.length→(compN xs n).Pairwise (fun x y=>cmpL x y<0)
 | 0,_=>by simp [compN]
 | 1,_=>by
  unfold compN
  cases xs with
  | nil=>simp
  | cons x xs=>simp
 | n+2,hn=>by
  have ih:=compN_pair hs (n+1) (by omega)
  unfold compN
  split
  ·exact ih
  ·rename_i hne
   rw[List.getElem?_eq_getElem (by omega),List.getElem?_eq_getElem (show n<xs.length by omega)] at hne
   rw[List.getElem?_eq_getElem (by omega)]
   rw[List.pairwise_append]
   refine⟨ih,by simp,fun x hx y hy => ?_⟩
   obtain rfl:y=xs[n+1]:=by simpa using hy
   rw[compN_mem] at hx
   obtain⟨i,hi,rfl⟩:=List.getElem_of_mem hx
   have hi':i<n+1:=by simp at hi;omega
   rw[List.getElem_take]
   rw[List.pairwise_iff_getElem] at hs
   have h1:¬cmpL xs[n+1] xs[n]<0:=hs n (n+1) (by omega) (by omega) (by omega)
   have h3:cmpL xs[n] xs[n+1]<0:=by
    by_cases c:cmpL xs[n] xs[n+1]<0
    ·exact c
    ·exact absurd (congrArg some (cmpL_anti _ _ h1 c)) hne
   by_cases e:i=n
   ·subst e;exact h3
   ·have h2:¬cmpL xs[n] xs[i]<0:=hs i n (by omega) (by omega) (by omega)
    by_cases c:cmpL xs[i] xs[n]<0
    ·exact cmpL_trans _ _ _ c h3
    ·rw[cmpL_anti _ _ c h2];exact h3
theorem compN_two (xs:List (List Int)) (n:Nat):compN xs (n+2)=if xs[n+1]?=xs[n]? then compN xs (n+1) else compN xs (n+1) ++ xs[n+1]?.toList:=by rw[compN]
theorem rows_compact (b cap:Nat) (xs:List (List Int)) (hx:∀x ∈ xs,x.length≤1000000) (hl:xs.length≤1000000) :
  MCalls Proofs.Tryz.prog 112 [.ls b 1 0 xs.length cap,.v (.func (.func 113) #[] #[])] [(b,.row 47 1 (xs.map aInts) cap)]
   fun r L'=>∃ws cap',r = .ls b 1 0 (compL xs).length cap'∧L'=[(b,.row 47 1 ((compL xs).map aInts ++ ws) cap)]:=by
 refine MCalls.enter' 66 [.tmp 4] [] Proofs.Tryz.func112 rfl rfl rfl rfl rfl (by simp) (AWp.of ?_);simp only[go_sem]
 refine AWp.capOk (b:=b) (if_pos rfl) fun hcap => ?_
 rw[List.length_map] at hcap
 refine Wk ?_
 refine⟨fun h => ?_,fun h => ?_⟩
 ·refine Wk ?_
  refine ret_own ?_
  simp only[go_sem]
  have e:compL xs=xs:=by
   unfold compL
   rw[compN_all (Nat.le_refl _) (fun i h0 hi=>by omega),List.take_length]
  exact⟨[],cap,by rw[e],by rw[e,List.append_nil]⟩
 ·refine Wk ?_
  refine AWp.block (AWp.loopN [5] [0,1] (fun m vs L=>∃k:Nat,vs=[ai k]∧1≤k∧k≤xs.length∧m=xs.length - k∧L=[(b,.row 47 1 (xs.map aInts) cap)]∧∀(i:Nat),0<i→i<k→xs[i]? ≠ xs[i - 1]?) (xs.length - 1) ⟨1,rfl,by omega,by omega,rfl,rfl,fun i h1 h2=>by omega⟩ ?_)
  rintro m vs L - ⟨k,rfl,k1,k2,rfl,rfl,hI⟩
  simp only[go_sem]
  refine Wk ?_
  refine⟨fun h1 => ?_,fun h1 => ?_⟩
  ·have hk:k<xs.length:=by omega
   have hk1:k - 1<xs.length:=by omega
   refine Wk ?_
   refine AWp.seq (AWp.block (AWp.seq ?_))
   have hkm:((k:Int) - 1).toNat=k - 1:=by omega
   have sm:=next_same xs[k] xs[k - 1] (hx _ (List.getElem_mem hk))
   simp only[go_sem] at sm
   repeat(first|(with_reducible refine AWp.seq ?_)|(with_reducible refine AWp.block ?_))
   refine AWp.read mixed [0,1,2,3,4,5,6,7,8,9,10] (by kernel_rfl) ?_;simp only[go_sem,getD_map hk,getD_map hk1,hkm]
   refine Sd ?_
   refine GCall.use (ab (decide (xs[k]=xs[k - 1]))) (fun _=>⟨At,sm.val.use ⟨rfl,rfl⟩⟩) ?_
   simp only[go_sem]
   refine Wk ?_
   refine⟨fun h2 => ?_,fun h2 => ?_⟩
   ·have c0:compN xs (k+1)=xs.take k:=by
     obtain⟨j,rfl⟩:∃j,k=j+1:=⟨k - 1,by omega⟩
     rw[compN_two,if_pos (by rw[List.getElem?_eq_getElem hk,List.getElem?_eq_getElem (show j<xs.length by omega)];exact congrArg some h2)]
     exact compN_all (by omega) hI
    refine Wk ?_
    refine AWp.block (AWp.loopN [5,7] [0,1,6] (fun m vs L=>∃(q:Nat) (c zs:List (List Int)),vs=[ai c.length,ai q]∧1≤q∧k+q≤xs.length∧c=compN xs (k+q)∧c.length≤k+q - 1∧zs=c ++ xs.drop c.length∧m=xs.length - (k+q) ∧
     L=[(b,.row 47 1 (zs.map aInts) cap)]) (xs.length - (k+1)) ⟨1,xs.take k,xs,by rw[List.length_take,Nat.min_eq_left k2];rfl,by omega,by omega,c0.symm,by rw[List.length_take];omega,by rw[List.length_take,Nat.min_eq_left k2,List.take_append_drop],rfl,rfl⟩ ?_)
    rintro m vs L - ⟨q,c,zs,rfl,q1,q2,hc,hcl,hz,rfl,rfl⟩
    have zl:zs.length=xs.length:=by rw[hz,List.length_append,List.length_drop];omega
    have zg:∀(i:Nat) (h1:i<xs.length),c.length≤i→(zs.map aInts).getD i .any=aInts xs[i]:=fun i h1 h2=>by
     rw[getD_map (by omega)]
     subst hz
     rw[List.getElem_append_right h2,List.getElem_drop]
     congr 2;omega
    simp only[go_sem]
    refine Wk ?_
    refine⟨fun h3 => ?_,fun h3 => ?_⟩
    ·have hkq:k+q<xs.length:=by omega
     have hkq1:k+q - 1<xs.length:=by omega
     have g1:=zg (k+q) hkq (by omega)
     have g2:=zg (k+q - 1) hkq1 (by omega)
     have e1:((q:Int) - 1).toNat=q - 1:=by omega
     have e2:k+(q - 1)=k+q - 1:=by omega
     have sm:=next_same xs[k+q] xs[k+q - 1] (hx _ (List.getElem_mem hkq))
     simp only[go_sem] at sm
     refine Wk ?_
     refine AWp.seq (AWp.block (AWp.seq ?_))
     repeat(first|(with_reducible refine AWp.seq ?_)|(with_reducible refine AWp.block ?_))
     refine AWp.read mixed [0,1,2,3,4,5,6,7,8,9,10,11] (by kernel_rfl) ?_;simp only[go_sem,g1,g2,e1,e2]
     refine Sd ?_
     refine GCall.use (ab (decide (xs[k+q]=xs[k+q - 1]))) (fun _=>⟨At,sm.val.use ⟨rfl,rfl⟩⟩) ?_
     simp only[go_sem]
     have hq':k+q - 2+1=k+q - 1:=by omega
     have hstep:compN xs (k+(q+1))=if xs[k+q]?=xs[k+q - 1]? then c else c ++ xs[k+q]?.toList:=by
      rw[show k+(q+1)=(k+q - 1)+2 by omega,compN_two,show k+q - 1+1=k+q by omega,← hc]
     rw[List.getElem?_eq_getElem hkq,List.getElem?_eq_getElem hkq1] at hstep
     have g0:=zg c.length (by omega) (Nat.le_refl _)
     refine W5 g1 g2 e1 e2 g0 ?_
     refine⟨fun h4 => ?_,fun h4 => ?_⟩
     ·rw[if_neg (fun e=>h4 (Option.some.inj e))] at hstep
      refine W5 g1 g2 e1 e2 g0 ?_
      refine⟨_,List.Sublist.refl _,_,?_,q+1,c ++ [xs[k+q]],zs.set c.length xs[k+q],?_,by omega,by omega,hstep.symm,by simp;omega,?_,rfl,?_⟩
      ·omega
      ·rw[List.length_append];rfl
      ·rw[hz,List.set_append_right _ _ (Nat.le_refl _),Nat.sub_self,List.drop_eq_getElem_cons (show c.length<xs.length by omega),List.set_cons_zero,List.append_assoc,List.length_append];rfl
      ·rw[List.map_set];rfl
     ·rw[if_pos (congrArg some h4)] at hstep
      refine Wk ?_
      exact⟨_,List.Sublist.refl _,_,by omega,q+1,c,zs,rfl,by omega,by omega,hstep.symm,by omega,hz,rfl,rfl⟩
    ·have hn:k+q=xs.length:=by omega
     have hcl2:compL xs=c:=by unfold compL;rw[← hn,hc]
     have hcx:c.length≤xs.length:=by omega
     refine Wk ?_
     refine ret_own ?_
     simp only[go_sem]
     refine⟨List.replicate (xs.length - c.length) anil,cap,by rw[hcl2],?_⟩
     rw[hcl2,List.length_replicate,show c.length+(xs.length - c.length)=zs.length by omega,List.drop_length,List.map_nil,List.append_nil,hz,List.take_left]
   ·refine Wk ?_
    refine⟨_,List.Sublist.refl _,_,?_,k+1,rfl,by omega,by omega,rfl,rfl,fun i h0 hi => ?_⟩
    ·omega
    ·by_cases e:i=k
     ·subst e;rw[List.getElem?_eq_getElem hk,List.getElem?_eq_getElem hk1];exact fun e=>h2 (Option.some.inj e)
     ·exact hI i h0 (by omega)
  ·refine Wk ?_
   refine ret_own ?_
   simp only[go_sem]
   have e:compL xs=xs:=by
    unfold compL
    rw[compN_all (Nat.le_refl _) (fun i h0 hi=>hI i h0 (by omega)),List.take_length]
   exact⟨[],cap,by rw[e],by rw[e,List.append_nil]⟩
def evq (ps:List Pr) (p k:Nat):Ev:=(ps.getD p ⟨⟨#[]⟩,[],[]⟩).evs.getD k ⟨0,0,0,0,[]⟩
def nev (ps:List Pr) (p:Nat):Nat:=(ps.getD p ⟨⟨#[]⟩,[],[]⟩).evs.length
def sndr (ps:List Pr) (m:Int):Eid:=findIn (evIds ps) 2 m
theorem nev_get {ps:List Pr} {p:Nat} (hp:p<ps.length):nev ps p=ps[p].evs.length:=by simp [nev,hp]
theorem evq_get {ps:List Pr} {p k:Nat} (hp:p<ps.length) (hk:k<ps[p].evs.length):evq ps p k=ps[p].evs[k]:=by simp [evq,hp,hk]
def Rdy (ps:List Pr) (c:Nat→Nat) (p:Nat):Prop :=
 p<ps.length∧c p<nev ps p∧((evq ps p (c p)).kind=3→0<(sndr ps (evq ps p (c p)).msg).2∧(sndr ps (evq ps p (c p)).msg).2≤c (sndr ps (evq ps p (c p)).msg).1.toNat)
instance (ps:List Pr) (c:Nat→Nat) (p:Nat):Decidable (Rdy ps c p):=by unfold Rdy;infer_instance
theorem Rdy.mono {ps:List Pr} {c c':Nat→Nat} {p:Nat} (h:Rdy ps c p) (hc:∀q,c q≤c' q) (hp:c' p=c p):Rdy ps c' p:=by
 obtain⟨h1,h2,h3⟩:=h
 refine⟨h1,by rw[hp];exact h2,fun hk => ?_⟩
 rw[hp] at hk ⊢
 obtain⟨g1,g2⟩:=h3 hk
 have:=hc (sndr ps (evq ps p (c p)).msg).1.toNat
 exact⟨g1,by omega⟩
def joinV (v w:List Int):List Int:=List.zipWith max v w
def tickV (v:List Int) (p:Nat):List Int:=v.set p (v.getD p 0+1)
def stOf (S:Nat→List (List Int)) (p k:Nat):List Int:=(S p).getD k []
def preV (ps:List Pr) (S:Nat→List (List Int)) (p k:Nat):List Int:=if k=0 then List.replicate ps.length 0 else stOf S p (k - 1)
def rawV (ps:List Pr) (S:Nat→List (List Int)) (p k:Nat):List Int :=
 if (evq ps p k).kind=3 then joinV (preV ps S p k) (stOf S (sndr ps (evq ps p k).msg).1.toNat ((sndr ps (evq ps p k).msg).2 - 1).toNat) else preV ps S p k
def vecV (ps:List Pr) (S:Nat→List (List Int)) (p k:Nat):List Int:=tickV (rawV ps S p k) p
def upS (S:Nat→List (List Int)) (p:Nat) (v:List Int):Nat→List (List Int):=fun q=>if q=p then S p ++ [v] else S q
def lenS (S:Nat→List (List Int)):Nat→Nat:=fun q=>(S q).length
inductive Gen (ps:List Pr):(Nat→List (List Int))→Prop
 | init:Gen ps fun _=>[]
 | step {S:Nat→List (List Int)} {p:Nat} (h:Gen ps S) (hr:Rdy ps (lenS S) p):Gen ps (upS S p (vecV ps S p (S p).length))
theorem getD_set0 (v:List Int) (p j:Nat) (x:Int):(v.set p x).getD j 0=if p=j∧p<v.length then x else v.getD j 0:=by
 rw[List.getD_eq_getElem?_getD,List.getElem?_set]
 by_cases h:p=j
 ·subst h
  by_cases h2:p<v.length
  ·simp [h2]
  ·simp [h2]
 ·simp [h,List.getD_eq_getElem?_getD]
theorem joinV_getD {v w:List Int} (h:v.length=w.length) (j:Nat):(joinV v w).getD j 0=max (v.getD j 0) (w.getD j 0):=by
 unfold joinV
 rw[List.getD_eq_getElem?_getD,List.getElem?_zipWith]
 by_cases hj:j<v.length
 ·have hw:j<w.length:=by omega
  simp [hj,hw]
 ·have hw:¬j<w.length:=by omega
  simp [hj,hw]
theorem joinV_length {v w:List Int} (h:v.length=w.length):(joinV v w).length=v.length:=by unfold joinV;rw[List.length_zipWith];omega
theorem tickV_length (v:List Int) (p:Nat):(tickV v p).length=v.length:=by simp [tickV]
theorem upS_len (S:Nat→List (List Int)) (p:Nat) (v:List Int) (q:Nat):(upS S p v q).length=if q=p then (S p).length+1 else (S q).length:=by
 unfold upS;split <;> simp
theorem upS_le (S:Nat→List (List Int)) (p:Nat) (v:List Int) (q:Nat):(S q).length≤(upS S p v q).length:=by
 rw[upS_len];split
 ·rename_i h;subst h;omega
 ·omega
theorem upS_old {S:Nat→List (List Int)} {p:Nat} {v:List Int} {q k:Nat} (h:k<(S q).length):stOf (upS S p v) q k=stOf S q k:=by
 unfold stOf upS
 split
 ·rename_i e;subst e;rw[List.getD_eq_getElem?_getD,List.getElem?_append_left h,← List.getD_eq_getElem?_getD]
 ·rfl
theorem upS_new {S:Nat→List (List Int)} {p:Nat} {v:List Int} : stOf (upS S p v) p (S p).length=v:=by
 unfold stOf upS
 rw[if_pos rfl,List.getD_eq_getElem?_getD,List.getElem?_append_right (Nat.le_refl _)]
 simp
theorem vecV_congr {ps:List Pr} {S S':Nat→List (List Int)} {p k:Nat} (h1:k ≠ 0→stOf S' p (k - 1)=stOf S p (k - 1))
  (h2:(evq ps p k).kind=3→stOf S' (sndr ps (evq ps p k).msg).1.toNat ((sndr ps (evq ps p k).msg).2 - 1).toNat=stOf S (sndr ps (evq ps p k).msg).1.toNat ((sndr ps (evq ps p k).msg).2 - 1).toNat):vecV ps S' p k=vecV ps S p k:=by
 have e1:preV ps S' p k=preV ps S p k:=by
  unfold preV
  by_cases h:k=0
  ·rw[if_pos h,if_pos h]
  ·rw[if_neg h,if_neg h,h1 h]
 unfold vecV rawV
 rw[e1]
 by_cases h:(evq ps p k).kind=3
 ·rw[if_pos h,if_pos h,h2 h]
 ·rw[if_neg h,if_neg h]
theorem Gen.eqn {ps:List Pr} {S:Nat→List (List Int)} (h:Gen ps S):∀p k,k<(S p).length→p<ps.length∧k<nev ps p∧stOf S p k=vecV ps S p k ∧
  ((evq ps p k).kind=3→0<(sndr ps (evq ps p k).msg).2∧(sndr ps (evq ps p k).msg).2≤(S (sndr ps (evq ps p k).msg).1.toNat).length):=by
 induction h with
 | init=>intro p k h;simp at h
 | @step S r h hr ih =>
  intro p k hk
  have hle:=fun q=>upS_le S r (vecV ps S r (S r).length) q
  by_cases hold:k<(S p).length
  ·obtain⟨h1,h2,h3,h4⟩:=ih p k hold
   refine⟨h1,h2,?_,fun h=>⟨(h4 h).1,by have:=(h4 h).2;have:=hle (sndr ps (evq ps p k).msg).1.toNat;omega⟩⟩
   rw[upS_old hold,h3]
   refine(vecV_congr (fun h0=>upS_old (by omega)) fun h=>upS_old ?_).symm
   have:=h4 h;omega
  ·rw[upS_len] at hk
   by_cases e:p=r
   ·subst e
    rw[if_pos rfl] at hk
    have ek:k=(S p).length:=by omega
    subst ek
    obtain⟨h1,h2,h3⟩:=hr
    simp only[lenS] at h2 h3
    refine⟨h1,h2,?_,fun h=>⟨(h3 h).1,by have:=(h3 h).2;have:=hle (sndr ps (evq ps p (S p).length).msg).1.toNat;omega⟩⟩
    rw[upS_new]
    refine(vecV_congr (fun h0=>upS_old (by omega)) fun h=>upS_old ?_).symm
    have:=h3 h;omega
   ·rw[if_neg e] at hk;exact absurd hk hold
theorem Gen.le_nev {ps:List Pr} {S:Nat→List (List Int)} (h:Gen ps S) (p:Nat):(S p).length≤nev ps p:=by
 by_cases h0:(S p).length=0
 ·omega
 ·have:=(h.eqn p ((S p).length - 1) (by omega)).2.1;omega
theorem Gen.le {ps:List Pr} {S S':Nat→List (List Int)} (h:Gen ps S) (h':Gen ps S') (hm:∀p,¬Rdy ps (lenS S') p):∀p,(S p).length≤(S' p).length∧∀k,k<(S p).length→stOf S p k=stOf S' p k:=by
 induction h with
 | init=>intro p;exact⟨Nat.zero_le _,fun k hk=>by simp at hk⟩
 | @step S r h hr ih =>
  have hlt:(S r).length<(S' r).length:=by
   refine Nat.lt_of_le_of_ne (ih r).1 fun e=>hm r ?_
   exact hr.mono (fun q=>(ih q).1) e.symm
  intro p
  rw[upS_len]
  by_cases e:p=r
  ·subst e
   rw[if_pos rfl]
   refine⟨hlt,fun k hk => ?_⟩
   by_cases hold:k<(S p).length
   ·rw[upS_old hold];exact(ih p).2 k hold
   ·have ek:k=(S p).length:=by omega
    subst ek
    rw[upS_new,(h'.eqn p _ hlt).2.2.1]
    refine vecV_congr (fun h0=>(ih p).2 _ (by omega)) fun hk=>(ih _).2 _ ?_
    have:=hr.2.2 hk
    simp only[lenS] at this
    omega
  ·rw[if_neg e]
   refine⟨(ih p).1,fun k hk => ?_⟩
   rw[upS_old hk];exact(ih p).2 k hk
theorem Gen.unique {ps:List Pr} {S S':Nat→List (List Int)} (h:Gen ps S) (hm:∀p,¬Rdy ps (lenS S) p) (h':Gen ps S') (hm':∀p,¬Rdy ps (lenS S') p):S=S':=by
 funext p
 have h1:=h.le h' hm' p
 have h2:=h'.le h hm p
 refine List.ext_getElem (by omega) fun k k1 k2 => ?_
 have:=h1.2 k k1
 simpa [stOf,k1,k2] using this
open Classical in
noncomputable def stampF (ps:List Pr):Nat→List (List Int):=if h:∃S,Gen ps S∧∀p,¬Rdy ps (lenS S) p then Classical.choose h else fun _=>[]
theorem stampF_eq {ps:List Pr} {S:Nat→List (List Int)} (h:Gen ps S) (hm:∀p,¬Rdy ps (lenS S) p):stampF ps=S:=by
 have hx:∃S,Gen ps S∧∀p,¬Rdy ps (lenS S) p:=⟨S,h,hm⟩
 have e:stampF ps=Classical.choose hx:=dif_pos hx
 rw[e]
 exact(Classical.choose_spec hx).1.unique (Classical.choose_spec hx).2 h hm
theorem zeros_getD (n j:Nat):(List.replicate n (0:Int)).getD j 0=0:=by
 rw[List.getD_eq_getElem?_getD,List.getElem?_replicate]
 split <;> rfl
theorem tickV_getD (v:List Int) (p j:Nat):(tickV v p).getD j 0=if p=j∧p<v.length then v.getD p 0+1 else v.getD j 0:=getD_set0 v p j _
theorem vecV_bound {ps:List Pr} {S:Nat→List (List Int)} {p k:Nat} {B:Nat→Int} (hB:∀j,0≤B j) (h1:k ≠ 0→(stOf S p (k - 1)).length=ps.length∧∀j,0≤(stOf S p (k - 1)).getD j 0∧(stOf S p (k - 1)).getD j 0≤B j)
  (h2:(evq ps p k).kind=3→(stOf S (sndr ps (evq ps p k).msg).1.toNat ((sndr ps (evq ps p k).msg).2 - 1).toNat).length=ps.length ∧
   ∀j,0≤(stOf S (sndr ps (evq ps p k).msg).1.toNat ((sndr ps (evq ps p k).msg).2 - 1).toNat).getD j 0∧(stOf S (sndr ps (evq ps p k).msg).1.toNat ((sndr ps (evq ps p k).msg).2 - 1).toNat).getD j 0≤B j) :
  (rawV ps S p k).length=ps.length∧(∀j,0≤(rawV ps S p k).getD j 0∧(rawV ps S p k).getD j 0≤B j)∧(vecV ps S p k).length=ps.length∧∀j,0≤(vecV ps S p k).getD j 0∧(vecV ps S p k).getD j 0≤B j+(if p=j then 1 else 0):=by
 have hpre:(preV ps S p k).length=ps.length∧∀j,0≤(preV ps S p k).getD j 0∧(preV ps S p k).getD j 0≤B j:=by
  unfold preV
  by_cases h:k=0
  ·rw[if_pos h];exact⟨by simp,fun j=>by rw[zeros_getD];exact⟨Int.le_refl _,hB j⟩⟩
  ·rw[if_neg h];exact h1 h
 have hraw:(rawV ps S p k).length=ps.length∧∀j,0≤(rawV ps S p k).getD j 0∧(rawV ps S p k).getD j 0≤B j:=by
  unfold rawV
  by_cases h:(evq ps p k).kind=3
  ·rw[if_pos h]
   obtain⟨g1,g2⟩:=h2 h
   have hl:(preV ps S p k).length=(stOf S (sndr ps (evq ps p k).msg).1.toNat ((sndr ps (evq ps p k).msg).2 - 1).toNat).length:=by rw[hpre.1,g1]
   refine⟨(joinV_length hl).trans hpre.1,fun j => ?_⟩
   rw[joinV_getD hl]
   have a:=hpre.2 j
   have b:=g2 j
   omega
  ·rw[if_neg h];exact hpre
 refine⟨hraw.1,hraw.2,(tickV_length _ _).trans hraw.1,fun j => ?_⟩
 unfold vecV
 rw[tickV_getD]
 have a:=hraw.2 j
 by_cases h:p=j
 ·subst h
  rw[if_pos rfl]
  split <;> omega
 ·rw[if_neg h,if_neg fun h'=>h h'.1];omega
theorem Gen.bound {ps:List Pr} {S:Nat→List (List Int)} (h:Gen ps S):∀p k,k<(S p).length→(stOf S p k).length=ps.length∧∀j,0≤(stOf S p k).getD j 0∧(stOf S p k).getD j 0≤(S j).length:=by
 induction h with
 | init=>intro p k h;simp at h
 | @step S r h hr ih =>
  intro p k hk
  by_cases hold:k<(S p).length
  ·rw[upS_old hold]
   obtain⟨h1,h2⟩:=ih p k hold
   refine⟨h1,fun j => ?_⟩
   have:=upS_le S r (vecV ps S r (S r).length) j
   have:=h2 j
   omega
  ·rw[upS_len] at hk
   by_cases e:p=r
   ·subst e
    rw[if_pos rfl] at hk
    have ek:k=(S p).length:=by omega
    subst ek
    rw[upS_new]
    have hb:=vecV_bound (ps:=ps) (S:=S) (p:=p) (k:=(S p).length) (B:=fun j=>((S j).length:Int)) (fun j=>by simp) (fun h0=>ih p _ (by omega)) (fun h3=>by
     have:=hr.2.2 h3
     simp only[lenS] at this
     exact ih _ _ (by omega))
    refine⟨hb.2.2.1,fun j => ?_⟩
    have:=hb.2.2.2 j
    rw[upS_len]
    by_cases e:j=p
    ·subst e;rw[if_pos rfl] at this;rw[if_pos rfl];omega
    ·rw[if_neg (Ne.symm e)] at this;rw[if_neg e];omega
   ·rw[if_neg e] at hk;exact absurd hk hold
theorem Gen.next {ps:List Pr} {S:Nat→List (List Int)} (h:Gen ps S) {p:Nat} (hr:Rdy ps (lenS S) p):(rawV ps S p (S p).length).length=ps.length∧∀j,0≤(rawV ps S p (S p).length).getD j 0∧(rawV ps S p (S p).length).getD j 0≤(S j).length:=by
 have hb:=vecV_bound (ps:=ps) (S:=S) (p:=p) (k:=(S p).length) (B:=fun j=>((S j).length:Int)) (fun j=>by simp) (fun h0=>h.bound p _ (by omega)) (fun h3=>by
  have:=hr.2.2 h3
  simp only[lenS] at this
  exact h.bound _ _ (by omega))
 exact⟨hb.1,hb.2.1⟩
def doneF (order:List Int) (k:Nat):Nat→Nat:=fun q=>(order.take k).count (q:Int)
def RunOk (ps:List Pr) (order:List Int) (k:Nat):Prop:=∀j,j<k→0≤order.getD j 0∧Rdy ps (doneF order j) (order.getD j 0).toNat
end Go.AL
end
section
namespace Go.AL
open Go Go.RowKit
set_option maxRecDepth 4000
theorem valid_parts {ps:List Pr} (h:validF ps=true):procFirst ps=none∧evFirst ps=none∧msgF ps=none:=by
 have hp:∀x,procFirst ps=some x→x.2 ≠ 0:=fun x hx=>by
  unfold procFirst at hx
  rw[Option.map_eq_some_iff] at hx
  obtain⟨k,hk,rfl⟩:=hx
  simpa using List.find?_some hk
 have he:∀x,evFirst ps=some x→x.2 ≠ 0:=fun x hx=>by
  unfold evFirst at hx
  rw[Option.map_eq_some_iff] at hx
  obtain⟨k,hk,rfl⟩:=hx
  simpa using List.find?_some hk
 have hmm:∀x,msgF ps=some x→x.2 ≠ 0:=fun x hx=>by
  unfold msgF at hx
  split at hx
  ·rename_i k hk
   cases hx
   simpa using List.find?_some hk
  ·cases hx
 unfold validF faultF at h
 simp only[decide_eq_true_eq] at h
 split at h
 ·simp at h
 ·cases hpf:procFirst ps with
  | some x=>rw[hpf] at h;exact absurd h (hp x hpf)
  | none =>
   rw[hpf] at h
   cases hef:evFirst ps with
   | some x=>rw[hef] at h;exact absurd h (he x hef)
   | none =>
    rw[hef] at h
    cases hmf:msgF ps with
    | some x=>rw[hmf] at h;exact absurd h (hmm x hmf)
    | none=>exact⟨rfl,rfl,rfl⟩
theorem valid_unique {ps:List Pr} (h:validF ps=true) {p:Nat} (hp:p<ps.length) {i:Nat} (hi:i<ps[p].evs.length) (hk:ps[p].evs[i].kind=2):sndr ps ps[p].evs[i].msg=((p:Int),(i:Int)+1):=by
 have hev:=evIds_get hp hi
 have hlt:off ps p+i<(evIds ps).length:=(List.getElem?_eq_some_iff.1 hev).1
 have hpz:pairF ps (off ps p+i)=0:=by
  have hm:=(valid_parts h).2.2
  unfold msgF at hm
  split at hm
  ·cases hm
  ·rename_i hn
   rw[List.find?_eq_none] at hn
   simpa using hn _ (List.mem_range.2 hlt)
 unfold pairF at hpz
 rw[hev] at hpz
 simp only[hk,if_true] at hpz
 have hno:¬0<(findIn ((evIds ps).take (off ps p+i)) 2 ps[p].evs[i].msg).2:=by
  intro h0;rw[if_pos h0] at hpz;cases hpz
 unfold sndr
 refine findIn_hit hev (fun j y hj hy hc=>hno ?_) ⟨hk,rfl⟩
 have hmem:y ∈ (evIds ps).take (off ps p+i):=by
  refine List.mem_of_getElem? (i:=j) ?_
  rw[List.getElem?_take,if_pos hj];exact hy
 unfold findIn
 cases hf:((evIds ps).take (off ps p+i)).find? (fun x=>decide (x.2.kind=2) && decide (x.2.msg=ps[p].evs[i].msg)) with
 | some x=>exact evIds_pos ps x (List.mem_of_mem_take (List.mem_of_find?_eq_some hf))
 | none =>
  rw[List.find?_eq_none] at hf
  have:=hf y hmem
  simp [hc.1,hc.2] at this
theorem sndr_some {ps:List Pr} {m:Int} (h:0<(sndr ps m).2):∃(p:Nat) (hp:p<ps.length) (i:Nat) (hi:i<ps[p].evs.length),sndr ps m=((p:Int),(i:Int)+1)∧ps[p].evs[i].kind=2∧ps[p].evs[i].msg=m:=by
 obtain⟨e,he,h1,h2⟩:=findIn_mem h
 obtain⟨k,hk⟩:=List.getElem?_of_mem he
 obtain⟨p,hp,i,hi,_,e2⟩:=evIds_inv hk
 have e3:=congrArg Prod.fst e2
 have e4:=congrArg Prod.snd e2
 dsimp only at e3 e4
 subst e4
 exact⟨p,hp,i,hi,e3,h1,h2⟩
def totS (n:Nat) (c:Nat→Nat):Nat:=((List.range n).map c).sum
theorem totS_succ (n:Nat) (c:Nat→Nat):totS (n+1) c=totS n c+c n:=by simp [totS,List.range_succ]
theorem totS_bump {c c':Nat→Nat} {p:Nat} (h:∀q,c' q=if q=p then c q+1 else c q) (n:Nat):totS n c'=totS n c+if p<n then 1 else 0:=by
 induction n with
 | zero=>simp [totS]
 | succ n ih =>
  rw[totS_succ,totS_succ,ih,h n]
  by_cases e:n=p
  ·subst e;rw[if_pos rfl,if_neg (by omega),if_pos (by omega)];omega
  ·rw[if_neg e]
   by_cases h1:p<n
   ·rw[if_pos h1,if_pos (by omega)];omega
   ·rw[if_neg h1,if_neg (by omega)];omega
theorem totS_up {S:Nat→List (List Int)} {p n:Nat} (hp:p<n) (v:List Int):totS n (lenS (upS S p v))=totS n (lenS S)+1:=by
 rw[totS_bump (c:=lenS S) (p:=p) (fun q=>by unfold lenS;rw[upS_len];split <;> simp_all) n,if_pos hp]
theorem totS_le {c:Nat→Nat} {B:Nat} (n:Nat) (h:∀q,q<n→c q≤B):totS n c≤n * B:=by
 induction n with
 | zero=>simp [totS]
 | succ n ih =>
  rw[totS_succ,Nat.add_mul]
  have:=ih fun q hq=>h q (by omega)
  have:=h n (by omega)
  omega
theorem gen_exists {ps:List Pr} (hs:Sm ps):∃S,Gen ps S∧∀p,¬Rdy ps (lenS S) p:=by
 have hb:∀S,Gen ps S→totS ps.length (lenS S)≤ps.length * 1000000:=fun S h=>totS_le _ fun q hq=>by
  have h1:=h.le_nev q
  rw[nev_get hq] at h1
  have h2:=hs.evs _ (List.getElem_mem hq)
  unfold lenS;omega
 have key:∀m S,Gen ps S→ps.length * 1000000 - totS ps.length (lenS S)≤m→∃S,Gen ps S∧∀p,¬Rdy ps (lenS S) p:=by
  intro m
  induction m with
  | zero =>
   intro S h hm
   refine⟨S,h,fun p hr => ?_⟩
   have h1:=hb _ (h.step hr)
   rw[totS_up hr.1] at h1
   omega
  | succ m ih =>
   intro S h hm
   by_cases hx:∃p,Rdy ps (lenS S) p
   ·obtain⟨p,hr⟩:=hx
    refine ih _ (h.step hr) ?_
    rw[totS_up hr.1]
    omega
   ·exact⟨S,h,fun p hr=>hx ⟨p,hr⟩⟩
 exact key _ _ .init (Nat.le_refl _)
theorem stampF_gen {ps:List Pr} (hs:Sm ps):Gen ps (stampF ps)∧∀p,¬Rdy ps (lenS (stampF ps)) p:=by
 obtain⟨S,h,hm⟩:=gen_exists hs
 rw[stampF_eq h hm];exact⟨h,hm⟩
theorem sum_nonneg:∀(Z:List Int),(∀z ∈ Z,0≤z)→0≤Z.sum
 | [],_=>by simp
 | z :: Z,h=>by
  have h1:=h z (by simp)
  have h2:=sum_nonneg Z fun z hz=>h z (List.mem_cons_of_mem _ hz)
  simp only[List.sum_cons];omega
theorem sum_ge:∀(Z:List Int) {x:Int},(∀z ∈ Z,0≤z)→x ∈ Z→x≤Z.sum
 | [],_,_,hx=>by cases hx
 | z :: Z,x,h,hx=>by
  have h1:=h z (by simp)
  have h2:=sum_nonneg Z fun z hz=>h z (List.mem_cons_of_mem _ hz)
  simp only[List.sum_cons]
  rcases List.mem_cons.1 hx with rfl|hx
  ·omega
  ·have:=sum_ge Z (fun z hz=>h z (List.mem_cons_of_mem _ hz)) hx;omega
noncomputable def knownF (ps:List Pr) (order:List Int) (k:Nat):List (List Int) :=
 (List.range ps.length).map fun q=>if doneF order k q=0 then List.replicate ps.length 0 else stOf (stampF ps) q (doneF order k q - 1)
noncomputable def peakF (ps:List Pr) (order:List Int):Nat→Int
 | 0=>0
 | k+1=>max (peakF ps order k) (keptF (knownF ps order (k+1)))
theorem RunOk.le {ps:List Pr} {order:List Int} {k j:Nat} (h:RunOk ps order k) (hj:j≤k):RunOk ps order j:=fun i hi=>h i (by omega)
theorem pair_unique {ps:List Pr} (hm:msgF ps=none) {p:Nat} (hp:p<ps.length) {i:Nat} (hi:i<ps[p].evs.length) (hk:ps[p].evs[i].kind=2∨ps[p].evs[i].kind=3) :
  findIn (evIds ps) ps[p].evs[i].kind ps[p].evs[i].msg=((p:Int),(i:Int)+1):=by
 have hev:=evIds_get hp hi
 have hlt:off ps p+i<(evIds ps).length:=(List.getElem?_eq_some_iff.1 hev).1
 have hpz:pairF ps (off ps p+i)=0:=by
  unfold msgF at hm
  split at hm
  ·cases hm
  ·rename_i hn
   rw[List.find?_eq_none] at hn
   simpa using hn _ (List.mem_range.2 hlt)
 unfold pairF at hpz
 rw[hev] at hpz
 simp only at hpz
 have hno:¬0<(findIn ((evIds ps).take (off ps p+i)) ps[p].evs[i].kind ps[p].evs[i].msg).2:=by
  intro h0
  rcases hk with hk|hk
  ·rw[if_pos hk] at hpz;rw[hk] at h0;rw[if_pos h0] at hpz;cases hpz
  ·rw[if_neg (by omega),if_pos hk] at hpz;rw[hk] at h0;rw[if_pos h0] at hpz;cases hpz
 refine findIn_hit hev (fun j y hj hy hc=>hno ?_) ⟨rfl,rfl⟩
 have hmem:y ∈ (evIds ps).take (off ps p+i):=by
  refine List.mem_of_getElem? (i:=j) ?_
  rw[List.getElem?_take,if_pos hj];exact hy
 unfold findIn
 cases hf:((evIds ps).take (off ps p+i)).find? (fun x=>decide (x.2.kind=ps[p].evs[i].kind) && decide (x.2.msg=ps[p].evs[i].msg)) with
 | some x=>exact evIds_pos ps x (List.mem_of_mem_take (List.mem_of_find?_eq_some hf))
 | none =>
  rw[List.find?_eq_none] at hf
  have:=hf y hmem
  simp [hc.1,hc.2] at this
theorem findIn_some {ps:List Pr} {kind m:Int} (h:0<(findIn (evIds ps) kind m).2):∃(p:Nat) (hp:p<ps.length) (i:Nat) (hi:i<ps[p].evs.length),findIn (evIds ps) kind m=((p:Int),(i:Int)+1)∧ps[p].evs[i].kind=kind∧ps[p].evs[i].msg=m:=by
 obtain⟨e,he,h1,h2⟩:=findIn_mem h
 obtain⟨k,hk⟩:=List.getElem?_of_mem he
 obtain⟨p,hp,i,hi,_,e2⟩:=evIds_inv hk
 have e3:=congrArg Prod.fst e2
 have e4:=congrArg Prod.snd e2
 dsimp only at e3 e4
 subst e4
 exact⟨p,hp,i,hi,e3,h1,h2⟩
theorem recv_sndr {ps:List Pr} (hm:msgF ps=none) {p:Nat} (hp:p<ps.length) {i:Nat} (hi:i<ps[p].evs.length) (hk:ps[p].evs[i].kind=3):0<(sndr ps ps[p].evs[i].msg).2:=by
 have hev:=evIds_get hp hi
 have hlt:off ps p+i<(evIds ps).length:=(List.getElem?_eq_some_iff.1 hev).1
 have hpz:pairF ps (off ps p+i)=0:=by
  unfold msgF at hm
  split at hm
  ·cases hm
  ·rename_i hn
   rw[List.find?_eq_none] at hn
   simpa using hn _ (List.mem_range.2 hlt)
 unfold pairF at hpz
 rw[hev] at hpz
 simp only at hpz
 rw[if_neg (by omega),if_pos hk] at hpz
 split at hpz
 ·cases hpz
 ·split at hpz
  ·cases hpz
  ·rename_i hs
   have hs':sendsB ps ps[p].evs[i].peer ps[p].evs[i].msg p=true:=by simpa using hs
   unfold sendsB at hs'
   split at hs'
   ·rename_i x hx
    obtain⟨q,hq,rfl⟩:∃q,∃hq:q<ps.length,ps[q]=x:=⟨_,(List.getElem?_eq_some_iff.1 hx).1,(List.getElem?_eq_some_iff.1 hx).2⟩
    obtain⟨e,he,h⟩:=List.any_eq_true.1 hs'
    simp only[Bool.and_eq_true,decide_eq_true_eq] at h
    obtain⟨j,hj,rfl⟩:=List.getElem_of_mem he
    have hu:=pair_unique hm hq hj (.inl h.1.1)
    unfold sndr
    rw[← h.1.2,← h.1.1,hu]
    show (0:Int)<(j:Int)+1
    omega
   ·cases hs'
def dirL (ps:List Pr) (p i:Nat):List Eid:=(if 0<i then [((p:Int),(i:Int))] else []) ++ (if (evq ps p i).kind=3 then [sndr ps (evq ps p i).msg] else [])
theorem dirL_iff {ps:List Pr} (hm:msgF ps=none) {p:Nat} (hp:p<ps.length) {i:Nat} (hi:i<ps[p].evs.length) (z:Eid):z ∈ dirL ps p i↔VEv ps z∧Nx ps z ((p:Int),(i:Int)+1):=by
 unfold dirL
 rw[evq_get hp hi,List.mem_append]
 constructor
 ·rintro(h|h)
  ·split at h
   ·rename_i h0
    simp only[List.mem_singleton] at h
    subst h
    refine⟨⟨p,hp,i - 1,by omega,by rw[show ((i - 1:Nat):Int)+1=i by omega]⟩,?_⟩
    unfold Nx afterL
    simp only[Int.toNat_natCast,List.getElem?_eq_getElem hp,show ((i:Int) - 1).toNat=i - 1 by omega,List.getElem?_eq_getElem (show i - 1<ps[p].evs.length by omega),List.mem_append]
    refine .inl ?_
    rw[if_pos (by omega)];simp
   ·cases h
  ·split at h
   ·rename_i hk
    simp only[List.mem_singleton] at h
    have h0:=recv_sndr hm hp hi hk
    obtain⟨q,hq,j,hj,e,k1,k2⟩:=sndr_some h0
    rw[h,e]
    refine⟨⟨q,hq,j,hj,rfl⟩,?_⟩
    unfold Nx afterL
    simp only[Int.toNat_natCast,List.getElem?_eq_getElem hq,show ((j:Int)+1 - 1).toNat=j by omega,List.getElem?_eq_getElem hj,List.mem_append]
    refine .inr ?_
    have hu:=pair_unique hm hp hi (.inr hk)
    rw[hk] at hu
    rw[k2,hu,if_pos ⟨k1,by show (0:Int)<(i:Int)+1;omega⟩];simp
   ·cases h
 ·rintro⟨⟨q,hq,j,hj,rfl⟩,h⟩
  unfold Nx afterL at h
  simp only[Int.toNat_natCast,List.getElem?_eq_getElem hq,show ((j:Int)+1 - 1).toNat=j by omega,List.getElem?_eq_getElem hj,List.mem_append] at h
  rcases h with h|h
  ·split at h
   ·simp only[List.mem_singleton,Prod.mk.injEq] at h
    have e1:p=q:=by omega
    have e2:i=j+1:=by omega
    subst e1;subst e2
    refine .inl ?_
    rw[if_pos (by omega)];simp
   ·cases h
  ·split at h
   ·rename_i hc
    simp only[List.mem_singleton] at h
    obtain⟨p',hp',i',hi',e,k1,k2⟩:=findIn_some hc.2
    rw[e,Prod.mk.injEq] at h
    have e1:p=p':=by omega
    have e2:i=i':=by omega
    subst e1;subst e2
    refine .inr ?_
    rw[if_pos k1,k2]
    have hu:=pair_unique hm hq hj (.inl hc.1)
    rw[hc.1] at hu
    unfold sndr
    rw[hu];simp
   ·cases h
theorem Reach.rank {ps:List Pr} {f:Eid→Int} (h:∀x,VEv ps x→∀y ∈ afterL ps x,f x<f y) {x y:Eid} (hr:Reach ps x y) (hx:VEv ps x):f x<f y:=by
 have key:f x<f y∧VEv ps y:=by
  induction hr with
  | single hn=>exact⟨h _ hx _ hn,Reach.valid (.single hn) hx⟩
  | tail hr hn ih=>exact⟨Int.lt_trans ih.1 (h _ ih.2 _ hn),Reach.valid (.single hn) ih.2⟩
 exact key.1
theorem cycF_rank {ps:List Pr} (f:Eid→Int) (h:∀x ∈ evIds ps,∀y ∈ afterL ps x.1,f x.1<f y):cycF ps=none:=by
 have hv:∀x,VEv ps x→∀y ∈ afterL ps x,f x<f y:=by
  rintro x ⟨p,hp,i,hi,rfl⟩ y hy
  exact h _ (List.mem_of_getElem? (evIds_get hp hi)) y hy
 refine cycF_none fun j y hj hr => ?_
 obtain⟨p,hp,i,hi,_,rfl⟩:=evIds_inv hj
 exact Int.lt_irrefl _ (hr.rank hv ⟨p,hp,i,hi,rfl⟩)
theorem sum_mono:∀(v w:List Int),v.length=w.length→(∀j,v.getD j 0≤w.getD j 0)→v.sum≤w.sum
 | [],[],_,_=>Int.le_refl _
 | [],_ :: _,h,_=>by simp at h
 | _ :: _,[],h,_=>by simp at h
 | a :: v,b :: w,h,hj=>by
  have h0:=hj 0
  have ih:=sum_mono v w (by simpa using h) fun j=>by simpa using hj (j+1)
  simp only[List.getD_cons_zero] at h0
  simp only[List.sum_cons];omega
theorem sum_set:∀(v:List Int) (p:Nat) (x:Int),p<v.length→(v.set p x).sum=v.sum - v.getD p 0+x
 | [],p,x,h=>by simp at h
 | a :: v,0,x,_=>by simp only[List.set_cons_zero,List.sum_cons,List.getD_cons_zero];omega
 | a :: v,p+1,x,h=>by
  have ih:=sum_set v p x (by simpa using h)
  simp only[List.set_cons_succ,List.sum_cons,List.getD_cons_succ,ih];omega
theorem vec_grow {ps:List Pr} {S:Nat→List (List Int)} {p k:Nat} {u:List Int} (hp:p<ps.length) (hl:(rawV ps S p k).length=ps.length) (hu:u.length=ps.length) (h:∀j,u.getD j 0≤(rawV ps S p k).getD j 0):u.sum<(vecV ps S p k).sum:=by
 unfold vecV tickV
 rw[sum_set _ _ _ (by omega)]
 have:=sum_mono u (rawV ps S p k) (by omega) h
 omega
theorem Gen.raw {ps:List Pr} {S:Nat→List (List Int)} (h:Gen ps S) {p k:Nat} (hk:k<(S p).length):(rawV ps S p k).length=ps.length∧(k ≠ 0→∀j,(stOf S p (k - 1)).getD j 0≤(rawV ps S p k).getD j 0) ∧
  ((evq ps p k).kind=3→∀j,(stOf S (sndr ps (evq ps p k).msg).1.toNat ((sndr ps (evq ps p k).msg).2 - 1).toNat).getD j 0≤(rawV ps S p k).getD j 0):=by
 obtain⟨_,_,_,h4⟩:=h.eqn p k hk
 have hpre:(preV ps S p k).length=ps.length:=by
  unfold preV
  by_cases h0:k=0
  ·rw[if_pos h0];simp
  ·rw[if_neg h0];exact(h.bound p _ (by omega)).1
 unfold rawV
 by_cases h3:(evq ps p k).kind=3
 ·have hw:=h.bound (sndr ps (evq ps p k).msg).1.toNat ((sndr ps (evq ps p k).msg).2 - 1).toNat (by have:=h4 h3;omega)
  have hl:(preV ps S p k).length=(stOf S (sndr ps (evq ps p k).msg).1.toNat ((sndr ps (evq ps p k).msg).2 - 1).toNat).length:=by rw[hpre,hw.1]
  rw[if_pos h3]
  refine⟨(joinV_length hl).trans hpre,fun h0 j => ?_,fun _ j => ?_⟩
  ·rw[joinV_getD hl]
   have e:preV ps S p k=stOf S p (k - 1):=by unfold preV;rw[if_neg h0]
   rw[e];omega
  ·rw[joinV_getD hl];omega
 ·rw[if_neg h3]
  refine⟨hpre,fun h0 j => ?_,fun h=>absurd h h3⟩
  have e:preV ps S p k=stOf S p (k - 1):=by unfold preV;rw[if_neg h0]
  rw[e];exact Int.le_refl _
theorem cycF_of_stamps {ps:List Pr} (hm:msgF ps=none) {S:Nat→List (List Int)} (h:Gen ps S) (hall:∀p,p<ps.length→nev ps p≤(S p).length):cycF ps=none:=by
 refine cycF_rank (fun x=>(stOf S x.1.toNat (x.2 - 1).toNat).sum) fun x hx y hy => ?_
 obtain⟨p,hp,i,hi,rfl⟩:=Nx.valid hy (VEv.of_mem hx)
 obtain⟨q,hq,j,hj,hxe⟩:=VEv.of_mem hx
 have hin:x.1 ∈ dirL ps p i:=(dirL_iff hm hp hi x.1).2 ⟨VEv.of_mem hx,hy⟩
 have hlt:i<(S p).length:=by have:=hall p hp;rw[nev_get hp] at this;omega
 have hlx:j<(S q).length:=by have:=hall q hq;rw[nev_get hq] at this;omega
 obtain⟨r1,r2,r3⟩:=h.raw hlt
 have hbx:=h.bound q j hlx
 simp only[Int.toNat_natCast,show ((i:Int)+1 - 1).toNat=i by omega]
 rw[(h.eqn p i hlt).2.2.1]
 unfold dirL at hin
 rw[List.mem_append] at hin
 rcases hin with hin|hin
 ·split at hin
  ·rename_i h0
   simp only[List.mem_singleton] at hin
   rw[hin]
   simp only[Int.toNat_natCast,show ((i:Int) - 1).toNat=i - 1 by omega]
   exact vec_grow hp r1 (h.bound p _ (by omega)).1 (r2 (by omega))
  ·cases hin
 ·split at hin
  ·rename_i h3
   simp only[List.mem_singleton] at hin
   rw[hxe] at hin
   have e3:=r3 h3
   rw[← hin] at e3
   simp only[Int.toNat_natCast,show ((j:Int)+1 - 1).toNat=j by omega] at e3
   rw[hxe]
   simp only[Int.toNat_natCast,show ((j:Int)+1 - 1).toNat=j by omega]
   exact vec_grow hp r1 hbx.1 e3
  ·cases hin
def intV (x:Int):Value:=Value.int .i64 x
theorem mfind_iset (y:Int) (s:List Int):(mfind (intV y) (s.map intV)).isSome=decide (y ∈ s)∧∀i,mfind (intV y) (s.map intV)=some i→i<s.length:=by
 induction s with
 | nil=>exact⟨by simp [mfind],fun i h=>by simp [mfind] at h⟩
 | cons x s ih =>
  have hk:keyB (intV y) (intV x)=decide (y=x):=rfl
  simp only[List.map_cons,mfind,hk,decide_eq_true_eq]
  by_cases h:y=x
  ·rw[if_pos h];exact⟨by simp [h],fun i hi=>by cases hi;simp⟩
  ·rw[if_neg h]
   cases hf:mfind (intV y) (s.map intV) with
   | none=>rw[hf] at ih;exact⟨by simp [h];simpa using ih.1,fun i hi=>by cases hi⟩
   | some k=>rw[hf] at ih;exact⟨by simp [h];simpa using ih.1,fun i hi=>by cases hi;simpa using ih.2 k rfl⟩
theorem fits_int (y:Int):(KK.sc .int).fits (intV y)=true:=by simp [KK.fits,intV,SK.vfits]
theorem fits_iset (s:List Int):((s.map intV).all (KK.sc .int).fits)=true:=by
 simp only[List.all_map,List.all_eq_true];intro x _;exact fits_int x
theorem recv_peer {ps:List Pr} (hm:msgF ps=none) {p:Nat} (hp:p<ps.length) {i:Nat} (hi:i<ps[p].evs.length) (hk:ps[p].evs[i].kind=3) :
  ∃(hq:ps[p].evs[i].peer.toNat<ps.length) (j:Nat) (hj:j<ps[ps[p].evs[i].peer.toNat].evs.length),sndr ps ps[p].evs[i].msg=((ps[p].evs[i].peer.toNat:Int),(j:Int)+1)∧ps[ps[p].evs[i].peer.toNat].evs[j].kind=2∧ps[ps[p].evs[i].peer.toNat].evs[j].msg=ps[p].evs[i].msg:=by
 have hev:=evIds_get hp hi
 have hlt:off ps p+i<(evIds ps).length:=(List.getElem?_eq_some_iff.1 hev).1
 have hpz:pairF ps (off ps p+i)=0:=by
  unfold msgF at hm
  split at hm
  ·cases hm
  ·rename_i hn
   rw[List.find?_eq_none] at hn
   simpa using hn _ (List.mem_range.2 hlt)
 unfold pairF at hpz
 rw[hev] at hpz
 simp only at hpz
 rw[if_neg (by omega),if_pos hk] at hpz
 split at hpz
 ·cases hpz
 ·split at hpz
  ·cases hpz
  ·rename_i hs
   have hs:sendsB ps ps[p].evs[i].peer ps[p].evs[i].msg (p:Int)=true:=by simpa using hs
   unfold sendsB at hs
   split at hs
   ·rename_i x hx
    obtain⟨hq,e⟩:=List.getElem?_eq_some_iff.1 hx
    subst e
    obtain⟨e,he,h1⟩:=List.any_eq_true.1 hs
    obtain⟨j,hj,rfl⟩:=List.getElem_of_mem he
    simp only[Bool.and_eq_true,decide_eq_true_iff] at h1
    refine⟨hq,j,hj,?_,h1.1.1,h1.1.2⟩
    have:=pair_unique hm hq hj (.inl h1.1.1)
    rw[h1.1.1,h1.1.2] at this
    exact this
   ·cases hs
theorem ref12_letter (n:Int):PC Proofs.Tryz.prog 76 [au8 n] (ab (letterI n)):=by
 refine PC.enter 17 [.tmp 2] [] Proofs.Tryz.func76 rfl rfl rfl rfl rfl (by simp) (AWp.of ?_);simp only[go_sem]
 refine Wk ?_
 refine ret_eq ?_;simp only[go_sem]
 unfold letterI;rw[Bool.or_comm]
theorem ref12_digit (n:Int):PC Proofs.Tryz.prog 77 [au8 n] (ab (digitI n)):=by
 refine PC.enter 9 [.tmp 2] [] Proofs.Tryz.func77 rfl rfl rfl rfl rfl (by simp) (AWp.of ?_);simp only[go_sem]
 refine Wk ?_
 refine ret_eq ?_;simp only[go_sem]
 rfl
theorem ref12_value (n:Int):PC Proofs.Tryz.prog 56 [ai n] (ab (inI n (-1073741824) 1073741824)):=by
 refine PC.enter 9 [.tmp 2] [] Proofs.Tryz.func56 rfl rfl rfl rfl rfl (by simp) (AWp.of ?_);simp only[go_sem]
 refine Wk ?_
 refine ret_eq ?_;simp only[go_sem]
 rfl
def nameCh (s:ByteArray) (i:Nat):Bool:=letterI (sb s i) || digitI (sb s i) || decide (sb s i=95)
theorem nameOk_of {s:ByteArray} (h1:1≤s.size) (h2:s.size≤16) (h3:letterI (sb s 0)=true):nameOk s=(List.range s.size).all (nameCh s):=by
 unfold nameOk
 rw[decide_eq_true (by omega),decide_eq_true h2,h3];rfl
theorem nameOk_not {s:ByteArray} (h:s.size<1∨16<s.size∨letterI (sb s 0)=false):nameOk s=false:=by
 unfold nameOk
 rcases h with h|h|h
 ·rw[decide_eq_false (by omega)];rfl
 ·rw[decide_eq_false (show ¬s.size≤16 by omega)];simp
 ·rw[h];simp
theorem ref12_Name (s:ByteArray):PC Proofs.Tryz.prog 55 [astr s] (ab (nameOk s)):=by
 refine PC.enter 42 [.tmp 2] [] Proofs.Tryz.func55 rfl rfl rfl rfl rfl (by simp) (AWp.of ?_);simp only[go_sem]
 repeat(first|((with_reducible refine AWp.ofC ?_ ?_);exact rfl;simp only[go_sem,size_empty])|((with_reducible refine an ?_ ?_);exact Au))
 refine Sd ?_
 refine GCall.use (ab (letterI (sb s 0))) (fun _=>⟨At,(ref12_letter _).val.use ⟨rfl,rfl⟩⟩) ?_;simp only[go_sem]
 refine Wk ?_
 refine⟨fun ht => ?_,fun h1 => ?_⟩
 ·refine Wk ?_
  refine ret_eq ?_;simp only[go_sem]
  rw[nameOk_not]
  rcases ht with (h|h)|h
  ·exact .inl (by omega)
  ·exact .inr (.inl (by omega))
  ·exact .inr (.inr h)
 ·intro h2 h3
  refine Wk ?_
  refine AWp.block (AWp.loopN [3] [0] (fun m vs L=>∃k:Nat,vs=[ai k]∧1≤k∧k≤s.size∧m=s.size - k∧L=[]∧∀i,i<k→nameCh s i=true) (s.size - 1) ?_ ?_)
  ·exact⟨1,rfl,by omega,by omega,rfl,rfl,fun i hi=>by rw[show i=0 by omega];unfold nameCh;rw[h3];rfl⟩
  rintro m vs L - ⟨k,rfl,k1,k2,rfl,rfl,hI⟩
  simp only[go_sem]
  refine Wk ?_
  refine⟨fun h4 => ?_,fun h4 => ?_⟩
  ·refine Wk ?_
   refine(ref12_letter _).val.use ?_
   simp only[go_sem]
   refine Sd ?_
   refine GCall.use (ab (digitI (sb s k))) (fun _=>⟨At,(ref12_digit _).val.use ⟨rfl,rfl⟩⟩) ?_;simp only[go_sem]
   refine Wk ?_
   refine⟨fun h5 h6 h7 => ?_,fun h5 => ?_⟩
   ·refine Wk ?_
    refine ret_eq ?_;simp only[go_sem]
    rw[nameOk_of (by omega) (by omega) h3]
    congr 2;symm
    rw[List.all_eq_false]
    refine⟨k,List.mem_range.2 (by omega),?_⟩
    unfold nameCh
    have h8:¬sb s k=95:=h7
    rw[show letterI (sb s k)=false from h5,h6,decide_eq_false h8];decide
   ·refine Wk ?_
    refine⟨_,List.Sublist.refl _,s.size - (k+1),by omega,k+1,rfl,by omega,by omega,rfl,rfl,fun i hi => ?_⟩
    by_cases e:i=k
    ·subst e
     unfold nameCh
     cases h6:letterI (sb s i)
     ·cases h7:digitI (sb s i)
      ·have h8:=h5 h6 h7
       have h9:sb s i=95:=h8
       rw[decide_eq_true h9];rfl
      ·rfl
     ·rfl
    ·exact hI i (by omega)
  ·refine Wk ?_
   refine ret_eq ?_;simp only[go_sem]
   rw[nameOk_of (by omega) (by omega) h3]
   congr 2;symm
   rw[List.all_eq_true]
   exact fun i hi=>hI i (by have:=List.mem_range.1 hi;omega)
theorem ref12_headH (ps:List Pr) (hs:Smh ps) (p:Nat) (hp:p<ps.length):PC Proofs.Tryz.prog 35 [aTr ps,ai p] (ai (procF ps p)):=by
 have hm:=List.getElem_mem hp
 have hl:=hs.procs
 have hvl:=hs.vars _ hm
 have hpf:procF ps p=if !nameOk ps[p].name || (ps.take p).any (fun y=>decide (y.name=ps[p].name)) then 13 else if 8<ps[p].vars.length then 5 else
   if fstF (varF ps[p].vars) ps[p].vars.length ≠ 0 then fstF (varF ps[p].vars) ps[p].vars.length else if 64<ps[p].evs.length then 5 else 0:=by
  unfold procF;rw[List.getElem?_eq_getElem hp]
 have htk:∀(q:Nat) (hq:q<ps.length),q<p→(∃(y:Pr),y ∈ ps.take p∧y.name=ps[q].name):=fun q hq hlt=>⟨ps[q],by
  refine List.mem_of_getElem? (i:=q) ?_
  rw[List.getElem?_take,if_pos hlt,List.getElem?_eq_getElem hq],rfl⟩
 refine PC.enter 81 [.tmp 4] [2,5] Proofs.Tryz.func35 rfl rfl rfl rfl rfl (by simp) (AWp.of ?_);simp only[go_sem]
 repeat(first|((with_reducible refine AWp.ofC ?_ ?_);exact rfl;simp only[go_sem,getD_map hp])|((with_reducible refine an ?_ ?_);exact Au))
 intro b5
 refine Wk ?_
 refine Sd ?_
 refine(ref12_Name _).val.use ?_;simp only[go_sem]
 refine Wk ?_
 refine⟨fun h1 => ?_,fun h1 => ?_⟩
 ·refine Wk ?_
  refine ret_eq ?_;simp only[go_sem]
  rw[hpf,if_pos (by rw[h1];rfl)]
 ·refine Wk ?_
  refine AWp.block (AWp.count 6 p [] [1,2,5] (fun q vs L=>L=[]∧∀(r:Nat) (hr:r<ps.length),r<q→ps[r].name ≠ ps[p].name) rfl rfl ⟨rfl,by omega⟩ ?_)
  rintro q vs L hq - ⟨rfl,hI⟩
  simp only[go_sem]
  refine Wk ?_
  refine⟨fun h2 => ?_,fun h2 => ?_⟩
  ·have hqp:q<ps.length:=by omega
   refine AWp.seq (AWp.block (AWp.seq ?_))
   refine AWp.drawn mixed 8 (by kernel_rfl) ?_;simp only[go_sem,getD_map hqp]
   refine Sd ?_
   refine Wk ?_
   refine⟨fun h3 => ?_,fun h3 => ?_⟩
   ·refine Wk ?_
    refine ret_eq ?_;simp only[go_sem]
    obtain⟨y,hy,e⟩:=htk q hqp (by omega)
    rw[hpf,if_pos]
    rw[Bool.or_eq_true]
    exact .inr (List.any_eq_true.2 ⟨y,hy,decide_eq_true (e.trans h3)⟩)
   ·refine Wk ?_
    refine⟨_,List.Sublist.refl _,rfl,fun r hr hrq => ?_⟩
    by_cases e:r=q
    ·subst e;exact h3
    ·exact hI r hr (by omega)
  ·have hno:(ps.take p).any (fun y=>decide (y.name=ps[p].name))=false:=by
    rw[List.any_eq_false]
    intro y hy
    obtain⟨r,hr,rfl⟩:=List.getElem_of_mem hy
    have hr':r<p:=by rw[List.length_take] at hr;omega
    rw[List.getElem_take]
    simpa using hI r (by omega) (by omega)
   have hpf:procF ps p=if 8<ps[p].vars.length then 5 else if fstF (varF ps[p].vars) ps[p].vars.length ≠ 0 then fstF (varF ps[p].vars) ps[p].vars.length else if 64<ps[p].evs.length then 5 else 0:=by
    rw[hpf,if_neg (by rw[h1,hno];decide)]
   refine Wk ?_
   refine Wk ?_
   refine⟨fun h4 => ?_,fun h4 => ?_⟩
   ·refine Wk ?_
    refine ret_eq ?_;simp only[go_sem]
    rw[hpf,if_pos (by omega)]
   ·have hpf:procF ps p=if fstF (varF ps[p].vars) ps[p].vars.length ≠ 0 then fstF (varF ps[p].vars) ps[p].vars.length else if 64<ps[p].evs.length then 5 else 0:=by
     rw[hpf,if_neg (by omega)]
    refine Wk ?_
    generalize ps[p].vars=vrs at *
    refine AWp.block (AWp.count 7 vrs.length [] [5] (fun i vs L=>L=[]∧∀j,j<i→varF vrs j=0) rfl rfl ⟨rfl,by omega⟩ ?_)
    rintro i vs L hi - ⟨rfl,hV⟩
    simp only[go_sem]
    refine Wk ?_
    refine⟨fun h5 => ?_,fun h5 => ?_⟩
    ·have hiv:i<vrs.length:=by omega
     have e3:vrs[i]?=some vrs[i]:=List.getElem?_eq_getElem hiv
     have hvf:varF vrs i=if !nameOk vrs[i].1 || (vrs.take i).any (fun w=>decide (w.1=vrs[i].1)) then 13 else if !inI vrs[i].2 (-1073741824) 1073741824 then 2 else 0:=by simp only[varF,e3]
     have hret:varF vrs i ≠ 0→procF ps p=varF vrs i:=fun h=>by
      rw[hpf,fstF_hit hiv hV h,if_pos h]
     repeat(first|((with_reducible refine AWp.ofC ?_ ?_);exact rfl;simp only[go_sem,getD_map hiv])|((with_reducible refine an ?_ ?_);exact Au))
     refine Sd ?_
     refine(ref12_Name _).val.use ?_;simp only[go_sem]
     refine Wk ?_
     refine⟨fun h6 => ?_,fun h6 => ?_⟩
     ·refine Wk ?_
      refine ret_eq ?_;simp only[go_sem]
      have hv13:varF vrs i=13:=by rw[hvf,if_pos (by rw[h6];rfl)]
      rw[hret (by rw[hv13];decide),hv13]
     ·refine Wk ?_
      refine AWp.block (AWp.count 8 i [] [5,7] (fun j vs L=>L=[]∧∀(r:Nat) (hr:r<vrs.length),r<j→vrs[r].1 ≠ vrs[i].1) rfl rfl ⟨rfl,by omega⟩ ?_)
      rintro j vs L hj - ⟨rfl,hJ⟩
      simp only[go_sem]
      refine Wk ?_
      refine⟨fun h7 => ?_,fun h7 => ?_⟩
      ·have hjv:j<vrs.length:=by omega
       refine AWp.seq (AWp.block (AWp.seq ?_))
       refine AWp.drawn mixed 12 (by kernel_rfl) ?_;simp only[go_sem,getD_map hiv,getD_map hjv]
       refine Sd ?_
       refine Wk ?_
       refine⟨fun h8 => ?_,fun h8 => ?_⟩
       ·refine Wk ?_
        refine ret_eq ?_;simp only[go_sem]
        have hv13:varF vrs i=13:=by
         rw[hvf,if_pos]
         rw[Bool.or_eq_true]
         refine .inr (List.any_eq_true.2 ⟨vrs[j],?_,decide_eq_true h8⟩)
         refine List.mem_of_getElem? (i:=j) ?_
         rw[List.getElem?_take,if_pos (by omega),List.getElem?_eq_getElem hjv]
        rw[hret (by rw[hv13];decide),hv13]
       ·refine Wk ?_
        refine⟨_,List.Sublist.refl _,rfl,fun r hr hrq => ?_⟩
        by_cases e:r=j
        ·subst e;exact h8
        ·exact hJ r hr (by omega)
      ·have hno:(vrs.take i).any (fun w=>decide (w.1=vrs[i].1))=false:=by
        rw[List.any_eq_false]
        intro y hy
        obtain⟨r,hr,rfl⟩:=List.getElem_of_mem hy
        have hr':r<i:=by rw[List.length_take] at hr;omega
        rw[List.getElem_take]
        simpa using hJ r (by omega) (by omega)
       repeat(first|((with_reducible refine AWp.ofC ?_ ?_);exact rfl;simp only[go_sem,getD_map hiv])|((with_reducible refine an ?_ ?_);exact Au))
       refine Sd ?_
       refine(ref12_value _).val.use ?_;simp only[go_sem]
       refine Wk ?_
       refine⟨fun h8 => ?_,fun h8 => ?_⟩
       ·refine Wk ?_
        refine ret_eq ?_;simp only[go_sem]
        have hv2:varF vrs i=2:=by rw[hvf,if_neg (by rw[h6,hno];decide),if_pos (by rw[h8];rfl)]
        rw[hret (by rw[hv2];decide),hv2]
       ·refine Wk ?_
        refine⟨_,List.Sublist.refl _,rfl,fun r hr => ?_⟩
        by_cases e:r=i
        ·subst e;rw[hvf,if_neg (by rw[h6,hno];decide),if_neg (by rw[h8];decide)]
        ·exact hV r (by omega)
    ·have hz:=fstF_none (f:=varF vrs) (n:=vrs.length) fun r hr=>hV r (by omega)
     refine Wk ?_
     refine Wk ?_
     refine⟨fun h6 => ?_,fun h6 => ?_⟩
     ·refine Wk ?_
      refine ret_eq ?_;simp only[go_sem]
      rw[hpf,hz,if_neg (by simp),if_pos (by omega)]
     ·refine Wk ?_
      refine ret_eq ?_;simp only[go_sem]
      rw[hpf,hz,if_neg (by simp),if_neg (by omega)]
theorem ref12_head (ps:List Pr) (hs:Sm ps) (p:Nat) (hp:p<ps.length):PC Proofs.Tryz.prog 35 [aTr ps,ai p] (ai (procF ps p)):=ref12_headH ps hs.h p hp
theorem ref12_Find (ps:List Pr) (hs:Sm ps) (kind m:Int):PC Proofs.Tryz.prog 58 [aTr ps,ai kind,ai m] (aEid (findIn (evIds ps) kind m)):=by
 have hl:=hs.procs
 refine PC.enter 52 [.cell 6 54] [3,9] Proofs.Tryz.func58 rfl rfl rfl rfl rfl (by simp) (AWp.of ?_);simp only[go_sem]
 intro b6
 refine Wk ?_
 refine AWp.block (AWp.count 7 ps.length [] [1,2,3,6] (fun p vs L=>L=[(b6,.row 54 2 [aEid (0,0)] 1)]∧∀(j:Nat) (y:Eid × Ev),j<off ps p→(evIds ps)[j]?=some y→¬(y.2.kind=kind∧y.2.msg=m)) rfl rfl ⟨by simp [aEid],by simp [off]⟩ ?_)
 rintro p vs L hp - ⟨rfl,hI⟩
 simp only[go_sem]
 refine Wk ?_
 refine⟨fun h1 => ?_,fun h1 => ?_⟩
 ·have hpp:p<ps.length:=by omega
  have hel:=hs.evs _ (List.getElem_mem hpp)
  refine Wk ?_
  refine AWp.block (AWp.count 8 ps[p].evs.length [] [1,2,3,6,7] (fun i vs L=>L=[(b6,.row 54 2 [aEid (0,0)] 1)]∧∀(j:Nat) (y:Eid × Ev),j<off ps p+i→(evIds ps)[j]?=some y→¬(y.2.kind=kind∧y.2.msg=m)) rfl rfl ⟨rfl,hI⟩ ?_)
  rintro i vs L hi - ⟨rfl,hJ⟩
  simp only[go_sem]
  repeat(first|((with_reducible refine AWp.ofC ?_ ?_);exact rfl;simp only[go_sem,getD_map hpp])|((with_reducible refine an ?_ ?_);exact Au))
  refine⟨fun h2 => ?_,fun h2 => ?_⟩
  ·have hie:i<ps[p].evs.length:=by omega
   have hev:=evIds_get hpp hie
   refine Sd ?_
   refine AWp.of ?_;simp only[go_sem,getD_map hpp,getD_map hie]
   refine Sd ?_
   intro b9 _
   refine Wk ?_
   refine⟨fun h3 h4 => ?_,fun h3 => ?_⟩
   ·refine Wk ?_
    have hf:=findIn_hit hev hJ ⟨h3,h4⟩
    rw[hf]
    refine ret_eq ?_
    simp only[go_sem]
   ·refine Wk ?_
    refine⟨_,List.Sublist.refl _,rfl,fun j y hj hy => ?_⟩
    by_cases e:j=off ps p+i
    ·subst e;rw[hev] at hy;cases hy;exact fun h=>h3 h.1 h.2
    ·exact hJ j y (by omega) hy
  ·refine Wk ?_
   refine⟨_,List.Sublist.refl _,rfl,fun j y hj hy=>hJ j y ?_ hy⟩
   rw[off_succ hpp] at hj;omega
 ·refine Wk ?_
  have hf:findIn (evIds ps) kind m=(0,0):=findIn_none fun x hx=>by
   obtain⟨j,hj⟩:=List.getElem?_of_mem hx
   refine hI j x ?_ hj
   have h2:=(List.getElem?_eq_some_iff.1 hj).1
   rw[evIds_length] at h2
   have:p=ps.length:=by omega
   rw[this];exact h2
  rw[hf]
  refine ret_eq ?_
  simp only[go_sem]
theorem ref12_At (ps:List Pr) (hs:Sm ps) (p:Nat) (hp:p<ps.length) (i:Nat) (hi:i<ps[p].evs.length):PC Proofs.Tryz.prog 57 [aTr ps,aEid (p,(i:Int)+1)] (aEv ps[p].evs[i]):=by
 have hl:=hs.procs
 have hel:=hs.evs _ (List.getElem_mem hp)
 have e1:((i:Int)+1 - 1).toNat=i:=by omega
 have hgi:=getD_map (f:=aEv) hi
 refine PC.enter 17 [.cell 4 39] [2,3] Proofs.Tryz.func57 rfl rfl rfl rfl rfl (by simp) (AWp.of ?_);simp only[go_sem]
 intro b4
 refine AWp.seq ?_
 repeat(first|(with_reducible refine AWp.seq ?_)|(with_reducible refine AWp.block ?_))
 refine AWp.mix mixed [0,1,2,3,4,5,6,7,8,9,10,11] (.step 12 .done .done) (by kernel_rfl) ?_;simp only[go_sem,getD_map hp,e1,hgi]
 refine Sd ?_
 refine Wk ?_
 refine ret_eq ?_
 simp only[go_sem]
theorem ref12_form (ps:List Pr) (hs:Sm ps) (p:Nat) (hp:p<ps.length) (i:Nat) (hi:i<ps[p].evs.length):PC Proofs.Tryz.prog 36 [aTr ps,ai p,ai i] (ai (evF ps p i)):=by
 have hm:=List.getElem_mem hp
 have hl:=hs.procs
 have hel:=hs.evs _ hm
 have hvl:=hs.vars _ hm
 have hal:=hs.asg _ hm _ (List.getElem_mem hi)
 have hi':((i:Int) - 1).toNat<ps[p].evs.length:=by omega
 have hgi:=getD_map (f:=aEv) hi
 have hgi':=getD_map (f:=aEv) hi'
 have ex:evF ps p i=if !formedI ps.length p ps[p].evs[i] then 3 else if !inI ps[p].evs[i].time 0 1099511627776 || decide (ps[p].evs[i].time<lastT ps[p].evs i) then 11 else if 8<ps[p].evs[i].asg.length then 5 else fstF (asgF ps[p].vars.length ps[p].evs[i].asg) ps[p].evs[i].asg.length:=by
  simp only[evF,List.getElem?_eq_getElem hp,List.getElem?_eq_getElem hi]
 have hlt:lastT ps[p].evs i=if i=0 then 0 else ps[p].evs[((i:Int) - 1).toNat].time:=by
  unfold lastT
  by_cases h:i=0
  ·rw[if_pos h,if_pos h]
  ·have e:((i:Int) - 1).toNat=i - 1:=by omega
   rw[if_neg h,if_neg h,List.getElem?_eq_getElem (show i - 1<ps[p].evs.length by omega)]
   simp only[e]
 generalize lastT ps[p].evs i=lt at *
 generalize ps[p].evs[i]=e at *
 generalize ps[p].evs[((i:Int) - 1).toNat]=e' at *
 refine PC.enter 147 [.tmp 6] [3,7,9] Proofs.Tryz.func36 rfl rfl rfl rfl rfl (by simp) (AWp.of ?_);simp only[go_sem]
 repeat(first|((with_reducible refine AWp.ofC ?_ ?_);exact rfl;simp only[go_sem,getD_map hp,hgi])|((with_reducible refine an ?_ ?_);exact Au))
 intro b7
 refine AWp.cut [1,2,3,7] (fun vs L=>L=[]∧formedI ps.length p e=true∧vs=[ai p,ai i,.rp 1 [aTr ps] 0 0,.rp 5 [aEv e] 0 0]) ?_ ?_
 ·refine Wk ?_
  refine⟨fun h1 => ?_,fun h1 => ?_⟩
  ·refine Wk ?_
   refine⟨fun h2 => ?_,fun h2 h3 => ?_⟩
   ·refine Wk ?_
    refine ret_eq ?_;simp only[go_sem]
    rw[ex,if_pos]
    unfold formedI
    rw[if_pos h1]
    rcases h2 with h2|h2
    ·rw[decide_eq_false h2];rfl
    ·rw[decide_eq_false h2,Bool.and_false];rfl
   ·refine⟨_,List.Sublist.refl _,rfl,?_⟩
    unfold formedI
    rw[if_pos h1,decide_eq_true (by omega),decide_eq_true (by omega)];rfl
  ·refine Wk ?_
   refine⟨fun h2 => ?_,fun h2 => ?_⟩
   ·refine Wk ?_
    refine ret_eq ?_;simp only[go_sem]
    rw[ex,if_pos]
    unfold formedI inI
    rw[if_neg h1]
    by_cases h3:e.kind=2∨e.kind=3
    ·rw[if_pos h3,Bool.not_eq_true',← Bool.not_eq_true]
     intro h
     simp only[Bool.and_eq_true,decide_eq_true_eq,Bool.not_eq_true',decide_eq_false_iff_not] at h
     omega
    ·rw[if_neg h3];rfl
   ·intro h3 h4 h5 h6 h7
    refine⟨_,List.Sublist.refl _,rfl,?_⟩
    unfold formedI inI
    have hk:e.kind=2∨e.kind=3:=by
     by_cases h:e.kind=2
     ·exact .inl h
     ·exact .inr (h2 h)
    rw[if_neg h1,if_pos hk]
    simp only[Bool.and_eq_true,decide_eq_true_eq,Bool.not_eq_true',decide_eq_false_iff_not]
    omega
 ·rintro vs L - ⟨rfl,hfm,rfl⟩
  have ex:evF ps p i=if !inI e.time 0 1099511627776 || decide (e.time<lt) then 11 else if 8<e.asg.length then 5 else fstF (asgF ps[p].vars.length e.asg) e.asg.length:=by
   rw[ex,if_neg (by rw[hfm];decide)]
  simp only[go_sem]
  refine AWp.seq (AWp.seq ?_)
  refine AWp.drawn mixed 27 (by kernel_rfl) ?_;simp only[go_sem,getD_map hp,hgi']
  refine Sd ?_
  refine Wk ?_
  refine⟨fun h1 => ?_,fun h1 => ?_⟩
  ·refine Wk ?_
   refine ret_eq ?_;simp only[go_sem]
   rw[ex,if_pos]
   unfold inI
   rw[Bool.or_eq_true,Bool.not_eq_true',← Bool.not_eq_true,decide_eq_true_eq,Bool.and_eq_true,decide_eq_true_eq,decide_eq_true_eq]
   by_cases h0:i=0
   ·refine .inl fun h => ?_
    rcases h1 with (h1|h1)|h1
    ·omega
    ·omega
    ·have:=h1.1;omega
   ·rw[if_neg h0] at hlt
    rcases h1 with (h1|h1)|h1
    ·exact .inl fun h=>by omega
    ·exact .inl fun h=>by omega
    ·exact .inr (by rw[hlt];exact h1.2)
  ·intro h2 h3
   have ex:evF ps p i=if 8<e.asg.length then 5 else fstF (asgF ps[p].vars.length e.asg) e.asg.length:=by
    rw[ex,if_neg]
    unfold inI
    rw[Bool.or_eq_true,Bool.not_eq_true',← Bool.not_eq_true,decide_eq_true_eq,Bool.and_eq_true,decide_eq_true_eq,decide_eq_true_eq]
    rintro(h|h)
    ·exact h ⟨by omega,by omega⟩
    ·rw[hlt] at h
     split at h
     ·omega
     ·exact h3 (by omega) h
   refine Wk ?_
   refine Wk ?_
   refine⟨fun h4 => ?_,fun h4 => ?_⟩
   ·refine Wk ?_
    refine ret_eq ?_;simp only[go_sem]
    rw[ex,if_pos (by omega)]
   ·have ex:evF ps p i=fstF (asgF ps[p].vars.length e.asg) e.asg.length:=by rw[ex,if_neg (by omega)]
    refine Wk ?_
    generalize e.asg=al at *
    generalize hnv:ps[p].vars.length=nv at *
    refine AWp.block (AWp.count 8 al.length [] [1,3,7] (fun k vs L=>L=[]∧∀j,j<k→asgF nv al j=0) rfl rfl ⟨rfl,by omega⟩ ?_)
    rintro k vs L hk - ⟨rfl,hI⟩
    simp only[go_sem]
    refine Wk ?_
    refine⟨fun h5 => ?_,fun h5 => ?_⟩
    ·have hka:k<al.length:=by omega
     have e3:al[k]?=some al[k]:=List.getElem?_eq_getElem hka
     have hvf:asgF nv al k=if !inI al[k].1 0 ((nv:Int) - 1) || !inI al[k].2 (-1073741824) 1073741824 then 2 else if (al.take k).any (fun b=>decide (b.1=al[k].1)) then 8 else 0:=by simp only[asgF,e3]
     have hret:asgF nv al k ≠ 0→evF ps p i=asgF nv al k:=fun h=>by rw[ex,fstF_hit hka hI h]
     have hgk:=getD_map (f:=aAsg) hka
     refine W1 hgk ?_
     intro b9
     refine AWp.seq (AWp.seq ?_)
     refine AWp.drawn mixed 20 (by kernel_rfl) ?_;simp only[go_sem,getD_map hp,hnv]
     refine Sd ?_
     refine GCall.use (ab (inI al[k].2 (-1073741824) 1073741824)) (fun _=>⟨At,(ref12_value _).val.use ⟨rfl,rfl⟩⟩) ?_;simp only[go_sem]
     refine Wk ?_
     refine⟨fun h6 => ?_,fun h6 => ?_⟩
     ·refine Wk ?_
      refine ret_eq ?_;simp only[go_sem]
      have hv2:asgF nv al k=2:=by
       rw[hvf,if_pos]
       rw[Bool.or_eq_true,Bool.not_eq_true',← Bool.not_eq_true,Bool.not_eq_true']
       rcases h6 with (h6|h6)|h6
       ·exact .inl fun h=>by unfold inI at h;rw[Bool.and_eq_true,decide_eq_true_eq,decide_eq_true_eq] at h;omega
       ·exact .inl fun h=>by unfold inI at h;rw[Bool.and_eq_true,decide_eq_true_eq,decide_eq_true_eq] at h;omega
       ·exact .inr h6
      rw[hret (by rw[hv2];decide),hv2]
     ·intro h7 h8
      have hc:¬((!inI al[k].1 0 ((nv:Int) - 1) || !inI al[k].2 (-1073741824) 1073741824)=true):=by
       rw[h8,Bool.not_true,Bool.or_false]
       unfold inI
       rw[Bool.not_eq_true',← Bool.not_eq_true,Bool.and_eq_true,decide_eq_true_eq,decide_eq_true_eq]
       omega
      refine Wk ?_
      refine AWp.block (AWp.count 10 k [] [1,3,7,8,9] (fun j vs L=>L=[]∧∀(r:Nat) (hr:r<al.length),r<j→al[r].1 ≠ al[k].1) rfl rfl ⟨rfl,by omega⟩ ?_)
      rintro j vs L hj - ⟨rfl,hJ⟩
      simp only[go_sem]
      refine Wk ?_
      refine⟨fun h9 => ?_,fun h9 => ?_⟩
      ·have hja:j<al.length:=by omega
       have hgj:=getD_map (f:=aAsg) hja
       refine AWp.seq (AWp.block (AWp.seq ?_))
       refine AWp.drawn mixed 8 (by kernel_rfl) ?_;simp only[go_sem,hgj]
       refine Sd ?_
       refine Wk ?_
       refine⟨fun h10 => ?_,fun h10 => ?_⟩
       ·refine Wk ?_
        refine ret_eq ?_;simp only[go_sem]
        have hv8:asgF nv al k=8:=by
         rw[hvf,if_neg hc,if_pos]
         refine List.any_eq_true.2 ⟨al[j],?_,decide_eq_true h10⟩
         refine List.mem_of_getElem? (i:=j) ?_
         rw[List.getElem?_take,if_pos (by omega),List.getElem?_eq_getElem hja]
        rw[hret (by rw[hv8];decide),hv8]
       ·refine Wk ?_
        refine⟨_,List.Sublist.refl _,rfl,fun r hr hrq => ?_⟩
        by_cases e:r=j
        ·subst e;exact h10
        ·exact hJ r hr (by omega)
      ·have hno:(al.take k).any (fun b=>decide (b.1=al[k].1))=false:=by
        rw[List.any_eq_false]
        intro y hy
        obtain⟨r,hr,rfl⟩:=List.getElem_of_mem hy
        have hr':r<k:=by rw[List.length_take] at hr;omega
        rw[List.getElem_take]
        simpa using hJ r (by omega) (by omega)
       refine Wk ?_
       refine⟨_,List.Sublist.refl _,rfl,fun r hr => ?_⟩
       by_cases e:r=k
       ·subst e;rw[hvf,if_neg hc,if_neg (by rw[hno];decide)]
       ·exact hI r (by omega)
    ·refine Wk ?_
     refine ret_eq ?_;simp only[go_sem]
     rw[ex,fstF_none fun r hr=>hI r (by omega)]
theorem pair_first {ps:List Pr} {p:Nat} (hp:p<ps.length) {i:Nat} (hi:i<ps[p].evs.length) :
  findIn (evIds ps) ps[p].evs[i].kind ps[p].evs[i].msg=((p:Int),(i:Int)+1)↔¬0<(findIn ((evIds ps).take (off ps p+i)) ps[p].evs[i].kind ps[p].evs[i].msg).2:=by
 have hev:=evIds_get hp hi
 constructor
 ·intro h h0
  have hsplit:evIds ps=(evIds ps).take (off ps p+i) ++ (evIds ps).drop (off ps p+i):=(List.take_append_drop _ _).symm
  unfold findIn at h0
  cases hf:((evIds ps).take (off ps p+i)).find? (fun x=>decide (x.2.kind=ps[p].evs[i].kind) && decide (x.2.msg=ps[p].evs[i].msg)) with
  | none=>rw[hf] at h0;simp at h0
  | some y =>
   have h1:findIn (evIds ps) ps[p].evs[i].kind ps[p].evs[i].msg=y.1:=by
    unfold findIn
    rw[hsplit,List.find?_append,hf];rfl
   have hy:=List.mem_of_find?_eq_some hf
   obtain⟨j,hj⟩:=List.getElem?_of_mem hy
   rw[List.getElem?_take] at hj
   split at hj
   ·rename_i hlt
    obtain⟨q,hq,r,hr,e,e2⟩:=evIds_inv hj
    rw[e2] at h1
    rw[h1,Prod.mk.injEq] at h
    have e3:q=p:=by omega
    have e4:r=i:=by omega
    subst e3;subst e4
    omega
   ·cases hj
 ·intro hno
  refine findIn_hit hev (fun j y hj hy hc=>hno ?_) ⟨rfl,rfl⟩
  have hmem:y ∈ (evIds ps).take (off ps p+i):=by
   refine List.mem_of_getElem? (i:=j) ?_
   rw[List.getElem?_take,if_pos hj];exact hy
  unfold findIn
  cases hf:((evIds ps).take (off ps p+i)).find? (fun x=>decide (x.2.kind=ps[p].evs[i].kind) && decide (x.2.msg=ps[p].evs[i].msg)) with
  | some x=>exact evIds_pos ps x (List.mem_of_mem_take (List.mem_of_find?_eq_some hf))
  | none =>
   rw[List.find?_eq_none] at hf
   have:=hf y hmem
   simp [hc.1,hc.2] at this
theorem ref12_paired (ps:List Pr) (hs:Sm ps) (hf:Formed ps) (p:Nat) (hp:p<ps.length) (i:Nat) (hi:i<ps[p].evs.length):PC Proofs.Tryz.prog 37 [aTr ps,aEid (p,(i:Int)+1)] (ai (pairF ps (off ps p+i))):=by
 have hfe:=hf p hp _ (List.getElem_mem hi)
 have hev:=evIds_get hp hi
 have hpf:pairF ps (off ps p+i)=if ps[p].evs[i].kind=2 then if (findIn ((evIds ps).take (off ps p+i)) 2 ps[p].evs[i].msg).2 > 0 then 8 else 0 else if ps[p].evs[i].kind=3 then if (findIn ((evIds ps).take (off ps p+i)) 3 ps[p].evs[i].msg).2 > 0 then 8 else if !sendsB ps ps[p].evs[i].peer ps[p].evs[i].msg p then 7 else 0 else 0:=by
  unfold pairF;rw[hev]
 have hfst:=pair_first hp hi
 have hat:=ref12_At ps hs p hp i hi
 generalize ps[p].evs[i]=e at *
 refine PC.enter 70 [.tmp 4] [2,3,5,8] Proofs.Tryz.func37 rfl rfl rfl rfl rfl (by simp) (AWp.of ?_);simp only[go_sem]
 refine Wk ?_
 refine Sd ?_
 refine(hat).val.use ?_;simp only[go_sem]
 refine Sd ?_
 intro b5
 refine Wk ?_
 refine⟨fun h1 => ?_,fun h1 => ?_⟩
 ·refine Wk ?_
  refine ret_eq ?_;simp only[go_sem]
  rw[hpf,if_neg (by omega),if_neg (by omega)]
 ·have hk:e.kind=2∨e.kind=3:=by
   unfold formedI at hfe
   rw[if_neg h1] at hfe
   by_cases h:e.kind=2∨e.kind=3
   ·exact h
   ·rw[if_neg h] at hfe;cases hfe
  obtain⟨m1,m2,m3,m4⟩:=formed_msg hfe hk
  have hfd:=ref12_Find ps hs e.kind e.msg
  generalize hfi:findIn (evIds ps) e.kind e.msg=f at *
  refine Wk ?_
  refine AWp.seq (AWp.seq ?_)
  refine AWp.drawn mixed 7 (by kernel_rfl) ?_;simp only[go_sem]
  refine Sd ?_
  refine Gc hfd ?_
  refine Wk ?_
  refine⟨fun h2 => ?_,fun h2 => ?_⟩
  ·have hne:¬f=((p:Int),(i:Int)+1):=fun h=>by rw[h] at h2;exact h2 rfl rfl
   have h0:0<(findIn ((evIds ps).take (off ps p+i)) e.kind e.msg).2:=by
    by_cases h:0<(findIn ((evIds ps).take (off ps p+i)) e.kind e.msg).2
    ·exact h
    ·exact absurd (hfst.2 h) hne
   refine Wk ?_
   refine ret_eq ?_;simp only[go_sem]
   rw[hpf]
   rcases hk with hk|hk
   ·rw[hk] at h0;rw[if_pos hk,if_pos h0]
   ·rw[hk] at h0;rw[if_neg (by omega),if_pos hk,if_pos h0]
  ·intro h3
   have he:f=((p:Int),(i:Int)+1):=Prod.ext h2 h3
   have h0:=hfst.1 he
   refine Wk ?_
   refine Wk ?_
   refine⟨fun h4 => ?_,fun h4 => ?_⟩
   ·have hpn:e.peer.toNat<ps.length:=by omega
    have hpe:((e.peer.toNat:Nat):Int)=e.peer:=Int.toNat_of_nonneg m3
    have hel:=hs.evs _ (List.getElem_mem hpn)
    have hgp:=getD_map (f:=aPr) hpn
    have hsd:sendsB ps e.peer e.msg p=ps[e.peer.toNat].evs.any fun x=>decide (x.kind=2) && decide (x.msg=e.msg) && decide (x.peer=p):=by
     simp only[sendsB,List.getElem?_eq_getElem hpn]
    rw[h4] at h0
    have hpf:pairF ps (off ps p+i)=if !sendsB ps e.peer e.msg p then 7 else 0:=by
     rw[hpf,if_neg (by omega),if_pos h4,if_neg h0]
    rw[hsd] at hpf
    refine Wk ?_
    obtain⟨es,hes⟩:∃es,ps[e.peer.toNat].evs=es:=⟨_,rfl⟩
    rw[hes] at hsd hpf hel
    refine AWp.block (AWp.count 7 es.length [6] [2,3,5] (fun j vs L=>L=[]∧vs=[ab ((es.take j).any fun x=>decide (x.kind=2) && decide (x.msg=e.msg) && decide (x.peer=p))]) rfl rfl ⟨rfl,rfl⟩ ?_)
    rintro j vs L hj - ⟨rfl,rfl⟩
    simp only[go_sem]
    refine W2 hgp hes ?_
    refine⟨fun h5 => ?_,fun h5 => ?_⟩
    ·have hje:j<es.length:=by omega
     have hgj:=getD_map (f:=aEv) hje
     have hsu:(es.take (j+1)).any (fun x=>decide (x.kind=2) && decide (x.msg=e.msg) && decide (x.peer=p))=((es.take j).any (fun x=>decide (x.kind=2) && decide (x.msg=e.msg) && decide (x.peer=p)) || (decide (es[j].kind=2) && decide (es[j].msg=e.msg) && decide (es[j].peer=p))):=by
      rw[List.take_succ_eq_append_getElem hje,List.any_append];simp
     generalize (es.take j).any (fun x=>decide (x.kind=2) && decide (x.msg=e.msg) && decide (x.peer=p))=b at *
     refine Sd ?_
     refine AWp.of ?_;simp only[go_sem,hgp,hes,hgj]
     refine Sd ?_
     intro b8
     refine Wk ?_
     repeat((with_reducible refine And.intro ?_ ?_);focus (intro h;refine⟨h,?_⟩;intro h1;first|exact⟨h,h1⟩|(intro h2;exact⟨h,h1,h2⟩)))
     refine Wk ?_
     refine⟨_,List.Sublist.refl _,rfl,?_⟩
     rw[hsu]
    ·refine Wk ?_
     rw[List.take_of_length_le (by omega)]
     refine Wk ?_
     refine⟨fun h6 => ?_,fun h6 => ?_⟩
     ·refine Wk ?_
      refine ret_eq ?_;simp only[go_sem]
      rw[hpf,if_pos (by rw[h6];rfl)]
     ·refine Wk ?_
      refine ret_eq ?_;simp only[go_sem]
      rw[hpf,if_neg (by rw[h6];decide)]
   ·refine Wk ?_
    refine ret_eq ?_;simp only[go_sem]
    rw[hpf]
    rcases hk with hk|hk
    ·rw[hk] at h0;rw[if_pos hk,if_neg h0]
    ·exact absurd hk h4
end Go.AL
end
section
namespace Go.AL
open Go Go.RowKit
def dnA (n:Nat) (c:Nat→Nat):List AV:=(List.range n).map fun q=>ai (c q)
theorem dnA_length (n:Nat) (c:Nat→Nat):(dnA n c).length=n:=by simp [dnA]
theorem dnA_set {n p:Nat} {c c':Nat→Nat} {x:Int} (hx:(c' p:Int)=x) (ho:∀q,q ≠ p→c' q=c q):(dnA n c).set p (ai x)=dnA n c':=by
 unfold dnA
 rw[map_range_set];congr 1;funext q
 by_cases e:q=p
 ·rw[if_pos e,e,hx]
 ·rw[if_neg e,ho q e]
theorem dnA_get {n p:Nat} (hp:p<n) (c:Nat→Nat):(dnA n c).getD p .any=ai (c p):=map_range_getD hp _
theorem nd2 {b c:Nat} {x y:ABlk} {r:AHeap} (h:((((b,x) :: (c,y) :: r:AHeap)).map (·.1)).Nodup):¬b=c∧¬c=b∧∀z ∈ r,(¬b=z.1∧¬z.1=b)∧¬c=z.1∧¬z.1=c:=by
 simp only[List.map_cons,List.nodup_cons,List.mem_cons,not_or,List.mem_map,not_exists,not_and] at h
 obtain⟨⟨h1,h2⟩,h3,_⟩:=h
 exact⟨h1,fun e=>h1 e.symm,fun z hz=>⟨⟨fun e=>h2 z hz e.symm,h2 z hz⟩,fun e=>h3 z hz e.symm,h3 z hz⟩⟩
theorem nd3 {b c d:Nat} {x y z:ABlk} {r:AHeap} (h:((((b,x) :: (c,y) :: (d,z) :: r:AHeap)).map (·.1)).Nodup):(¬b=c∧¬c=b)∧(¬b=d∧¬d=b)∧(¬c=d∧¬d=c)∧∀w ∈ r,(¬b=w.1∧¬w.1=b)∧(¬c=w.1∧¬w.1=c)∧¬d=w.1∧¬w.1=d:=by
 obtain⟨h1,h2,h3⟩:=nd2 h
 rw[List.map_cons,List.nodup_cons] at h
 obtain⟨h4,h5,h6⟩:=nd2 h.2
 exact⟨⟨h1,h2⟩,(h3 (d,z) List.mem_cons_self).1,⟨h4,h5⟩,fun w hw=>⟨(h3 w (List.mem_cons_of_mem _ hw)).1,(h6 w hw).1,(h6 w hw).2⟩⟩
end Go.AL
end
section
namespace Go.AL
open Go Go.RowKit
set_option maxRecDepth 4000
noncomputable def acyB (ps:List Pr):Bool:=(List.range ps.length).all fun p=>decide (nev ps p≤(stampF ps p).length)
theorem acyB_cyc {ps:List Pr} (hs:Sm ps) (hm:msgF ps=none) (h:acyB ps=true):cycF ps=none:=by
 refine cycF_of_stamps hm (stampF_gen hs).1 fun p hp => ?_
 unfold acyB at h
 rw[List.all_eq_true] at h
 simpa using h p (List.mem_range.2 hp)
theorem ref12_acyclic (ps:List Pr) (hs:Sm ps) (hm:msgF ps=none) (hn:1≤ps.length):PC Proofs.Tryz.prog 38 [aTr ps] (ab (acyB ps)):=by
 have hl:=hs.procs
 refine PC.enter 86 [.tmp 2] [1,6,7] Proofs.Tryz.func38 rfl rfl rfl rfl rfl (by simp) (AWp.of ?_);simp only[go_sem]
 refine Sd ?_
 refine AWp.of ?_;simp only[go_sem]
 refine Sd ?_
 intro bd
 have hD0:List.replicate ps.length (ai 0)=dnA ps.length (lenS fun _=>[]):=by
  unfold dnA lenS;apply List.ext_getElem (by simp);intro i h1 h2;simp
 rw[hD0]
 have hB:∀S,Gen ps S→totS ps.length (lenS S)≤ps.length * 1000000:=fun S h=>totS_le _ fun q hq=>by
  have h1:=h.le_nev q
  rw[nev_get hq] at h1
  have h2:=hs.evs _ (List.getElem_mem hq)
  unfold lenS;omega
 refine AWp.cut [1,3] (fun vs L=>∃S,Gen ps S∧(∀p,¬Rdy ps (lenS S) p)∧L=[(bd,.row 3 1 (dnA ps.length (lenS S)) ps.length)]∧vs=[.rp 1 [aTr ps] 0 0,.ls bd 1 0 ps.length ps.length]) ?_ ?_
 ·refine AWp.block (AWp.loopN [] [1,3] (fun m vs L=>∃S,Gen ps S∧L=[(bd,.row 3 1 (dnA ps.length (lenS S)) ps.length)]∧m=ps.length * 1000000 - totS ps.length (lenS S)) (ps.length * 1000000 - totS ps.length (lenS fun _=>[])) ?_ ?_)
  ·exact⟨_,.init,rfl,rfl⟩
  rintro m vs L - ⟨S0,hG0,rfl,rfl⟩
  simp only[go_sem]
  refine Wk ?_
  refine AWp.block (AWp.count 5 ps.length [4] [1,3] (fun p vs L=>∃S g,vs=[ab g]∧L=[(bd,.row 3 1 (dnA ps.length (lenS S)) ps.length)]∧Gen ps S∧(g=false→S=S0∧∀q,q<p→¬Rdy ps (lenS S) q)∧(g=true→totS ps.length (lenS S0)<totS ps.length (lenS S)))
   rfl rfl ⟨S0,false,rfl,rfl,hG0,fun _=>⟨rfl,fun q hq=>by omega⟩,fun h=>(by cases h)⟩ ?_)
  rintro p vs L hp - ⟨S1,g1,rfl,rfl,hG1,hf1,ht1⟩
  simp only[go_sem]
  refine Wk ?_
  refine⟨fun h1 => ?_,fun h1 => ?_⟩
  ·have hpp:p<ps.length:=by omega
   have hel:=hs.evs _ (List.getElem_mem hpp)
   have hgP:=getD_map (f:=aPr) hpp
   refine AWp.seq (AWp.block (AWp.block (AWp.loopN [4] [1,3,5] (fun m vs L=>∃S g,vs=[ab g]∧L=[(bd,.row 3 1 (dnA ps.length (lenS S)) ps.length)]∧Gen ps S∧(g=false→S=S0∧∀q,q<p→¬Rdy ps (lenS S) q)∧(g=true→totS ps.length (lenS S0)<totS ps.length (lenS S))∧m=1000000 - (S p).length)
    (1000000 - (S1 p).length) ?_ ?_)))
   ·exact⟨S1,g1,rfl,rfl,hG1,hf1,ht1,rfl⟩
   rintro m' vs L - ⟨S,g,rfl,rfl,hG,hf,ht,hm'⟩
   have hle:=hG.le_nev p
   rw[nev_get hpp] at hle
   have hgd:=dnA_get hpp (lenS S)
   have hlS:lenS S p=(S p).length:=rfl
   simp only[go_sem]
   refine AWp.seq (AWp.seq ?_)
   repeat(first|(with_reducible refine AWp.seq ?_)|(with_reducible refine AWp.block ?_))
   refine AWp.mix mixed [0,1,2,4,5,6,7,8,9,10] (.step 3 (.step 11 .done .done) .done) (by kernel_rfl) ?_;simp only[go_sem,hgP,hgd,dnA_length]
   refine Sd ?_
   refine Wk ?_
   refine⟨fun h2 => ?_,fun h2 => ?_⟩
   ·have hk:(S p).length<ps[p].evs.length:=by unfold lenS at h2;omega
    have hgk:=getD_map (f:=aEv) hk
    have heq:=evq_get hpp hk
    have hrdy:Rdy ps (lenS S) p↔(ps[p].evs[(S p).length].kind=3→0<(sndr ps ps[p].evs[(S p).length].msg).2∧(sndr ps ps[p].evs[(S p).length].msg).2≤lenS S (sndr ps ps[p].evs[(S p).length].msg).1.toNat):=by
     unfold Rdy
     rw[hlS,heq]
     exact⟨fun h=>h.2.2,fun h=>⟨hpp,by rw[nev_get hpp];exact hk,h⟩⟩
    have h0s:=recv_sndr hm hpp hk
    rw[hlS] at hgd
    generalize ps[p].evs[(S p).length]=e at *
    refine AWp.block ?_
    refine AWp.cut [1,3,4,5,6] (fun vs L=>L=[(bd,.row 3 1 (dnA ps.length (lenS S)) ps.length)]∧vs=[.rp 1 [aTr ps] 0 0,.ls bd 1 0 ps.length ps.length,ab g,ai p,.rp 5 [aEv e] 0 0]) ?_ ?_
    ·repeat(first|(with_reducible refine AWp.seq ?_)|(with_reducible refine AWp.block ?_))
     refine AWp.mix mixed [0,1,2,3,4,5,6,7,8] (.step 9 (.step 10 (.step 11 (.step 12 (.step 13 .done .done) .done) (.step 12 (.step 11 (.step 13 .done .done) .done) .done)) (.step 12 (.step 10 (.step 11 (.step 13 .done .done) .done) .done) .done)) (.step 12 (.step 9 (.step 10 (.step 11 (.step 13 .done .done) .done) .done) .done) .done)) (by kernel_rfl) ?_;simp only[go_sem,hgP,hgd,hgk,dnA_length]
     repeat' (first|(with_reducible refine And.intro ?_ ?_)|intro _)
     all_goals first|omega|exact⟨_,List.Sublist.refl _,rfl⟩|(rename_i bN k1;have nb:¬bd=bN:=(by omega);simp only[go_sem,nb,hgd,hgk,dnA_length])
     all_goals repeat' (first|(with_reducible refine And.intro ?_ ?_)|intro _)
     all_goals first|omega|exact⟨_,List.Sublist.refl _,rfl⟩
    ·rintro vs L - ⟨rfl,rfl⟩
     simp only[go_sem]
     refine AWp.cut [1,3,4,5] (fun vs L=>Rdy ps (lenS S) p∧L=[(bd,.row 3 1 (dnA ps.length (lenS S)) ps.length)]∧vs=[.rp 1 [aTr ps] 0 0,.ls bd 1 0 ps.length ps.length,ab g,ai p]) ?_ ?_
     ·refine Wk ?_
      refine⟨fun h3 => ?_,fun h3 => ?_⟩
      ·have hfd:=ref12_Find ps hs 2 e.msg
       have hse:findIn (evIds ps) 2 e.msg=sndr ps e.msg:=rfl
       obtain⟨f1,f2⟩:=findIn_proc hn 2 e.msg
       rw[hse] at hfd f1 f2
       generalize sndr ps e.msg=sd at *
       have hgs:=dnA_get (show sd.1.toNat<ps.length by omega) (lenS S)
       refine Wk ?_
       refine Sd ?_
       refine(hfd).val.use ?_;simp only[go_sem]
       refine Sd ?_
       intro b7 hb7
       have nb:¬bd=b7:=by omega
       refine AWp.seq ?_
       repeat(first|(with_reducible refine AWp.seq ?_)|(with_reducible refine AWp.block ?_))
       refine AWp.mix mixed [0,1,2,3,5,6] (.step 4 (.step 7 .done .done) .done) (by kernel_rfl) ?_;simp only[go_sem,hgs,dnA_length,nb]
       refine Sd ?_
       refine Wk ?_
       refine⟨fun h4 => ?_,fun h4 => ?_⟩
       ·refine Wk ?_
        refine⟨_,List.Sublist.refl _,S,g,rfl,rfl,hG,fun hg => ?_,ht⟩
        obtain⟨e1,e2⟩:=hf hg
        refine⟨e1,fun q hq => ?_⟩
        by_cases e:q=p
        ·subst e
         intro hr
         have:=hrdy.1 hr h3
         omega
        ·exact e2 q (by omega)
       ·exact⟨_,List.Sublist.refl _,hrdy.2 fun _=>⟨h0s h3,by omega⟩,rfl⟩
      ·exact⟨_,List.Sublist.refl _,hrdy.2 fun h=>absurd h h3,rfl⟩
     ·rintro vs L - ⟨hrd,rfl,rfl⟩
      have hG':=hG.step hrd
      have htot:=totS_up hpp (S:=S) (vecV ps S p (S p).length)
      have hset:=dnA_set (n:=ps.length) (p:=p) (c:=lenS S) (c':=lenS (upS S p (vecV ps S p (S p).length))) (x:=((S p).length:Int)+1) (by unfold lenS;rw[upS_len,if_pos rfl];omega) (fun q hq=>by unfold lenS;rw[upS_len,if_neg hq])
      have hlen':(upS S p (vecV ps S p (S p).length) p).length=(S p).length+1:=by rw[upS_len,if_pos rfl]
      simp only[go_sem]
      refine Sd ?_
      refine AWp.of ?_;simp only[go_sem,hgd,dnA_length]
      refine Sd ?_
      rw[hset]
      refine Wk ?_
      refine⟨_,List.Sublist.refl _,1000000 - (upS S p (vecV ps S p (S p).length) p).length,by omega,_,true,rfl,rfl,hG',fun h=>(by cases h),fun _ => ?_,rfl⟩
      rw[htot]
      cases hg:g with
      | true=>have:=ht hg;omega
      | false=>rw[(hf hg).1];omega
   ·refine Wk ?_
    refine⟨_,List.Sublist.refl _,S,g,rfl,rfl,hG,fun hg => ?_,ht⟩
    obtain⟨e1,e2⟩:=hf hg
    refine⟨e1,fun q hq => ?_⟩
    by_cases e:q=p
    ·subst e
     intro hr
     have:=hr.2.1
     rw[nev_get hpp] at this
     omega
    ·exact e2 q (by omega)
  ·have hpn:p=ps.length:=by omega
   refine Wk ?_
   refine⟨fun h2 => ?_,fun h2 => ?_⟩
   ·refine⟨_,List.Sublist.refl _,S1,hG1,fun q hr => ?_,rfl⟩
    exact(hf1 h2).2 q (by have:=hr.1;omega) hr
   ·have h3:=ht1 h2
    have h4:=hB S1 hG1
    exact⟨_,List.Sublist.refl _,_,by omega,S1,hG1,rfl,rfl⟩
 ·rintro vs L - ⟨S,hG,hmx,rfl,rfl⟩
  have hst:=stampF_eq hG hmx
  simp only[go_sem]
  refine Wk ?_
  refine AWp.block (AWp.count 8 ps.length [] [1,3] (fun p vs L=>L=[(bd,.row 3 1 (dnA ps.length (lenS S)) ps.length)]∧∀q,q<p→nev ps q≤(stampF ps q).length) rfl rfl ⟨rfl,by omega⟩ ?_)
  rintro p vs L hp - ⟨rfl,hI⟩
  simp only[go_sem]
  refine Wk ?_
  refine⟨fun h1 => ?_,fun h1 => ?_⟩
  ·have hpp:p<ps.length:=by omega
   have hel:=hs.evs _ (List.getElem_mem hpp)
   have hgP:=getD_map (f:=aPr) hpp
   have hgd:=dnA_get hpp (lenS S)
   refine AWp.seq (AWp.block (AWp.seq ?_))
   repeat(first|(with_reducible refine AWp.seq ?_)|(with_reducible refine AWp.block ?_))
   refine AWp.mix mixed [0,1,2,4,5,6,7,8,9,10] (.step 3 (.step 11 .done .done) .done) (by kernel_rfl) ?_;simp only[go_sem,hgP,hgd,dnA_length]
   refine Sd ?_
   refine Wk ?_
   refine⟨fun h2 => ?_,fun h2 => ?_⟩
   ·refine Wk ?_
    refine ret_eq ?_;simp only[go_sem]
    unfold acyB
    congr 2;symm
    rw[List.all_eq_false]
    refine⟨p,List.mem_range.2 hpp,?_⟩
    rw[hst,decide_eq_true_eq,nev_get hpp]
    unfold lenS at h2;omega
   ·refine Wk ?_
    refine⟨_,List.Sublist.refl _,rfl,fun q hq => ?_⟩
    by_cases e:q=p
    ·subst e;rw[hst,nev_get hpp];unfold lenS at h2;omega
    ·exact hI q (by omega)
  ·refine Wk ?_
   refine ret_eq ?_;simp only[go_sem]
   unfold acyB
   congr 2;symm
   rw[List.all_eq_true]
   exact fun q hq=>decide_eq_true (hI q (by have:=List.mem_range.1 hq;omega))
end Go.AL
end
