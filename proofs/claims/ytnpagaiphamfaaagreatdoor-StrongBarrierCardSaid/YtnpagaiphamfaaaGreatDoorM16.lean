/- Texts of this claim's proof: WNa, WNb, WTm, WDx, WPu, WNc, WQa, WQb, WNe, WOa, WQd. No condition. -/
import Derived.Test.YtnpagaiphamfaaaGreatDoorM15
import Derived.Test.YtnpagaiphamfaaaGreatDoorM6
import Derived.Test.YtnpagaiphamfaaaGreatDoorM10
import Derived.Test.YtnpagaiphamfaaaGreatDoorM14
import Derived.Test.YtnpagaiphamfaaaGreatDoorM13
import Derived.Test.YtnpagaiphamfaaaGreatDoorM11
section
namespace Go.AL
open Go Go.RowKit
set_option maxRecDepth 4000
def OwnS (xs:List (List Int)) (v:AV) (L:AHeap):Prop :=
 (xs=[]∧v=anil∧L=[])∨∃b cap ws,v = .ls b 1 0 xs.length cap∧L=[(b,.row 42 1 (xs.map aInts ++ ws) cap)]
theorem OwnS.fo {xs:List (List Int)} {v:AV} {L:AHeap} (h:OwnS xs v L):AL.fo v=(True,v):=by
 rcases h with ⟨_,rfl,_⟩|⟨b,cap,ws,rfl,_⟩ <;> rfl
theorem cuts_listO (ps:List Pr) (hs:Sm ps):MCalls Proofs.Tryz.prog 72 [aTr ps] [] fun r L=>∃v,r = .tup [v,ai (lstE ps)]∧OwnS (lstF ps) v L:=by
 have h1:=cuts_levels' ps hs
 have hf:(lvOf ps).flatten.length≤1000000:=by rw[lv_flat];have:=lst_len ps;omega
 have h2:=rows_concat (lvOf ps) (by have:=lv_len hs;omega) hf
 have hfl:=lv_flat ps
 rw[← hfl]
 generalize lvOf ps=ls at *
 generalize lstE ps=e at *
 refine MCalls.enter' 14 [.tmp 2,.tmp 3] [1] Proofs.Tryz.func72 rfl rfl rfl rfl rfl (by simp) (AWp.of ?_);simp only[go_sem]
 refine Wk ?_
 refine Sd ?_
 refine(h1).val.use ?_;simp only[go_sem]
 refine Wk ?_
 refine h2.val.mono ?_
 intro r L hC
 have hO:OwnS ls.flatten r L:=by
  unfold CatS at hC
  rw[List.take_length] at hC
  rcases hC with h|⟨b,cap,xs,e1,e2,h3,h4⟩
  ·exact .inl h
  ·exact .inr ⟨b,cap,xs.drop ls.flatten.length,e1,by rw[e2,← h4,List.take_append_drop]⟩
 have hfo:=hO.fo
 clear hC
 simp only[go_sem,hfo]
 refine W1 hfo ?_
 refine ret_own ?_
 simp only[go_sem]
 exact⟨r,rfl,hO⟩
theorem getD_app {l r:List AV} {i:Nat} (h:i<l.length):(l ++ r).getD i .any=l.getD i .any:=by
 rw[List.getD_eq_getElem?_getD,List.getElem?_append_left h,List.getD_eq_getElem?_getD]
theorem rows_delete_nil (g:AV) (hgf:AL.fo g=(True,g)):PC Proofs.Tryz.prog 35 [anil,g] anil:=by
 have h:PC Proofs.Tryz.prog 73 [aRows [],g] (ai (-1)):=rows_indexFunc [] (by decide) g hgf (fun _=>false) (fun x hx=>by cases hx)
 refine PC.enter 42 [.tmp 4] [] Proofs.Tryz.func35 rfl rfl rfl rfl rfl (by simp) (AWp.of ?_);simp only[go_sem]
 refine W1 hgf ?_
 refine(PC.view (Vws.cons (.nil 1) (Vws.cons (.refl _) .nil)) h (Own.v _) ?_).val
 simp only[go_sem]
 repeat(first|((with_reducible refine AWp.ofC ?_ ?_);exact rfl;simp only[go_sem,Int.reduceNeg])|((with_reducible refine an ?_ ?_);exact Au))
 refine ret_eq ?_;simp only[go_sem]
theorem rows_delete (b cap:Nat) (xs:List (List Int)) (ws:List AV) (hl:xs.length≤1000000) (g:AV) (hgf:AL.fo g=(True,g)) (p:List Int→Bool) (hg:∀x ∈ xs,PV Proofs.Tryz.prog g [aInts x] (ab (p x))) :
  MCalls Proofs.Tryz.prog 35 [.ls b 1 0 xs.length cap,g] [(b,.row 42 1 (xs.map aInts ++ ws) cap)] fun r L'=>OwnS (xs.filter fun x => !p x) r L':=by
 have hIx:=rows_indexFunc xs hl g hgf p hg
 refine MCalls.enter' 42 [.tmp 4] [] Proofs.Tryz.func35 rfl rfl rfl rfl rfl (by simp) (AWp.of ?_);simp only[go_sem]
 refine AWp.capOk (b:=b) (if_pos rfl) fun hcap => ?_
 rw[List.length_append,List.length_map] at hcap
 refine W1 hgf ?_
 have hvw:Vw [(b,.row 42 1 (xs.map aInts ++ ws) cap)] (.ls b 1 0 xs.length cap) (aRows xs):=Vw.front (xs:=xs.map aInts) (ws:=ws) (if_pos rfl) (by rw[List.length_map])
 refine(PC.view (Vws.cons hvw (Vws.cons (.refl _) .nil)) hIx (Own.v _) ?_).val
 cases h:xs.findIdx? p with
 | none =>
  simp only[go_sem]
  repeat(first|((with_reducible refine AWp.ofC ?_ ?_);exact rfl;simp only[go_sem,Int.reduceNeg])|((with_reducible refine an ?_ ?_);exact Au))
  refine ret_own ?_
  simp only[go_sem]
  have e:(xs.filter fun x => !p x)=xs:=List.filter_eq_self.2 fun x hx=>by rw[List.findIdx?_eq_none_iff] at h;rw[h x hx];rfl
  rw[e]
  exact .inr ⟨b,cap,ws,rfl,rfl⟩
 | some i0 =>
  rw[List.findIdx?_eq_some_iff_getElem] at h
  obtain⟨hi0,hp0,hbe⟩:=h
  have hF0:xs.take i0=(xs.take (i0+1)).filter fun x => !p x:=by
   rw[List.take_succ_eq_append_getElem hi0,List.filter_append,List.filter_eq_self.2]
   ·simp [hp0]
   ·intro x hx
    obtain⟨j,hj,rfl⟩:=List.getElem_of_mem hx
    rw[List.getElem_take]
    rw[List.length_take] at hj
    have:=hbe j (by omega)
    simpa using this
  have hn1:¬((i0:Int) = -1):=by omega
  simp only[go_sem]
  refine W1 hn1 ?_
  refine AWp.block (AWp.loopN [5,6] [0,1] (fun m vs L=>∃(j:Nat) (F zs:List (List Int)),vs=[ai F.length,ai j]∧j≤xs.length∧(F=(xs.take j).filter fun x => !p x)∧F.length<j∧zs=F ++ xs.drop F.length∧m=xs.length - j ∧
   L=[(b,.row 42 1 (zs.map aInts ++ ws) cap)]) (xs.length - (i0+1)) ⟨i0+1,xs.take i0,xs,by rw[List.length_take,Nat.min_eq_left (by omega)];rfl,by omega,hF0,by rw[List.length_take];omega,by rw[List.length_take,Nat.min_eq_left (by omega),List.take_append_drop],rfl,rfl⟩ ?_)
  rintro m vs L - ⟨j,F,zs,rfl,hj,hF,hFj,hz,rfl,rfl⟩
  have zl:zs.length=xs.length:=by rw[hz,List.length_append,List.length_drop];omega
  have hzl:(zs.map aInts ++ ws).length=xs.length+ws.length:=by rw[List.length_append,List.length_map,zl]
  simp only[go_sem]
  refine Wk ?_
  refine⟨fun h1 => ?_,fun h1 => ?_⟩
  ·have hjx:j<xs.length:=by omega
   have g1:(zs.map aInts ++ ws).getD j .any=aInts xs[j]:=by
    rw[getD_app (by rw[List.length_map];omega),getD_map (by omega)]
    subst hz
    rw[List.getElem_append_right (by omega),List.getElem_drop]
    congr 2;omega
   have hgj:=hg xs[j] (List.getElem_mem hjx)
   have hst:((xs.take (j+1)).filter fun x => !p x)=F ++ if p xs[j]=true then [] else [xs[j]]:=by
    rw[List.take_succ_eq_append_getElem hjx,List.filter_append,← hF]
    cases hpj:p xs[j] <;> simp [hpj]
   refine W3 g1 hgf hzl ?_
   refine Sd ?_
   refine(hgj).use ?_;simp only[go_sem]
   refine W3 g1 hgf hzl ?_
   refine⟨fun h2 => ?_,fun h2 => ?_⟩
   ·rw[if_neg (by rw[h2];decide)] at hst
    have g0:(zs.map aInts ++ ws).getD F.length .any=aInts (zs[F.length]'(by omega)):=by rw[getD_app (by rw[List.length_map];omega),getD_map (by omega)]
    refine W4 g1 g0 hgf hzl ?_
    refine⟨_,List.Sublist.refl _,_,?_,j+1,F ++ [xs[j]],zs.set F.length xs[j],?_,by omega,hst.symm,by simp;omega,?_,rfl,?_⟩
    ·omega
    ·rw[List.length_append];rfl
    ·rw[hz,List.set_append_right _ _ (Nat.le_refl _),Nat.sub_self,List.drop_eq_getElem_cons (show F.length<xs.length by omega),List.set_cons_zero,List.append_assoc,List.length_append];rfl
    ·rw[List.map_set,List.set_append_left _ _ (by rw[List.length_map];omega)];rfl
   ·rw[if_pos h2,List.append_nil] at hst
    refine W3 g1 hgf hzl ?_
    exact⟨_,List.Sublist.refl _,_,by omega,j+1,F,zs,rfl,by omega,hst.symm,by omega,hz,rfl,rfl⟩
  ·have hje:j=xs.length:=by omega
   rw[hje,List.take_length] at hF
   refine W1 hzl ?_
   refine ret_own ?_
   simp only[go_sem]
   have ht:(zs.map aInts ++ ws).take F.length=F.map aInts:=by rw[hz,List.map_append,List.append_assoc,List.take_left' (List.length_map _)]
   rw[← hF,ht,List.append_assoc]
   exact .inr ⟨b,cap,_,rfl,rfl⟩
def idxF (l:List (List Int)) (c:List Int):Int:=match l.findIdx? fun d=>decide (c=d) with|some i=>(i:Int)|none => -1
section
variable {ps:List Pr} {c:List Int}
variable {j:List Int} {ch:Int→Int→Int}
end
section
variable {ps:List Pr} {c:List Int}
end
def ordL (a b:List Int):Prop:=a.sum<b.sum∨(a.sum=b.sum∧cmpL a b<0)
theorem ordL_irr {a:List Int} (h:ordL a a):False:=by
 rcases h with h|⟨_,h⟩
 ·omega
 ·rw[cmpL_irr] at h;omega
theorem cum_ord {ps:List Pr} (hv:validF ps=true):∀n,(cumF ps n).Pairwise ordL∧∀x ∈ cumF ps n,x.sum<n
 | 0=>⟨List.Pairwise.nil,fun x hx=>by cases hx⟩
 | n+1=>by
  obtain⟨h1,h2⟩:=cum_ord hv n
  rw[cumF_succ]
  have hl:∀x ∈ levF ps n,x.sum=n:=fun x hx=>((mem_levF hv n x).1 hx).2
  refine⟨List.pairwise_append.2 ⟨h1,?_,fun x hx y hy => .inl (by rw[hl y hy];exact h2 x hx)⟩,fun x hx => ?_⟩
  ·refine(asc_lev hv n).imp_of_mem fun {a b} ha hb hab => .inr ⟨by rw[hl a ha,hl b hb],hab⟩
  ·rcases List.mem_append.1 hx with hx|hx
   ·have:=h2 x hx;omega
   ·have:=hl x hx;omega
theorem cuts_ord {ps:List Pr} (hv:validF ps=true):(cutsF ps).Pairwise ordL:=(cum_ord hv _).1
theorem isF_given {ps:List Pr} (hv:validF ps=true) {c:List Int} : givenF ps [c] []=0↔isF ps c=true:=by
 rw[givenL,isF_iff];simp [hv]
theorem leq_iff_at {a b:List Int} : leqF a b=true↔a.length=b.length∧∀p:Nat,p<a.length→cAt a p≤cAt b p:=leqF_iff
theorem leq_sum:∀ {a b:List Int},leqF a b=true→a.sum≤b.sum∧(a.sum=b.sum→a=b)
 | [],[],_=>⟨Int.le_refl _,fun _=>rfl⟩
 | [],_ :: _,h=>by have:=(leqF_iff.1 h).1;simp at this
 | _ :: _,[],h=>by have:=(leqF_iff.1 h).1;simp at this
 | x :: a,y :: b,h=>by
  obtain⟨h1,h2⟩:=leqF_iff.1 h
  have h0:x≤y:=by simpa using h2 0 (by simp)
  obtain⟨i1,i2⟩:=leq_sum (a:=a) (b:=b) (leqF_iff.2 ⟨by simpa using h1,fun i hi=>by have:=h2 (i+1) (by simpa using hi);simpa using this⟩)
  rw[List.sum_cons,List.sum_cons]
  refine⟨by omega,fun h => ?_⟩
  rw[i2 (by omega),show x=y by omega]
section
variable {A:List (List Int)} (hA:A.Pairwise ordL)
include hA
theorem ord_get {i j:Nat} (hi:i<A.length) (hj:j<A.length) (h:i<j):ordL A[i] A[j]:=List.pairwise_iff_getElem.1 hA i j hi hj h
theorem ord_inj {i j:Nat} (hi:i<A.length) (hj:j<A.length) (h:A[i]=A[j]):i=j:=by
 rcases Nat.lt_trichotomy i j with h1|h1|h1
 ·have:=ord_get hA hi hj h1;rw[h] at this;exact(ordL_irr this).elim
 ·exact h1
 ·have:=ord_get hA hj hi h1;rw[h] at this;exact(ordL_irr this).elim
theorem idx_get {i:Nat} (hi:i<A.length):idxF A A[i]=i:=by
 have:A.findIdx? (fun d=>decide (A[i]=d))=some i:=by
  rw[List.findIdx?_eq_some_iff_getElem]
  refine⟨hi,decide_eq_true rfl,fun j hj h => ?_⟩
  have:=ord_inj hA hi (by omega) (of_decide_eq_true h)
  omega
 unfold idxF
 rw[this]
theorem idx_leq {i j:Nat} (hi:i<A.length) (hj:j<A.length) (h:leqF A[i] A[j]=true):i≤j:=by
 rcases Nat.lt_or_ge j i with h1|h1
 ·exfalso
  obtain⟨s1,s2⟩:=leq_sum h
  have ho:=ord_get hA hj hi h1
  rcases ho with ho|⟨e,ho⟩
  ·omega
  ·have:=s2 e.symm
   rw[this,cmpL_irr] at ho
   omega
 ·exact h1
end
theorem argmin (f:Nat→Nat) (P:Nat→Prop):∀n,(∃p,p<n∧P p)→∃p,p<n∧P p∧∀q,q<n→P q→f p≤f q
 | 0,⟨_,h,_⟩=>by omega
 | n+1,⟨p,hp,hP⟩=>by
  by_cases hn:∃p,p<n∧P p
  ·obtain⟨a,a1,a2,a3⟩:=argmin f P n hn
   by_cases hb:P n∧f n<f a
   ·refine⟨n,by omega,hb.1,fun q hq hQ => ?_⟩
    by_cases e:q=n
    ·subst e;exact Nat.le_refl _
    ·have:=a3 q (by omega) hQ;omega
   ·refine⟨a,by omega,a2,fun q hq hQ => ?_⟩
    by_cases e:q=n
    ·subst e
     have:¬f q<f a:=fun h=>hb ⟨hQ,h⟩
     omega
    ·exact a3 q (by omega) hQ
  ·have e:p=n:=by
    by_cases e:p=n
    ·exact e
    ·exact absurd ⟨p,by omega,hP⟩ hn
   subst e
   refine⟨p,by omega,hP,fun q hq hQ => ?_⟩
   by_cases e:q=p
   ·subst e;exact Nat.le_refl _
   ·exact absurd ⟨q,by omega,hQ⟩ hn
theorem add_below {ps:List Pr} (hv:validF ps=true) {c d:List Int} (hc:isF ps c=true) (hd:isF ps d=true) (_hle:∀q:Nat,q<ps.length→cAt c q≤cAt d q) (hne:∃q:Nat,q<ps.length∧cAt c q<cAt d q) :
  ∃q:Nat,q<ps.length∧cAt c q<cAt d q∧rdyF ps c q=true:=by
 obtain⟨hl,hr,hcl⟩:=isF_iff.1 hc
 obtain⟨dl,dr,dcl⟩:=isF_iff.1 hd
 have hm:=(valid_parts hv).2.2
 have hrr:=(inRange_iff hl).1 hr
 have drr:=(inRange_iff dl).1 dr
 obtain⟨p,hp,hp0,hmin⟩:=argmin (fun p=>anc ps ((p:Int),cAt c p+1)) (fun p=>cAt c p<cAt d p) ps.length hne
 have h1:=hrr p hp
 have h2:=drr p hp
 have hi:(cAt c p).toNat<ps[p].evs.length:=by omega
 have hci:cAt c p=((cAt c p).toNat:Nat):=by omega
 refine⟨p,hp,hp0,?_⟩
 unfold rdyF
 rw[decide_eq_true_eq]
 refine⟨by rw[nev_get hp];omega,(stp_iff hv hc hp hi hci).2 ?_⟩
 unfold needE
 split
 ·rename_i hk
  obtain⟨s,hs,j,hj,e,_,_⟩:=sndr_some (recv_sndr hm hp hi hk)
  have hn:=nx_send hm hp hi hk
  have hcd:=closed_iff.1 dcl p hp _ hi hk (by omega)
  rw[e] at hn hcd ⊢
  simp only at hcd ⊢
  by_cases hle2:(j:Int)+1≤cAt c s
  ·exact hle2
  ·exfalso
   have h3:=hmin s hs (by omega)
   have h4:=anc_lt hv ⟨s,hs,j,hj,rfl⟩ (.single hn)
   have h5:=hrr s hs
   have h6:=anc_line hv hs (i:=(cAt c s).toNat) (j:=j) (by omega) hj
   have h7:(((cAt c s).toNat:Nat):Int)=cAt c s:=by omega
   have h8:(((cAt c p).toNat:Nat):Int)=cAt c p:=by omega
   rw[h7] at h6
   rw[h8] at h4
   omega
 ·have:=(hrr 0 (by omega)).1
  simpa using this
theorem rdy_is {ps:List Pr} {c:List Int} {p:Nat} (h:rdyF ps c p=true):isF ps (stpC c p)=true:=(of_decide_eq_true h).2
theorem find_congr {α:Type} {f g:α→Bool} : ∀ {l:List α},(∀x ∈ l,f x=g x)→l.find? f=l.find? g
 | [],_=>rfl
 | x :: l,h=>by
  rw[List.find?_cons,List.find?_cons,h x (by simp),find_congr fun y hy=>h y (List.mem_cons_of_mem _ hy)]
def firstP (ps:List Pr) (perm:List Int→Bool) (c:List Int):Option Nat:=(List.range c.length).find? fun p=>rdyF ps c p && perm (stpC c p)
theorem firstP_some {ps:List Pr} {f:List Int→Bool} {c:List Int} {p:Nat} (h:firstP ps f c=some p):p<c.length∧rdyF ps c p=true∧f (stpC c p)=true:=by
 have h1:=List.find?_some h
 have h2:=List.mem_of_find?_eq_some h
 rw[Bool.and_eq_true] at h1
 exact⟨List.mem_range.1 h2,h1.1,h1.2⟩
theorem firstP_none {ps:List Pr} {f:List Int→Bool} {c:List Int} (h:firstP ps f c=none) {p:Nat} (hp:p<c.length) (hr:rdyF ps c p=true):f (stpC c p)=false:=by
 have:=List.find?_eq_none.1 h p (List.mem_range.2 hp)
 rw[hr,Bool.true_and] at this
 simpa using this
def wlkR (ps:List Pr) (perm:List Int→Bool):Nat→List Int→Option (List (List Int))
 | 0,_=>some []
 | n+1,c=>match firstP ps perm c with
  | none=>none
  | some p=>(wlkR ps perm n (stpC c p)).map (stpC c p :: ·)
theorem wlkR_succ (ps:List Pr) (perm:List Int→Bool) (n:Nat) (c:List Int):wlkR ps perm (n+1) c=match firstP ps perm c with
  | none=>none
  | some p=>(wlkR ps perm n (stpC c p)).map (stpC c p :: ·):=rfl
theorem leq_stp {ps:List Pr} {c d:List Int} (hc:c.length=ps.length) (h:∀q:Nat,q<ps.length→cAt c q≤cAt d q) (hd:d.length=ps.length) {p:Nat} (hp:cAt c p<cAt d p):∀q:Nat,q<ps.length→cAt (stpC c p) q≤cAt d q:=fun q hq=>by
 rw[cAt_stp (by omega)]
 split
 ·rename_i e;subst e;omega
 ·exact h q hq
theorem leq_at {a b:List Int} {n:Nat} (ha:a.length=n) (hb:b.length=n):leqF a b=true↔∀q:Nat,q<n→cAt a q≤cAt b q:=by
 rw[leq_iff_at,ha,hb]
 exact⟨fun h=>h.2,fun h=>⟨rfl,h⟩⟩
theorem stp_len (c:List Int) (p:Nat):(stpC c p).length=c.length:=by unfold stpC;rw[List.length_set]
theorem leq_full {ps:List Pr} {c:List Int} (h:isF ps c=true):leqF c (fullC ps)=true:=by
 obtain⟨hl,hr,_⟩:=isF_iff.1 h
 refine(leq_at hl (by unfold fullC;rw[List.length_map])).2 fun q hq => ?_
 rw[fullC_at hq]
 exact((inRange_iff hl).1 hr q hq).2
theorem full_of_sum {ps:List Pr} {c:List Int} (h:isF ps c=true):c=fullC ps↔c.sum=off ps ps.length:=by
 have h1:=leq_sum (leq_full h)
 rw[fullC_sum] at h1
 exact⟨fun e=>by rw[e,fullC_sum],h1.2⟩
section
variable {ps:List Pr} (hv:validF ps=true)
include hv
theorem first_to {c to:List Int} (hc:isF ps c=true) (ht:isF ps to=true) (hle:leqF c to=true) (hne:c.sum<to.sum):∃p,firstP ps (fun d=>leqF d to) c=some p∧p<ps.length∧isF ps (stpC c p)=true∧leqF (stpC c p) to=true:=by
 have hl:=(isF_iff.1 hc).1
 have tl:=(isF_iff.1 ht).1
 have h1:=(leq_at hl tl).1 hle
 have hex:∃q:Nat,q<ps.length∧cAt c q<cAt to q:=by
  apply Classical.byContradiction
  intro hn
  have:c=to:=by
   apply List.ext_getElem (by omega)
   intro i g1 g2
   rw[← cAt_nat g1,← cAt_nat g2]
   have:=h1 i (by omega)
   have:¬cAt c i<cAt to i:=fun h=>hn ⟨i,by omega,h⟩
   omega
  rw[this] at hne;omega
 obtain⟨q,hq,hq1,hq2⟩:=add_below hv hc ht h1 hex
 have hlq:leqF (stpC c q) to=true:=(leq_at (by rw[stp_len];exact hl) tl).2 (leq_stp hl h1 tl hq1)
 cases hf:firstP ps (fun d=>leqF d to) c with
 | none =>
  have:=firstP_none hf (p:=q) (by omega) hq2
  rw[hlq] at this;cases this
 | some p =>
  obtain⟨a1,a2,a3⟩:=firstP_some hf
  exact⟨p,rfl,by omega,rdy_is a2,a3⟩
theorem wlk_to {to:List Int} (ht:isF ps to=true):∀(n:Nat) (c:List Int),isF ps c=true→leqF c to=true→c.sum+n=to.sum→∃R,wlkR ps (fun d=>leqF d to) n c=some R∧R.length=n∧(∀d ∈ R,isF ps d=true∧leqF d to=true)∧(c :: R).getLast?=some to
 | 0,c,hc,hle,hs=>by
  have:c=to:=(leq_sum hle).2 (by omega)
  subst this
  exact⟨[],rfl,rfl,fun d hd=>(by cases hd),rfl⟩
 | n+1,c,hc,hle,hs=>by
  obtain⟨p,h1,h2,h3,h4⟩:=first_to hv hc ht hle (by omega)
  have hsum:(stpC c p).sum=c.sum+1:=sum_stpC (by have:=(isF_iff.1 hc).1;omega)
  obtain⟨R,g1,g2,g3,g4⟩:=wlk_to ht n (stpC c p) h3 h4 (by omega)
  refine⟨stpC c p :: R,by rw[wlkR_succ,h1];simp only[g1,Option.map_some],by rw[List.length_cons,g2],fun d hd => ?_,?_⟩
  ·rcases List.mem_cons.1 hd with rfl|hd
   ·exact⟨h3,h4⟩
   ·exact g3 d hd
  ·rw[List.getLast?_cons_cons];exact g4
end
def stepG (a b:List Int):Nat→Option Int
 | 0=>some (-1)
 | k+1=>match stepG a b k with
  | none=>none
  | some p=>if cAt a k=cAt b k then some p else if 0≤p∨¬cAt b k=cAt a k+1 then none else some k
def stepF (a b:List Int):Int:=if a.length=b.length then (stepG a b a.length).getD (-1) else -1
theorem stepG_some {a b:List Int} : ∀ {k:Nat} {z:Int},stepG a b k=some z↔(z = -1∧∀i:Nat,i<k→cAt a i=cAt b i)∨∃q:Nat,q<k∧z=q∧cAt b q=cAt a q+1∧∀i:Nat,i<k→i ≠ q→cAt a i=cAt b i
 | 0,z=>by
  constructor
  ·intro h;exact .inl ⟨(Option.some.inj h).symm,fun i hi=>by omega⟩
  ·rintro(⟨h,_⟩|⟨q,h,_⟩)
   ·rw[h];rfl
   ·omega
 | k+1,z=>by
  have e:stepG a b (k+1)=match stepG a b k with
   | none=>none
   | some p=>if cAt a k=cAt b k then some p else if 0≤p∨¬cAt b k=cAt a k+1 then none else some k:=rfl
  rw[e]
  constructor
  ·intro h
   cases hs:stepG a b k with
   | none=>rw[hs] at h;cases h
   | some p =>
    rw[hs] at h
    simp only at h
    have ih:=stepG_some.1 hs
    by_cases h1:cAt a k=cAt b k
    ·rw[if_pos h1] at h
     cases h
     rcases ih with ⟨i1,i2⟩|⟨q,i1,i2,i3,i4⟩
     ·exact .inl ⟨i1,fun i hi=>by
       by_cases e:i=k
       ·subst e;exact h1
       ·exact i2 i (by omega)⟩
     ·exact .inr ⟨q,by omega,i2,i3,fun i hi hn=>by
       by_cases e:i=k
       ·subst e;exact h1
       ·exact i4 i (by omega) hn⟩
    ·rw[if_neg h1] at h
     split at h
     ·cases h
     ·rename_i h2
      cases h
      rcases ih with ⟨i1,i2⟩|⟨q,i1,i2,i3,i4⟩
      ·refine .inr ⟨k,by omega,rfl,?_,fun i hi hn=>i2 i (by omega)⟩
       apply Classical.byContradiction;intro h3;exact h2 (.inr h3)
      ·exact absurd (.inl (by omega)) h2
  ·rintro(⟨i1,i2⟩|⟨q,i1,i2,i3,i4⟩)
   ·rw[stepG_some.2 (.inl ⟨i1,fun i hi=>i2 i (by omega)⟩)]
    simp only
    rw[if_pos (i2 k (by omega))]
   ·by_cases e:q=k
    ·subst e
     rw[stepG_some.2 (.inl ⟨rfl,fun i hi=>i4 i (by omega) (by omega)⟩)]
     simp only
     rw[if_neg (by omega),if_neg (by omega),i2]
    ·rw[stepG_some.2 (.inr ⟨q,by omega,i2,i3,fun i hi hn=>i4 i (by omega) hn⟩)]
     simp only
     rw[if_pos (i4 k (by omega) (by omega))]
theorem stepF_iff {a b:List Int} {q:Nat} : stepF a b=q↔q<a.length∧b=stpC a q:=by
 unfold stepF
 constructor
 ·intro h
  split at h
  ·rename_i hl
   cases hs:stepG a b a.length with
   | none=>rw[hs] at h;simp at h
   | some z =>
    rw[hs] at h
    simp only[Option.getD_some] at h
    subst h
    rcases stepG_some.1 hs with ⟨i1,_⟩|⟨p,i1,i2,i3,i4⟩
    ·omega
    ·have:p=q:=by omega
     subst this
     refine⟨i1,?_⟩
     apply List.ext_getElem (by rw[stp_len];omega)
     intro i g1 g2
     rw[← cAt_nat g1,← cAt_nat g2,cAt_stp (by omega)]
     split
     ·rename_i e;subst e;exact i3
     ·rename_i e;exact(i4 i (by omega) fun h=>e h.symm).symm
  ·omega
 ·rintro⟨hq,rfl⟩
  rw[if_pos (stp_len a q).symm,stepG_some.2 (.inr ⟨q,hq,rfl,?_,?_⟩)]
  ·rfl
  ·rw[cAt_stp hq,if_pos rfl]
  ·intro i hi hn
   rw[cAt_stp hi,if_neg (fun e=>hn e.symm)]
theorem stepF_range (a b:List Int):stepF a b = -1∨∃q:Nat,stepF a b=q:=by
 unfold stepF
 split
 ·cases hs:stepG a b a.length with
  | none=>exact .inl rfl
  | some z =>
   rcases stepG_some.1 hs with ⟨i1,_⟩|⟨p,_,i2,_⟩
   ·exact .inl i1
   ·exact .inr ⟨p,i2⟩
 ·exact .inl rfl
def stpP (ps:List Pr) (a b:List Int):Option Nat:=(List.range ps.length).find? fun p=>rdyF ps a p && decide (b=stpC a p)
theorem stpC_inj {a:List Int} {p q:Nat} (hp:p<a.length) (_hq:q<a.length) (h:stpC a p=stpC a q):p=q:=by
 have h1:cAt (stpC a p) p=cAt (stpC a q) p:=by rw[h]
 rw[cAt_stp hp,cAt_stp hp,if_pos rfl] at h1
 split at h1
 ·rename_i e;exact e.symm
 ·omega
theorem stpP_some {ps:List Pr} {a b:List Int} (ha:a.length=ps.length) {p:Nat} : stpP ps a b=some p↔p<ps.length∧rdyF ps a p=true∧b=stpC a p:=by
 constructor
 ·intro h
  have h1:=List.find?_some h
  have h2:=List.mem_of_find?_eq_some h
  rw[Bool.and_eq_true,decide_eq_true_eq] at h1
  exact⟨List.mem_range.1 h2,h1.1,h1.2⟩
 ·rintro⟨h1,h2,h3⟩
  cases hf:stpP ps a b with
  | none =>
   have:=List.find?_eq_none.1 hf p (List.mem_range.2 h1)
   rw[h2,decide_eq_true h3] at this
   simp at this
  | some q =>
   have g1:=List.find?_some hf
   have g2:=List.mem_range.1 (List.mem_of_find?_eq_some hf)
   rw[Bool.and_eq_true,decide_eq_true_eq] at g1
   rw[stpC_inj (a:=a) (by omega) (by omega) (g1.2.symm.trans h3)]
theorem stpP_step {ps:List Pr} {a b:List Int} (ha:isF ps a=true):stpP ps a b=if isF ps b=true∧0≤stepF a b then some (stepF a b).toNat else none:=by
 have hl:=(isF_iff.1 ha).1
 split
 ·rename_i h
  rcases stepF_range a b with e|⟨q,e⟩
  ·rw[e] at h;exact absurd h.2 (by decide)
  ·rw[e]
   obtain⟨h1,h2⟩:=stepF_iff.1 e
   refine(stpP_some hl).2 ⟨by omega,?_,h2⟩
   have e2:((q:Int)).toNat=q:=by omega
   rw[e2]
   unfold rdyF
   rw[decide_eq_true_eq,← h2]
   refine⟨?_,h.1⟩
   obtain⟨bl,br,_⟩:=isF_iff.1 h.1
   have:=(inRange_iff bl).1 br q (by omega)
   have e3:cAt b q=cAt a q+1:=by rw[h2,cAt_stp h1,if_pos rfl]
   rw[nev_get (by omega)];omega
 ·rename_i h
  cases hf:stpP ps a b with
  | none=>rfl
  | some p =>
   obtain⟨g1,g2,g3⟩:=(stpP_some hl).1 hf
   exact absurd ⟨by rw[g3];exact rdy_is g2,by rw[stepF_iff.2 ⟨by omega,g3⟩];omega⟩ h
def stpsG (ps:List Pr):List Int→List (List Int)→Option (List Nat)
 | _,[]=>some []
 | a,b :: r=>match stpP ps a b with
  | none=>none
  | some p=>(stpsG ps b r).map (p :: ·)
def zeroC (ps:List Pr):List Int:=List.replicate ps.length 0
def stpsF (ps:List Pr):List (List Int)→Option (List Nat)
 | []=>none
 | a :: r=>if a=zeroC ps∧(a :: r).getLast?=some (fullC ps) then stpsG ps a r else none
def chnF (ps:List Pr):List Int→List (List Int)→Bool
 | _,[]=>true
 | a,b :: r=>(isF ps b && decide (0≤stepF a b)) && chnF ps b r
def isRunF (ps:List Pr):List (List Int)→Bool
 | []=>false
 | a :: r=>decide (a=zeroC ps∧(a :: r).getLast?=some (fullC ps)) && chnF ps a r
theorem zeroC_is (ps:List Pr):isF ps (zeroC ps)=true:=isF_zero
def evtG:List Int→List (List Int)→List Eid
 | _,[]=>[]
 | a,b :: r=>(stepF a b,cAt b (stepF a b)) :: evtG b r
def takC (c:List Int) (p:Nat):List Int:=c.set p (cAt c p - 1)
def remB (ps:List Pr) (c:List Int) (p:Nat):Bool:=decide (0<cAt c p) && isF ps (takC c p)
def remN (ps:List Pr) (c:List Int) (k:Nat):Nat:=((List.range k).filter (remB ps c)).length
def irrF (ps:List Pr) (c:List Int):Bool:=decide (remN ps c c.length=1)
def ptF (ps:List Pr) (p i:Nat):List Int:=closeF ps (stC ps.length p ((i:Int)+1))
section
variable {ps:List Pr} (hv:validF ps=true) {p:Nat} (hp:p<ps.length) {i:Nat} (hi:i<ps[p].evs.length)
include hv hp hi
theorem pt_is:isF ps (ptF ps p i)=true:=by
 obtain⟨a1,a2⟩:=stC_ok (k:=(i:Int)+1) hp (by omega) (by omega)
 obtain⟨b1,b2,_⟩:=closeF_ok hv a1 a2
 exact isF_iff.2 ⟨b1,b2,closeF_closed hv a1 a2⟩
theorem pt_has:(i:Int)+1≤cAt (ptF ps p i) p:=by
 obtain⟨a1,a2⟩:=stC_ok (k:=(i:Int)+1) hp (by omega) (by omega)
 have:=closeF_ge hv a1 a2 p hp
 rw[stC_cAt hp,if_pos rfl] at this
 exact this
end
theorem pt_least {ps:List Pr} (hv:validF ps=true) {p:Nat} (hp:p<ps.length) {i:Nat} {d:List Int} (hd:isF ps d=true) (h:(i:Int)+1≤cAt d p):∀q,q<ps.length→cAt (ptF ps p i) q≤cAt d q:=by
 obtain⟨d1,d2,d3⟩:=isF_iff.1 hd
 have:=need_le hv d1 d2 d3 (q:=p) (k:=i+1) hp (by omega)
 have e:(((i+1:Nat):Nat):Int)=(i:Int)+1:=by omega
 rw[e] at this
 exact this
theorem tak_at {c:List Int} {p q:Nat} (hq:q<c.length):cAt (takC c p) q=if p=q then cAt c p - 1 else cAt c q:=by
 unfold takC;rw[setc_cAt hq]
theorem rem_is {ps:List Pr} {c:List Int} {p:Nat} (h:remB ps c p=true):0<cAt c p∧isF ps (takC c p)=true:=by
 unfold remB at h
 rw[Bool.and_eq_true,decide_eq_true_eq] at h
 exact h
theorem rem_pt {ps:List Pr} (hv:validF ps=true) {p:Nat} (hp:p<ps.length) {i:Nat} (hi:i<ps[p].evs.length) {q:Nat} (hq:q<ps.length) (h:remB ps (ptF ps p i) q=true):q=p∧cAt (ptF ps p i) p=(i:Int)+1:=by
 obtain⟨h0,ht⟩:=rem_is h
 have hl:=(isF_iff.1 (pt_is hv hp hi)).1
 have hh:=pt_has hv hp hi
 by_cases hx:(i:Int)+1≤cAt (takC (ptF ps p i) q) p
 ·have:=pt_least hv hp ht hx q hq
  rw[tak_at (by omega),if_pos rfl] at this
  omega
 ·rw[tak_at (by omega)] at hx
  split at hx
  ·rename_i e;subst e;exact⟨rfl,by omega⟩
  ·omega
theorem filt_one {f:Nat→Bool} : ∀ {n:Nat},((List.range n).filter f).length=1↔∃p,p<n∧f p=true∧∀q,q<n→f q=true→q=p
 | 0=>by simp
 | n+1=>by
  have ih:=filt_one (f:=f) (n:=n)
  rw[List.range_succ,List.filter_append,List.length_append]
  cases h:f n with
  | false =>
   simp only[List.filter_cons_of_neg (by rw[h];decide:¬f n=true),List.filter_nil,List.length_nil,Nat.add_zero]
   rw[ih]
   constructor
   ·rintro⟨p,h1,h2,h3⟩
    exact⟨p,by omega,h2,fun q hq hf=>h3 q (by
     by_cases e:q=n
     ·subst e;rw[h] at hf;cases hf
     ·omega) hf⟩
   ·rintro⟨p,h1,h2,h3⟩
    refine⟨p,?_,h2,fun q hq=>h3 q (by omega)⟩
    by_cases e:p=n
    ·subst e;rw[h] at h2;cases h2
    ·omega
  | true =>
   simp only[List.filter_cons_of_pos h,List.filter_nil,List.length_cons,List.length_nil]
   constructor
   ·intro h1
    have h0:(List.range n).filter f=[]:=List.eq_nil_of_length_eq_zero (by omega)
    rw[List.filter_eq_nil_iff] at h0
    refine⟨n,by omega,h,fun q hq hf => ?_⟩
    by_cases e:q=n
    ·exact e
    ·exact absurd hf (h0 q (List.mem_range.2 (by omega)))
   ·rintro⟨p,h1,h2,h3⟩
    have e:n=p:=h3 n (by omega) h
    have h0:(List.range n).filter f=[]:=List.filter_eq_nil_iff.2 fun q hq hf=>by
     have:=h3 q (by have:=List.mem_range.1 hq;omega) hf
     have:=List.mem_range.1 hq
     omega
    rw[h0];rfl
theorem irr_iff {ps:List Pr} {c:List Int} : irrF ps c=true↔∃p,p<c.length∧remB ps c p=true∧∀q,q<c.length→remB ps c q=true→q=p:=by
 unfold irrF remN
 rw[decide_eq_true_eq]
 exact filt_one
theorem irr_pt {ps:List Pr} (hv:validF ps=true) {p:Nat} (hp:p<ps.length) {i:Nat} (hi:i<ps[p].evs.length):irrF ps (ptF ps p i)=true∧cAt (ptF ps p i) p=(i:Int)+1∧remB ps (ptF ps p i) p=true:=by
 have his:=pt_is hv hp hi
 obtain⟨hl,hr,hcl⟩:=isF_iff.1 his
 have hh:=pt_has hv hp hi
 obtain⟨q,hq,h0,r1,r2⟩:=cut_remove hv hl hr hcl ⟨p,hp,by omega⟩
 have hrm:remB ps (ptF ps p i) q=true:=by
  unfold remB
  rw[decide_eq_true h0,Bool.true_and]
  exact isF_iff.2 ⟨by unfold takC;rw[List.length_set];exact hl,r1,r2⟩
 obtain⟨rfl,he⟩:=rem_pt hv hp hi hq hrm
 exact⟨irr_iff.2 ⟨q,by omega,hrm,fun r hr hrr=>(rem_pt hv hp hi (by omega) hrr).1⟩,he,hrm⟩
theorem chn_cons {ps:List Pr} {a b:List Int} {r:List (List Int)} (ha:isF ps a=true):chnF ps a (b :: r)=true↔∃q:Nat,q<ps.length∧rdyF ps a q=true∧b=stpC a q∧stepF a b=q∧chnF ps b r=true:=by
 have hl:=(isF_iff.1 ha).1
 have e:chnF ps a (b :: r)=((isF ps b && decide (0≤stepF a b)) && chnF ps b r):=rfl
 rw[e,Bool.and_eq_true,Bool.and_eq_true,decide_eq_true_eq]
 constructor
 ·rintro⟨⟨h1,h2⟩,h3⟩
  have h4:=stpP_step (b:=b) ha
  rw[if_pos ⟨h1,h2⟩] at h4
  obtain⟨g1,g2,g3⟩:=(stpP_some hl).1 h4
  exact⟨_,g1,g2,g3,by omega,h3⟩
 ·rintro⟨q,h1,h2,h3,h4,h5⟩
  exact⟨⟨by rw[h3];exact rdy_is h2,by omega⟩,h5⟩
theorem isrun_inv {ps:List Pr} {r:List (List Int)} (h:isRunF ps r=true):∃R,r=zeroC ps :: R∧chnF ps (zeroC ps) R=true∧(zeroC ps :: R).getLast?=some (fullC ps):=by
 cases r with
 | nil=>cases h
 | cons a R =>
  have h:(decide (a=zeroC ps∧(a :: R).getLast?=some (fullC ps)) && chnF ps a R)=true:=h
  rw[Bool.and_eq_true,decide_eq_true_eq] at h
  obtain⟨⟨rfl,h2⟩,h3⟩:=h
  exact⟨R,rfl,h3,h2⟩
theorem isrun_mk {ps:List Pr} {R:List (List Int)} (h:chnF ps (zeroC ps) R=true) (hl:(zeroC ps :: R).getLast?=some (fullC ps)):isRunF ps (zeroC ps :: R)=true:=by
 show (decide (zeroC ps=zeroC ps∧(zeroC ps :: R).getLast?=some (fullC ps)) && chnF ps (zeroC ps) R)=true
 rw[decide_eq_true ⟨rfl,hl⟩,h];rfl
theorem wlk_chn {ps:List Pr} {perm:List Int→Bool} : ∀ {n:Nat} {c:List Int} {R:List (List Int)},isF ps c=true→wlkR ps perm n c=some R→chnF ps c R=true∧R.length=n
 | 0,c,R,hc,h=>by
  have:R=[]:=(Option.some.inj h).symm
  subst this;exact⟨rfl,rfl⟩
 | n+1,c,R,hc,h=>by
  rw[wlkR_succ] at h
  cases hf:firstP ps perm c with
  | none=>rw[hf] at h;cases h
  | some p =>
   rw[hf] at h
   simp only at h
   cases hs:wlkR ps perm n (stpC c p) with
   | none=>rw[hs] at h;cases h
   | some R' =>
    rw[hs] at h
    have hR:R=stpC c p :: R':=(Option.some.inj h).symm
    subst hR
    obtain⟨a1,a2,_⟩:=firstP_some hf
    obtain⟨i1,i2⟩:=wlk_chn (rdy_is a2) hs
    have hl:=(isF_iff.1 hc).1
    exact⟨(chn_cons hc).2 ⟨p,by omega,a2,rfl,stepF_iff.2 ⟨a1,rfl⟩,i1⟩,by rw[List.length_cons,i2]⟩
theorem chn_app {ps:List Pr} : ∀ {R S:List (List Int)} {c d:List Int},(c :: R).getLast?=some d→chnF ps c R=true→chnF ps d S=true→chnF ps c (R ++ S)=true
 | [],S,c,d,h,_,h2=>by
  have:c=d:=Option.some.inj h
  subst this;exact h2
 | b :: R,S,c,d,h,h1,h2=>by
  have e:chnF ps c (b :: R)=((isF ps b && decide (0≤stepF c b)) && chnF ps b R):=rfl
  have e2:chnF ps c (b :: R ++ S)=((isF ps b && decide (0≤stepF c b)) && chnF ps b (R ++ S)):=rfl
  rw[e,Bool.and_eq_true] at h1
  rw[e2,h1.1,Bool.true_and]
  rw[List.getLast?_cons_cons] at h
  exact chn_app h h1.2 h2
theorem chn_get {ps:List Pr} : ∀ {R:List (List Int)} {c:List Int},isF ps c=true→chnF ps c R=true→(evtG c R).length=R.length∧∀(i:Nat) (hi:i<(evtG c R).length) (hi2:i+1<(c :: R).length),
  ∃p:Nat,p<ps.length∧isF ps (c :: R)[i]=true∧rdyF ps (c :: R)[i] p=true∧(c :: R)[i+1]=stpC (c :: R)[i] p∧(evtG c R)[i]=((p:Int),cAt (c :: R)[i] p+1)
 | [],c,hc,h=>⟨rfl,fun i hi=>by cases hi⟩
 | b :: R,c,hc,h=>by
  obtain⟨q,h1,h2,rfl,h4,h5⟩:=(chn_cons hc).1 h
  have hl:=(isF_iff.1 hc).1
  have e:evtG c (stpC c q :: R)=(stepF c (stpC c q),cAt (stpC c q) (stepF c (stpC c q))) :: evtG (stpC c q) R:=rfl
  obtain⟨i1,i2⟩:=chn_get (rdy_is h2) h5
  refine⟨by rw[e,List.length_cons,List.length_cons,i1],fun i hi hi2 => ?_⟩
  cases i with
  | zero =>
   refine⟨q,h1,hc,h2,rfl,?_⟩
   show (stepF c (stpC c q),cAt (stpC c q) (stepF c (stpC c q)))=_
   rw[h4,cAt_stp (by omega),if_pos rfl]
   rfl
  | succ i =>
   have hi':i<(evtG (stpC c q) R).length:=by rw[e,List.length_cons] at hi;omega
   exact i2 i hi' (by rw[List.length_cons] at hi2;omega)
theorem chn_mono {ps:List Pr} {R:List (List Int)} {c:List Int} (hc:isF ps c=true) (h:chnF ps c R=true) {i:Nat} (hi:i<(c :: R).length):∀(m:Nat) (hj:i+m<(c :: R).length),∀q:Nat,q<ps.length→cAt (c :: R)[i] q≤cAt (c :: R)[i+m] q
 | 0,hj,q,hq=>Int.le_refl _
 | m+1,hj,q,hq=>by
  obtain⟨g1,g2⟩:=chn_get hc h
  have hj1:i+m+1<(c :: R).length:=hj
  obtain⟨p,a1,a2,a3,a4,a5⟩:=g2 (i+m) (by rw[g1];rw[List.length_cons] at hj;omega) hj1
  have ih:=chn_mono hc h hi m (by omega) q hq
  have e:(c :: R)[i+(m+1)]=stpC (c :: R)[i+m] p:=a4
  rw[e,cAt_stp (by rw[(isF_iff.1 a2).1];exact hq)]
  split <;> omega
end Go.AL
end
