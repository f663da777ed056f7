/- Texts of this claim's proof: WCf, WEl, WBd, WRe. No condition. -/
import Derived.Test.YtbegiibjiidkmaaGreatDoorM11
import Derived.Test.YtbegiibjiidkmaaGreatDoorM10
import Derived.Test.YtbegiibjiidkmaaGreatDoorM9
section
namespace Go.AL
open Go Go.RowKit Proofs.Tryz
set_option maxRecDepth 4000
def compN (xs:List (List Int)):Nat->List (List Int)
 | 0=>[]
 | 1=>xs.take 1
 | n+2=>if xs[n+1]?=xs[n]? then compN xs (n+1) else compN xs (n+1) ++ xs[n+1]?.toList
def compL (xs:List (List Int)):List (List Int):=compN xs xs.length
theorem compN_all {xs:List (List Int)} : ∀ {n:Nat},n<=xs.length->(∀(i:Nat),0<i->i<n->xs[i]? ≠ xs[i - 1]?)->compN xs n=xs.take n
 | 0,_,_=>by simp [compN]
 | 1,_,_=>rfl
 | n+2,hn,h=>by
  have h1:=compN_all (n:=n+1) (by omega) fun i h0 hi=>h i h0 (by omega)
  have h2:=h (n+1) (by omega) (by omega)
  unfold compN
  rw[if_neg (by simpa using h2),h1,List.take_add_one (i:=n+1)]
theorem compN_mem {xs:List (List Int)}{x:List Int} : ∀n,x ∈ compN xs n↔x ∈ xs.take n
 | 0=>by simp [compN]
 | 1=>by unfold compN;rfl
 | n+2=>by
  have ih:=compN_mem (xs:=xs) (x:=x) (n+1)
  unfold compN
  rw[List.take_add_one (i:=n+1),List.mem_append,<- ih]
  split
  ·rename_i e
   refine⟨.inl,fun h=>h.elim id fun h=>ih.2 ?_⟩
   rw[e] at h
   rw[List.take_add_one,List.mem_append];exact .inr h
  ·rw[List.mem_append]
theorem compL_mem {xs:List (List Int)}{x:List Int} : x ∈ compL xs↔x ∈ xs:=by unfold compL;rw[compN_mem,List.take_length]
theorem compN_pair {xs:List (List Int)}(hs:xs.Pairwise fun x y=>¬cmpL y x<0):∀n,n<=xs.length->(compN xs n).Pairwise (fun x y=>cmpL x y<0)
 | 0,_=>by simp [compN]
 | 1,_=>by
  unfold compN
  cases xs with
  | nil=>simp
  | cons x xs=>simp
 | n+2,hn=>by
  have ih:=compN_pair hs (n+1) (by omega)
  unfold compN
  split
  ·exact ih
  ·rename_i hne
   rw[List.getElem?_eq_getElem (by omega),List.getElem?_eq_getElem (show n<xs.length by omega)] at hne
   rw[List.getElem?_eq_getElem (by omega)]
   rw[List.pairwise_append]
   refine⟨ih,by simp,fun x hx y hy=>?_⟩
   obtain rfl:y=xs[n+1]:=by simpa using hy
   rw[compN_mem] at hx
   obtain⟨i,hi,rfl⟩:=List.getElem_of_mem hx
   have hi':i<n+1:=by simp at hi;omega
   rw[List.getElem_take]
   rw[List.pairwise_iff_getElem] at hs
   have h1:¬cmpL xs[n+1] xs[n]<0:=hs n (n+1) (by omega) (by omega) (by omega)
   have h3:cmpL xs[n] xs[n+1]<0:=by
    by_cases c:cmpL xs[n] xs[n+1]<0
    ·exact c
    ·exact absurd (congrArg some (cmpL_anti _ _ h1 c)) hne
   by_cases e:i=n
   ·subst e;exact h3
   ·have h2:¬cmpL xs[n] xs[i]<0:=hs i n (by omega) (by omega) (by omega)
    by_cases c:cmpL xs[i] xs[n]<0
    ·exact cmpL_trans _ _ _ c h3
    ·rw[cmpL_anti _ _ c h2];exact h3
theorem compN_two (xs:List (List Int))(n:Nat):compN xs (n+2)=if xs[n+1]?=xs[n]? then compN xs (n+1) else compN xs (n+1) ++ xs[n+1]?.toList:=by rw[compN]
theorem rows_compact (b cap:Nat)(xs:List (List Int))(hx:∀x ∈ xs,x.length<=1000000)(hl:xs.length<=1000000) :
  MCalls prog 214 [.ls b 1 0 xs.length cap,.v (.func (.func 215) #[] #[])] [(b,.row 95 1 (xs.map aInts) cap)]
   fun r L'=>∃ws cap',r = .ls b 1 0 (compL xs).length cap'/\L'=[(b,.row 95 1 ((compL xs).map aInts ++ ws) cap)]:=by
 refine MCalls.enter' 66 [.tmp 4] [] func214 rfl rfl rfl rfl rfl (by simp) (AWp.of ?_);simp only[go_sem]
 refine AWp.capOk (b:=b) (if_pos rfl) fun hcap=>?_
 rw[List.length_map] at hcap
 refine Wk ?_
 constructor<;>intro h
 ·refine Wk ?_
  refine ret_own ?_
  simp only[go_sem]
  have e:compL xs=xs:=by
   unfold compL
   rw[compN_all (Nat.le_refl _) (fun i h0 hi=>by omega),List.take_length]
  exact⟨[],cap,by rw[e],by rw[e,List.append_nil]⟩
 ·refine Wk ?_
  refine AWp.block (AWp.loopN [5] [0,1] (fun m vs L=>∃k:Nat,vs=[ai k]/\1<=k/\k<=xs.length/\m=xs.length - k/\L=[(b,.row 95 1 (xs.map aInts) cap)]/\∀(i:Nat),0<i->i<k->xs[i]? ≠ xs[i - 1]?) (xs.length - 1) ⟨1,rfl,by omega,by omega,rfl,rfl,fun i h1 h2=>by omega⟩ ?_)
  rintro m vs L - ⟨k,rfl,k1,k2,rfl,rfl,hI⟩
  simp only[go_sem]
  refine Wk ?_
  constructor<;>intro h1
  ·have hk:k<xs.length:=by omega
   have hk1:k - 1<xs.length:=by omega
   refine Wk ?_
   refine AWp.seq (AWp.block (AWp.seq ?_))
   have hkm:((k:Int) - 1).toNat=k - 1:=by omega
   have sm:=next_same xs[k] xs[k - 1] (hx _ (List.getElem_mem hk))
   simp only[go_sem] at sm
   refine Sq ?_
   refine AWp.read mixed [0,1,2,3,4,5,6,7,8,9,10] (by kernel_rfl) ?_;simp only[go_sem,getD_map hk,getD_map hk1,hkm]
   refine Sd ?_
   refine GCall.use (ab (decide (xs[k]=xs[k - 1]))) (fun _=>⟨At,sm.val.use ⟨rfl,rfl⟩⟩) ?_
   simp only[go_sem]
   refine Wk ?_
   constructor<;>intro h2
   ·have c0:compN xs (k+1)=xs.take k:=by
     obtain⟨j,rfl⟩:∃j,k=j+1:=⟨k - 1,by omega⟩
     rw[compN_two,if_pos (by rw[List.getElem?_eq_getElem hk,List.getElem?_eq_getElem (show j<xs.length by omega)];exact congrArg some h2)]
     exact compN_all (by omega) hI
    refine Wk ?_
    refine AWp.block (AWp.loopN [5,7] [0,1,6] (fun m vs L=>∃(q:Nat) (c zs:List (List Int)),vs=[ai c.length,ai q]/\1<=q/\k+q<=xs.length/\c=compN xs (k+q)/\c.length<=k+q - 1/\zs=c ++ xs.drop c.length/\m=xs.length - (k+q) /\
     L=[(b,.row 95 1 (zs.map aInts) cap)]) (xs.length - (k+1)) ⟨1,xs.take k,xs,by rw[List.length_take,Nat.min_eq_left k2];rfl,by omega,by omega,c0.symm,by rw[List.length_take];omega,by rw[List.length_take,Nat.min_eq_left k2,List.take_append_drop],rfl,rfl⟩ ?_)
    rintro m vs L - ⟨q,c,zs,rfl,q1,q2,hc,hcl,hz,rfl,rfl⟩
    have zl:zs.length=xs.length:=by rw[hz,List.length_append,List.length_drop];omega
    have zg:∀(i:Nat) (h1:i<xs.length),c.length<=i->(zs.map aInts).getD i .any=aInts xs[i]:=fun i h1 h2=>by
     rw[getD_map (by omega)]
     subst hz
     rw[List.getElem_append_right h2,List.getElem_drop]
     congr 2;omega
    simp only[go_sem]
    refine Wk ?_
    constructor<;>intro h3
    ·have hkq:k+q<xs.length:=by omega
     have hkq1:k+q - 1<xs.length:=by omega
     have g1:=zg (k+q) hkq (by omega)
     have g2:=zg (k+q - 1) hkq1 (by omega)
     have e1:((q:Int) - 1).toNat=q - 1:=by omega
     have e2:k+(q - 1)=k+q - 1:=by omega
     have sm:=next_same xs[k+q] xs[k+q - 1] (hx _ (List.getElem_mem hkq))
     simp only[go_sem] at sm
     refine Wk ?_
     refine AWp.seq (AWp.block (AWp.seq ?_))
     refine Sq ?_
     refine AWp.read mixed [0,1,2,3,4,5,6,7,8,9,10,11] (by kernel_rfl) ?_;simp only[go_sem,g1,g2,e1,e2]
     refine Sd ?_
     refine GCall.use (ab (decide (xs[k+q]=xs[k+q - 1]))) (fun _=>⟨At,sm.val.use ⟨rfl,rfl⟩⟩) ?_
     simp only[go_sem]
     have hq':k+q - 2+1=k+q - 1:=by omega
     have hstep:compN xs (k+(q+1))=if xs[k+q]?=xs[k+q - 1]? then c else c ++ xs[k+q]?.toList:=by
      rw[show k+(q+1)=(k+q - 1)+2 by omega,compN_two,show k+q - 1+1=k+q by omega,<- hc]
     rw[List.getElem?_eq_getElem hkq,List.getElem?_eq_getElem hkq1] at hstep
     have g0:=zg c.length (by omega) (Nat.le_refl _)
     refine W5 g1 g2 e1 e2 g0 ?_
     constructor<;>intro h4
     ·rw[if_neg (fun e=>h4 (Option.some.inj e))] at hstep
      refine W5 g1 g2 e1 e2 g0 ?_
      refine⟨_,.refl _,_,?_,q+1,c ++ [xs[k+q]],zs.set c.length xs[k+q],?_,by omega,by omega,hstep.symm,by simp;omega,?_,rfl,?_⟩
      ·omega
      ·rw[List.length_append];rfl
      ·rw[hz,List.set_append_right _ _ (Nat.le_refl _),Nat.sub_self,List.drop_eq_getElem_cons (show c.length<xs.length by omega),List.set_cons_zero,List.append_assoc,List.length_append];rfl
      ·rw[List.map_set];rfl
     ·rw[if_pos (congrArg some h4)] at hstep
      refine Wk ?_
      exact⟨_,.refl _,_,by omega,q+1,c,zs,rfl,by omega,by omega,hstep.symm,by omega,hz,rfl,rfl⟩
    ·have hn:k+q=xs.length:=by omega
     have hcl2:compL xs=c:=by unfold compL;rw[<- hn,hc]
     have hcx:c.length<=xs.length:=by omega
     refine Wk ?_
     refine ret_own ?_
     simp only[go_sem]
     refine⟨List.replicate (xs.length - c.length) anil,cap,by rw[hcl2],?_⟩
     rw[hcl2,List.length_replicate,show c.length+(xs.length - c.length)=zs.length by omega,List.drop_length,List.map_nil,List.append_nil,hz,List.take_left]
   ·refine Wk ?_
    refine⟨_,.refl _,_,?_,k+1,rfl,by omega,by omega,rfl,rfl,fun i h0 hi=>?_⟩
    ·omega
    ·by_cases e:i=k
     ·subst e;rw[List.getElem?_eq_getElem hk,List.getElem?_eq_getElem hk1];exact fun e=>h2 (Option.some.inj e)
     ·exact hI i h0 (by omega)
  ·refine Wk ?_
   refine ret_own ?_
   simp only[go_sem]
   have e:compL xs=xs:=by
    unfold compL
    rw[compN_all (Nat.le_refl _) (fun i h0 hi=>hI i h0 (by omega)),List.take_length]
   exact⟨[],cap,by rw[e],by rw[e,List.append_nil]⟩
structure Elim where
 n:Nat
 top:Nat->Nat
 ok:Nat->Nat->Bool
 need:Nat->Nat->Nat->Int
def exB (E:Elim)(now:Nat->Nat)(p k:Nat):Bool:=!E.ok p k || (List.range E.n).any fun q=>decide (q ≠ p) && decide ((k:Int)<E.need q (now q) p)
def nextF (ex:Nat->Bool)(top:Nat):Nat->Nat->Nat
 | 0,k=>k
 | m+1,k=>if k<=top/\ex k=true then nextF ex top m (k+1) else k
def nextK (ex:Nat->Bool)(top k:Nat):Nat:=nextF ex top (top+1 - k) k
section
variable {ex:Nat->Bool} {top k:Nat}
theorem nextK_hit (h:k<=top)(he:ex k=true):nextK ex top k=nextK ex top (k+1):=by
 unfold nextK
 obtain⟨m,hm⟩:∃m,top+1 - k=m+1:=⟨top - k,by omega⟩
 rw[hm,nextF,if_pos ⟨h,he⟩,show top+1 - (k+1)=m by omega]
theorem nextK_stop (h:¬(k<=top/\ex k=true)):nextK ex top k=k:=by
 unfold nextK
 cases top+1 - k with
 | zero=>rfl
 | succ m=>rw[nextF,if_neg h]
theorem nextK_spec:∀(m k:Nat),top+1 - k=m->k<=top+1->k<=nextK ex top k/\nextK ex top k<=top+1/\(∀j,k<=j->j<nextK ex top k->ex j=true)/\(nextK ex top k<=top->ex (nextK ex top k)=false)
 | 0,k,hm,hk=>by
  rw[nextK_stop (by omega)]
  exact⟨Nat.le_refl _,hk,fun j _ _=>by omega,fun h=>by omega⟩
 | m+1,k,hm,hk=>by
  by_cases he:ex k=true
  ·rw[nextK_hit (by omega) he]
   obtain⟨a1,a2,a3,a4⟩:=nextK_spec m (k+1) (by omega) (by omega)
   refine⟨by omega,a2,fun j h1 h2=>?_,a4⟩
   by_cases e:j=k
   ·subst e;exact he
   ·exact a3 j (by omega) h2
  ·rw[nextK_stop (fun h=>he h.2)]
   exact⟨Nat.le_refl _,hk,fun j _ _=>by omega,fun _=>by simpa using he⟩
end
def stepP (E:Elim)(now:Nat->Nat):Option Nat:=(List.range E.n).find? fun p=>exB E now p (now p)
def goF (E:Elim)(now:Nat->Nat)(p:Nat):Nat:=nextK (exB E now p) (E.top p) (now p)
def updN (f:Nat->Nat)(p x:Nat):Nat->Nat:=fun q=>if q=p then x else f q
theorem updN_self (f:Nat->Nat)(p x:Nat):updN f p x p=x:=if_pos rfl
theorem updN_ne {f:Nat->Nat}{p x q:Nat}(h:q ≠ p):updN f p x q=f q:=if_neg h
theorem find_range {n:Nat}{f:Nat->Bool}{p:Nat}(h:(List.range n).find? f=some p):p<n/\f p=true/\∀q,q<p->f q=false:=by
 rw[List.find?_eq_some_iff_getElem] at h
 obtain⟨h1,i,hi,e,h2⟩:=h
 rw[List.getElem_range] at e
 subst e
 refine⟨by simpa using hi,h1,fun q hq=>?_⟩
 have:=h2 q hq
 rw[List.getElem_range] at this
 simpa using this
theorem find_range_none {n:Nat}{f:Nat->Bool}(h:(List.range n).find? f=none):∀q,q<n->f q=false:=fun q hq=>by
 rw[List.find?_eq_none] at h
 simpa using h q (List.mem_range.2 hq)
theorem find_range_of {n:Nat}{f:Nat->Bool}{p:Nat}(hp:p<n)(h:f p=true)(h0:∀q,q<p->f q=false):(List.range n).find? f=some p:=by
 rw[List.find?_eq_some_iff_getElem]
 exact⟨h,p,by simpa using hp,List.getElem_range _,fun j hj=>by rw[List.getElem_range,h0 j hj];rfl⟩
theorem find_range_no {n:Nat}{f:Nat->Bool}(h0:∀q,q<n->f q=false):(List.range n).find? f=none:=by
 rw[List.find?_eq_none]
 intro x hx
 rw[h0 x (List.mem_range.1 hx)];decide
abbrev Stp:=Nat × Nat × Nat
inductive RunR (E:Elim):(Nat->Nat)->List Stp->(Nat->Nat)->Bool->Prop
 | stop {now:Nat->Nat} (h:stepP E now=none):RunR E now [] now false
 | lost {now:Nat->Nat} {p:Nat} (h:stepP E now=some p) (hl:E.top p<goF E now p):RunR E now [(p,now p,goF E now p - 1)] (updN now p (goF E now p)) true
 | go {now fin:Nat->Nat} {p:Nat} {st:List Stp} {l:Bool} (h:stepP E now=some p) (hl:goF E now p<=E.top p) (hr:RunR E (updN now p (goF E now p)) st fin l):RunR E now ((p,now p,goF E now p - 1) :: st) fin l
def InE (E:Elim)(now:Nat->Nat):Prop:=∀q,q<E.n->now q<=E.top q
def roomE (E:Elim)(now:Nat->Nat):Nat:=totS E.n fun q=>E.top q+1 - now q
theorem totS_lt {c c':Nat->Nat}{p:Nat}(h:∀q,q ≠ p->c' q=c q)(hp:c' p<c p):∀n,totS n c'+(if p<n then 1 else 0)<=totS n c
 | 0=>by simp [totS]
 | n+1=>by
  have:=totS_lt h hp n
  rw[totS_succ,totS_succ]
  by_cases e:n=p
  ·subst e
   rw[if_neg (by omega)] at this
   rw[if_pos (by omega)];omega
  ·rw[h n e]
   by_cases e2:p<n
   ·rw[if_pos e2] at this;rw[if_pos (by omega)];omega
   ·rw[if_neg e2] at this;rw[if_neg (by omega)];omega
theorem step_inv {E:Elim}{now:Nat->Nat}(hI:InE E now){p:Nat}(h:stepP E now=some p) :
  p<E.n/\exB E now p (now p)=true/\(∀q,q<p->exB E now q (now q)=false)/\now p<goF E now p/\goF E now p<=E.top p+1/\(∀j,now p<=j->j<goF E now p->exB E now p j=true)/\roomE E (updN now p (goF E now p))<roomE E now:=by
 obtain⟨h1,h2,h3⟩:=find_range h
 have hle:=hI p h1
 obtain⟨a1,a2,a3,a4⟩:=nextK_spec (ex:=exB E now p) (top:=E.top p) _ (now p) rfl (by omega)
 have hlt:now p<goF E now p:=by
  unfold goF
  rw[nextK_hit hle h2]
  obtain⟨b1,_⟩:=nextK_spec (ex:=exB E now p) (top:=E.top p) _ (now p+1) rfl (by omega)
  omega
 refine⟨h1,h2,h3,hlt,a2,a3,?_⟩
 unfold roomE
 have:=totS_lt (c:=fun q=>E.top q+1 - now q) (c':=fun q=>E.top q+1 - updN now p (goF E now p) q) (p:=p) (fun q hq=>by rw[updN_ne hq]) (by rw[updN_self];omega) E.n
 rw[if_pos h1] at this
 omega
theorem inE_step {E:Elim}{now:Nat->Nat}(hI:InE E now){p:Nat}(hl:goF E now p<=E.top p):InE E (updN now p (goF E now p)):=fun q hq=>by
 by_cases e:q=p
 ·subst e;rw[updN_self];exact hl
 ·rw[updN_ne e];exact hI q hq
theorem run_ex (E:Elim):∀(m:Nat) (now:Nat->Nat),InE E now->roomE E now<=m->∃st fin l,RunR E now st fin l:=by
 intro m
 induction m with
 | zero =>
  intro now hI hm
  cases h:stepP E now with
  | none=>exact⟨_,_,_,.stop h⟩
  | some p=>have:=(step_inv hI h).2.2.2.2.2.2;omega
 | succ m ih =>
  intro now hI hm
  cases h:stepP E now with
  | none=>exact⟨_,_,_,.stop h⟩
  | some p =>
   have h7:=(step_inv hI h).2.2.2.2.2.2
   by_cases hl:goF E now p<=E.top p
   ·obtain⟨st,fin,l,hr⟩:=ih _ (inE_step hI hl) (by omega)
    exact⟨_,_,_,.go h hl hr⟩
   ·exact⟨_,_,_,.lost h (by omega)⟩
theorem inE_zero (E:Elim):InE E fun _=>0:=fun _ _=>Nat.zero_le _
open Classical in
noncomputable def stepsF (E:Elim):List Stp:=Classical.choose (run_ex E _ _ (inE_zero E) (Nat.le_refl _))
open Classical in
noncomputable def finF (E:Elim):Nat->Nat:=Classical.choose (Classical.choose_spec (run_ex E _ _ (inE_zero E) (Nat.le_refl _)))
open Classical in
noncomputable def lostF (E:Elim):Bool:=Classical.choose (Classical.choose_spec (Classical.choose_spec (run_ex E _ _ (inE_zero E) (Nat.le_refl _))))
end Go.AL
end
section
namespace Go.AL
open Go Go.RowKit Proofs.Tryz
set_option maxRecDepth 4000
section
variable {E:Elim} {p q m k:Nat}
end
theorem ref25_Index (ps:List Pr)(hs:Sm ps)(p:Int)(hpb:isPB ps.length p=true)(s:ByteArray):PC prog 175 [aTr ps,ai p,astr s] (ai (varX ps p s)):=by
 obtain⟨p,rfl,hp⟩:=isPB_nat hpb
 rw[varX_get hp]
 have hm:=List.getElem_mem hp
 have hvl:=hs.vars _ hm
 have hgp:=getD_map (f:=aPr) hp
 have hhit:∀i (hi:i<ps[p].vars.length),(∀j (hj:j<ps[p].vars.length),j<i->nmB s ps[p].vars[j]=false)->nmB s ps[p].vars[i]=true->varIx ps[p].vars s=i:=by
  intro i hi h0 h1
  have:ps[p].vars.findIdx? (nmB s)=some i:=by rw[List.findIdx?_eq_some_iff_getElem];exact⟨hi,h1,fun j hj=>by simpa using h0 j (by omega) hj⟩
  unfold varIx;rw[this]
 have hno:(∀j (hj:j<ps[p].vars.length),nmB s ps[p].vars[j]=false)->varIx ps[p].vars s = -1:=by
  intro h0
  have:ps[p].vars.findIdx? (nmB s)=none:=by
   rw[List.findIdx?_eq_none_iff];intro x hx;obtain⟨i,hi,rfl⟩:=List.getElem_of_mem hx;exact h0 i hi
  unfold varIx;rw[this]
 generalize varIx ps[p].vars s=r at *
 refine PE 29 [.tmp 6] [3] func175 ?_;simp only[go_sem]
 refine W1 hgp ?_
 refine AWp.block (AWp.count 8 ps[p].vars.length [] [2,7] (fun i vs L=>L=[]/\∀j (hj:j<ps[p].vars.length),j<i->nmB s ps[p].vars[j]=false) rfl rfl ⟨rfl,by omega⟩ ?_)
 rintro i vs L hi - ⟨rfl,hI⟩
 simp only[go_sem]
 refine Wk ?_
 constructor<;>intro h1
 ·have hiv:i<ps[p].vars.length:=by omega
  have hgv:=getD_map (f:=aVar) hiv
  refine W1 hgv ?_
  constructor<;>intro h2
  ·refine Wk ?_
   refine Rq ?_
   rw[hhit i hiv hI (decide_eq_true h2)]
  ·refine Wk ?_
   refine⟨_,.refl _,rfl,fun j hj hji=>?_⟩
   by_cases e:j=i
   ·subst e;exact decide_eq_false h2
   ·exact hI j hj (by omega)
 ·refine Wk ?_
  refine Rq ?_
  rw[hno fun j hj=>hI j hj (by omega)]
def leafR (ps:List Pr)(c:List Int)(o:Obs):Pd->Prop
 | .mk k _ p q s _=>(k=2->∃ix cv:Int,PC prog 175 [aTr ps,ai p,astr s] (ai ix)/\PC prog 174 [aTr ps,ai p,ai ix,ai cv] (ai (o.var p s))/\0<=p/\c[p.toNat]?=some cv)/\(k=3->0<=p/\c[p.toNat]?=some (o.cnt p))/\(k=4->∃ms:List AV,(ms.length:Int)=o.chn p q/\PC prog 176 [aTr ps,aInts c,ai p,ai q] (.sl 1 ms))
theorem ref29_Value (ps:List Pr)(c:List Int)(o:Obs)(hcl:c.length<=1000000)(t:Pd):szF t<=1000000->okT ps t=true->t.kind<=8->(intF ps t).2.2=true->AllP (obsB ps o) t->AllP (leafR ps c o) t ->
  PC prog 126 [aTr ps,aInts c,aPd t] (ai (valF o t)):=by
 induction t using Pd.ind with
 | _ k n p q s l ih =>
 intro hz ht hk hi hob hlf
 have hbnd:=valF_bounds ps o _ ht hk hob hi
 obtain⟨o1,o2,o3,o4⟩:=okT_sub ht
 obtain⟨hpl,_⟩:=loc_len o1
 simp only[Pd.kind] at hk
 have hch:=child_le ht (show k<=12 by omega)
 have hsz:szF (.mk k n p q s l)=szL l+1:=by rw[szF]
 have hsp:=valF_mk o k n p q s l
 have hci:=bd_child hi
 obtain⟨⟨lf2,lf3,lf4⟩,hls⟩:=AllP_sub hlf
 obtain⟨_,hos⟩:=AllP_sub hob
 generalize valF o (.mk k n p q s l)=R at *
 have hb : -1125899906842624<=R/\R<=1125899906842624:=by omega
 clear hbnd hi
 have hcb:=fun (x:Pd) (hx:x ∈ l) (h:l.length<=2)=>valF_bounds ps o x (hch x hx).1 (hch x hx).2 (hos x hx) (hci h x hx)
 rcases parts_cases k with ⟨e,hc⟩|⟨e,hc⟩|⟨e,hc⟩|e
 ·obtain rfl:=len0 (l:=l) (by omega)
  simp only[List.map_nil,valN,aPd_mk] at *
  have hk4:k=1\/k=2\/k=3\/k=4:=by omega
  rcases hk4 with h|h|h|h
  ·have hsp:R=n:=by rw[hsp,if_pos h]
   refine PE 106 [.tmp 6] [3,5] func126 ?_;simp only[go_sem]
   repeat(first|((with_reducible refine AWp.ofC ?_ ?_);exact rfl;simp only[go_sem,(eq_true h)])|((with_reducible refine an ?_ ?_);exact Au))
   refine Rq ?_
   rw[hsp]
  ·obtain⟨ix,cv,g1,g2,g3,g4⟩:=lf2 h
   obtain⟨hpc,hpe⟩:=List.getElem?_eq_some_iff.1 g4
   have hg:=getD_map (f:=ai) hpc
   rw[hpe] at hg
   have h1:¬k=1:=by omega
   rw[if_neg h1,if_pos h] at hsp
   refine PE 106 [.tmp 6] [3,5] func126 ?_;simp only[go_sem]
   repeat(first|((with_reducible refine AWp.ofC ?_ ?_);exact rfl;simp only[go_sem,(eq_true h),h1])|((with_reducible refine an ?_ ?_);exact Au))
   refine Sq ?_
   refine AWp.mix mixed [0,1,2,3,4,5,6,7,8,9,10,11,12,13,14,15] .done (by kernel_rfl) ?_;simp only[go_sem,hg]
   refine Sd ?_
   refine GCall.use (ai ix) (fun _=>⟨At,(g1).val.use ⟨rfl,rfl⟩⟩) ?_;simp only[go_sem,hg]
   refine Sd ?_
   refine Gc g2 ?_
   refine Sd ?_
   refine Wk ?_
   refine Rq ?_
   rw[hsp]
  ·obtain⟨p0,pc⟩:=lf3 h
   obtain⟨hpc,hpe⟩:=List.getElem?_eq_some_iff.1 pc
   have hg:=getD_map (f:=ai) hpc
   have h1:¬k=1:=by omega
   have h2:¬k=2:=by omega
   rw[if_neg h1,if_neg h2,if_pos h] at hsp
   rw[hpe] at hg
   refine PE 106 [.tmp 6] [3,5] func126 ?_;simp only[go_sem]
   repeat(first|((with_reducible refine AWp.ofC ?_ ?_);exact rfl;simp only[go_sem,(eq_true h),h1,h2,hg])|((with_reducible refine an ?_ ?_);exact Au))
   refine Rq ?_
   rw[hsp]
  ·obtain⟨ms,m2,m3⟩:=lf4 h
   have h1:¬k=1:=by omega
   have h2:¬k=2:=by omega
   have h3:¬k=3:=by omega
   rw[if_neg h1,if_neg h2,if_neg h3,<- m2] at hsp
   refine PE 106 [.tmp 6] [3,5] func126 ?_;simp only[go_sem]
   repeat(first|((with_reducible refine AWp.ofC ?_ ?_);exact rfl;simp only[go_sem,(eq_true h),h1,h2,h3])|((with_reducible refine an ?_ ?_);exact Au))
   refine Sd ?_
   refine Vu m3 ?_
   refine Wk ?_
   refine Rq ?_
   rw[hsp]
 ·obtain⟨a,rfl⟩:=len1 (l:=l) (by omega)
  have h5:k=5:=by omega
  have h1:¬k=1:=by omega
  have h2:¬k=2:=by omega
  have h3:¬k=3:=by omega
  have h4:¬k=4:=by omega
  obtain⟨c1,c2⟩:=hch a (by simp)
  have hza:=szL_mem (l:=[a]) (x:=a) (by simp)
  have hca:=ih a (by simp) (by omega) c1 c2 (hci (by simp) a (by simp)) (hos a (by simp)) (hls a (by simp))
  have hcb:=hcb a (by simp) (by simp)
  simp only[List.map_cons,List.map_nil,valN] at hsp
  generalize valF o a=A at *
  obtain⟨ka,na,pa,qa,sa,la⟩:=a
  simp only[aPd_mk,List.map_cons,List.map_nil] at *
  refine PE 106 [.tmp 6] [3,5] func126 ?_;simp only[go_sem]
  repeat(first|((with_reducible refine AWp.ofC ?_ ?_);exact rfl;simp only[go_sem,(eq_true h5),h1,h2,h3,h4])|((with_reducible refine an ?_ ?_);exact Au))
  refine Sq ?_
  refine AWp.mix mixed [0,1,2,3,4,5,6,7,8] .done (by kernel_rfl) ?_;simp only[go_sem]
  refine Sd ?_
  refine Gc hca ?_
  refine Sd ?_
  refine Wk ?_
  refine Rq ?_
  rw[hsp]
 ·obtain⟨a,b,rfl⟩:=len2 (l:=l) (by omega)
  have h1:¬k=1:=by omega
  have h2:¬k=2:=by omega
  have h3:¬k=3:=by omega
  have h4:¬k=4:=by omega
  have h5:¬k=5:=by omega
  obtain⟨c1,c2⟩:=hch a (by simp)
  obtain⟨c3,c4⟩:=hch b (by simp)
  have hza:=szL_mem (l:=[a,b]) (x:=a) (by simp)
  have hzb:=szL_mem (l:=[a,b]) (x:=b) (by simp)
  have hca:=ih a (by simp) (by omega) c1 c2 (hci (by simp) a (by simp)) (hos a (by simp)) (hls a (by simp))
  have hcc:=ih b (by simp) (by omega) c3 c4 (hci (by simp) b (by simp)) (hos b (by simp)) (hls b (by simp))
  have hcba:=hcb a (by simp) (by simp)
  have hcbb:=hcb b (by simp) (by simp)
  simp only[List.map_cons,List.map_nil,valN] at hsp
  have hmw:=fun h=>mulW_eq (a:=valF o a) (b:=valF o b) h
  generalize valF o a=A at *
  generalize valF o b=B at *
  obtain⟨ka,na,pa,qa,sa,la⟩:=a
  obtain⟨kb,nb,pb,qb,sb,lb⟩:=b
  simp only[aPd_mk,List.map_cons,List.map_nil] at *
  refine PE 106 [.tmp 6] [3,5] func126 ?_;simp only[go_sem]
  by_cases h6:k=6
  ·rw[if_pos h6] at hsp
   repeat(first|((with_reducible refine AWp.ofC ?_ ?_);exact rfl;simp only[go_sem,(eq_true h6),h1,h2,h3,h4,h5])|((with_reducible refine an ?_ ?_);exact Au))
   refine Sq ?_
   refine AWp.mix mixed [0,1,2,3,4,5,6,7,8,9,10,11,12,13,14,15] .done (by kernel_rfl) ?_;simp only[go_sem]
   refine Sd ?_
   refine Gc hca ?_
   refine Sd ?_
   refine Gc hcc ?_
   refine Sd ?_
   refine Wk ?_
   refine Rq ?_
   rw[hsp]
  by_cases h7:k=7
  ·rw[if_neg h6,if_pos h7] at hsp
   repeat(first|((with_reducible refine AWp.ofC ?_ ?_);exact rfl;simp only[go_sem,(eq_true h7),h1,h2,h3,h4,h5,h6])|((with_reducible refine an ?_ ?_);exact Au))
   refine Sq ?_
   refine AWp.mix mixed [0,1,2,3,4,5,6,7,8,9,10,11,12,13,14,15] .done (by kernel_rfl) ?_;simp only[go_sem]
   refine Sd ?_
   refine Gc hca ?_
   refine Sd ?_
   refine Gc hcc ?_
   refine Sd ?_
   refine Wk ?_
   refine Rq ?_
   rw[hsp]
  rw[if_neg h6,if_neg h7] at hsp
  have hmw:=hmw (by rw[<- hsp];unfold I64;omega)
  repeat(first|((with_reducible refine AWp.ofC ?_ ?_);exact rfl;simp only[go_sem,h1,h2,h3,h4,h5,h6,h7])|((with_reducible refine an ?_ ?_);exact Au))
  refine AWp.seq ?_
  refine Sq ?_
  refine AWp.mix mixed [0,1,2,3,4,5,6,7,8,9,10,11,12,13,14,15] .done (by kernel_rfl) ?_;simp only[go_sem]
  refine Sd ?_
  refine Gc hca ?_
  refine Sd ?_
  refine Gc hcc ?_
  refine Sd ?_
  refine W1 hmw ?_
  refine Rq ?_
  rw[hsp]
 ·omega
theorem ref29_Truth (ps:List Pr)(c:List Int)(o:Obs)(hcl:c.length<=1000000)(t:Pd):szF t<=1000000->okT ps t=true->9<=t.kind->fitB ps t=true->allB ntmB t=true->AllP (obsB ps o) t->AllP (leafR ps c o) t ->
  PC prog 77 [aTr ps,aInts c,aPd t] (ab (truF o t)):=by
 induction t using Pd.ind with
 | _ k n p q s l ih =>
 intro hz ht hk hi htm hob hlf
 obtain⟨o1,o2,o3,o4⟩:=okT_sub ht
 obtain⟨hpl,_⟩:=loc_len o1
 simp only[Pd.kind] at hk
 obtain⟨ht1,ht2⟩:=allB_sub htm
 have hnt:¬(18<=k/\k<=21):=by unfold ntmB tempB at ht1;simp at ht1;omega
 have hsz:szF (.mk k n p q s l)=szL l+1:=by rw[szF]
 have hsp:=truF_mk o k n p q s l
 have hfc:=fit_child hi hk
 obtain⟨_,hls⟩:=AllP_sub hlf
 obtain⟨_,hos⟩:=AllP_sub hob
 generalize truF o (.mk k n p q s l)=R at *
 unfold truN at hsp
 by_cases h12:k<=12
 ·have hch:=child_le ht h12
  obtain⟨a,b,rfl⟩:=len2 (l:=l) (by rcases parts_cases k with ⟨e,hc⟩|⟨e,hc⟩|⟨e,hc⟩|e <;> omega)
  obtain⟨c1,c2⟩:=hch a (by simp)
  obtain⟨c3,c4⟩:=hch b (by simp)
  have hza:=szL_mem (l:=[a,b]) (x:=a) (by simp)
  have hzb:=szL_mem (l:=[a,b]) (x:=b) (by simp)
  have hca:=ref29_Value ps c o hcl a (by omega) c1 c2 (fit_int (hfc a (by simp)) c2) (hos a (by simp)) (hls a (by simp))
  have hcc:=ref29_Value ps c o hcl b (by omega) c3 c4 (fit_int (hfc b (by simp)) c4) (hos b (by simp)) (hls b (by simp))
  simp only[List.map_cons,List.map_nil,List.getD_cons_zero,List.getD_cons_succ] at hsp
  generalize valF o a=A at *
  generalize valF o b=B at *
  clear ih hlf hls hob hos htm ht2 hch hfc
  obtain⟨ka,na,pa,qa,sa,la⟩:=a
  obtain⟨kb,nb,pb,qb,sb,lb⟩:=b
  simp only[aPd_mk,List.map_cons,List.map_nil] at *
  refine PE 125 [.tmp 6] [3,5] func77 ?_;simp only[go_sem]
  by_cases h9:k=9
  ·rw[if_pos h9] at hsp
   repeat(first|((with_reducible refine AWp.ofC ?_ ?_);exact rfl;simp only[go_sem,(eq_true h9)])|((with_reducible refine an ?_ ?_);exact Au))
   refine Sq ?_
   refine AWp.mix mixed [0,1,2,3,4,5,6,7,8,9,10,11,12,13,14,15] .done (by kernel_rfl) ?_;simp only[go_sem]
   refine Sd ?_
   refine Gc hca ?_
   refine Sd ?_
   refine Gc hcc ?_
   refine Sd ?_
   refine Wk ?_
   refine Rq ?_
   rw[hsp]
  by_cases h10:k=10
  ·rw[if_neg h9,if_pos h10] at hsp
   repeat(first|((with_reducible refine AWp.ofC ?_ ?_);exact rfl;simp only[go_sem,(eq_true h10),h9])|((with_reducible refine an ?_ ?_);exact Au))
   refine Sq ?_
   refine AWp.mix mixed [0,1,2,3,4,5,6,7,8,9,10,11,12,13,14,15] .done (by kernel_rfl) ?_;simp only[go_sem]
   refine Sd ?_
   refine Gc hca ?_
   refine Sd ?_
   refine Gc hcc ?_
   refine Sd ?_
   refine Wk ?_
   refine Rq ?_
   rw[hsp]
  by_cases h11:k=11
  ·rw[if_neg h9,if_neg h10,if_pos h11] at hsp
   repeat(first|((with_reducible refine AWp.ofC ?_ ?_);exact rfl;simp only[go_sem,(eq_true h11),h9,h10])|((with_reducible refine an ?_ ?_);exact Au))
   refine Sq ?_
   refine AWp.mix mixed [0,1,2,3,4,5,6,7,8,9,10,11,12,13,14,15] .done (by kernel_rfl) ?_;simp only[go_sem]
   refine Sd ?_
   refine Gc hca ?_
   refine Sd ?_
   refine Gc hcc ?_
   refine Sd ?_
   refine Wk ?_
   refine Rq ?_
   rw[hsp]
  have h12:k=12:=by omega
  rw[if_neg h9,if_neg h10,if_neg h11,if_pos h12] at hsp
  repeat(first|((with_reducible refine AWp.ofC ?_ ?_);exact rfl;simp only[go_sem,(eq_true h12),h9,h10,h11])|((with_reducible refine an ?_ ?_);exact Au))
  refine Sq ?_
  refine AWp.mix mixed [0,1,2,3,4,5,6,7,8,9,10,11,12,13,14,15] .done (by kernel_rfl) ?_;simp only[go_sem]
  refine Sd ?_
  refine Gc hca ?_
  refine Sd ?_
  refine Gc hcc ?_
  refine Sd ?_
  refine Wk ?_
  refine Rq ?_
  rw[hsp]
 have h9:¬k=9:=by omega
 have h10:¬k=10:=by omega
 have h11:¬k=11:=by omega
 have h12:¬k=12:=by omega
 rw[if_neg h9,if_neg h10,if_neg h11,if_neg h12] at hsp
 have hch:=child_bool ht (by omega)
 rcases parts_cases k with ⟨e,hc⟩|⟨e,hc⟩|⟨e,hc⟩|e
 ·obtain rfl:=len0 (l:=l) (by omega)
  simp only[aPd_mk,List.map_nil] at *
  refine PE 125 [.tmp 6] [3,5] func77 ?_;simp only[go_sem]
  by_cases h13:k=13
  ·rw[if_pos h13] at hsp
   repeat(first|((with_reducible refine AWp.ofC ?_ ?_);exact rfl;simp only[go_sem,(eq_true h13),h9,h10,h11,h12])|((with_reducible refine an ?_ ?_);exact Au))
   refine Rq ?_
   rw[hsp]
  ·have h14:k=14:=by omega
   rw[if_neg h13,if_pos h14] at hsp
   have h15:¬k=15:=by omega
   have h16:¬k=16:=by omega
   have h17:¬k=17:=by omega
   repeat(first|((with_reducible refine AWp.ofC ?_ ?_);exact rfl;simp only[go_sem,h9,h10,h11,h12,h13,h15,h16,h17])|((with_reducible refine an ?_ ?_);exact Au))
   refine Rq ?_
   rw[hsp]
 ·obtain⟨a,rfl⟩:=len1 (l:=l) (by omega)
  have h13:¬k=13:=by omega
  have h14:¬k=14:=by omega
  have h15:k=15:=by omega
  obtain⟨c1,c2⟩:=hch a (by simp)
  have hza:=szL_mem (l:=[a]) (x:=a) (by simp)
  have hca:=ih a (by simp) (by omega) c1 c2 (hfc a (by simp)) (ht2 a (by simp)) (hos a (by simp)) (hls a (by simp))
  simp only[List.map_cons,List.map_nil,List.getD_cons_zero,if_neg h13,if_neg h14,if_pos h15] at hsp
  generalize truF o a=A at *
  clear ih hlf hls hob hos htm ht2 hch hfc
  obtain⟨ka,na,pa,qa,sa,la⟩:=a
  simp only[aPd_mk,List.map_cons,List.map_nil] at *
  refine PE 125 [.tmp 6] [3,5] func77 ?_;simp only[go_sem]
  repeat(first|((with_reducible refine AWp.ofC ?_ ?_);exact rfl;simp only[go_sem,(eq_true h15),h9,h10,h11,h12,h13])|((with_reducible refine an ?_ ?_);exact Au))
  refine Sq ?_
  refine AWp.mix mixed [0,1,2,3,4,5,6,7,8] .done (by kernel_rfl) ?_;simp only[go_sem]
  refine Sd ?_
  refine Gc hca ?_
  refine Sd ?_
  refine Wk ?_
  refine Rq ?_
  rw[hsp]
 ·obtain⟨a,b,rfl⟩:=len2 (l:=l) (by omega)
  have h13:¬k=13:=by omega
  have h14:¬k=14:=by omega
  have h15:¬k=15:=by omega
  obtain⟨c1,c2⟩:=hch a (by simp)
  obtain⟨c3,c4⟩:=hch b (by simp)
  have hza:=szL_mem (l:=[a,b]) (x:=a) (by simp)
  have hzb:=szL_mem (l:=[a,b]) (x:=b) (by simp)
  have hca:=ih a (by simp) (by omega) c1 c2 (hfc a (by simp)) (ht2 a (by simp)) (hos a (by simp)) (hls a (by simp))
  have hcc:=ih b (by simp) (by omega) c3 c4 (hfc b (by simp)) (ht2 b (by simp)) (hos b (by simp)) (hls b (by simp))
  simp only[List.map_cons,List.map_nil,List.getD_cons_zero,List.getD_cons_succ,if_neg h13,if_neg h14,if_neg h15] at hsp
  generalize truF o a=A at *
  generalize truF o b=B at *
  clear ih hlf hls hob hos htm ht2 hch hfc
  obtain⟨ka,na,pa,qa,sa,la⟩:=a
  obtain⟨kb,nb,pb,qb,sb,lb⟩:=b
  simp only[aPd_mk,List.map_cons,List.map_nil] at *
  refine PE 125 [.tmp 6] [3,5] func77 ?_;simp only[go_sem]
  by_cases h16:k=16
  ·rw[if_pos h16] at hsp
   repeat(first|((with_reducible refine AWp.ofC ?_ ?_);exact rfl;simp only[go_sem,(eq_true h16),h9,h10,h11,h12,h13,h15])|((with_reducible refine an ?_ ?_);exact Au))
   refine Sq ?_
   refine AWp.mix mixed [0,1,2,3,4,5,6,7,8,9,10,11,12,13,14,15,16] .done (by kernel_rfl) ?_;simp only[go_sem]
   refine Sd ?_
   refine Gc hca ?_
   refine Sd ?_
   refine Gc hcc ?_
   refine Sd ?_
   refine Wk ?_
   refine Rq ?_
   rw[hsp]
  ·rw[if_neg h16] at hsp
   have h17:k=17:=by omega
   repeat(first|((with_reducible refine AWp.ofC ?_ ?_);exact rfl;simp only[go_sem,(eq_true h17),h9,h10,h11,h12,h13,h15,h16])|((with_reducible refine an ?_ ?_);exact Au))
   refine Sq ?_
   refine AWp.mix mixed [0,1,2,3,4,5,6,7,8,9,10,11,12,13,14,15,16] .done (by kernel_rfl) ?_;simp only[go_sem]
   refine Sd ?_
   refine Gc hca ?_
   refine Sd ?_
   refine Gc hcc ?_
   refine Sd ?_
   refine Wk ?_
   refine Rq ?_
   rw[hsp]
 ·omega
end Go.AL
end
