/- Texts of this claim's proof: WTl, WEf, WEl, WBd, WCl, WRe, WLo, WLp, WLq, WNd, WBs, WSb, WAw, WSr, WOf, WWl, AlBr, AlBr2, AlBr3, AlBr4, AlSrt, WLsf. No condition. -/
import Derived.Test.YtkkcgocdmaodbaaGreatDoorM8
import Derived.Test.YtkkcgocdmaodbaaGreatDoorM9
import Derived.Test.YtkkcgocdmaodbaaGreatDoorM7
import Derived.Test.YtkkcgocdmaodbaaGreatDoorM6
import Derived.Test.YtkkcgocdmaodbaaGreatDoorM4
import Derived.ProofKit
import Derived.Lib.LaidTab
import Derived.Shelf.SlSortCmp.Whole1
import Derived.Test.YtkkcgocdmaodbaaGreatDoorProg
import Derived.Shelf.SlGeneric
section
namespace Go.AL
open Go Go.RowKit
set_option maxRecDepth 4000
theorem closed_iff {ps:List Pr} {c:List Int} : closedF ps c=true↔∀(p:Nat) (hp:p<ps.length) (i:Nat) (hi:i<ps[p].evs.length),ps[p].evs[i].kind=3→(i:Int)+1≤cAt c p→(sndr ps ps[p].evs[i].msg).2≤cAt c (sndr ps ps[p].evs[i].msg).1:=by
 unfold closedF
 rw[Bool.not_eq_true',List.any_eq_false]
 constructor
 ·intro h p hp i hi hk hc
  have:=h _ (List.mem_of_getElem? (evIds_get hp hi))
  unfold badEv at this
  simp only[Bool.and_eq_true,decide_eq_true_eq,not_and] at this
  have:=this ⟨hk,hc⟩
  unfold sndr
  omega
 ·intro h x hx
  obtain⟨k,hk⟩:=List.getElem?_of_mem hx
  obtain⟨p,hp,i,hi,_,rfl⟩:=evIds_inv hk
  unfold badEv
  simp only[Bool.and_eq_true,decide_eq_true_eq,not_and]
  rintro⟨h1,h2⟩
  have:=h p hp i hi h1 h2
  unfold sndr at this
  omega
theorem inRange_iff {ps:List Pr} {c:List Int} (hc:c.length=ps.length):inRangeF ps c=true↔∀(p:Nat) (hp:p<ps.length),0≤cAt c p∧cAt c p≤ps[p].evs.length:=by
 constructor
 ·intro h p hp
  obtain⟨h1,h2⟩:=inRangeF_get h hc hp
  rw[cAt_nat (show p<c.length by omega)]
  exact⟨h1,h2⟩
 ·intro h
  unfold inRangeF
  rw[List.all_eq_true]
  intro p hp
  have hpc:=List.mem_range.1 hp
  have hpp:p<ps.length:=by omega
  have:=h p hpp
  rw[cAt_nat hpc] at this
  unfold cntOk
  simp only[List.getElem?_eq_getElem hpc,List.getElem?_eq_getElem hpp,Bool.and_eq_true,decide_eq_true_eq]
  exact this
def joinL (c d:List Int):List Int:=List.zipWith (fun x y=>if x<y then y else x) c d
theorem zw_cAt {c d:List Int} {g:Int→Int→Int} (h:c.length=d.length) {p:Nat} (hp:p<c.length):cAt (List.zipWith g c d) p=g (cAt c p) (cAt d p):=by
 rw[cAt_nat (show p<(List.zipWith g c d).length by rw[List.length_zipWith];omega),cAt_nat hp,cAt_nat (show p<d.length by omega),List.getElem_zipWith]
theorem join_cAt {c d:List Int} (h:c.length=d.length) {p:Nat} (hp:p<c.length):cAt (joinL c d) p=if cAt c p<cAt d p then cAt d p else cAt c p:=zw_cAt h hp
theorem join_len {c d:List Int} (h:c.length=d.length):(joinL c d).length=c.length:=by unfold joinL;rw[List.length_zipWith];omega
theorem join_given {ps:List Pr} {c d:List Int} (hc:givenF ps [c] []=0) (hd:givenF ps [d] []=0):givenF ps [joinL c d] []=0:=by
 obtain⟨hv,hcl,hcr,hcc⟩:=givenF_zero hc
 obtain⟨_,hdl,hdr,hdc⟩:=givenF_zero hd
 have hl:=join_len (c:=c) (d:=d) (by omega)
 rw[givenL]
 refine⟨⟨hv,fun x hx => ?_⟩,fun x hx => ?_,fun x hx => ?_⟩ <;> (simp only[List.mem_singleton] at hx;subst hx)
 ·omega
 ·rw[inRange_iff (by omega)]
  intro p hp
  have h1:=(inRange_iff hcl).1 hcr p hp
  have h2:=(inRange_iff hdl).1 hdr p hp
  rw[join_cAt (by omega) (by omega)]
  split <;> omega
 ·rw[closed_iff]
  intro p hp i hi hk hle
  obtain⟨hq,j,hj,h1,_,_⟩:=recv_peer (valid_parts hv).2.2 hp hi hk
  rw[join_cAt (by omega) (by omega)] at hle
  have g1:=closed_iff.1 hcc p hp i hi hk
  have g2:=closed_iff.1 hdc p hp i hi hk
  rw[h1] at g1 g2 ⊢
  simp only at g1 g2 ⊢
  generalize ps[p].evs[i].peer.toNat=q at *
  rw[join_cAt (by omega) (by omega)]
  split at hle <;> split <;> omega
section
variable {ps:List Pr} {c j:List Int}
end
def closeN (ps:List Pr):Nat→List Int→List Int
 | 0,c=>c
 | n+1,c=>match missF ps c with
  | none=>c
  | some x=>closeN ps n (c.set x.1.1.toNat x.1.2)
def closeF (ps:List Pr) (c:List Int):List Int:=closeN ps (off ps ps.length) c
theorem sumN_set:∀(l:List Nat) (i x:Nat) (h:i<l.length),(l.set i x).sum+l[i]=l.sum+x
 | a :: r,0,x,_=>by simp only[List.set_cons_zero,List.sum_cons,List.getElem_cons_zero];omega
 | a :: r,i+1,x,h=>by
  have:=sumN_set r i x (by simpa using h)
  simp only[List.set_cons_succ,List.sum_cons,List.getElem_cons_succ];omega
def totC (c:List Int):Nat:=(c.map Int.toNat).sum
theorem totC_set {c:List Int} {q:Nat} {x:Int} (hq:q<c.length):totC (c.set q x)+(c[q]).toNat=totC c+x.toNat:=by
 unfold totC
 rw[List.map_set]
 have:=sumN_set (c.map Int.toNat) q x.toNat (by simpa using hq)
 simpa using this
theorem totC_le0:∀(l:List Pr) (c:List Int),c.length=l.length→(∀p (hp:p<l.length),c.getD p 0≤l[p].evs.length)→totC c≤(l.map fun x=>x.evs.length).sum
 | [],[],_,_=>Nat.le_refl _
 | x :: l,a :: c,hl,h=>by
  have h0:=h 0 (by simp)
  have ht:=totC_le0 l c (by simpa using hl) fun p hp=>by
   have:=h (p+1) (by simpa using hp)
   simpa using this
  simp only[List.getElem_cons_zero,List.getD_cons_zero] at h0
  unfold totC at *
  simp only[List.map_cons,List.sum_cons]
  omega
theorem totC_le {ps:List Pr} {c:List Int} (hc:c.length=ps.length) (hr:inRangeF ps c=true):totC c≤off ps ps.length:=by
 unfold off
 rw[List.take_length]
 refine totC_le0 ps c hc fun p hp => ?_
 have:=((inRange_iff hc).1 hr p hp).2
 unfold cAt at this
 simpa using this
theorem miss_inv {ps:List Pr} (hv:validF ps=true) {c:List Int} (_hc:c.length=ps.length) {x:Eid × Eid} (h:missF ps c=some x) :
  ∃(p:Nat) (_:p<ps.length) (i:Nat) (_:i<ps[p].evs.length) (q:Nat) (_:q<ps.length) (j:Nat) (_:j<ps[q].evs.length),ps[p].evs[i].kind=3∧(i:Int)+1≤cAt c p∧sndr ps ps[p].evs[i].msg=((q:Int),(j:Int)+1)∧x=(((q:Int),(j:Int)+1),((p:Int),(i:Int)+1))∧cAt c q<(j:Int)+1:=by
 unfold missF at h
 rw[Option.map_eq_some_iff] at h
 obtain⟨y,hy,rfl⟩:=h
 have hb:=List.find?_some hy
 obtain⟨k,hk⟩:=List.getElem?_of_mem (List.mem_of_find?_eq_some hy)
 obtain⟨p,hp,i,hi,_,rfl⟩:=evIds_inv hk
 unfold badEv at hb
 simp only[Bool.and_eq_true,decide_eq_true_eq] at hb
 obtain⟨⟨h1,h2⟩,h3⟩:=hb
 obtain⟨hq,j,hj,e,_,_⟩:=recv_peer (valid_parts hv).2.2 hp hi h1
 have e':findIn (evIds ps) 2 ps[p].evs[i].msg=((ps[p].evs[i].peer.toNat:Int),(j:Int)+1):=e
 rw[e'] at h3
 exact⟨p,hp,i,hi,_,hq,j,hj,h1,h2,e,by rw[e'],h3⟩
theorem miss_next {ps:List Pr} (hv:validF ps=true) {c:List Int} (hc:c.length=ps.length) (hr:inRangeF ps c=true) {x:Eid × Eid} (h:missF ps c=some x) :
  (c.set x.1.1.toNat x.1.2).length=ps.length∧inRangeF ps (c.set x.1.1.toNat x.1.2)=true∧totC c<totC (c.set x.1.1.toNat x.1.2):=by
 obtain⟨p,hp,i,hi,q,hq,j,hj,_,_,_,rfl,h1⟩:=miss_inv hv hc h
 have hl:(c.set q ((j:Int)+1)).length=ps.length:=by rw[List.length_set];exact hc
 refine⟨hl,?_,?_⟩
 ·rw[Int.toNat_natCast,inRange_iff hl]
  intro r hr'
  rw[cAt_nat (show r<(c.set q ((j:Int)+1)).length by omega),List.getElem_set]
  split
  ·rename_i e;subst e;omega
  ·have:=(inRange_iff hc).1 hr r hr'
   rw[cAt_nat (show r<c.length by omega)] at this
   exact this
 ·have:=totC_set (c:=c) (q:=q) (x:=(j:Int)+1) (by omega)
  rw[cAt_nat (show q<c.length by omega)] at h1
  have h0:=((inRange_iff hc).1 hr q hq).1
  rw[cAt_nat (show q<c.length by omega)] at h0
  simp only[Int.toNat_natCast]
  have h3:((j:Int)+1).toNat=j+1:=by omega
  rw[h3] at this
  omega
theorem closeN_more {ps:List Pr} (hv:validF ps=true):∀(n:Nat) (c:List Int),c.length=ps.length→inRangeF ps c=true→off ps ps.length≤totC c+n→closeN ps (n+1) c=closeN ps n c
 | 0,c,hc,hr,hn=>by
  unfold closeN
  cases h:missF ps c with
  | none=>rfl
  | some x =>
   obtain⟨a1,a2,a3⟩:=miss_next hv hc hr h
   have:=totC_le a1 a2
   omega
 | n+1,c,hc,hr,hn=>by
  rw[closeN]
  conv=>rhs;rw[closeN]
  cases h:missF ps c with
  | none=>rfl
  | some x =>
   obtain⟨a1,a2,a3⟩:=miss_next hv hc hr h
   exact closeN_more hv n _ a1 a2 (by omega)
theorem closeN_of {ps:List Pr} (hv:validF ps=true) {c:List Int} (hc:c.length=ps.length) (hr:inRangeF ps c=true) {n:Nat} (h:off ps ps.length≤totC c+n):∀k,closeN ps (n+k) c=closeN ps n c
 | 0=>rfl
 | k+1=>by rw[← Nat.add_assoc,closeN_more hv (n+k) c hc hr (by omega),closeN_of hv hc hr h k]
theorem closeF_step {ps:List Pr} (hv:validF ps=true) {c:List Int} (hc:c.length=ps.length) (hr:inRangeF ps c=true) {x:Eid × Eid} (h:missF ps c=some x):closeF ps c=closeF ps (c.set x.1.1.toNat x.1.2):=by
 obtain⟨a1,a2,a3⟩:=miss_next hv hc hr h
 have hle:=totC_le a1 a2
 unfold closeF
 obtain⟨m,hm⟩:∃m,off ps ps.length=m+1:=⟨off ps ps.length - 1,by omega⟩
 rw[hm]
 conv=>lhs;rw[closeN]
 rw[h]
 exact(closeN_of hv a1 a2 (n:=m) (by omega) 1).symm
theorem closeF_none {ps:List Pr} {c:List Int} (h:missF ps c=none):closeF ps c=c:=by
 unfold closeF
 cases off ps ps.length with
 | zero=>rfl
 | succ n=>rw[closeN,h]
theorem miss_ind {ps:List Pr} (hv:validF ps=true) {M:List Int→Prop} (h0:∀c,c.length=ps.length→inRangeF ps c=true→missF ps c=none→M c)
  (h1:∀c,c.length=ps.length→inRangeF ps c=true→∀x,missF ps c=some x→M (c.set x.1.1.toNat x.1.2)→M c):∀c,c.length=ps.length→inRangeF ps c=true→M c:=by
 suffices H:∀n c,c.length=ps.length→inRangeF ps c=true→off ps ps.length - totC c=n→M c from fun c hc hr=>H _ c hc hr rfl
 intro n
 induction n using Nat.strongRecOn with
 | _ n ih =>
  intro c hc hr hn
  cases h:missF ps c with
  | none=>exact h0 c hc hr h
  | some x =>
   obtain⟨a1,a2,a3⟩:=miss_next hv hc hr h
   have:=totC_le a1 a2
   exact h1 c hc hr x h (ih _ (by omega) _ a1 a2 rfl)
theorem closeF_ok {ps:List Pr} (hv:validF ps=true) {c:List Int} (hc:c.length=ps.length) (hr:inRangeF ps c=true):(closeF ps c).length=ps.length∧inRangeF ps (closeF ps c)=true∧missF ps (closeF ps c)=none:=by
 refine miss_ind hv (M:=fun c=>(closeF ps c).length=ps.length∧inRangeF ps (closeF ps c)=true∧missF ps (closeF ps c)=none) (fun c hc hr h => ?_) (fun c hc hr x h hm => ?_) c hc hr
 ·rw[closeF_none h];exact⟨hc,hr,h⟩
 ·rw[closeF_step hv hc hr h];exact hm
theorem closeF_ge {ps:List Pr} (hv:validF ps=true) {c:List Int} (hc:c.length=ps.length) (hr:inRangeF ps c=true):∀p,p<ps.length→cAt c p≤cAt (closeF ps c) p:=by
 refine miss_ind hv (M:=fun c=>∀p,p<ps.length→cAt c p≤cAt (closeF ps c) p) (fun c hc hr h p hp => ?_) (fun c hc hr x h hm p hp => ?_) c hc hr
 ·rw[closeF_none h];exact Int.le_refl _
 ·rw[closeF_step hv hc hr h]
  refine Int.le_trans ?_ (hm p hp)
  obtain⟨_,_,_,_,q,hq,j,hj,_,_,_,rfl,h1⟩:=miss_inv hv hc h
  rw[Int.toNat_natCast,cAt_nat (show p<(c.set q ((j:Int)+1)).length by rw[List.length_set];omega),List.getElem_set]
  split
  ·rename_i e;subst e;omega
  ·rw[cAt_nat (show p<c.length by omega)];exact Int.le_refl _
theorem closeF_least {ps:List Pr} (hv:validF ps=true) {d:List Int} (_hd:d.length=ps.length) (hcl:closedF ps d=true) {c:List Int} (hc:c.length=ps.length) (hr:inRangeF ps c=true) :
  (∀p,p<ps.length→cAt c p≤cAt d p)→∀p,p<ps.length→cAt (closeF ps c) p≤cAt d p:=by
 refine miss_ind hv (M:=fun c=>(∀p,p<ps.length→cAt c p≤cAt d p)→∀p,p<ps.length→cAt (closeF ps c) p≤cAt d p) (fun c hc hr h hle => ?_) (fun c hc hr x h hm hle => ?_) c hc hr
 ·rw[closeF_none h];exact hle
 ·rw[closeF_step hv hc hr h]
  refine hm fun p hp => ?_
  obtain⟨a,ha,i,hi,q,hq,j,hj,g1,g2,g3,rfl,h1⟩:=miss_inv hv hc h
  rw[Int.toNat_natCast,cAt_nat (show p<(c.set q ((j:Int)+1)).length by rw[List.length_set];omega),List.getElem_set]
  split
  ·rename_i e;subst e
   have:=closed_iff.1 hcl a ha i hi g1 (Int.le_trans g2 (hle a ha))
   rw[g3] at this
   exact this
  ·have:=hle p hp
   rw[cAt_nat (show p<c.length by omega)] at this
   exact this
theorem closeF_closed {ps:List Pr} (hv:validF ps=true) {c:List Int} (hc:c.length=ps.length) (hr:inRangeF ps c=true):closedF ps (closeF ps c)=true:=by
 rw[closedF_iff,(closeF_ok hv hc hr).2.2];rfl
structure Elim where
 n:Nat
 top:Nat→Nat
 ok:Nat→Nat→Bool
 need:Nat→Nat→Nat→Int
def exB (E:Elim) (now:Nat→Nat) (p k:Nat):Bool:=!E.ok p k || (List.range E.n).any fun q=>decide (q ≠ p) && decide ((k:Int)<E.need q (now q) p)
def nextF (ex:Nat→Bool) (top:Nat):Nat→Nat→Nat
 | 0,k=>k
 | m+1,k=>if k≤top∧ex k=true then nextF ex top m (k+1) else k
def nextK (ex:Nat→Bool) (top k:Nat):Nat:=nextF ex top (top+1 - k) k
section
variable {ex:Nat→Bool} {top k:Nat}
theorem nextK_hit (h:k≤top) (he:ex k=true):nextK ex top k=nextK ex top (k+1):=by
 unfold nextK
 obtain⟨m,hm⟩:∃m,top+1 - k=m+1:=⟨top - k,by omega⟩
 rw[hm,nextF,if_pos ⟨h,he⟩,show top+1 - (k+1)=m by omega]
theorem nextK_stop (h:¬(k≤top∧ex k=true)):nextK ex top k=k:=by
 unfold nextK
 cases top+1 - k with
 | zero=>rfl
 | succ m=>rw[nextF,if_neg h]
theorem nextK_spec:∀(m k:Nat),top+1 - k=m→k≤top+1→k≤nextK ex top k∧nextK ex top k≤top+1∧(∀j,k≤j→j<nextK ex top k→ex j=true)∧(nextK ex top k≤top→ex (nextK ex top k)=false)
 | 0,k,hm,hk=>by
  rw[nextK_stop (by omega)]
  exact⟨Nat.le_refl _,hk,fun j _ _=>by omega,fun h=>by omega⟩
 | m+1,k,hm,hk=>by
  by_cases he:ex k=true
  ·rw[nextK_hit (by omega) he]
   obtain⟨a1,a2,a3,a4⟩:=nextK_spec m (k+1) (by omega) (by omega)
   refine⟨by omega,a2,fun j h1 h2 => ?_,a4⟩
   by_cases e:j=k
   ·subst e;exact he
   ·exact a3 j (by omega) h2
  ·rw[nextK_stop (fun h=>he h.2)]
   exact⟨Nat.le_refl _,hk,fun j _ _=>by omega,fun _=>by simpa using he⟩
end
def stepP (E:Elim) (now:Nat→Nat):Option Nat:=(List.range E.n).find? fun p=>exB E now p (now p)
def goF (E:Elim) (now:Nat→Nat) (p:Nat):Nat:=nextK (exB E now p) (E.top p) (now p)
def updN (f:Nat→Nat) (p x:Nat):Nat→Nat:=fun q=>if q=p then x else f q
theorem updN_self (f:Nat→Nat) (p x:Nat):updN f p x p=x:=if_pos rfl
theorem updN_ne {f:Nat→Nat} {p x q:Nat} (h:q ≠ p):updN f p x q=f q:=if_neg h
theorem find_range {n:Nat} {f:Nat→Bool} {p:Nat} (h:(List.range n).find? f=some p):p<n∧f p=true∧∀q,q<p→f q=false:=by
 rw[List.find?_eq_some_iff_getElem] at h
 obtain⟨h1,i,hi,e,h2⟩:=h
 rw[List.getElem_range] at e
 subst e
 refine⟨by simpa using hi,h1,fun q hq => ?_⟩
 have:=h2 q hq
 rw[List.getElem_range] at this
 simpa using this
theorem find_range_none {n:Nat} {f:Nat→Bool} (h:(List.range n).find? f=none):∀q,q<n→f q=false:=fun q hq=>by
 rw[List.find?_eq_none] at h
 simpa using h q (List.mem_range.2 hq)
theorem find_range_of {n:Nat} {f:Nat→Bool} {p:Nat} (hp:p<n) (h:f p=true) (h0:∀q,q<p→f q=false):(List.range n).find? f=some p:=by
 rw[List.find?_eq_some_iff_getElem]
 exact⟨h,p,by simpa using hp,List.getElem_range _,fun j hj=>by rw[List.getElem_range,h0 j hj];rfl⟩
theorem find_range_no {n:Nat} {f:Nat→Bool} (h0:∀q,q<n→f q=false):(List.range n).find? f=none:=by
 rw[List.find?_eq_none]
 intro x hx
 rw[h0 x (List.mem_range.1 hx)];decide
abbrev Stp:=Nat × Nat × Nat
inductive RunR (E:Elim):(Nat→Nat)→List Stp→(Nat→Nat)→Bool→Prop
 | stop {now:Nat→Nat} (h:stepP E now=none):RunR E now [] now false
 | lost {now:Nat→Nat} {p:Nat} (h:stepP E now=some p) (hl:E.top p<goF E now p):RunR E now [(p,now p,goF E now p - 1)] (updN now p (goF E now p)) true
 | go {now fin:Nat→Nat} {p:Nat} {st:List Stp} {l:Bool} (h:stepP E now=some p) (hl:goF E now p≤E.top p) (hr:RunR E (updN now p (goF E now p)) st fin l):RunR E now ((p,now p,goF E now p - 1) :: st) fin l
def InE (E:Elim) (now:Nat→Nat):Prop:=∀q,q<E.n→now q≤E.top q
def roomE (E:Elim) (now:Nat→Nat):Nat:=totS E.n fun q=>E.top q+1 - now q
theorem totS_lt {c c':Nat→Nat} {p:Nat} (h:∀q,q ≠ p→c' q=c q) (hp:c' p<c p):∀n,totS n c'+(if p<n then 1 else 0)≤totS n c
 | 0=>by simp [totS]
 | n+1=>by
  have:=totS_lt h hp n
  rw[totS_succ,totS_succ]
  by_cases e:n=p
  ·subst e
   rw[if_neg (by omega)] at this
   rw[if_pos (by omega)];omega
  ·rw[h n e]
   by_cases e2:p<n
   ·rw[if_pos e2] at this;rw[if_pos (by omega)];omega
   ·rw[if_neg e2] at this;rw[if_neg (by omega)];omega
theorem step_inv {E:Elim} {now:Nat→Nat} (hI:InE E now) {p:Nat} (h:stepP E now=some p) :
  p<E.n∧exB E now p (now p)=true∧(∀q,q<p→exB E now q (now q)=false)∧now p<goF E now p∧goF E now p≤E.top p+1∧(∀j,now p≤j→j<goF E now p→exB E now p j=true)∧roomE E (updN now p (goF E now p))<roomE E now:=by
 obtain⟨h1,h2,h3⟩:=find_range h
 have hle:=hI p h1
 obtain⟨a1,a2,a3,a4⟩:=nextK_spec (ex:=exB E now p) (top:=E.top p) _ (now p) rfl (by omega)
 have hlt:now p<goF E now p:=by
  unfold goF
  rw[nextK_hit hle h2]
  obtain⟨b1,_⟩:=nextK_spec (ex:=exB E now p) (top:=E.top p) _ (now p+1) rfl (by omega)
  omega
 refine⟨h1,h2,h3,hlt,a2,a3,?_⟩
 unfold roomE
 have:=totS_lt (c:=fun q=>E.top q+1 - now q) (c':=fun q=>E.top q+1 - updN now p (goF E now p) q) (p:=p) (fun q hq=>by rw[updN_ne hq]) (by rw[updN_self];omega) E.n
 rw[if_pos h1] at this
 omega
theorem inE_step {E:Elim} {now:Nat→Nat} (hI:InE E now) {p:Nat} (hl:goF E now p≤E.top p):InE E (updN now p (goF E now p)):=fun q hq=>by
 by_cases e:q=p
 ·subst e;rw[updN_self];exact hl
 ·rw[updN_ne e];exact hI q hq
theorem run_ex (E:Elim):∀(m:Nat) (now:Nat→Nat),InE E now→roomE E now≤m→∃st fin l,RunR E now st fin l:=by
 intro m
 induction m with
 | zero =>
  intro now hI hm
  cases h:stepP E now with
  | none=>exact⟨_,_,_,.stop h⟩
  | some p=>have:=(step_inv hI h).2.2.2.2.2.2;omega
 | succ m ih =>
  intro now hI hm
  cases h:stepP E now with
  | none=>exact⟨_,_,_,.stop h⟩
  | some p =>
   have h7:=(step_inv hI h).2.2.2.2.2.2
   by_cases hl:goF E now p≤E.top p
   ·obtain⟨st,fin,l,hr⟩:=ih _ (inE_step hI hl) (by omega)
    exact⟨_,_,_,.go h hl hr⟩
   ·exact⟨_,_,_,.lost h (by omega)⟩
theorem inE_zero (E:Elim):InE E fun _=>0:=fun _ _=>Nat.zero_le _
open Classical in
noncomputable def stepsF (E:Elim):List Stp:=Classical.choose (run_ex E _ _ (inE_zero E) (Nat.le_refl _))
open Classical in
noncomputable def finF (E:Elim):Nat→Nat:=Classical.choose (Classical.choose_spec (run_ex E _ _ (inE_zero E) (Nat.le_refl _)))
open Classical in
noncomputable def lostF (E:Elim):Bool:=Classical.choose (Classical.choose_spec (Classical.choose_spec (run_ex E _ _ (inE_zero E) (Nat.le_refl _))))
end Go.AL
end
section
namespace Go.AL
open Go Go.RowKit
set_option maxRecDepth 4000
section
variable {E:Elim} {p q m k:Nat}
end
theorem stC_ok {ps:List Pr} {p:Nat} {k:Int} (hp:p<ps.length) (h0:0≤k) (hk:k≤ps[p].evs.length):(stC ps.length p k).length=ps.length∧inRangeF ps (stC ps.length p k)=true:=by
 have hl:(stC ps.length p k).length=ps.length:=by unfold stC;rw[List.length_set,List.length_replicate]
 refine⟨hl,?_⟩
 rw[inRange_iff hl]
 intro q hq
 unfold cAt stC
 rw[Int.toNat_natCast,getD_set0]
 split
 ·rename_i e;obtain⟨rfl,_⟩:=e;omega
 ·rw[List.getD_eq_getElem?_getD,List.getElem?_replicate,if_pos hq]
  exact⟨Int.le_refl 0,by simp⟩
theorem ref25_Index (ps:List Pr) (hs:Sm ps) (p:Int) (hpb:isPB ps.length p=true) (s:ByteArray):PC Proofs.Tryz.prog 184 [aTr ps,ai p,astr s] (ai (varX ps p s)):=by
 obtain⟨p,rfl,hp⟩:=isPB_nat hpb
 rw[varX_get hp]
 have hm:=List.getElem_mem hp
 have hvl:=hs.vars _ hm
 have hgp:=getD_map (f:=aPr) hp
 have hhit:∀i (hi:i<ps[p].vars.length),(∀j (hj:j<ps[p].vars.length),j<i→nmB s ps[p].vars[j]=false)→nmB s ps[p].vars[i]=true→varIx ps[p].vars s=i:=by
  intro i hi h0 h1
  have:ps[p].vars.findIdx? (nmB s)=some i:=by rw[List.findIdx?_eq_some_iff_getElem];exact⟨hi,h1,fun j hj=>by simpa using h0 j (by omega) hj⟩
  unfold varIx;rw[this]
 have hno:(∀j (hj:j<ps[p].vars.length),nmB s ps[p].vars[j]=false)→varIx ps[p].vars s = -1:=by
  intro h0
  have:ps[p].vars.findIdx? (nmB s)=none:=by
   rw[List.findIdx?_eq_none_iff];intro x hx;obtain⟨i,hi,rfl⟩:=List.getElem_of_mem hx;exact h0 i hi
  unfold varIx;rw[this]
 generalize varIx ps[p].vars s=r at *
 refine PC.enter 29 [.tmp 6] [3] Proofs.Tryz.func184 rfl rfl rfl rfl rfl (by simp) (AWp.of ?_);simp only[go_sem]
 refine W1 hgp ?_
 refine AWp.block (AWp.count 8 ps[p].vars.length [] [2,7] (fun i vs L=>L=[]∧∀j (hj:j<ps[p].vars.length),j<i→nmB s ps[p].vars[j]=false) rfl rfl ⟨rfl,by omega⟩ ?_)
 rintro i vs L hi - ⟨rfl,hI⟩
 simp only[go_sem]
 refine Wk ?_
 refine⟨fun h1 => ?_,fun h1 => ?_⟩
 ·have hiv:i<ps[p].vars.length:=by omega
  have hgv:=getD_map (f:=aVar) hiv
  refine W1 hgv ?_
  refine⟨fun h2 => ?_,fun h2 => ?_⟩
  ·refine Wk ?_
   refine ret_eq ?_;simp only[go_sem]
   rw[hhit i hiv hI (decide_eq_true h2)]
  ·refine Wk ?_
   refine⟨_,List.Sublist.refl _,rfl,fun j hj hji => ?_⟩
   by_cases e:j=i
   ·subst e;exact decide_eq_false h2
   ·exact hI j hj (by omega)
 ·refine Wk ?_
  refine ret_eq ?_;simp only[go_sem]
  rw[hno fun j hj=>hI j hj (by omega)]
def leafR (ps:List Pr) (c:List Int) (o:Obs):Pd→Prop
 | .mk k _ p _ s _=>(k=2→∃ix cv:Int,PC Proofs.Tryz.prog 184 [aTr ps,ai p,astr s] (ai ix)∧PC Proofs.Tryz.prog 183 [aTr ps,ai p,ai ix,ai cv] (ai (o.var p s))∧0≤p∧c[p.toNat]?=some cv)∧(k=3→0≤p∧c[p.toNat]?=some (o.cnt p))∧(k=4→False)
theorem lcl_mk (pr k n p q:Int) (s:ByteArray) (l:List Pd):lclB pr (.mk k n p q s l)=if k=4∨(18≤k∧k≤21) then false else if k=2∨k=3 then decide (p=pr) else true:=rfl
theorem evaluate_local (pr:Int) (t:Pd):szF t≤1000000→allB locB t=true→PC Proofs.Tryz.prog 71 [ai pr,aPd t] (ab (allB (lclB pr) t)):=by
 induction t using Pd.ind with
 | _ k n p q s l ih =>
 intro hz ht
 have hsz:szF (.mk k n p q s l)=szL l+1:=by rw[szF]
 have hll:=szL_len l
 obtain⟨ht1,ht2⟩:=allB_sub ht
 obtain⟨hpl,_⟩:=loc_len ht1
 have hsp:allB (lclB pr) (.mk k n p q s l)=((if k=4∨(18≤k∧k≤21) then false else if k=2∨k=3 then decide (p=pr) else true) && l.all (allB (lclB pr))):=by rw[allB_mk,lcl_mk]
 have h1:∀x ∈ l,PV Proofs.Tryz.prog (.clo 109 [.rp 1 [ai pr] 0 0]) [aPd x] (ab (!allB (lclB pr) x)):=by
  intro x hx
  have hxi:=szL_mem hx
  have hch:=ih x hx (by omega) (ht2 x hx)
  generalize allB (lclB pr) x=b at *
  obtain⟨k2,n2,p2,q2,s2,l2⟩:=x
  refine PC.clo ?_
  simp only[aPd_mk] at *
  refine PC.enter 8 [.tmp 3] [2] Proofs.Tryz.func109 rfl rfl rfl rfl rfl (by simp) (AWp.of ?_);simp only[go_sem]
  refine Wk ?_
  refine Sd ?_
  refine(hch).val.use ?_;simp only[go_sem]
  refine Wk ?_
  refine ret_eq ?_;simp only[go_sem]
 have hc:=preds_containsFunc l (by omega) _ rfl (fun x => !allB (lclB pr) x) h1
 have hall:l.all (allB (lclB pr)) = !l.any fun x => !allB (lclB pr) x:=by rw[List.all_eq_not_any_not]
 rw[hall] at hsp
 clear h1 ih
 by_cases c1:k=4∨k=18∨k=19∨k=20∨k=21
 ·rw[if_pos (by omega),Bool.false_and] at hsp
  rw[hsp]
  clear hsp hall hc
  simp only[aPd_mk] at *
  rcases c1 with rfl|rfl|rfl|rfl|rfl
  all_goals refine PC.enter 25 [.tmp 4] [2,3] Proofs.Tryz.func71 rfl rfl rfl rfl rfl (by simp) (AWp.of ?_);simp only[go_sem]
  all_goals repeat(first|((with_reducible refine AWp.ofC ?_ ?_);exact rfl;simp only[go_sem,Int.reduceEq])|((with_reducible refine an ?_ ?_);exact Au))
  all_goals refine ret_eq ?_;simp only[go_sem]
 rw[if_neg (by omega)] at hsp
 by_cases c2:k=2∨k=3
 ·have hl0:l=[]:=by
   have:partsF k=0:=by rcases c2 with rfl|rfl <;> rfl
   exact len0 (by omega)
  subst hl0
  rw[if_pos c2] at hsp
  simp only[List.any_nil,Bool.not_false,Bool.and_true] at hsp
  rw[hsp]
  clear hsp hall hc
  simp only[aPd_mk] at *
  rcases c2 with rfl|rfl
  all_goals refine PC.enter 25 [.tmp 4] [2,3] Proofs.Tryz.func71 rfl rfl rfl rfl rfl (by simp) (AWp.of ?_);simp only[go_sem]
  all_goals repeat(first|((with_reducible refine AWp.ofC ?_ ?_);exact rfl;simp only[go_sem,Int.reduceEq])|((with_reducible refine an ?_ ?_);exact Au))
  all_goals refine ret_eq ?_;simp only[go_sem]
 rw[if_neg c2,Bool.true_and] at hsp
 rw[hsp]
 generalize (l.any fun x => !allB (lclB pr) x)=b at *
 clear hsp hall
 have a4:¬k=4:=by omega
 have a18:¬k=18:=by omega
 have a19:¬k=19:=by omega
 have a20:¬k=20:=by omega
 have a21:¬k=21:=by omega
 have a2:¬k=2:=by omega
 have a3:¬k=3:=by omega
 simp only[aPd_mk] at *
 refine PC.enter 25 [.tmp 4] [2,3] Proofs.Tryz.func71 rfl rfl rfl rfl rfl (by simp) (AWp.of ?_);simp only[go_sem]
 repeat(first|((with_reducible refine AWp.ofC ?_ ?_);exact rfl;simp only[go_sem,a2,a3,a4,a18,a19,a20,a21])|((with_reducible refine an ?_ ?_);exact Au))
 refine Sd ?_
 refine(hc).val.use ?_;simp only[go_sem]
 refine Wk ?_
 refine ret_eq ?_;simp only[go_sem]
theorem evaluate_check (ps:List Pr) (hs:Sm ps) (pr k:Int) (t:Pd) (hz:szF t≤1000000):PC Proofs.Tryz.prog 37 [aTr ps,ai pr,ai k,aPd t] (ai (lclF ps pr k t)):=by
 have h1:=predtype_Check ps hs t hz
 have h2:=fun a b=>evaluate_typed t hz a b 2
 have h3:=fun a=>evaluate_local pr t hz a
 have hl:=hs.procs
 have hel:=fun x hx=>hs.evs x hx
 have hck:checkF ps t=0→formedB t=true∧typedB t=true∧allB locB t=true:=fun h=>by
  obtain⟨_,f2,f3,_⟩:=checkF_zero h
  unfold okT at f3
  simp only[Bool.and_eq_true] at f3
  exact⟨f2,f3.2,f3.1.1⟩
 have hn1:checkF ps t=0→1≤ps.length:=fun h=>(valid_len (checkF_zero h).1).1
 have hE:lclF ps pr k t=if checkF ps t ≠ 0 then checkF ps t else if ¬(0≤pr∧pr<ps.length∧0≤k∧k≤evN ps pr) then 2 else if t.kind≤8 then 14 else if allB (lclB pr) t=false then 15 else 0:=rfl
 have hr:resF t.kind=2↔¬t.kind≤8:=by unfold resF;split <;> omega
 generalize lclF ps pr k t=E at *
 generalize checkF ps t=e at *
 generalize formedB t=f at *
 generalize typedB t=y at *
 generalize allB locB t=lb at *
 generalize allB (lclB pr) t=a at *
 generalize t.kind=kd at *
 obtain⟨k0,n,p,q,s,l⟩:=t
 simp only[aPd_mk] at *
 by_cases he:e=0
 ·subst he
  rw[if_neg (by decide)] at hE
  obtain⟨c1,c2,c3⟩:=hck rfl
  have hn1:=hn1 rfl
  have h2:=h2 c1 c2
  have h3:=h3 c3
  by_cases hp:0≤pr∧pr<ps.length
  ·obtain⟨i,rfl⟩:∃i:Nat,pr=i:=⟨pr.toNat,by omega⟩
   have hpi:i<ps.length:=by omega
   have hgp:=getD_map (f:=aPr) hpi
   rw[evN_get hpi] at hE
   have n1:¬(i:Int)<0:=by omega
   have n2:¬(ps.length:Int)≤i:=by omega
   by_cases hk:0≤k∧k≤ps[i].evs.length
   ·rw[if_neg (by omega)] at hE
    have n3:¬k<0:=by omega
    have n4:¬(ps[i].evs.length:Int)<k:=by omega
    by_cases hk8:kd≤8
    ·rw[if_pos hk8] at hE
     rw[if_neg (fun h=>hr.1 h hk8)] at h2
     refine PC.enter 50 [.tmp 8] [4,7] Proofs.Tryz.func37 rfl rfl rfl rfl rfl (by simp) (AWp.of ?_);simp only[go_sem]
     refine Wk ?_
     refine Sd ?_
     refine(h1).val.use ?_;simp only[go_sem]
     refine W5 n1 n2 n3 n4 hgp ?_
     refine Sd ?_
     refine(h2).val.use ?_;simp only[go_sem]
     repeat(first|((with_reducible refine AWp.ofC ?_ ?_);exact rfl;simp only[go_sem,Int.reduceEq])|((with_reducible refine an ?_ ?_);exact Au))
     refine ret_eq ?_;simp only[go_sem]
     rw[hE]
    rw[if_neg hk8] at hE
    rw[if_pos (hr.2 hk8)] at h2
    refine PC.enter 50 [.tmp 8] [4,7] Proofs.Tryz.func37 rfl rfl rfl rfl rfl (by simp) (AWp.of ?_);simp only[go_sem]
    refine Wk ?_
    refine Sd ?_
    refine(h1).val.use ?_;simp only[go_sem]
    refine W5 n1 n2 n3 n4 hgp ?_
    refine Sd ?_
    refine(h2).val.use ?_;simp only[go_sem]
    repeat(first|((with_reducible refine AWp.ofC ?_ ?_);exact rfl;simp only[go_sem])|((with_reducible refine an ?_ ?_);exact Au))
    refine Sd ?_
    refine(h3).val.use ?_;simp only[go_sem]
    refine Wk ?_
    refine⟨fun h5 => ?_,fun h5 => ?_⟩
    ·rw[if_pos h5] at hE
     refine Wk ?_
     refine ret_eq ?_;simp only[go_sem]
     rw[hE]
    ·rw[if_neg (by rw[h5];decide)] at hE
     refine Wk ?_
     refine ret_eq ?_;simp only[go_sem]
     rw[hE]
   ·rw[if_pos (by omega)] at hE
    refine PC.enter 50 [.tmp 8] [4,7] Proofs.Tryz.func37 rfl rfl rfl rfl rfl (by simp) (AWp.of ?_);simp only[go_sem]
    refine Wk ?_
    refine Sd ?_
    refine(h1).val.use ?_;simp only[go_sem]
    refine W3 n1 n2 hgp ?_
    refine⟨fun h5 => ?_,fun h5 => ?_⟩
    ·refine Wk ?_
     refine ret_eq ?_;simp only[go_sem]
     rw[hE]
    ·intros;omega
  ·rw[if_pos (by omega)] at hE
   by_cases hp0:pr<0
   ·have hgx:(ps.map aPr).getD pr.toNat .any=aPr (ps[0]'(by omega)):=by
     rw[show pr.toNat=0 by omega];exact getD_map (by omega)
    refine PC.enter 50 [.tmp 8] [4,7] Proofs.Tryz.func37 rfl rfl rfl rfl rfl (by simp) (AWp.of ?_);simp only[go_sem]
    refine Wk ?_
    refine Sd ?_
    refine(h1).val.use ?_;simp only[go_sem]
    refine W2 hp0 hgx ?_
    refine ret_eq ?_;simp only[go_sem]
    rw[hE]
   ·have hp1:(ps.length:Int)≤pr:=by omega
    have hgx:(ps.map aPr).getD pr.toNat .any = .any:=by
     rw[List.getD_eq_getElem?_getD,List.getElem?_eq_none (by rw[List.length_map];omega)];rfl
    refine PC.enter 50 [.tmp 8] [4,7] Proofs.Tryz.func37 rfl rfl rfl rfl rfl (by simp) (AWp.of ?_);simp only[go_sem]
    refine Wk ?_
    refine Sd ?_
    refine(h1).val.use ?_;simp only[go_sem]
    repeat(first|((with_reducible refine AWp.ofC ?_ ?_);exact rfl;simp only[go_sem,hp0,hp1,hgx,List.getD_nil])|((with_reducible refine an ?_ ?_);exact Au))
    refine ret_eq ?_;simp only[go_sem]
    rw[hE]
 ·rw[if_pos he] at hE
  refine PC.enter 50 [.tmp 8] [4,7] Proofs.Tryz.func37 rfl rfl rfl rfl rfl (by simp) (AWp.of ?_);simp only[go_sem]
  refine Wk ?_
  refine Sd ?_
  refine(h1).val.use ?_;simp only[go_sem]
  refine W1 he ?_
  refine ret_eq ?_;simp only[go_sem]
  rw[hE]
theorem stC_len (n p:Nat) (k:Int):(stC n p k).length=n:=by unfold stC;rw[List.length_set,List.length_replicate]
theorem stC_get {n p:Nat} {k:Int} (hp:p<n):(stC n p k).getD p 0=k:=by
 unfold stC;rw[List.getD_eq_getElem?_getD,List.getElem?_set_self (by simpa using hp)];rfl
theorem stC_get? {n p:Nat} {k:Int} (hp:p<n):(stC n p k)[p]?=some k:=by
 unfold stC;rw[List.getElem?_set_self (by simpa using hp)]
def stV (n p:Nat) (st:List Int):List (List Int):=(List.replicate n []).set p st
theorem stV_len (n p:Nat) (st:List Int):(stV n p st).length=n:=by unfold stV;rw[List.length_set,List.length_replicate]
theorem stV_get {n p:Nat} {st:List Int} (hp:p<(stV n p st).length):(stV n p st)[p]=st:=by simp [stV]
theorem st_leaf (ps:List Pr) (hs:Sm ps) (hv:validF ps=true) (p k:Nat) (hp:p<ps.length) (hk:k≤ps[p].evs.length) (t:Pd) (hr:allB (resB ps) t=true) (hn:allB (lclB p) t=true) :
  AllP (leafOk ps (stC ps.length p k) (stV ps.length p (stateAt ps[p] k)) (stO ps p k)) t∧AllP (obsB ps (stO ps p k)) t∧AllP (leafR ps (stC ps.length p k) (stO ps p k)) t:=by
 have hb:=allB_and t hr hn
 have hvar:∀s,(stO ps p k).var p s=(stateAt ps[p] k).getD (varIx ps[p].vars s).toNat 0:=fun s=>by
  unfold stO cutO;simp only[Int.toNat_natCast,List.getElem?_eq_getElem hp,stC_get hp]
 have hcnt:(stO ps p k).cnt p=k:=by
  unfold stO cutO;simp only[Int.toNat_natCast,stC_get hp]
 have hx:∀x:Pd,andB (resB ps) (lclB p) x=true→∀kk n pr q s l,x = .mk kk n pr q s l→((kk=2∨kk=3)→pr=p)∧kk ≠ 4∧(kk=2→knownB ps pr s=true):=fun x h kk n pr q s l e=>by
  subst e
  unfold andB at h
  rw[Bool.and_eq_true] at h
  have h2:=h.2
  rw[lcl_mk] at h2
  have n4:¬(kk=4∨(18≤kk∧kk≤21)):=fun h=>by rw[if_pos h] at h2;cases h2
  rw[if_neg n4] at h2
  refine⟨fun e => ?_,by omega,fun e=>((res_leaf h.1).1 e).2⟩
  rw[if_pos e] at h2
  simpa using h2
 refine⟨AllP_of_allB (fun x h => ?_) t hb,AllP_of_allB (fun x h => ?_) t hb,AllP_of_allB (fun x h => ?_) t hb⟩
 ·obtain⟨kk,n,pr,q,s,l⟩:=x
  obtain⟨g1,g2,g3⟩:=hx _ h _ _ _ _ _ _ rfl
  refine⟨fun e => ?_,fun e => ?_,fun e=>absurd e g2⟩
  ·obtain rfl:=g1 (.inl e)
   have hV:p<(stV ps.length p (stateAt ps[p] k)).length:=by rw[stV_len];exact hp
   have h:=view_variable ps hs (stC ps.length p k) (stV ps.length p (stateAt ps[p] k)) kk n p q s l hp (g3 e) hV (by rw[stV_get hV,stateAt_length])
   rw[stV_get hV] at h
   rw[hvar];exact h
  ·obtain rfl:=g1 (.inr e)
   exact⟨by omega,by rw[hcnt,Int.toNat_natCast,stC_get? hp]⟩
 ·obtain⟨kk,n,pr,q,s,l⟩:=x
  obtain⟨g1,g2,g3⟩:=hx _ h _ _ _ _ _ _ rfl
  refine⟨fun e => ?_,fun e => ?_,fun e=>absurd e g2⟩
  ·obtain rfl:=g1 (.inl e)
   have hm:=valsF_mem ps[p] (varIx ps[p].vars s).toNat (k:=k) hk
   rw[hvar]
   unfold varLo varHi
   simp only[Int.toNat_natCast,List.getElem?_eq_getElem hp]
   exact⟨minL_le hm,le_maxL hm⟩
  ·obtain rfl:=g1 (.inr e)
   rw[hcnt,evN_get hp]
   exact⟨by omega,by omega⟩
 ·obtain⟨kk,n,pr,q,s,l⟩:=x
  obtain⟨g1,g2,g3⟩:=hx _ h _ _ _ _ _ _ rfl
  refine⟨fun e => ?_,fun e => ?_,g2⟩
  ·obtain rfl:=g1 (.inl e)
   have hpb:isPB ps.length p=true:=by unfold isPB;simp;omega
   have h1:=ref25_Index ps hs p hpb s
   rw[varX_get hp] at h1
   obtain⟨i,hi,hil⟩:=known_ix (known_get hp (g3 e))
   have h2:=ref25_Value ps hs p hp i hil k hk (asg_of_valid hv p hp) (dis_of_valid hv p hp)
   rw[hi] at h1
   refine⟨_,_,h1,?_,by omega,by rw[Int.toNat_natCast,stC_get? hp]⟩
   rw[hvar,hi,Int.toNat_natCast,List.getD_eq_getElem?_getD,List.getElem?_eq_getElem (by rw[stateAt_length];exact hil)]
   exact h2
  ·obtain rfl:=g1 (.inr e)
   exact⟨by omega,by rw[hcnt,Int.toNat_natCast,stC_get? hp]⟩
theorem variable_State (ps:List Pr) (hs:Sm ps) (hv:validF ps=true) (p k:Nat) (hp:p<ps.length) (hk:k≤ps[p].evs.length):PC Proofs.Tryz.prog 72 [aTr ps,ai p,ai k] (.tup [aInts (stateAt ps[p] k),ai 0]):=by
 have hm:=List.getElem_mem hp
 have h1:=trace_Valid ps hs
 rw[hv] at h1
 have h2:=variable_state ps[p] (hs.vars _ hm) (hs.evs _ hm) (hs.asg _ hm) (asg_of_valid hv p hp) k hk
 have hl:=hs.procs
 have hel:=hs.evs _ hm
 have hgp:=getD_map (f:=aPr) hp
 have n1:¬(p:Int)<0:=by omega
 have n2:¬(ps.length:Int)≤p:=by omega
 have n3:¬(k:Int)<0:=by omega
 have n4:¬(ps[p].evs.length:Int)<k:=by omega
 generalize stateAt ps[p] k=S at *
 refine PC.enter 44 [.tmp 6,.tmp 7] [3] Proofs.Tryz.func72 rfl rfl rfl rfl rfl (by simp) (AWp.of ?_);simp only[go_sem]
 refine Wk ?_
 refine Sd ?_
 refine(h1).val.use ?_;simp only[go_sem]
 refine W5 n1 n2 n3 n4 hgp ?_
 refine Sd ?_
 refine(h2).val.use ?_;simp only[go_sem]
 refine Wk ?_
 refine ret_eq ?_;simp only[go_sem]
theorem lcl_ntm {p:Int} (t:Pd):allB (lclB p) t=true→allB ntmB t=true:=by
 induction t using Pd.ind with
 | _ k n pr q s l ih =>
 intro h
 obtain⟨h1,h2⟩:=allB_sub h
 rw[allB_mk,Bool.and_eq_true,List.all_eq_true]
 refine⟨?_,fun x hx=>ih x hx (h2 x hx)⟩
 rw[lcl_mk] at h1
 unfold ntmB tempB
 split at h1
 ·cases h1
 ·rename_i h;simp;omega
theorem lcl_ok {ps:List Pr} {p:Nat} {k:Int} {t:Pd} (h:lclF ps p k t=0):checkF ps t=0∧p<ps.length∧0≤k∧k≤evN ps p∧9≤t.kind∧allB (lclB p) t=true:=by
 unfold lclF at h
 split at h
 ·rename_i h1;exact absurd h h1
 ·rename_i h1
  split at h
  ·cases h
  ·rename_i h2
   split at h
   ·cases h
   ·rename_i h3
    split at h
    ·cases h
    ·rename_i h4
     exact⟨by simpa using h1,by omega,by omega,by omega,by omega,by simpa using h4⟩
theorem evaluate_inState (ps:List Pr) (hs:Sm ps) (p k:Nat) (hp:p<ps.length) (hk:k≤ps[p].evs.length) (t:Pd) (hz:szF t≤1000000) (hc:checkF ps t=0) (h9:9≤t.kind) (hl:allB (lclB p) t=true) :
  PC Proofs.Tryz.prog 38 [aTr ps,ai p,ai k,aPd t] (ab (lclT ps p t k)):=by
 obtain⟨hv,_,hok,hfit⟩:=checkF_zero hc
 have hok':=hok
 unfold okT at hok'
 simp only[Bool.and_eq_true] at hok'
 obtain⟨l1,l2,_⟩:=st_leaf ps hs hv p k hp hk t hok'.1.2 hl
 have hn:=hs.procs
 have h1:=view_truth ps (stC ps.length p k) (stV ps.length p (stateAt ps[p] k)) (stO ps p k) (by rw[stC_len];omega) t hz hok h9 hfit (lcl_ntm t hl) l2 l1
 have h2:=variable_State ps hs hv p k hp hk
 unfold lclT
 generalize truF (stO ps p k) t=b at *
 obtain⟨kk,n,pr,q,s,l⟩:=t
 have hC:(stC ps.length p k).map ai=(List.replicate ps.length (ai 0)).set p (ai k):=by unfold stC;rw[List.map_set,List.map_replicate]
 have hTr:aTr ps = .agg [aPrs ps]:=rfl
 generalize hS:stateAt ps[p] k=S at *
 simp only[aPd_mk] at *
 refine PC.enter 39 [.tmp 8] [4,7,9] Proofs.Tryz.func38 rfl rfl rfl rfl rfl (by simp) (AWp.of ?_);simp only[go_sem]
 refine Wk ?_
 refine AWp.cut [1,2,4,7,9] (fun vs L=>∃bc bv,L.Perm [(bv,.row 43 1 (List.replicate ps.length anil) ps.length),(bc,.row 3 1 (List.replicate ps.length (ai 0)) ps.length)] ∧
  vs=[ai p,ai k,.rp 1 [aTr ps] 0 0,.rp 6 [.agg [ai kk,ai n,ai pr,ai q,astr s,.sl 6 (l.map aPd)]] 0 0,.rp 3 [.agg [aPrs ps,.ls bc 1 0 ps.length ps.length,.ls bv 1 0 ps.length ps.length]] 0 0]) ?_ ?_
 ·repeat(first|(with_reducible refine AWp.seq ?_)|(with_reducible refine AWp.block ?_))
  refine AWp.mix mixed [0,1,2,3,5,6,7] (.step 4 (.step 8 (.step 9 (.step 10 (.step 11 .done .done) .done) (.step 10 (.step 9 (.step 11 .done .done) .done) .done)) (.step 10 (.step 8 (.step 9 (.step 11 .done .done) .done) .done) .done)) (.step 8 (.step 4 (.step 9 (.step 10 (.step 11 .done .done) .done) (.step 10 (.step 9 (.step 11 .done .done) .done) .done)) (.step 10 (.step 4 (.step 9 (.step 11 .done .done) .done) .done) .done)) (.step 10 (.step 4 (.step 8 (.step 9 (.step 11 .done .done) .done) .done) (.step 8 (.step 4 (.step 9 (.step 11 .done .done) .done) .done) .done)) .done))) (by kernel_rfl) ?_;simp only[go_sem]
  repeat' (first|(with_reducible refine And.intro ?_ ?_)|intro _)
  all_goals first|omega|skip
  all_goals ((repeat rw[if_neg (by omega)]);(try simp only[go_sem]))
  all_goals (repeat' (first|(with_reducible refine And.intro ?_ ?_)|intro _))
  all_goals first|omega|exact⟨_,List.Sublist.refl _,_,_,.refl _,rfl⟩|exact⟨_,List.Sublist.refl _,_,_,.swap _ _ _,rfl⟩
 ·rintro vs L - ⟨bc,bv,hP,rfl⟩
  refine AWp.perm hP (AWp.nodup fun hnd => ?_)
  have n1:¬bv=bc:=by simpa using hnd
  have n2:¬bc=bv:=fun e=>n1 e.symm
  have hg0:(List.replicate ps.length (ai 0)).getD p .any=ai 0:=by rw[List.getD_eq_getElem?_getD,List.getElem?_replicate,if_pos hp];rfl
  have hg1:(List.replicate ps.length anil).getD p .any=anil:=by rw[List.getD_eq_getElem?_getD,List.getElem?_replicate,if_pos hp];rfl
  simp only[go_sem]
  refine Sd ?_
  refine AWp.of ?_;simp only[go_sem,n2,hg0,List.length_replicate]
  refine Sd ?_
  rw[← hC]
  refine AWp.seq ?_
  repeat(first|(with_reducible refine AWp.seq ?_)|(with_reducible refine AWp.block ?_))
  refine AWp.mix mixed [0,1,2,3,4,5,6,7,8,9] (.step 10 (.step 11 .done .done) .done) (by kernel_rfl) ?_;simp only[go_sem]
  refine Sd ?_
  refine GCall.use (.tup [aInts S,ai 0]) (fun _=>⟨At,(h2).val.use ⟨rfl,rfl⟩⟩) ?_;simp only[go_sem,n1,hg1]
  refine Sd ?_
  refine AWp.view [true,true] [(9,.rp 3 [aView ps (stC ps.length p k) (stV ps.length p S)] 0 0)] (LVw.refl _) (fun x hx => ?_) ?_
  ·simp only[List.mem_singleton] at hx
   subst hx
   simp only[go_sem,pickT]
   refine .rp rfl (Vws.cons (.mkAgg (Vws.cons (.refl _) (Vws.cons (Vw.ofLs (t:=3) (cap:=ps.length) (by simp [lk,n2]) (by rw[List.length_map,stC_len])) (Vws.cons ?_ .nil)))) .nil).2
   refine .ls (t:=43) (xs:=(List.replicate ps.length anil).set p (aInts S)) (cap:=ps.length) (by simp [lk,aInts]) (by simp) (by simp [stV]) fun i x y hx hy => ?_
   rw[List.drop_zero,List.take_of_length_le (by simp),List.getElem?_set] at hx
   unfold stV at hy
   rw[List.map_set,List.getElem?_set] at hy
   by_cases e:p=i
   ·subst e
    simp [hp] at hx hy
    subst hx;subst hy;exact .refl _
   ·rw[if_neg e,List.getElem?_replicate] at hx
    rw[if_neg e,List.getElem?_map,List.getElem?_replicate] at hy
    by_cases h5:i<ps.length
    ·rw[if_pos h5] at hx hy
     cases hx;cases hy
     exact .nil 1
    ·rw[if_neg h5] at hx;cases hx
  ·simp only[go_sem,pickF]
   refine Wk ?_
   refine Sd ?_
   refine(h1).val.use ?_;simp only[go_sem]
   refine Wk ?_
   refine ret_eq ?_;simp only[go_sem]
theorem truthsF_nat {ps:List Pr} {p:Nat} (hp:p<ps.length) (t:Pd):truthsF ps p t=(List.range (ps[p].evs.length+1)).map fun (k:Nat)=>lclT ps p t k:=by
 unfold truthsF;rw[evN_get hp,Int.toNat_natCast]
noncomputable def aTruths (ps:List Pr) (p:Int) (t:Pd):AV:=if lclF ps p 0 t=0 then .tup [.sl 1 ((truthsF ps p.toNat t).map ab),ai 0] else .tup [.sl 1 [],ai (lclF ps p 0 t)]
theorem evaluate_Truths (ps:List Pr) (hs:Sm ps) (p:Int) (t:Pd) (hz:szF t≤1000000):PC Proofs.Tryz.prog 10 [aTr ps,ai p,aPd t] (aTruths ps p t):=by
 have h1:=evaluate_check ps hs p 0 t hz
 have hl:=hs.procs
 unfold aTruths
 by_cases he:lclF ps p 0 t=0
 ·rw[if_pos he]
  rw[he] at h1
  have hp0:0≤p:=by
   unfold lclF at he
   split at he
   ·rename_i h;exact absurd he h
   ·split at he
    ·cases he
    ·rename_i h;omega
  obtain⟨i,rfl⟩:∃i:Nat,p=i:=⟨p.toNat,by omega⟩
  rw[Int.toNat_natCast]
  obtain⟨hc,hp,_,_,h9,hlc⟩:=lcl_ok he
  have hel:=hs.evs _ (List.getElem_mem hp)
  have hgp:=getD_map (f:=aPr) hp
  have hst:=fun (k:Nat) hk=>evaluate_inState ps hs i k hp hk t hz hc h9 hlc
  rw[truthsF_nat hp,List.map_map]
  have hy:∀k,((List.range k).map fun (k:Nat)=>ab (lclT ps i t k)).length=k:=fun k=>by simp
  have hys:∀k,((List.range (k+1)).map fun (k:Nat)=>ab (lclT ps i t k))=((List.range k).map fun (k:Nat)=>ab (lclT ps i t k)) ++ [ab (lclT ps i t k)]:=fun k=>by rw[List.range_succ,List.map_append];rfl
  have hfin:(List.range (ps[i].evs.length+1)).map (ab ∘ fun (k:Nat)=>lclT ps i t k)=(List.range (ps[i].evs.length+1)).map fun (k:Nat)=>ab (lclT ps i t k):=rfl
  rw[hfin]
  obtain⟨k0,n,pp,q,s,l⟩:=t
  simp only[aPd_mk] at *
  generalize hY:(fun k:Nat=>(List.range k).map fun (j:Nat)=>ab (lclT ps i (.mk k0 n pp q s l) j))=Y at *
  have hYk:∀k,((List.range k).map fun (j:Nat)=>ab (lclT ps i (.mk k0 n pp q s l) j))=Y k:=fun k=>by rw[← hY]
  simp only[hYk] at hy hys ⊢
  refine PC.enter 39 [.tmp 6,.tmp 7] [3,5,35] Proofs.Tryz.func10 rfl rfl rfl rfl rfl (by simp) (AWp.of ?_);simp only[go_sem]
  refine Wk ?_
  refine Sd ?_
  refine(h1).val.use ?_;simp only[go_sem]
  refine W1 hgp ?_
  refine AWp.range' (ps[i].evs.length+1) [9] [1,3,5,25] (fun k vs L=>∃v,vs=[v]∧AppSt 4 1 (Y k) v L) (by omega) rfl rfl rfl ⟨anil,rfl,by rw[← hY];exact .nil⟩ ?_ ?_
  ·rintro k vs L' hk - ⟨v,rfl,hA⟩
   have hyl:=hy k
   have hst:=hst k (by omega)
   rw[hys k]
   have hfo:=hA.fo
   generalize Y k=ys at *
   generalize lclT ps i (.mk k0 n pp q s l) k=b at *
   rcases hA.inv with ⟨e1,rfl,rfl⟩|⟨b',cap,rfl,rfl⟩
   ·simp only[go_sem]
    refine Wk ?_
    refine Sd ?_
    refine(hst).val.use ?_;simp only[go_sem]
    refine Sd ?_
    intro b' cap' _
    refine⟨_,List.Sublist.refl _,_,rfl,?_⟩
    rw[e1]
    exact .row _ _ _
   ·simp only[go_sem]
    refine Wk ?_
    refine Sd ?_
    refine(hst).val.use ?_;simp only[go_sem]
    refine Sd ?_
    intro b' cap' _
    refine⟨_,List.Sublist.refl _,_,rfl,?_⟩
    have:=AppSt.row (t:=4) (k:=1) b' (ys ++ [ab b]) cap'
    simpa using this
  ·rintro vs L' - ⟨v,rfl,hA⟩
   have hyl:=hy (ps[i].evs.length+1)
   generalize Y (ps[i].evs.length+1)=ys at *
   simp only[go_sem]
   rcases hA.inv with ⟨e1,rfl,rfl⟩|⟨b,cap,rfl,rfl⟩
   ·rw[e1] at hyl;simp at hyl
   ·refine Wk ?_
    refine ret_view [true] ?_;simp only[go_sem]
    exact .mkTup (Vws.cons (Vw.ofLs (if_pos rfl) rfl) (Vws.refl _))
 ·rw[if_neg he]
  generalize lclF ps p 0 t=e at *
  obtain⟨k0,n,pp,q,s,l⟩:=t
  simp only[aPd_mk] at *
  refine PC.enter 39 [.tmp 6,.tmp 7] [3,5,35] Proofs.Tryz.func10 rfl rfl rfl rfl rfl (by simp) (AWp.of ?_);simp only[go_sem]
  refine Wk ?_
  refine Sd ?_
  refine(h1).val.use ?_;simp only[go_sem]
  refine W1 he ?_
  refine ret_view [] ?_;simp only[go_sem]
  exact .mkTup (Vws.cons (.nil 1) (Vws.refl _))
noncomputable def elimOf (ps:List Pr) (ts:List Pd):Elim where
 n:=ps.length
 top:=nev ps
 ok:=fun p k=>match ts[p]? with|some t=>lclT ps p t k|none=>true
 need:=fun q k p=>cAt (closeF ps (stC ps.length q k)) p
def aStp (s:Stp):AV:=.agg [ai s.1,ai s.2.1,ai s.2.2]
def lclAt (z:Int→Pd→Int) (ts:List Pd) (p:Nat):Int:=match ts[p]? with|some t=>z p t|none=>0
noncomputable def conF (ps:List Pr) (ts:List Pd):Int :=
 if validF ps=true∧ts.length=ps.length then match (List.range ts.length).find? (fun p=>decide (lclAt (fun p t=>lclF ps p 0 t) ts p ≠ 0)) with|some p=>lclAt (fun p t=>lclF ps p 0 t) ts p|none=>0 else 1
theorem conF_bad {ps:List Pr} {ts:List Pd} (h:¬(validF ps=true∧ts.length=ps.length)):conF ps ts=1:=by unfold conF;rw[if_neg h]
theorem conF_hit {ps:List Pr} {ts:List Pd} (h:validF ps=true∧ts.length=ps.length) {p:Nat} (hp:p<ts.length) (h0:∀q (hq:q<ts.length),q<p→lclF ps q 0 ts[q]=0) (h1:lclF ps p 0 ts[p] ≠ 0):conF ps ts=lclF ps p 0 ts[p]:=by
 have e:∀q (hq:q<ts.length),lclAt (fun p t=>lclF ps p 0 t) ts q=lclF ps q 0 ts[q]:=fun q hq=>by unfold lclAt;rw[List.getElem?_eq_getElem hq]
 unfold conF
 rw[if_pos h,find_range_of hp (by rw[e p hp];exact decide_eq_true h1) fun q hq=>by rw[e q (by omega),h0 q (by omega) hq];rfl]
 exact e p hp
theorem conF_zero {ps:List Pr} {ts:List Pd} (h:validF ps=true∧ts.length=ps.length) (h0:∀q (hq:q<ts.length),lclF ps q 0 ts[q]=0):conF ps ts=0:=by
 have e:∀q (hq:q<ts.length),lclAt (fun p t=>lclF ps p 0 t) ts q=lclF ps q 0 ts[q]:=fun q hq=>by unfold lclAt;rw[List.getElem?_eq_getElem hq]
 unfold conF
 rw[if_pos h,find_range_no fun q hq=>by rw[e q hq,h0 q hq];rfl]
theorem conF_inv {ps:List Pr} {ts:List Pd} (h:conF ps ts=0):validF ps=true∧ts.length=ps.length∧∀q (hq:q<ts.length),lclF ps q 0 ts[q]=0:=by
 by_cases h1:validF ps=true∧ts.length=ps.length
 ·refine⟨h1.1,h1.2,fun q hq => ?_⟩
  have e:∀q (hq:q<ts.length),lclAt (fun p t=>lclF ps p 0 t) ts q=lclF ps q 0 ts[q]:=fun q hq=>by unfold lclAt;rw[List.getElem?_eq_getElem hq]
  unfold conF at h
  rw[if_pos h1] at h
  cases hf:(List.range ts.length).find? (fun p=>decide (lclAt (fun p t=>lclF ps p 0 t) ts p ≠ 0)) with
  | some p =>
   rw[hf] at h
   have:=(find_range hf).2.1
   have h:lclAt (fun p t=>lclF ps p 0 t) ts p=0:=h
   rw[h] at this;simp at this
  | none =>
   have:=find_range_none hf q hq
   rw[e q hq] at this
   simpa using this
 ·rw[conF_bad h1] at h;cases h
theorem AWp.only {C:Cfg} {cd:Code} {Q:AQ} {ρ:Env} {L:AHeap} (ks:List Nat) (h:AWp C cd Q (ks.zip (ks.map (get ρ))) L):AWp C cd Q ρ L :=
 AWp.st (fun _w0 _M _A0 _a _w hh=>st_forget hh (get_zip ks ρ)) h
def aSp (s:Int × Int × Int):AV:=.agg [ai s.1,ai s.2.1,ai s.2.2]
def aSps (l:List (Int × Int × Int)):AV:=.sl 3 (l.map aSp)
def stpI (s:Stp):Int × Int × Int:=(s.1,s.2.1,s.2.2)
structure SatD (ps:List Pr) (E:Elim) (d:List Int):Prop where
 len:d.length=ps.length
 rng:inRangeF ps d=true
 clo:closedF ps d=true
 ok:∀p,p<ps.length→E.ok p (cAt d p).toNat=true
theorem stC_cAt {n p q:Nat} {k:Int} (hq:q<n):cAt (stC n p k) q=if p=q then k else 0:=by
 rw[cAt_nat (by rw[stC_len];exact hq)]
 unfold stC
 rw[List.getElem_set,List.getElem_replicate]
theorem need_le {ps:List Pr} (hv:validF ps=true) {d:List Int} (hd:d.length=ps.length) (hr:inRangeF ps d=true) (hcl:closedF ps d=true) {q k:Nat} (hq:q<ps.length) (hk:(k:Int)≤cAt d q):∀p,p<ps.length→cAt (closeF ps (stC ps.length q k)) p≤cAt d p:=by
 have h0:=(inRange_iff hd).1 hr
 obtain⟨a1,a2⟩:=stC_ok (k:=(k:Int)) hq (by omega) (by have:=(h0 q hq).2;omega)
 refine closeF_least hv hd hcl a1 a2 fun p hp => ?_
 rw[stC_cAt hp]
 split
 ·rename_i e;subst e;exact hk
 ·exact(h0 p hp).1
theorem peer_ne {ps:List Pr} (hv:validF ps=true) {p:Nat} (hp:p<ps.length) {i:Nat} (hi:i<ps[p].evs.length) (hk:ps[p].evs[i].kind=3):ps[p].evs[i].peer.toNat ≠ p:=by
 have h:=(evF_parts hp hi).1 (evF_of_valid hv hp hi)
 have h:=h.1
 unfold formedI at h
 rw[if_neg (by omega),if_pos (.inr hk)] at h
 simp only[Bool.and_eq_true,Bool.not_eq_true',decide_eq_false_iff_not] at h
 have h0:=h.1.1
 unfold inI at h0
 simp only[Bool.and_eq_true,decide_eq_true_eq] at h0
 intro e
 exact h.1.2 (by omega)
section
variable {ps:List Pr} {E:Elim}
end
end Go.AL
end
section
namespace Go.AL
open Go Go.RowKit Go.ChangeShapes Go.WideShapes Go.ChangeAt
theorem Fr.below {W W':World} (h:Fr W (keysOf []) W'):Below W.heap.size W W':=⟨h.os,h.tape,h.output,h.size,fun k hk=>h.block k hk (by rintro⟨x,hx,_⟩;cases hx)⟩
theorem LRel.empty (W:World) (hg:∀g x,GV g=some x→Rel W (fun b=>b<W.heap.size) x (.pointer (some ⟨g,0,none⟩))):LRel W (fun b=>b<W.heap.size) []:=⟨fun _ h=>h,(by intro x hx;cases hx),List.nodup_nil,(by intro x hx;cases hx),hg⟩
theorem PC.calls {P:Program} {f:FuncId} {args:List AV} {x:Value} (h:PC P f args (.v x)) {W:World} {vs:List Value} (hg:∀g x,GV g=some x→Rel W (fun b=>b<W.heap.size) x (.pointer (some ⟨g,0,none⟩))) (hr:Rels W (fun b=>b<W.heap.size) args vs) :
  Calls P f vs.toArray W fun e W'=>e = .returned x∧Below W.heap.size W W' :=
 ((h.2 0 W _ vs (LRel.empty W hg) hr).calls (fun _ d hd=>by cases hd)).mono fun e W' ⟨v,r,L',A',he,⟨hr,_⟩,hf,_,_,_,hv⟩=>by
  subst he hr
  cases hv
  exact⟨rfl,hf.below⟩
def Rd {H:Type} (enc:TypeId × Value→H) (P:Program) (W:World) (t:TypeId) (k:Nat) {α:Type} (E:α→AV) (ok:α→Prop):Prop :=
 ∀fuel cs x,DataW.trod enc P W 0 (fun _=>true) true fuel t cs=some x→∃y,ok y∧elOk k (E y)∧cs.length=k∧∀(i:Nat) c u,(E y).cells[i]?=some c→cs[i]?=some u→Rel W (fun b=>b<W.heap.size) c u
section
variable {H:Type} {enc:TypeId × Value→H} {P:Program} {W:World} {t:TypeId}
theorem Rd.int (ht:P.underlying t=some (.int .i64)):Rd enc P W t 1 ai (fun n=>(Lit.int .i64 n).wf=true):=by
 intro fuel cs x h
 obtain⟨n,rfl,_,hw⟩:=DataW.trod_int ht h
 refine⟨n,hw,⟨rfl,rfl⟩,rfl,fun i c u h1 h2 => ?_⟩
 cases i with
 | zero=>cases h1;cases h2;exact .v _
 | succ i=>cases h2
theorem Rd.str (ht:P.underlying t=some .string):Rd enc P W t 1 (fun s => .v (.string s)) (fun _=>True):=by
 intro fuel cs x h
 obtain⟨s,rfl,_,hw⟩:=DataW.trod_string ht h
 refine⟨s,trivial,⟨rfl,rfl⟩,rfl,fun i c u h1 h2 => ?_⟩
 cases i with
 | zero=>cases h1;cases h2;exact .v _
 | succ i=>cases h2
theorem ofFin {α:Type} {len:Nat} {Q:Nat→α→Prop} (h:∀i,i<len→∃y,Q i y):∃l:List α,l.length=len∧∀(i:Nat) (hi:i<l.length),Q i l[i]:=by
 refine⟨List.ofFn fun i:Fin len=>Classical.choose (h i i.2),List.length_ofFn,fun i hi => ?_⟩
 rw[List.getElem_ofFn]
 exact Classical.choose_spec (h i (by simpa using hi))
theorem add_none (b off n:Nat):(⟨b,off,none⟩:Addr).add n=⟨b,off+n,none⟩:=by
 unfold Addr.add;split
 ·rename_i h;rw[h];rfl
 ·rfl
theorem Rd.slice {α:Type} {E:α→AV} {ok:α→Prop} {e:TypeId} {k:Nat} (ht:P.underlying t=some (.slice e)) (hk:P.cellsOf e=k) (h0:0<k) (he:Rd enc P W e k E ok) :
  Rd enc P W t 1 (fun l:List α => .sl k (l.map E)) (fun l=>l.length≤maxLen∧∀y ∈ l,ok y):=by
 intro fuel cs x h
 rcases DataW.trod_slice ht h with ⟨rfl,_⟩|⟨a,len,cap,elems,rest,n,_,rfl,_,_,hl,hm,hlen,hel,_,_⟩
 ·refine⟨[],⟨by simp,by simp⟩,⟨rfl,rfl⟩,rfl,fun i c u h1 h2 => ?_⟩
  cases i with
  | zero=>cases h1;cases h2;exact .sl0 k none 0 (by simp)
  | succ i=>cases h2
 ·rw[hk] at hel
  obtain⟨l,hll,hli⟩:=ofFin (len:=len) (Q:=fun i y=>∃cs:List Value,ok y∧elOk k (E y)∧cs.length=k∧(∀m,m<k→W.cell? ((a.add (i * k)).add m)=cs[m]?)∧∀(m:Nat) c u,(E y).cells[m]?=some c→cs[m]?=some u→Rel W (fun b=>b<W.heap.size) c u) fun i hi=>by
   have h1:=hel i hi
   rw[List.getElem?_eq_getElem (by omega),Option.bind_eq_some_iff] at h1
   obtain⟨cs,hc,ht⟩:=h1
   obtain⟨y,k1,k2,k3,k4⟩:=he _ _ _ ht
   exact⟨y,cs,k1,k2,k3,(World.cells?_some hc).2.2,k4⟩
  refine⟨l,⟨by omega,fun y hy => ?_⟩,⟨rfl,rfl⟩,rfl,fun i c u h1 h2 => ?_⟩
  ·obtain⟨i,hi,rfl⟩:=List.getElem_of_mem hy
   obtain⟨_,h,_⟩:=hli i (by omega);exact h
  ·cases i with
   | succ i=>cases h2
   | zero =>
    cases h1;cases h2
    by_cases hz:len=0
    ·subst hz
     rw[List.length_eq_zero_iff.1 hll]
     exact .sl0 k _ cap hm
    ·obtain⟨b,off,spot⟩:=a
     obtain⟨cs0,_,_,c3,c4,_⟩:=hli 0 (by omega)
     have hs:spot=none:=by
      have:=c4 0 h0
      have e0:∀a:Addr,a.add 0=a:=fun _=>rfl
      rw[Nat.zero_mul,e0,e0,List.getElem?_eq_getElem (by omega)] at this
      cases spot with
      | none=>rfl
      | some s =>
       exfalso
       unfold World.cell? at this
       split at this
       ·rw[if_pos (show (some s).isSome=true from rfl)] at this;cases this
       ·cases this
     subst hs
     have cell:∀(i:Nat) (hi:i<len) (m:Nat),m<k→∃u,W.cell? ⟨b,off+(i * k+m),none⟩=some u∧∀c,(E (l[i]'(by omega))).cells[m]?=some c→Rel W (fun b=>b<W.heap.size) c u:=fun i hi m hm=>by
      obtain⟨cs,_,_,c3,c4,c5⟩:=hli i (by omega)
      have:=c4 m hm
      rw[add_none,add_none,Nat.add_assoc,List.getElem?_eq_getElem (by omega)] at this
      exact⟨_,this,fun c hc=>c5 m c _ hc (List.getElem?_eq_getElem (by omega))⟩
     have hA:b<W.heap.size:=by
      obtain⟨u,hu,_⟩:=cell 0 (by omega) 0 h0
      unfold World.cell? at hu
      cases hb:W.heap[b]? with
      | none=>simp [hb] at hu
      | some o=>exact(Array.getElem?_eq_some_iff.1 hb).1
     have:=Rel.sl (w:=W) (A:=fun b=>b<W.heap.size) k (l.map E) b off cap (fun j=>(W.cell? ⟨b,off+j,none⟩).getD undef) hA (by rw[List.length_map];omega) hm
      (fun x hx=>by
       obtain⟨y,hy,rfl⟩:=List.mem_map.1 hx
       obtain⟨i,hi,rfl⟩:=List.getElem_of_mem hy
       obtain⟨cs,_,c2,_⟩:=hli i (by omega)
       exact c2)
      (fun j hj=>by
       rw[List.length_map,hll] at hj
       have h1:j / k<len:=(Nat.div_lt_iff_lt_mul h0).2 hj
       obtain⟨u,hu,_⟩:=cell (j / k) h1 (j % k) (Nat.mod_lt _ h0)
       have e:j / k * k+j % k=j:=Nat.div_add_mod' j k
       rw[e] at hu
       rw[hu];rfl)
      (fun i x j y hx hy=>by
       rw[List.getElem?_map,Option.map_eq_some_iff] at hx
       obtain⟨z,hz,rfl⟩:=hx
       obtain⟨hi,rfl⟩:=List.getElem?_eq_some_iff.1 hz
       obtain⟨cs,_,c2,_⟩:=hli i (by omega)
       have hj:j<k:=by have:=(List.getElem?_eq_some_iff.1 hy).1;have:=c2.1;omega
       obtain⟨u,hu,hr⟩:=cell i (by omega) j hj
       rw[hu]
       exact hr _ hy)
     rw[List.length_map,hll] at this
     exact this
theorem trodAll_stays {W':World} (hl:laidOutB P=true) (hb:Below W.heap.size W W'):∀ {ts:List TypeId} {vs:List Value} {ds:List (DataW H)} {ps:List MemPlace},(∀t ∈ ts,P.readableRec t=true∧t<P.types.size)→DataW.TrodAll enc P W 0 (fun _=>true) true ts vs ds ps →
  DataW.TrodAll enc P W' 0 (fun b=>decide (b<W.heap.size)) true ts vs ds ps
 | [],_,_,_,_,h=>by
  obtain⟨rfl,rfl,rfl⟩:=trodAll_nil h
  rfl
 | t :: ts,_,_,_,ht,h=>by
  have hlt:=h.lt
  obtain⟨v,vs1,d,ds1,a,b,rfl,rfl,rfl,h1,h2⟩:=trodAll_cons h
  exact⟨a,b,Below.trod hl (ht t List.mem_cons_self).1 (ht t List.mem_cons_self).2 h1 hb (fun x hx=>hlt x (List.mem_append_left _ hx)),trodAll_stays hl hb (fun t' ht'=>ht t' (List.mem_cons_of_mem _ ht')) h2,rfl⟩
theorem post_true {f:Func} {s:ChangeSpec} {fresh handsOn:Bool} {W':World} {args:Array Value} {ds:List (DataW H)} {before:List MemPlace} {tb:TypeId} (hl:laidOutB P=true)
  (hW:DataW.Whole enc P f.params.toList s.vars false W args.toList ds [] before) (hv:s.vars=[]) (hs:s.fn H (ds ++ []) = { results:=[.lit (.bool true)],args:=ds })
  (hr:f.resultTypes = #[tb]) (ht:P.underlying tb=some .bool) (hp:∀t ∈ f.params.toList,P.readableRec t=true∧t<P.types.size) (hb:Below W.heap.size W W') :
  s.post enc P f false fresh handsOn false W args (.bool true) W':=by
 have hW0:=hW
 obtain⟨p,q,hA,hV,rfl,_,_⟩:=hW0
 refine⟨ds,[],p ++ q,[],p,[],hW,?_,?_,?_,hb.frame _,fun h=>by cases h⟩
 ·rw[hs,hr]
  exact⟨[],[],⟨1,by simp [DataW.trod,Value.cells,ht]⟩,rfl,rfl⟩
 ·rw[hs]
  exact trodAll_stays hl hb hp hA
 ·rw[hs,hv];rfl
end
end Go.AL
end
section
namespace Go.AL
open Go Go.RowKit Go.ChangeShapes Go.WideShapes Go.ChangeAt
section
variable {H:Type} {enc:TypeId × Value→H} {P:Program} {W:World} {t:TypeId}
theorem Rd.map {α β:Type} {k:Nat} {E:α→AV} {E':β→AV} {ok:α→Prop} {ok':β→Prop} (f:α→β) (hE:∀y,E y=E' (f y)) (hok:∀y,ok y→ok' (f y)) (h:Rd enc P W t k E ok):Rd enc P W t k E' ok':=by
 intro fuel cs x hx
 obtain⟨y,k1,k2,k3,k4⟩:=h fuel cs x hx
 exact⟨f y,hok y k1,by rw[← hE];exact k2,k3,by rw[← hE];exact k4⟩
def RdL (enc:TypeId × Value→H) (P:Program) (W:World) (ts:List TypeId) {α:Type} (E:α→List AV) (ok:α→Prop):Prop :=
 ∀(n:Nat) (cs:List Value) (xs:List (DataW H × List MemPlace)),xs.length=ts.length→cs.length=ts.length →
  (∀(i:Nat) t,ts[i]?=some t→DataW.trod enc P W 0 (fun _=>true) true n t ((cs.drop i).take 1)=xs[i]?) →
  ∃y,ok y∧(E y).length=ts.length∧(E y).all one=true∧∀(i:Nat) c u,(E y)[i]?=some c→cs[i]?=some u→Rel W (fun b=>b<W.heap.size) c u
theorem RdL.nil:RdL enc P W [] (fun _:Unit=>[]) (fun _=>True):=by
 intro n cs xs _ _ _
 exact⟨(),trivial,rfl,rfl,fun i c u h=>by simp at h⟩
theorem RdL.cons {α β:Type} {E:α→AV} {ok:α→Prop} {ts:List TypeId} {F:β→List AV} {ok':β→Prop} (h:Rd enc P W t 1 E ok) (h1:∀y,one (E y)=true∧(E y).cells=[E y]) (hs:RdL enc P W ts F ok') :
  RdL enc P W (t :: ts) (fun y:α × β=>E y.1 :: F y.2) (fun y=>ok y.1∧ok' y.2):=by
 intro n cs xs hx hc hi
 match xs,cs,hx,hc with
 | x :: xs,u :: cs,hx,hc =>
  have h0:=hi 0 t rfl
  simp only[List.drop_zero,List.take_succ_cons,List.take_zero,List.getElem?_cons_zero] at h0
  obtain⟨y,k1,_,_,k4⟩:=h _ _ _ h0
  obtain⟨z,g1,g2,g3,g4⟩:=hs n cs xs (by simpa using hx) (by simpa using hc) fun i t' ht=>by
   have:=hi (i+1) t' (by simpa using ht)
   simpa using this
  refine⟨(y,z),⟨k1,g1⟩,by simp [g2],by simp [g3,(h1 y).1],fun i c u' hcc hu => ?_⟩
  cases i with
  | zero=>cases hcc;cases hu;exact k4 0 _ _ (by rw[(h1 y).2];rfl) rfl
  | succ i=>exact g4 i c u' (by simpa using hcc) (by simpa using hu)
theorem Rd.struct {fs:Array Field} {α:Type} {ts:List TypeId} {F:α→List AV} {ok:α→Prop} (ht:P.underlying t=some (.struct fs)) (hts:fs.toList.map (·.type)=ts) (hof:fs.toList.map (·.offset)=List.range ts.length) (hk:P.cellsOf t=ts.length)
  (hc:(ts.all fun t=>P.cellsOf t == 1)=true) (h:RdL enc P W ts F ok):Rd enc P W t ts.length (fun y => .agg (F y)) ok:=by
 intro fuel cs x hx
 obtain⟨xs,n,_,_,hl,hlen,hf⟩:=DataW.trod_struct ht hx
 have hfl:fs.size=ts.length:=by rw[← hts];simp
 obtain⟨y,k1,k2,k3,k4⟩:=h n cs xs (by omega) (by omega) fun i t' ht'=>by
  have hi:i<ts.length:=(List.getElem?_eq_some_iff.1 ht').1
  have hg:fs[i]?=some fs[i]:=Array.getElem?_eq_getElem (by omega)
  have e1:(fs[i]).type=t':=by
   rw[← hts,List.getElem?_map,Array.getElem?_toList,hg] at ht'
   exact Option.some.inj ht'
  have e2:(fs[i]).offset=i:=by
   have:(fs.toList.map (·.offset))[i]?=some i:=by rw[hof,List.getElem?_range hi]
   rw[List.getElem?_map,Array.getElem?_toList,hg] at this
   exact Option.some.inj this
  have:=hf i _ hg
  have hct:P.cellsOf t'=1:=by
   have:=List.all_eq_true.1 hc _ (List.mem_of_getElem? ht')
   simpa using this
  rw[e1,e2,hct] at this
  exact this
 exact⟨y,k1,⟨k2,k3⟩,by omega,k4⟩
theorem Rd.agg {α:Type} {k:Nat} {E:α→AV} {F:α→List AV} {ok:α→Prop} (hE:∀y,E y = .agg (F y)) (h:Rd enc P W t k E ok) {v:Value} {d:DataW H} {ps:List MemPlace} (ha:∃us,v = .agg us)
  (hd:DataW.Trod enc P W 0 (fun _=>true) true t v d ps):∃y,ok y∧Rel W (fun b=>b<W.heap.size) (E y) v:=by
 obtain⟨us,rfl⟩:=ha
 obtain⟨fuel,hf⟩:=hd
 obtain⟨y,k1,k2,k3,k4⟩:=h _ _ _ hf
 refine⟨y,k1,?_⟩
 have e1:(E y).cells=F y:=by rw[hE];rfl
 have e2:(Value.agg us).cells.toList=us.toList:=rfl
 have k5:=k2.1
 rw[e1] at k4 k5
 rw[e2] at k3 k4
 rw[hE]
 refine .agg _ _ ?_ fun i c u h1 h2=>k4 i c u h1 (by simpa using h2)
 rw[k5,← k3];simp
theorem okWide_agg {r:Go.Reach} {b:Nat} {fs:Array Field} {v:Value} (ht:P.underlying t=some (.struct fs)) (h:Value.okWide P W r b t v):∃us,v = .agg us:=by
 unfold Value.okWide at h
 rw[ht] at h
 obtain⟨cs,h1,_⟩:=h
 exact⟨cs,h1⟩
theorem Rd.one {α:Type} {E:α→AV} {ok:α→Prop} (h:Rd enc P W t 1 E ok) (h1:∀y,(E y).cells=[E y]) {v:Value} {d:DataW H} {ps:List MemPlace} (hc:v.cells = #[v])
  (hd:DataW.Trod enc P W 0 (fun _=>true) true t v d ps):∃y,ok y∧Rel W (fun b=>b<W.heap.size) (E y) v:=by
 obtain⟨fuel,hf⟩:=hd
 rw[hc] at hf
 obtain⟨y,k1,_,_,k4⟩:=h _ _ _ hf
 exact⟨y,k1,k4 0 _ _ (by rw[h1];rfl) rfl⟩
theorem okWide_cells {r:Go.Reach} {b:Nat} {e:TypeId} {v:Value} (ht:P.underlying t=some (.slice e)) (h:Value.okWide P W r b t v):v.cells = #[v]:=by
 cases v with
 | agg cs =>
  exfalso
  simp only[Value.okWide,ht,Cell.okWide,Cell.ok] at h
 | _=>rfl
end
end Go.AL
end
section
namespace Go.AL
open Go Go.RowKit Go.ChangeShapes Go.WideShapes Go.ChangeAt
def RdF {H:Type} (enc:TypeId × Value→H) (P:Program) (W:World) (N:Nat) (t:TypeId) (k:Nat) {α:Type} (E:α→AV) (ok:α→Prop):Prop :=
 ∀fuel cs x,fuel≤N→DataW.trod enc P W 0 (fun _=>true) true fuel t cs=some x→∃y,ok y∧elOk k (E y)∧cs.length=k∧∀(i:Nat) c u,(E y).cells[i]?=some c→cs[i]?=some u→Rel W (fun b=>b<W.heap.size) c u
section
variable {H:Type} {enc:TypeId × Value→H} {P:Program} {W:World} {t:TypeId}
theorem Rd.bounded {α:Type} {k:Nat} {E:α→AV} {ok:α→Prop} (h:Rd enc P W t k E ok) (N:Nat):RdF enc P W N t k E ok:=fun fuel cs x _ hx=>h fuel cs x hx
theorem RdF.all {α:Type} {k:Nat} {E:α→AV} {ok:α→Prop} (h:∀N,RdF enc P W N t k E ok):Rd enc P W t k E ok:=fun fuel cs x hx=>h fuel fuel cs x (Nat.le_refl _) hx
theorem RdF.mono {α:Type} {k:Nat} {E:α→AV} {ok:α→Prop} {N M:Nat} (h:RdF enc P W N t k E ok) (hM:M≤N):RdF enc P W M t k E ok:=fun fuel cs x hf hx=>h fuel cs x (by omega) hx
theorem RdF.zero {α:Type} {k:Nat} {E:α→AV} {ok:α→Prop} : RdF enc P W 0 t k E ok:=fun fuel cs x hf hx=>by
 obtain rfl:fuel=0:=by omega
 simp [DataW.trod] at hx
theorem RdF.map {α β:Type} {k:Nat} {N:Nat} {E:α→AV} {E':β→AV} {ok:α→Prop} {ok':β→Prop} (f:α→β) (hE:∀y,E y=E' (f y)) (hok:∀y,ok y→ok' (f y)) (h:RdF enc P W N t k E ok):RdF enc P W N t k E' ok':=by
 intro fuel cs x hN hx
 obtain⟨y,k1,k2,k3,k4⟩:=h fuel cs x hN hx
 exact⟨f y,hok y k1,by rw[← hE];exact k2,k3,by rw[← hE];exact k4⟩
theorem RdF.slice {N:Nat} {α:Type} {E:α→AV} {ok:α→Prop} {e:TypeId} {k:Nat} (ht:P.underlying t=some (.slice e)) (hk:P.cellsOf e=k) (h0:0<k) (he:RdF enc P W N e k E ok) :
  RdF enc P W (N+1) t 1 (fun l:List α => .sl k (l.map E)) (fun l=>l.length≤maxLen∧∀y ∈ l,ok y):=by
 intro fuel cs x hN h
 rcases DataW.trod_slice ht h with ⟨rfl,_⟩|⟨a,len,cap,elems,rest,n,hfu,rfl,_,_,hl,hm,hlen,hel,_,_⟩
 ·refine⟨[],⟨by simp,by simp⟩,⟨rfl,rfl⟩,rfl,fun i c u h1 h2 => ?_⟩
  cases i with
  | zero=>cases h1;cases h2;exact .sl0 k none 0 (by simp)
  | succ i=>cases h2
 ·rw[hk] at hel
  obtain⟨l,hll,hli⟩:=ofFin (len:=len) (Q:=fun i y=>∃cs:List Value,ok y∧elOk k (E y)∧cs.length=k∧(∀m,m<k→W.cell? ((a.add (i * k)).add m)=cs[m]?)∧∀(m:Nat) c u,(E y).cells[m]?=some c→cs[m]?=some u→Rel W (fun b=>b<W.heap.size) c u) fun i hi=>by
   have h1:=hel i hi
   rw[List.getElem?_eq_getElem (by omega),Option.bind_eq_some_iff] at h1
   obtain⟨cs,hc,ht⟩:=h1
   obtain⟨y,k1,k2,k3,k4⟩:=he _ _ _ (by omega) ht
   exact⟨y,cs,k1,k2,k3,(World.cells?_some hc).2.2,k4⟩
  refine⟨l,⟨by omega,fun y hy => ?_⟩,⟨rfl,rfl⟩,rfl,fun i c u h1 h2 => ?_⟩
  ·obtain⟨i,hi,rfl⟩:=List.getElem_of_mem hy
   obtain⟨_,h,_⟩:=hli i (by omega);exact h
  ·cases i with
   | succ i=>cases h2
   | zero =>
    cases h1;cases h2
    by_cases hz:len=0
    ·subst hz
     rw[List.length_eq_zero_iff.1 hll]
     exact .sl0 k _ cap hm
    ·obtain⟨b,off,spot⟩:=a
     obtain⟨cs0,_,_,c3,c4,_⟩:=hli 0 (by omega)
     have hs:spot=none:=by
      have:=c4 0 h0
      have e0:∀a:Addr,a.add 0=a:=fun _=>rfl
      rw[Nat.zero_mul,e0,e0,List.getElem?_eq_getElem (by omega)] at this
      cases spot with
      | none=>rfl
      | some s =>
       exfalso
       unfold World.cell? at this
       split at this
       ·rw[if_pos (show (some s).isSome=true from rfl)] at this;cases this
       ·cases this
     subst hs
     have cell:∀(i:Nat) (hi:i<len) (m:Nat),m<k→∃u,W.cell? ⟨b,off+(i * k+m),none⟩=some u∧∀c,(E (l[i]'(by omega))).cells[m]?=some c→Rel W (fun b=>b<W.heap.size) c u:=fun i hi m hm=>by
      obtain⟨cs,_,_,c3,c4,c5⟩:=hli i (by omega)
      have:=c4 m hm
      rw[add_none,add_none,Nat.add_assoc,List.getElem?_eq_getElem (by omega)] at this
      exact⟨_,this,fun c hc=>c5 m c _ hc (List.getElem?_eq_getElem (by omega))⟩
     have hA:b<W.heap.size:=by
      obtain⟨u,hu,_⟩:=cell 0 (by omega) 0 h0
      unfold World.cell? at hu
      cases hb:W.heap[b]? with
      | none=>simp [hb] at hu
      | some o=>exact(Array.getElem?_eq_some_iff.1 hb).1
     have:=Rel.sl (w:=W) (A:=fun b=>b<W.heap.size) k (l.map E) b off cap (fun j=>(W.cell? ⟨b,off+j,none⟩).getD undef) hA (by rw[List.length_map];omega) hm
      (fun x hx=>by
       obtain⟨y,hy,rfl⟩:=List.mem_map.1 hx
       obtain⟨i,hi,rfl⟩:=List.getElem_of_mem hy
       obtain⟨cs,_,c2,_⟩:=hli i (by omega)
       exact c2)
      (fun j hj=>by
       rw[List.length_map,hll] at hj
       have h1:j / k<len:=(Nat.div_lt_iff_lt_mul h0).2 hj
       obtain⟨u,hu,_⟩:=cell (j / k) h1 (j % k) (Nat.mod_lt _ h0)
       have e:j / k * k+j % k=j:=Nat.div_add_mod' j k
       rw[e] at hu
       rw[hu];rfl)
      (fun i x j y hx hy=>by
       rw[List.getElem?_map,Option.map_eq_some_iff] at hx
       obtain⟨z,hz,rfl⟩:=hx
       obtain⟨hi,rfl⟩:=List.getElem?_eq_some_iff.1 hz
       obtain⟨cs,_,c2,_⟩:=hli i (by omega)
       have hj:j<k:=by have:=(List.getElem?_eq_some_iff.1 hy).1;have:=c2.1;omega
       obtain⟨u,hu,hr⟩:=cell i (by omega) j hj
       rw[hu]
       exact hr _ hy)
     rw[List.length_map,hll] at this
     exact this
def RdFL (enc:TypeId × Value→H) (P:Program) (W:World) (N:Nat) (ts:List TypeId) {α:Type} (E:α→List AV) (ok:α→Prop):Prop :=
 ∀(n:Nat) (cs:List Value) (xs:List (DataW H × List MemPlace)),n≤N→xs.length=ts.length→cs.length=ts.length →
  (∀(i:Nat) t,ts[i]?=some t→DataW.trod enc P W 0 (fun _=>true) true n t ((cs.drop i).take 1)=xs[i]?) →
  ∃y,ok y∧(E y).length=ts.length∧(E y).all one=true∧∀(i:Nat) c u,(E y)[i]?=some c→cs[i]?=some u→Rel W (fun b=>b<W.heap.size) c u
theorem RdFL.nil {N:Nat} : RdFL enc P W N [] (fun _:Unit=>[]) (fun _=>True):=by
 intro n cs xs _ _ _ _
 exact⟨(),trivial,rfl,rfl,fun i c u h=>by simp at h⟩
theorem RdFL.cons {N:Nat} {α β:Type} {E:α→AV} {ok:α→Prop} {ts:List TypeId} {F:β→List AV} {ok':β→Prop} (h:RdF enc P W N t 1 E ok) (h1:∀y,one (E y)=true∧(E y).cells=[E y]) (hs:RdFL enc P W N ts F ok') :
  RdFL enc P W N (t :: ts) (fun y:α × β=>E y.1 :: F y.2) (fun y=>ok y.1∧ok' y.2):=by
 intro n cs xs hN hx hc hi
 match xs,cs,hx,hc with
 | x :: xs,u :: cs,hx,hc =>
  have h0:=hi 0 t rfl
  simp only[List.drop_zero,List.take_succ_cons,List.take_zero,List.getElem?_cons_zero] at h0
  obtain⟨y,k1,_,_,k4⟩:=h _ _ _ hN h0
  obtain⟨z,g1,g2,g3,g4⟩:=hs n cs xs hN (by simpa using hx) (by simpa using hc) fun i t' ht=>by
   have:=hi (i+1) t' (by simpa using ht)
   simpa using this
  refine⟨(y,z),⟨k1,g1⟩,by simp [g2],by simp [g3,(h1 y).1],fun i c u' hcc hu => ?_⟩
  cases i with
  | zero=>cases hcc;cases hu;exact k4 0 _ _ (by rw[(h1 y).2];rfl) rfl
  | succ i=>exact g4 i c u' (by simpa using hcc) (by simpa using hu)
theorem RdF.struct {N:Nat} {fs:Array Field} {α:Type} {ts:List TypeId} {F:α→List AV} {ok:α→Prop} (ht:P.underlying t=some (.struct fs)) (hts:fs.toList.map (·.type)=ts) (hof:fs.toList.map (·.offset)=List.range ts.length) (hk:P.cellsOf t=ts.length)
  (hc:(ts.all fun t=>P.cellsOf t == 1)=true) (h:RdFL enc P W N ts F ok):RdF enc P W (N+1) t ts.length (fun y => .agg (F y)) ok:=by
 intro fuel cs x hN hx
 obtain⟨xs,n,hfu,_,hl,hlen,hf⟩:=DataW.trod_struct ht hx
 have hfl:fs.size=ts.length:=by rw[← hts];simp
 obtain⟨y,k1,k2,k3,k4⟩:=h n cs xs (by omega) (by omega) (by omega) fun i t' ht'=>by
  have hi:i<ts.length:=(List.getElem?_eq_some_iff.1 ht').1
  have hg:fs[i]?=some fs[i]:=Array.getElem?_eq_getElem (by omega)
  have e1:(fs[i]).type=t':=by
   rw[← hts,List.getElem?_map,Array.getElem?_toList,hg] at ht'
   exact Option.some.inj ht'
  have e2:(fs[i]).offset=i:=by
   have:(fs.toList.map (·.offset))[i]?=some i:=by rw[hof,List.getElem?_range hi]
   rw[List.getElem?_map,Array.getElem?_toList,hg] at this
   exact Option.some.inj this
  have:=hf i _ hg
  have hct:P.cellsOf t'=1:=by
   have:=List.all_eq_true.1 hc _ (List.mem_of_getElem? ht')
   simpa using this
  rw[e1,e2,hct] at this
  exact this
 exact⟨y,k1,⟨k2,k3⟩,by omega,k4⟩
end
end Go.AL
end
section
namespace Go.AL
open Go Go.RowKit
theorem Rel.tabK {P:Program} {W:World} {name:String} {k:IntKind} {zs:List Int} {g:Nat} (h:Lib.TabIs P W name k zs) (hg:P.globalNamed name=some g) (hz:0<zs.length) :
  Rel W (fun b=>b<W.heap.size) (.rp 1 (zs.map fun z => .v (.int k z)) 0 0) (.pointer (some ⟨g,0,none⟩)):=by
 have hA:g<W.heap.size:=by
  have hu:=h.cell hg 0 hz
  unfold World.cell? at hu
  cases hb:W.heap[g]? with
  | none=>simp [hb] at hu
  | some o=>exact(Array.getElem?_eq_some_iff.1 hb).1
 have:=Rel.rp (w:=W) (A:=fun b=>b<W.heap.size) 1 (zs.map fun z => .v (.int k z)) 0 0 g 0 (fun i => .int k (zs.getD i 0)) hA
  (fun x hx=>by obtain⟨z,_,rfl⟩:=List.mem_map.1 hx;exact⟨rfl,rfl⟩)
  (fun i hi=>by
   rw[List.length_map] at hi
   have:=h.cell hg i (by omega)
   simpa using this)
  (fun i x j y hx hy=>by
   rw[List.getElem?_map,Option.map_eq_some_iff] at hx
   obtain⟨z,hz,rfl⟩:=hx
   cases j with
   | succ j=>cases hy
   | zero =>
    cases hy
    have e:zs.getD i 0=z:=by rw[List.getD_eq_getElem?_getD,hz];rfl
    simp only[Nat.mul_one,Nat.add_zero,e]
    exact .v _)
 exact this
end Go.AL
end
section
namespace Go.AL
open Go Go.RowKit Go.Lib Go.Sort Go.Proofs Go.Shelf
structure Item (w:World) (A:Foot) {β:Type} (av:β→AV) (Q:β→Prop) where
 u:Value
 x:β
 rel:Rel w A (av x) u
 ok:Q x
theorem items {w:World} {A:Foot} {β:Type} {av:β→AV} {Q:β→Prop} : ∀(xs:List β) (us:List Value),us.length=xs.length →
  (∀(i:Nat) x u,xs[i]?=some x→us[i]?=some u→Rel w A (av x) u∧Q x)→∃d:List (Item w A av Q),d.map (·.x)=xs∧d.map (·.u)=us
 | [],us,hl,_=>⟨[],rfl,(List.eq_nil_of_length_eq_zero hl).symm⟩
 | x :: xs,[],hl,_=>by simp at hl
 | x :: xs,u :: us,hl,h=>by
  obtain⟨d,h1,h2⟩:=items xs us (by simpa using hl) fun i y v hy hv=>h (i+1) y v (by simpa using hy) (by simpa using hv)
  have h0:=h 0 x u rfl rfl
  exact⟨⟨u,x,h0.1,h0.2⟩ :: d,by simp [h1],by simp [h2]⟩
theorem grow_of_Fr {w w':World} {M:Foot} (h:Fr w M w') (hM:∀b,¬M b):∃q os,w'=grow (w.drewN q) os:=by
 refine⟨w'.drawn - w.drawn,w'.heap.extract w.heap.size w'.heap.size,?_⟩
 have hh:w'.heap=w.heap ++ w'.heap.extract w.heap.size w'.heap.size:=by
  apply Array.ext_getElem?
  intro k
  by_cases hk:k<w.heap.size
  ·rw[Array.getElem?_append_left hk];exact h.block k hk (hM k)
  ·rw[Array.getElem?_append_right (by omega),Array.getElem?_extract]
   have:=h.size
   by_cases hk2:k<w'.heap.size
   ·rw[if_pos (by omega)];congr 1;omega
   ·rw[if_neg (by omega)];exact Array.getElem?_eq_none (by omega)
 have hd:=h.drawn
 obtain⟨heap,tape,drawn,os,out⟩:=w'
 simp only[grow,World.drewN,World.mk.injEq]
 exact⟨hh,h.tape,by simp only at hd ⊢;omega,h.os,h.output⟩
theorem sortWorld_heap_ne {α:Type} [Inhabited α] (enc:α→Value) (w:World) (b o m:Nat) (d:Array α) (os:Array Obj) {k:Nat} (hk:k<w.heap.size) (hb:k ≠ b) :
  (sortWorld enc w b o m d os).heap[k]?=w.heap[k]?:=by
 simp only[sortWorld,grow,putRow,mapBlock,Sort.ahead]
 rw[Array.getElem?_append_left (by simpa using hk),Array.getElem?_modify,if_neg (fun e=>hb e.symm)]
theorem sortWorld_heap_eq {α:Type} [Inhabited α] (enc:α→Value) (w:World) (b o m:Nat) (d:Array α) (os:Array Obj) {c:Array Value} {t:TypeId} {fr:Nat × Nat} (h:w.heap[b]?=some (.cells c t fr)) :
  (sortWorld enc w b o m d os).heap[b]?=some (.cells (putCells enc o d c) t fr):=by
 have hk:b<w.heap.size:=(Array.getElem?_eq_some_iff.1 h).1
 simp only[sortWorld,grow,putRow,mapBlock,Sort.ahead]
 rw[Array.getElem?_append_left (by simpa using hk),Array.getElem?_modify,if_pos rfl,h]
 rfl
theorem sortWorld_size {α:Type} [Inhabited α] (enc:α→Value) (w:World) (b o m:Nat) (d:Array α) (os:Array Obj):w.heap.size≤(sortWorld enc w b o m d os).heap.size:=by
 simp only[sortWorld,grow,putRow,mapBlock,Sort.ahead,Array.size_append,Array.size_modify];omega
theorem sort_calls {P:Program} {ρ:Ren} (S:SlLaysF.n6 P ρ) {g:Nat} {t:TypeId} {β:Type} (av:β→AV) (Q:β→Prop) (dflt:β) (hQ:Q dflt) (hd:∀w A,∃u,Rel w A (av dflt) u)
  (ho:∀x,Q x→one (av x)=true) (cf:β→β→Int) (hS:SWO (ltOf cf)) (hc:∀x y,Q x→Q y→PC P g [av x,av y] (.v (.int .i64 (cf x y)))) (b cap:Nat) (xs:List β) (hx:∀x ∈ xs,Q x)
  (hlen:xs.length<4611686018427387904) :
  MCalls P (ρ.f 6) [.ls b 1 0 xs.length cap,.v (.func (.func g) #[] #[])] [(b,.row t 1 (xs.map av) cap)]
   fun r L'=>r = .tup []∧∃ys:List β,ys.Perm xs∧ys.Pairwise (fun x y=>¬cf y x<0)∧L'=[(b,.row t 1 (ys.map av) cap)]:=by
 refine⟨S.f6.enters rfl,fun n w A vs hL hv=>callsIn_wide.2 ?_⟩
 obtain⟨u1,vs1,rfl,r1,hv⟩:=hv.inv_cons
 obtain⟨u2,vs2,rfl,r2,hv⟩:=hv.inv_cons
 obtain rfl:=hv.inv_nil
 cases r2
 cases r1 with
 | ls _ _ _ _ _ o hl hcm hoo =>
 have hb:=hL.blk (b,.row t 1 (xs.map av) cap) List.mem_cons_self
 have hblk:=hb.lt
 have hnA:=hL.disj (b,.row t 1 (xs.map av) cap) List.mem_cons_self
 obtain⟨c,b1,b2,b3,b4,b5,b6⟩:=hb
 simp only[Nat.mul_one,List.length_map] at b2 b3 hblk hnA
 have o0:xs.length=0∨o=0:=by rcases hoo with h|h <;> omega
 obtain⟨d,d1,d2⟩:=items (w:=w) (A:=A) (av:=av) (Q:=Q) xs (c.toList.take xs.length) (by simp;omega) fun i x u hi hu=>by
  have hlt:i<xs.length:=(List.getElem?_eq_some_iff.1 hi).1
  have hq:Q x:=hx x (List.mem_of_getElem? hi)
  rw[List.getElem?_take_of_lt hlt,Array.getElem?_toList] at hu
  exact⟨b6 i (av x) 0 (av x) u (by simp [hi]) (by rw[one_cells (ho x hq)];rfl) (by simpa using hu),hq⟩
 have dl:d.length=xs.length:=by have:=congrArg List.length d1;simpa using this
 obtain⟨ud,hud⟩:=hd w A
 haveI:Inhabited (Item w A av Q):=⟨⟨ud,dflt,hud,hQ⟩⟩
 let enc:Item w A av Q→Value:=fun i=>i.u
 let cf':Item w A av Q→Item w A av Q→Int:=fun i j=>cf i.x j.x
 have hS':SWO (ltOf cf'):=⟨fun x=>hS.irrefl x.x,fun x y z=>hS.trans x.x y.x z.x,fun x y z=>hS.ntrans x.x y.x z.x⟩
 have hH:Holds enc w b o d.toArray:=fun j hj=>by
  have hj':j<xs.length:=by simpa [dl] using hj
  have ho0:o=0:=by omega
  subst ho0
  have e1:(c.toList.take xs.length)[j]?=some (enc d[j]!):=by
   rw[← d2,List.getElem?_map,getElem!_pos d j (by omega),List.getElem?_eq_getElem (by omega)];rfl
  rw[List.getElem?_take_of_lt hj',Array.getElem?_toList] at e1
  refine⟨?_,?_⟩
  ·simp only[World.cell?,b1,Nat.zero_add,Option.isSome_none,Bool.false_eq_true,if_false]
   simpa using e1
  ·simp [World.frozen?,b1]
 have eg:∀args w,(callFunc g args).run P w = .ok (.enter g args) w:=(hc dflt dflt hQ hQ).1
 have hcmp:CmpLays1 P g #[] enc cf' b o d.toArray.size w:=fun m os dk hdk x y=>by
  have keep:∀k,A k→(sortWorld enc w b o m dk os).heap[k]?=w.heap[k]?:=fun k hk=>sortWorld_heap_ne enc w b o m dk os (hL.abnd k hk) (fun e=>hnA (e ▸ hk))
  have hL':LRel (sortWorld enc w b o m dk os) A []:=⟨fun k hk=>Nat.lt_of_lt_of_le (hL.abnd k hk) (sortWorld_size ..),(fun _ h=>nomatch h),by simp,(fun _ h=>nomatch h),hL.globL keep fun _ h=>h⟩
  have hr:Rels (sortWorld enc w b o m dk os) A [av x.x,av y.x] [x.u,y.u]:=.cons (x.rel.later keep fun _ h=>h) (.cons (y.rel.later keep fun _ h=>h) .nil)
  have h:=callsIn_wide.1 ((hc x.x y.x x.ok y.ok).2 0 _ A _ hL' hr)
  refine Calls.mono h ?_
  rintro e w' ⟨v,r,L',A',rfl,⟨rfl,rfl⟩,hf,_,_,_,hrv⟩
  cases hrv
  exact⟨rfl,grow_of_Fr hf fun k ⟨_,hk,_⟩=>by cases hk⟩
 have h1:OneCell enc:=fun i=>one_ok i.rel (ho i.x i.ok)
 have main:=Any.slices_SortFunc S enc h1 cf' hS' g #[] b o cap d.toArray w eg hcmp hH hblk (by simpa [dl] using hlen)
 rw[show d.toArray.size=xs.length by simp [dl]] at main
 refine Calls.mono main ?_
 rintro e w' ⟨rfl,d',n',os,hp,hs,rfl⟩
 have sz:d'.size=xs.length:=by rw[hp.1];simp [dl]
 have keep:∀k,A k→(sortWorld enc w b o n' d' os).heap[k]?=w.heap[k]?:=fun k hk=>sortWorld_heap_ne enc w b o n' d' os (hL.abnd k hk) (fun e=>hnA (e ▸ hk))
 refine⟨_,.tup [],[(b,.row t 1 ((d'.toList.map (·.x)).map av) cap)],A,rfl,⟨rfl,d'.toList.map (·.x),?_,?_,rfl⟩,⟨rfl,rfl,rfl,sortWorld_size ..,fun k hk hn => ?_,by simp [sortWorld,grow,putRow,mapBlock,Sort.ahead]⟩,fun _ h => .inl h,?_,fun x hx => .inl ?_,.tup [] #[] rfl (by simp)⟩
 ·have:=hp.2.2
  rw[show d'.extract 0 xs.length=d' by rw[← sz];exact Array.extract_size ..,show d.toArray.extract 0 xs.length=d.toArray by rw[← dl];simp] at this
  have:=this.map (fun i:Item w A av Q=>i.x)
  simpa [d1] using this
 ·rw[List.pairwise_map,List.pairwise_iff_getElem]
  intro i j hi hj hij
  have hi':i<d'.size:=by simpa using hi
  have hj':j<d'.size:=by simpa using hj
  have:=hs i j (Nat.zero_le _) hij (by omega)
  rw[getElem!_pos d' i hi',getElem!_pos d' j hj'] at this
  simpa [ltOf,cf'] using this
 ·exact sortWorld_heap_ne _ _ _ _ _ _ _ hk fun e=>hn ⟨_,List.mem_cons_self,e.symm⟩
 ·have hb':=sortWorld_heap_eq enc w b o n' d' os b1
  refine⟨fun k hk=>Nat.lt_of_lt_of_le (hL.abnd k hk) (sortWorld_size ..),fun x hx => ?_,by simp,fun x hx => ?_,hL.globL keep fun _ h=>h⟩
  ·obtain rfl:=List.mem_singleton.1 hx;exact hnA
  ·obtain rfl:=List.mem_singleton.1 hx
   refine⟨_,hb',by simp [putCells,b2],by simp [sz];omega,b4,fun y hy => ?_,fun i x j y u hi hj hu => ?_⟩
   ·simp only[List.map_map,List.mem_map] at hy
    obtain⟨it,_,rfl⟩:=hy
    have h1:=ho it.x it.ok
    exact⟨by simp [one_cells h1],by revert h1;simp only[Function.comp];cases av it.x <;> simp [one,okv]⟩
   ·simp only[List.map_map,List.getElem?_map,Option.map_eq_some_iff] at hi
    obtain⟨it,hit,rfl⟩:=hi
    have h1:=ho it.x it.ok
    simp only[Function.comp,one_cells h1] at hj
    have hj0:j=0:=by have:=(List.getElem?_eq_some_iff.1 hj).1;simpa using this
    subst hj0
    simp only[List.getElem?_cons_zero,Option.some.injEq] at hj
    subst hj
    have hi2:i<d'.size:=by have:=(List.getElem?_eq_some_iff.1 hit).1;simpa using this
    have o0':o=0:=by omega
    subst o0'
    simp only[Nat.mul_one,Nat.add_zero,putCells,Array.getElem?_mapIdx,Option.map_eq_some_iff] at hu
    obtain⟨v0,_,hu⟩:=hu
    rw[if_pos (by omega)] at hu
    have e2:d'[i - 0]! = it:=by
     rw[Nat.sub_zero,getElem!_pos d' i hi2]
     have:=(List.getElem?_eq_some_iff.1 hit).2
     simpa using this
    rw[e2] at hu
    subst hu
    exact it.rel.later keep fun _ h=>h
 ·obtain rfl:=List.mem_singleton.1 hx;exact⟨_,List.mem_cons_self,rfl⟩
def sortBy {β:Type} (cf:β→β→Int) (xs:List β):List β:=xs.mergeSort fun x y=>decide (¬cf y x<0)
theorem sortBy_perm {β:Type} (cf:β→β→Int) (xs:List β):(sortBy cf xs).Perm xs:=List.mergeSort_perm _ _
theorem sortBy_pair {β:Type} {cf:β→β→Int} (hS:SWO (ltOf cf)) (xs:List β):(sortBy cf xs).Pairwise fun x y=>¬cf y x<0:=by
 have h:=List.pairwise_mergeSort (le:=fun x y:β=>decide (¬cf y x<0)) (fun a b c h1 h2 => ?_) (fun a b => ?_) xs
 ·exact h.imp fun h=>of_decide_eq_true h
 ·have:=hS.ntrans c b a (by simpa [ltOf] using h2) (by simpa [ltOf] using h1)
  simpa [ltOf] using this
 ·by_cases h1:cf b a<0
  ·by_cases h2:cf a b<0
   ·have:=hS.trans a b a (by simpa [ltOf] using h2) (by simpa [ltOf] using h1)
    rw[hS.irrefl] at this;cases this
   ·simp [h2]
  ·simp [h1]
theorem sortBy_eq {β:Type} {cf:β→β→Int} (hS:SWO (ltOf cf)) (ha:∀x y,¬cf x y<0→¬cf y x<0→x=y) {xs ys:List β} (hp:ys.Perm xs) (hq:ys.Pairwise fun x y=>¬cf y x<0):ys=sortBy cf xs :=
 List.Perm.eq_of_pairwise (le:=fun x y=>¬cf y x<0) (fun a b _ _ h1 h2=>ha a b h2 h1) hq (sortBy_pair hS xs) (hp.trans (sortBy_perm cf xs).symm)
theorem sort_calls' {P:Program} {ρ:Ren} (S:SlLaysF.n6 P ρ) {g:Nat} {t:TypeId} {β:Type} (av:β→AV) (Q:β→Prop) (dflt:β) (hQ:Q dflt) (hd:∀w A,∃u,Rel w A (av dflt) u)
  (ho:∀x,Q x→one (av x)=true) (cf:β→β→Int) (hS:SWO (ltOf cf)) (ha:∀x y,¬cf x y<0→¬cf y x<0→x=y) (hc:∀x y,Q x→Q y→PC P g [av x,av y] (.v (.int .i64 (cf x y)))) (b cap:Nat) (xs:List β)
  (hx:∀x ∈ xs,Q x) (hlen:xs.length<4611686018427387904) :
  MCalls P (ρ.f 6) [.ls b 1 0 xs.length cap,.v (.func (.func g) #[] #[])] [(b,.row t 1 (xs.map av) cap)] fun r L'=>r = .tup []∧L'=[(b,.row t 1 ((sortBy cf xs).map av) cap)] :=
 (sort_calls S av Q dflt hQ hd ho cf hS hc b cap xs hx hlen).mono fun r L' ⟨h1,ys,hp,hq,h2⟩=>⟨h1,by rw[h2,sortBy_eq hS ha hp hq]⟩
theorem PC.same {P:Program} {f:FuncId} {args:List AV} {vs:List Value} {v:Value} (he:Enters P f) (hv:∀w A us,Rels w A args us→us=vs) (h:∀w,Calls P f vs.toArray w fun e w'=>e = .returned v∧w'=w):PC P f args (.v v) :=
 ⟨he,fun n w A us hL hr=>callsIn_wide.2 (by
  rw[hv w A us hr]
  refine Calls.mono (h w) ?_
  rintro e w' ⟨rfl,rfl⟩
  exact⟨v,.v v,[],A,rfl,⟨rfl,rfl⟩,.refl _ _,fun _ h => .inl h,hL,(fun x hx=>nomatch hx),.v v⟩)⟩
end Go.AL
end
section
namespace Go.AL
open Go Go.RowKit Go.Lib Go.Sort Go.Proofs Go.Shelf
def sortRows_ren:Go.Shelf.Ren:=⟨fun|6=>166|15=>211|14=>210|28=>240|29=>241|20=>232|21=>233|22=>234|23=>235|24=>236|25=>237|26=>238|27=>239|46=>254|47=>255|48=>256|49=>257|50=>258|57=>263|n=>n,fun|22=>27|24=>43|25=>219|3=>3|39=>254|0=>0|53=>276|55=>278|4=>4|46=>269|45=>268|50=>273|5=>5|9=>9|66=>283|70=>83|76=>292|77=>128|n=>n,fun|n=>n⟩
theorem sortRows:Go.Proofs.SlLaysF.n6 Proofs.Tryz.prog sortRows_ren where
 mixed:=by kernel_rfl
 f6:=⟨"slices.SortFunc[[][]int,[]int]",by decide,Proofs.Tryz.func166.trans (congrArg some (by kernel_rfl))⟩
 f14:=⟨"slices.pdqsortCmpFunc[[]int]",by decide,Proofs.Tryz.func210.trans (congrArg some (by kernel_rfl))⟩
 f15:=Proofs.Tryz.func211.trans (congrArg some (by kernel_rfl))
 f20:=⟨"slices.insertionSortCmpFunc[[]int]",by decide,Proofs.Tryz.func232.trans (congrArg some (by kernel_rfl))⟩
 f21:=⟨"slices.heapSortCmpFunc[[]int]",by decide,Proofs.Tryz.func233.trans (congrArg some (by kernel_rfl))⟩
 f22:=⟨"slices.breakPatternsCmpFunc[[]int]",by decide,Proofs.Tryz.func234.trans (congrArg some (by kernel_rfl))⟩
 f23:=⟨"slices.choosePivotCmpFunc[[]int]",by decide,Proofs.Tryz.func235.trans (congrArg some (by kernel_rfl))⟩
 f24:=⟨"slices.reverseRangeCmpFunc[[]int]",by decide,Proofs.Tryz.func236.trans (congrArg some (by kernel_rfl))⟩
 f25:=⟨"slices.partialInsertionSortCmpFunc[[]int]",by decide,Proofs.Tryz.func237.trans (congrArg some (by kernel_rfl))⟩
 f26:=⟨"slices.partitionEqualCmpFunc[[]int]",by decide,Proofs.Tryz.func238.trans (congrArg some (by kernel_rfl))⟩
 f27:=⟨"slices.partitionCmpFunc[[]int]",by decide,Proofs.Tryz.func239.trans (congrArg some (by kernel_rfl))⟩
 f28:=Proofs.Tryz.func240.trans (congrArg some (by kernel_rfl))
 f29:=Proofs.Tryz.func241.trans (congrArg some (by kernel_rfl))
 f46:=⟨"slices.siftDownCmpFunc[[]int]",by decide,Proofs.Tryz.func254.trans (congrArg some (by kernel_rfl))⟩
 f47:=Proofs.Tryz.func255.trans (congrArg some (by kernel_rfl))
 f48:=Proofs.Tryz.func256.trans (congrArg some (by kernel_rfl))
 f49:=⟨"slices.medianAdjacentCmpFunc[[]int]",by decide,Proofs.Tryz.func257.trans (congrArg some (by kernel_rfl))⟩
 f50:=⟨"slices.medianCmpFunc[[]int]",by decide,Proofs.Tryz.func258.trans (congrArg some (by kernel_rfl))⟩
 f57:=⟨"slices.order2CmpFunc[[]int]",by decide,Proofs.Tryz.func263.trans (congrArg some (by kernel_rfl))⟩
 t0:=Proofs.Tryz.underlying0
 a0:=Proofs.Tryz.isAgg0
 z0:=Proofs.Tryz.sizeOf0
 v0:=Proofs.Tryz.zeroValue0
 t3:=Proofs.Tryz.underlying3
 a3:=Proofs.Tryz.isAgg3
 z3:=Proofs.Tryz.sizeOf3
 v3:=Proofs.Tryz.zeroValue3
 t4:=Proofs.Tryz.underlying4
 a4:=Proofs.Tryz.isAgg4
 z4:=Proofs.Tryz.sizeOf4
 v4:=Proofs.Tryz.zeroValue4
 t5:=Proofs.Tryz.underlying5
 a5:=Proofs.Tryz.isAgg5
 z5:=Proofs.Tryz.sizeOf5
 v5:=Proofs.Tryz.zeroValue5
 t9:=Proofs.Tryz.underlying9
 a9:=Proofs.Tryz.isAgg9
 z9:=Proofs.Tryz.sizeOf9
 v9:=Proofs.Tryz.zeroValue9
 t22:=Proofs.Tryz.underlying27
 a22:=Proofs.Tryz.isAgg27
 z22:=Proofs.Tryz.sizeOf27
 v22:=Proofs.Tryz.zeroValue27
 a24:=Proofs.Tryz.isAgg43
 z24:=Proofs.Tryz.sizeOf43
 t25:=Proofs.Tryz.underlying219
 a25:=Proofs.Tryz.isAgg219
 z25:=Proofs.Tryz.sizeOf219
 v25:=Proofs.Tryz.zeroValue219
 t39:=Proofs.Tryz.underlying254
 a39:=Proofs.Tryz.isAgg254
 z39:=Proofs.Tryz.sizeOf254
 v39:=Proofs.Tryz.zeroValue254
 t45:=Proofs.Tryz.underlying268
 a45:=Proofs.Tryz.isAgg268
 z45:=Proofs.Tryz.sizeOf268
 v45:=Proofs.Tryz.zeroValue268
 t46:=Proofs.Tryz.underlying269
 a46:=Proofs.Tryz.isAgg269
 z46:=Proofs.Tryz.sizeOf269
 v46:=Proofs.Tryz.zeroValue269
 t50:=Proofs.Tryz.underlying273
 a50:=Proofs.Tryz.isAgg273
 z50:=Proofs.Tryz.sizeOf273
 v50:=Proofs.Tryz.zeroValue273
 t53:=Proofs.Tryz.underlying276
 a53:=Proofs.Tryz.isAgg276
 z53:=Proofs.Tryz.sizeOf276
 v53:=Proofs.Tryz.zeroValue276
 t55:=Proofs.Tryz.underlying278
 a55:=Proofs.Tryz.isAgg278
 z55:=Proofs.Tryz.sizeOf278
 v55:=Proofs.Tryz.zeroValue278
 t66:=Proofs.Tryz.underlying283
 a66:=Proofs.Tryz.isAgg283
 z66:=Proofs.Tryz.sizeOf283
 v66:=Proofs.Tryz.zeroValue283
 t70:=Proofs.Tryz.underlying83
 a70:=Proofs.Tryz.isAgg83
 z70:=Proofs.Tryz.sizeOf83
 v70:=Proofs.Tryz.zeroValue83
 t76:=Proofs.Tryz.underlying292
 a76:=Proofs.Tryz.isAgg292
 z76:=Proofs.Tryz.sizeOf292
 v76:=Proofs.Tryz.zeroValue292
 t77:=Proofs.Tryz.underlying128
 a77:=Proofs.Tryz.isAgg128
 z77:=Proofs.Tryz.sizeOf128
 v77:=Proofs.Tryz.zeroValue128
end Go.AL
end
