/- Texts of this claim's proof: WPw, WPw2, WTl, WEf, WEl, WBd, WCl, WRe, WLo, WLp, WLq, WNd, WBs, WSb, WAw, WSr, WOf, WWl, WCt, WLv, WSn, WMk, WMr, WMn, WCu, WBig, WMl, WMc. No condition. -/
import Derived.Test.YtbijcgljnecakaaGreatDoorM8
import Derived.Test.YtbijcgljnecakaaGreatDoorM6
import Derived.Test.YtbijcgljnecakaaGreatDoorM7
section
namespace Go.AL
open Go Go.RowKit
set_option maxRecDepth 4000
mutual
def rwF (c:List Int):Pd→Pd
 | .mk k n p q s l=>if k=3 then .mk 6 0 0 0 ByteArray.empty [.mk k n p q s l,.mk 1 (c.getD p.toNat 0) 0 0 ByteArray.empty []] else .mk k n p q s (rwL c l)
def rwL (c:List Int):List Pd→List Pd
 | []=>[]
 | x :: r=>rwF c x :: rwL c r
end
theorem closed_iff {ps:List Pr} {c:List Int} : closedF ps c=true↔∀(p:Nat) (hp:p<ps.length) (i:Nat) (hi:i<ps[p].evs.length),ps[p].evs[i].kind=3→(i:Int)+1≤cAt c p→(sndr ps ps[p].evs[i].msg).2≤cAt c (sndr ps ps[p].evs[i].msg).1:=by
 unfold closedF
 rw[Bool.not_eq_true',List.any_eq_false]
 constructor
 ·intro h p hp i hi hk hc
  have:=h _ (List.mem_of_getElem? (evIds_get hp hi))
  unfold badEv at this
  simp only[Bool.and_eq_true,decide_eq_true_eq,not_and] at this
  have:=this ⟨hk,hc⟩
  unfold sndr
  omega
 ·intro h x hx
  obtain⟨k,hk⟩:=List.getElem?_of_mem hx
  obtain⟨p,hp,i,hi,_,rfl⟩:=evIds_inv hk
  unfold badEv
  simp only[Bool.and_eq_true,decide_eq_true_eq,not_and]
  rintro⟨h1,h2⟩
  have:=h p hp i hi h1 h2
  unfold sndr at this
  omega
theorem inRange_iff {ps:List Pr} {c:List Int} (hc:c.length=ps.length):inRangeF ps c=true↔∀(p:Nat) (hp:p<ps.length),0≤cAt c p∧cAt c p≤ps[p].evs.length:=by
 constructor
 ·intro h p hp
  obtain⟨h1,h2⟩:=inRangeF_get h hc hp
  rw[cAt_nat (show p<c.length by omega)]
  exact⟨h1,h2⟩
 ·intro h
  unfold inRangeF
  rw[List.all_eq_true]
  intro p hp
  have hpc:=List.mem_range.1 hp
  have hpp:p<ps.length:=by omega
  have:=h p hpp
  rw[cAt_nat hpc] at this
  unfold cntOk
  simp only[List.getElem?_eq_getElem hpc,List.getElem?_eq_getElem hpp,Bool.and_eq_true,decide_eq_true_eq]
  exact this
def joinL (c d:List Int):List Int:=List.zipWith (fun x y=>if x<y then y else x) c d
theorem zw_cAt {c d:List Int} {g:Int→Int→Int} (h:c.length=d.length) {p:Nat} (hp:p<c.length):cAt (List.zipWith g c d) p=g (cAt c p) (cAt d p):=by
 rw[cAt_nat (show p<(List.zipWith g c d).length by rw[List.length_zipWith];omega),cAt_nat hp,cAt_nat (show p<d.length by omega),List.getElem_zipWith]
theorem join_cAt {c d:List Int} (h:c.length=d.length) {p:Nat} (hp:p<c.length):cAt (joinL c d) p=if cAt c p<cAt d p then cAt d p else cAt c p:=zw_cAt h hp
theorem join_len {c d:List Int} (h:c.length=d.length):(joinL c d).length=c.length:=by unfold joinL;rw[List.length_zipWith];omega
theorem join_given {ps:List Pr} {c d:List Int} (hc:givenF ps [c] []=0) (hd:givenF ps [d] []=0):givenF ps [joinL c d] []=0:=by
 obtain⟨hv,hcl,hcr,hcc⟩:=givenF_zero hc
 obtain⟨_,hdl,hdr,hdc⟩:=givenF_zero hd
 have hl:=join_len (c:=c) (d:=d) (by omega)
 rw[givenL]
 refine⟨⟨hv,fun x hx => ?_⟩,fun x hx => ?_,fun x hx => ?_⟩ <;> (simp only[List.mem_singleton] at hx;subst hx)
 ·omega
 ·rw[inRange_iff (by omega)]
  intro p hp
  have h1:=(inRange_iff hcl).1 hcr p hp
  have h2:=(inRange_iff hdl).1 hdr p hp
  rw[join_cAt (by omega) (by omega)]
  split <;> omega
 ·rw[closed_iff]
  intro p hp i hi hk hle
  obtain⟨hq,j,hj,h1,_,_⟩:=recv_peer (valid_parts hv).2.2 hp hi hk
  rw[join_cAt (by omega) (by omega)] at hle
  have g1:=closed_iff.1 hcc p hp i hi hk
  have g2:=closed_iff.1 hdc p hp i hi hk
  rw[h1] at g1 g2 ⊢
  simp only at g1 g2 ⊢
  generalize ps[p].evs[i].peer.toNat=q at *
  rw[join_cAt (by omega) (by omega)]
  split at hle <;> split <;> omega
section
variable {ps:List Pr} {c j:List Int}
end
def closeN (ps:List Pr):Nat→List Int→List Int
 | 0,c=>c
 | n+1,c=>match missF ps c with
  | none=>c
  | some x=>closeN ps n (c.set x.1.1.toNat x.1.2)
def closeF (ps:List Pr) (c:List Int):List Int:=closeN ps (off ps ps.length) c
theorem sumN_set:∀(l:List Nat) (i x:Nat) (h:i<l.length),(l.set i x).sum+l[i]=l.sum+x
 | a :: r,0,x,_=>by simp only[List.set_cons_zero,List.sum_cons,List.getElem_cons_zero];omega
 | a :: r,i+1,x,h=>by
  have:=sumN_set r i x (by simpa using h)
  simp only[List.set_cons_succ,List.sum_cons,List.getElem_cons_succ];omega
def totC (c:List Int):Nat:=(c.map Int.toNat).sum
theorem totC_set {c:List Int} {q:Nat} {x:Int} (hq:q<c.length):totC (c.set q x)+(c[q]).toNat=totC c+x.toNat:=by
 unfold totC
 rw[List.map_set]
 have:=sumN_set (c.map Int.toNat) q x.toNat (by simpa using hq)
 simpa using this
theorem totC_le0:∀(l:List Pr) (c:List Int),c.length=l.length→(∀p (hp:p<l.length),c.getD p 0≤l[p].evs.length)→totC c≤(l.map fun x=>x.evs.length).sum
 | [],[],_,_=>Nat.le_refl _
 | x :: l,a :: c,hl,h=>by
  have h0:=h 0 (by simp)
  have ht:=totC_le0 l c (by simpa using hl) fun p hp=>by
   have:=h (p+1) (by simpa using hp)
   simpa using this
  simp only[List.getElem_cons_zero,List.getD_cons_zero] at h0
  unfold totC at *
  simp only[List.map_cons,List.sum_cons]
  omega
theorem totC_le {ps:List Pr} {c:List Int} (hc:c.length=ps.length) (hr:inRangeF ps c=true):totC c≤off ps ps.length:=by
 unfold off
 rw[List.take_length]
 refine totC_le0 ps c hc fun p hp => ?_
 have:=((inRange_iff hc).1 hr p hp).2
 unfold cAt at this
 simpa using this
theorem miss_inv {ps:List Pr} (hv:validF ps=true) {c:List Int} (hc:c.length=ps.length) {x:Eid × Eid} (h:missF ps c=some x) :
  ∃(p:Nat) (_:p<ps.length) (i:Nat) (_:i<ps[p].evs.length) (q:Nat) (_:q<ps.length) (j:Nat) (_:j<ps[q].evs.length),ps[p].evs[i].kind=3∧(i:Int)+1≤cAt c p∧sndr ps ps[p].evs[i].msg=((q:Int),(j:Int)+1)∧x=(((q:Int),(j:Int)+1),((p:Int),(i:Int)+1))∧cAt c q<(j:Int)+1:=by
 unfold missF at h
 rw[Option.map_eq_some_iff] at h
 obtain⟨y,hy,rfl⟩:=h
 have hb:=List.find?_some hy
 obtain⟨k,hk⟩:=List.getElem?_of_mem (List.mem_of_find?_eq_some hy)
 obtain⟨p,hp,i,hi,_,rfl⟩:=evIds_inv hk
 unfold badEv at hb
 simp only[Bool.and_eq_true,decide_eq_true_eq] at hb
 obtain⟨⟨h1,h2⟩,h3⟩:=hb
 obtain⟨hq,j,hj,e,_,_⟩:=recv_peer (valid_parts hv).2.2 hp hi h1
 have e':findIn (evIds ps) 2 ps[p].evs[i].msg=((ps[p].evs[i].peer.toNat:Int),(j:Int)+1):=e
 rw[e'] at h3
 exact⟨p,hp,i,hi,_,hq,j,hj,h1,h2,e,by rw[e'],h3⟩
theorem miss_next {ps:List Pr} (hv:validF ps=true) {c:List Int} (hc:c.length=ps.length) (hr:inRangeF ps c=true) {x:Eid × Eid} (h:missF ps c=some x) :
  (c.set x.1.1.toNat x.1.2).length=ps.length∧inRangeF ps (c.set x.1.1.toNat x.1.2)=true∧totC c<totC (c.set x.1.1.toNat x.1.2):=by
 obtain⟨p,hp,i,hi,q,hq,j,hj,_,_,_,rfl,h1⟩:=miss_inv hv hc h
 have hl:(c.set q ((j:Int)+1)).length=ps.length:=by rw[List.length_set];exact hc
 refine⟨hl,?_,?_⟩
 ·rw[Int.toNat_natCast,inRange_iff hl]
  intro r hr'
  rw[cAt_nat (show r<(c.set q ((j:Int)+1)).length by omega),List.getElem_set]
  split
  ·rename_i e;subst e;omega
  ·have:=(inRange_iff hc).1 hr r hr'
   rw[cAt_nat (show r<c.length by omega)] at this
   exact this
 ·have:=totC_set (c:=c) (q:=q) (x:=(j:Int)+1) (by omega)
  rw[cAt_nat (show q<c.length by omega)] at h1
  have h0:=((inRange_iff hc).1 hr q hq).1
  rw[cAt_nat (show q<c.length by omega)] at h0
  simp only[Int.toNat_natCast]
  have h3:((j:Int)+1).toNat=j+1:=by omega
  rw[h3] at this
  omega
theorem closeN_more {ps:List Pr} (hv:validF ps=true):∀(n:Nat) (c:List Int),c.length=ps.length→inRangeF ps c=true→off ps ps.length≤totC c+n→closeN ps (n+1) c=closeN ps n c
 | 0,c,hc,hr,hn=>by
  unfold closeN
  cases h:missF ps c with
  | none=>rfl
  | some x =>
   obtain⟨a1,a2,a3⟩:=miss_next hv hc hr h
   have:=totC_le a1 a2
   omega
 | n+1,c,hc,hr,hn=>by
  rw[closeN]
  conv=>rhs;rw[closeN]
  cases h:missF ps c with
  | none=>rfl
  | some x =>
   obtain⟨a1,a2,a3⟩:=miss_next hv hc hr h
   exact closeN_more hv n _ a1 a2 (by omega)
theorem closeN_of {ps:List Pr} (hv:validF ps=true) {c:List Int} (hc:c.length=ps.length) (hr:inRangeF ps c=true) {n:Nat} (h:off ps ps.length≤totC c+n):∀k,closeN ps (n+k) c=closeN ps n c
 | 0=>rfl
 | k+1=>by rw[← Nat.add_assoc,closeN_more hv (n+k) c hc hr (by omega),closeN_of hv hc hr h k]
theorem closeF_step {ps:List Pr} (hv:validF ps=true) {c:List Int} (hc:c.length=ps.length) (hr:inRangeF ps c=true) {x:Eid × Eid} (h:missF ps c=some x):closeF ps c=closeF ps (c.set x.1.1.toNat x.1.2):=by
 obtain⟨a1,a2,a3⟩:=miss_next hv hc hr h
 have hle:=totC_le a1 a2
 unfold closeF
 obtain⟨m,hm⟩:∃m,off ps ps.length=m+1:=⟨off ps ps.length - 1,by omega⟩
 rw[hm]
 conv=>lhs;rw[closeN]
 rw[h]
 exact(closeN_of hv a1 a2 (n:=m) (by omega) 1).symm
theorem closeF_none {ps:List Pr} {c:List Int} (h:missF ps c=none):closeF ps c=c:=by
 unfold closeF
 cases off ps ps.length with
 | zero=>rfl
 | succ n=>rw[closeN,h]
theorem miss_ind {ps:List Pr} (hv:validF ps=true) {M:List Int→Prop} (h0:∀c,c.length=ps.length→inRangeF ps c=true→missF ps c=none→M c)
  (h1:∀c,c.length=ps.length→inRangeF ps c=true→∀x,missF ps c=some x→M (c.set x.1.1.toNat x.1.2)→M c):∀c,c.length=ps.length→inRangeF ps c=true→M c:=by
 suffices H:∀n c,c.length=ps.length→inRangeF ps c=true→off ps ps.length - totC c=n→M c from fun c hc hr=>H _ c hc hr rfl
 intro n
 induction n using Nat.strongRecOn with
 | _ n ih =>
  intro c hc hr hn
  cases h:missF ps c with
  | none=>exact h0 c hc hr h
  | some x =>
   obtain⟨a1,a2,a3⟩:=miss_next hv hc hr h
   have:=totC_le a1 a2
   exact h1 c hc hr x h (ih _ (by omega) _ a1 a2 rfl)
theorem closeF_ok {ps:List Pr} (hv:validF ps=true) {c:List Int} (hc:c.length=ps.length) (hr:inRangeF ps c=true):(closeF ps c).length=ps.length∧inRangeF ps (closeF ps c)=true∧missF ps (closeF ps c)=none:=by
 refine miss_ind hv (M:=fun c=>(closeF ps c).length=ps.length∧inRangeF ps (closeF ps c)=true∧missF ps (closeF ps c)=none) (fun c hc hr h => ?_) (fun c hc hr x h hm => ?_) c hc hr
 ·rw[closeF_none h];exact⟨hc,hr,h⟩
 ·rw[closeF_step hv hc hr h];exact hm
theorem closeF_ge {ps:List Pr} (hv:validF ps=true) {c:List Int} (hc:c.length=ps.length) (hr:inRangeF ps c=true):∀p,p<ps.length→cAt c p≤cAt (closeF ps c) p:=by
 refine miss_ind hv (M:=fun c=>∀p,p<ps.length→cAt c p≤cAt (closeF ps c) p) (fun c hc hr h p hp => ?_) (fun c hc hr x h hm p hp => ?_) c hc hr
 ·rw[closeF_none h];exact Int.le_refl _
 ·rw[closeF_step hv hc hr h]
  refine Int.le_trans ?_ (hm p hp)
  obtain⟨_,_,_,_,q,hq,j,hj,_,_,_,rfl,h1⟩:=miss_inv hv hc h
  rw[Int.toNat_natCast,cAt_nat (show p<(c.set q ((j:Int)+1)).length by rw[List.length_set];omega),List.getElem_set]
  split
  ·rename_i e;subst e;omega
  ·rw[cAt_nat (show p<c.length by omega)];exact Int.le_refl _
theorem closeF_least {ps:List Pr} (hv:validF ps=true) {d:List Int} (hd:d.length=ps.length) (hcl:closedF ps d=true) {c:List Int} (hc:c.length=ps.length) (hr:inRangeF ps c=true) :
  (∀p,p<ps.length→cAt c p≤cAt d p)→∀p,p<ps.length→cAt (closeF ps c) p≤cAt d p:=by
 refine miss_ind hv (M:=fun c=>(∀p,p<ps.length→cAt c p≤cAt d p)→∀p,p<ps.length→cAt (closeF ps c) p≤cAt d p) (fun c hc hr h hle => ?_) (fun c hc hr x h hm hle => ?_) c hc hr
 ·rw[closeF_none h];exact hle
 ·rw[closeF_step hv hc hr h]
  refine hm fun p hp => ?_
  obtain⟨a,ha,i,hi,q,hq,j,hj,g1,g2,g3,rfl,h1⟩:=miss_inv hv hc h
  rw[Int.toNat_natCast,cAt_nat (show p<(c.set q ((j:Int)+1)).length by rw[List.length_set];omega),List.getElem_set]
  split
  ·rename_i e;subst e
   have:=closed_iff.1 hcl a ha i hi g1 (Int.le_trans g2 (hle a ha))
   rw[g3] at this
   exact this
  ·have:=hle p hp
   rw[cAt_nat (show p<c.length by omega)] at this
   exact this
theorem closeF_closed {ps:List Pr} (hv:validF ps=true) {c:List Int} (hc:c.length=ps.length) (hr:inRangeF ps c=true):closedF ps (closeF ps c)=true:=by
 rw[closedF_iff,(closeF_ok hv hc hr).2.2];rfl
structure Elim where
 n:Nat
 top:Nat→Nat
 ok:Nat→Nat→Bool
 need:Nat→Nat→Nat→Int
def exB (E:Elim) (now:Nat→Nat) (p k:Nat):Bool:=!E.ok p k || (List.range E.n).any fun q=>decide (q ≠ p) && decide ((k:Int)<E.need q (now q) p)
def nextF (ex:Nat→Bool) (top:Nat):Nat→Nat→Nat
 | 0,k=>k
 | m+1,k=>if k≤top∧ex k=true then nextF ex top m (k+1) else k
def nextK (ex:Nat→Bool) (top k:Nat):Nat:=nextF ex top (top+1 - k) k
section
variable {ex:Nat→Bool} {top k:Nat}
theorem nextK_hit (h:k≤top) (he:ex k=true):nextK ex top k=nextK ex top (k+1):=by
 unfold nextK
 obtain⟨m,hm⟩:∃m,top+1 - k=m+1:=⟨top - k,by omega⟩
 rw[hm,nextF,if_pos ⟨h,he⟩,show top+1 - (k+1)=m by omega]
theorem nextK_stop (h:¬(k≤top∧ex k=true)):nextK ex top k=k:=by
 unfold nextK
 cases top+1 - k with
 | zero=>rfl
 | succ m=>rw[nextF,if_neg h]
theorem nextK_spec:∀(m k:Nat),top+1 - k=m→k≤top+1→k≤nextK ex top k∧nextK ex top k≤top+1∧(∀j,k≤j→j<nextK ex top k→ex j=true)∧(nextK ex top k≤top→ex (nextK ex top k)=false)
 | 0,k,hm,hk=>by
  rw[nextK_stop (by omega)]
  exact⟨Nat.le_refl _,hk,fun j _ _=>by omega,fun h=>by omega⟩
 | m+1,k,hm,hk=>by
  by_cases he:ex k=true
  ·rw[nextK_hit (by omega) he]
   obtain⟨a1,a2,a3,a4⟩:=nextK_spec m (k+1) (by omega) (by omega)
   refine⟨by omega,a2,fun j h1 h2 => ?_,a4⟩
   by_cases e:j=k
   ·subst e;exact he
   ·exact a3 j (by omega) h2
  ·rw[nextK_stop (fun h=>he h.2)]
   exact⟨Nat.le_refl _,hk,fun j _ _=>by omega,fun _=>by simpa using he⟩
end
def stepP (E:Elim) (now:Nat→Nat):Option Nat:=(List.range E.n).find? fun p=>exB E now p (now p)
def goF (E:Elim) (now:Nat→Nat) (p:Nat):Nat:=nextK (exB E now p) (E.top p) (now p)
def updN (f:Nat→Nat) (p x:Nat):Nat→Nat:=fun q=>if q=p then x else f q
theorem updN_self (f:Nat→Nat) (p x:Nat):updN f p x p=x:=if_pos rfl
theorem updN_ne {f:Nat→Nat} {p x q:Nat} (h:q ≠ p):updN f p x q=f q:=if_neg h
theorem find_range {n:Nat} {f:Nat→Bool} {p:Nat} (h:(List.range n).find? f=some p):p<n∧f p=true∧∀q,q<p→f q=false:=by
 rw[List.find?_eq_some_iff_getElem] at h
 obtain⟨h1,i,hi,e,h2⟩:=h
 rw[List.getElem_range] at e
 subst e
 refine⟨by simpa using hi,h1,fun q hq => ?_⟩
 have:=h2 q hq
 rw[List.getElem_range] at this
 simpa using this
abbrev Stp:=Nat × Nat × Nat
inductive RunR (E:Elim):(Nat→Nat)→List Stp→(Nat→Nat)→Bool→Prop
 | stop {now:Nat→Nat} (h:stepP E now=none):RunR E now [] now false
 | lost {now:Nat→Nat} {p:Nat} (h:stepP E now=some p) (hl:E.top p<goF E now p):RunR E now [(p,now p,goF E now p - 1)] (updN now p (goF E now p)) true
 | go {now fin:Nat→Nat} {p:Nat} {st:List Stp} {l:Bool} (h:stepP E now=some p) (hl:goF E now p≤E.top p) (hr:RunR E (updN now p (goF E now p)) st fin l):RunR E now ((p,now p,goF E now p - 1) :: st) fin l
def InE (E:Elim) (now:Nat→Nat):Prop:=∀q,q<E.n→now q≤E.top q
def roomE (E:Elim) (now:Nat→Nat):Nat:=totS E.n fun q=>E.top q+1 - now q
theorem totS_lt {c c':Nat→Nat} {p:Nat} (h:∀q,q ≠ p→c' q=c q) (hp:c' p<c p):∀n,totS n c'+(if p<n then 1 else 0)≤totS n c
 | 0=>by simp [totS]
 | n+1=>by
  have:=totS_lt h hp n
  rw[totS_succ,totS_succ]
  by_cases e:n=p
  ·subst e
   rw[if_neg (by omega)] at this
   rw[if_pos (by omega)];omega
  ·rw[h n e]
   by_cases e2:p<n
   ·rw[if_pos e2] at this;rw[if_pos (by omega)];omega
   ·rw[if_neg e2] at this;rw[if_neg (by omega)];omega
theorem step_inv {E:Elim} {now:Nat→Nat} (hI:InE E now) {p:Nat} (h:stepP E now=some p) :
  p<E.n∧exB E now p (now p)=true∧(∀q,q<p→exB E now q (now q)=false)∧now p<goF E now p∧goF E now p≤E.top p+1∧(∀j,now p≤j→j<goF E now p→exB E now p j=true)∧roomE E (updN now p (goF E now p))<roomE E now:=by
 obtain⟨h1,h2,h3⟩:=find_range h
 have hle:=hI p h1
 obtain⟨a1,a2,a3,a4⟩:=nextK_spec (ex:=exB E now p) (top:=E.top p) _ (now p) rfl (by omega)
 have hlt:now p<goF E now p:=by
  unfold goF
  rw[nextK_hit hle h2]
  obtain⟨b1,_⟩:=nextK_spec (ex:=exB E now p) (top:=E.top p) _ (now p+1) rfl (by omega)
  omega
 refine⟨h1,h2,h3,hlt,a2,a3,?_⟩
 unfold roomE
 have:=totS_lt (c:=fun q=>E.top q+1 - now q) (c':=fun q=>E.top q+1 - updN now p (goF E now p) q) (p:=p) (fun q hq=>by rw[updN_ne hq]) (by rw[updN_self];omega) E.n
 rw[if_pos h1] at this
 omega
theorem inE_step {E:Elim} {now:Nat→Nat} (hI:InE E now) {p:Nat} (hl:goF E now p≤E.top p):InE E (updN now p (goF E now p)):=fun q hq=>by
 by_cases e:q=p
 ·subst e;rw[updN_self];exact hl
 ·rw[updN_ne e];exact hI q hq
theorem run_ex (E:Elim):∀(m:Nat) (now:Nat→Nat),InE E now→roomE E now≤m→∃st fin l,RunR E now st fin l:=by
 intro m
 induction m with
 | zero =>
  intro now hI hm
  cases h:stepP E now with
  | none=>exact⟨_,_,_,.stop h⟩
  | some p=>have:=(step_inv hI h).2.2.2.2.2.2;omega
 | succ m ih =>
  intro now hI hm
  cases h:stepP E now with
  | none=>exact⟨_,_,_,.stop h⟩
  | some p =>
   have h7:=(step_inv hI h).2.2.2.2.2.2
   by_cases hl:goF E now p≤E.top p
   ·obtain⟨st,fin,l,hr⟩:=ih _ (inE_step hI hl) (by omega)
    exact⟨_,_,_,.go h hl hr⟩
   ·exact⟨_,_,_,.lost h (by omega)⟩
theorem inE_zero (E:Elim):InE E fun _=>0:=fun _ _=>Nat.zero_le _
open Classical in
noncomputable def stepsF (E:Elim):List Stp:=Classical.choose (run_ex E _ _ (inE_zero E) (Nat.le_refl _))
open Classical in
noncomputable def finF (E:Elim):Nat→Nat:=Classical.choose (Classical.choose_spec (run_ex E _ _ (inE_zero E) (Nat.le_refl _)))
open Classical in
noncomputable def lostF (E:Elim):Bool:=Classical.choose (Classical.choose_spec (Classical.choose_spec (run_ex E _ _ (inE_zero E) (Nat.le_refl _))))
end Go.AL
end
section
namespace Go.AL
open Go Go.RowKit
set_option maxRecDepth 4000
section
variable {E:Elim} {p q m k:Nat}
end
theorem stC_ok {ps:List Pr} {p:Nat} {k:Int} (hp:p<ps.length) (h0:0≤k) (hk:k≤ps[p].evs.length):(stC ps.length p k).length=ps.length∧inRangeF ps (stC ps.length p k)=true:=by
 have hl:(stC ps.length p k).length=ps.length:=by unfold stC;rw[List.length_set,List.length_replicate]
 refine⟨hl,?_⟩
 rw[inRange_iff hl]
 intro q hq
 unfold cAt stC
 rw[Int.toNat_natCast,getD_set0]
 split
 ·rename_i e;obtain⟨rfl,_⟩:=e;omega
 ·rw[List.getD_eq_getElem?_getD,List.getElem?_replicate,if_pos hq]
  exact⟨Int.le_refl 0,by simp⟩
theorem stC_len (n p:Nat) (k:Int):(stC n p k).length=n:=by unfold stC;rw[List.length_set,List.length_replicate]
def lclAt (z:Int→Pd→Int) (ts:List Pd) (p:Nat):Int:=match ts[p]? with|some t=>z p t|none=>0
noncomputable def conF (ps:List Pr) (ts:List Pd):Int :=
 if validF ps=true∧ts.length=ps.length then match (List.range ts.length).find? (fun p=>decide (lclAt (fun p t=>lclF ps p 0 t) ts p ≠ 0)) with|some p=>lclAt (fun p t=>lclF ps p 0 t) ts p|none=>0 else 1
theorem stC_cAt {n p q:Nat} {k:Int} (hq:q<n):cAt (stC n p k) q=if p=q then k else 0:=by
 rw[cAt_nat (by rw[stC_len];exact hq)]
 unfold stC
 rw[List.getElem_set,List.getElem_replicate]
theorem need_le {ps:List Pr} (hv:validF ps=true) {d:List Int} (hd:d.length=ps.length) (hr:inRangeF ps d=true) (hcl:closedF ps d=true) {q k:Nat} (hq:q<ps.length) (hk:(k:Int)≤cAt d q):∀p,p<ps.length→cAt (closeF ps (stC ps.length q k)) p≤cAt d p:=by
 have h0:=(inRange_iff hd).1 hr
 obtain⟨a1,a2⟩:=stC_ok (k:=(k:Int)) hq (by omega) (by have:=(h0 q hq).2;omega)
 refine closeF_least hv hd hcl a1 a2 fun p hp => ?_
 rw[stC_cAt hp]
 split
 ·rename_i e;subst e;exact hk
 ·exact(h0 p hp).1
theorem peer_ne {ps:List Pr} (hv:validF ps=true) {p:Nat} (hp:p<ps.length) {i:Nat} (hi:i<ps[p].evs.length) (hk:ps[p].evs[i].kind=3):ps[p].evs[i].peer.toNat ≠ p:=by
 have h:=(evF_parts hp hi).1 (evF_of_valid hv hp hi)
 have h:=h.1
 unfold formedI at h
 rw[if_neg (by omega),if_pos (.inr hk)] at h
 simp only[Bool.and_eq_true,Bool.not_eq_true',decide_eq_false_iff_not] at h
 have h0:=h.1.1
 unfold inI at h0
 simp only[Bool.and_eq_true,decide_eq_true_eq] at h0
 intro e
 exact h.1.2 (by omega)
section
variable {ps:List Pr} {E:Elim}
end
theorem noreach {ps:List Pr} (hv:validF ps=true) {x:Eid} (hx:VEv ps x):¬Reach ps x x:=by
 obtain⟨p,hp,i,hi,rfl⟩:=hx
 have h0:=valid_cyc hv
 unfold cycF at h0
 rw[Option.map_eq_none_iff,List.find?_eq_none] at h0
 simpa using h0 _ (List.mem_of_getElem? (evIds_get hp hi))
theorem reach_trans {ps:List Pr} {a b c:Eid} (h1:Reach ps a b) (h2:Reach ps b c):Reach ps a c:=by
 induction h2 with
 | single h=>exact .tail h1 h
 | tail _ h ih=>exact .tail ih h
theorem countP_lt {α:Type} {p q:α→Bool} : ∀ {l:List α},(∀a ∈ l,p a=true→q a=true)→(∃a ∈ l,p a=false∧q a=true)→l.countP p<l.countP q
 | [],_,⟨a,h,_⟩=>by cases h
 | b :: l,h1,⟨a,ha,h2,h3⟩=>by
  have hle:l.countP p≤l.countP q:=List.countP_mono_left fun a ha h=>h1 a (List.mem_cons_of_mem _ ha) h
  rw[List.countP_cons,List.countP_cons]
  have hb:=h1 b List.mem_cons_self
  rcases List.mem_cons.1 ha with rfl|ha
  ·rw[h2,h3];simp;omega
  ·have:=countP_lt (l:=l) (fun a ha h=>h1 a (List.mem_cons_of_mem _ ha) h) ⟨a,ha,h2,h3⟩
   by_cases e:p b=true
   ·rw[e,hb e];omega
   ·rw[if_neg e];split <;> omega
open Classical in
noncomputable def anc (ps:List Pr) (x:Eid):Nat:=(evIds ps).countP fun e=>decide (Reach ps e.1 x)
theorem anc_lt {ps:List Pr} (hv:validF ps=true) {x y:Eid} (hx:VEv ps x) (h:Reach ps x y):anc ps x<anc ps y:=by
 classical
 unfold anc
 refine countP_lt (fun a _ ha=>decide_eq_true (reach_trans (of_decide_eq_true ha) h)) ?_
 obtain⟨e,he,e1⟩:=List.mem_map.1 hx.mem
 exact⟨e,he,decide_eq_false (by rw[e1];exact noreach hv hx),decide_eq_true (by rw[e1];exact h)⟩
theorem nx_line {ps:List Pr} (hm:msgF ps=none) {p:Nat} (hp:p<ps.length) {j:Nat} (hj:j+1<ps[p].evs.length):Nx ps ((p:Int),(j:Int)+1) ((p:Int),((j+1:Nat):Int)+1):=by
 refine((dirL_iff hm hp hj _).1 ?_).2
 unfold dirL
 rw[List.mem_append,if_pos (by omega)]
 exact .inl (by simp)
theorem nx_send {ps:List Pr} (hm:msgF ps=none) {p:Nat} (hp:p<ps.length) {i:Nat} (hi:i<ps[p].evs.length) (hk:ps[p].evs[i].kind=3):Nx ps (sndr ps ps[p].evs[i].msg) ((p:Int),(i:Int)+1):=by
 refine((dirL_iff hm hp hi _).1 ?_).2
 unfold dirL
 rw[List.mem_append,evq_get hp hi,if_pos hk]
 exact .inr (by simp)
theorem reach_line {ps:List Pr} (hm:msgF ps=none) {p:Nat} (hp:p<ps.length) {i:Nat} : ∀ {j:Nat},i<j→j<ps[p].evs.length→Reach ps ((p:Int),(i:Int)+1) ((p:Int),(j:Int)+1)
 | 0,h,_=>by omega
 | j+1,h,hj=>by
  by_cases e:i=j
  ·subst e;exact .single (nx_line hm hp hj)
  ·exact .tail (reach_line hm hp (by omega) (by omega)) (nx_line hm hp hj)
theorem anc_line {ps:List Pr} (hv:validF ps=true) {p:Nat} (hp:p<ps.length) {i j:Nat} (hij:i≤j) (hj:j<ps[p].evs.length):anc ps ((p:Int),(i:Int)+1)≤anc ps ((p:Int),(j:Int)+1):=by
 by_cases e:i=j
 ·subst e;exact Nat.le_refl _
 ·exact Nat.le_of_lt (anc_lt hv ⟨p,hp,i,by omega,rfl⟩ (reach_line (valid_parts hv).2.2 hp (by omega) hj))
theorem argmax (f:Nat→Nat) (P:Nat→Prop):∀n,(∃p,p<n∧P p)→∃p,p<n∧P p∧∀q,q<n→P q→f q≤f p
 | 0,⟨p,h,_⟩=>by omega
 | n+1,⟨p,hp,h⟩=>by
  classical
  by_cases hx:∃p,p<n∧P p
  ·obtain⟨m,h1,h2,h3⟩:=argmax f P n hx
   by_cases hn:P n∧f m<f n
   ·refine⟨n,by omega,hn.1,fun q hq hP => ?_⟩
    by_cases e:q=n
    ·subst e;exact Nat.le_refl _
    ·have:=h3 q (by omega) hP;omega
   ·refine⟨m,by omega,h2,fun q hq hP => ?_⟩
    by_cases e:q=n
    ·subst e
     have:¬f m<f q:=fun h=>hn ⟨hP,h⟩
     omega
    ·exact h3 q (by omega) hP
  ·have:p=n:=by
    by_cases e:p=n
    ·exact e
    ·exact absurd ⟨p,by omega,h⟩ hx
   subst this
   refine⟨p,by omega,h,fun q hq hP => ?_⟩
   by_cases e:q=p
   ·subst e;exact Nat.le_refl _
   ·exact absurd ⟨q,by omega,hP⟩ hx
theorem setc_cAt {d:List Int} {p q:Nat} {z:Int} (hq:q<d.length):cAt (d.set p z) q=if p=q then z else cAt d q:=by
 rw[cAt_nat (by rw[List.length_set];exact hq),List.getElem_set]
 split
 ·rfl
 ·rw[cAt_nat hq]
theorem cut_remove {ps:List Pr} (hv:validF ps=true) {c:List Int} (hl:c.length=ps.length) (hr:inRangeF ps c=true) (hcl:closedF ps c=true) (h0:∃p,p<ps.length∧0<cAt c p) :
  ∃p,p<ps.length∧0<cAt c p∧inRangeF ps (c.set p (cAt c p - 1))=true∧closedF ps (c.set p (cAt c p - 1))=true:=by
 have hm:=(valid_parts hv).2.2
 have hrr:=(inRange_iff hl).1 hr
 obtain⟨p,hp,hp0,hmax⟩:=argmax (fun p=>anc ps ((p:Int),cAt c p)) (fun p=>0<cAt c p) ps.length h0
 refine⟨p,hp,hp0,(inRange_iff (by rw[List.length_set];exact hl)).2 fun q hq => ?_,closed_iff.2 fun q hq i hi hk hle => ?_⟩
 ·rw[setc_cAt (by omega)]
  split
  ·rename_i e;subst e;have:=hrr p hp;omega
  ·exact hrr q hq
 ·have hle':(i:Int)+1≤cAt c q:=by
   rw[setc_cAt (by omega)] at hle
   split at hle
   ·rename_i e;subst e;omega
   ·exact hle
  have h1:=closed_iff.1 hcl q hq i hi hk hle'
  obtain⟨s,hs,j,hj,e,_,_⟩:=sndr_some (recv_sndr hm hq hi hk)
  have hn:=nx_send hm hq hi hk
  rw[e] at h1 hn ⊢
  simp only at h1 ⊢
  rw[setc_cAt (by omega)]
  split
  ·rename_i es;subst es
   by_cases hj2:(j:Int)+1=cAt c p
   ·exfalso
    have h2:=anc_lt hv ⟨p,hs,j,hj,rfl⟩ (.single hn)
    have h3:=hmax q hq (by omega)
    have hq2:=(hrr q hq).2
    have h4:=anc_line hv hq (i:=i) (j:=(cAt c q).toNat - 1) (by omega) (by omega)
    have h5:(((cAt c q).toNat - 1:Nat):Int)+1=cAt c q:=by omega
    rw[h5] at h4
    rw[hj2] at h2
    omega
   ·omega
  ·exact h1
def isF (ps:List Pr) (c:List Int):Bool:=(decide (c.length=ps.length) && inRangeF ps c) && closedF ps c
theorem isF_iff {ps:List Pr} {c:List Int} : isF ps c=true↔c.length=ps.length∧inRangeF ps c=true∧closedF ps c=true:=by
 unfold isF
 rw[Bool.and_eq_true,Bool.and_eq_true,decide_eq_true_eq,and_assoc]
def stpC (c:List Int) (p:Nat):List Int:=c.set p (cAt c p+1)
def nx1 (ps:List Pr) (c:List Int) (p:Nat):List (List Int):=if cAt c p<nev ps p∧isF ps (stpC c p)=true then [stpC c p] else []
def nextT (ps:List Pr) (c:List Int) (k:Nat):List (List Int):=(List.range k).flatMap (nx1 ps c)
def nextL (ps:List Pr) (c:List Int):List (List Int):=nextT ps c c.length
theorem nextT_succ (ps:List Pr) (c:List Int) (k:Nat):nextT ps c (k+1)=nextT ps c k ++ nx1 ps c k:=by unfold nextT;rw[List.range_succ,List.flatMap_append];simp
theorem nextT_len (ps:List Pr) (c:List Int):∀k,(nextT ps c k).length≤k
 | 0=>by simp [nextT]
 | k+1=>by
  rw[nextT_succ,List.length_append]
  have:=nextT_len ps c k
  unfold nx1
  split <;> simp <;> omega
def lexF:List Int→List Int→Bool
 | a :: x,b :: y=>if a=b then lexF x y else decide (a<b)
 | _,_=>false
def befF (a b:List Int):Bool:=if a.sum=b.sum then lexF a b else decide (a.sum<b.sum)
def insF (l:List (List Int)) (c:List Int):List (List Int):=if (l.dropWhile fun x=>befF x c).head?=some c then l else (l.takeWhile fun x=>befF x c) ++ c :: l.dropWhile fun x=>befF x c
theorem insF_len (l:List (List Int)) (c:List Int):(insF l c).length≤l.length+1:=by
 unfold insF
 split
 ·omega
 ·have h:=congrArg List.length (List.takeWhile_append_dropWhile (p:=fun x=>befF x c) (l:=l))
  rw[List.length_append] at h
  rw[List.length_append,List.length_cons];omega
theorem mem_insF {l:List (List Int)} {c d:List Int} : d ∈ insF l c↔d ∈ l∨d=c:=by
 unfold insF
 have h:=List.takeWhile_append_dropWhile (p:=fun x=>befF x c) (l:=l)
 split
 ·rename_i hh
  constructor
  ·exact .inl
  ·rintro(h1|rfl)
   ·exact h1
   ·rw[← h]
    exact List.mem_append_right _ (List.mem_of_mem_head? hh)
 ·rw[List.mem_append,List.mem_cons]
  constructor
  ·rintro(h1|h1|h1)
   ·left;rw[← h];exact List.mem_append_left _ h1
   ·exact .inr h1
   ·left;rw[← h];exact List.mem_append_right _ h1
  ·rintro(h1|h1)
   ·rw[← h,List.mem_append] at h1
    rcases h1 with h1|h1
    ·exact .inl h1
    ·exact .inr (.inr h1)
   ·exact .inr (.inl h1)
def insL (acc l:List (List Int)):List (List Int):=l.foldl insF acc
theorem mem_insL {d:List Int} : ∀ {l acc:List (List Int)},d ∈ insL acc l↔d ∈ acc∨d ∈ l
 | [],acc=>by simp [insL]
 | c :: l,acc=>by
  show d ∈ insL (insF acc c) l↔_
  rw[mem_insL,mem_insF,List.mem_cons,or_assoc]
theorem insL_len:∀(l acc:List (List Int)),(insL acc l).length≤acc.length+l.length
 | [],acc=>by simp [insL]
 | c :: l,acc=>by
  have:=insL_len l (insF acc c)
  have:=insF_len acc c
  show (insL (insF acc c) l).length≤_
  rw[List.length_cons];omega
def moreT (ps:List Pr) (lv:List (List Int)):List (List Int):=lv.foldl (fun acc c=>insL acc (nextL ps c)) []
theorem mem_more {ps:List Pr} {d:List Int} : ∀ {lv acc:List (List Int)},d ∈ lv.foldl (fun acc c=>insL acc (nextL ps c)) acc↔d ∈ acc∨∃c ∈ lv,d ∈ nextL ps c
 | [],acc=>by simp
 | c :: lv,acc=>by
  rw[List.foldl_cons,mem_more,mem_insL,or_assoc]
  simp
def levF (ps:List Pr):Nat→List (List Int)
 | 0=>[List.replicate ps.length 0]
 | k+1=>moreT ps (levF ps k)
theorem mem_nextL {ps:List Pr} {c d:List Int} : d ∈ nextL ps c↔∃p,p<c.length∧cAt c p<nev ps p∧isF ps (stpC c p)=true∧d=stpC c p:=by
 unfold nextL nextT
 rw[List.mem_flatMap]
 constructor
 ·rintro⟨p,hp,h⟩
  unfold nx1 at h
  split at h
  ·rename_i h1
   exact⟨p,List.mem_range.1 hp,h1.1,h1.2,by simpa using h⟩
  ·cases h
 ·rintro⟨p,hp,h1,h2,rfl⟩
  exact⟨p,List.mem_range.2 hp,by unfold nx1;rw[if_pos ⟨h1,h2⟩];simp⟩
theorem sum_stpC {c:List Int} {p:Nat} (hp:p<c.length):(stpC c p).sum=c.sum+1:=by
 unfold stpC
 have h:=sum_set c p (cAt c p+1) hp
 have e:cAt c p=c.getD p 0:=by unfold cAt;simp
 rw[h,e];omega
theorem isF_nonneg {ps:List Pr} {c:List Int} (h:isF ps c=true):∀z ∈ c,0≤z:=fun z hz=>by
 obtain⟨h1,h2,_⟩:=isF_iff.1 h
 obtain⟨p,hp,rfl⟩:=List.getElem_of_mem hz
 have:=((inRange_iff h1).1 h2 p (by omega)).1
 rwa [cAt_nat hp] at this
theorem isF_zero {ps:List Pr} : isF ps (List.replicate ps.length 0)=true:=by
 have e:∀q:Int,cAt (List.replicate ps.length 0) q=0:=fun q=>by
  unfold cAt
  rw[List.getD_eq_getElem?_getD,List.getElem?_replicate]
  split <;> rfl
 have hl:(List.replicate ps.length (0:Int)).length=ps.length:=List.length_replicate
 refine isF_iff.2 ⟨hl,(inRange_iff hl).2 fun p hp => ?_,closed_iff.2 fun p hp i hi hk hle => ?_⟩
 ·rw[e];omega
 ·rw[e] at hle;omega
theorem mem_levF {ps:List Pr} (hv:validF ps=true):∀(k:Nat) (c:List Int),c ∈ levF ps k↔isF ps c=true∧c.sum=k
 | 0,c=>by
  show c ∈ [List.replicate ps.length 0]↔_
  rw[List.mem_singleton]
  constructor
  ·rintro rfl
   refine⟨isF_zero,?_⟩
   have:∀n,(List.replicate n (0:Int)).sum=0:=fun n=>by
    induction n with
    | zero=>rfl
    | succ n ih=>rw[List.replicate_succ,List.sum_cons,ih];rfl
   rw[this];rfl
  ·rintro⟨h,hs⟩
   obtain⟨h1,h2,h3⟩:=isF_iff.1 h
   have hn:=isF_nonneg h
   apply List.ext_getElem (by rw[h1,List.length_replicate])
   intro i hi hi2
   have:=sum_ge c hn (List.getElem_mem hi)
   have:=hn _ (List.getElem_mem hi)
   rw[List.getElem_replicate]
   rw[hs] at *
   omega
 | k+1,c=>by
  show c ∈ moreT ps (levF ps k)↔_
  unfold moreT
  rw[mem_more]
  constructor
  ·rintro(h|⟨d,hd,hc⟩)
   ·cases h
   ·obtain⟨p,hp,_,h2,rfl⟩:=mem_nextL.1 hc
    have:=((mem_levF hv k d).1 hd).2
    exact⟨h2,by rw[sum_stpC hp,this];omega⟩
  ·rintro⟨h,hs⟩
   obtain⟨h1,h2,h3⟩:=isF_iff.1 h
   have hn:=isF_nonneg h
   have hpos:∃p,p<ps.length∧0<cAt c p:=by
    by_cases hx:∃p,p<ps.length∧0<cAt c p
    ·exact hx
    ·exfalso
     have:∀z ∈ c,z=0:=fun z hz=>by
      obtain⟨p,hp,rfl⟩:=List.getElem_of_mem hz
      have:=hn _ hz
      have h4:¬0<cAt c p:=fun h=>hx ⟨p,by omega,h⟩
      rw[cAt_nat hp] at h4
      omega
     have e:c.sum=0:=by
      clear hs hn h hx h1 h2 h3
      induction c with
      | nil=>rfl
      | cons a c ih =>
       rw[List.sum_cons,this a List.mem_cons_self,ih fun z hz=>this z (List.mem_cons_of_mem _ hz)];rfl
     omega
   obtain⟨p,hp,hp0,r1,r2⟩:=cut_remove hv h1 h2 h3 hpos
   have hpc:p<c.length:=by omega
   have hdl:(c.set p (cAt c p - 1)).length=c.length:=List.length_set
   have hst:stpC (c.set p (cAt c p - 1)) p=c:=by
    unfold stpC
    rw[setc_cAt hpc,if_pos rfl,List.set_set,show cAt c p - 1+1=cAt c p by omega,cAt_nat hpc,List.set_getElem_self]
   refine .inr ⟨c.set p (cAt c p - 1),(mem_levF hv k _).2 ⟨isF_iff.2 ⟨by rw[hdl,h1],r1,r2⟩,?_⟩,mem_nextL.2 ⟨p,by omega,?_,by rw[hst];exact h,hst.symm⟩⟩
   ·have:=sum_stpC (c:=c.set p (cAt c p - 1)) (p:=p) (by omega)
    rw[hst] at this;omega
   ·rw[setc_cAt hpc,if_pos rfl,nev_get hp]
    have:=((inRange_iff h1).1 h2 p hp).2
    omega
theorem sum_totC:∀ {c:List Int},(∀z ∈ c,0≤z)→c.sum=totC c
 | [],_=>rfl
 | a :: c,h=>by
  have h0:=h a List.mem_cons_self
  have:=sum_totC (c:=c) fun z hz=>h z (List.mem_cons_of_mem _ hz)
  unfold totC at *
  rw[List.sum_cons,List.map_cons,List.sum_cons,this]
  omega
theorem sum_le_off {ps:List Pr} {c:List Int} (h:isF ps c=true):c.sum≤off ps ps.length:=by
 obtain⟨h1,h2,_⟩:=isF_iff.1 h
 have h3:=totC_le h1 h2
 have h4:=sum_totC (isF_nonneg h)
 omega
theorem levF_end {ps:List Pr} (hv:validF ps=true) {k:Nat} (h:off ps ps.length<k):levF ps k=[]:=by
 rw[List.eq_nil_iff_forall_not_mem]
 intro c hc
 obtain⟨h1,h2⟩:=(mem_levF hv k c).1 hc
 have:=sum_le_off h1
 omega
theorem levF_nil {ps:List Pr} {k:Nat} (h:levF ps k=[]):∀j,levF ps (k+j)=[]
 | 0=>h
 | j+1=>by
  show moreT ps (levF ps (k+j))=[]
  rw[levF_nil h j];rfl
def cumF (ps:List Pr) (k:Nat):List (List Int):=(List.range k).flatMap (levF ps)
theorem cumF_succ (ps:List Pr) (k:Nat):cumF ps (k+1)=cumF ps k ++ levF ps k:=by unfold cumF;rw[List.range_succ,List.flatMap_append];simp
def cutsF (ps:List Pr):List (List Int):=cumF ps (off ps ps.length+1)
theorem cumF_mono {ps:List Pr} {j:Nat} : ∀ {k:Nat},j≤k→(cumF ps j).length≤(cumF ps k).length
 | 0,h=>by
  have:j=0:=by omega
  subst this;exact Nat.le_refl _
 | k+1,h=>by
  by_cases e:j=k+1
  ·subst e;exact Nat.le_refl _
  ·have:=cumF_mono (ps:=ps) (j:=j) (k:=k) (by omega)
   rw[cumF_succ,List.length_append];omega
theorem cumF_end {ps:List Pr} {j:Nat} (h:levF ps j=[]):∀m,cumF ps (j+m)=cumF ps j
 | 0=>rfl
 | m+1=>by
  show cumF ps ((j+m)+1)=_
  rw[cumF_succ,levF_nil h m,List.append_nil,cumF_end h m]
end Go.AL
end
section
namespace Go.AL
open Go Go.RowKit
set_option maxRecDepth 4000
theorem lexF_iff:∀ {a b:List Int},a.length=b.length→(lexF a b=true↔cmpL a b<0)
 | [],[],_=>by simp [lexF,cmpL]
 | [],_ :: _,h=>by simp at h
 | _ :: _,[],h=>by simp at h
 | x :: a,y :: b,h=>by
  rw[cmpL_cons]
  unfold lexF
  by_cases e:x=y
  ·subst e
   rw[if_pos rfl,if_neg (by omega),if_neg (by omega)]
   exact lexF_iff (by simpa using h)
  ·rw[if_neg e,decide_eq_true_eq]
   by_cases c:x<y
   ·rw[if_pos c];omega
   ·rw[if_neg c,if_pos (by omega)];omega
def Asc (l:List (List Int)):Prop:=l.Pairwise fun x y=>cmpL x y<0
theorem asc_eq {l m:List (List Int)} (h1:Asc l) (h2:Asc m) (h:∀x,x ∈ l↔x ∈ m):l=m:=by
 have hn:∀ {l:List (List Int)},Asc l→l.Nodup:=fun {l} h=>h.imp fun {a b} hab e=>by subst e;rw[cmpL_irr] at hab;omega
 have hp:l.Perm m:=(List.perm_ext_iff_of_nodup (hn h1) (hn h2)).2 h
 exact hp.eq_of_pairwise (fun a b _ _ h3 h4=>absurd (cmpL_trans _ _ _ h3 h4) (by rw[cmpL_irr];omega)) h1 h2
theorem asc_comp (l:List (List Int)):Asc (compL (sortL l)):=compN_pair (sortBy_pair swoL l) _ (Nat.le_refl _)
theorem mem_comp {l:List (List Int)} {x:List Int} : x ∈ compL (sortL l)↔x ∈ l:=by rw[compL_mem];exact(sortBy_perm cmpL l).mem_iff
theorem asc_ins {l:List (List Int)} {c:List Int} (h:Asc l) (hl:∀x ∈ l,x.length=c.length∧x.sum=c.sum):Asc (insF l c):=by
 have hb:∀x ∈ l,(befF x c=true↔cmpL x c<0):=fun x hx=>by
  unfold befF;rw[if_pos (hl x hx).2];exact lexF_iff (hl x hx).1
 unfold insF
 have hsp:=List.takeWhile_append_dropWhile (p:=fun x=>befF x c) (l:=l)
 split
 ·exact h
 ·rename_i hh
  generalize ht:l.takeWhile (fun x=>befF x c)=t at *
  generalize hd:l.dropWhile (fun x=>befF x c)=d at *
  have htm:∀x ∈ t,cmpL x c<0:=fun x hx=>by
   have h1:x ∈ l:=by rw[← hsp];exact List.mem_append_left _ hx
   refine(hb x h1).1 ?_
   have:=List.all_takeWhile (p:=fun x=>befF x c) (l:=l)
   rw[ht] at this
   exact List.all_eq_true.1 this x hx
  unfold Asc at h ⊢
  rw[← hsp,List.pairwise_append] at h
  obtain⟨a1,a2,a3⟩:=h
  have hdm:∀y ∈ d,cmpL c y<0:=fun y hy=>by
   cases d with
   | nil=>cases hy
   | cons z d =>
    have hz:cmpL c z<0:=by
     have hzl:z ∈ l:=by rw[← hsp];simp
     have hf:¬befF z c=true:=by
      have:=List.head?_dropWhile_not (fun x=>befF x c) l
      rw[hd] at this
      simpa using this
     by_cases e:cmpL c z<0
     ·exact e
     ·exact absurd (congrArg some (cmpL_anti z c (fun h=>hf ((hb z hzl).2 h)) e)) hh
    rcases List.mem_cons.1 hy with rfl|hy
    ·exact hz
    ·exact cmpL_trans _ _ _ hz (List.rel_of_pairwise_cons a2 hy)
  rw[List.pairwise_append,List.pairwise_cons]
  refine⟨a1,⟨hdm,a2⟩,fun x hx y hy => ?_⟩
  rcases List.mem_cons.1 hy with rfl|hy
  ·exact htm x hx
  ·exact a3 x hx y hy
theorem asc_insL {n:Nat} {s:Int} : ∀ {l acc:List (List Int)},Asc acc→(∀x ∈ acc,x.length=n∧x.sum=s)→(∀x ∈ l,x.length=n∧x.sum=s)→Asc (insL acc l)
 | [],_,h,_,_=>h
 | c :: l,acc,h,h1,h2=>by
  have hc:=h2 c List.mem_cons_self
  show Asc (insL (insF acc c) l)
  refine asc_insL (asc_ins h fun x hx=>by have:=h1 x hx;omega) (fun x hx => ?_) fun x hx=>h2 x (List.mem_cons_of_mem _ hx)
  rcases mem_insF.1 hx with hx|rfl
  ·exact h1 x hx
  ·exact hc
theorem asc_lev {ps:List Pr} (hv:validF ps=true):∀k,Asc (levF ps k)
 | 0=>List.pairwise_singleton _ _
 | k+1=>by
  have hm:∀(lv acc:List (List Int)),(∀c ∈ lv,isF ps c=true∧c.sum=k)→Asc acc→(∀x ∈ acc,x.length=ps.length∧x.sum=k+1)→Asc (lv.foldl (fun acc c=>insL acc (nextL ps c)) acc):=by
   intro lv
   induction lv with
   | nil=>intro acc _ h _;exact h
   | cons c lv ih =>
    intro acc h1 h2 h3
    have hc:=h1 c List.mem_cons_self
    have hnx:∀x ∈ nextL ps c,x.length=ps.length∧x.sum=k+1:=fun x hx=>by
     obtain⟨p,hp,_,h4,rfl⟩:=mem_nextL.1 hx
     exact⟨(isF_iff.1 h4).1,by rw[sum_stpC hp,hc.2]⟩
    refine ih _ (fun d hd=>h1 d (List.mem_cons_of_mem _ hd)) (asc_insL h2 h3 hnx) fun x hx => ?_
    rcases mem_insL.1 hx with hx|hx
    ·exact h3 x hx
    ·exact hnx x hx
  exact hm (levF ps k) [] (fun c hc=>(mem_levF hv k c).1 hc) List.Pairwise.nil fun x hx=>by cases hx
theorem next_lev {ps:List Pr} (hv:validF ps=true) (k:Nat) {l:List (List Int)} (h:∀x,x ∈ l↔∃c ∈ levF ps k,x ∈ nextL ps c):compL (sortL l)=levF ps (k+1):=by
 refine asc_eq (asc_comp l) (asc_lev hv (k+1)) fun x => ?_
 rw[mem_comp,h]
 show _↔x ∈ moreT ps (levF ps k)
 unfold moreT
 rw[mem_more]
 simp
end Go.AL
end
section
namespace Go.AL
open Go Go.RowKit Go.Sort Go.Proofs Go.Shelf
set_option maxRecDepth 4000
theorem bits_zero:PC Proofs.Tryz.prog 157 [.v (.int .u64 0)] (ai 0):=by
 refine PC.same (vs:=[.int .u64 0]) (enters_of Proofs.Tryz.func157 rfl rfl) (fun w A us h => ?_) fun w => ?_
 ·obtain⟨u,us,rfl,h1,h2⟩:=h.inv_cons
  obtain rfl:=h2.inv_nil
  rw[h1.inv_v]
 ·have L:=sortRows
  have h:=Any.bits_Len (SlLaysF0.n15.bits (P:=Proofs.Tryz.prog) (ρ:=sortRows_ren) { L with }) 0 w (by omega) (by omega)
  exact h
theorem insert_nil (g:FuncId):PC Proofs.Tryz.prog 159 [anil,ai 0,ai 0,.v (.func (.func g) #[] #[])] (.tup []):=by
 refine PC.enter 53 [] [] Proofs.Tryz.func159 rfl rfl rfl rfl rfl (by simp) (AWp.of ?_);simp only[go_sem]
 refine Wk ?_
 refine AWp.block (AWp.loopN [8] [0,1,2,3] (fun _ vs L=>L=[]∧vs=[ai 1]) 0 ⟨rfl,rfl⟩ ?_)
 rintro m vs L - ⟨rfl,rfl⟩
 simp only[go_sem]
 refine Wk ?_
 intro _
 refine ret_eq ?_;simp only[go_sem]
theorem pdq_nil (g:FuncId):PC Proofs.Tryz.prog 156 [anil,ai 0,ai 0,ai 0,.v (.func (.func g) #[] #[])] (.tup []):=by
 refine PC.enter 148 [] [] Proofs.Tryz.func156 rfl rfl rfl rfl rfl (by simp) (AWp.of ?_);simp only[go_sem]
 refine Wk ?_
 refine AWp.block (AWp.loopN [1,2,3,10,11] [0,4] (fun _ vs L=>L=[]∧vs=[ai 0,ai 0,ai 0,ab true,ab true]) 0 ⟨rfl,rfl⟩ ?_)
 rintro m vs L - ⟨rfl,rfl⟩
 simp only[go_sem]
 refine Wk ?_
 refine⟨fun h => ?_,fun h => ?_⟩
 ·refine Wk ?_
  refine Sd ?_
  refine(insert_nil g).val.use ?_;simp only[go_sem]
  refine Wk ?_
  refine ret_eq ?_;simp only[go_sem]
 ·exact absurd (by omega) h
theorem sort_nil (g:FuncId):PC Proofs.Tryz.prog 146 [anil,.v (.func (.func g) #[] #[])] (.tup []):=by
 refine PC.enter 14 [] [] Proofs.Tryz.func146 rfl rfl rfl rfl rfl (by simp) (AWp.of ?_);simp only[go_sem]
 refine Wk ?_
 refine Sd ?_
 refine(bits_zero).val.use ?_;simp only[go_sem]
 refine Wk ?_
 refine Sd ?_
 refine(pdq_nil g).val.use ?_;simp only[go_sem]
 refine Wk ?_
 refine ret_eq ?_;simp only[go_sem]
theorem compact_nil (g:FuncId):PC Proofs.Tryz.prog 149 [anil,.v (.func (.func g) #[] #[])] anil:=by
 refine PC.enter 66 [.tmp 4] [] Proofs.Tryz.func149 rfl rfl rfl rfl rfl (by simp) (AWp.of ?_);simp only[go_sem]
 refine Wk ?_
 refine⟨fun h => ?_,fun h => ?_⟩
 ·refine Wk ?_
  refine ret_eq ?_;simp only[go_sem]
 ·exact absurd (by omega) h
end Go.AL
end
section
namespace Go.AL
open Go Go.RowKit
set_option maxRecDepth 4000
def needE (ps:List Pr) (e:Ev):Eid:=if e.kind=3 then sndr ps e.msg else (0,0)
def aNeeds (ps:List Pr) (l:List Pr):List AV:=l.map fun x=>aEids (x.evs.map (needE ps))
def aMk (ps:List Pr):AV:=.agg [.sl 1 (ps.map fun x=>ai (x.evs.length:Nat)),.sl 1 (aNeeds ps ps)]
theorem AppSt.snoc {t:TypeId} {k:Nat} {ys:List AV} {x:AV} (b cap n:Nat) (hn:n=ys.length+1):AppSt t k (ys ++ [x]) (.ls b k 0 n cap) [(b,.row t k (ys ++ [x]) cap)]:=by
 subst hn
 have:=AppSt.row (t:=t) (k:=k) b (ys ++ [x]) cap
 rwa [List.length_append] at this
def mkL (ps:List Pr) (b2 b3 p:Nat) (L:AHeap):Prop :=
 (p=0∧L=[(b3,.row 107 2 [.agg [anil,anil]] 1),(b2,.row 107 2 [.agg [anil,anil]] 1)]) ∨
 ∃c1 c2 cap1 cap2,(¬c1=b3∧¬c1=b2∧¬c2=b3∧¬c2=b2∧¬c1=c2)∧L=[(c2,.row 50 1 (aNeeds ps (ps.take p)) cap2),(c1,.row 3 1 ((ps.take p).map fun x=>ai (x.evs.length:Nat)) cap1),
  (b3,.row 107 2 [.agg [.ls c1 1 0 p cap1,.ls c2 1 0 p cap2]] 1),(b2,.row 107 2 [.agg [anil,anil]] 1)]
theorem cuts_of (ps:List Pr) (hs:Sm ps) (hv:validF ps=true):PC Proofs.Tryz.prog 55 [aTr ps] (aMk ps):=by
 obtain⟨hl1,hl8⟩:=valid_len hv
 have hfs:∀m,findV ps 2 m=sndr ps m:=fun m=>by unfold findV sndr;rw[if_pos hv]
 have hsd:=trace_Sender ps hs
 simp only[hfs] at hsd
 refine PC.enter 55 [.cell 2 107] [1,5,8,9,36,44,50] Proofs.Tryz.func55 rfl rfl rfl rfl rfl (by simp) (AWp.of ?_);simp only[go_sem]
 intro b2
 refine Wk ?_
 intro b3 g1
 have n1:¬b3=b2:=by omega
 have n2:¬b2=b3:=by omega
 refine W2 n1 n2 ?_
 refine AWp.range' ps.length [] [1,2,3,11,12] (fun p vs L=>vs=[]∧mkL ps b2 b3 p L) (by omega) rfl rfl rfl ⟨rfl,.inl ⟨rfl,rfl⟩⟩ ?_ ?_
 ·rintro p vs L hp - ⟨rfl,hL⟩
  have hgp:=getD_map (f:=aPr) hp
  simp only[go_sem]
  refine W1 hgp ?_
  intro b5 g5
  have hel:=hs.evs _ (List.getElem_mem hp)
  refine Sd ?_
  refine AWp.of ?_;simp only[go_sem]
  refine AWp.cutF [1,2,3,5,6,11,12,13] (fun vs L1=>∃v,AppSt 54 2 ((ps[p].evs.map (needE ps)).map aEid) v L1 ∧
   vs=[.rp 1 [aTr ps] 0 0,.lp b2 2 0 0,.lp b3 2 0 0,.rp 3 [aPr ps[p]] 0 0,v,aPrs ps,ai (ps.length:Nat),ai (p:Nat)]) ?_ ?_
  ·refine Wk ?_
   refine AWp.range' ps[p].evs.length [6] [1,2,3,5,11,12,13,18,19] (fun i vs L=>∃v,vs=[v]∧AppSt 54 2 (((ps[p].evs.take i).map (needE ps)).map aEid) v L) (by omega) rfl rfl rfl ⟨anil,rfl,by rw[List.take_zero];exact .nil⟩ ?_ ?_
   ·rintro i vs L hi - ⟨v,rfl,hA⟩
    have hge:=getD_map (f:=aEv) hi
    have hne:needE ps ps[p].evs[i]=if ps[p].evs[i].kind=3 then sndr ps ps[p].evs[i].msg else (0,0):=rfl
    have hsn:=hsd ps[p].evs[i].msg
    have htk:((ps[p].evs.take (i+1)).map (needE ps)).map aEid=((ps[p].evs.take i).map (needE ps)).map aEid ++ [aEid (needE ps ps[p].evs[i])]:=by
     rw[List.take_succ_eq_append_getElem hi,List.map_append,List.map_append];rfl
    have hyl:(((ps[p].evs.take i).map (needE ps)).map aEid).length=i:=by simp;omega
    rw[htk]
    generalize ((ps[p].evs.take i).map (needE ps)).map aEid=ys at *
    generalize needE ps ps[p].evs[i]=ne at *
    rcases hA.inv with ⟨e1,rfl,rfl⟩|⟨bq,capq,rfl,rfl⟩
    ·simp only[go_sem]
     refine W1 hge ?_
     intro b8
     refine Wk ?_
     intro b9
     refine Wk ?_
     refine⟨fun h3 => ?_,fun h3 => ?_⟩
     ·rw[if_pos h3] at hne
      subst hne
      generalize sndr ps ps[p].evs[i].msg=sx at *
      obtain⟨s1,s2⟩:=sx
      refine Sd ?_
      refine(hsn).val.use ?_;simp only[go_sem]
      refine Wk ?_
      intro b' cap' hc'
      exact⟨_,List.cons_sublist_cons.2 (List.nil_sublist _),_,rfl,by rw[e1];exact .row b' [_] cap'⟩
     ·rw[if_neg h3] at hne
      subst hne
      refine Wk ?_
      intro b' cap' g' hc'
      exact⟨_,List.cons_sublist_cons.2 (List.nil_sublist _),_,rfl,by rw[e1];exact .row b' [_] cap'⟩
    ·simp only[go_sem]
     refine W1 hge ?_
     intro b8 g8
     refine Wk ?_
     intro b9 g9
     have n3:¬b9=bq:=by omega
     have n4:¬bq=b9:=by omega
     refine W2 n3 n4 ?_
     refine⟨fun h3 => ?_,fun h3 => ?_⟩
     ·rw[if_pos h3] at hne
      subst hne
      generalize sndr ps ps[p].evs[i].msg=sx at *
      obtain⟨s1,s2⟩:=sx
      refine Sd ?_
      refine(hsn).val.use ?_;simp only[go_sem]
      refine W2 n3 n4 ?_
      intro b' cap' hc'
      exact⟨_,List.cons_sublist_cons.2 (List.nil_sublist _),_,rfl,AppSt.snoc b' cap' _ rfl⟩
     ·rw[if_neg h3] at hne
      subst hne
      refine W2 n3 n4 ?_
      intro b' cap' g' hc'
      exact⟨_,List.cons_sublist_cons.2 (List.nil_sublist _),_,rfl,AppSt.snoc b' cap' _ rfl⟩
   ·rintro vs L - ⟨v,rfl,hA⟩
    rw[List.take_length] at hA
    simp only[go_sem]
    exact⟨L,List.Sublist.refl _,v,hA,rfl⟩
  ·rintro vs L1 - ⟨v,hA,rfl⟩
   simp only[go_sem]
   refine AWp.viewA (j:=6) hA rfl ?_
   clear g5
   have hs1:((ps.take (p+1)).map fun x=>ai (x.evs.length:Nat))=((ps.take p).map fun x=>ai (x.evs.length:Nat)) ++ [ai (ps[p].evs.length:Nat)]:=by
    rw[List.take_succ_eq_append_getElem hp,List.map_append];rfl
   have hs2:aNeeds ps (ps.take (p+1))=aNeeds ps (ps.take p) ++ [.sl 2 ((ps[p].evs.map (needE ps)).map aEid)]:=by
    unfold aNeeds;rw[List.take_succ_eq_append_getElem hp,List.map_append];rfl
   have hy1:((ps.take p).map fun x=>ai (x.evs.length:Nat)).length=p:=by simp;omega
   have hy2:(aNeeds ps (ps.take p)).length=p:=by simp [aNeeds];omega
   unfold mkL
   rw[hs1,hs2]
   generalize ((ps[p].evs.map (needE ps)).map aEid)=ne at *
   rcases hL with ⟨rfl,rfl⟩|⟨c1,c2,cap1,cap2,⟨d1,d2,d3,d4,d5⟩,rfl⟩
   ·have e1:=List.eq_nil_of_length_eq_zero hy1
    have e2:=List.eq_nil_of_length_eq_zero hy2
    rw[e1,e2]
    simp only[go_sem]
    refine W2 n1 n2 ?_
    intro c1 k1 h31 h21 hk1
    have d1:¬c1=b3:=by omega
    have d2:¬c1=b2:=by omega
    have d7:¬b3=c1:=by omega
    have d9:¬b2=c1:=by omega
    simp only[go_sem,d1,d2,d7,d9]
    refine W6 n1 n2 d1 d2 d7 d9 ?_
    intro c2 k2 h12 h32 h22 hk2
    have d3:¬c2=b3:=by omega
    have d4:¬c2=b2:=by omega
    have d5:¬c1=c2:=by omega
    have d8:¬b3=c2:=by omega
    simp only[go_sem,d8]
    exact⟨_,List.Sublist.refl _,c1,c2,k1,k2,⟨d1,d2,d3,d4,d5⟩,rfl⟩
   ·generalize ((ps.take p).map fun x=>ai (x.evs.length:Nat))=ys1 at *
    generalize aNeeds ps (ps.take p)=ys2 at *
    have ht1:ys1.take p=ys1:=List.take_of_length_le (by omega)
    have ht2:ys2.take p=ys2:=List.take_of_length_le (by omega)
    have d6:¬c2=c1:=fun e=>d5 e.symm
    have d7:¬b3=c1:=fun e=>d1 e.symm
    have d8:¬b3=c2:=fun e=>d3 e.symm
    have d9:¬b2=c1:=fun e=>d2 e.symm
    have d10:¬b2=c2:=fun e=>d4 e.symm
    repeat(first|((with_reducible refine AWp.ofC ?_ ?_);exact rfl;simp only[go_sem,n1,n2,d1,d2,d3,d4,d5,d6,d7,d8,d9,d10,ht1,ht2])|((with_reducible refine an ?_ ?_);exact Au))
    intro x1 k1 h21 h31 h41 hk1
    have d1:¬x1=b3:=fun e=>h31 e.symm
    have d2:¬x1=b2:=fun e=>h41 e.symm
    have d11:¬x1=c2:=fun e=>h21 e.symm
    simp only[go_sem,h31,h41,h21,d1,d2,d11]
    repeat(first|((with_reducible refine AWp.ofC ?_ ?_);exact rfl;simp only[go_sem,n1,n2,d1,d2,d3,d4,d8,d10,d11,h31,h41,h21,ht1,ht2])|((with_reducible refine an ?_ ?_);exact Au))
    intro x2 k2 h12 h32 h42 hk2
    simp only[go_sem,h32]
    exact⟨_,List.Sublist.refl _,x1,x2,k1,k2,⟨d1,d2,fun e=>h32 e.symm,fun e=>h42 e.symm,h12⟩,rfl⟩
 ·rintro vs L - ⟨rfl,hL⟩
  rcases hL with ⟨h0,rfl⟩|⟨c1,c2,cap1,cap2,⟨d1,d2,d3,d4,d5⟩,rfl⟩
  ·omega
  have d6:¬c2=c1:=fun e=>d5 e.symm
  have d7:¬b3=c1:=fun e=>d1 e.symm
  have d8:¬b3=c2:=fun e=>d3 e.symm
  have d9:¬b2=c1:=fun e=>d2 e.symm
  have d10:¬b2=c2:=fun e=>d4 e.symm
  rw[List.take_length]
  have hy1:(ps.map fun x=>ai (x.evs.length:Nat)).length=ps.length:=List.length_map _
  have hy2:(aNeeds ps ps).length=ps.length:=List.length_map _
  unfold aMk
  generalize (ps.map fun x=>ai (x.evs.length:Nat))=ys1 at *
  generalize aNeeds ps ps=ys2 at *
  simp only[go_sem]
  repeat(first|((with_reducible refine AWp.ofC ?_ ?_);exact rfl;simp only[go_sem,n1,n2,d1,d2,d3,d4,d5,d6,d7,d8,d9,d10])|((with_reducible refine an ?_ ?_);exact Au))
  refine ret_view [true,true,true,true] ?_;simp only[go_sem]
  simp only[go_sem,n2,d9,d10]
  exact .mkAgg (Vws.cons (Vw.ofLs (t:=3) (cap:=cap1) (by simp only[lk,d5,if_false,if_true]) hy1.symm) (Vws.cons (Vw.ofLs (t:=50) (cap:=cap2) (if_pos rfl) hy2.symm) .nil))
theorem cAt_stp {c:List Int} {p q:Nat} (hq:q<c.length):cAt (stpC c p) q=if p=q then cAt c q+1 else cAt c q:=by
 unfold stpC
 rw[setc_cAt hq]
 split
 ·rename_i e;rw[e]
 ·rfl
theorem stp_iff {ps:List Pr} (hv:validF ps=true) {c:List Int} (hc:isF ps c=true) {p:Nat} (hp:p<ps.length) {i:Nat} (hi:i<ps[p].evs.length) (hci:cAt c p=i) :
  isF ps (stpC c p)=true↔(needE ps ps[p].evs[i]).2≤cAt c (needE ps ps[p].evs[i]).1:=by
 obtain⟨h1,h2,h3⟩:=isF_iff.1 hc
 have hm:=(valid_parts hv).2.2
 have hr:=(inRange_iff h1).1 h2
 have hlen:(stpC c p).length=ps.length:=by unfold stpC;rw[List.length_set,h1]
 have hmono:∀q,q<ps.length→cAt c q≤cAt (stpC c p) q:=fun q hq=>by rw[cAt_stp (by omega)];split <;> omega
 unfold needE
 constructor
 ·intro h
  obtain⟨_,_,g3⟩:=isF_iff.1 h
  by_cases hk:ps[p].evs[i].kind=3
  ·rw[if_pos hk]
   have:=closed_iff.1 g3 p hp i hi hk (by rw[cAt_stp (by omega),if_pos rfl,hci];omega)
   obtain⟨s,hs,j,hj,e,hk2,_⟩:=sndr_some (recv_sndr hm hp hi hk)
   rw[e] at this ⊢
   dsimp only at this ⊢
   rw[cAt_stp (by omega)] at this
   split at this
   ·rename_i es;subst es
    by_cases hji:j=i
    ·subst hji;omega
    ·omega
   ·exact this
  ·rw[if_neg hk]
   have:=(hr 0 (by omega)).1
   simpa using this
 ·intro h
  refine isF_iff.2 ⟨hlen,(inRange_iff hlen).2 fun q hq => ?_,closed_iff.2 fun q hq i' hi' hk hle => ?_⟩
  ·have:=hr q hq
   rw[cAt_stp (by omega)]
   split
   ·rename_i e;subst e;omega
   ·exact this
  ·obtain⟨s,hs,j,hj,e,hk2,_⟩:=sndr_some (recv_sndr hm hq hi' hk)
   have hms:=hmono s hs
   by_cases hnew:q=p∧i'=i
   ·obtain⟨rfl,rfl⟩:=hnew
    rw[if_pos hk,e] at h
    rw[e];dsimp only at h ⊢;omega
   ·have:=closed_iff.1 h3 q hq i' hi' hk (by
     rw[cAt_stp (by omega)] at hle
     split at hle
     ·rename_i e2;subst e2
      have:i' ≠ i:=fun e=>hnew ⟨rfl,e⟩
      omega
     ·exact hle)
    rw[e] at this ⊢;dsimp only at this ⊢;omega
def rdyF (ps:List Pr) (c:List Int) (p:Nat):Bool:=decide (cAt c p<nev ps p∧isF ps (stpC c p)=true)
theorem need_in {ps:List Pr} (hv:validF ps=true) {p:Nat} (hp:p<ps.length) {i:Nat} (hi:i<ps[p].evs.length):0≤(needE ps ps[p].evs[i]).1∧(needE ps ps[p].evs[i]).1<ps.length:=by
 have hm:=(valid_parts hv).2.2
 unfold needE
 split
 ·rename_i hk
  obtain⟨s,hs,j,hj,e,hk2,_⟩:=sndr_some (recv_sndr hm hp hi hk)
  rw[e];dsimp only;omega
 ·dsimp only;omega
theorem maker_ready (ps:List Pr) (hs:Sm ps) (hv:validF ps=true) (c:List Int) (hc:isF ps c=true) (p:Nat) (hp:p<ps.length):PC Proofs.Tryz.prog 145 [aMk ps,aInts c,ai (p:Nat)] (ab (rdyF ps c p)):=by
 obtain⟨h1,h2,h3⟩:=isF_iff.1 hc
 have hr:=(inRange_iff h1).1 h2 p hp
 obtain⟨i,hci⟩:∃i:Nat,cAt c p=i:=⟨(cAt c p).toNat,by omega⟩
 have hpc:p<c.length:=by omega
 have hcp:c[p]=(i:Int):=by rw[← cAt_nat hpc];exact hci
 have hel:=hs.evs _ (List.getElem_mem hp)
 have g1:(c.map ai).getD p .any=ai i:=by rw[getD_map hpc,hcp]
 have g2:(ps.map fun x=>ai (x.evs.length:Nat)).getD p .any=ai (ps[p].evs.length:Nat):=getD_map (f:=fun x:Pr=>ai (x.evs.length:Nat)) hp
 have g3:(aNeeds ps ps).getD p .any=aEids (ps[p].evs.map (needE ps)):=getD_map (f:=fun x:Pr=>aEids (x.evs.map (needE ps))) hp
 have hnl:(aNeeds ps ps).length=ps.length:=List.length_map _
 have hrd:rdyF ps c p=decide (i<ps[p].evs.length∧isF ps (stpC c p)=true):=by
  unfold rdyF;rw[hci,nev_get hp];congr 2;exact propext ⟨fun h=>by omega,fun h=>by omega⟩
 rw[hrd]
 unfold aMk
 refine PC.enter 37 [.tmp 6] [3,7] Proofs.Tryz.func145 rfl rfl rfl rfl rfl (by simp) (AWp.of ?_);simp only[go_sem]
 refine W3 g1 g2 hnl ?_
 refine AWp.seq (AWp.seq ?_)
 repeat(first|(with_reducible refine AWp.seq ?_)|(with_reducible refine AWp.block ?_))
 refine AWp.read mixed [0,1,2,3,4,5,6,7,8,9] (by kernel_rfl) ?_;simp only[go_sem,g1,g2]
 refine Sd ?_
 refine Wk ?_
 refine⟨fun h => ?_,fun h => ?_⟩
 ·have:(decide (i<ps[p].evs.length) && isF ps (stpC c p))=false:=by rw[decide_eq_false (by omega)];rfl
  rw[this]
  refine Wk ?_
  refine ret_eq ?_;simp only[go_sem]
 ·have hi:i<ps[p].evs.length:=by
   have h5:=hr.2
   rw[hci] at h5
   omega
  have hst:=stp_iff hv hc hp hi hci
  have hin:=need_in hv hp hi
  have g4:((ps[p].evs.map (needE ps)).map aEid).getD i .any=aEid (needE ps ps[p].evs[i]):=by rw[List.map_map];exact getD_map (f:=fun e=>aEid (needE ps e)) hi
  have g5:((ps[p].evs.map (needE ps)).map aEid).length=ps[p].evs.length:=by rw[List.length_map,List.length_map]
  have e1:decide (i<ps[p].evs.length)=true:=decide_eq_true hi
  have e2:isF ps (stpC c p)=decide ((needE ps ps[p].evs[i]).2≤cAt c (needE ps ps[p].evs[i]).1):=by
   by_cases hb:isF ps (stpC c p)=true
   ·rw[hb];exact(decide_eq_true (hst.1 hb)).symm
   ·rw[Bool.not_eq_true] at hb
    rw[hb];exact(decide_eq_false fun h=>by rw[hst.2 h] at hb;cases hb).symm
  rw[e1,e2,Bool.true_and]
  generalize needE ps ps[p].evs[i]=ne at *
  obtain⟨n1,n2⟩:=ne
  have g6:=getD_cAt (c:=c) hin.1 (by omega)
  dsimp only at hin
  refine Wk ?_
  refine AWp.seq ?_
  repeat(first|(with_reducible refine AWp.seq ?_)|(with_reducible refine AWp.block ?_))
  refine AWp.mix mixed [0,1,2,3,4,5,6,7,8,9,10] (.step 11 (.step 12 .done .done) .done) (by kernel_rfl) ?_;simp only[go_sem,g1,g3,g4,g5,hnl]
  refine Sd ?_
  intro b7
  refine AWp.seq ?_
  repeat(first|(with_reducible refine AWp.seq ?_)|(with_reducible refine AWp.block ?_))
  refine AWp.read mixed [0,1,2,3,4,5,6,7,8] (by kernel_rfl) ?_;simp only[go_sem,g6]
  refine Sd ?_
  refine Wk ?_
  refine ret_eq ?_;simp only[go_sem]
def chl (ps:List Pr) (lv:List (List Int)) (i:Nat):List (List Int):=(lv.take i).flatMap (nextL ps)
theorem chl_succ {ps:List Pr} {lv:List (List Int)} {i:Nat} (hi:i<lv.length):chl ps lv (i+1)=chl ps lv i ++ nextL ps lv[i]:=by
 unfold chl;rw[List.take_succ_eq_append_getElem hi,List.flatMap_append];simp
theorem chl_len {ps:List Pr} {lv:List (List Int)} (h:∀c ∈ lv,c.length≤8):∀i,i≤lv.length→(chl ps lv i).length≤8 * i
 | 0,_=>by simp [chl]
 | i+1,hi=>by
  have:=chl_len (ps:=ps) h i (by omega)
  have h2:=nextT_len ps lv[i] lv[i].length
  have h3:=h lv[i] (List.getElem_mem _)
  rw[chl_succ (by omega),List.length_append]
  unfold nextL
  omega
theorem mem_chl {ps:List Pr} {lv:List (List Int)} {x:List Int} : x ∈ chl ps lv lv.length↔∃c ∈ lv,x ∈ nextL ps c:=by unfold chl;rw[List.take_length,List.mem_flatMap]
theorem Vw.front {L:AHeap} {b k n c:Nat} {t:TypeId} {xs ws:List AV} {cap:Nat} (h:lk L b=some (.row t k (xs ++ ws) cap)) (hn:n=xs.length):Vw L (.ls b k 0 n c) (.sl k xs):=by
 have e:((xs ++ ws).drop 0).take n=xs:=by rw[List.drop_zero,hn,List.take_left]
 exact .ls h (by rw[List.length_append];omega) (by rw[e]) (by rw[e];exact(Vws.refl xs).2)
theorem maker_next (ps:List Pr) (hs:Sm ps) (hv:validF ps=true) (k:Nat) (hk:(levF ps k).length≤5000):PC Proofs.Tryz.prog 128 [aMk ps,aRows (levF ps k)] (aRows (levF ps (k+1))):=by
 obtain⟨hl1,hl8⟩:=valid_len hv
 have hlev:∀c ∈ levF ps k,isF ps c=true:=fun c h=>((mem_levF hv k c).1 h).1
 have hnl:=next_lev hv k (l:=chl ps (levF ps k) (levF ps k).length) fun x=>mem_chl
 have hcl:=chl_len (ps:=ps) (lv:=levF ps k) fun c hc=>by rw[(isF_iff.1 (hlev c hc)).1];exact hl8
 have hall:∀x ∈ chl ps (levF ps k) (levF ps k).length,x.length≤1000000:=fun x hx=>by
  obtain⟨c,hc,hx⟩:=mem_chl.1 hx
  obtain⟨p,_,_,h4,rfl⟩:=mem_nextL.1 hx
  rw[(isF_iff.1 h4).1];omega
 rw[← hnl]
 clear hnl
 generalize levF ps k=lv at *
 unfold aMk
 refine PC.enter 43 [.tmp 4] [2,35] Proofs.Tryz.func128 rfl rfl rfl rfl rfl (by simp) (AWp.of ?_);simp only[go_sem]
 refine Wk ?_
 refine AWp.range' lv.length [5] [2,10,11] (fun i vs L=>∃v,vs=[v]∧AppSt 25 1 ((chl ps lv i).map aInts) v L) (by omega) rfl rfl rfl ⟨anil,rfl,by exact .nil⟩ ?_ ?_
 ·rintro i vs L hi - ⟨v,rfl,hA⟩
  have hgi:=getD_map (f:=aInts) hi
  have hci:=hlev _ (List.getElem_mem hi)
  have hcli:=hcl i (by omega)
  have hlc:=(isF_iff.1 hci).1
  rw[chl_succ hi]
  have hnx:nextL ps lv[i]=nextT ps lv[i] lv[i].length:=rfl
  rw[hnx]
  generalize lv[i]=c at *
  simp only[go_sem]
  refine W1 hgi ?_
  refine AWp.range' c.length [5] [2,7,10,11,12,17] (fun p vs L=>∃v,vs=[v]∧AppSt 25 1 ((chl ps lv i ++ nextT ps c p).map aInts) v L) (by omega) rfl rfl rfl ⟨v,rfl,by rw[show nextT ps c 0=[] from rfl,List.append_nil];exact hA⟩ ?_ ?_
  ·clear hA
   rintro p vs L hp - ⟨v,rfl,hA⟩
   have hrd:=maker_ready ps hs hv c hci p (by omega)
   have hrl:=nextT_len ps c p
   simp only[go_sem]
   unfold aMk at hrd
   have hn1:nextT ps c (p+1)=nextT ps c p ++ if rdyF ps c p=true then [stpC c p] else []:=by
    rw[nextT_succ];unfold nx1 rdyF;simp only[decide_eq_true_eq]
   rw[hn1]
   have hrg:=(inRange_iff hlc).1 (isF_iff.1 hci).2.1 p (by omega)
   have hel:=hs.evs _ (List.getElem_mem (show p<ps.length by omega))
   have hcp:cAt c p=c[p]:=cAt_nat hp
   have hgp:=getD_map (f:=ai) hp
   have hst:((c.map ai).set p (ai (c[p]+1)))=(stpC c p).map ai:=by unfold stpC;rw[List.map_set,hcp]
   have hsl:(stpC c p).length=c.length:=by unfold stpC;rw[List.length_set]
   generalize nextT ps c p=nt at *
   refine Wk ?_
   refine Sd ?_
   refine(hrd).val.use ?_;simp only[go_sem]
   generalize rdyF ps c p=rb at *
   refine Wk ?_
   refine⟨fun hb => ?_,fun hb => ?_⟩
   ·rw[if_pos hb]
    refine(MVal.frame (Lm:=[]) (Lr:=L) (ints_cloneO c (by omega)).val).mono ?_
    rintro r L' ⟨L1,rfl,hC⟩
    rcases hC.inv with ⟨e1,_,_⟩|⟨bc,capc,rfl,rfl⟩
    ·have:c.length=0:=by simpa using congrArg List.length e1
     omega
    simp only[go_sem,List.length_map]
    refine Sd ?_
    refine AWp.of ?_;simp only[go_sem,hgp]
    refine Sd ?_
    have ez:(chl ps lv i ++ (nt ++ [stpC c p])).map aInts=(chl ps lv i ++ nt).map aInts ++ [aInts (stpC c p)]:=by
     rw[← List.append_assoc,List.map_append];rfl
    have hyl:((chl ps lv i ++ nt).map aInts).length≤8 * 5000+8:=by rw[List.length_map,List.length_append];omega
    rw[ez]
    refine AWp.viewP (Lf:=[(bc,_)]) (Lk:=L) (L':=L) (List.Perm.refl _) (LVw.refl _) [(9,aInts (stpC c p))] (fun q hq => ?_) ?_
    ·obtain rfl:=List.mem_singleton.1 hq
     simp only[go_sem]
     rw[← hst]
     exact Vw.ofLs (t:=3) (cap:=capc) (if_pos rfl) (by simp)
    generalize (chl ps lv i ++ nt).map aInts=ys at *
    generalize stpC c p=d at *
    rcases hA.inv with ⟨e1,rfl,rfl⟩|⟨bq,capq,rfl,rfl⟩
    ·simp only[go_sem]
     refine Wk ?_
     intro b' cap' hc'
     exact⟨_,List.Sublist.refl _,_,rfl,by rw[e1];exact .row b' [_] cap'⟩
    ·simp only[go_sem]
     refine Wk ?_
     intro b' cap' hc'
     exact⟨_,List.Sublist.refl _,_,rfl,AppSt.snoc b' cap' _ rfl⟩
   ·rw[if_neg (by rw[hb];exact Bool.false_ne_true),List.append_nil]
    refine Wk ?_
    exact⟨L,List.Sublist.refl _,v,rfl,hA⟩
  ·rintro vs L - ⟨v,rfl,hA⟩
   simp only[go_sem]
   refine Wk ?_
   exact⟨L,List.Sublist.refl _,v,rfl,hA⟩
 ·rintro vs L - ⟨v,rfl,hA⟩
  have hchl:=hcl lv.length (Nat.le_refl _)
  generalize chl ps lv lv.length=ch at *
  have hsl:(sortL ch).length=ch.length:=(sortBy_perm cmpL ch).length_eq
  have hsm:∀x ∈ sortL ch,x.length≤1000000:=fun x hx=>hall x ((sortBy_perm cmpL ch).mem_iff.1 hx)
  rcases hA.inv with ⟨e1,rfl,rfl⟩|⟨b,cap,rfl,rfl⟩
  ·obtain rfl:ch=[]:=by simpa using e1
   simp only[go_sem]
   refine Wk ?_
   refine Sd ?_
   refine(sort_nil _).val.use ?_;simp only[go_sem]
   refine Wk ?_
   refine Sd ?_
   refine(compact_nil _).val.use ?_;simp only[go_sem]
   refine Wk ?_
   refine ret_view [] ?_;simp only[go_sem]
   rw[List.eq_nil_of_length_eq_zero (l:=sortL []) hsl]
   exact .nil 1
  ·have hso:=sort_rows b cap ch hall (by omega) 25
   have hco:=rows_compact b cap (sortL ch) hsm (by omega)
   rw[hsl] at hco
   generalize sortL ch=sc at *
   simp only[go_sem,List.length_map]
   refine Wk ?_
   refine hso.val.mono ?_
   rintro r L ⟨rfl,rfl⟩
   simp only[go_sem]
   refine Wk ?_
   refine hco.val.mono ?_
   rintro r L ⟨ws,cap',rfl,rfl⟩
   generalize compL sc=cc at *
   simp only[go_sem]
   refine Wk ?_
   refine ret_view [true] ?_;simp only[go_sem]
   exact Vw.front (if_pos rfl) (by rw[List.length_map])
def Cb (c:List Int):Prop:=c.length≤1000000∧∀z ∈ c,0≤z∧z≤1000000
theorem isF_cb {ps:List Pr} (hs:Sm ps) {c:List Int} (h:isF ps c=true):Cb c:=by
 obtain⟨h1,h2,_⟩:=isF_iff.1 h
 have:=hs.procs
 refine⟨by omega,fun z hz=>⟨isF_nonneg h z hz,?_⟩⟩
 obtain⟨p,hp,rfl⟩:=List.getElem_of_mem hz
 have h3:=((inRange_iff h1).1 h2 p (by omega)).2
 have:=hs.evs _ (List.getElem_mem (show p<ps.length by omega))
 rw[cAt_nat hp] at h3
 omega
theorem Vw.ofLs' {L:AHeap} {b k len c:Nat} {t:TypeId} {xs xs':List AV} {cap:Nat} (h:lk L b=some (.row t k xs cap)) (hl:len=xs.length) (hv:Vws L xs xs'):Vw L (.ls b k 0 len c) (.sl k xs'):=by
 subst hl
 exact .ls h (by omega) (by rw[List.drop_zero,List.take_length];exact hv.1) (by rw[List.drop_zero,List.take_length];exact hv.2)
theorem moreT_len {ps:List Pr} {B:Nat} : ∀ {l acc:List (List Int)},(∀c ∈ l,c.length≤B)→(l.foldl (fun acc c=>insL acc (nextL ps c)) acc).length≤acc.length+l.length * B
 | [],acc,_=>by simp
 | c :: l,acc,h=>by
  have h1:=moreT_len (ps:=ps) (B:=B) (l:=l) (acc:=insL acc (nextL ps c)) fun c hc=>h c (List.mem_cons_of_mem _ hc)
  have h2:=insL_len (nextL ps c) acc
  have h3:=nextT_len ps c c.length
  have h4:=h c List.mem_cons_self
  have h5:(nextL ps c).length=(nextT ps c c.length).length:=rfl
  rw[List.foldl_cons,List.length_cons,Nat.add_mul]
  omega
def asg20 (e:Ev):Bool:=decide (20<(e.asg.length:Int))
theorem off_small {ps:List Pr} (hs:Sm ps):∀k,k≤ps.length→off ps k≤k * 1000000:=by
 intro k
 induction k with
 | zero=>intro _;simp [off]
 | succ k ih =>
  intro hk
  rw[off_succ (by omega)]
  have h1:=ih (by omega)
  have h2:=hs.evs _ (List.getElem_mem (show k<ps.length by omega))
  omega
def nlev (ps:List Pr):Nat:=(List.range (off ps ps.length+2)).findIdx fun k=>(levF ps k).isEmpty
theorem range_findIdx (p:Nat→Bool) (n:Nat) (h:(List.range n).findIdx p<n):p ((List.range n).findIdx p)=true:=by
 have w:(List.range n).findIdx p<(List.range n).length:=by rw[List.length_range];exact h
 have:=List.findIdx_getElem (w:=w)
 rwa [List.getElem_range] at this
theorem nlev_lt {ps:List Pr} {j:Nat} (h:j<nlev ps):levF ps j ≠ []:=fun e=>by
 unfold nlev at h
 have hl:j<(List.range (off ps ps.length+2)).length:=Nat.lt_of_lt_of_le h List.findIdx_le_length
 have:=List.not_of_lt_findIdx h
 rw[List.getElem_range] at this
 simp [e] at this
theorem nlev_eq {ps:List Pr} {k:Nat} (hk:k≤nlev ps) (h:levF ps k=[]):k=nlev ps:=by
 rcases Nat.lt_or_ge k (nlev ps) with h1|h1
 ·exact absurd h (nlev_lt h1)
 ·omega
theorem nlev_succ {ps:List Pr} (hv:validF ps=true) {k:Nat} (hk:k≤nlev ps) (h:levF ps k ≠ []):k+1≤nlev ps:=by
 rcases Nat.lt_or_ge k (nlev ps) with h1|h1
 ·omega
 ·exfalso
  have e:k=nlev ps:=by omega
  have hko:k≤off ps ps.length:=by
   rcases Nat.lt_or_ge (off ps ps.length) k with h|h'
   ·exact absurd (levF_end hv h) ‹levF ps k ≠ []›
   ·exact h'
  have this:(levF ps (nlev ps)).isEmpty=true:=range_findIdx (fun k=>(levF ps k).isEmpty) _ (show nlev ps<_ by omega)
  rw[e] at h
  exact h (List.isEmpty_iff.1 this)
def lvsF (ps:List Pr) (k:Nat):List AV:=(List.range k).map fun j=>aRows (levF ps j)
theorem lvsF_succ (ps:List Pr) (k:Nat):lvsF ps (k+1)=lvsF ps k ++ [aRows (levF ps k)]:=by unfold lvsF;rw[List.range_succ,List.map_append];rfl
theorem lvsF_len (ps:List Pr) (k:Nat):(lvsF ps k).length=k:=by simp [lvsF]
noncomputable def aLvs (ps:List Pr):AV:=if validF ps=true then (if (cutsF ps).length≤5000 then .tup [.sl 1 (lvsF ps (nlev ps)),ai 0] else .tup [.sl 1 [],ai 16]) else .tup [.sl 1 [],ai 1]
theorem cuts_levels (ps:List Pr) (hs:Sm ps):PC Proofs.Tryz.prog 103 [aTr ps] (aLvs ps):=by
 have hva:=trace_Valid ps hs
 unfold aLvs
 refine PC.enter 35 [.tmp 2,.tmp 3] [1,4,32] Proofs.Tryz.func103 rfl rfl rfl rfl rfl (by simp) (AWp.of ?_);simp only[go_sem]
 refine Wk ?_
 refine Sd ?_
 refine(hva).val.use ?_;simp only[go_sem]
 cases hv:validF ps with
 | false =>
  refine Wk ?_
  refine ret_view [] ?_;simp only[go_sem]
  exact .mkTup (Vws.cons (.nil 1) (Vws.refl _))
 | true =>
  obtain⟨hl1,hl8⟩:=valid_len hv
  have hof:=cuts_of ps hs hv
  rw[if_pos rfl]
  unfold aMk at hof
  refine Wk ?_
  refine Sd ?_
  refine(hof).val.use ?_;simp only[go_sem]
  intro b4
  refine Wk ?_
  intro b0 b1 g1
  have n1:¬b1=b0:=by omega
  have n2:¬b0=b1:=by omega
  refine AWp.view [true,true] [(5,.sl 1 ((levF ps 0).map aInts))] (LVw.refl _) ?_ ?_
  ·intro q hq
   simp only[List.mem_singleton] at hq
   subst hq
   simp only[go_sem,pickT]
   have e:List.replicate ps.length (ai 0)=(List.replicate ps.length (0:Int)).map ai:=(List.map_replicate).symm
   rw[e]
   exact Vw.ofLs' (t:=25) (cap:=1) (if_pos rfl) rfl (Vws.cons (Vw.ofLs (t:=3) (cap:=ps.length) (by simp only[lk,n2,if_false,if_true]) (by rw[List.length_map,List.length_replicate])) .nil)
  simp only[go_sem,pickF]
  have hz0:(0:Int)=((cumF ps 0).length:Nat):=rfl
  have hof1:1≤off ps ps.length+1:=by omega
  refine Wk ?_
  refine AWp.block (AWp.loopN [5,6,7] [4] (fun m vs L=>∃(k:Nat) (v:AV),vs=[.sl 1 ((levF ps k).map aInts),v,ai (cumF ps k).length]∧AppSt 72 1 (lvsF ps k) v L∧(cumF ps k).length≤5000∧(levF ps k).length≤40000∧k≤nlev ps∧k≤off ps ps.length+1∧m=off ps ps.length+1 - k) (off ps ps.length+1) ⟨0,anil,rfl,.nil,by simp [cumF],by simp [levF],by omega,by omega,rfl⟩ ?_)
  rintro m vs L - ⟨k,v,rfl,hA,h5,hl4,hkn,hk,rfl⟩
  by_cases hlv:levF ps k=[]
  ·have hz:¬(0:Int)<((levF ps k).length:Int):=by rw[hlv];simp
   have hcut:cutsF ps=cumF ps k:=by
    unfold cutsF
    rw[show off ps ps.length+1=k+(off ps ps.length+1 - k) by omega,cumF_end hlv]
   rw[hcut,if_pos h5,← nlev_eq hkn hlv]
   generalize lvsF ps k=ys at *
   rcases hA.inv with ⟨e1,rfl,rfl⟩|⟨bq,cap,rfl,rfl⟩
   ·simp only[go_sem]
    refine W1 hz ?_
    refine ret_view [] ?_;simp only[go_sem]
    rw[e1]
    exact .mkTup (Vws.cons (.nil 1) (Vws.refl _))
   ·simp only[go_sem]
    refine W1 hz ?_
    refine ret_view [true] ?_;simp only[go_sem]
    exact .mkTup (Vws.cons (Vw.ofLs (if_pos rfl) rfl) (Vws.refl _))
  ·have hko:k≤off ps ps.length:=by
    rcases Nat.lt_or_ge (off ps ps.length) k with h|h
    ·exact absurd (levF_end hv h) hlv
    ·exact h
   have hpos:0<(levF ps k).length:=List.length_pos_iff.2 hlv
   have hposi:(0:Int)<((levF ps k).length:Int):=by omega
   have hcs:=cumF_succ ps k
   have hcsl:(cumF ps (k+1)).length=(cumF ps k).length+(levF ps k).length:=by rw[hcs,List.length_append]
   have hmono:=cumF_mono (ps:=ps) (j:=k+1) (k:=off ps ps.length+1) (by omega)
   have hcutl:(cumF ps (off ps ps.length+1)).length=(cutsF ps).length:=rfl
   have hsum:=nlev_succ hv hkn hlv
   have hmore:(levF ps k).length≤5000→(levF ps (k+1)).length≤40000:=fun h=>by
    have:=moreT_len (ps:=ps) (B:=ps.length) (l:=levF ps k) (acc:=[]) fun c hc=>by rw[(isF_iff.1 ((mem_levF hv k c).1 hc).1).1];exact Nat.le_refl _
    have h2:(levF ps k).length * ps.length≤5000 * 8:=Nat.mul_le_mul h hl8
    have h3:(levF ps (k+1)).length=((levF ps k).foldl (fun acc c=>insL acc (nextL ps c)) []).length:=rfl
    rw[h3]
    simp only[List.length_nil] at this
    omega
   have hnx:=fun h=>maker_next ps hs hv k h
   unfold aMk aRows at hnx
   have hys:=lvsF_succ ps k
   have hyl:=lvsF_len ps k
   unfold aRows at hys
   have hofl:off ps ps.length≤8000000:=by
    have:=off_small hs ps.length (Nat.le_refl _)
    omega
   rcases hA.inv with ⟨e1,rfl,rfl⟩|⟨bq,cap,rfl,rfl⟩
   ·simp only[go_sem]
    repeat(first|((with_reducible refine AWp.ofC ?_ ?_);exact rfl;simp only[go_sem,hposi])|((with_reducible refine an ?_ ?_);exact Au))
    refine Wk ?_
    refine⟨fun h9 => ?_,fun h9 => ?_⟩
    ·rw[if_neg (by omega)]
     refine Wk ?_
     refine ret_view [] ?_;simp only[go_sem]
     exact .mkTup (Vws.cons (.nil 1) (Vws.refl _))
    ·have hnx:=hnx (by omega)
     refine Wk ?_
     intro b' cap' hc'
     refine Wk ?_
     refine Sd ?_
     refine(hnx).val.use ?_;simp only[go_sem]
     refine Wk ?_
     refine⟨_,List.Sublist.refl _,_,?_,k+1,.ls b' 1 0 1 cap',by rw[hcsl];simp,?_,by omega,hmore (by omega),hsum,by omega,rfl⟩
     ·omega
     ·rw[hys,e1];exact .row b' [_] cap'
   ·simp only[go_sem]
    repeat(first|((with_reducible refine AWp.ofC ?_ ?_);exact rfl;simp only[go_sem,hposi])|((with_reducible refine an ?_ ?_);exact Au))
    refine Wk ?_
    refine⟨fun h9 => ?_,fun h9 => ?_⟩
    ·rw[if_neg (by omega)]
     refine Wk ?_
     refine ret_view [true] ?_;simp only[go_sem]
     exact .mkTup (Vws.cons (.nil 1) (Vws.refl _))
    ·have hnx:=hnx (by omega)
     refine W1 hyl ?_
     intro b' cap' hc'
     refine Wk ?_
     refine Sd ?_
     refine(hnx).val.use ?_;simp only[go_sem]
     refine Wk ?_
     refine⟨_,List.Sublist.refl _,_,?_,k+1,.ls b' 1 0 (k+1) cap',by rw[hcsl];simp,?_,by omega,hmore (by omega),hsum,by omega,rfl⟩
     ·omega
     ·rw[hys,show List.take k (lvsF ps k)=lvsF ps k from List.take_of_length_le (by omega)];exact AppSt.snoc b' cap' (k+1) (congrArg (· + 1) hyl.symm)
def GrowS (n:Nat) (r:AV) (L:AHeap):Prop:=(n=0∧r=anil∧L=[])∨∃b cap,n≤cap∧r = .ls b 1 0 0 cap∧L=[(b,.row 25 1 (List.replicate n anil) cap)]
theorem rows_grow (n:Nat) (hn:n≤1000000):MCalls Proofs.Tryz.prog 129 [anil,ai (n:Nat)] [] (GrowS n):=by
 refine MCalls.enter' 27 [.tmp 4] [] Proofs.Tryz.func129 rfl rfl rfl rfl rfl (by simp) (AWp.of ?_);simp only[go_sem]
 refine Wk ?_
 intro _
 refine Wk ?_
 refine Wk ?_
 refine⟨fun h1 => ?_,fun h1 => ?_⟩
 ·refine Wk ?_
  intro b cap hc
  refine Wk ?_
  refine ret_own ?_
  simp only[go_sem]
  have e:((n:Int) - (((0:Nat):Int) - ((0:Nat):Int))).toNat=n:=by omega
  rw[e]
  exact .inr ⟨b,cap,by omega,by simp,rfl⟩
 ·have:n=0:=by omega
  refine Wk ?_
  refine ret_own ?_
  simp only[go_sem]
  exact .inl ⟨this,rfl,rfl⟩
def CatS (ls:List (List (List Int))) (k:Nat) (v:AV) (L:AHeap):Prop :=
 (ls.flatten=[]∧v=anil∧L=[])∨∃b cap xs,v = .ls b 1 0 (ls.take k).flatten.length cap∧L=[(b,.row 25 1 xs cap)]∧(ls.take k).flatten.length≤xs.length∧xs.take (ls.take k).flatten.length=(ls.take k).flatten.map aInts
theorem flat_succ {ls:List (List (List Int))} {k:Nat} (hk:k<ls.length):(ls.take (k+1)).flatten=(ls.take k).flatten ++ ls[k]:=by
 rw[List.take_succ_eq_append_getElem hk,List.flatten_append];simp
theorem flat_le {ls:List (List (List Int))} (k:Nat):(ls.take k).flatten.length≤ls.flatten.length:=by
 conv=>rhs;rw[← List.take_append_drop k ls,List.flatten_append,List.length_append]
 omega
theorem rows_concat (ls:List (List (List Int))) (hl:ls.length≤100000000) (hf:ls.flatten.length≤1000000) :
  MCalls Proofs.Tryz.prog 104 [.sl 1 (ls.map aRows)] [] fun r L=>CatS ls ls.length r L:=by
 have hR:∀x:List (List Int),aRows x = .sl 1 (x.map aInts):=fun _=>rfl
 refine MCalls.enter' 36 [.tmp 2] [] Proofs.Tryz.func104 rfl rfl rfl rfl rfl (by simp) (AWp.of ?_);simp only[go_sem]
 refine Wk ?_
 refine AWp.range' ls.length [3] [0,9,10] (fun k vs L=>L=[]∧vs=[ai ((ls.take k).flatten.length:Nat)]) (by omega) rfl rfl rfl ⟨rfl,by rw[List.take_zero];rfl⟩ ?_ ?_
 ·rintro k vs L hk - ⟨rfl,rfl⟩
  have h1:=flat_le (ls:=ls) k
  have h2:=flat_le (ls:=ls) (k+1)
  have h3:=congrArg List.length (flat_succ hk)
  rw[List.length_append] at h3
  have hg:=getD_map (f:=aRows) hk
  simp only[go_sem]
  refine W2 hg hR ?_
  intro _
  refine Wk ?_
  exact⟨_,List.Sublist.refl _,rfl,by rw[h3];simp⟩
 ·rintro vs L - ⟨rfl,rfl⟩
  rw[List.take_length]
  simp only[go_sem]
  refine Wk ?_
  refine(rows_grow _ hf).val.mono ?_
  intro r L hr
  have hI:CatS ls 0 r L:=by
   rcases hr with ⟨h0,rfl,rfl⟩|⟨b,cap,hc,rfl,rfl⟩
   ·exact .inl ⟨List.eq_nil_of_length_eq_zero h0,rfl,rfl⟩
   ·exact .inr ⟨b,cap,_,by simp,rfl,by simp,by simp⟩
  clear hr
  have hfo:fo r=(True,r):=by rcases hI with ⟨_,rfl,_⟩|⟨b,cap,xs,rfl,_⟩ <;> rfl
  simp only[go_sem,hfo]
  refine W1 hfo ?_
  refine AWp.range' ls.length [6] [25,26] (fun k vs L=>∃v,vs=[v]∧CatS ls k v L) (by omega) rfl rfl rfl ⟨_,rfl,hI⟩ ?_ ?_
  ·clear hI
   rintro k vs L hk - ⟨v,rfl,hC⟩
   have h2:=flat_le (ls:=ls) (k+1)
   have hs:=flat_succ hk
   have h3:=congrArg List.length hs
   rw[List.length_append] at h3
   have hg:=getD_map (f:=aRows) hk
   have hll:(ls[k].map aInts).length=ls[k].length:=List.length_map _
   rcases hC with ⟨h0,rfl,rfl⟩|⟨b,cap,xs,rfl,rfl,hx,ht⟩
   ·have he:ls[k].map aInts=[]:=by
     rw[List.flatten_eq_nil_iff.1 h0 _ (List.getElem_mem hk)];rfl
    simp only[go_sem]
    refine W3 hg hR he ?_
    exact⟨_,List.Sublist.refl _,_,rfl,.inl ⟨h0,rfl,rfl⟩⟩
   ·have hy:(ls.take (k+1)).flatten.map aInts=(ls.take k).flatten.map aInts ++ ls[k].map aInts:=by rw[hs,List.map_append]
    unfold CatS
    rw[hy,h3,← ht]
    simp only[go_sem]
    refine W2 hg hR ?_
    intro b' cap' hc
    refine⟨_,List.Sublist.refl _,_,rfl,.inr ⟨b',cap',_,rfl,rfl,?_,?_⟩⟩
    ·rw[List.length_append,List.length_take];omega
    ·rw[List.take_of_length_le (by rw[List.length_append,List.length_take];omega)]
  ·clear hI
   rintro vs L - ⟨v,rfl,hC⟩
   have hfo:fo v=(True,v):=by rcases hC with ⟨_,rfl,_⟩|⟨b,cap,xs,rfl,_⟩ <;> rfl
   simp only[go_sem,hfo]
   refine W1 hfo ?_
   refine ret_own ?_
   simp only[go_sem,hfo]
   exact hC
noncomputable def lstE (ps:List Pr):Int:=if validF ps=true then (if (cutsF ps).length≤5000 then 0 else 16) else 1
noncomputable def lvOf (ps:List Pr):List (List (List Int)):=if lstE ps=0 then (List.range (nlev ps)).map (levF ps) else []
noncomputable def lstF (ps:List Pr):List (List Int):=if lstE ps=0 then cutsF ps else []
noncomputable def aLst (ps:List Pr):AV:=.tup [aRows (lstF ps),ai (lstE ps)]
theorem lst_zero {ps:List Pr} : lstE ps=0↔validF ps=true∧(cutsF ps).length≤5000:=by
 unfold lstE
 split
 ·split <;> simp_all
 ·simp_all
theorem aLvs_eq (ps:List Pr):aLvs ps = .tup [.sl 1 ((lvOf ps).map aRows),ai (lstE ps)]:=by
 unfold aLvs lvOf lvsF
 by_cases hv:validF ps=true
 ·by_cases h5:(cutsF ps).length≤5000
  ·rw[if_pos hv,if_pos h5,if_pos (lst_zero.2 ⟨hv,h5⟩)]
   unfold lstE
   rw[if_pos hv,if_pos h5,List.map_map];rfl
  ·rw[if_pos hv,if_neg h5,if_neg fun h=>h5 (lst_zero.1 h).2]
   unfold lstE
   rw[if_pos hv,if_neg h5];rfl
 ·rw[if_neg hv,if_neg fun h=>hv (lst_zero.1 h).1]
  unfold lstE
  rw[if_neg hv];rfl
theorem lev_nlev {ps:List Pr} (hv:validF ps=true):levF ps (nlev ps)=[]:=by
 have h1:(levF ps (off ps ps.length+1)).isEmpty=true:=by rw[levF_end hv (by omega)];rfl
 have:nlev ps<off ps ps.length+2:=by
  unfold nlev
  have:=List.findIdx_lt_length_of_exists (p:=fun k=>(levF ps k).isEmpty) (xs:=List.range (off ps ps.length+2)) ⟨off ps ps.length+1,by simp,h1⟩
  rwa [List.length_range] at this
 exact List.isEmpty_iff.1 (range_findIdx (fun k=>(levF ps k).isEmpty) _ this)
theorem nlev_le {ps:List Pr} : nlev ps≤off ps ps.length+2:=by
 have:=List.findIdx_le_length (p:=fun k=>(levF ps k).isEmpty) (xs:=List.range (off ps ps.length+2))
 rwa [List.length_range] at this
theorem cum_nlev {ps:List Pr} (hv:validF ps=true):cumF ps (nlev ps)=cutsF ps:=by
 have h:=cumF_end (lev_nlev hv)
 unfold cutsF
 rcases Nat.lt_or_ge (off ps ps.length+1) (nlev ps) with h1|h1
 ·have h2:=cumF_end (levF_end hv (show off ps ps.length<off ps ps.length+1 by omega)) (nlev ps - (off ps ps.length+1))
  rw[show off ps ps.length+1+(nlev ps - (off ps ps.length+1))=nlev ps by omega] at h2
  exact h2
 ·have:=h (off ps ps.length+1 - nlev ps)
  rw[show nlev ps+(off ps ps.length+1 - nlev ps)=off ps ps.length+1 by omega] at this
  exact this.symm
theorem lv_flat (ps:List Pr):(lvOf ps).flatten=lstF ps:=by
 unfold lvOf lstF
 split
 ·rename_i h
  rw[← cum_nlev (lst_zero.1 h).1]
  unfold cumF
  rw[List.flatMap_def]
 ·rfl
theorem lst_len (ps:List Pr):(lstF ps).length≤5000:=by
 unfold lstF
 split
 ·rename_i h;exact(lst_zero.1 h).2
 ·exact Nat.zero_le _
theorem lv_len {ps:List Pr} (hs:Sm ps):(lvOf ps).length≤10000002:=by
 unfold lvOf
 split
 ·rename_i h
  have:=(valid_len (lst_zero.1 h).1).2
  rw[List.length_map,List.length_range]
  have:=nlev_le (ps:=ps)
  have:=off_small hs ps.length (Nat.le_refl _)
  omega
 ·exact Nat.zero_le _
theorem cuts_levels' (ps:List Pr) (hs:Sm ps):PC Proofs.Tryz.prog 103 [aTr ps] (.tup [.sl 1 ((lvOf ps).map aRows),ai (lstE ps)]):=by
 rw[← aLvs_eq];exact cuts_levels ps hs
end Go.AL
end
