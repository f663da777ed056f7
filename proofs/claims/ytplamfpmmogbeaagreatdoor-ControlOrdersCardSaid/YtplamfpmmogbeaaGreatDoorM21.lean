/- Texts of this claim's proof: WY25, AlRdw, WY26, WY27. No condition. -/
import Derived.Test.YtplamfpmmogbeaaGreatDoorM11
import Derived.Test.YtplamfpmmogbeaaGreatDoorM20
import Derived.Test.YtplamfpmmogbeaaGreatDoorM9
section
namespace Go.AL
open Go Go.RowKit
set_option maxRecDepth 4000
theorem famR_split {n p q:Nat} (hq:q<n) (hn:q ≠ p) (Ls:Nat→AHeap):∃X,(famR n p Ls).Perm (Ls q ++ X):=by
 refine⟨(((List.range n).erase p).erase q).flatMap Ls,?_⟩
 have hm:q ∈ (List.range n).erase p:=(List.mem_erase_of_ne hn).2 (List.mem_range.2 hq)
 have h:=List.Perm.flatMap_right Ls (List.perm_cons_erase hm)
 rwa [List.flatMap_cons] at h
section
variable {tO tI:TypeId} {k n:Nat} {Y:Nat→List AV} {v:AV} {L:AHeap}
theorem FamS.one (h:FamS tO tI k n Y v L) {p:Nat} (hp:p<n) (hY:Y p ≠ []) :
  ∃bo cap V bp cp X,v = .ls bo 1 0 n cap∧V.length=n∧V.getD p .any = .ls bp k 0 (Y p).length cp∧L.Perm ((bo,.row tO 1 V cap) :: (bp,.row tI k (Y p) cp) :: X) ∧
   ∀(Y':Nat→List AV) (L':AHeap),(∀q,q ≠ p→Y' q=Y q)→(Y' p).length=(Y p).length→L'.Perm ((bo,.row tO 1 V cap) :: (bp,.row tI k (Y' p) cp) :: X)→FamS tO tI k n Y' v L':=by
 obtain⟨bo,cap,V,Ls,h1,h2,h3,h4⟩:=h.open hp
 rcases h3.inv with ⟨e1,_,_⟩|⟨bp,cp,e2,e3⟩
 ·exact absurd e1 hY
 ·refine⟨bo,cap,(List.range n).map V,bp,cp,famR n p Ls,h1,by simp,by rw[map_range_getD hp,e2],by rw[e3] at h2;exact h2,fun Y' L' hq hl hL => ?_⟩
  refine h4 Y' (V p) [(bp,.row tI k (Y' p) cp)] L' hq ?_ ?_
  ·rw[e2,← hl];exact .row _ _ _
  ·have:((List.range n).map V).set p (V p)=(List.range n).map V:=by
    rw[map_range_set]
    exact List.map_congr_left fun q _=>by split <;> simp_all
   rw[this];exact hL
theorem FamS.two (h:FamS tO tI k n Y v L) {p q:Nat} (hp:p<n) (hq:q<n) (hn:q ≠ p) (hY:Y p ≠ []) (hYq:Y q ≠ []) :
  ∃bo cap V bp cp bq cq X,v = .ls bo 1 0 n cap∧V.length=n∧V.getD p .any = .ls bp k 0 (Y p).length cp∧V.getD q .any = .ls bq k 0 (Y q).length cq∧L.Perm ((bo,.row tO 1 V cap) :: (bp,.row tI k (Y p) cp) :: (bq,.row tI k (Y q) cq) :: X) ∧
   ∀(Y':Nat→List AV) (L':AHeap),(∀q,q ≠ p→Y' q=Y q)→(Y' p).length=(Y p).length→L'.Perm ((bo,.row tO 1 V cap) :: (bp,.row tI k (Y' p) cp) :: (bq,.row tI k (Y q) cq) :: X)→FamS tO tI k n Y' v L':=by
 obtain⟨Lv,V,Ls,h1,h2,h3⟩:=h
 rcases h2.inv with ⟨e1,_,_⟩|⟨bo,cap,e2,e3⟩
 ·have h0:n=0:=by have:=congrArg List.length e1;simpa using this
  omega
 have hlen:((List.range n).map V).length=n:=by simp
 rw[hlen] at e2
 subst e3
 rcases (h3 p hp).inv with ⟨e1,_,_⟩|⟨bp,cp,e4,e5⟩
 ·exact absurd e1 hY
 rcases (h3 q hq).inv with ⟨e1,_,_⟩|⟨bq,cq,e6,e7⟩
 ·exact absurd e1 hYq
 obtain⟨X,hX⟩:=famR_split hq hn Ls
 have hfs:=fam_split hp Ls
 rw[e5] at hfs
 rw[e7] at hX
 refine⟨bo,cap,(List.range n).map V,bp,cp,bq,cq,X,e2,by simp,by rw[map_range_getD hp,e4],by rw[map_range_getD hq,e6],?_,fun Y' L' hY' hl hL => ?_⟩
 ·exact h1.trans (List.Perm.cons _ (hfs.trans (List.Perm.cons _ hX)))
 ·refine⟨[(bo,.row tO 1 ((List.range n).map V) cap)],V,fun r=>if r=p then [(bp,.row tI k (Y' p) cp)] else Ls r,?_,?_,fun r hr => ?_⟩
  ·refine hL.trans (List.Perm.cons _ ?_)
   have hsp:=fam_split hp (fun r=>if r=p then [(bp,ABlk.row tI k (Y' p) cp)] else Ls r)
   rw[if_pos rfl,famR_congr (Ls:=Ls) (fun q hq=>if_neg hq)] at hsp
   exact((List.Perm.cons _ hX.symm).trans hsp.symm)
  ·have:=AppSt.row (t:=tO) (k:=1) bo ((List.range n).map V) cap
   rw[hlen] at this
   rw[e2];exact this
  ·by_cases e:r=p
   ·subst e;dsimp only;rw[if_pos rfl,e4,← hl];exact .row _ _ _
   ·dsimp only;rw[if_neg e,hY' r e];exact h3 r hr
end
def bRow (n:Nat) (f:Nat→Bool):List AV:=(List.range n).map fun j=>ab (f j)
theorem bRow_len {n:Nat} {f:Nat→Bool} : (bRow n f).length=n:=by simp [bRow]
theorem bRow_ne {n i:Nat} {f:Nat→Bool} (h:i<n):bRow n f ≠ []:=fun e=>by
 have:=congrArg List.length e
 rw[bRow_len] at this
 simp at this;omega
theorem bRow_get {n j:Nat} {f:Nat→Bool} (h:j<n):(bRow n f).getD j .any=ab (f j):=map_range_getD h _
theorem bRow_congr {n:Nat} {f g:Nat→Bool} (h:∀j,j<n→f j=g j):bRow n f=bRow n g:=List.map_congr_left fun j hj=>by rw[h j (List.mem_range.1 hj)]
theorem bRow_set {n j:Nat} {f g:Nat→Bool} (h:∀i,i ≠ j→g i=f i):bRow n g=(bRow n f).set j (ab (g j)):=by
 unfold bRow
 rw[map_range_set]
 refine List.map_congr_left fun i _ => ?_
 by_cases e:i=j
 ·rw[if_pos e,e]
 ·rw[if_neg e,h i e]
theorem bRow_fill {n:Nat} : bRow n (fun _=>false)=List.replicate n (ab false):=by
 unfold bRow
 rw[List.eq_replicate_iff]
 refine⟨by simp,fun b hb => ?_⟩
 obtain⟨k,_,rfl⟩:=List.mem_map.1 hb
 rfl
def mid (k i j:Nat) (f:Nat→Nat→Bool):Nat→Nat→Bool:=fun x y=>if x<i∨(x=i∧y<j) then wstep k f x y else f x y
theorem mid_zero {k:Nat} {f:Nat→Nat→Bool} : mid k 0 0 f=f:=by
 funext x y
 unfold mid
 rw[if_neg (by omega)]
theorem mid_next {k i:Nat} {n:Nat} {f:Nat→Nat→Bool} {x y:Nat} (hy:y<n):mid k i n f x y=mid k (i+1) 0 f x y:=by
 unfold mid
 by_cases h:x<i∨(x=i∧y<n)
 ·rw[if_pos h,if_pos (by omega)]
 ·rw[if_neg h,if_neg (by omega)]
theorem mid_full {k n:Nat} {f:Nat→Nat→Bool} {x y:Nat} (hx:x<n):mid k n 0 f x y=wstep k f x y:=by
 unfold mid
 rw[if_pos (by omega)]
theorem mid_row {k i j x:Nat} {f:Nat→Nat→Bool} (h:x ≠ i):mid k i (j+1) f x=mid k i j f x:=by
 funext y
 unfold mid
 by_cases e:x<i
 ·rw[if_pos (.inl e),if_pos (.inl e)]
 ·rw[if_neg (by omega),if_neg (by omega)]
theorem mid_oth {k i j y:Nat} {f:Nat→Nat→Bool} (h:y ≠ j):mid k i (j+1) f i y=mid k i j f i y:=by
 unfold mid
 by_cases e:y<j
 ·rw[if_pos (by omega),if_pos (by omega)]
 ·rw[if_neg (by omega),if_neg (by omega)]
theorem mid_at {k i j:Nat} {f:Nat→Nat→Bool} : mid k i (j+1) f i j=(mid k i j f i j || (mid k i j f i k && mid k i j f k j)):=by
 have h1:mid k i (j+1) f i j=wstep k f i j:=by unfold mid;rw[if_pos (by omega)]
 have h2:mid k i j f i j=f i j:=by unfold mid;rw[if_neg (by omega)]
 have h3:mid k i j f i k=f i k:=by unfold mid;split;exact wstep_col k f i;rfl
 have h4:mid k i j f k j=f k j:=by unfold mid;split;exact wstep_row k f j;rfl
 rw[h1,h2,h3,h4];rfl
end Go.AL
end
section
namespace Go.AL
open Go Go.RowKit
def mixW (ops:Array Oper) (qs:List Nat):Bool :=
 ascend qs && qs.all (fun q=>decide (q<ops.size)) &&
 (List.range ops.size).all fun i=>match ops[i]? with
  | some o=>(predsOf o).all (fun p=>decide (p<i)) &&
    qs.all (fun q=>match dstOf ops q with
     | some d=>(!(o.looksAt ops).contains d || (predsOf o).contains q) && (i == q || !(o.dst == some d))
     | none=>true)
  | none=>true
section
variable {C:Cfg} {ops:Array Oper} {L:AHeap}
theorem mixW_at {qs:List Nat} (h:mixW ops qs=true) {i:Nat} {o:Oper} (hi:ops[i]?=some o) :
  (∀p ∈ predsOf o,p<i)∧(∀q ∈ qs,∀d,dstOf ops q=some d→(d ∈ o.looksAt ops→q ∈ predsOf o)∧(i ≠ q→o.dst ≠ some d)):=by
 unfold mixW at h
 simp only[Bool.and_eq_true,List.all_eq_true] at h
 have hlt:i<ops.size:=(Array.getElem?_eq_some_iff.1 hi).1
 have h3:=h.2 i (List.mem_range.2 hlt)
 rw[hi] at h3
 simp only[Bool.and_eq_true,List.all_eq_true,decide_eq_true_eq] at h3
 refine⟨h3.1,fun q hq d hd => ?_⟩
 have:=h3.2 q hq
 rw[hd] at this
 simp only[Bool.and_eq_true,Bool.or_eq_true,Bool.not_eq_true',List.contains_eq_mem,decide_eq_true_eq,decide_eq_false_iff_not,beq_iff_eq,beq_eq_false_iff_ne,ne_eq] at this
 exact⟨fun hm=>this.1.resolve_left (fun hn=>hn hm),fun hne=>this.2.resolve_left hne⟩
theorem mixW_asc {qs:List Nat} (h:mixW ops qs=true):ascend qs=true∧∀q ∈ qs,q<ops.size:=by
 unfold mixW at h
 simp only[Bool.and_eq_true,List.all_eq_true,decide_eq_true_eq] at h
 exact h.1
theorem aqWRun_facts {qs0:List Nat} (hm:mixW ops qs0=true) (hok:ops.toList.all (operOk C.N)=true):∀(qs:List Nat) (ρ:Env) (K:Env→Prop),(∀q ∈ qs,q ∈ qs0)→ascend qs=true→aqLRun C ops.toList L qs K ρ →
  ∃ρq,K ρq∧(∀q ∈ qs,QFactL C ops ρq L q)∧∀s,(∀q ∈ qs,dstOf ops q ≠ some s)→get ρq s=get ρ s
 | [],ρ,K,_,_,h=>⟨ρ,h,fun q hq=>(by cases hq),fun _ _=>rfl⟩
 | i :: r,ρ,K,hsub,hasc,h=>by
  obtain⟨hlt,hasc'⟩:=ascend_cons hasc
  simp only[aqLRun] at h
  cases ho:ops.toList[i]? with
  | none=>rw[ho] at h;exact h.elim
  | some o =>
   rw[ho] at h
   have ho':ops[i]?=some o:=by simpa using ho
   obtain⟨x,hy,hK⟩:=aqL_yields ho' (List.all_eq_true.1 hok o (List.mem_of_getElem? ho)) h
   obtain⟨ρq,h1,h2,h3⟩:=aqWRun_facts hm hok r _ K (fun q hq=>hsub q (List.mem_cons_of_mem _ hq)) hasc' hK
   obtain⟨p1,p2⟩:=mixW_at hm ho'
   have hself:∀d,o.dst=some d→d ∉ o.looksAt ops:=fun d hd hm'=>by
    have:=(p2 i (hsub i List.mem_cons_self) d (by simp [dstOf,ho',hd])).1 hm'
    exact absurd (p1 i this) (Nat.lt_irrefl i)
   refine⟨ρq,h1,fun q hq => ?_,fun s hs => ?_⟩
   ·rcases List.mem_cons.1 hq with rfl|hq
    ·refine⟨o,x,ho',hy.of_agree fun t ht => ?_,fun d hd => ?_⟩
     ·rw[h3 t fun q' hq' he => ?_,get_put,if_neg fun he=>hself t he ht]
      have:=(p2 q' (hsub q' (List.mem_cons_of_mem _ hq')) t he).1 ht
      have:=p1 q' this;have:=hlt q' hq';omega
     ·rw[h3 d fun q' hq' he => ?_,get_put,if_pos hd]
      exact(p2 q' (hsub q' (List.mem_cons_of_mem _ hq')) d he).2 (by have:=hlt q' hq';omega) hd
    ·exact h2 q hq
   ·rw[h3 s fun q hq=>hs q (List.mem_cons_of_mem _ hq),get_put,if_neg]
    have:=hs i List.mem_cons_self
    simpa [dstOf,ho'] using this
end
def tailOk (ops:Array Oper) (qs:List Nat) (z:Nat):Bool :=
 mixW ops qs && !(qs.contains z) && ((List.range ops.size).all fun i=>qs.contains i || i == z) &&
 (match ops[z]? with|some o=>o.guard.isNone && qs.all (fun q=>(predsOf o).contains q)|none=>false)
section
variable {C:Cfg} {ops:Array Oper} {L:AHeap}
theorem rdw_sound {qs:List Nat} {z:Nat} {oz:Oper} (hm:mixW ops qs=true) (hall:∀i,i<ops.size→i ∈ qs∨i=z) (hz:z ∉ qs) (hoz:ops[z]?=some oz) (hpz:∀q ∈ qs,q ∈ predsOf oz)
  {K:ARes} {n:Nat} {w0:World} {M A0:Foot} {Q:Exit→Act→World→Prop} (hQ:∀a w,post w0 M A0 C.N K a w→Q .normal a w) {ρT:Env} (hK:GOp C ops z ρT L K) :
  ∀(f:Nat) (listed:Array Bool) (a:Act) (w:World),listed.size=ops.size→listed.getD z true=false →
   (∀l:List Nat,l.Nodup→(∀i ∈ l,listed.getD i true=false)→l.length≤f) →
   (∀q ∈ qs,listed.getD q true=false→QFactL C ops ρT L q)→St w0 M A0 C.N (mask ops qs listed ρT) L a w →
   wpAnyIn (Fw C.r) n C.P .any ops Q f listed a w:=by
 have allOf:∀listed:Array Bool,listed.size=ops.size→Region.ready .any ops listed=[]→∀i,listed.getD i true=true:=by
  intro listed hsz hr i
  induction i using Nat.strongRecOn with
  | _ i ih =>
   cases hi:listed.getD i true with
   | true=>rfl
   | false =>
    exfalso
    have hlt:i<ops.size:=by
     rw[← hsz]
     by_cases h:i<listed.size
     ·exact h
     ·simp [Array.getD,h] at hi
    have ho:ops[i]?=some ops[i]:=Array.getElem?_eq_getElem hlt
    have:i ∈ Region.ready .any ops listed:=mem_ready.2 ⟨hi,_,ho,fun e he hb=>by
     have hp:=(mixW_at hm ho).1 e.on (List.mem_map.2 ⟨e,List.mem_filter.2 ⟨by simpa using he,hb⟩,rfl⟩)
     exact getD_ft (by omega) (ih _ hp)⟩
    rw[hr] at this;cases this
 intro f
 induction f with
 | zero =>
  intro listed a w hsz hlz hcnt hfact hs
  exfalso
  have:=hcnt [z] (by simp) (fun i hi=>by simp at hi;subst hi;exact hlz)
  simp at this
 | succ f ih =>
  intro listed a w hsz hlz hcnt hfact hs
  refine⟨fun hr=>(by have:=allOf listed hsz hr z;rw[hlz] at this;cases this),fun i hi => ?_⟩
  obtain⟨hun,o,ho,hpre⟩:=mem_ready.1 hi
  have hlt:i<ops.size:=(Array.getElem?_eq_some_iff.1 ho).1
  by_cases ez:i=z
  ·subst ez
   rw[ho] at hoz;cases hoz
   have hql:∀q ∈ qs,listed.getD q true=true:=fun q hq=>by
    obtain⟨e,he,rfl⟩:=List.mem_map.1 (hpz q hq)
    obtain⟨he1,he2⟩:=List.mem_filter.1 he
    exact getD_tf (hpre e (by simpa using he1) he2)
   have hs':St w0 M A0 C.N ρT L a w:=st_forget hs fun s => .inr (mask_out fun q hq hl _=>by rw[hql q hq] at hl;cases hl).symm
   refine wpOpIn_mono ?_ (hK n w0 M A0 a w Q hs')
   intro a' w' hp
   have hready:Region.ready .any ops (listed.setIfInBounds i true)=[]:=by
    cases hh:Region.ready .any ops (listed.setIfInBounds i true) with
    | nil=>rfl
    | cons j r =>
     exfalso
     have hj:j ∈ Region.ready .any ops (listed.setIfInBounds i true):=by rw[hh];exact List.mem_cons_self
     obtain⟨h1,oj,hoj,_⟩:=mem_ready.1 hj
     have hjlt:j<ops.size:=(Array.getElem?_eq_some_iff.1 hoj).1
     by_cases e:j=i
     ·subst e
      simp [Array.getD,show j<listed.size by omega] at h1
     ·rw[getD_set_ne true (Ne.symm e)] at h1
      rw[hql j ((hall j hjlt).resolve_right e)] at h1;cases h1
   cases f with
   | zero=>exact⟨hready,hQ _ _ hp⟩
   | succ f=>exact⟨fun _=>hQ _ _ hp,fun j hj=>by rw[hready] at hj;cases hj⟩
  ·have hq:=(hall i hlt).resolve_right ez
   obtain⟨m1,m2⟩:=mixW_at hm ho
   have hlooks:∀t ∈ o.looksAt ops,get (mask ops qs listed ρT) t=get ρT t:=fun t ht=>mask_out fun q hq hl hd=>by
    have hp:=(m2 q hq t hd).1 ht
    obtain⟨e,he,rfl⟩:=List.mem_map.1 hp
    obtain⟨he1,he2⟩:=List.mem_filter.1 he
    have:=getD_tf (hpre e (by simpa using he1) he2)
    rw[hl] at this;cases this
   have hcnt':∀l:List Nat,l.Nodup→(∀j ∈ l,(listed.setIfInBounds i true).getD j true=false)→l.length≤f:=fun l hn hl=>by
    have hil:i ∉ l:=fun h=>by
     have:=hl i h
     simp [Array.getD,show i<listed.size by omega] at this
    have:=hcnt (i :: l) (List.nodup_cons.2 ⟨hil,hn⟩) (fun j hj=>by
     rcases List.mem_cons.1 hj with rfl|hj
     ·exact hun
     ·have:=hl j hj
      have hne:i ≠ j:=fun e=>hil (e ▸ hj)
      rwa [getD_set_ne true hne] at this)
    simp at this;omega
   have hset:∀j,j ≠ i→(listed.setIfInBounds i true).getD j true=listed.getD j true:=fun j hj=>getD_set_ne true (Ne.symm hj)
   obtain⟨o',x,ho',hy,hgx⟩:=hfact i hq hun
   rw[ho] at ho';cases ho'
   refine wpOpIn_mono ?_ (hy _ hlooks n w0 M A0 a w Q hs)
   rintro a' w' ⟨ρ2,L2,⟨rfl,rfl⟩,hs2⟩
   refine ih _ a' w' (by simpa using hsz) (by rw[hset z (Ne.symm ez)];exact hlz) hcnt' (fun q hq' hl=>hfact q hq' (by
    by_cases e:q=i
    ·subst e;exact hun
    ·rwa [hset q e] at hl)) (st_forget hs2 fun s => ?_)
   rcases mask_or (ops:=ops) qs (listed.setIfInBounds i true) ρT s with ⟨h1,_⟩|⟨h1,h2⟩
   ·exact .inl h1
   ·refine .inr ?_
    rw[h1,get_put]
    by_cases hd:o.dst=some s
    ·rw[if_pos hd];exact hgx s hd
    ·rw[if_neg hd,mask_out fun q hq' hl hds => ?_]
     by_cases e:q=i
     ·subst e;exact hd (by simpa [dstOf,ho] using hds)
     ·exact h2 q hq' (by rw[hset q e];exact hl) hds
end
def rdwK (C:Cfg) (all:List Oper) (z:Nat) (K:ARes) (L:AHeap) (ρ:Env):Prop:=match all[z]? with|some o=>aopX C o ρ L K|none=>False
theorem AWp.readW {C:Cfg} {id:Nat} {ops:Array Oper} {Q:AQ} {ρ:Env} {L:AHeap} (hmx:C.P.follows .mixedOrders=true) (qs:List Nat) (z:Nat) (hT:tailOk ops qs z=true) (h:aqLRun C ops.toList L qs (rdwK C ops.toList z (Q .normal) L) ρ) :
  AWp C (.region id ops true) Q ρ L:=fun hok n w0 M A0 a w hs=>by
 simp only[tailOk,Bool.and_eq_true,List.all_eq_true,Bool.not_eq_true',Bool.or_eq_true,beq_iff_eq,List.contains_eq_mem,decide_eq_true_eq,decide_eq_false_iff_not] at hT
 obtain⟨⟨⟨hm,hz⟩,hal⟩,hzo⟩:=hT
 have hasc:=mixW_asc hm
 obtain⟨ρq,hK,hF,hother⟩  :=aqWRun_facts hm hok qs ρ _ (fun _ h=>h) hasc.1 h
 refine wpIn_region_any hmx ?_
 obtain⟨A,ds,hs'⟩:=st_iff.1 hs
 cases hoz:ops[z]? with
 | none=>rw[hoz] at hzo;cases hzo
 | some oz =>
  rw[hoz] at hzo
  simp only[Bool.and_eq_true,List.all_eq_true,decide_eq_true_eq,Option.isNone_iff_eq_none] at hzo
  have hzl:ops.toList[z]?=some oz:=by simpa using hoz
  unfold rdwK at hK
  rw[hzl] at hK
  have hoo:=List.all_eq_true.1 hok oz (List.mem_of_getElem? hzl)
  have hzlt:z<ops.size:=(Array.getElem?_eq_some_iff.1 hoz).1
  have hgo:GOp C ops z ρq L (Q .normal):=AOp.gop hoz hzo.1 (aop_sound (operOk_dst hoo) (operOk_def hoo) (aopX_aop hK))
  refine rdw_sound hm (fun i hi=>hal i (List.mem_range.2 hi)) hz hoz (fun q hq=>hzo.2 q hq) (K:=Q .normal) (fun a w ⟨ρ',L',h1,h2⟩=>⟨ρ',L',h1,h2⟩) hgo ops.size _ a _ (by simp) (by simp [Array.getD,hzlt]) ?_ (fun q hq _=>hF q hq) (st_forget (st_iff.2 ⟨A,ds,hs'.drew⟩) fun s => ?_)
  ·intro l hn hl
   have:=List.Nodup.length_le_of_subset hn (l₂:=List.range ops.size) (fun i hi=>by
    have:=hl i hi
    rw[List.mem_range]
    by_cases h:i<ops.size
    ·exact h
    ·simp [Array.getD,h] at this)
   simpa using this
  ·rcases mask_or (ops:=ops) qs (Array.replicate ops.size false) ρq s with ⟨h1,_⟩|⟨h1,h2⟩
   ·exact .inl h1
   ·refine .inr ?_
    rw[h1]
    exact hother s fun q hq hd=>h2 q hq (by simp [Array.getD,hasc.2 q hq]) hd
attribute [go_sem] rdwK
end Go.AL
end
section
namespace Go.AL
open Go Go.RowKit
set_option maxRecDepth 4000
def dirB (ps:List Pr) (l:List Syn) (i j:Nat):Bool:=decide (evE ps i ∈ dirK ps l j)
def tabV (n:Nat) (f:Nat→Nat→Bool):AV:=.sl 1 ((List.range n).map fun i => .sl 1 (bRow n (f i)))
def tabX (ps:List Pr) (l:List Syn):Nat→Nat→Bool:=warF (off ps ps.length) (dirB ps l)
def upto (f:Nat→Bool) (j:Nat):Nat→Bool:=fun y=>decide (y<j) && f y
theorem FamS.fo {tO tI:TypeId} {k n:Nat} {Y:Nat→List AV} {v:AV} {L:AHeap} (h:FamS tO tI k n Y v L):fo v=(True,v):=by
 obtain⟨Lv,V,Ls,_,hA,_⟩:=h
 exact hA.fo
theorem evE_inj {ps:List Pr} {i j:Nat} (hi:i<off ps ps.length) (hj:j<off ps ps.length) (h:evE ps i=evE ps j):i=j:=by
 obtain⟨p,a,hp,ha,rfl⟩:=num_form ps.length (Nat.le_refl _) hi
 obtain⟨q,b,hq,hb,rfl⟩:=num_form ps.length (Nat.le_refl _) hj
 rw[evE_at hp ha,evE_at hq hb,Prod.mk.injEq] at h
 have:p=q:=by omega
 subst this
 omega
theorem off_lt {ps:List Pr} {p i:Nat} (hp:p<ps.length) (hi:i<ps[p].evs.length):off ps p+i<off ps ps.length:=by
 have:=off_le hp;omega
theorem dirB_snoc {ps:List Pr} {l:List Syn} {s:Syn} {p i q j:Nat} (hp:p<ps.length) (hi:i<ps[p].evs.length) (hq:q<ps.length) (hj:j<ps[q].evs.length)
  (h1:s.1=((p:Int),(i:Int)+1)) (h2:s.2=((q:Int),(j:Int)+1)) {x y:Nat} (hx:x<off ps ps.length) :
  dirB ps (l ++ [s]) x y=if x=off ps p+i∧y=off ps q+j then true else dirB ps l x y:=by
 have hd:=dirK_snoc (l:=l) (s:=s) hq hj h2 y
 have hio:=off_lt hp hi
 unfold dirB
 rw[hd]
 by_cases e:y=off ps q+j
 ·rw[if_pos e]
  by_cases e2:x=off ps p+i
  ·rw[if_pos ⟨e2,e⟩,e2,evE_at hp hi,h1,decide_eq_true]
   simp
  ·rw[if_neg (fun h=>e2 h.1)]
   refine decide_eq_decide.2 ?_
   rw[List.mem_append,List.mem_singleton,h1,← evE_at hp hi]
   refine⟨fun h=>h.elim id fun h=>absurd (evE_inj hx hio h) e2,.inl⟩
 ·rw[if_neg e,if_neg (fun h=>e h.2),List.append_nil]
theorem ref13_EventE (ps:List Pr) (hs:Sm ps) {k:Nat} (hk:k<off ps ps.length):PC Proofs.Tryz.prog 82 [aTr ps,ai k] (aEid (evE ps k)):=by
 obtain⟨p,i,hp,hi,rfl⟩:=num_form ps.length (Nat.le_refl _) hk
 rw[evE_at hp hi]
 exact ref13_Event ps hs hp (by rw[nev_get hp];exact hi)
theorem ref13_DirectE (ps:List Pr) (hs:Sm ps) (hv:validF ps=true) {i j:Nat} (hi:i<off ps ps.length) (hj:j<off ps ps.length):PC Proofs.Tryz.prog 83 [aTr ps,aEid (evE ps i),aEid (evE ps j)] (ab (dirB ps [] i j)):=by
 obtain⟨p,a,hp,ha,rfl⟩:=num_form ps.length (Nat.le_refl _) hi
 obtain⟨q,b,hq,hb,rfl⟩:=num_form ps.length (Nat.le_refl _) hj
 have:=ref13_Direct ps hs hv hp ha hq hb
 unfold dirB
 rw[dirK_at hq hb,dirX_nil,evE_at hp ha,evE_at hq hb]
 exact this
set_option maxHeartbeats 2000000 in
theorem ref44_table (ps:List Pr) (hs:Sm ps) (hv:validF ps=true) (l:List Syn) (hl:SynOk ps l) (hll:l.length≤1000000):PC Proofs.Tryz.prog 43 [aTr ps,.sl 4 (l.map aSyn)] (tabV (off ps ps.length) (tabX ps l)):=by
 have h1:=ref13_Events ps hs
 have hN:=valid_off hv
 have hEv:=fun k (hk:k<off ps ps.length)=>ref13_EventE ps hs hk
 have hDi:=fun i j (hi:i<off ps ps.length) (hj:j<off ps ps.length)=>ref13_DirectE ps hs hv hi hj
 have hoff:=@off_lt ps
 have hNum:=fun p i (hp:p<ps.length) (hi:i<ps[p].evs.length)=>ref13_Number ps hs hp (show i<nev ps p by rw[nev_get hp];exact hi)
 have hsnoc:=@dirB_snoc ps
 have hT:tabX ps l=warF (off ps ps.length) (dirB ps l):=rfl
 rw[hT]
 clear hT
 generalize off ps ps.length=N at *
 have hSL:∃SL,SL=l.map aSyn:=⟨_,rfl⟩
 obtain⟨SL,hSL⟩:=hSL
 have hSLl:SL.length=l.length:=by rw[hSL,List.length_map]
 rw[← hSL]
 refine PC.enter 116 [.tmp 4] [2,9,43] Proofs.Tryz.func43 rfl rfl rfl rfl rfl (by simp) (AWp.of ?_);simp only[go_sem]
 refine Wk ?_
 refine Sd ?_
 refine(h1).val.use ?_;simp only[go_sem]
 refine Wk ?_
 refine AWp.block (AWp.count 7 N [6] [1,2,5] (fun i vs L=>∃v,vs=[v]∧FamS 86 4 1 i (fun i=>bRow N (dirB ps [] i)) v L) rfl rfl ⟨anil,rfl,.nil _⟩ ?_)
 rintro i vs L hi - ⟨v,rfl,hF⟩
 have hfo:=hF.fo
 simp only[go_sem]
 refine W1 hfo ?_
 refine⟨fun h => ?_,fun h => ?_⟩
 ·have hiN:i<N:=by omega
  have h2:=hEv i hiN
  have h3:=fun j hj=>hDi i j hiN hj
  obtain⟨x1,x2,hx⟩:∃x1 x2,evE ps i=(x1,x2):=⟨_,_,rfl⟩
  rw[hx] at h2 h3
  change PC _ _ _ (.agg [ai x1,ai x2]) at h2
  change ∀j,j<N→PC _ _ [_,.agg [ai x1,ai x2],_] _ at h3
  refine W1 hfo ?_
  intro b8 g8
  refine W1 hfo ?_
  refine Sd ?_
  refine(h2).val.use ?_;simp only[go_sem]
  refine W1 hfo ?_
  intro b9 g9 g10
  clear g9 g10
  refine W1 hfo ?_
  refine AWp.block (AWp.count 10 N [] [1,2,5,6,7,8,9] (fun j vs L'=>L'=(b8,.row 4 1 (bRow N (upto (dirB ps [] i) j)) N) :: L) rfl rfl ?_ ?_)
  ·have:upto (dirB ps [] i) 0=fun _=>false:=by funext y;simp [upto]
   rw[this,bRow_fill]
  rintro j vs L' hj - rfl
  simp only[go_sem]
  refine W1 hfo ?_
  refine⟨fun h4 => ?_,fun h4 => ?_⟩
  ·have hjN:j<N:=by omega
   have h5:=hEv j hjN
   have h6:=h3 j hjN
   have hset:bRow N (upto (dirB ps [] i) (j+1))=(bRow N (upto (dirB ps [] i) j)).set j (ab (dirB ps [] i j)):=by
    rw[bRow_set (f:=upto (dirB ps [] i) j) (j:=j) fun y hy => ?_]
    ·congr 2;simp [upto]
    ·unfold upto
     have:decide (y<j+1)=decide (y<j):=by rw[decide_eq_decide];omega
     rw[this]
   have hbl:=bRow_len (n:=N) (f:=upto (dirB ps [] i) j)
   have hbg:=bRow_get (n:=N) (f:=upto (dirB ps [] i) j) hjN
   generalize bRow N (upto (dirB ps [] i) j)=ys at *
   generalize dirB ps [] i j=bb at *
   obtain⟨y1,y2,hy⟩:∃y1 y2,evE ps j=(y1,y2):=⟨_,_,rfl⟩
   rw[hy] at h5 h6
   change PC _ _ _ (.agg [ai y1,ai y2]) at h5
   change PC _ _ [_,_,.agg [ai y1,ai y2]] _ at h6
   repeat(first|(with_reducible refine AWp.seq ?_)|(with_reducible refine AWp.block ?_))
   refine AWp.mix mixed [0,1,2,3,4,5,6,7] (.step 8 (.step 9 .done .done) .done) (by kernel_rfl) ?_;simp only[go_sem]
   refine Sd ?_
   refine GCall.use (.agg [ai y1,ai y2]) (fun _=>⟨At,(h5).val.use ⟨rfl,rfl⟩⟩) ?_;simp only[go_sem]
   refine Sd ?_
   refine GCall.use (ab bb) (fun _=>⟨At,(h6).val.use ⟨rfl,rfl⟩⟩) ?_;simp only[go_sem,hbl,hbg]
   refine Sd ?_
   refine W2 hbl hbg ?_
   exact⟨_,List.Sublist.refl _,by rw[hset]⟩
  ·have:N=j:=by omega
   subst this
   have hu:bRow N (upto (dirB ps [] i) N)=bRow N (dirB ps [] i):=bRow_congr fun y hy=>by simp [upto,hy]
   rw[hu]
   clear hu
   obtain⟨Lv,V,Ls,hP,hA,hFr⟩:=hF
   have hPP:((b8,ABlk.row 4 1 (bRow N (dirB ps [] i)) N) :: L).Perm (Lv ++ ([(b8,ABlk.row 4 1 (bRow N (dirB ps [] i)) N)] ++ famL i Ls)):=(hP.cons _).trans (by simpa using (List.perm_middle (l₁:=Lv) (l₂:=famL i Ls) (a:=(b8,ABlk.row 4 1 (bRow N (dirB ps [] i)) N))).symm)
   refine AWp.perm hPP ?_
   have hyl:((List.range i).map V).length=i:=by simp
   have hys:∃ys,ys=(List.range i).map V:=⟨_,rfl⟩
   obtain⟨ys,hys⟩:=hys
   rw[← hys] at hA hyl
   have hx':AppSt 4 1 (bRow N (dirB ps [] i)) (.ls b8 1 0 N N) [(b8,.row 4 1 (bRow N (dirB ps [] i)) N)]:=by
    have:=AppSt.row (t:=4) (k:=1) b8 (bRow N (dirB ps [] i)) N
    rwa [bRow_len] at this
   rcases hA.inv with ⟨e1,rfl,rfl⟩|⟨bo,cap,rfl,rfl⟩
   ·refine Wk ?_
    intro b' cap'
    intros
    refine Wk ?_
    exact⟨_,List.Sublist.refl _,_,rfl,FamS.snoc (n:=i) hFr hx' (by rw[← hys,e1];exact .row _ _ _) (.refl _)⟩
   ·refine Wk ?_
    refine Sd ?_
    intro b' cap'
    intros
    refine Wk ?_
    exact⟨_,List.Sublist.refl _,_,rfl,FamS.snoc (n:=i) hFr hx' (by rw[← hys];exact AppSt.snoc _ _ _ rfl) (.refl _)⟩
 ·have:N=i:=by omega
  subst this
  refine W2 hfo hSLl ?_
  refine AWp.block (AWp.count 11 l.length [] [1,2,5,6] (fun k vs L=>vs=[]∧FamS 86 4 1 N (fun i=>bRow N (dirB ps (l.take k) i)) v L) rfl rfl ⟨rfl,by rw[List.take_zero];exact hF⟩ ?_)
  clear hF
  rintro k vs L hk - ⟨rfl,hF⟩
  simp only[go_sem]
  refine W2 hfo hSLl ?_
  refine⟨fun h4 => ?_,fun h4 => ?_⟩
  ·have hkl:k<l.length:=by omega
   have hgs:SL.getD k .any=aSyn l[k]:=by rw[hSL];exact getD_map hkl
   have hok:=hl l[k] (List.getElem_mem hkl)
   have htk:l.take (k+1)=l.take k ++ [l[k]]:=List.take_succ_eq_append_getElem hkl
   generalize l[k]=s at *
   obtain⟨⟨a,b⟩,c,d⟩:=s
   have hform:∀x:Eid,(0≤x.1∧x.1<ps.length∧1≤x.2∧x.2≤nev ps x.1.toNat)→∃p i:Nat,∃hp:p<ps.length,i<ps[p].evs.length∧x=((p:Int),(i:Int)+1):=fun x hx=>by
    obtain⟨t1,t2,t3,t4⟩:=hx
    have hp:x.1.toNat<ps.length:=by omega
    rw[nev_get hp] at t4
    exact⟨x.1.toNat,x.2.toNat - 1,hp,by omega,by rw[Prod.ext_iff];dsimp only;omega⟩
   obtain⟨p,i,hp,hi,e1⟩:=hform (a,b) hok.1
   obtain⟨q,j,hq,hj,e2⟩:=hform (c,d) hok.2
   have m1:=hNum p i hp hi
   have m2:=hNum q j hq hj
   rw[← e1] at m1
   rw[← e2] at m2
   have hx:=hoff hp hi
   have hy:=hoff hq hj
   have hsn:=fun x y (hx:x<N)=>hsnoc (l:=l.take k) (s:=((a,b),(c,d))) hp hi hq hj e1 e2 (x:=x) (y:=y) hx
   rw[← htk] at hsn
   clear hform hok e1 e2 htk
   generalize off ps p+i=x at *
   generalize off ps q+j=y at *
   change PC _ _ [_,.agg [ai a,ai b]] _ at m1
   change PC _ _ [_,.agg [ai c,ai d]] _ at m2
   have hgs:SL.getD k .any = .agg [ai a,ai b,ai c,ai d]:=hgs
   obtain⟨bo,cap,V,bp,cp,X,rfl,hVl,hVp,hP,hcl⟩:=hF.one hx (bRow_ne hx)
   have hcl2:=hcl (fun z=>if z=x then (bRow N (dirB ps (l.take k) x)).set y (ab true) else bRow N (dirB ps (l.take k) z)) ((bo,.row 86 1 V cap) :: (bp,.row 4 1 ((bRow N (dirB ps (l.take k) x)).set y (ab true)) cp) :: X) (fun z hz=>if_neg hz) (by rw[if_pos rfl,List.length_set]) (by rw[if_pos rfl])
   have hcl3:FamS 86 4 1 N (fun i=>bRow N (dirB ps (l.take (k+1)) i)) (.ls bo 1 0 N cap) ((bo,.row 86 1 V cap) :: (bp,.row 4 1 ((bRow N (dirB ps (l.take k) x)).set y (ab true)) cp) :: X):=by
    refine hcl2.congr fun z hz => ?_
    by_cases e:z=x
    ·rw[if_pos e,e]
     rw[bRow_set (f:=dirB ps (l.take k) x) (j:=y) fun w hw=>by rw[hsn x w hx,if_neg (fun h=>hw h.2)],hsn x y hx,if_pos ⟨rfl,rfl⟩]
    ·rw[if_neg e]
     exact bRow_congr fun w _=>by rw[hsn z w hz,if_neg (fun h=>e h.1)]
   clear hcl hcl2 hF hsn
   have hbl:=bRow_len (n:=N) (f:=dirB ps (l.take k) x)
   have hbg:=bRow_get (n:=N) (f:=dirB ps (l.take k) x) hy
   rw[bRow_len] at hVp
   refine AWp.perm hP (AWp.nodup fun hnd => ?_)
   obtain⟨d1,d2,-⟩:=nd2 hnd
   clear hnd hP
   generalize bRow N (dirB ps (l.take k) x)=ys at *
   repeat(first|(with_reducible refine AWp.seq ?_)|(with_reducible refine AWp.block ?_))
   refine AWp.mix mixed [0,1,2,3,4,5,6,7,8,10,11,12,13,14,15,16] (.step 9 (.step 17 (.step 18 .done .done) .done) .done) (by kernel_rfl) ?_;simp only[go_sem,hgs]
   refine Sd ?_
   refine GCall.use (ai x) (fun _=>⟨At,(m1).val.use ⟨rfl,rfl⟩⟩) ?_;simp only[go_sem,hgs]
   refine Sd ?_
   refine GCall.use (ai y) (fun _=>⟨At,(m2).val.use ⟨rfl,rfl⟩⟩) ?_;simp only[go_sem,hbl,hbg,hVl,hVp,d1,d2]
   refine Sd ?_
   refine W2 d1 d2 ?_
   exact⟨_,List.Sublist.refl _,hcl3⟩
  ·have:k=l.length:=by omega
   subst this
   rw[List.take_length] at hF
   refine W1 hfo ?_
   refine AWp.block (AWp.count 12 N [] [5,6] (fun k vs L=>vs=[]∧FamS 86 4 1 N (fun i=>bRow N (warF k (dirB ps l) i)) v L) rfl rfl ⟨rfl,hF⟩ ?_)
   clear hF
   rintro k vs L hk - ⟨rfl,hF⟩
   simp only[go_sem]
   refine W1 hfo ?_
   refine⟨fun h5 => ?_,fun h5 => ?_⟩
   ·have hkN:k<N:=by omega
    have hnx:warF (k+1) (dirB ps l)=wstep k (warF k (dirB ps l)):=rfl
    generalize hg:warF k (dirB ps l)=g at *
    refine W1 hfo ?_
    refine AWp.block (AWp.count 13 N [] [5,6,12] (fun i vs L=>vs=[]∧FamS 86 4 1 N (fun x=>bRow N (mid k i 0 g x)) v L) rfl rfl ⟨rfl,by rw[mid_zero];exact hF⟩ ?_)
    clear hF
    rintro i vs L hi - ⟨rfl,hF⟩
    simp only[go_sem]
    refine W1 hfo ?_
    refine⟨fun h6 => ?_,fun h6 => ?_⟩
    ·have hiN:i<N:=by omega
     refine W1 hfo ?_
     refine AWp.block (AWp.count 14 N [] [5,6,12,13] (fun j vs L=>vs=[]∧FamS 86 4 1 N (fun x=>bRow N (mid k i j g x)) v L) rfl rfl ⟨rfl,hF⟩ ?_)
     clear hF
     rintro j vs L hj - ⟨rfl,hF⟩
     simp only[go_sem]
     refine W1 hfo ?_
     refine⟨fun h7 => ?_,fun h7 => ?_⟩
     ·have hjN:j<N:=by omega
      have hat:=mid_at (k:=k) (i:=i) (j:=j) (f:=g)
      have hmr:=fun x (h:x ≠ i)=>mid_row (k:=k) (i:=i) (j:=j) (f:=g) h
      have hmo:=fun y (h:y ≠ j)=>mid_oth (k:=k) (i:=i) (j:=j) (f:=g) h
      generalize hg2:mid k i (j+1) g=g2 at *
      generalize mid k i j g=g1 at *
      have hb1:=bRow_get (n:=N) (f:=g1 i) hjN
      have hb2:=bRow_get (n:=N) (f:=g1 i) hkN
      have hb3:=bRow_get (n:=N) (f:=g1 k) hjN
      have hbl:=bRow_len (n:=N) (f:=g1 i)
      have hbl2:=bRow_len (n:=N) (f:=g1 k)
      have hrow:bRow N (g2 i)=(bRow N (g1 i)).set j (ab (g1 i j || (g1 i k && g1 k j))):=by
       rw[bRow_set (f:=g1 i) (j:=j) hmo,hat]
      by_cases e:k=i
      ·subst e
       obtain⟨bo,cap,V,bp,cp,X,rfl,hVl,hVp,hP,hcl⟩:=hF.one hkN (bRow_ne hkN)
       have hcl3:FamS 86 4 1 N (fun x=>bRow N (g2 x)) (.ls bo 1 0 N cap) ((bo,.row 86 1 V cap) :: (bp,.row 4 1 ((bRow N (g1 k)).set j (ab (g1 k j || (g1 k k && g1 k j)))) cp) :: X):=by
        refine hcl _ _ (fun z hz=>by rw[hmr z hz]) (by rw[bRow_len,bRow_len]) ?_
        rw[hrow]
       clear hcl hF hrow hat hmr hmo
       rw[bRow_len] at hVp
       refine AWp.perm hP (AWp.nodup fun hnd => ?_)
       obtain⟨d1,d2,-⟩:=nd2 hnd
       clear hnd hP
       generalize bRow N (g1 k)=ys at *
       generalize g1 k j=x1 at *
       generalize g1 k k=x2 at *
       have hax:(x1 || (x2 && x1))=x1:=by cases x1 <;> cases x2 <;> rfl
       rw[hax] at hcl3
       clear hax
       cases x1 with
       | true =>
        repeat(first|(with_reducible refine AWp.seq ?_)|(with_reducible refine AWp.block ?_))
        refine AWp.readW mixed [0,1,2,3,4,5,6,7,8,9,10,11,12,13,14,15,16,17,18,19,20,21,22,23,24,25,26,27,28,29,30] 31 (by kernel_rfl) ?_;simp only[go_sem,hbl,hb1,hb2,hVl,hVp,d1,d2]
        refine Sd ?_
        repeat(first|((with_reducible refine AWp.ofC ?_ ?_);exact rfl;simp only[go_sem])|((with_reducible refine an ?_ ?_);exact Au))
        refine⟨_,List.Sublist.refl _,?_⟩
        rw[hg2]
        exact hcl3
       | false =>
        cases x2 with
        | true =>
         repeat(first|(with_reducible refine AWp.seq ?_)|(with_reducible refine AWp.block ?_))
         refine AWp.readW mixed [0,1,2,3,4,5,6,7,8,9,10,11,12,13,14,15,16,17,18,19,20,21,22,23,24,25,26,27,28,29,30] 31 (by kernel_rfl) ?_;simp only[go_sem,hbl,hb1,hb2,hVl,hVp,d1,d2]
         refine Sd ?_
         repeat(first|((with_reducible refine AWp.ofC ?_ ?_);exact rfl;simp only[go_sem])|((with_reducible refine an ?_ ?_);exact Au))
         refine⟨_,List.Sublist.refl _,?_⟩
         rw[hg2]
         exact hcl3
        | false =>
         repeat(first|(with_reducible refine AWp.seq ?_)|(with_reducible refine AWp.block ?_))
         refine AWp.readW mixed [0,1,2,3,4,5,6,7,8,9,10,11,12,13,14,15,16,17,18,19,20,21,22,23,24,25,26,27,28,29,30] 31 (by kernel_rfl) ?_;simp only[go_sem,hbl,hb1,hb2,hVl,hVp,d1,d2]
         refine Sd ?_
         repeat(first|((with_reducible refine AWp.ofC ?_ ?_);exact rfl;simp only[go_sem])|((with_reducible refine an ?_ ?_);exact Au))
         refine⟨_,List.Sublist.refl _,?_⟩
         rw[hg2]
         exact hcl3
      ·have e':¬i=k:=fun h=>e h.symm
       obtain⟨bo,cap,V,bp,cp,bq,cq,X,rfl,hVl,hVp,hVq,hP,hcl⟩:=hF.two hiN hkN e (bRow_ne hiN) (bRow_ne hkN)
       have hcl3:FamS 86 4 1 N (fun x=>bRow N (g2 x)) (.ls bo 1 0 N cap) ((bo,.row 86 1 V cap) :: (bp,.row 4 1 ((bRow N (g1 i)).set j (ab (g1 i j || (g1 i k && g1 k j)))) cp) :: (bq,.row 4 1 (bRow N (g1 k)) cq) :: X):=by
        refine hcl _ _ (fun z hz=>by rw[hmr z hz]) (by rw[bRow_len,bRow_len]) ?_
        rw[hrow]
       clear hcl hF hrow hat hmr hmo
       rw[bRow_len] at hVp hVq
       refine AWp.perm hP (AWp.nodup fun hnd => ?_)
       obtain⟨⟨d1,d2⟩,⟨d3,d4⟩,⟨d5,d6⟩,-⟩:=nd3 hnd
       clear hnd hP
       generalize bRow N (g1 i)=ys at *
       generalize bRow N (g1 k)=zs at *
       generalize g1 i j=x1 at *
       generalize g1 i k=x2 at *
       generalize g1 k j=x3 at *
       cases x1 with
       | true =>
        repeat(first|(with_reducible refine AWp.seq ?_)|(with_reducible refine AWp.block ?_))
        refine AWp.readW mixed [0,1,2,3,4,5,6,7,8,9,10,11,12,13,14,15,16,17,18,19,20,21,22,23,24,25,26,27,28,29,30] 31 (by kernel_rfl) ?_;simp only[go_sem,hbl,hbl2,hb1,hb2,hb3,hVl,hVp,hVq,d1,d2,d3,d4,d5,d6]
        refine Sd ?_
        repeat(first|((with_reducible refine AWp.ofC ?_ ?_);exact rfl;simp only[go_sem])|((with_reducible refine an ?_ ?_);exact Au))
        refine⟨_,List.Sublist.refl _,?_⟩
        rw[hg2]
        exact hcl3
       | false =>
        cases x2 with
        | true =>
         repeat(first|(with_reducible refine AWp.seq ?_)|(with_reducible refine AWp.block ?_))
         refine AWp.readW mixed [0,1,2,3,4,5,6,7,8,9,10,11,12,13,14,15,16,17,18,19,20,21,22,23,24,25,26,27,28,29,30] 31 (by kernel_rfl) ?_;simp only[go_sem,hbl,hbl2,hb1,hb2,hb3,hVl,hVp,hVq,d1,d2,d3,d4,d5,d6]
         refine Sd ?_
         repeat(first|((with_reducible refine AWp.ofC ?_ ?_);exact rfl;simp only[go_sem])|((with_reducible refine an ?_ ?_);exact Au))
         refine⟨_,List.Sublist.refl _,?_⟩
         rw[hg2]
         exact hcl3
        | false =>
         repeat(first|(with_reducible refine AWp.seq ?_)|(with_reducible refine AWp.block ?_))
         refine AWp.readW mixed [0,1,2,3,4,5,6,7,8,9,10,11,12,13,14,15,16,17,18,19,20,21,22,23,24,25,26,27,28,29,30] 31 (by kernel_rfl) ?_;simp only[go_sem,hbl,hbl2,hb1,hb2,hb3,hVl,hVp,hVq,d1,d2,d3,d4,d5,d6]
         refine Sd ?_
         repeat(first|((with_reducible refine AWp.ofC ?_ ?_);exact rfl;simp only[go_sem])|((with_reducible refine an ?_ ?_);exact Au))
         refine⟨_,List.Sublist.refl _,?_⟩
         rw[hg2]
         exact hcl3
     ·have:N=j:=by omega
      subst this
      refine Wk ?_
      exact⟨_,List.Sublist.refl _,hF.congr fun z hz=>bRow_congr fun y hy=>(mid_next hy).symm⟩
    ·have:N=i:=by omega
     subst this
     refine Wk ?_
     refine⟨_,List.Sublist.refl _,?_⟩
     rw[hnx]
     exact hF.congr fun z hz=>bRow_congr fun y hy=>(mid_full hz).symm
   ·have:N=k:=by omega
    subst this
    refine AWp.famView (j:=6) hF rfl ?_
    have hTV:tabV N (warF N (dirB ps l)) = .sl 1 ((List.range N).map fun i => .sl 1 (bRow N (warF N (dirB ps l) i))):=rfl
    rw[hTV]
    generalize (List.range N).map (fun i=>AV.sl 1 (bRow N (warF N (dirB ps l) i)))=TT
    refine Wk ?_
    refine ret_eq ?_;simp only[go_sem]
theorem evE_ev {ps:List Pr} {k:Nat} (hk:k<off ps ps.length):EvX ps (evE ps k):=by
 obtain⟨p,i,hp,hi,rfl⟩:=num_form ps.length (Nat.le_refl _) hk
 rw[evE_at hp hi]
 have hn:=nev_get hp
 refine⟨by show (0:Int)≤p;omega,by show (p:Int)<_;omega,by show (1:Int)≤(i:Int)+1;omega,?_⟩
 show (i:Int)+1≤nev ps ((p:Int)).toNat
 rw[Int.toNat_natCast,hn];omega
theorem ev_num {ps:List Pr} {x:Eid} (h:EvX ps x):∃k,k<off ps ps.length∧evE ps k=x:=by
 obtain⟨p,i,hp,hi,rfl⟩:=evx_form h
 rw[nev_get hp] at hi
 exact⟨off ps p+i,off_lt hp hi,evE_at hp hi⟩
theorem dirB_iff {ps:List Pr} (hv:validF ps=true) {l:List Syn} (hl:SynOk ps l) {i j:Nat} : dirB ps l i j=true↔i<off ps ps.length∧j<off ps ps.length∧DirR ps l (evE ps i) (evE ps j):=by
 unfold dirB
 rw[decide_eq_true_eq]
 have hdk:∀ {j},j<off ps ps.length→dirK ps l j=dirX ps l (evE ps j).1.toNat ((evE ps j).2.toNat - 1):=fun {j} hj=>by
  obtain⟨p,a,hp,ha,rfl⟩:=num_form ps.length (Nat.le_refl _) hj
  rw[dirK_at hp ha,evE_at hp ha]
  show _=dirX ps l ((p:Int)).toNat (((a:Int)+1).toNat - 1)
  rw[Int.toNat_natCast,show ((a:Int)+1).toNat - 1=a by omega]
 constructor
 ·intro h
  have hj:j<off ps ps.length:=by
   apply Classical.byContradiction
   intro hj
   have:dirK ps l j=[]:=by
    unfold dirK
    rw[List.getElem?_eq_none (by rw[evIds_length];omega)]
   rw[this] at h;cases h
  have hd:DirR ps l (evE ps i) (evE ps j):=⟨evE_ev hj,by rw[← hdk hj];exact h⟩
  refine⟨?_,hj,hd⟩
  apply Classical.byContradiction
  intro hi
  have h0:evE ps i=(0,0):=by
   unfold evE
   rw[List.getElem?_eq_none (by rw[evIds_length];omega)]
  obtain⟨p,a,hp,ha,hje⟩:=evx_form (evE_ev hj)
  rw[hje] at hd
  obtain⟨_,_,hx⟩:=dir_iff hd
  have:=(dirX_ev hv hl hp ha _ hx).2.2.1
  rw[h0] at this
  have:(1:Int)≤0:=this
  omega
 ·rintro⟨hi,hj,h⟩
  rw[hdk hj];exact h.2
theorem tab_iff {ps:List Pr} (hv:validF ps=true) {l:List Syn} (hl:SynOk ps l) {i j:Nat} (hi:i<off ps ps.length) (hj:j<off ps ps.length):tabX ps l i j=true↔RchX ps l (evE ps i) (evE ps j):=by
 have hD:=@dirB_iff ps hv l hl
 unfold tabX
 rw[war_trans fun a b h=>⟨(hD.1 h).1,(hD.1 h).2.1⟩]
 constructor
 ·intro t
  induction t with
  | single h=>exact .single (hD.1 h).2.2
  | tail t h ih=>exact .tail (ih (hD.1 h).1) (hD.1 h).2.2
 ·intro t
  have key:∀ {x y:Eid},RchX ps l x y→∀j,j<off ps ps.length→y=evE ps j→∀i,i<off ps ps.length→x=evE ps i→Relation.TransGen (fun a b=>dirB ps l a b=true) i j:=fun {x y} t=>by
   induction t with
   | single h =>
    rintro j hj rfl i hi rfl
    exact .single (hD.2 ⟨hi,hj,h⟩)
   | @tail m y t h ih =>
    rintro j hj rfl i hi rfl
    obtain⟨p,a,hp,ha,hje⟩:=evx_form (evE_ev hj)
    have h':=h
    rw[hje] at h'
    obtain⟨_,_,hx⟩:=dir_iff h'
    have hm:EvX ps m:=dirX_ev hv hl hp ha _ hx
    obtain⟨k,hk,hke⟩:=ev_num hm
    refine .tail (ih k hk hke.symm i hi rfl) (hD.2 ⟨hk,hj,by rw[hke];exact h⟩)
  exact key t j hj rfl i hi rfl
theorem tab_ord {ps:List Pr} (hv:validF ps=true) {l:List Syn} (hl:SynOk ps l) (hW:WhlX ps (exF ps l)) {i j:Nat} (hi:i<off ps ps.length) (hj:j<off ps ps.length):tabX ps l i j=ordX ps (exF ps l) i j:=by
 have hG:=exF_gen ps l
 rw[Bool.eq_iff_iff,tab_iff hv hl hi hj]
 unfold ordX
 rw[Bool.and_eq_true,Bool.not_eq_true',decide_eq_false_iff_not,decide_eq_true_eq]
 obtain⟨q,b,hq,hb,rfl⟩:=num_form ps.length (Nat.le_refl _) hj
 have hnq:=nev_get hq
 have hWq:=hW q hq
 have e1:(evE ps (off ps q+b)).1.toNat=q:=by rw[evE_at hq hb];exact Int.toNat_natCast _
 have e2:(evE ps (off ps q+b)).2.toNat=b+1:=by rw[evE_at hq hb];show ((b:Int)+1).toNat=_;omega
 rw[e1,e2]
 have he:=evE_at hq hb
 constructor
 ·intro h
  refine⟨fun e => ?_,?_⟩
  ·subst e;exact whl_acyc hv hl hG hW h
  ·rw[he] at h
   exact rch_entry hv hl hG hq (k:=b+1) (by omega) (by simpa using h)
 ·rintro⟨hne,h⟩
  rw[he]
  rcases entry_rch hv hl hG (evE_ev hi) hq (by omega) (by omega) h with h1|h1
  ·exact absurd (evE_inj hi hj (h1.trans he.symm)) hne
  ·exact h1
theorem tab_diag {ps:List Pr} (hv:validF ps=true) {l:List Syn} (hl:SynOk ps l):((List.range (off ps ps.length)).any fun i=>tabX ps l i i) = !decide (lftX ps (exF ps l)=0):=by
 have hG:=exF_gen ps l
 rw[Bool.eq_iff_iff,List.any_eq_true,Bool.not_eq_true',decide_eq_false_iff_not,lft_whl hG]
 constructor
 ·rintro⟨i,hi,h⟩ hW
  have hi:=List.mem_range.1 hi
  exact whl_acyc hv hl hG hW ((tab_iff hv hl hi hi).1 h)
 ·intro hW
  obtain⟨x,hx,hr⟩:=stuck_cyc hv hl hG (exF_stop ps l) hW
  obtain⟨k,hk,rfl⟩:=ev_num hx
  exact⟨k,List.mem_range.2 hk,(tab_iff hv hl hk hk).2 hr⟩
end Go.AL
end
