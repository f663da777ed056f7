/- Texts of this claim's proof: AlRdw, WJ3, WJ4, WJ5, WY26, WY27, WZ6, WZ7, WY28, WY29, WY18, WY10, WY17, WY30, WZ13, WVec, WVec2, WPk2, WJ6. No condition. -/
import Derived.Test.YtjblppbkhgihoaaGreatDoorM6
import Derived.Test.YtjblppbkhgihoaaGreatDoorM16
import Derived.Test.YtjblppbkhgihoaaGreatDoorM15
import Derived.Test.YtjblppbkhgihoaaGreatDoorM10
import Derived.Test.YtjblppbkhgihoaaGreatDoorM12
import Derived.Test.YtjblppbkhgihoaaGreatDoorM14
import Derived.Test.YtjblppbkhgihoaaGreatDoorM7
import Derived.Test.YtjblppbkhgihoaaGreatDoorM13
section
namespace Go.AL
open Go Go.RowKit
def mixW (ops:Array Oper) (qs:List Nat):Bool :=
 ascend qs && qs.all (fun q=>decide (q<ops.size)) &&
 (List.range ops.size).all fun i=>match ops[i]? with
  | some o=>(predsOf o).all (fun p=>decide (p<i)) &&
    qs.all (fun q=>match dstOf ops q with
     | some d=>(!(o.looksAt ops).contains d || (predsOf o).contains q) && (i == q || !(o.dst == some d))
     | none=>true)
  | none=>true
section
variable {C:Cfg} {ops:Array Oper} {L:AHeap}
theorem mixW_at {qs:List Nat} (h:mixW ops qs=true) {i:Nat} {o:Oper} (hi:ops[i]?=some o) :
  (∀p ∈ predsOf o,p<i)∧(∀q ∈ qs,∀d,dstOf ops q=some d→(d ∈ o.looksAt ops→q ∈ predsOf o)∧(i ≠ q→o.dst ≠ some d)):=by
 unfold mixW at h
 simp only[Bool.and_eq_true,List.all_eq_true] at h
 have hlt:i<ops.size:=(Array.getElem?_eq_some_iff.1 hi).1
 have h3:=h.2 i (List.mem_range.2 hlt)
 rw[hi] at h3
 simp only[Bool.and_eq_true,List.all_eq_true,decide_eq_true_eq] at h3
 refine⟨h3.1,fun q hq d hd => ?_⟩
 have:=h3.2 q hq
 rw[hd] at this
 simp only[Bool.and_eq_true,Bool.or_eq_true,Bool.not_eq_true',List.contains_eq_mem,decide_eq_true_eq,decide_eq_false_iff_not,beq_iff_eq,beq_eq_false_iff_ne,ne_eq] at this
 exact⟨fun hm=>this.1.resolve_left (fun hn=>hn hm),fun hne=>this.2.resolve_left hne⟩
theorem mixW_asc {qs:List Nat} (h:mixW ops qs=true):ascend qs=true∧∀q ∈ qs,q<ops.size:=by
 unfold mixW at h
 simp only[Bool.and_eq_true,List.all_eq_true,decide_eq_true_eq] at h
 exact h.1
theorem aqWRun_facts {qs0:List Nat} (hm:mixW ops qs0=true) (hok:ops.toList.all (operOk C.N)=true):∀(qs:List Nat) (ρ:Env) (K:Env→Prop),(∀q ∈ qs,q ∈ qs0)→ascend qs=true→aqLRun C ops.toList L qs K ρ →
  ∃ρq,K ρq∧(∀q ∈ qs,QFactL C ops ρq L q)∧∀s,(∀q ∈ qs,dstOf ops q ≠ some s)→get ρq s=get ρ s
 | [],ρ,K,_,_,h=>⟨ρ,h,fun q hq=>(by cases hq),fun _ _=>rfl⟩
 | i :: r,ρ,K,hsub,hasc,h=>by
  obtain⟨hlt,hasc'⟩:=ascend_cons hasc
  simp only[aqLRun] at h
  cases ho:ops.toList[i]? with
  | none=>rw[ho] at h;exact h.elim
  | some o =>
   rw[ho] at h
   have ho':ops[i]?=some o:=by simpa using ho
   obtain⟨x,hy,hK⟩:=aqL_yields ho' (List.all_eq_true.1 hok o (List.mem_of_getElem? ho)) h
   obtain⟨ρq,h1,h2,h3⟩:=aqWRun_facts hm hok r _ K (fun q hq=>hsub q (List.mem_cons_of_mem _ hq)) hasc' hK
   obtain⟨p1,p2⟩:=mixW_at hm ho'
   have hself:∀d,o.dst=some d→d ∉ o.looksAt ops:=fun d hd hm'=>by
    have:=(p2 i (hsub i List.mem_cons_self) d (by simp [dstOf,ho',hd])).1 hm'
    exact absurd (p1 i this) (Nat.lt_irrefl i)
   refine⟨ρq,h1,fun q hq => ?_,fun s hs => ?_⟩
   ·rcases List.mem_cons.1 hq with rfl|hq
    ·refine⟨o,x,ho',hy.of_agree fun t ht => ?_,fun d hd => ?_⟩
     ·rw[h3 t fun q' hq' he => ?_,get_put,if_neg fun he=>hself t he ht]
      have:=(p2 q' (hsub q' (List.mem_cons_of_mem _ hq')) t he).1 ht
      have:=p1 q' this;have:=hlt q' hq';omega
     ·rw[h3 d fun q' hq' he => ?_,get_put,if_pos hd]
      exact(p2 q' (hsub q' (List.mem_cons_of_mem _ hq')) d he).2 (by have:=hlt q' hq';omega) hd
    ·exact h2 q hq
   ·rw[h3 s fun q hq=>hs q (List.mem_cons_of_mem _ hq),get_put,if_neg]
    have:=hs i List.mem_cons_self
    simpa [dstOf,ho'] using this
end
def tailOk (ops:Array Oper) (qs:List Nat) (z:Nat):Bool :=
 mixW ops qs && !(qs.contains z) && ((List.range ops.size).all fun i=>qs.contains i || i == z) &&
 (match ops[z]? with|some o=>o.guard.isNone && qs.all (fun q=>(predsOf o).contains q)|none=>false)
section
variable {C:Cfg} {ops:Array Oper} {L:AHeap}
theorem rdw_sound {qs:List Nat} {z:Nat} {oz:Oper} (hm:mixW ops qs=true) (hall:∀i,i<ops.size→i ∈ qs∨i=z) (hz:z ∉ qs) (hoz:ops[z]?=some oz) (hpz:∀q ∈ qs,q ∈ predsOf oz)
  {K:ARes} {n:Nat} {w0:World} {M A0:Foot} {Q:Exit→Act→World→Prop} (hQ:∀a w,post w0 M A0 C.N K a w→Q .normal a w) {ρT:Env} (hK:GOp C ops z ρT L K) :
  ∀(f:Nat) (listed:Array Bool) (a:Act) (w:World),listed.size=ops.size→listed.getD z true=false →
   (∀l:List Nat,l.Nodup→(∀i ∈ l,listed.getD i true=false)→l.length≤f) →
   (∀q ∈ qs,listed.getD q true=false→QFactL C ops ρT L q)→St w0 M A0 C.N (mask ops qs listed ρT) L a w →
   wpAnyIn (Fw C.r) n C.P .any ops Q f listed a w:=by
 have allOf:∀listed:Array Bool,listed.size=ops.size→Region.ready .any ops listed=[]→∀i,listed.getD i true=true:=by
  intro listed hsz hr i
  induction i using Nat.strongRecOn with
  | _ i ih =>
   cases hi:listed.getD i true with
   | true=>rfl
   | false =>
    exfalso
    have hlt:i<ops.size:=by
     rw[← hsz]
     by_cases h:i<listed.size
     ·exact h
     ·simp [Array.getD,h] at hi
    have ho:ops[i]?=some ops[i]:=Array.getElem?_eq_getElem hlt
    have:i ∈ Region.ready .any ops listed:=mem_ready.2 ⟨hi,_,ho,fun e he hb=>by
     have hp:=(mixW_at hm ho).1 e.on (List.mem_map.2 ⟨e,List.mem_filter.2 ⟨by simpa using he,hb⟩,rfl⟩)
     exact getD_ft (by omega) (ih _ hp)⟩
    rw[hr] at this;cases this
 intro f
 induction f with
 | zero =>
  intro listed a w hsz hlz hcnt hfact hs
  exfalso
  have:=hcnt [z] (by simp) (fun i hi=>by simp at hi;subst hi;exact hlz)
  simp at this
 | succ f ih =>
  intro listed a w hsz hlz hcnt hfact hs
  refine⟨fun hr=>(by have:=allOf listed hsz hr z;rw[hlz] at this;cases this),fun i hi => ?_⟩
  obtain⟨hun,o,ho,hpre⟩:=mem_ready.1 hi
  have hlt:i<ops.size:=(Array.getElem?_eq_some_iff.1 ho).1
  by_cases ez:i=z
  ·subst ez
   rw[ho] at hoz;cases hoz
   have hql:∀q ∈ qs,listed.getD q true=true:=fun q hq=>by
    obtain⟨e,he,rfl⟩:=List.mem_map.1 (hpz q hq)
    obtain⟨he1,he2⟩:=List.mem_filter.1 he
    exact getD_tf (hpre e (by simpa using he1) he2)
   have hs':St w0 M A0 C.N ρT L a w:=st_forget hs fun s => .inr (mask_out fun q hq hl _=>by rw[hql q hq] at hl;cases hl).symm
   refine wpOpIn_mono ?_ (hK n w0 M A0 a w Q hs')
   intro a' w' hp
   have hready:Region.ready .any ops (listed.setIfInBounds i true)=[]:=by
    cases hh:Region.ready .any ops (listed.setIfInBounds i true) with
    | nil=>rfl
    | cons j r =>
     exfalso
     have hj:j ∈ Region.ready .any ops (listed.setIfInBounds i true):=by rw[hh];exact List.mem_cons_self
     obtain⟨h1,oj,hoj,_⟩:=mem_ready.1 hj
     have hjlt:j<ops.size:=(Array.getElem?_eq_some_iff.1 hoj).1
     by_cases e:j=i
     ·subst e
      simp [Array.getD,show j<listed.size by omega] at h1
     ·rw[getD_set_ne true (Ne.symm e)] at h1
      rw[hql j ((hall j hjlt).resolve_right e)] at h1;cases h1
   cases f with
   | zero=>exact⟨hready,hQ _ _ hp⟩
   | succ f=>exact⟨fun _=>hQ _ _ hp,fun j hj=>by rw[hready] at hj;cases hj⟩
  ·have hq:=(hall i hlt).resolve_right ez
   obtain⟨m1,m2⟩:=mixW_at hm ho
   have hlooks:∀t ∈ o.looksAt ops,get (mask ops qs listed ρT) t=get ρT t:=fun t ht=>mask_out fun q hq hl hd=>by
    have hp:=(m2 q hq t hd).1 ht
    obtain⟨e,he,rfl⟩:=List.mem_map.1 hp
    obtain⟨he1,he2⟩:=List.mem_filter.1 he
    have:=getD_tf (hpre e (by simpa using he1) he2)
    rw[hl] at this;cases this
   have hcnt':∀l:List Nat,l.Nodup→(∀j ∈ l,(listed.setIfInBounds i true).getD j true=false)→l.length≤f:=fun l hn hl=>by
    have hil:i ∉ l:=fun h=>by
     have:=hl i h
     simp [Array.getD,show i<listed.size by omega] at this
    have:=hcnt (i :: l) (List.nodup_cons.2 ⟨hil,hn⟩) (fun j hj=>by
     rcases List.mem_cons.1 hj with rfl|hj
     ·exact hun
     ·have:=hl j hj
      have hne:i ≠ j:=fun e=>hil (e ▸ hj)
      rwa [getD_set_ne true hne] at this)
    simp at this;omega
   have hset:∀j,j ≠ i→(listed.setIfInBounds i true).getD j true=listed.getD j true:=fun j hj=>getD_set_ne true (Ne.symm hj)
   obtain⟨o',x,ho',hy,hgx⟩:=hfact i hq hun
   rw[ho] at ho';cases ho'
   refine wpOpIn_mono ?_ (hy _ hlooks n w0 M A0 a w Q hs)
   rintro a' w' ⟨ρ2,L2,⟨rfl,rfl⟩,hs2⟩
   refine ih _ a' w' (by simpa using hsz) (by rw[hset z (Ne.symm ez)];exact hlz) hcnt' (fun q hq' hl=>hfact q hq' (by
    by_cases e:q=i
    ·subst e;exact hun
    ·rwa [hset q e] at hl)) (st_forget hs2 fun s => ?_)
   rcases mask_or (ops:=ops) qs (listed.setIfInBounds i true) ρT s with ⟨h1,_⟩|⟨h1,h2⟩
   ·exact .inl h1
   ·refine .inr ?_
    rw[h1,get_put]
    by_cases hd:o.dst=some s
    ·rw[if_pos hd];exact hgx s hd
    ·rw[if_neg hd,mask_out fun q hq' hl hds => ?_]
     by_cases e:q=i
     ·subst e;exact hd (by simpa [dstOf,ho] using hds)
     ·exact h2 q hq' (by rw[hset q e];exact hl) hds
end
def rdwK (C:Cfg) (all:List Oper) (z:Nat) (K:ARes) (L:AHeap) (ρ:Env):Prop:=match all[z]? with|some o=>aopX C o ρ L K|none=>False
theorem AWp.readW {C:Cfg} {id:Nat} {ops:Array Oper} {Q:AQ} {ρ:Env} {L:AHeap} (hmx:C.P.follows .mixedOrders=true) (qs:List Nat) (z:Nat) (hT:tailOk ops qs z=true) (h:aqLRun C ops.toList L qs (rdwK C ops.toList z (Q .normal) L) ρ) :
  AWp C (.region id ops true) Q ρ L:=fun hok n w0 M A0 a w hs=>by
 simp only[tailOk,Bool.and_eq_true,List.all_eq_true,Bool.not_eq_true',Bool.or_eq_true,beq_iff_eq,List.contains_eq_mem,decide_eq_true_eq,decide_eq_false_iff_not] at hT
 obtain⟨⟨⟨hm,hz⟩,hal⟩,hzo⟩:=hT
 have hasc:=mixW_asc hm
 obtain⟨ρq,hK,hF,hother⟩  :=aqWRun_facts hm hok qs ρ _ (fun _ h=>h) hasc.1 h
 refine wpIn_region_any hmx ?_
 obtain⟨A,ds,hs'⟩:=st_iff.1 hs
 cases hoz:ops[z]? with
 | none=>rw[hoz] at hzo;cases hzo
 | some oz =>
  rw[hoz] at hzo
  simp only[Bool.and_eq_true,List.all_eq_true,List.contains_eq_mem,decide_eq_true_eq,Option.isNone_iff_eq_none] at hzo
  have hzl:ops.toList[z]?=some oz:=by simpa using hoz
  unfold rdwK at hK
  rw[hzl] at hK
  have hoo:=List.all_eq_true.1 hok oz (List.mem_of_getElem? hzl)
  have hzlt:z<ops.size:=(Array.getElem?_eq_some_iff.1 hoz).1
  have hgo:GOp C ops z ρq L (Q .normal):=AOp.gop hoz hzo.1 (aop_sound (operOk_dst hoo) (operOk_def hoo) (aopX_aop hK))
  refine rdw_sound hm (fun i hi=>hal i (List.mem_range.2 hi)) hz hoz (fun q hq=>hzo.2 q hq) (K:=Q .normal) (fun a w ⟨ρ',L',h1,h2⟩=>⟨ρ',L',h1,h2⟩) hgo ops.size _ a _ (by simp) (by simp [Array.getD,hzlt]) ?_ (fun q hq _=>hF q hq) (st_forget (st_iff.2 ⟨A,ds,hs'.drew⟩) fun s => ?_)
  ·intro l hn hl
   have:=List.Nodup.length_le_of_subset hn (l₂:=List.range ops.size) (fun i hi=>by
    have:=hl i hi
    rw[List.mem_range]
    by_cases h:i<ops.size
    ·exact h
    ·simp [Array.getD,h] at this)
   simpa using this
  ·rcases mask_or (ops:=ops) qs (Array.replicate ops.size false) ρq s with ⟨h1,_⟩|⟨h1,h2⟩
   ·exact .inl h1
   ·refine .inr ?_
    rw[h1]
    exact hother s fun q hq hd=>h2 q hq (by simp [Array.getD,hasc.2 q hq]) hd
attribute [go_sem] rdwK
end Go.AL
end
section
namespace Go.AL
open Go Go.RowKit
set_option maxRecDepth 4000
theorem perm_1_2 {α:Type} (x y z:α) (R:List α):(x :: y :: z :: R).Perm (y :: z :: x :: R):=(List.Perm.swap y x _).trans ((List.Perm.swap z x R).cons y)
theorem take_mem {α:Type} {l:List α} {k:Nat} (hk:k<l.length) (x:α):x ∈ l.take (k+1)↔x ∈ l.take k∨x=l[k]:=by
 rw[List.take_succ_eq_append_getElem hk,List.mem_append,List.mem_singleton]
theorem filR_eq (f:Nat→Bool) (n:Nat):filR f n=((List.range n).filter f).map fun j:Nat=>ai j:=rfl
section
variable (n:Nat) (hn:n≤512) (F:Nat→Nat→Bool) (hirr:∀i,i<n→F i i=false) (htr:∀i j k,i<n→j<n→k<n→F i j=true→F j k=true→F i k=true) (f:Nat→Bool)
include hn hirr htr
end
def nxN (n:Nat) (G:Nat→Nat→Bool) (f:Nat→Bool) (i:Nat):Bool:=!f i && subN n (G i) f
def dirB (ps:List Pr) (l:List Syn) (i j:Nat):Bool:=decide (evE ps i ∈ dirK ps l j)
def tabX (ps:List Pr) (l:List Syn):Nat→Nat→Bool:=warF (off ps ps.length) (dirB ps l)
theorem FamS.fo {tO tI:TypeId} {k n:Nat} {Y:Nat→List AV} {v:AV} {L:AHeap} (h:FamS tO tI k n Y v L):fo v=(True,v):=by
 obtain⟨Lv,V,Ls,_,hA,_⟩:=h
 exact hA.fo
theorem evE_inj {ps:List Pr} {i j:Nat} (hi:i<off ps ps.length) (hj:j<off ps ps.length) (h:evE ps i=evE ps j):i=j:=by
 obtain⟨p,a,hp,ha,rfl⟩:=num_form ps.length (Nat.le_refl _) hi
 obtain⟨q,b,hq,hb,rfl⟩:=num_form ps.length (Nat.le_refl _) hj
 rw[evE_at hp ha,evE_at hq hb,Prod.mk.injEq] at h
 have:p=q:=by omega
 subst this
 omega
theorem off_lt {ps:List Pr} {p i:Nat} (hp:p<ps.length) (hi:i<ps[p].evs.length):off ps p+i<off ps ps.length:=by
 have:=off_le hp;omega
theorem evE_ev {ps:List Pr} {k:Nat} (hk:k<off ps ps.length):EvX ps (evE ps k):=by
 obtain⟨p,i,hp,hi,rfl⟩:=num_form ps.length (Nat.le_refl _) hk
 rw[evE_at hp hi]
 have hn:=nev_get hp
 refine⟨by show (0:Int)≤p;omega,by show (p:Int)<_;omega,by show (1:Int)≤(i:Int)+1;omega,?_⟩
 show (i:Int)+1≤nev ps ((p:Int)).toNat
 rw[Int.toNat_natCast,hn];omega
theorem ev_num {ps:List Pr} {x:Eid} (h:EvX ps x):∃k,k<off ps ps.length∧evE ps k=x:=by
 obtain⟨p,i,hp,hi,rfl⟩:=evx_form h
 rw[nev_get hp] at hi
 exact⟨off ps p+i,off_lt hp hi,evE_at hp hi⟩
theorem dirB_iff {ps:List Pr} (hv:validF ps=true) {l:List Syn} (hl:SynOk ps l) {i j:Nat} : dirB ps l i j=true↔i<off ps ps.length∧j<off ps ps.length∧DirR ps l (evE ps i) (evE ps j):=by
 unfold dirB
 rw[decide_eq_true_eq]
 have hdk:∀ {j},j<off ps ps.length→dirK ps l j=dirX ps l (evE ps j).1.toNat ((evE ps j).2.toNat - 1):=fun {j} hj=>by
  obtain⟨p,a,hp,ha,rfl⟩:=num_form ps.length (Nat.le_refl _) hj
  rw[dirK_at hp ha,evE_at hp ha]
  show _=dirX ps l ((p:Int)).toNat (((a:Int)+1).toNat - 1)
  rw[Int.toNat_natCast,show ((a:Int)+1).toNat - 1=a by omega]
 constructor
 ·intro h
  have hj:j<off ps ps.length:=by
   apply Classical.byContradiction
   intro hj
   have:dirK ps l j=[]:=by
    unfold dirK
    rw[List.getElem?_eq_none (by rw[evIds_length];omega)]
   rw[this] at h;cases h
  have hd:DirR ps l (evE ps i) (evE ps j):=⟨evE_ev hj,by rw[← hdk hj];exact h⟩
  refine⟨?_,hj,hd⟩
  apply Classical.byContradiction
  intro hi
  have h0:evE ps i=(0,0):=by
   unfold evE
   rw[List.getElem?_eq_none (by rw[evIds_length];omega)]
  obtain⟨p,a,hp,ha,hje⟩:=evx_form (evE_ev hj)
  rw[hje] at hd
  obtain⟨_,_,hx⟩:=dir_iff hd
  have:=(dirX_ev hv hl hp ha _ hx).2.2.1
  rw[h0] at this
  have:(1:Int)≤0:=this
  omega
 ·rintro⟨hi,hj,h⟩
  rw[hdk hj];exact h.2
theorem tab_iff {ps:List Pr} (hv:validF ps=true) {l:List Syn} (hl:SynOk ps l) {i j:Nat} (hi:i<off ps ps.length) (hj:j<off ps ps.length):tabX ps l i j=true↔RchX ps l (evE ps i) (evE ps j):=by
 have hD:=@dirB_iff ps hv l hl
 unfold tabX
 rw[war_trans fun a b h=>⟨(hD.1 h).1,(hD.1 h).2.1⟩]
 constructor
 ·intro t
  induction t with
  | single h=>exact .single (hD.1 h).2.2
  | tail t h ih=>exact .tail (ih (hD.1 h).1) (hD.1 h).2.2
 ·intro t
  have key:∀ {x y:Eid},RchX ps l x y→∀j,j<off ps ps.length→y=evE ps j→∀i,i<off ps ps.length→x=evE ps i→Relation.TransGen (fun a b=>dirB ps l a b=true) i j:=fun {x y} t=>by
   induction t with
   | single h =>
    rintro j hj rfl i hi rfl
    exact .single (hD.2 ⟨hi,hj,h⟩)
   | @tail m y t h ih =>
    rintro j hj rfl i hi rfl
    obtain⟨p,a,hp,ha,hje⟩:=evx_form (evE_ev hj)
    have h':=h
    rw[hje] at h'
    obtain⟨_,_,hx⟩:=dir_iff h'
    have hm:EvX ps m:=dirX_ev hv hl hp ha _ hx
    obtain⟨k,hk,hke⟩:=ev_num hm
    refine .tail (ih k hk hke.symm i hi rfl) (hD.2 ⟨hk,hj,by rw[hke];exact h⟩)
  exact key t j hj rfl i hi rfl
theorem tab_ord {ps:List Pr} (hv:validF ps=true) {l:List Syn} (hl:SynOk ps l) (hW:WhlX ps (exF ps l)) {i j:Nat} (hi:i<off ps ps.length) (hj:j<off ps ps.length):tabX ps l i j=ordX ps (exF ps l) i j:=by
 have hG:=exF_gen ps l
 rw[Bool.eq_iff_iff,tab_iff hv hl hi hj]
 unfold ordX
 rw[Bool.and_eq_true,Bool.not_eq_true',decide_eq_false_iff_not,decide_eq_true_eq]
 obtain⟨q,b,hq,hb,rfl⟩:=num_form ps.length (Nat.le_refl _) hj
 have hnq:=nev_get hq
 have hWq:=hW q hq
 have e1:(evE ps (off ps q+b)).1.toNat=q:=by rw[evE_at hq hb];exact Int.toNat_natCast _
 have e2:(evE ps (off ps q+b)).2.toNat=b+1:=by rw[evE_at hq hb];show ((b:Int)+1).toNat=_;omega
 rw[e1,e2]
 have he:=evE_at hq hb
 constructor
 ·intro h
  refine⟨fun e => ?_,?_⟩
  ·subst e;exact whl_acyc hv hl hG hW h
  ·rw[he] at h
   exact rch_entry hv hl hG hq (k:=b+1) (by omega) (by simpa using h)
 ·rintro⟨hne,h⟩
  rw[he]
  rcases entry_rch hv hl hG (evE_ev hi) hq (by omega) (by omega) h with h1|h1
  ·exact absurd (evE_inj hi hj (h1.trans he.symm)) hne
  ·exact h1
theorem ord_irr {ps:List Pr} {l:List Syn} (i:Nat):ordX ps (exF ps l) i i=false:=by unfold ordX;simp
section
variable {ps:List Pr} (hv:validF ps=true) {l:List Syn} (hl:SynOk ps l) (hW:WhlX ps (exF ps l))
include hv hl hW
theorem ord_rch {i j:Nat} (hi:i<off ps ps.length) (hj:j<off ps ps.length):ordX ps (exF ps l) i j=true↔RchX ps l (evE ps i) (evE ps j):=by
 rw[← tab_ord hv hl hW hi hj,tab_iff hv hl hi hj]
theorem ord_trans {i j k:Nat} (hi:i<off ps ps.length) (hj:j<off ps ps.length) (hk:k<off ps ps.length) (h1:ordX ps (exF ps l) i j=true) (h2:ordX ps (exF ps l) j k=true):ordX ps (exF ps l) i k=true :=
 (ord_rch hv hl hW hi hk).2 (((ord_rch hv hl hW hi hj).1 h1).trans ((ord_rch hv hl hW hj hk).1 h2))
end
def hbX (ps:List Pr) (i j:Nat):Bool:=!decide (i=j) && decide ((evE ps i).2≤cAt (ptF ps (evE ps j).1.toNat ((evE ps j).2.toNat - 1)) (evE ps i).1)
theorem hb_ord {ps:List Pr} (hv:validF ps=true) {i j:Nat} (hj:j<off ps ps.length):hbX ps i j=ordX ps (exF ps []) i j:=by
 obtain⟨q,b,hq,hb,e⟩:=evx_form (evE_ev (ps:=ps) hj)
 have h1:=ex_nil_pt hv (nil_whl hv) hq hb
 have e1:((b:Int)+1).toNat - 1=b:=by omega
 have e2:((b:Int)+1).toNat=b+1:=by omega
 unfold hbX ordX
 rw[e]
 simp only[Int.toNat_natCast,e1,e2,h1]
 rfl
def evsE (ps:List Pr) (k:Nat):List AV:=(List.range k).map fun j=>aEid (evE ps j)
theorem evsE_succ {ps:List Pr} {p i:Nat} (hp:p<ps.length) (hi:i<ps[p].evs.length):evsE ps (off ps p+(i+1))=evsE ps (off ps p+i) ++ [.agg [ai p,ai ((i:Int)+1)]]:=by
 unfold evsE
 rw[show off ps p+(i+1)=off ps p+i+1 by omega,List.range_succ,List.map_append]
 show _ ++ [aEid (evE ps (off ps p+i))]=_
 rw[evE_at hp hi];rfl
theorem causality_events (ps:List Pr) (hs:Sm ps):PC Proofs.Tryz.prog 26 [aTr ps] (.sl 2 (evsE ps (off ps ps.length))):=by
 have hps:=hs.procs
 refine PC.enter 31 [.tmp 2] [1,5,26] Proofs.Tryz.func26 rfl rfl rfl rfl rfl (by simp) (AWp.of ?_);simp only[go_sem]
 refine Wk ?_
 refine AWp.range' ps.length [3] [8,9] (fun p vs L=>∃v,vs=[v]∧AppSt 54 2 (evsE ps (off ps p)) v L) (by omega) rfl rfl rfl ⟨anil,rfl,.nil⟩ ?_ ?_
 ·rintro p vs L hp - ⟨v,rfl,hA⟩
  have hg:=getD_map (f:=aPr) hp
  have hel:=hs.evs _ (List.getElem_mem hp)
  have hof:=off_succ hp
  have hos:=off_small hs (p+1) (by omega)
  have hfo:=hA.fo
  simp only[go_sem]
  refine W2 hg hfo ?_
  intros
  refine W2 hg hfo ?_
  refine AWp.range' ps[p].evs.length [3] [4,8,9,10,17] (fun i vs L=>∃v,vs=[v]∧AppSt 54 2 (evsE ps (off ps p+i)) v L) (by omega) rfl rfl rfl ⟨v,rfl,hA⟩ ?_ ?_
  ·rintro i vs L hi - ⟨v,rfl,hA⟩
   have hsu:=evsE_succ hp hi
   have hyl:(evsE ps (off ps p+i)).length=off ps p+i:=by unfold evsE;rw[List.length_map,List.length_range]
   have hwr:IntKind.i64.wrap ((i:Int)+1)=(i:Int)+1:=IntWalk.i64_in _ (by omega)
   rw[hsu]
   generalize evsE ps (off ps p+i)=ys at *
   rcases hA.inv with ⟨e1,rfl,rfl⟩|⟨bq,cq,rfl,rfl⟩
   ·simp only[go_sem]
    refine Wk ?_
    intro b' cap' g8
    exact⟨_,List.Sublist.refl _,_,rfl,by rw[e1];exact .row _ _ _⟩
   ·simp only[go_sem]
    refine Wk ?_
    refine Sd ?_
    intro b' cap' g8
    exact⟨_,List.Sublist.refl _,_,rfl,AppSt.snoc _ _ _ rfl⟩
  ·rintro vs L - ⟨v,rfl,hA⟩
   rw[← hof] at hA
   have hfo:=hA.fo
   simp only[go_sem,hfo]
   refine W1 hfo ?_
   exact⟨_,List.Sublist.refl _,_,rfl,hA⟩
 ·rintro vs L - ⟨v,rfl,hA⟩
  generalize evsE ps (off ps ps.length)=ys at *
  rcases hA.inv with ⟨e3,rfl,rfl⟩|⟨bq,cap,rfl,rfl⟩
  ·simp only[go_sem]
   refine Wk ?_
   refine ret_view [] ?_;simp only[go_sem]
   rw[e3]
   exact .nil 2
  ·simp only[go_sem]
   refine Wk ?_
   refine ret_view [true] ?_;simp only[go_sem]
   exact Vw.ofLs (if_pos rfl) rfl
def latY (F:Nat→Nat→Bool) (j i q:Nat):List AV:=filR (F q) (if q<i then j+1 else j)
theorem latY_old {F:Nat→Nat→Bool} {j i q:Nat} (h:q ≠ i):latY F j (i+1) q=latY F j i q:=by
 unfold latY
 by_cases e:q<i
 ·rw[if_pos e,if_pos (by omega)]
 ·rw[if_neg e,if_neg (by omega)]
theorem latY_new {F:Nat→Nat→Bool} {j i:Nat} : latY F j (i+1) i=latY F j i i ++ if F i j=true then [ai j] else []:=by
 unfold latY
 rw[if_pos (by omega),if_neg (by omega),filR_succ]
theorem latY_end {F:Nat→Nat→Bool} {j n q:Nat} (h:q<n):latY F (j+1) 0 q=latY F j n q:=by
 unfold latY
 rw[if_neg (by omega),if_pos h]
theorem latY_zero (F:Nat→Nat→Bool) (q:Nat):latY F 0 0 q=[]:=by unfold latY;rw[if_neg (by omega)];rfl
theorem FamS.nils {tO tI:TypeId} {k n b cap:Nat} {Y:Nat→List AV} (hY:∀q,q<n→Y q=[]):FamS tO tI k n Y (.ls b 1 0 n cap) [(b,.row tO 1 (List.replicate n anil) cap)]:=by
 refine⟨[(b,.row tO 1 (List.replicate n anil) cap)],fun _=>anil,fun _=>[],by rw[fam_nil,List.append_nil],?_,fun q hq=>by rw[hY q hq];exact .nil⟩
 have e:(List.range n).map (fun _=>anil)=List.replicate n anil:=by
  rw[List.eq_replicate_iff]
  exact⟨by simp,fun b hb=>by obtain⟨_,_,rfl⟩:=List.mem_map.1 hb;rfl⟩
 rw[e]
 have h:=AppSt.row (t:=tO) (k:=1) b (List.replicate n anil) cap
 rwa [List.length_replicate] at h
theorem AWp.famViewK {C:Cfg} {c:Code} {Q:AQ} {ρ:Env} {j:Nat} {tO tI:TypeId} {k n:Nat} {Y:Nat→List AV} {v:AV} {L L1 Lk:AHeap} (h:FamS tO tI k n Y v L1) (hp:L.Perm (L1 ++ Lk)) (hj:get ρ j=v) (hw:AWp C c Q ((j,.sl 1 ((List.range n).map fun q => .sl k (Y q))) :: ρ) Lk):AWp C c Q ρ L:=by
 obtain⟨Lv,V,Ls,h1,h2,h3⟩:=h
 refine AWp.nodup fun hnd => ?_
 have hall:L.Perm ((Lv ++ famL n Ls) ++ Lk):=hp.trans (h1.append_right _)
 have hnd':((famL n Ls).map (·.1)).Nodup:=by
  have:=(hall.map (·.1)).nodup_iff.1 hnd
  rw[List.map_append,List.map_append,List.nodup_append] at this
  exact(List.nodup_append.1 this.1).2.1
 rcases h2.inv with ⟨e1,e2,e3⟩|⟨bo,cap,e2,e3⟩
 ·have h0:n=0:=by have:=congrArg List.length e1;simpa using this
  subst h0
  subst e3
  refine AWp.viewP (Lf:=[]) (Lk:=Lk) (L':=Lk) (by simpa [famL] using hall) (LVw.refl _) [(j,_)] (fun q hq => ?_) hw
  simp only[List.mem_singleton] at hq
  subst hq
  rw[hj,e2]
  exact .nil 1
 ·subst e3
  have hp2:L.Perm (famL n Ls ++ ((bo,.row tO 1 ((List.range n).map V) cap) :: Lk)):=hall.trans (by
   rw[List.append_assoc]
   exact(List.perm_append_comm_assoc _ _ _))
  refine AWp.viewP hp2 (.row (fam_views hnd' h3) (LVw.refl Lk)) [] (by simp) ?_
  refine AWp.viewP (Lf:=[(bo,.row tO 1 ((List.range n).map fun q => .sl k (Y q)) cap)]) (Lk:=Lk) (L':=Lk) (.refl _) (LVw.refl _) [(j,_)] (fun q hq => ?_) hw
  simp only[List.mem_singleton] at hq
  subst hq
  show Vw _ (get ρ j) _
  rw[hj,e2]
  exact Vw.ofLs (t:=tO) (cap:=cap) (if_pos rfl) (by simp)
set_option maxHeartbeats 2000000 in
theorem causality_Order (ps:List Pr) (hs:Sm ps) (hv:validF ps=true):PC Proofs.Tryz.prog 8 [aTr ps] (.tup [aRelR (off ps ps.length) (relX ps (exF ps [])),ai 0]):=by
 have h1:PC Proofs.Tryz.prog 24 [aTr ps,anil] (ai 0):=PC.nilB (k:=2) (causality_checkOk ps hs hv [] (by simp) (by simp))
 have h2:=causality_knows ps hs hv
 have h3:=causality_events ps hs
 have hpt:=fun p hp i hi=>causality_past ps hs hv p hp i hi
 have hN:=valid_off hv
 have hps:=hs.procs
 have hEl:(evsE ps (off ps ps.length)).length=off ps ps.length:=by simp [evsE]
 have hEg:∀j,j<off ps ps.length→(evsE ps (off ps ps.length)).getD j .any=aEid (evE ps j):=fun j hj=>map_range_getD hj _
 have hlat:∀(F:Nat→Nat→Bool) q,(if q<off ps ps.length then off ps ps.length+1 else off ps ps.length)=off ps ps.length+(if q<off ps ps.length then 1 else 0):=fun F q=>by split <;> rfl
 clear hlat
 obtain⟨F,hF⟩:∃F:Nat→Nat→Bool,F=fun i j=>hbX ps i j:=⟨_,rfl⟩
 have hrel:relX ps (exF ps [])=(List.range (off ps ps.length)).map fun i=>wordsF (F i) (off ps ps.length) (off ps ps.length):=by
  unfold relX
  refine List.map_congr_left fun i hi => ?_
  rw[hF]
  exact words_congr fun j hj=>(hb_ord hv hj).symm
 rw[hrel]
 unfold kwV at h2 hpt
 generalize mapK (evM ps 2 (off ps ps.length))=k1 at *
 generalize mapV (evM ps 2 (off ps ps.length))=v1 at *
 generalize mapK (evM ps 3 (off ps ps.length))=k2 at *
 generalize mapV (evM ps 3 (off ps ps.length))=v2 at *
 generalize evsE ps (off ps ps.length)=ES at *
 refine PC.enter 98 [.cell 2 33,.tmp 3] [1,5,9,12,16,68,93] Proofs.Tryz.func8 rfl rfl rfl rfl rfl (by simp) (AWp.of ?_);simp only[go_sem]
 intro b2
 refine Wk ?_
 refine Sd ?_
 refine(h1).val.use ?_;simp only[go_sem]
 refine Wk ?_
 refine AWp.seq ?_
 repeat(first|(with_reducible refine AWp.seq ?_)|(with_reducible refine AWp.block ?_))
 refine AWp.mix mixed [0,1,2,3] (.step 4 (.step 5 (.step 6 .done .done) .done) .done) (by kernel_rfl) ?_;simp only[go_sem]
 refine Sd ?_
 refine Gc h2 ?_
 refine Sd ?_
 refine Gc h3 ?_
 intro b5 g5
 refine W1 hEl ?_
 intro bs gs
 have n1:¬bs=b2:=by omega
 have n2:¬b2=bs:=by omega
 refine W1 hEl ?_
 generalize hn:off ps ps.length=n at *
 refine AWp.range' n [] [2,5,6,7,31,32] (fun j vs L=>vs=[]∧∃L1,L.Perm ((b2,.row 33 1 [.agg [anil]] 1) :: L1)∧FamS 47 3 1 n (latY F j 0) (.ls bs 1 0 n n) L1) (by omega) rfl rfl rfl ⟨rfl,[(bs,.row 47 1 (List.replicate n anil) n)],List.Perm.swap _ _ _,FamS.nils fun q _=>latY_zero F q⟩ ?_ ?_
 ·rintro j vs L hj - ⟨rfl,L1,hP,hFm⟩
  obtain⟨q,b,hq,hb,hjb⟩:=num_form ps.length (Nat.le_refl _) (show j<off ps ps.length by omega)
  have hej:evE ps j=((q:Int),(b:Int)+1):=by rw[hjb];exact evE_at hq hb
  have hgj:ES.getD j .any = .agg [ai q,ai ((b:Int)+1)]:=by rw[hEg j hj,hej];rfl
  have hpq:=hpt q hq b hb
  change PC _ _ [_,.agg [ai q,ai ((b:Int)+1)]] _ at hpq
  have hptl:(ptF ps q b).length=ps.length:=(isF_iff.1 (pt_is hv hq hb)).1
  have hpg:∀p,p<ps.length→((ptF ps q b).map ai).getD p .any=ai (cAt (ptF ps q b) p):=fun p hp=>by rw[getD_map (by omega),cAt_nat (by omega)]
  have hFj:∀i p a:Nat,evE ps i=((p:Int),(a:Int)+1)→F i j=(!decide (i=j) && decide ((a:Int)+1≤cAt (ptF ps q b) p)):=fun i p a e=>by
   rw[hF]
   have e1:((b:Int)+1).toNat - 1=b:=by omega
   show hbX ps i j=_
   unfold hbX
   rw[hej,e]
   simp only[Int.toNat_natCast,e1]
  have hI:aInts (ptF ps q b) = .sl 1 ((ptF ps q b).map ai):=rfl
  have hml:((ptF ps q b).map ai).length=ps.length:=by rw[List.length_map,hptl]
  rw[hI] at hpq
  simp only[go_sem]
  refine W2 hgj hEl ?_
  intros
  refine W2 hgj hEl ?_
  refine Sd ?_
  refine(hpq).val.use ?_;simp only[go_sem]
  refine W1 hEl ?_
  refine AWp.range' n [] [2,5,6,7,8,9,10,31,32,33,41,42] (fun i vs L=>vs=[]∧∃L1,L.Perm ((b2,.row 33 1 [.agg [anil]] 1) :: L1)∧FamS 47 3 1 n (latY F j i) (.ls bs 1 0 n n) L1) (by omega) rfl rfl rfl ⟨rfl,L1,hP,hFm⟩ ?_ ?_
  ·rintro i vs L hi - ⟨rfl,L1,hP,hFm⟩
   obtain⟨p,a,hp,ha,hia⟩:=num_form ps.length (Nat.le_refl _) (show i<off ps ps.length by omega)
   have hei:evE ps i=((p:Int),(a:Int)+1):=by rw[hia];exact evE_at hp ha
   have hgi:ES.getD i .any = .agg [ai p,ai ((a:Int)+1)]:=by rw[hEg i hi,hei];rfl
   have hf:=hFj i p a hei
   have hpp:=hpg p hp
   have hij:i=j↔p=q∧a=b:=by
    constructor
    ·intro e
     have h:=hei
     rw[e,hej,Prod.mk.injEq] at h
     omega
    ·rintro⟨rfl,rfl⟩;rw[hia,hjb]
   have hne:(!decide (i=j))=decide ((p:Int)=q→¬(a:Int)+1=(b:Int)+1):=by
    rw[Bool.eq_iff_iff,Bool.not_eq_true',decide_eq_false_iff_not,decide_eq_true_iff,hij]
    constructor
    ·intro h h1 h2;exact h ⟨by omega,by omega⟩
    ·rintro h ⟨h1,h2⟩;exact h (by omega) (by omega)
   rw[hne] at hf
   simp only[go_sem]
   refine W2 hgi hEl ?_
   intros
   repeat(first|(with_reducible refine AWp.seq ?_)|(with_reducible refine AWp.block ?_))
   refine AWp.read mixed [0,1,2,3,4,5,6,7,8,9,10,11,12] (by kernel_rfl) ?_;simp only[go_sem,hpp,hml]
   refine Sd ?_
   rw[← hf]
   have hold:∀q,q ≠ i→latY F j (i+1) q=latY F j i q:=fun q hq=>latY_old hq
   have hnew:=latY_new (F:=F) (j:=j) (i:=i)
   cases hc:F i j with
   | false =>
    rw[hc,if_neg (by decide),List.append_nil] at hnew
    refine Wk ?_
    exact⟨_,List.Sublist.refl _,L1,hP,hFm.congr fun q hq=>by
     by_cases e:q=i
     ·subst e;exact hnew
     ·exact hold q e⟩
   | true =>
    rw[hc,if_pos rfl] at hnew
    obtain⟨bo,cap,V,Ls,e,hPo,hA,hcl⟩:=hFm.open hi
    obtain⟨e1,_,_,_,e5⟩:=AV.ls.inj e
    subst e1
    subst e5
    refine AWp.perm (hP.trans ((hPo.cons _).trans (List.perm_append_comm (l₁:=[_])))) (AWp.nodup fun hnd => ?_)
    have hlr:((List.range n).map V).length=n:=by simp
    have hyl:(latY F j i i).length≤1000000:=by
     have:=filR_len (f:=F i) (j:=if i<i then j+1 else j)
     unfold latY
     rw[if_neg (by omega)] at this ⊢
     omega
    generalize latY F j (i+1)=Y' at *
    generalize latY F j i=Y at *
    have n3:=nd1 hnd
    have hperm:∀(x y z:Nat × ABlk) (A:AHeap),List.Perm (x :: y :: (A ++ [z])) (z :: y :: ([x] ++ A)):=fun x y z A =>
     (List.Perm.swap _ _ _).trans (List.perm_append_comm (l₁:=y :: x :: A) (l₂:=[z]))
    rcases hA.inv with ⟨e1,e2,e3⟩|⟨bi,cp,e2,e3⟩
    ·have hgd:((List.range n).map V).getD i .any=anil:=by rw[map_range_getD hi,e2]
     rw[e3]
     simp only[go_sem,List.nil_append,List.cons_append]
     refine W2 hgd hlr ?_
     intro b' cap' g1 g2 g3
     have nb:¬bs=b':=by omega
     simp only[go_sem,nb,hgd,hlr]
     refine Sd ?_
     exact⟨_,List.Sublist.refl _,_,hperm _ _ _ _,hcl Y' (.ls b' 1 0 1 cap') [(b',.row 3 1 [ai j] cap')] _ hold (by rw[hnew,e1];exact .row _ [_] _) (List.Perm.refl _)⟩
    ·have hgd:((List.range n).map V).getD i .any = .ls bi 1 0 (Y i).length cp:=by rw[map_range_getD hi,e2]
     rw[e3] at n3 ⊢
     obtain⟨n4,n5⟩:=n3 (bi,_) (List.mem_append_left _ (List.mem_append_left _ (List.mem_singleton_self _)))
     simp only[go_sem,List.nil_append,List.cons_append]
     refine W4 hgd hlr n4 n5 ?_
     refine Sd ?_
     intro b' cap' g1 g2
     simp only[go_sem,g1,n4,n5,hgd,hlr]
     intro g3
     refine Sd ?_
     exact⟨_,List.Sublist.refl _,_,hperm _ _ _ _,hcl Y' (.ls b' 1 0 ((Y i).length+1) cap') [(b',.row 3 1 (Y i ++ [ai j]) cap')] _ hold (by rw[hnew];exact AppSt.snoc _ _ _ rfl) (List.Perm.refl _)⟩
  ·rintro vs L - ⟨rfl,L1,hP,hFm⟩
   simp only[go_sem]
   refine Wk ?_
   exact⟨_,List.Sublist.refl _,L1,hP,hFm.congr fun q hq=>latY_end hq⟩
 ·rintro vs L - ⟨rfl,L1,hP,hFm⟩
  refine AWp.famViewK (j:=7) (Lk:=[(b2,.row 33 1 [.agg [anil]] 1)]) hFm (hP.trans (List.perm_append_comm (l₁:=[_]))) rfl ?_
  have hlt:∀q,latY F n 0 q=filR (F q) n:=fun q=>by unfold latY;rw[if_neg (by omega)]
  have hLg:∀q,q<n→((List.range n).map fun q=>AV.sl 1 (latY F n 0 q)).getD q .any = .sl 1 (filR (F q) n):=fun q hq=>by rw[map_range_getD hq,hlt]
  have hLl:((List.range n).map fun q=>AV.sl 1 (latY F n 0 q)).length=n:=by simp
  generalize (List.range n).map (fun q=>AV.sl 1 (latY F n 0 q))=LL at *
  have hrl:((List.range n).map fun i=>wordsF (F i) n n).length=n:=by simp
  have hst:=fun i (hi:i<n)=>show ((List.range n).map fun i=>wordsF (F i) n n).take (i+1)=((List.range n).map fun i=>wordsF (F i) n n).take i ++ [wordsF (F i) n n] by
   rw[List.take_succ_eq_append_getElem (by omega)]
   congr 2
   rw[List.getElem_map,List.getElem_range]
  generalize (List.range n).map (fun i=>wordsF (F i) n n)=RS at *
  simp only[go_sem]
  refine W1 hLl ?_
  intro b13 g13
  have n3:¬b13=b2:=by omega
  have n4:¬b2=b13:=by omega
  refine W3 hLl n3 n4 ?_
  refine AWp.range' n [] [2,6,13,73,74] (fun i vs L=>vs=[]∧relS b13 b2 n (RS.take i) L) (by omega) rfl rfl rfl ⟨rfl,.inl ⟨rfl,rfl⟩⟩ ?_ ?_
  ·rintro i vs L hi - ⟨rfl,hL⟩
   have hgi:=hLg i hi
   have hbo:PC Proofs.Tryz.prog 28 [ai (n:Nat),.sl 1 (filR (F i) n)] (.tup [aBits n (wordsF (F i) n n),ai 0]):=bits_Of n hN (F i)
   have hsti:=hst i hi
   have hb:aBits n (wordsF (F i) n n) = .agg [ai (n:Nat),.sl 1 ((wordsF (F i) n n).map fun w:Nat=>au64 (w:Int))]:=rfl
   rw[hb] at hbo
   rw[hsti]
   generalize wordsF (F i) n n=ws at *
   generalize filR (F i) n=ys at *
   have htl:(RS.take i).length=i:=by rw[List.length_take];omega
   generalize RS.take i=rs at *
   simp only[go_sem]
   refine W2 hgi hEl ?_
   refine Sd ?_
   refine(hbo).val.use ?_;simp only[go_sem,hEl]
   refine W1 hEl ?_
   intro b17 g17
   rcases hL with ⟨rfl,rfl⟩|⟨c,cap,⟨d1,d2⟩,rfl⟩
   ·refine W3 n3 n4 hb ?_
    intro c1 k1 h41 h21 hk1
    have d1:¬c1=b13:=by omega
    have d2:¬c1=b2:=by omega
    have d7:¬b13=c1:=by omega
    have d9:¬b2=c1:=by omega
    simp only[go_sem,d1,d2,d7,d9]
    refine W6 n3 n4 d1 d2 d7 d9 ?_
    exact⟨_,List.Sublist.refl _,.inr ⟨c1,k1,⟨d1,d2⟩,rfl⟩⟩
   ·have d3:¬b13=c:=fun e=>d1 e.symm
    have d4:¬b2=c:=fun e=>d2 e.symm
    have hrs:(rs.map (aBits n)).take rs.length=rs.map (aBits n):=List.take_of_length_le (by rw[List.length_map];exact Nat.le_refl _)
    repeat(first|((with_reducible refine AWp.ofC ?_ ?_);exact rfl;simp only[go_sem,n3,n4,d1,d2,d3,d4,hb,hrs])|((with_reducible refine an ?_ ?_);exact Au))
    intro c1 k1 h41 h21 hk1
    have e1:¬c1=b13:=fun e=>h41 e.symm
    have e2:¬c1=b2:=fun e=>h21 e.symm
    simp only[go_sem,e1,e2,h41,h21]
    refine W6 n3 n4 e1 e2 h41 h21 ?_
    refine⟨_,List.Sublist.refl _,?_⟩
    exact .inr ⟨c1,k1,⟨e1,e2⟩,by rw[List.length_append,List.map_append];rfl⟩
  ·rintro vs L - ⟨rfl,hL⟩
   rw[List.take_of_length_le (by omega)] at hL
   rcases hL with ⟨e0,rfl⟩|⟨c,cap,⟨d1,d2⟩,rfl⟩
   ·simp only[go_sem]
    refine W2 n3 n4 ?_
    refine ret_view [true,true] ?_;simp only[go_sem]
    simp only[go_sem,n3,n4]
    unfold aRelR
    rw[e0]
    exact .mkTup (Vws.cons (.mkAgg (Vws.cons (.nil 2) .nil)) (Vws.refl _))
   ·simp only[go_sem]
    have d3:¬b13=c:=fun e=>d1 e.symm
    have d4:¬b2=c:=fun e=>d2 e.symm
    refine W6 n3 n4 d1 d2 d3 d4 ?_
    refine ret_view [true,true,true] ?_;simp only[go_sem]
    simp only[go_sem,n3,n4,d1,d2,d3,d4]
    exact .mkTup (Vws.cons (.mkAgg (Vws.cons (Vw.ofLs (t:=75) (cap:=cap) (if_pos rfl) (by rw[List.length_map])) .nil)) (Vws.refl _))
theorem relX_N (ps:List Pr) (l:List Syn):aRelR (off ps ps.length) (relX ps (exF ps l))=aRelN (off ps ps.length) (ordX ps (exF ps l)):=aRelN_R _ _
def VSt (n bo bs:Nat) (S:Nat→List (List Int)) (T:Int→AV) (L:AHeap):Prop :=
 ∃(V:Nat→AV) (Ls:Nat→AHeap) (SV:List AV),L.Perm ((bs,.row 47 1 SV 200) :: (bo,.row 44 1 ((List.range n).map V) n) :: famL n Ls) ∧
  (∀p,p<n→AppSt 47 1 ((S p).map aInts) (V p) (Ls p))∧SV.length=200∧∀m:Int,0≤m→m≤199→SV.getD m.toNat .any=T m
theorem VSt.perm {n bo bs:Nat} {S:Nat→List (List Int)} {T:Int→AV} {L L':AHeap} (hp:L'.Perm L) (h:VSt n bo bs S T L):VSt n bo bs S T L' :=
 let ⟨V,Ls,SV,h1,h2⟩:=h
 ⟨V,Ls,SV,hp.trans h1,h2⟩
theorem VSt.open {n bo bs:Nat} {S:Nat→List (List Int)} {T:Int→AV} {L:AHeap} (h:VSt n bo bs S T L) {p:Nat} (hp:p<n) :
  ∃(V:Nat→AV) (Ls:Nat→AHeap) (SV:List AV),L.Perm ((bs,.row 47 1 SV 200) :: (bo,.row 44 1 ((List.range n).map V) n) :: (Ls p ++ famR n p Ls)) ∧
   AppSt 47 1 ((S p).map aInts) (V p) (Ls p)∧SV.length=200∧(∀m:Int,0≤m→m≤199→SV.getD m.toNat .any=T m) ∧
   ∀(S':Nat→List (List Int)) (T':Int→AV) (x:AV) (Lp:AHeap) (SV':List AV) (L':AHeap),(∀q,q ≠ p→S' q=S q)→AppSt 47 1 ((S' p).map aInts) x Lp→SV'.length=200→(∀m:Int,0≤m→m≤199→SV'.getD m.toNat .any=T' m) →
    L'.Perm ((bs,.row 47 1 SV' 200) :: (bo,.row 44 1 (((List.range n).map V).set p x) n) :: (Lp ++ famR n p Ls))→VSt n bo bs S' T' L':=by
 obtain⟨V,Ls,SV,h1,h2,h3,h4⟩:=h
 refine⟨V,Ls,SV,h1.trans (((fam_split hp Ls).cons _).cons _),h2 p hp,h3,h4,fun S' T' x Lp SV' L' hS hA hl hT hL => ?_⟩
 refine⟨fun q=>if q=p then x else V q,fun q=>if q=p then Lp else Ls q,SV',?_,fun q hq => ?_,hl,hT⟩
 ·refine hL.trans ?_
  rw[map_range_set]
  refine(List.Perm.cons _ (List.Perm.cons _ ?_))
  have hsp:=fam_split hp (fun q=>if q=p then Lp else Ls q)
  rw[if_pos rfl,famR_congr (Ls:=Ls) (fun q hq=>if_neg hq)] at hsp
  exact hsp.symm
 ·by_cases e:q=p
  ·subst e;dsimp only;rw[if_pos rfl,if_pos rfl];exact hA
  ·dsimp only;rw[if_neg e,if_neg e,hS q e];exact h2 q hq
theorem Vws.set {L:AHeap} {xs ys:List AV} {a b:AV} (h:Vws L xs ys) (hab:Vw L a b) (i:Nat):Vws L (xs.set i a) (ys.set i b):=by
 refine⟨by rw[List.length_set,List.length_set];exact h.1,fun j x y hx hy => ?_⟩
 rw[List.getElem?_set] at hx hy
 by_cases e:i=j
 ·subst e
  rw[if_pos rfl] at hx hy
  split at hx
  ·split at hy
   ·cases hx;cases hy;exact hab
   ·cases hy
  ·cases hx
 ·rw[if_neg e] at hx hy;exact h.2 j x y hx hy
def badP (n:Nat) (p:Int):Bool:=decide (p<0) || decide ((n:Int)≤p)
open Classical in
noncomputable def aPeak (ps:List Pr) (order:List Int):AV :=
 if validF ps=false then .tup [ai 0,ai 1] else if order.any (badP ps.length)=true then .tup [ai 0,ai 2] else if RunOk ps order order.length then .tup [ai (peakF ps order order.length),ai 0] else .tup [ai 0,ai 11]
end Go.AL
end
section
namespace Go.AL
open Go Go.RowKit
set_option maxRecDepth 4000
def setC (ps:List Pr) (c:List Int) (j:Nat):Bool:=decide ((evE ps j).2≤cAt c (evE ps j).1)
theorem setC_at {ps:List Pr} {c:List Int} {p i:Nat} (hp:p<ps.length) (hi:i<ps[p].evs.length):setC ps c (off ps p+i)=decide ((i:Int)+1≤cAt c p):=by
 unfold setC
 rw[evE_at hp hi]
end Go.AL
end
