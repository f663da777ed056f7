/- Texts of this claim's proof: AlRdw, WI2, WV1, WSq, WV2, WV3, WNk, WXh, WXi, WOe, WV4, WV5, WFa, WFb, WGp, WGa, WV7, WXp, WV6, WV10, WV8, WV11, WV12, WV13, WV15, WCs, WV16, WPw3, WV17. No condition. -/
import Derived.Test.YtpcmoecaaphjmaaGreatDoorM9
import Derived.Test.YtpcmoecaaphjmaaGreatDoorM11
import Derived.Test.YtpcmoecaaphjmaaGreatDoorM12
import Derived.Test.YtpcmoecaaphjmaaGreatDoorM5
import Derived.Test.YtpcmoecaaphjmaaGreatDoorM10
import Derived.Test.YtpcmoecaaphjmaaGreatDoorM8
section
namespace Go.AL
open Go Go.RowKit
def mixW (ops:Array Oper) (qs:List Nat):Bool :=
 ascend qs && qs.all (fun q=>decide (q<ops.size)) &&
 (List.range ops.size).all fun i=>match ops[i]? with
  | some o=>(predsOf o).all (fun p=>decide (p<i)) &&
    qs.all (fun q=>match dstOf ops q with
     | some d=>(!(o.looksAt ops).contains d || (predsOf o).contains q) && (i == q || !(o.dst == some d))
     | none=>true)
  | none=>true
section
variable {C:Cfg} {ops:Array Oper} {L:AHeap}
theorem mixW_at {qs:List Nat} (h:mixW ops qs=true) {i:Nat} {o:Oper} (hi:ops[i]?=some o) :
  (∀p ∈ predsOf o,p<i)∧(∀q ∈ qs,∀d,dstOf ops q=some d→(d ∈ o.looksAt ops→q ∈ predsOf o)∧(i ≠ q→o.dst ≠ some d)):=by
 unfold mixW at h
 simp only[Bool.and_eq_true,List.all_eq_true] at h
 have hlt:i<ops.size:=(Array.getElem?_eq_some_iff.1 hi).1
 have h3:=h.2 i (List.mem_range.2 hlt)
 rw[hi] at h3
 simp only[Bool.and_eq_true,List.all_eq_true,decide_eq_true_eq] at h3
 refine⟨h3.1,fun q hq d hd => ?_⟩
 have:=h3.2 q hq
 rw[hd] at this
 simp only[Bool.and_eq_true,Bool.or_eq_true,Bool.not_eq_true',List.contains_eq_mem,decide_eq_true_eq,decide_eq_false_iff_not,beq_iff_eq,beq_eq_false_iff_ne,ne_eq] at this
 exact⟨fun hm=>this.1.resolve_left (fun hn=>hn hm),fun hne=>this.2.resolve_left hne⟩
theorem mixW_asc {qs:List Nat} (h:mixW ops qs=true):ascend qs=true∧∀q ∈ qs,q<ops.size:=by
 unfold mixW at h
 simp only[Bool.and_eq_true,List.all_eq_true,decide_eq_true_eq] at h
 exact h.1
theorem aqWRun_facts {qs0:List Nat} (hm:mixW ops qs0=true) (hok:ops.toList.all (operOk C.N)=true):∀(qs:List Nat) (ρ:Env) (K:Env→Prop),(∀q ∈ qs,q ∈ qs0)→ascend qs=true→aqLRun C ops.toList L qs K ρ →
  ∃ρq,K ρq∧(∀q ∈ qs,QFactL C ops ρq L q)∧∀s,(∀q ∈ qs,dstOf ops q ≠ some s)→get ρq s=get ρ s
 | [],ρ,K,_,_,h=>⟨ρ,h,fun q hq=>(by cases hq),fun _ _=>rfl⟩
 | i :: r,ρ,K,hsub,hasc,h=>by
  obtain⟨hlt,hasc'⟩:=ascend_cons hasc
  simp only[aqLRun] at h
  cases ho:ops.toList[i]? with
  | none=>rw[ho] at h;exact h.elim
  | some o =>
   rw[ho] at h
   have ho':ops[i]?=some o:=by simpa using ho
   obtain⟨x,hy,hK⟩:=aqL_yields ho' (List.all_eq_true.1 hok o (List.mem_of_getElem? ho)) h
   obtain⟨ρq,h1,h2,h3⟩:=aqWRun_facts hm hok r _ K (fun q hq=>hsub q (List.mem_cons_of_mem _ hq)) hasc' hK
   obtain⟨p1,p2⟩:=mixW_at hm ho'
   have hself:∀d,o.dst=some d→d ∉ o.looksAt ops:=fun d hd hm'=>by
    have:=(p2 i (hsub i List.mem_cons_self) d (by simp [dstOf,ho',hd])).1 hm'
    exact absurd (p1 i this) (Nat.lt_irrefl i)
   refine⟨ρq,h1,fun q hq => ?_,fun s hs => ?_⟩
   ·rcases List.mem_cons.1 hq with rfl|hq
    ·refine⟨o,x,ho',hy.of_agree fun t ht => ?_,fun d hd => ?_⟩
     ·rw[h3 t fun q' hq' he => ?_,get_put,if_neg fun he=>hself t he ht]
      have:=(p2 q' (hsub q' (List.mem_cons_of_mem _ hq')) t he).1 ht
      have:=p1 q' this;have:=hlt q' hq';omega
     ·rw[h3 d fun q' hq' he => ?_,get_put,if_pos hd]
      exact(p2 q' (hsub q' (List.mem_cons_of_mem _ hq')) d he).2 (by have:=hlt q' hq';omega) hd
    ·exact h2 q hq
   ·rw[h3 s fun q hq=>hs q (List.mem_cons_of_mem _ hq),get_put,if_neg]
    have:=hs i List.mem_cons_self
    simpa [dstOf,ho'] using this
end
def tailOk (ops:Array Oper) (qs:List Nat) (z:Nat):Bool :=
 mixW ops qs && !(qs.contains z) && ((List.range ops.size).all fun i=>qs.contains i || i == z) &&
 (match ops[z]? with|some o=>o.guard.isNone && qs.all (fun q=>(predsOf o).contains q)|none=>false)
section
variable {C:Cfg} {ops:Array Oper} {L:AHeap}
theorem rdw_sound {qs:List Nat} {z:Nat} {oz:Oper} (hm:mixW ops qs=true) (hall:∀i,i<ops.size→i ∈ qs∨i=z) (hz:z ∉ qs) (hoz:ops[z]?=some oz) (hpz:∀q ∈ qs,q ∈ predsOf oz)
  {K:ARes} {n:Nat} {w0:World} {M A0:Foot} {Q:Exit→Act→World→Prop} (hQ:∀a w,post w0 M A0 C.N K a w→Q .normal a w) {ρT:Env} (hK:GOp C ops z ρT L K) :
  ∀(f:Nat) (listed:Array Bool) (a:Act) (w:World),listed.size=ops.size→listed.getD z true=false →
   (∀l:List Nat,l.Nodup→(∀i ∈ l,listed.getD i true=false)→l.length≤f) →
   (∀q ∈ qs,listed.getD q true=false→QFactL C ops ρT L q)→St w0 M A0 C.N (mask ops qs listed ρT) L a w →
   wpAnyIn (Fw C.r) n C.P .any ops Q f listed a w:=by
 have allOf:∀listed:Array Bool,listed.size=ops.size→Region.ready .any ops listed=[]→∀i,listed.getD i true=true:=by
  intro listed hsz hr i
  induction i using Nat.strongRecOn with
  | _ i ih =>
   cases hi:listed.getD i true with
   | true=>rfl
   | false =>
    exfalso
    have hlt:i<ops.size:=by
     rw[← hsz]
     by_cases h:i<listed.size
     ·exact h
     ·simp [Array.getD,h] at hi
    have ho:ops[i]?=some ops[i]:=Array.getElem?_eq_getElem hlt
    have:i ∈ Region.ready .any ops listed:=mem_ready.2 ⟨hi,_,ho,fun e he hb=>by
     have hp:=(mixW_at hm ho).1 e.on (List.mem_map.2 ⟨e,List.mem_filter.2 ⟨by simpa using he,hb⟩,rfl⟩)
     exact getD_ft (by omega) (ih _ hp)⟩
    rw[hr] at this;cases this
 intro f
 induction f with
 | zero =>
  intro listed a w hsz hlz hcnt hfact hs
  exfalso
  have:=hcnt [z] (by simp) (fun i hi=>by simp at hi;subst hi;exact hlz)
  simp at this
 | succ f ih =>
  intro listed a w hsz hlz hcnt hfact hs
  refine⟨fun hr=>(by have:=allOf listed hsz hr z;rw[hlz] at this;cases this),fun i hi => ?_⟩
  obtain⟨hun,o,ho,hpre⟩:=mem_ready.1 hi
  have hlt:i<ops.size:=(Array.getElem?_eq_some_iff.1 ho).1
  by_cases ez:i=z
  ·subst ez
   rw[ho] at hoz;cases hoz
   have hql:∀q ∈ qs,listed.getD q true=true:=fun q hq=>by
    obtain⟨e,he,rfl⟩:=List.mem_map.1 (hpz q hq)
    obtain⟨he1,he2⟩:=List.mem_filter.1 he
    exact getD_tf (hpre e (by simpa using he1) he2)
   have hs':St w0 M A0 C.N ρT L a w:=st_forget hs fun s => .inr (mask_out fun q hq hl _=>by rw[hql q hq] at hl;cases hl).symm
   refine wpOpIn_mono ?_ (hK n w0 M A0 a w Q hs')
   intro a' w' hp
   have hready:Region.ready .any ops (listed.setIfInBounds i true)=[]:=by
    cases hh:Region.ready .any ops (listed.setIfInBounds i true) with
    | nil=>rfl
    | cons j r =>
     exfalso
     have hj:j ∈ Region.ready .any ops (listed.setIfInBounds i true):=by rw[hh];exact List.mem_cons_self
     obtain⟨h1,oj,hoj,_⟩:=mem_ready.1 hj
     have hjlt:j<ops.size:=(Array.getElem?_eq_some_iff.1 hoj).1
     by_cases e:j=i
     ·subst e
      simp [Array.getD,show j<listed.size by omega] at h1
     ·rw[getD_set_ne true (Ne.symm e)] at h1
      rw[hql j ((hall j hjlt).resolve_right e)] at h1;cases h1
   cases f with
   | zero=>exact⟨hready,hQ _ _ hp⟩
   | succ f=>exact⟨fun _=>hQ _ _ hp,fun j hj=>by rw[hready] at hj;cases hj⟩
  ·have hq:=(hall i hlt).resolve_right ez
   obtain⟨m1,m2⟩:=mixW_at hm ho
   have hlooks:∀t ∈ o.looksAt ops,get (mask ops qs listed ρT) t=get ρT t:=fun t ht=>mask_out fun q hq hl hd=>by
    have hp:=(m2 q hq t hd).1 ht
    obtain⟨e,he,rfl⟩:=List.mem_map.1 hp
    obtain⟨he1,he2⟩:=List.mem_filter.1 he
    have:=getD_tf (hpre e (by simpa using he1) he2)
    rw[hl] at this;cases this
   have hcnt':∀l:List Nat,l.Nodup→(∀j ∈ l,(listed.setIfInBounds i true).getD j true=false)→l.length≤f:=fun l hn hl=>by
    have hil:i ∉ l:=fun h=>by
     have:=hl i h
     simp [Array.getD,show i<listed.size by omega] at this
    have:=hcnt (i :: l) (List.nodup_cons.2 ⟨hil,hn⟩) (fun j hj=>by
     rcases List.mem_cons.1 hj with rfl|hj
     ·exact hun
     ·have:=hl j hj
      have hne:i ≠ j:=fun e=>hil (e ▸ hj)
      rwa [getD_set_ne true hne] at this)
    simp at this;omega
   have hset:∀j,j ≠ i→(listed.setIfInBounds i true).getD j true=listed.getD j true:=fun j hj=>getD_set_ne true (Ne.symm hj)
   obtain⟨o',x,ho',hy,hgx⟩:=hfact i hq hun
   rw[ho] at ho';cases ho'
   refine wpOpIn_mono ?_ (hy _ hlooks n w0 M A0 a w Q hs)
   rintro a' w' ⟨ρ2,L2,⟨rfl,rfl⟩,hs2⟩
   refine ih _ a' w' (by simpa using hsz) (by rw[hset z (Ne.symm ez)];exact hlz) hcnt' (fun q hq' hl=>hfact q hq' (by
    by_cases e:q=i
    ·subst e;exact hun
    ·rwa [hset q e] at hl)) (st_forget hs2 fun s => ?_)
   rcases mask_or (ops:=ops) qs (listed.setIfInBounds i true) ρT s with ⟨h1,_⟩|⟨h1,h2⟩
   ·exact .inl h1
   ·refine .inr ?_
    rw[h1,get_put]
    by_cases hd:o.dst=some s
    ·rw[if_pos hd];exact hgx s hd
    ·rw[if_neg hd,mask_out fun q hq' hl hds => ?_]
     by_cases e:q=i
     ·subst e;exact hd (by simpa [dstOf,ho] using hds)
     ·exact h2 q hq' (by rw[hset q e];exact hl) hds
end
def rdwK (C:Cfg) (all:List Oper) (z:Nat) (K:ARes) (L:AHeap) (ρ:Env):Prop:=match all[z]? with|some o=>aopX C o ρ L K|none=>False
theorem AWp.readW {C:Cfg} {id:Nat} {ops:Array Oper} {Q:AQ} {ρ:Env} {L:AHeap} (hmx:C.P.follows .mixedOrders=true) (qs:List Nat) (z:Nat) (hT:tailOk ops qs z=true) (h:aqLRun C ops.toList L qs (rdwK C ops.toList z (Q .normal) L) ρ) :
  AWp C (.region id ops true) Q ρ L:=fun hok n w0 M A0 a w hs=>by
 simp only[tailOk,Bool.and_eq_true,List.all_eq_true,Bool.not_eq_true',Bool.or_eq_true,beq_iff_eq,List.contains_eq_mem,decide_eq_true_eq,decide_eq_false_iff_not] at hT
 obtain⟨⟨⟨hm,hz⟩,hal⟩,hzo⟩:=hT
 have hasc:=mixW_asc hm
 obtain⟨ρq,hK,hF,hother⟩  :=aqWRun_facts hm hok qs ρ _ (fun _ h=>h) hasc.1 h
 refine wpIn_region_any hmx ?_
 obtain⟨A,ds,hs'⟩:=st_iff.1 hs
 cases hoz:ops[z]? with
 | none=>rw[hoz] at hzo;cases hzo
 | some oz =>
  rw[hoz] at hzo
  simp only[Bool.and_eq_true,List.all_eq_true,List.contains_eq_mem,decide_eq_true_eq,Option.isNone_iff_eq_none] at hzo
  have hzl:ops.toList[z]?=some oz:=by simpa using hoz
  unfold rdwK at hK
  rw[hzl] at hK
  have hoo:=List.all_eq_true.1 hok oz (List.mem_of_getElem? hzl)
  have hzlt:z<ops.size:=(Array.getElem?_eq_some_iff.1 hoz).1
  have hgo:GOp C ops z ρq L (Q .normal):=AOp.gop hoz hzo.1 (aop_sound (operOk_dst hoo) (operOk_def hoo) (aopX_aop hK))
  refine rdw_sound hm (fun i hi=>hal i (List.mem_range.2 hi)) hz hoz (fun q hq=>hzo.2 q hq) (K:=Q .normal) (fun a w ⟨ρ',L',h1,h2⟩=>⟨ρ',L',h1,h2⟩) hgo ops.size _ a _ (by simp) (by simp [Array.getD,hzlt]) ?_ (fun q hq _=>hF q hq) (st_forget (st_iff.2 ⟨A,ds,hs'.drew⟩) fun s => ?_)
  ·intro l hn hl
   have:=List.Nodup.length_le_of_subset hn (l₂:=List.range ops.size) (fun i hi=>by
    have:=hl i hi
    rw[List.mem_range]
    by_cases h:i<ops.size
    ·exact h
    ·simp [Array.getD,h] at this)
   simpa using this
  ·rcases mask_or (ops:=ops) qs (Array.replicate ops.size false) ρq s with ⟨h1,_⟩|⟨h1,h2⟩
   ·exact .inl h1
   ·refine .inr ?_
    rw[h1]
    exact hother s fun q hq hd=>h2 q hq (by simp [Array.getD,hasc.2 q hq]) hd
attribute [go_sem] rdwK
end Go.AL
end
section
namespace Go.AL
open Go Go.RowKit
set_option maxRecDepth 4000
mutual
def normF:Pd→Bool→Pd
 | .mk k n p q s l,b=>if k=15 then hdN l (!b) else .mk (if b then oppF k else k) n p q s (if 16≤k∧k≤21 then nrmL l b else if b=true∧(k=11∨k=12) then l.reverse else l)
def hdN:List Pd→Bool→Pd
 | [],_ => .mk 0 0 0 0 ByteArray.empty []
 | x :: _,b=>normF x b
def nrmL:List Pd→Bool→List Pd
 | [],_=>[]
 | x :: r,b=>normF x b :: nrmL r b
end
theorem nrmL_map (b:Bool):∀l,nrmL l b=l.map fun x=>normF x b
 | []=>by rw[nrmL];rfl
 | x :: r=>by rw[nrmL,nrmL_map b r];rfl
theorem normF_mk (k n p q:Int) (s:ByteArray) (l:List Pd) (b:Bool):normF (.mk k n p q s l) b=if k=15 then hdN l (!b) else .mk (if b then oppF k else k) n p q s (if 16≤k∧k≤21 then l.map (fun x=>normF x b) else if b=true∧(k=11∨k=12) then l.reverse else l):=by
 rw[normF,nrmL_map]
theorem hdN_one (x:Pd) (b:Bool):hdN [x] b=normF x b:=by rw[hdN]
theorem locB_len {k n p q:Int} {s:ByteArray} {l:List Pd} (h:locB (.mk k n p q s l)=true):partsF k=l.length:=by
 unfold locB at h
 simp only[Bool.and_eq_true,decide_eq_true_eq] at h
 exact h.1.1
theorem len_one {l:List Pd} (h:l.length=1):∃x,l=[x]:=List.length_eq_one_iff.1 h
theorem len_two {l:List Pd} (h:l.length=2):∃x y,l=[x,y]:=by
 match l,h with
 | [x,y],_=>exact⟨x,y,rfl⟩
theorem preds_Reverse2 (b cap:Nat) (x y:Pd):MCalls Proofs.Tryz.prog 221 [.ls b 6 0 2 cap] [(b,.row 27 6 [aPd x,aPd y] cap)] (fun _ L=>L=[(b,.row 27 6 [aPd y,aPd x] cap)]):=by
 obtain⟨k1,n1,p1,q1,s1,l1⟩:=x
 obtain⟨k2,n2,p2,q2,s2,l2⟩:=y
 simp only[aPd_mk]
 refine MCalls.enter' 28 [] [] Proofs.Tryz.func221 rfl rfl rfl rfl rfl (by simp) (AWp.of ?_);simp only[go_sem]
 refine Wk ?_
 generalize hx:AV.agg [ai k1,ai n1,ai p1,ai q1,astr s1,.sl 6 (l1.map aPd)]=x at *
 generalize hy:AV.agg [ai k2,ai n2,ai p2,ai q2,astr s2,.sl 6 (l2.map aPd)]=y at *
 refine AWp.block (AWp.loopN [2,3] [0] (fun m vs L=>(m=1∧vs=[ai 0,ai 1]∧L=[(b,.row 27 6 [x,y] cap)])∨(m=0∧vs=[ai 1,ai 0]∧L=[(b,.row 27 6 [y,x] cap)])) 1 (.inl ⟨rfl,rfl,rfl⟩) ?_)
 rintro m vs L - (⟨rfl,rfl,rfl⟩|⟨rfl,rfl,rfl⟩)
 ·subst hx
  subst hy
  simp only[go_sem]
  refine Wk ?_
  refine⟨fun h1 => ?_,fun h1 => ?_⟩
  ·repeat(first|(with_reducible refine AWp.seq ?_)|(with_reducible refine AWp.block ?_))
   refine AWp.mix mixed [0,1,2,3,4,5,6,8,9,10] (.step 7 (.step 11 (.step 12 (.step 13 (.step 14 (.step 15 .done .done) .done) .done) .done) .done) (.step 11 (.step 7 (.step 12 (.step 13 (.step 14 (.step 15 .done .done) .done) .done) .done) .done) .done)) (by kernel_rfl) ?_;simp only[go_sem]
   refine Sd ?_
   refine⟨?_,?_⟩
   all_goals
    refine Wk ?_
    exact⟨_,List.Sublist.refl _,0,by decide,.inr ⟨rfl,rfl,rfl⟩⟩
  ·exact absurd (by decide) h1
 ·simp only[go_sem]
  refine Wk ?_
  intro h1
  refine ret_own ?_
  simp only[go_sem]
theorem parts_zero {k:Int} (h:partsF k=(([]:List Pd).length:Int)):¬k=16∧¬k=17∧¬k=18∧¬k=21∧¬k=19∧¬k=20∧¬k=11∧¬k=12:=by
 have h:partsF k=0:=h
 refine⟨?_,?_,?_,?_,?_,?_,?_,?_⟩ <;> (rintro rfl;exact absurd h (by decide))
def nrmR (l:List Pd) (b:Bool) (i:Nat):List AV:=((l.take i).map fun x=>normF x b).map aPd ++ (l.drop i).map aPd
theorem nrmR_row {b:Bool} {l:List Pd} {i:Nat} (hi:i<l.length):(nrmR l b i).set i (aPd (normF l[i] b))=nrmR l b (i+1):=by
 unfold nrmR
 have h1:(((l.take i).map fun x=>normF x b).map aPd).length=i:=by simp;omega
 rw[List.set_append,if_neg (by omega),h1,Nat.sub_self,List.drop_eq_getElem_cons hi,List.map_cons,List.set_cons_zero,List.take_succ_eq_append_getElem hi,List.map_append,List.map_append,List.append_assoc]
 rfl
theorem nrmR_len {b:Bool} {l:List Pd} {i:Nat} (hi:i≤l.length):(nrmR l b i).length=l.length:=by
 unfold nrmR
 simp;omega
theorem nrmR_get {b:Bool} {l:List Pd} {i:Nat} (hi:i<l.length):(nrmR l b i).getD i .any=aPd l[i]:=by
 unfold nrmR
 have h1:(((l.take i).map fun x=>normF x b).map aPd).length=i:=by simp;omega
 rw[List.getD_eq_getElem?_getD,List.getElem?_append_right (by omega),h1,Nat.sub_self,List.drop_eq_getElem_cons hi]
 rfl
theorem nrmR_zero (l:List Pd) (b:Bool):nrmR l b 0=l.map aPd:=by unfold nrmR;simp
theorem nrmR_full (l:List Pd) (b:Bool):nrmR l b l.length=(l.map fun x=>normF x b).map aPd:=by unfold nrmR;rw[List.take_length,List.drop_length,List.map_nil,List.append_nil]
set_option maxHeartbeats 2000000 in
theorem classify_normal (t:Pd):szF t≤1000000→allB locB t=true→∀b,PC Proofs.Tryz.prog 146 [aPd t,ab b] (aPd (normF t b)):=by
 induction t using Pd.ind with
 | _ k n p q s l ih =>
 intro hz hloc b
 have hsz:szF (.mk k n p q s l)=szL l+1:=by rw[szF]
 have hll:=szL_len l
 rw[allB_mk,Bool.and_eq_true] at hloc
 obtain⟨hlc,hcl⟩:=hloc
 have hpl:=locB_len hlc
 have hsp:=normF_mk k n p q s l b
 have hcp:=classify_copiedM (.mk k n p q s l) hz
 rw[aPd_mk] at hcp
 have hop:=classify_opposite k
 have hch:=fun i (hi:i<l.length) b=>ih l[i] (List.getElem_mem hi) (by have:=szL_mem (List.getElem_mem hi);omega) (List.all_eq_true.1 hcl _ (List.getElem_mem hi)) b
 generalize normF (.mk k n p q s l) b=T at *
 by_cases h15:k=15
 ·subst h15
  have h1:partsF 15=1:=by decide
  obtain⟨x,rfl⟩:=len_one (l:=l) (by omega)
  rw[if_pos rfl,hdN_one] at hsp
  have hx:=hch 0 (by simp) (!b)
  simp only[List.getElem_cons_zero] at hx
  rw[← hsp] at hx
  clear hch hcp hop
  obtain⟨k2,n2,p2,q2,s2,l2⟩:=x
  obtain⟨k3,n3,p3,q3,s3,l3⟩:=T
  simp only[aPd_mk,List.map_cons,List.map_nil] at *
  refine PC.enter 58 [.cell 4 27] [2,7] Proofs.Tryz.func146 rfl rfl rfl rfl rfl (by simp) (AWp.of ?_);simp only[go_sem]
  intro b4
  repeat(first|((with_reducible refine AWp.ofC ?_ ?_);exact rfl;simp only[go_sem,Int.reduceEq])|((with_reducible refine an ?_ ?_);exact Au))
  refine Sd ?_
  refine(hx).val.use ?_;simp only[go_sem]
  refine Wk ?_
  refine ret_eq ?_;simp only[go_sem]
 ·rw[if_neg h15] at hsp
  generalize hK:(if b=true then oppF k else k)=K at *
  refine PC.enter 58 [.cell 4 27] [2,7] Proofs.Tryz.func146 rfl rfl rfl rfl rfl (by simp) (AWp.of ?_);simp only[go_sem]
  intro b4
  refine W1 h15 ?_
  refine(MVal.nd (MVal.frame (Lm:=[]) (Lr:=[(b4,.row 27 6 [aPd0] 1)]) hcp.val)).mono ?_
  rintro r L ⟨hnd,L1,rfl,v,rfl,hA⟩
  have pAP:AV.agg [ai k,ai n,ai p,ai q,astr s,.sl 6 (l.map aPd)]=aPd (.mk k n p q s l):=by rw[aPd_mk]
  rcases hA.inv with ⟨e1,rfl,rfl⟩|⟨bq,cap,rfl,rfl⟩
  ·have hl0:l=[]:=List.map_eq_nil_iff.1 e1
   subst hl0
   obtain⟨z1,z2,z3,z4,z5,z6,z7,z8⟩:=parts_zero hpl
   simp only[go_sem,h15]
   intro b5 g1
   refine Sd ?_
   have n1:¬b4=b5:=by omega
   have n2:¬b5=b4:=by omega
   refine AWp.cut [1,2,4,5] (fun vs L=>L=[(b5,.row 27 6 [.agg [ai K,ai n,ai p,ai q,astr s,anil]] 1),(b4,.row 27 6 [aPd0] 1)]∧vs=[ab b,.rp 6 [.agg [ai k,ai n,ai p,ai q,astr s,.sl 6 []]] 0 0,.lp b4 6 0 0,.lp b5 6 0 0]) ?_ ?_
   ·cases b
    ·refine Wk ?_
     exact⟨_,List.Sublist.refl _,by rw[← hK];rfl⟩
    ·refine Wk ?_
     refine Sd ?_
     refine(hop).val.use ?_;simp only[go_sem]
     refine W2 n1 n2 ?_
     exact⟨_,List.Sublist.refl _,by rw[← hK];rfl⟩
   rintro vs L - ⟨rfl,rfl⟩
   simp only[go_sem]
   repeat(first|((with_reducible refine AWp.ofC ?_ ?_);exact rfl;simp only[go_sem,z1,z2,z3,z4,z5,z6,z7,z8,n1,n2,aPd0])|((with_reducible refine an ?_ ?_);exact Au))
   refine ret_view [] ?_;simp only[go_sem,n1,n2]
   rw[hsp]
   simp only[List.map_nil,List.reverse_nil,ite_self,aPd_mk]
   exact .mkAgg (Vws.cons (.refl _) (Vws.cons (.refl _) (Vws.cons (.refl _) (Vws.cons (.refl _) (Vws.cons (.refl _) (Vws.cons (.nil 6) .nil))))))
  ·have hlm:(l.map aPd).length=l.length:=List.length_map _
   rw[hlm]
   simp only[go_sem,h15]
   intro b5 g1 g2
   refine Sd ?_
   have hq4:¬bq=b4:=by simp at hnd;exact hnd
   have n0:¬b4=bq:=fun e=>hq4 e.symm
   have n1:¬b4=b5:=by omega
   have n2:¬b5=b4:=by omega
   have n3:¬bq=b5:=by omega
   have n4:¬b5=bq:=by omega
   refine AWp.cut [1,2,4,5] (fun vs L=>L=[(bq,.row 27 6 (l.map aPd) cap),(b5,.row 27 6 [.agg [ai K,ai n,ai p,ai q,astr s,.ls bq 6 0 l.length cap]] 1),(b4,.row 27 6 [aPd0] 1)]∧vs=[ab b,.rp 6 [.agg [ai k,ai n,ai p,ai q,astr s,.sl 6 (l.map aPd)]] 0 0,.lp b4 6 0 0,.lp b5 6 0 0]) ?_ ?_
   ·refine AWp.perm (L':=[(bq,.row 27 6 (l.map aPd) cap),(b5,.row 27 6 [.agg [ai k,ai n,ai p,ai q,astr s,.ls bq 6 0 l.length cap]] 1),(b4,.row 27 6 [aPd0] 1)]) (List.Perm.swap _ _ _) ?_
    cases b
    ·refine Wk ?_
     exact⟨_,List.Sublist.refl _,by rw[← hK];rfl⟩
    ·refine Wk ?_
     refine Sd ?_
     refine(hop).val.use ?_;simp only[go_sem,n1,n2,n3,n4]
     refine W4 n1 n2 n3 n4 ?_
     exact⟨_,List.Sublist.refl _,by rw[← hK];rfl⟩
   rintro vs L - ⟨rfl,rfl⟩
   by_cases hT:16≤k∧k≤21
   ·rw[if_pos hT] at hsp
    have hk6:k=16∨k=17∨k=18∨k=21∨k=19∨k=20:=by omega
    have hee:aPd T = .agg [ai K,ai n,ai p,ai q,astr s,.sl 6 ((l.map fun x=>normF x b).map aPd)]:=by rw[hsp,aPd_mk]
    rw[hee]
    clear hee hsp hop hcp hK hpl hlc pAP
    rcases hk6 with rfl|rfl|rfl|rfl|rfl|rfl
    all_goals
     simp only[go_sem]
     repeat(first|((with_reducible refine AWp.ofC ?_ ?_);exact rfl;simp only[go_sem,Int.reduceEq,n0,n1,n2,n3,n4,hlm])|((with_reducible refine an ?_ ?_);exact Au))
     refine AWp.range' l.length [] [1,4,5,35,36] (fun i vs L=>L=[(bq,.row 27 6 (nrmR l b i) cap),(b5,.row 27 6 [.agg [ai K,ai n,ai p,ai q,astr s,.ls bq 6 0 l.length cap]] 1),(b4,.row 27 6 [aPd0] 1)]) (by omega) rfl rfl rfl (by rw[nrmR_zero]) ?_ ?_
     ·rintro i vs L hil - rfl
      simp only[go_sem]
      have hgi:=getD_map (f:=aPd) hil
      have hxc:=hch i hil b
      have hst:=nrmR_row (b:=b) hil
      have hgy:=nrmR_get (b:=b) hil
      have hyl:=nrmR_len (b:=b) (l:=l) (i:=i) (by omega)
      clear hch ih hcl
      generalize nrmR l b i=ys at *
      generalize nrmR l b (i+1)=zs at *
      generalize normF l[i] b=z at *
      generalize l[i]=x at *
      obtain⟨k2,o2,p2,q2,s2,l2⟩:=x
      obtain⟨k3,o3,p3,q3,s3,l3⟩:=z
      simp only[aPd_mk] at hgi hxc hst hgy
      repeat(first|((with_reducible refine AWp.ofC ?_ ?_);exact rfl;simp only[go_sem,hgi,n0,n1,n2,n3,n4,hlm])|((with_reducible refine an ?_ ?_);exact Au))
      intro b7 g3 g4 g5
      have m1:¬bq=b7:=by omega
      have m2:¬b5=b7:=by omega
      have m3:¬b4=b7:=by omega
      have m4:¬b7=bq:=by omega
      have m5:¬b7=b5:=by omega
      have m6:¬b7=b4:=by omega
      refine Sd ?_
      repeat(first|(with_reducible refine AWp.seq ?_)|(with_reducible refine AWp.block ?_))
      refine AWp.readW mixed [0,1,2,3,4,5,6] 7 (by kernel_rfl) ?_;simp only[go_sem,hgi,n0,n1,n2,n3,n4,m1,m2,m3,m4,m5,m6,hyl,hlm]
      refine Sd ?_
      refine GCall.use (.agg [ai k3,ai o3,ai p3,ai q3,astr s3,.sl 6 (l3.map aPd)]) (fun _=>⟨At,(hxc).val.use ⟨rfl,rfl⟩⟩) ?_;simp only[go_sem,hgi,n0,n1,n2,n3,n4,m1,m2,m3,m4,m5,m6,hyl,hlm,hgy,List.drop_nil]
      refine Sd ?_
      exact⟨_,List.Sublist.refl _,by rw[hst]⟩
     ·rintro vs L - rfl
      have hyl2:((l.map fun x=>normF x b).map aPd).length=l.length:=by simp
      rw[nrmR_full]
      simp only[go_sem]
      repeat(first|((with_reducible refine AWp.ofC ?_ ?_);exact rfl;simp only[go_sem,n0,n1,n2,n3,n4,aPd0])|((with_reducible refine an ?_ ?_);exact Au))
      refine ret_view [true,false,false] ?_;simp only[go_sem,n0,n1,n2,n3,n4]
      exact .mkAgg (Vws.cons (.refl _) (Vws.cons (.refl _) (Vws.cons (.refl _) (Vws.cons (.refl _) (Vws.cons (.refl _) (Vws.cons (Vw.ofLs (if_pos rfl) hyl2.symm) .nil))))))
   rw[if_neg hT] at hsp
   have z1:¬k=16:=by omega
   have z2:¬k=17:=by omega
   have z3:¬k=18:=by omega
   have z4:¬k=21:=by omega
   have z5:¬k=19:=by omega
   have z6:¬k=20:=by omega
   by_cases hR:b=true∧(k=11∨k=12)
   ·rw[if_pos hR] at hsp
    obtain⟨rfl,hR⟩:=hR
    have hp2:partsF k=2:=by rcases hR with rfl|rfl <;> decide
    obtain⟨x,y,rfl⟩:=len_two (l:=l) (by omega)
    have hrv:=preds_Reverse2 bq cap x y
    clear hch ih
    rw[hsp]
    simp only[aPd_mk,List.map_cons,List.map_nil,List.reverse_cons,List.reverse_nil,List.nil_append,List.cons_append,List.length_cons,List.length_nil] at *
    generalize hX:aPd x=X at *
    generalize hY:aPd y=Y at *
    rcases hR with rfl|rfl
    all_goals
     simp only[go_sem]
     repeat(first|((with_reducible refine AWp.ofC ?_ ?_);exact rfl;simp only[go_sem,Int.reduceEq,n0,n1,n2,n3,n4])|((with_reducible refine an ?_ ?_);exact Au))
     refine(MVal.frame (Lm:=[(bq,.row 27 6 [X,Y] cap)]) (Lr:=[(b5,.row 27 6 [.agg [ai K,ai n,ai p,ai q,astr s,.ls bq 6 0 2 cap]] 1),(b4,.row 27 6 [aPd0] 1)]) hrv.val).mono ?_
     rintro r L ⟨L1,rfl,rfl⟩
     simp only[go_sem]
     repeat(first|((with_reducible refine AWp.ofC ?_ ?_);exact rfl;simp only[go_sem,n0,n1,n2,n3,n4,aPd0])|((with_reducible refine an ?_ ?_);exact Au))
     refine ret_view [true,false,false] ?_;simp only[go_sem,n0,n1,n2,n3,n4]
     exact .mkAgg (Vws.cons (.refl _) (Vws.cons (.refl _) (Vws.cons (.refl _) (Vws.cons (.refl _) (Vws.cons (.refl _) (Vws.cons (Vw.ofLs (if_pos rfl) rfl) .nil))))))
   rw[if_neg hR] at hsp
   have hbk:b=false∨(¬k=11∧¬k=12):=by
    cases b
    ·exact .inl rfl
    ·exact .inr ⟨fun e=>hR ⟨rfl,.inl e⟩,fun e=>hR ⟨rfl,.inr e⟩⟩
   rw[hsp]
   simp only[aPd_mk]
   rcases hbk with rfl|⟨z7,z8⟩
   ·by_cases e7:k=11
    ·subst e7
     simp only[go_sem]
     repeat(first|((with_reducible refine AWp.ofC ?_ ?_);exact rfl;simp only[go_sem,Int.reduceEq,n0,n1,n2,n3,n4,aPd0])|((with_reducible refine an ?_ ?_);exact Au))
     refine ret_view [true,false,false] ?_;simp only[go_sem,n0,n1,n2,n3,n4]
     exact .mkAgg (Vws.cons (.refl _) (Vws.cons (.refl _) (Vws.cons (.refl _) (Vws.cons (.refl _) (Vws.cons (.refl _) (Vws.cons (Vw.ofLs (if_pos rfl) hlm.symm) .nil))))))
    ·by_cases e8:k=12
     ·subst e8
      simp only[go_sem]
      repeat(first|((with_reducible refine AWp.ofC ?_ ?_);exact rfl;simp only[go_sem,Int.reduceEq,n0,n1,n2,n3,n4,aPd0])|((with_reducible refine an ?_ ?_);exact Au))
      refine ret_view [true,false,false] ?_;simp only[go_sem,n0,n1,n2,n3,n4]
      exact .mkAgg (Vws.cons (.refl _) (Vws.cons (.refl _) (Vws.cons (.refl _) (Vws.cons (.refl _) (Vws.cons (.refl _) (Vws.cons (Vw.ofLs (if_pos rfl) hlm.symm) .nil))))))
     ·simp only[go_sem]
      repeat(first|((with_reducible refine AWp.ofC ?_ ?_);exact rfl;simp only[go_sem,z1,z2,z3,z4,z5,z6,e7,e8,n0,n1,n2,n3,n4,aPd0])|((with_reducible refine an ?_ ?_);exact Au))
      refine ret_view [true,false,false] ?_;simp only[go_sem,n0,n1,n2,n3,n4]
      exact .mkAgg (Vws.cons (.refl _) (Vws.cons (.refl _) (Vws.cons (.refl _) (Vws.cons (.refl _) (Vws.cons (.refl _) (Vws.cons (Vw.ofLs (if_pos rfl) hlm.symm) .nil))))))
   ·simp only[go_sem]
    repeat(first|((with_reducible refine AWp.ofC ?_ ?_);exact rfl;simp only[go_sem,z1,z2,z3,z4,z5,z6,z7,z8,n0,n1,n2,n3,n4,aPd0])|((with_reducible refine an ?_ ?_);exact Au))
    refine ret_view [true,false,false] ?_;simp only[go_sem,n0,n1,n2,n3,n4]
    exact .mkAgg (Vws.cons (.refl _) (Vws.cons (.refl _) (Vws.cons (.refl _) (Vws.cons (.refl _) (Vws.cons (.refl _) (Vws.cons (Vw.ofLs (if_pos rfl) hlm.symm) .nil))))))
end Go.AL
end
section
namespace Go.AL
open Go Go.RowKit
section
variable {α:Type} (bg:α→α→Bool) (len:Nat→Nat) (f:Nat→Nat→α) (n:Nat)
def Tgt (t:Nat→Nat):Prop:=(∀p,p<n→t p<len p)∧∀p q,p<n→q<n→p ≠ q→bg (f p (t p)) (f q (t q))=true
def MonB:Prop:=∀p i j,p<n→i≤j→j<len p→∀o,bg (f p j) o=true→bg (f p i) o=true
def LeastT (a:Nat→Nat):Prop:=Tgt bg len f n a∧∀t,Tgt bg len f n t→∀p,p<n→a p≤t p
variable {bg len f n}
theorem tgt_step (hm:MonB bg len f n) {a:Nat→Nat} (ha:∀t,Tgt bg len f n t→∀p,p<n→a p≤t p) {p q:Nat} (hp:p<n) (hq:q<n) (hpq:p ≠ q) (h:bg (f p (a p)) (f q (a q))=false) :
  ∀t,Tgt bg len f n t→∀r,r<n→(if r=q then a q+1 else a r)≤t r:=fun t ht r hr=>by
 have h1:=ha t ht
 split
 ·rename_i e
  subst e
  have h2:=h1 r hr
  by_cases e:a r=t r
  ·exfalso
   have h3:=ht.2 p r hp hr hpq
   have h4:=hm p (a p) (t p) hp (h1 p hp) (ht.1 p hp) _ h3
   rw[← e,h] at h4;cases h4
  ·omega
 ·exact h1 r hr
theorem tgt_none {a:Nat→Nat} (ha:∀t,Tgt bg len f n t→∀p,p<n→a p≤t p) {p:Nat} (hp:p<n) (h:len p≤a p):¬ ∃t,Tgt bg len f n t:=fun ⟨t,ht⟩=>by
 have h1:=ha t ht p hp
 have h2:=ht.1 p hp
 omega
end
end Go.AL
end
section
namespace Go.AL
open Go Go.RowKit
set_option maxRecDepth 4000
section
variable {b:Nat→Bool} {p:Nat}
end
structure SpOk (b:Nat→Bool) (p K:Nat) (l:List Stp):Prop where
 el:∀s ∈ l,s.1=p∧s.2.1≤s.2.2∧s.2.2<K∧∀j,s.2.1≤j→j≤s.2.2→b j=true
 ord:l.Pairwise fun s u=>s.2.2+1<u.2.1
 cov:∀j,j<K→b j=true→∃s ∈ l,s.2.1≤j∧j≤s.2.2
section
variable {b:Nat→Bool} {p K:Nat} {l:List Stp}
theorem SpOk.lt (h:SpOk b p K l) {i j:Nat} (hj:j<l.length) (hij:i<j):(l[i]'(by omega)).2.2+1<l[j].2.1:=List.pairwise_iff_getElem.1 h.ord i j (by omega) hj hij
end
def bgN (ps:List Pr) (a o:Stp):Bool:=decide (a.2.1=0) || (decide (o.2.2=nev ps o.1) || decide ((a.2.1:Int)≤cAt (ptF ps o.1 o.2.2) a.1))
def fSp (rows:Nat→List Stp) (p i:Nat):Stp:=(rows p).getD i (0,0,0)
def lenSp (rows:Nat→List Stp) (p:Nat):Nat:=(rows p).length
abbrev TgtS (ps:List Pr) (rows:Nat→List Stp) (t:Nat→Nat):Prop:=Tgt (bgN ps) (lenSp rows) (fSp rows) ps.length t
abbrev LeastS (ps:List Pr) (rows:Nat→List Stp) (t:Nat→Nat):Prop:=LeastT (bgN ps) (lenSp rows) (fSp rows) ps.length t
def RowsOk (ps:List Pr) (b:Nat→Nat→Bool) (rows:Nat→List Stp):Prop:=∀p,p<ps.length→SpOk (b p) p (nev ps p+1) (rows p)
theorem fSp_eq {rows:Nat→List Stp} {p i:Nat} (h:i<(rows p).length):fSp rows p i=(rows p)[i]:=by
 unfold fSp;rw[List.getD_eq_getElem?_getD,List.getElem?_eq_getElem h,Option.getD_some]
def AvoidC (ps:List Pr) (b:Nat→Nat→Bool) (c:List Int):Prop:=∃p,p<ps.length∧b p (cAt c p).toNat=false
section
variable {ps:List Pr} (hv:validF ps=true)
include hv
end
section
variable {ps:List Pr} {b:Nat→Nat→Bool} {rows:Nat→List Stp} (hv:validF ps=true) (hR:RowsOk ps b rows)
include hR
theorem mon_rows:MonB (bgN ps) (lenSp rows) (fSp rows) ps.length:=fun p i j hp hij hj o h=>by
 have hj:j<(rows p).length:=hj
 rw[fSp_eq hj] at h
 rw[fSp_eq (show i<(rows p).length by omega)]
 have e1:=((hR p hp).el _ (List.getElem_mem hj))
 have e2:=((hR p hp).el _ (List.getElem_mem (show i<(rows p).length by omega)))
 have e3:(rows p)[i].2.1≤(rows p)[j].2.1:=by
  rcases Nat.lt_or_eq_of_le hij with e|e
  ·have:=(hR p hp).lt hj e
   omega
  ·subst e;exact Nat.le_refl _
 unfold bgN at h ⊢
 rw[e2.1]
 rw[e1.1] at h
 simp only[Bool.or_eq_true,decide_eq_true_eq] at h ⊢
 rcases h with h|h|h
 ·exact .inl (by omega)
 ·exact .inr (.inl h)
 ·exact .inr (.inr (by omega))
include hv
end
section
variable {ps:List Pr} (hv:validF ps=true)
include hv
end
section
variable {ps:List Pr} (hv:validF ps=true)
include hv
end
open Classical in
noncomputable def tgtO (ps:List Pr) (rows:Nat→List Stp):Option (Nat→Nat):=if h:∃a,LeastS ps rows a then some (Classical.choose h) else none
structure DodgeR (ps:List Pr) (b:Nat→Nat→Bool) (R:List (List Int)):Prop where
 run:isRunF ps R=true
 av:∀d ∈ R,AvoidC ps b d
structure DgO (ps:List Pr) (b:Nat→Nat→Bool) (O:List (List Int)) (c:List Int):Prop where
 ex:∃R,O=zeroC ps :: R∧chnF ps (zeroC ps) R=true
 last:O.getLast?=some c
 av:∀d ∈ O,AvoidC ps b d
section
variable {ps:List Pr} (hv:validF ps=true) {b:Nat→Nat→Bool}
theorem chn_last {ps:List Pr} : ∀ {R:List (List Int)} {c d:List Int},isF ps c=true→chnF ps c R=true→(c :: R).getLast?=some d→isF ps d=true∧d.sum=c.sum+R.length
 | [],c,d,hc,_,h=>by
  have:c=d:=Option.some.inj h
  subst this;exact⟨hc,by simp⟩
 | e :: R,c,d,hc,h,hl=>by
  obtain⟨q,h1,h2,rfl,h4,h5⟩:=(chn_cons hc).1 h
  rw[List.getLast?_cons_cons] at hl
  obtain⟨g1,g2⟩:=chn_last (rdy_is h2) h5 hl
  refine⟨g1,?_⟩
  rw[g2,sum_stpC (by rw[(isF_iff.1 hc).1];exact h1),List.length_cons]
  omega
theorem DgO.is {O:List (List Int)} {c:List Int} (h:DgO ps b O c):isF ps c=true∧c.sum+1=O.length:=by
 obtain⟨R,rfl,hch⟩:=h.ex
 obtain⟨g1,g2⟩:=chn_last (zeroC_is ps) hch h.last
 have h0:(zeroC ps).sum=0:=by unfold zeroC;simp
 rw[List.length_cons]
 exact⟨g1,by omega⟩
theorem DgO.start (h:AvoidC ps b (zeroC ps)):DgO ps b [zeroC ps] (zeroC ps):=⟨⟨[],rfl,rfl⟩,rfl,fun d hd=>by simp only[List.mem_singleton] at hd;subst hd;exact h⟩
theorem DgO.go {O:List (List Int)} {c to:List Int} (h:DgO ps b O c) {R:List (List Int)} (hch:chnF ps c R=true) (hl:(c :: R).getLast?=some to) (hav:∀d ∈ R,AvoidC ps b d):DgO ps b (O ++ R) to:=by
 obtain⟨S,rfl,hS⟩:=h.ex
 refine⟨⟨S ++ R,rfl,chn_app h.last hS hch⟩,?_,fun d hd => ?_⟩
 ·cases R with
  | nil =>
   rw[List.append_nil,h.last]
   exact hl
  | cons r R =>
   rw[List.getLast?_cons_cons] at hl
   rw[List.getLast?_append,hl];rfl
 ·rcases List.mem_append.1 hd with hd|hd
  ·exact h.av d hd
  ·exact hav d hd
theorem DgO.done {O:List (List Int)} (h:DgO ps b O (fullC ps)):DodgeR ps b O:=by
 obtain⟨S,rfl,hS⟩:=h.ex
 exact⟨isrun_mk hS h.last,h.av⟩
end
end Go.AL
end
section
namespace Go.AL
open Go Go.RowKit
set_option maxRecDepth 4000
noncomputable def pstE (ps:List Pr) (x:Eid):Int:=if validF ps=true then (if eidOk ps x=true then 0 else 2) else 1
noncomputable def pstF (ps:List Pr) (x:Eid):List Int:=if pstE ps x=0 then ptF ps x.1.toNat (x.2.toNat - 1) else []
theorem pst_zero {ps:List Pr} {x:Eid} (h:pstE ps x=0):validF ps=true∧∃(p:Nat) (hp:p<ps.length) (i:Nat) (_:i<ps[p].evs.length),x=((p:Int),(i:Int)+1)∧pstF ps x=ptF ps p i:=by
 have h0:=h
 unfold pstE at h
 split at h
 ·rename_i hv
  split at h
  ·rename_i hx
   obtain⟨p,hp,i,hi,rfl⟩:=eidOk_iff.1 hx
   refine⟨hv,p,hp,i,hi,rfl,?_⟩
   unfold pstF
   rw[if_pos h0]
   have e1:((p:Int)).toNat=p:=by omega
   have e2:((i:Int)+1).toNat - 1=i:=by omega
   rw[e1,e2]
  ·simp at h
 ·simp at h
theorem causality_Past (ps:List Pr) (hs:Sm ps) (x:Eid):PC Proofs.Tryz.prog 19 [aTr ps,aEid x] (.tup [aInts (pstF ps x),ai (pstE ps x)]):=by
 have hc:=causality_check1 ps hs x
 change PC _ _ _ (ai (pstE ps x)) at hc
 by_cases h0:pstE ps x=0
 ·obtain⟨hv,p,hp,i,hi,rfl,hF⟩:=pst_zero h0
  have hk:=causality_knows ps hs hv
  have hpt:=causality_past ps hs hv p hp i hi
  rw[hF,h0]
  rw[h0] at hc
  unfold kwV at hk hpt
  generalize hK:[AV.sl 3 (ps.map aPr),AV.rm (mapK (evM ps 2 (off ps ps.length))) (mapV (evM ps 2 (off ps ps.length))),AV.rm (mapK (evM ps 3 (off ps ps.length))) (mapV (evM ps 3 (off ps ps.length)))]=K at *
  generalize ptF ps p i=D at *
  change PC _ _ [_,.agg [ai p,ai ((i:Int)+1)]] _ at hpt
  change PC _ _ [_,.sl 2 [.agg [ai p,ai ((i:Int)+1)]]] _ at hc
  change PC _ _ [_,.agg [ai p,ai ((i:Int)+1)]] _
  refine PC.enter 18 [.tmp 4,.tmp 5] [2,3,9] Proofs.Tryz.func19 rfl rfl rfl rfl rfl (by simp) (AWp.of ?_);simp only[go_sem]
  refine Wk ?_
  refine Sd ?_
  refine(hc).val.use ?_;simp only[go_sem]
  refine Wk ?_
  refine AWp.seq ?_
  repeat(first|(with_reducible refine AWp.seq ?_)|(with_reducible refine AWp.block ?_))
  refine AWp.read mixed [0,1,2,3,4,5] (by kernel_rfl) ?_;simp only[go_sem]
  refine Sd ?_
  refine Gc hk ?_
  refine Sd ?_
  refine Gc hpt ?_
  refine Wk ?_
  refine ret_eq ?_;simp only[go_sem]
 ·have hF:pstF ps x=[]:=by unfold pstF;rw[if_neg h0]
  rw[hF]
  generalize pstE ps x=e at *
  obtain⟨u,w⟩:=x
  change PC _ _ [_,.sl 2 [.agg [ai u,ai w]]] _ at hc
  change PC _ _ [_,.agg [ai u,ai w]] _
  refine PC.enter 18 [.tmp 4,.tmp 5] [2,3,9] Proofs.Tryz.func19 rfl rfl rfl rfl rfl (by simp) (AWp.of ?_);simp only[go_sem]
  refine W1 h0 ?_
  refine Sd ?_
  refine(hc).val.use ?_;simp only[go_sem]
  refine W1 h0 ?_
  refine ret_view [] ?_;simp only[go_sem]
  exact .mkTup (Vws.cons (.nil 1) (Vws.refl _))
def pastV (ps:List Pr) (s:Stp):AV:=if s.2.2=nev ps s.1 then anil else aInts (ptF ps s.1 s.2.2)
def aStr (ps:List Pr) (s:Stp):AV:=.agg [ai s.1,ai s.2.1,ai s.2.2,pastV ps s]
theorem pastV_fo (ps:List Pr) (s:Stp):fo (pastV ps s)=(True,pastV ps s):=by unfold pastV;split <;> rfl
theorem pastV_one (ps:List Pr) (s:Stp):one (pastV ps s)=true:=by unfold pastV;split <;> rfl
attribute [go_sem ↓] pastV_fo pastV_one
attribute [go_sem] aStr
def BadI (n:Nat) (x:List Int) (i:Nat):Prop:=x.getD i 0<0∨(n:Int)<x.getD i 0∨(0<i∧x.getD i 0≤x.getD (i - 1) 0)
open Classical in
noncomputable def listsF (ps:List Pr) (l:List (List Int)):Int:=if validF ps=true∧l.length=ps.length then (if ∃p i,p<l.length∧i<(l.getD p []).length∧BadI (nev ps p) (l.getD p []) i then 2 else 0) else 1
end Go.AL
end
section
namespace Go.AL
open Go Go.RowKit
set_option maxRecDepth 4000
section
variable {ps:List Pr} {E:Elim} {l:List (List Int)} {a:Nat→Nat}
end
theorem totS_le2 {c c':Nat→Nat} : ∀n,(∀q,q<n→c' q≤c q)→totS n c'≤totS n c
 | 0,_=>by simp [totS]
 | n+1,h=>by
  rw[totS_succ,totS_succ]
  have:=totS_le2 n fun q hq=>h q (by omega)
  have:=h n (by omega)
  omega
theorem totS_lt2 {c c':Nat→Nat} {p:Nat} : ∀n,(∀q,q<n→c' q≤c q)→p<n→c' p<c p→totS n c'<totS n c
 | 0,_,hp,_=>by omega
 | n+1,h,hp,hlt=>by
  rw[totS_succ,totS_succ]
  have h1:=h n (by omega)
  by_cases e:p=n
  ·subst e
   have:=totS_le2 p fun q hq=>h q (by omega)
   omega
  ·have:=totS_lt2 n (fun q hq=>h q (by omega)) (by omega) hlt
   omega
mutual
def hugeF:Pd→Int→Int→Int
 | .mk _ _ _ _ _ l,d,c=>hugeL l (d+1) (if 40<d then 1000 else c+1)
def hugeL:List Pd→Int→Int→Int
 | [],_,c=>c
 | x :: r,d,c=>if c≤300 then hugeL r d (hugeF x d c) else c
end
theorem hugeL_nil (d c:Int):hugeL [] d c=c:=by rw[hugeL]
theorem hugeL_cons (x:Pd) (r:List Pd) (d c:Int):hugeL (x :: r) d c=if c≤300 then hugeL r d (hugeF x d c) else c:=by rw[hugeL]
theorem hugeF_spec (t:Pd):∀d c:Int,0≤c→c≤300→c+1≤hugeF t d c∧hugeF t d c≤1000∧(hugeF t d c≤300→(c+szF t:Int)≤hugeF t d c):=by
 induction t using Pd.ind with
 | _ k n p q s l ih =>
 intro d c h0 h1
 rw[hugeF,szF]
 have hl:∀l':List Pd,(∀x ∈ l',x ∈ l)→∀c:Int,0≤c→c≤1000→c≤hugeL l' (d+1) c∧hugeL l' (d+1) c≤1000∧(hugeL l' (d+1) c≤300→(c+szL l':Int)≤hugeL l' (d+1) c):=by
  intro l'
  induction l' with
  | nil=>intro _ c h0 h1;rw[hugeL,szL];exact⟨by omega,h1,fun _=>by omega⟩
  | cons x r ihr =>
   intro hm c h0 h1
   rw[hugeL,szL]
   by_cases hc:c≤300
   ·rw[if_pos hc]
    obtain⟨a1,a2,a3⟩:=ih x (hm x List.mem_cons_self) (d+1) c h0 hc
    obtain⟨b1,b2,b3⟩:=ihr (fun y hy=>hm y (List.mem_cons_of_mem _ hy)) (hugeF x (d+1) c) (by omega) a2
    exact⟨by omega,b2,fun h=>by have:=b3 h;have:=a3 (by omega);omega⟩
   ·rw[if_neg hc]
    exact⟨by omega,h1,fun h=>absurd h hc⟩
 split
 ·obtain⟨b1,b2,b3⟩:=hl l (fun _ h=>h) 1000 (by decide) (by decide)
  exact⟨by omega,b2,fun h=>by omega⟩
 ·obtain⟨b1,b2,b3⟩:=hl l (fun _ h=>h) (c+1) (by omega) (by omega)
  exact⟨by omega,b2,fun h=>by have:=b3 h;omega⟩
theorem hugeL_take {l:List Pd} {d c:Int} : ∀ {i:Nat} (hi:i<l.length),hugeL (l.take (i+1)) d c=if hugeL (l.take i) d c≤300 then hugeF l[i] d (hugeL (l.take i) d c) else hugeL (l.take i) d c:=by
 induction l generalizing c with
 | nil=>intro i hi;simp at hi
 | cons x r ih =>
  intro i hi
  cases i with
  | zero =>
   simp only[List.take_succ_cons,List.take_zero,List.getElem_cons_zero,hugeL_cons,hugeL_nil]
  | succ i =>
   simp only[List.take_succ_cons,List.getElem_cons_succ]
   simp only[hugeL_cons]
   by_cases h:c≤300
   ·rw[if_pos h,if_pos h];exact ih (by simpa using hi)
   ·rw[if_neg h,if_neg h,if_neg h]
theorem hugeL_full {l:List Pd} {d c:Int} {i:Nat} (h:¬hugeL (l.take i) d c≤300):hugeL l d c=hugeL (l.take i) d c:=by
 induction l generalizing c i with
 | nil=>rw[List.take_nil]
 | cons x r ih =>
  cases i with
  | zero =>
   have e0:hugeL [] d c=c:=by rw[hugeL]
   rw[List.take_zero,e0] at h
   rw[List.take_zero,e0,hugeL,if_neg h]
  | succ i =>
   rw[List.take_succ_cons,hugeL] at *
   rw[hugeL]
   by_cases hc:c≤300
   ·rw[if_pos hc] at h ⊢;rw[if_pos hc];exact ih h
   ·rw[if_neg hc,if_neg hc]
theorem not_huge {t:Pd} (h:¬300<hugeF t 0 0):szF t≤300:=by
 have:=(hugeF_spec t 0 0 (by decide) (by decide)).2.2 (by omega)
 omega
mutual
def nodF:Pd→Int→Int→Int
 | .mk _ _ _ _ _ l,m,d=>if 40<d then m else nodL l m d 1
def nodL:List Pd→Int→Int→Int→Int
 | [],_,_,n=>n
 | x :: r,m,d,n=>if m≤n+nodF x (m - n) (d+1) then m else nodL r m d (n+nodF x (m - n) (d+1))
end
end Go.AL
end
