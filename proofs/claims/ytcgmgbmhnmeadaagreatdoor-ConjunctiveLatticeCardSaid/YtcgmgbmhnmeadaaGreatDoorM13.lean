/- Texts of this claim's proof: AlRed, WCf, WCt, WLv. No condition. -/
import Derived.Test.YtcgmgbmhnmeadaaGreatDoorM4
import Derived.Test.YtcgmgbmhnmeadaaGreatDoorM12
import Derived.Test.YtcgmgbmhnmeadaaGreatDoorM11
import Derived.Test.YtcgmgbmhnmeadaaGreatDoorM8
section
namespace Go.AL
open Go Go.RowKit
def aNilR (P:Program) (op:BinOp) (t:TypeId) (x y:AV):Option (Prop × AV) :=
 match x,y,tinfo P t with
 | .sl _ xs,.v (.slice none 0 0),some ⟨.slice _,_,_,_⟩=>match op with
  | .eql=>some (xs ≠ [],ab false)
  | .neq=>some (xs ≠ [],ab true)
  | _=>none
 | _,_,_=>none
def avalR (P:Program) (ρ:Env) (L:AHeap) (op:Op):Option (Prop × AV) :=
 match aval P ρ L op with
 | some z=>some z
 | none=>match op with
  | .binOp b t x y _=>w2 (ev ρ x) (ev ρ y) (aNilR P b t)
  | _=>none
theorem avalR_congr {P:Program} {ρ ρ':Env} {L:AHeap} {op:Op} (h:∀x ∈ op.operands,ev ρ' x=ev ρ x):avalR P ρ' L op=avalR P ρ L op:=by
 unfold avalR
 rw[aval_congr h]
 cases op with
 | binOp b t x y t' =>
  have e1:=h x (by simp [Op.operands])
  have e2:=h y (by simp [Op.operands])
  simp only[e1,e2]
 | _=>rfl
theorem aNilR_sound {C:Cfg} {o:Oper} {ρ:Env} {L:AHeap} {op:BinOp} {t t':TypeId} {x y:Operand} (ho:o.op = .binOp op t x y t') (hd:dstOk C o) {c:Prop} {z:AV} (h:w2 (ev ρ x) (ev ρ y) (aNilR C.P op t)=some (c,z)) (hc:c) :
  AOp C o ρ L fun ρ' L'=>ρ'=put ρ o.dst z∧L'=L:=by
 obtain⟨h1,h2,c',h3,h4⟩:=w2_inv h hc
 unfold aNilR at h3
 split at h3
 ·rename_i k xs e _ _ _ hx hy hti
  have hu:=tinfo_slice hti
  have main:∀(f:Bool→Bool),((op = .eql∧f=id)∨(op = .neq∧f=not))→xs ≠ []→z=ab (f false)→AOp C o ρ L fun ρ' L'=>ρ'=put ρ o.dst z∧L'=L:=fun f hf hne hz =>
   AOp.of_run (fun c e=>by rw[ho] at e;cases e) fun w0 M A0 a w A ds hs=>by
    have rx:=fo_ok (hs.ev x) h1;rw[hx] at rx
    have ry:=fo_ok (hs.ev y) h2;rw[hy] at ry
    have ry:=ry.inv_v
    have hval:∃a0 n m,a.eval x = .slice a0 n m∧a0.isNone=false:=by
     generalize a.eval x=u at rx
     cases rx with
     | sl0 _ a0 cap hc=>exact absurd rfl hne
     | sl _ _ b off cap=>exact⟨_,_,_,rfl,rfl⟩
    obtain⟨a0,n,m,e,hne⟩:=hval
    refine⟨_,w,?_,.inl ⟨.bool (f a0.isNone),rfl,_,_,⟨by rw[hz],rfl⟩,st_iff.2 ⟨A,ds,hs.put hd (by rw[hne];exact .v _)⟩⟩⟩
    unfold execOp
    rw[ho]
    rcases hf with ⟨rfl,rfl⟩|⟨rfl,rfl⟩
    ·simp [e,ry,eqGuard_slice,binOp,equal_slice_nil hu]
    ·simp [e,ry,eqGuard_slice,binOp,equal_slice_nil hu]
  split at h3
  ·cases h3;exact main id (.inl ⟨rfl,rfl⟩) h4 rfl
  ·cases h3;exact main not (.inr ⟨rfl,rfl⟩) h4 rfl
  ·cases h3
 ·cases h3
theorem avalR_sound {C:Cfg} {o:Oper} {ρ:Env} {L:AHeap} {c:Prop} {x:AV} (hv:avalR C.P ρ L o.op=some (c,x)) (hc:c) (hd:dstOk C o) (hdef:∀c,o.op ≠ .defer c):AOp C o ρ L fun ρ' L'=>ρ'=put ρ o.dst x∧L'=L:=by
 unfold avalR at hv
 split at hv
 ·rename_i z hz
  cases hv
  exact aval_sound hz hc hd hdef
 ·split at hv
  ·rename_i ho
   exact aNilR_sound ho hd hv hc
  ·cases hv
def YldL (C:Cfg) (ops:Array Oper) (i:Nat) (o:Oper) (x:AV) (ρ:Env) (L:AHeap):Prop :=
 ∀ρ',(∀t ∈ o.looksAt ops,get ρ' t=get ρ t)→GOp C ops i ρ' L fun ρ2 L2=>ρ2=put ρ' o.dst x∧L2=L
def aqL (C:Cfg) (all:List Oper) (o:Oper) (ρ:Env) (L:AHeap) (K:Env→Prop):Prop :=
 match o.guard with
 | none=>match avalR C.P ρ L o.op with
  | some (c,x)=>c∧K (put ρ o.dst x)
  | none=>match o.op with
   | .call c=>match c.callee with
    | .value g=>GCall C.P True ((fo (ev ρ g)).1∧fos (c.args.toList.map (ev ρ))) (fo (ev ρ g)).2 (c.args.toList.map fun x=>(fo (ev ρ x)).2) L (putQ K ρ o.dst)
    | _=>False
   | _=>False
 | some (j,want)=>match gval all ρ j want with
  | some b=>match avalR C.P ρ L o.op with
   | some (c,x)=>(b=want→c)∧K (put ρ o.dst (.cond (b == want) x))
   | none=>match o.op with
    | .call c=>match c.callee with
     | .value g=>GCall C.P (b=want) ((fo (ev ρ g)).1∧fos (c.args.toList.map (ev ρ))) (fo (ev ρ g)).2 (c.args.toList.map fun x=>(fo (ev ρ x)).2) L (putQC K ρ o.dst (b == want))
     | _=>b ≠ want∧K (put ρ o.dst (.cond (b == want) .any))
    | _=>b ≠ want∧K (put ρ o.dst (.cond (b == want) .any))
  | none=>False
def aqLRun (C:Cfg) (all:List Oper) (L:AHeap):List Nat→(Env→Prop)→Env→Prop
 | [],K,ρ=>K ρ
 | i :: r,K,ρ=>match all[i]? with
  | some o=>aqL C all o ρ L (aqLRun C all L r K)
  | none=>False
section
variable {C:Cfg} {ops:Array Oper} {L:AHeap}
theorem aqL_yields {i:Nat} {o:Oper} {ρ:Env} {K:Env→Prop} (hi:ops[i]?=some o) (hok:operOk C.N o=true) (h:aqL C ops.toList o ρ L K):∃x,YldL C ops i o x ρ L∧K (put ρ o.dst x):=by
 have hd:=operOk_dst hok
 have hdef:=operOk_def hok
 unfold aqL at h
 split at h
 ·rename_i hg
  split at h
  ·rename_i c x hv
   exact⟨x,fun ρ' hag=>AOp.gop hi hg (avalR_sound (by rw[avalR_congr (agree_ops hag)];exact hv) h.1 hd hdef),h.2⟩
  ·split at h
   ·rename_i cl ho
    split at h
    ·rename_i g h0
     obtain⟨r,h1,h2⟩:=h
     refine⟨r,fun ρ' hag=>AOp.gop hi hg ?_,h2⟩
     have hag':=agree_ops hag
     rw[ho] at hag'
     obtain⟨e1,e2,e3⟩:=call_congr h0 hag'
     exact call_sound ho h0 hd (by rw[e1,e2,e3];exact⟨(h1 trivial).1.1,(h1 trivial).1.2,(h1 trivial).2⟩)
    ·exact h.elim
   ·exact h.elim
 ·rename_i j want hg
  split at h
  ·rename_i b hv
   split at h
   ·rename_i c x ha
    refine⟨_,fun ρ' hag=>GOp.of_cond hi hg (by rw[agree_guard hag hg];exact hv) hd fun hb=>avalR_sound (by rw[avalR_congr (agree_ops hag)];exact ha) (h.1 hb) hd hdef,h.2⟩
   ·split at h
    ·rename_i cl ho
     split at h
     ·rename_i g h0
      obtain⟨r,h1,h2⟩:=h
      refine⟨_,fun ρ' hag=>GOp.of_cond hi hg (by rw[agree_guard hag hg];exact hv) hd fun hb => ?_,h2⟩
      have hag':=agree_ops hag
      rw[ho] at hag'
      obtain⟨e1,e2,e3⟩:=call_congr h0 hag'
      exact call_sound ho h0 hd (by rw[e1,e2,e3];exact⟨(h1 hb).1.1,(h1 hb).1.2,(h1 hb).2⟩)
     ·refine⟨_,fun ρ' hag=>GOp.of_cond hi hg (by rw[agree_guard hag hg];exact hv) hd fun hb=>absurd hb h.1,h.2⟩
    ·refine⟨_,fun ρ' hag=>GOp.of_cond hi hg (by rw[agree_guard hag hg];exact hv) hd fun hb=>absurd hb h.1,h.2⟩
  ·exact h.elim
def QFactL (C:Cfg) (ops:Array Oper) (ρ:Env) (L:AHeap) (q:Nat):Prop:=∃o x,ops[q]?=some o∧YldL C ops q o x ρ L∧∀d,o.dst=some d→get ρ d=x
theorem YldL.of_agree {i:Nat} {o:Oper} {x:AV} {ρ ρ':Env} (h:YldL C ops i o x ρ L) (he:∀t ∈ o.looksAt ops,get ρ' t=get ρ t):YldL C ops i o x ρ' L :=
 fun ρ2 hag=>h ρ2 fun t ht=>(hag t ht).trans (he t ht)
theorem aqLRun_facts {qs0:List Nat} (hm:mixOk ops qs0=true) (hok:ops.toList.all (operOk C.N)=true):∀(qs:List Nat) (ρ:Env) (K:Env→Prop),(∀q ∈ qs,q ∈ qs0)→ascend qs=true→aqLRun C ops.toList L qs K ρ →
  ∃ρq,K ρq∧(∀q ∈ qs,QFactL C ops ρq L q)∧∀s,(∀q ∈ qs,dstOf ops q ≠ some s)→get ρq s=get ρ s
 | [],ρ,K,_,_,h=>⟨ρ,h,fun q hq=>(by cases hq),fun _ _=>rfl⟩
 | i :: r,ρ,K,hsub,hasc,h=>by
  obtain⟨hlt,hasc'⟩:=ascend_cons hasc
  simp only[aqLRun] at h
  cases ho:ops.toList[i]? with
  | none=>rw[ho] at h;exact h.elim
  | some o =>
   rw[ho] at h
   have ho':ops[i]?=some o:=by simpa using ho
   obtain⟨x,hy,hK⟩:=aqL_yields ho' (List.all_eq_true.1 hok o (List.mem_of_getElem? ho)) h
   obtain⟨ρq,h1,h2,h3⟩:=aqLRun_facts hm hok r _ K (fun q hq=>hsub q (List.mem_cons_of_mem _ hq)) hasc' hK
   obtain⟨p1,p2,_⟩:=mix_at hm ho'
   have hself:∀d,o.dst=some d→d ∉ o.looksAt ops:=fun d hd hm'=>by
    have:=(p2 i (hsub i List.mem_cons_self) d (by simp [dstOf,ho',hd])).1 hm'
    exact absurd (p1 i this) (Nat.lt_irrefl i)
   refine⟨ρq,h1,fun q hq => ?_,fun s hs => ?_⟩
   ·rcases List.mem_cons.1 hq with rfl|hq
    ·refine⟨o,x,ho',hy.of_agree fun t ht => ?_,fun d hd => ?_⟩
     ·rw[h3 t fun q' hq' he => ?_,get_put,if_neg fun he=>hself t he ht]
      have:=(p2 q' (hsub q' (List.mem_cons_of_mem _ hq')) t he).1 ht
      have:=p1 q' this;have:=hlt q' hq';omega
     ·rw[h3 d fun q' hq' he => ?_,get_put,if_pos hd]
      exact(p2 q' (hsub q' (List.mem_cons_of_mem _ hq')) d he).2 (by have:=hlt q' hq';omega) hd
    ·exact h2 q hq
   ·rw[h3 s fun q hq=>hs q (List.mem_cons_of_mem _ hq),get_put,if_neg]
    have:=hs i List.mem_cons_self
    simpa [dstOf,ho'] using this
theorem read_sound {qs:List Nat} (hm:mixOk ops qs=true) (hall:∀i,i<ops.size→i ∈ qs) {K:ARes} {n:Nat} {w0:World} {M A0:Foot} {Q:Exit→Act→World→Prop} (hQ:∀a w,post w0 M A0 C.N K a w→Q .normal a w) {ρT:Env} (hK:K ρT L) :
  ∀(f:Nat) (listed:Array Bool) (a:Act) (w:World),listed.size=ops.size →
   (∀l:List Nat,l.Nodup→(∀i ∈ l,listed.getD i true=false)→l.length≤f) →
   (∀q ∈ qs,listed.getD q true=false→QFactL C ops ρT L q)→St w0 M A0 C.N (mask ops qs listed ρT) L a w →
   wpAnyIn (Fw C.r) n C.P .any ops Q f listed a w:=by
 have fin:∀(listed:Array Bool) (a:Act) (w:World),listed.size=ops.size→St w0 M A0 C.N (mask ops qs listed ρT) L a w→Region.ready .any ops listed=[]→Q .normal a w:=by
  intro listed a w hsz hs hr
  have all:∀i,listed.getD i true=true:=by
   intro i
   induction i using Nat.strongRecOn with
   | _ i ih =>
    cases hi:listed.getD i true with
    | true=>rfl
    | false =>
     exfalso
     have hlt:i<ops.size:=by
      rw[← hsz]
      by_cases h:i<listed.size
      ·exact h
      ·simp [Array.getD,h] at hi
     have ho:ops[i]?=some ops[i]:=Array.getElem?_eq_getElem hlt
     have:i ∈ Region.ready .any ops listed:=mem_ready.2 ⟨hi,_,ho,fun e he hb=>by
      have hp:=(mix_at hm ho).1 e.on (List.mem_map.2 ⟨e,List.mem_filter.2 ⟨by simpa using he,hb⟩,rfl⟩)
      exact getD_ft (by omega) (ih _ hp)⟩
     rw[hr] at this;cases this
  refine hQ a w ⟨ρT,L,hK,st_forget hs fun i => .inr ?_⟩
  rw[mask_out fun q _ hl=>by rw[all q] at hl;cases hl]
 intro f
 induction f with
 | zero =>
  intro listed a w hsz hcnt hfact hs
  have hr:Region.ready .any ops listed=[]:=by
   cases hh:Region.ready .any ops listed with
   | nil=>rfl
   | cons j r =>
    have hj:j ∈ Region.ready .any ops listed:=by rw[hh];exact List.mem_cons_self
    have:=hcnt [j] (by simp) (fun i hi=>by simp at hi;subst hi;exact(mem_ready.1 hj).1)
    simp at this
  exact⟨hr,fin listed a w hsz hs hr⟩
 | succ f ih =>
  intro listed a w hsz hcnt hfact hs
  refine⟨fin listed a w hsz hs,fun i hi => ?_⟩
  obtain⟨hun,o,ho,hpre⟩:=mem_ready.1 hi
  have hlt:i<ops.size:=(Array.getElem?_eq_some_iff.1 ho).1
  obtain⟨m1,m2,m3⟩:=mix_at hm ho
  have hlooks:∀t ∈ o.looksAt ops,get (mask ops qs listed ρT) t=get ρT t:=fun t ht=>mask_out fun q hq hl hd=>by
   have hp:=(m2 q hq t hd).1 ht
   obtain⟨e,he,rfl⟩:=List.mem_map.1 hp
   obtain⟨he1,he2⟩:=List.mem_filter.1 he
   have:=getD_tf (hpre e (by simpa using he1) he2)
   rw[hl] at this;cases this
  have hcnt':∀l:List Nat,l.Nodup→(∀j ∈ l,(listed.setIfInBounds i true).getD j true=false)→l.length≤f:=fun l hn hl=>by
   have hil:i ∉ l:=fun h=>by
    have:=hl i h
    simp [Array.getD,show i<listed.size by omega] at this
   have:=hcnt (i :: l) (List.nodup_cons.2 ⟨hil,hn⟩) (fun j hj=>by
    rcases List.mem_cons.1 hj with rfl|hj
    ·exact hun
    ·have:=hl j hj
     have hne:i ≠ j:=fun e=>hil (e ▸ hj)
     rwa [getD_set_ne true hne] at this)
   simp at this;omega
  have hset:∀j,j ≠ i→(listed.setIfInBounds i true).getD j true=listed.getD j true:=fun j hj=>getD_set_ne true (Ne.symm hj)
  have hq:=hall i hlt
  obtain⟨o',x,ho',hy,hgx⟩:=hfact i hq hun
  rw[ho] at ho';cases ho'
  refine wpOpIn_mono ?_ (hy _ hlooks n w0 M A0 a w Q hs)
  rintro a' w' ⟨ρ2,L2,⟨rfl,rfl⟩,hs2⟩
  refine ih _ a' w' (by simpa using hsz) hcnt' (fun q hq' hl=>hfact q hq' (by
   by_cases e:q=i
   ·subst e;exact hun
   ·rwa [hset q e] at hl)) (st_forget hs2 fun s => ?_)
  rcases mask_or (ops:=ops) qs (listed.setIfInBounds i true) ρT s with ⟨h1,_⟩|⟨h1,h2⟩
  ·exact .inl h1
  ·refine .inr ?_
   rw[h1,get_put]
   by_cases hd:o.dst=some s
   ·rw[if_pos hd];exact hgx s hd
   ·rw[if_neg hd,mask_out fun q hq' hl hds => ?_]
    by_cases e:q=i
    ·subst e;exact hd (by simpa [dstOf,ho] using hds)
    ·exact h2 q hq' (by rw[hset q e];exact hl) hds
end
def readAll (ops:Array Oper) (qs:List Nat):Bool:=mixOk ops qs && (List.range ops.size).all fun i=>qs.contains i
def readK (K:ARes) (L:AHeap) (ρ:Env):Prop:=K ρ L
theorem AWp.read {C:Cfg} {id:Nat} {ops:Array Oper} {Q:AQ} {ρ:Env} {L:AHeap} (hmx:C.P.follows .mixedOrders=true) (qs:List Nat) (hT:readAll ops qs=true) (h:aqLRun C ops.toList L qs (readK (Q .normal) L) ρ) :
  AWp C (.region id ops true) Q ρ L:=fun hok n w0 M A0 a w hs=>by
 simp only[readAll,Bool.and_eq_true,List.all_eq_true,List.contains_eq_mem,decide_eq_true_eq] at hT
 obtain⟨hm,hal⟩:=hT
 have hasc:=mix_asc hm
 obtain⟨ρq,hK,hF,hother⟩:=aqLRun_facts hm hok qs ρ _ (fun _ h=>h) hasc.1 h
 refine wpIn_region_any hmx ?_
 obtain⟨A,ds,hs'⟩:=st_iff.1 hs
 refine read_sound hm (fun i hi=>hal i (List.mem_range.2 hi)) (K:=Q .normal) (fun a w ⟨ρ',L',h1,h2⟩=>⟨ρ',L',h1,h2⟩) hK ops.size _ a _ (by simp) ?_ (fun q hq _=>hF q hq) (st_forget (st_iff.2 ⟨A,ds,hs'.drew⟩) fun s => ?_)
 ·intro l hn hl
  have:=List.Nodup.length_le_of_subset hn (l₂:=List.range ops.size) (fun i hi=>by
   have:=hl i hi
   rw[List.mem_range]
   by_cases h:i<ops.size
   ·exact h
   ·simp [Array.getD,h] at this)
  simpa using this
 ·rcases mask_or (ops:=ops) qs (Array.replicate ops.size false) ρq s with ⟨h1,_⟩|⟨h1,h2⟩
  ·exact .inl h1
  ·refine .inr ?_
   rw[h1]
   exact hother s fun q hq hd=>h2 q hq (by simp [Array.getD,hasc.2 q hq]) hd
theorem aqLRun_nil (C:Cfg) (all:List Oper) (L:AHeap) (K:Env→Prop) (ρ:Env):aqLRun C all L [] K ρ=K ρ:=rfl
theorem aqLRun_cons (C:Cfg) (all:List Oper) (L:AHeap) (i:Nat) (r:List Nat) (K:Env→Prop) (ρ:Env):aqLRun C all L (i :: r) K ρ=(match all[i]? with|some o=>aqL C all o ρ L (aqLRun C all L r K)|none=>False):=rfl
attribute [go_sem] aqLRun_nil aqLRun_cons aqL readK avalR aNilR
end Go.AL
end
section
namespace Go.AL
open Go Go.RowKit
set_option maxRecDepth 4000
def compN (xs:List (List Int)):Nat→List (List Int)
 | 0=>[]
 | 1=>xs.take 1
 | n+2=>if xs[n+1]?=xs[n]? then compN xs (n+1) else compN xs (n+1) ++ xs[n+1]?.toList
def compL (xs:List (List Int)):List (List Int):=compN xs xs.length
theorem compN_all {xs:List (List Int)} : ∀ {n:Nat},n≤xs.length→(∀(i:Nat),0<i→i<n→xs[i]? ≠ xs[i - 1]?)→compN xs n=xs.take n
 | 0,_,_=>by simp [compN]
 | 1,_,_=>rfl
 | n+2,hn,h=>by
  have h1:=compN_all (n:=n+1) (by omega) fun i h0 hi=>h i h0 (by omega)
  have h2:=h (n+1) (by omega) (by omega)
  unfold compN
  rw[if_neg (by simpa using h2),h1,List.take_add_one (i:=n+1)]
theorem compN_mem {xs:List (List Int)} {x:List Int} : ∀n,x ∈ compN xs n↔x ∈ xs.take n
 | 0=>by simp [compN]
 | 1=>by unfold compN;rfl
 | n+2=>by
  have ih:=compN_mem (xs:=xs) (x:=x) (n+1)
  unfold compN
  rw[List.take_add_one (i:=n+1),List.mem_append,← ih]
  split
  ·rename_i e
   refine⟨.inl,fun h=>h.elim id fun h=>ih.2 ?_⟩
   rw[e] at h
   rw[List.take_add_one,List.mem_append];exact .inr h
  ·rw[List.mem_append]
theorem compL_mem {xs:List (List Int)} {x:List Int} : x ∈ compL xs↔x ∈ xs:=by unfold compL;rw[compN_mem,List.take_length]
theorem compN_pair {xs:List (List Int)} (hs:xs.Pairwise fun x y=>¬cmpL y x<0):∀n,n≤xs.length→(compN xs n).Pairwise (fun x y=>cmpL x y<0)
 | 0,_=>by simp [compN]
 | 1,_=>by
  unfold compN
  cases xs with
  | nil=>simp
  | cons x xs=>simp
 | n+2,hn=>by
  have ih:=compN_pair hs (n+1) (by omega)
  unfold compN
  split
  ·exact ih
  ·rename_i hne
   rw[List.getElem?_eq_getElem (by omega),List.getElem?_eq_getElem (show n<xs.length by omega)] at hne
   rw[List.getElem?_eq_getElem (by omega)]
   rw[List.pairwise_append]
   refine⟨ih,by simp,fun x hx y hy => ?_⟩
   obtain rfl:y=xs[n+1]:=by simpa using hy
   rw[compN_mem] at hx
   obtain⟨i,hi,rfl⟩:=List.getElem_of_mem hx
   have hi':i<n+1:=by simp at hi;omega
   rw[List.getElem_take]
   rw[List.pairwise_iff_getElem] at hs
   have h1:¬cmpL xs[n+1] xs[n]<0:=hs n (n+1) (by omega) (by omega) (by omega)
   have h3:cmpL xs[n] xs[n+1]<0:=by
    by_cases c:cmpL xs[n] xs[n+1]<0
    ·exact c
    ·exact absurd (congrArg some (cmpL_anti _ _ h1 c)) hne
   by_cases e:i=n
   ·subst e;exact h3
   ·have h2:¬cmpL xs[n] xs[i]<0:=hs i n (by omega) (by omega) (by omega)
    by_cases c:cmpL xs[i] xs[n]<0
    ·exact cmpL_trans _ _ _ c h3
    ·rw[cmpL_anti _ _ c h2];exact h3
theorem compN_two (xs:List (List Int)) (n:Nat):compN xs (n+2)=if xs[n+1]?=xs[n]? then compN xs (n+1) else compN xs (n+1) ++ xs[n+1]?.toList:=by rw[compN]
theorem rows_compact (b cap:Nat) (xs:List (List Int)) (hx:∀x ∈ xs,x.length≤1000000) (hl:xs.length≤1000000) :
  MCalls Proofs.Tryz.prog 170 [.ls b 1 0 xs.length cap,.v (.func (.func 171) #[] #[])] [(b,.row 30 1 (xs.map aInts) cap)]
   fun r L'=>∃ws cap',r = .ls b 1 0 (compL xs).length cap'∧L'=[(b,.row 30 1 ((compL xs).map aInts ++ ws) cap)]:=by
 refine MCalls.enter' 66 [.tmp 4] [] Proofs.Tryz.func170 rfl rfl rfl rfl rfl (by simp) (AWp.of ?_);simp only[go_sem]
 refine AWp.capOk (b:=b) (if_pos rfl) fun hcap => ?_
 rw[List.length_map] at hcap
 refine Wk ?_
 refine⟨fun h => ?_,fun h => ?_⟩
 ·refine Wk ?_
  refine ret_own ?_
  simp only[go_sem]
  have e:compL xs=xs:=by
   unfold compL
   rw[compN_all (Nat.le_refl _) (fun i h0 hi=>by omega),List.take_length]
  exact⟨[],cap,by rw[e],by rw[e,List.append_nil]⟩
 ·refine Wk ?_
  refine AWp.block (AWp.loopN [5] [0,1] (fun m vs L=>∃k:Nat,vs=[ai k]∧1≤k∧k≤xs.length∧m=xs.length - k∧L=[(b,.row 30 1 (xs.map aInts) cap)]∧∀(i:Nat),0<i→i<k→xs[i]? ≠ xs[i - 1]?) (xs.length - 1) ⟨1,rfl,by omega,by omega,rfl,rfl,fun i h1 h2=>by omega⟩ ?_)
  rintro m vs L - ⟨k,rfl,k1,k2,rfl,rfl,hI⟩
  simp only[go_sem]
  refine Wk ?_
  refine⟨fun h1 => ?_,fun h1 => ?_⟩
  ·have hk:k<xs.length:=by omega
   have hk1:k - 1<xs.length:=by omega
   refine Wk ?_
   refine AWp.seq (AWp.block (AWp.seq ?_))
   have hkm:((k:Int) - 1).toNat=k - 1:=by omega
   have sm:=next_same xs[k] xs[k - 1] (hx _ (List.getElem_mem hk))
   simp only[go_sem] at sm
   repeat(first|(with_reducible refine AWp.seq ?_)|(with_reducible refine AWp.block ?_))
   refine AWp.read mixed [0,1,2,3,4,5,6,7,8,9,10] (by kernel_rfl) ?_;simp only[go_sem,getD_map hk,getD_map hk1,hkm]
   refine Sd ?_
   refine GCall.use (ab (decide (xs[k]=xs[k - 1]))) (fun _=>⟨At,sm.val.use ⟨rfl,rfl⟩⟩) ?_
   simp only[go_sem]
   refine Wk ?_
   refine⟨fun h2 => ?_,fun h2 => ?_⟩
   ·have c0:compN xs (k+1)=xs.take k:=by
     obtain⟨j,rfl⟩:∃j,k=j+1:=⟨k - 1,by omega⟩
     rw[compN_two,if_pos (by rw[List.getElem?_eq_getElem hk,List.getElem?_eq_getElem (show j<xs.length by omega)];exact congrArg some h2)]
     exact compN_all (by omega) hI
    refine Wk ?_
    refine AWp.block (AWp.loopN [5,7] [0,1,6] (fun m vs L=>∃(q:Nat) (c zs:List (List Int)),vs=[ai c.length,ai q]∧1≤q∧k+q≤xs.length∧c=compN xs (k+q)∧c.length≤k+q - 1∧zs=c ++ xs.drop c.length∧m=xs.length - (k+q) ∧
     L=[(b,.row 30 1 (zs.map aInts) cap)]) (xs.length - (k+1)) ⟨1,xs.take k,xs,by rw[List.length_take,Nat.min_eq_left k2];rfl,by omega,by omega,c0.symm,by rw[List.length_take];omega,by rw[List.length_take,Nat.min_eq_left k2,List.take_append_drop],rfl,rfl⟩ ?_)
    rintro m vs L - ⟨q,c,zs,rfl,q1,q2,hc,hcl,hz,rfl,rfl⟩
    have zl:zs.length=xs.length:=by rw[hz,List.length_append,List.length_drop];omega
    have zg:∀(i:Nat) (h1:i<xs.length),c.length≤i→(zs.map aInts).getD i .any=aInts xs[i]:=fun i h1 h2=>by
     rw[getD_map (by omega)]
     subst hz
     rw[List.getElem_append_right h2,List.getElem_drop]
     congr 2;omega
    simp only[go_sem]
    refine Wk ?_
    refine⟨fun h3 => ?_,fun h3 => ?_⟩
    ·have hkq:k+q<xs.length:=by omega
     have hkq1:k+q - 1<xs.length:=by omega
     have g1:=zg (k+q) hkq (by omega)
     have g2:=zg (k+q - 1) hkq1 (by omega)
     have e1:((q:Int) - 1).toNat=q - 1:=by omega
     have e2:k+(q - 1)=k+q - 1:=by omega
     have sm:=next_same xs[k+q] xs[k+q - 1] (hx _ (List.getElem_mem hkq))
     simp only[go_sem] at sm
     refine Wk ?_
     refine AWp.seq (AWp.block (AWp.seq ?_))
     repeat(first|(with_reducible refine AWp.seq ?_)|(with_reducible refine AWp.block ?_))
     refine AWp.read mixed [0,1,2,3,4,5,6,7,8,9,10,11] (by kernel_rfl) ?_;simp only[go_sem,g1,g2,e1,e2]
     refine Sd ?_
     refine GCall.use (ab (decide (xs[k+q]=xs[k+q - 1]))) (fun _=>⟨At,sm.val.use ⟨rfl,rfl⟩⟩) ?_
     simp only[go_sem]
     have hq':k+q - 2+1=k+q - 1:=by omega
     have hstep:compN xs (k+(q+1))=if xs[k+q]?=xs[k+q - 1]? then c else c ++ xs[k+q]?.toList:=by
      rw[show k+(q+1)=(k+q - 1)+2 by omega,compN_two,show k+q - 1+1=k+q by omega,← hc]
     rw[List.getElem?_eq_getElem hkq,List.getElem?_eq_getElem hkq1] at hstep
     have g0:=zg c.length (by omega) (Nat.le_refl _)
     refine W5 g1 g2 e1 e2 g0 ?_
     refine⟨fun h4 => ?_,fun h4 => ?_⟩
     ·rw[if_neg (fun e=>h4 (Option.some.inj e))] at hstep
      refine W5 g1 g2 e1 e2 g0 ?_
      refine⟨_,List.Sublist.refl _,_,?_,q+1,c ++ [xs[k+q]],zs.set c.length xs[k+q],?_,by omega,by omega,hstep.symm,by simp;omega,?_,rfl,?_⟩
      ·omega
      ·rw[List.length_append];rfl
      ·rw[hz,List.set_append_right _ _ (Nat.le_refl _),Nat.sub_self,List.drop_eq_getElem_cons (show c.length<xs.length by omega),List.set_cons_zero,List.append_assoc,List.length_append];rfl
      ·rw[List.map_set];rfl
     ·rw[if_pos (congrArg some h4)] at hstep
      refine Wk ?_
      exact⟨_,List.Sublist.refl _,_,by omega,q+1,c,zs,rfl,by omega,by omega,hstep.symm,by omega,hz,rfl,rfl⟩
    ·have hn:k+q=xs.length:=by omega
     have hcl2:compL xs=c:=by unfold compL;rw[← hn,hc]
     have hcx:c.length≤xs.length:=by omega
     refine Wk ?_
     refine ret_own ?_
     simp only[go_sem]
     refine⟨List.replicate (xs.length - c.length) anil,cap,by rw[hcl2],?_⟩
     rw[hcl2,List.length_replicate,show c.length+(xs.length - c.length)=zs.length by omega,List.drop_length,List.map_nil,List.append_nil,hz,List.take_left]
   ·refine Wk ?_
    refine⟨_,List.Sublist.refl _,_,?_,k+1,rfl,by omega,by omega,rfl,rfl,fun i h0 hi => ?_⟩
    ·omega
    ·by_cases e:i=k
     ·subst e;rw[List.getElem?_eq_getElem hk,List.getElem?_eq_getElem hk1];exact fun e=>h2 (Option.some.inj e)
     ·exact hI i h0 (by omega)
  ·refine Wk ?_
   refine ret_own ?_
   simp only[go_sem]
   have e:compL xs=xs:=by
    unfold compL
    rw[compN_all (Nat.le_refl _) (fun i h0 hi=>hI i h0 (by omega)),List.take_length]
   exact⟨[],cap,by rw[e],by rw[e,List.append_nil]⟩
theorem noreach {ps:List Pr} (hv:validF ps=true) {x:Eid} (hx:VEv ps x):¬Reach ps x x:=by
 obtain⟨p,hp,i,hi,rfl⟩:=hx
 have h0:=valid_cyc hv
 unfold cycF at h0
 rw[Option.map_eq_none_iff,List.find?_eq_none] at h0
 simpa using h0 _ (List.mem_of_getElem? (evIds_get hp hi))
theorem reach_trans {ps:List Pr} {a b c:Eid} (h1:Reach ps a b) (h2:Reach ps b c):Reach ps a c:=by
 induction h2 with
 | single h=>exact .tail h1 h
 | tail _ h ih=>exact .tail ih h
theorem countP_lt {α:Type} {p q:α→Bool} : ∀ {l:List α},(∀a ∈ l,p a=true→q a=true)→(∃a ∈ l,p a=false∧q a=true)→l.countP p<l.countP q
 | [],_,⟨a,h,_⟩=>by cases h
 | b :: l,h1,⟨a,ha,h2,h3⟩=>by
  have hle:l.countP p≤l.countP q:=List.countP_mono_left fun a ha h=>h1 a (List.mem_cons_of_mem _ ha) h
  rw[List.countP_cons,List.countP_cons]
  have hb:=h1 b List.mem_cons_self
  rcases List.mem_cons.1 ha with rfl|ha
  ·rw[h2,h3];simp;omega
  ·have:=countP_lt (l:=l) (fun a ha h=>h1 a (List.mem_cons_of_mem _ ha) h) ⟨a,ha,h2,h3⟩
   by_cases e:p b=true
   ·rw[e,hb e];omega
   ·rw[if_neg e];split <;> omega
open Classical in
noncomputable def anc (ps:List Pr) (x:Eid):Nat:=(evIds ps).countP fun e=>decide (Reach ps e.1 x)
theorem anc_lt {ps:List Pr} (hv:validF ps=true) {x y:Eid} (hx:VEv ps x) (h:Reach ps x y):anc ps x<anc ps y:=by
 classical
 unfold anc
 refine countP_lt (fun a _ ha=>decide_eq_true (reach_trans (of_decide_eq_true ha) h)) ?_
 obtain⟨e,he,e1⟩:=List.mem_map.1 hx.mem
 exact⟨e,he,decide_eq_false (by rw[e1];exact noreach hv hx),decide_eq_true (by rw[e1];exact h)⟩
theorem nx_line {ps:List Pr} (hm:msgF ps=none) {p:Nat} (hp:p<ps.length) {j:Nat} (hj:j+1<ps[p].evs.length):Nx ps ((p:Int),(j:Int)+1) ((p:Int),((j+1:Nat):Int)+1):=by
 refine((dirL_iff hm hp hj _).1 ?_).2
 unfold dirL
 rw[List.mem_append,if_pos (by omega)]
 exact .inl (by simp)
theorem nx_send {ps:List Pr} (hm:msgF ps=none) {p:Nat} (hp:p<ps.length) {i:Nat} (hi:i<ps[p].evs.length) (hk:ps[p].evs[i].kind=3):Nx ps (sndr ps ps[p].evs[i].msg) ((p:Int),(i:Int)+1):=by
 refine((dirL_iff hm hp hi _).1 ?_).2
 unfold dirL
 rw[List.mem_append,evq_get hp hi,if_pos hk]
 exact .inr (by simp)
theorem reach_line {ps:List Pr} (hm:msgF ps=none) {p:Nat} (hp:p<ps.length) {i:Nat} : ∀ {j:Nat},i<j→j<ps[p].evs.length→Reach ps ((p:Int),(i:Int)+1) ((p:Int),(j:Int)+1)
 | 0,h,_=>by omega
 | j+1,h,hj=>by
  by_cases e:i=j
  ·subst e;exact .single (nx_line hm hp hj)
  ·exact .tail (reach_line hm hp (by omega) (by omega)) (nx_line hm hp hj)
theorem anc_line {ps:List Pr} (hv:validF ps=true) {p:Nat} (hp:p<ps.length) {i j:Nat} (hij:i≤j) (hj:j<ps[p].evs.length):anc ps ((p:Int),(i:Int)+1)≤anc ps ((p:Int),(j:Int)+1):=by
 by_cases e:i=j
 ·subst e;exact Nat.le_refl _
 ·exact Nat.le_of_lt (anc_lt hv ⟨p,hp,i,by omega,rfl⟩ (reach_line (valid_parts hv).2.2 hp (by omega) hj))
theorem argmax (f:Nat→Nat) (P:Nat→Prop):∀n,(∃p,p<n∧P p)→∃p,p<n∧P p∧∀q,q<n→P q→f q≤f p
 | 0,⟨p,h,_⟩=>by omega
 | n+1,⟨p,hp,h⟩=>by
  classical
  by_cases hx:∃p,p<n∧P p
  ·obtain⟨m,h1,h2,h3⟩:=argmax f P n hx
   by_cases hn:P n∧f m<f n
   ·refine⟨n,by omega,hn.1,fun q hq hP => ?_⟩
    by_cases e:q=n
    ·subst e;exact Nat.le_refl _
    ·have:=h3 q (by omega) hP;omega
   ·refine⟨m,by omega,h2,fun q hq hP => ?_⟩
    by_cases e:q=n
    ·subst e
     have:¬f m<f q:=fun h=>hn ⟨hP,h⟩
     omega
    ·exact h3 q (by omega) hP
  ·have:p=n:=by
    by_cases e:p=n
    ·exact e
    ·exact absurd ⟨p,by omega,h⟩ hx
   subst this
   refine⟨p,by omega,h,fun q hq hP => ?_⟩
   by_cases e:q=p
   ·subst e;exact Nat.le_refl _
   ·exact absurd ⟨q,by omega,hP⟩ hx
theorem setc_cAt {d:List Int} {p q:Nat} {z:Int} (hq:q<d.length):cAt (d.set p z) q=if p=q then z else cAt d q:=by
 rw[cAt_nat (by rw[List.length_set];exact hq),List.getElem_set]
 split
 ·rfl
 ·rw[cAt_nat hq]
theorem cut_remove {ps:List Pr} (hv:validF ps=true) {c:List Int} (hl:c.length=ps.length) (hr:inRangeF ps c=true) (hcl:closedF ps c=true) (h0:∃p,p<ps.length∧0<cAt c p) :
  ∃p,p<ps.length∧0<cAt c p∧inRangeF ps (c.set p (cAt c p - 1))=true∧closedF ps (c.set p (cAt c p - 1))=true:=by
 have hm:=(valid_parts hv).2.2
 have hrr:=(inRange_iff hl).1 hr
 obtain⟨p,hp,hp0,hmax⟩:=argmax (fun p=>anc ps ((p:Int),cAt c p)) (fun p=>0<cAt c p) ps.length h0
 refine⟨p,hp,hp0,(inRange_iff (by rw[List.length_set];exact hl)).2 fun q hq => ?_,closed_iff.2 fun q hq i hi hk hle => ?_⟩
 ·rw[setc_cAt (by omega)]
  split
  ·rename_i e;subst e;have:=hrr p hp;omega
  ·exact hrr q hq
 ·have hle':(i:Int)+1≤cAt c q:=by
   rw[setc_cAt (by omega)] at hle
   split at hle
   ·rename_i e;subst e;omega
   ·exact hle
  have h1:=closed_iff.1 hcl q hq i hi hk hle'
  obtain⟨s,hs,j,hj,e,_,_⟩:=sndr_some (recv_sndr hm hq hi hk)
  have hn:=nx_send hm hq hi hk
  rw[e] at h1 hn ⊢
  simp only at h1 ⊢
  rw[setc_cAt (by omega)]
  split
  ·rename_i es;subst es
   by_cases hj2:(j:Int)+1=cAt c p
   ·exfalso
    have h2:=anc_lt hv ⟨p,hs,j,hj,rfl⟩ (.single hn)
    have h3:=hmax q hq (by omega)
    have hq2:=(hrr q hq).2
    have h4:=anc_line hv hq (i:=i) (j:=(cAt c q).toNat - 1) (by omega) (by omega)
    have h5:(((cAt c q).toNat - 1:Nat):Int)+1=cAt c q:=by omega
    rw[h5] at h4
    rw[hj2] at h2
    omega
   ·omega
  ·exact h1
def isF (ps:List Pr) (c:List Int):Bool:=(decide (c.length=ps.length) && inRangeF ps c) && closedF ps c
theorem isF_iff {ps:List Pr} {c:List Int} : isF ps c=true↔c.length=ps.length∧inRangeF ps c=true∧closedF ps c=true:=by
 unfold isF
 rw[Bool.and_eq_true,Bool.and_eq_true,decide_eq_true_eq,and_assoc]
def stpC (c:List Int) (p:Nat):List Int:=c.set p (cAt c p+1)
def nx1 (ps:List Pr) (c:List Int) (p:Nat):List (List Int):=if cAt c p<nev ps p∧isF ps (stpC c p)=true then [stpC c p] else []
def nextT (ps:List Pr) (c:List Int) (k:Nat):List (List Int):=(List.range k).flatMap (nx1 ps c)
def nextL (ps:List Pr) (c:List Int):List (List Int):=nextT ps c c.length
theorem nextT_succ (ps:List Pr) (c:List Int) (k:Nat):nextT ps c (k+1)=nextT ps c k ++ nx1 ps c k:=by unfold nextT;rw[List.range_succ,List.flatMap_append];simp
theorem nextT_len (ps:List Pr) (c:List Int):∀k,(nextT ps c k).length≤k
 | 0=>by simp [nextT]
 | k+1=>by
  rw[nextT_succ,List.length_append]
  have:=nextT_len ps c k
  unfold nx1
  split <;> simp <;> omega
def lexF:List Int→List Int→Bool
 | a :: x,b :: y=>if a=b then lexF x y else decide (a<b)
 | _,_=>false
def befF (a b:List Int):Bool:=if a.sum=b.sum then lexF a b else decide (a.sum<b.sum)
def insF (l:List (List Int)) (c:List Int):List (List Int):=if (l.dropWhile fun x=>befF x c).head?=some c then l else (l.takeWhile fun x=>befF x c) ++ c :: l.dropWhile fun x=>befF x c
theorem insF_len (l:List (List Int)) (c:List Int):(insF l c).length≤l.length+1:=by
 unfold insF
 split
 ·omega
 ·have h:=congrArg List.length (List.takeWhile_append_dropWhile (p:=fun x=>befF x c) (l:=l))
  rw[List.length_append] at h
  rw[List.length_append,List.length_cons];omega
theorem mem_insF {l:List (List Int)} {c d:List Int} : d ∈ insF l c↔d ∈ l∨d=c:=by
 unfold insF
 have h:=List.takeWhile_append_dropWhile (p:=fun x=>befF x c) (l:=l)
 split
 ·rename_i hh
  constructor
  ·exact .inl
  ·rintro(h1|rfl)
   ·exact h1
   ·rw[← h]
    exact List.mem_append_right _ (List.mem_of_mem_head? hh)
 ·rw[List.mem_append,List.mem_cons]
  constructor
  ·rintro(h1|h1|h1)
   ·left;rw[← h];exact List.mem_append_left _ h1
   ·exact .inr h1
   ·left;rw[← h];exact List.mem_append_right _ h1
  ·rintro(h1|h1)
   ·rw[← h,List.mem_append] at h1
    rcases h1 with h1|h1
    ·exact .inl h1
    ·exact .inr (.inr h1)
   ·exact .inr (.inl h1)
def insL (acc l:List (List Int)):List (List Int):=l.foldl insF acc
theorem mem_insL {d:List Int} : ∀ {l acc:List (List Int)},d ∈ insL acc l↔d ∈ acc∨d ∈ l
 | [],acc=>by simp [insL]
 | c :: l,acc=>by
  show d ∈ insL (insF acc c) l↔_
  rw[mem_insL,mem_insF,List.mem_cons,or_assoc]
theorem insL_len:∀(l acc:List (List Int)),(insL acc l).length≤acc.length+l.length
 | [],acc=>by simp [insL]
 | c :: l,acc=>by
  have:=insL_len l (insF acc c)
  have:=insF_len acc c
  show (insL (insF acc c) l).length≤_
  rw[List.length_cons];omega
def moreT (ps:List Pr) (lv:List (List Int)):List (List Int):=lv.foldl (fun acc c=>insL acc (nextL ps c)) []
theorem mem_more {ps:List Pr} {d:List Int} : ∀ {lv acc:List (List Int)},d ∈ lv.foldl (fun acc c=>insL acc (nextL ps c)) acc↔d ∈ acc∨∃c ∈ lv,d ∈ nextL ps c
 | [],acc=>by simp
 | c :: lv,acc=>by
  rw[List.foldl_cons,mem_more,mem_insL,or_assoc]
  simp
def levF (ps:List Pr):Nat→List (List Int)
 | 0=>[List.replicate ps.length 0]
 | k+1=>moreT ps (levF ps k)
theorem mem_nextL {ps:List Pr} {c d:List Int} : d ∈ nextL ps c↔∃p,p<c.length∧cAt c p<nev ps p∧isF ps (stpC c p)=true∧d=stpC c p:=by
 unfold nextL nextT
 rw[List.mem_flatMap]
 constructor
 ·rintro⟨p,hp,h⟩
  unfold nx1 at h
  split at h
  ·rename_i h1
   exact⟨p,List.mem_range.1 hp,h1.1,h1.2,by simpa using h⟩
  ·cases h
 ·rintro⟨p,hp,h1,h2,rfl⟩
  exact⟨p,List.mem_range.2 hp,by unfold nx1;rw[if_pos ⟨h1,h2⟩];simp⟩
theorem sum_stpC {c:List Int} {p:Nat} (hp:p<c.length):(stpC c p).sum=c.sum+1:=by
 unfold stpC
 have h:=sum_set c p (cAt c p+1) hp
 have e:cAt c p=c.getD p 0:=by unfold cAt;simp
 rw[h,e];omega
theorem isF_nonneg {ps:List Pr} {c:List Int} (h:isF ps c=true):∀z ∈ c,0≤z:=fun z hz=>by
 obtain⟨h1,h2,_⟩:=isF_iff.1 h
 obtain⟨p,hp,rfl⟩:=List.getElem_of_mem hz
 have:=((inRange_iff h1).1 h2 p (by omega)).1
 rwa [cAt_nat hp] at this
theorem isF_zero {ps:List Pr} : isF ps (List.replicate ps.length 0)=true:=by
 have e:∀q:Int,cAt (List.replicate ps.length 0) q=0:=fun q=>by
  unfold cAt
  rw[List.getD_eq_getElem?_getD,List.getElem?_replicate]
  split <;> rfl
 have hl:(List.replicate ps.length (0:Int)).length=ps.length:=List.length_replicate
 refine isF_iff.2 ⟨hl,(inRange_iff hl).2 fun p hp => ?_,closed_iff.2 fun p hp i hi hk hle => ?_⟩
 ·rw[e];omega
 ·rw[e] at hle;omega
theorem mem_levF {ps:List Pr} (hv:validF ps=true):∀(k:Nat) (c:List Int),c ∈ levF ps k↔isF ps c=true∧c.sum=k
 | 0,c=>by
  show c ∈ [List.replicate ps.length 0]↔_
  rw[List.mem_singleton]
  constructor
  ·rintro rfl
   refine⟨isF_zero,?_⟩
   have:∀n,(List.replicate n (0:Int)).sum=0:=fun n=>by
    induction n with
    | zero=>rfl
    | succ n ih=>rw[List.replicate_succ,List.sum_cons,ih];rfl
   rw[this];rfl
  ·rintro⟨h,hs⟩
   obtain⟨h1,h2,h3⟩:=isF_iff.1 h
   have hn:=isF_nonneg h
   apply List.ext_getElem (by rw[h1,List.length_replicate])
   intro i hi hi2
   have:=sum_ge c hn (List.getElem_mem hi)
   have:=hn _ (List.getElem_mem hi)
   rw[List.getElem_replicate]
   rw[hs] at *
   omega
 | k+1,c=>by
  show c ∈ moreT ps (levF ps k)↔_
  unfold moreT
  rw[mem_more]
  constructor
  ·rintro(h|⟨d,hd,hc⟩)
   ·cases h
   ·obtain⟨p,hp,_,h2,rfl⟩:=mem_nextL.1 hc
    have:=((mem_levF hv k d).1 hd).2
    exact⟨h2,by rw[sum_stpC hp,this];omega⟩
  ·rintro⟨h,hs⟩
   obtain⟨h1,h2,h3⟩:=isF_iff.1 h
   have hn:=isF_nonneg h
   have hpos:∃p,p<ps.length∧0<cAt c p:=by
    by_cases hx:∃p,p<ps.length∧0<cAt c p
    ·exact hx
    ·exfalso
     have:∀z ∈ c,z=0:=fun z hz=>by
      obtain⟨p,hp,rfl⟩:=List.getElem_of_mem hz
      have:=hn _ hz
      have h4:¬0<cAt c p:=fun h=>hx ⟨p,by omega,h⟩
      rw[cAt_nat hp] at h4
      omega
     have e:c.sum=0:=by
      clear hs hn h hx h1 h2 h3
      induction c with
      | nil=>rfl
      | cons a c ih =>
       rw[List.sum_cons,this a List.mem_cons_self,ih fun z hz=>this z (List.mem_cons_of_mem _ hz)];rfl
     omega
   obtain⟨p,hp,hp0,r1,r2⟩:=cut_remove hv h1 h2 h3 hpos
   have hpc:p<c.length:=by omega
   have hdl:(c.set p (cAt c p - 1)).length=c.length:=List.length_set
   have hst:stpC (c.set p (cAt c p - 1)) p=c:=by
    unfold stpC
    rw[setc_cAt hpc,if_pos rfl,List.set_set,show cAt c p - 1+1=cAt c p by omega,cAt_nat hpc,List.set_getElem_self]
   refine .inr ⟨c.set p (cAt c p - 1),(mem_levF hv k _).2 ⟨isF_iff.2 ⟨by rw[hdl,h1],r1,r2⟩,?_⟩,mem_nextL.2 ⟨p,by omega,?_,by rw[hst];exact h,hst.symm⟩⟩
   ·have:=sum_stpC (c:=c.set p (cAt c p - 1)) (p:=p) (by omega)
    rw[hst] at this;omega
   ·rw[setc_cAt hpc,if_pos rfl,nev_get hp]
    have:=((inRange_iff h1).1 h2 p hp).2
    omega
theorem sum_totC:∀ {c:List Int},(∀z ∈ c,0≤z)→c.sum=totC c
 | [],_=>rfl
 | a :: c,h=>by
  have h0:=h a List.mem_cons_self
  have:=sum_totC (c:=c) fun z hz=>h z (List.mem_cons_of_mem _ hz)
  unfold totC at *
  rw[List.sum_cons,List.map_cons,List.sum_cons,this]
  omega
theorem sum_le_off {ps:List Pr} {c:List Int} (h:isF ps c=true):c.sum≤off ps ps.length:=by
 obtain⟨h1,h2,_⟩:=isF_iff.1 h
 have h3:=totC_le h1 h2
 have h4:=sum_totC (isF_nonneg h)
 omega
theorem levF_end {ps:List Pr} (hv:validF ps=true) {k:Nat} (h:off ps ps.length<k):levF ps k=[]:=by
 rw[List.eq_nil_iff_forall_not_mem]
 intro c hc
 obtain⟨h1,h2⟩:=(mem_levF hv k c).1 hc
 have:=sum_le_off h1
 omega
theorem levF_nil {ps:List Pr} {k:Nat} (h:levF ps k=[]):∀j,levF ps (k+j)=[]
 | 0=>h
 | j+1=>by
  show moreT ps (levF ps (k+j))=[]
  rw[levF_nil h j];rfl
def cumF (ps:List Pr) (k:Nat):List (List Int):=(List.range k).flatMap (levF ps)
theorem cumF_succ (ps:List Pr) (k:Nat):cumF ps (k+1)=cumF ps k ++ levF ps k:=by unfold cumF;rw[List.range_succ,List.flatMap_append];simp
def cutsF (ps:List Pr):List (List Int):=cumF ps (off ps ps.length+1)
theorem mem_cutsF {ps:List Pr} (hv:validF ps=true) {c:List Int} : c ∈ cutsF ps↔isF ps c=true:=by
 unfold cutsF cumF
 rw[List.mem_flatMap]
 constructor
 ·rintro⟨k,_,h⟩
  exact((mem_levF hv k c).1 h).1
 ·intro h
  have h1:=sum_le_off h
  have h2:0≤c.sum:=sum_nonneg c (isF_nonneg h)
  exact⟨c.sum.toNat,List.mem_range.2 (by omega),(mem_levF hv _ c).2 ⟨h,by omega⟩⟩
theorem cumF_mono {ps:List Pr} {j:Nat} : ∀ {k:Nat},j≤k→(cumF ps j).length≤(cumF ps k).length
 | 0,h=>by
  have:j=0:=by omega
  subst this;exact Nat.le_refl _
 | k+1,h=>by
  by_cases e:j=k+1
  ·subst e;exact Nat.le_refl _
  ·have:=cumF_mono (ps:=ps) (j:=j) (k:=k) (by omega)
   rw[cumF_succ,List.length_append];omega
theorem cumF_end {ps:List Pr} {j:Nat} (h:levF ps j=[]):∀m,cumF ps (j+m)=cumF ps j
 | 0=>rfl
 | m+1=>by
  show cumF ps ((j+m)+1)=_
  rw[cumF_succ,levF_nil h m,List.append_nil,cumF_end h m]
end Go.AL
end
section
namespace Go.AL
open Go Go.RowKit
set_option maxRecDepth 4000
theorem lexF_iff:∀ {a b:List Int},a.length=b.length→(lexF a b=true↔cmpL a b<0)
 | [],[],_=>by simp [lexF,cmpL]
 | [],_ :: _,h=>by simp at h
 | _ :: _,[],h=>by simp at h
 | x :: a,y :: b,h=>by
  rw[cmpL_cons]
  unfold lexF
  by_cases e:x=y
  ·subst e
   rw[if_pos rfl,if_neg (by omega),if_neg (by omega)]
   exact lexF_iff (by simpa using h)
  ·rw[if_neg e,decide_eq_true_eq]
   by_cases c:x<y
   ·rw[if_pos c];omega
   ·rw[if_neg c,if_pos (by omega)];omega
def Asc (l:List (List Int)):Prop:=l.Pairwise fun x y=>cmpL x y<0
theorem asc_eq {l m:List (List Int)} (h1:Asc l) (h2:Asc m) (h:∀x,x ∈ l↔x ∈ m):l=m:=by
 have hn:∀ {l:List (List Int)},Asc l→l.Nodup:=fun {l} h=>h.imp fun {a b} hab e=>by subst e;rw[cmpL_irr] at hab;omega
 have hp:l.Perm m:=(List.perm_ext_iff_of_nodup (hn h1) (hn h2)).2 h
 exact hp.eq_of_pairwise (fun a b _ _ h3 h4=>absurd (cmpL_trans _ _ _ h3 h4) (by rw[cmpL_irr];omega)) h1 h2
theorem asc_comp (l:List (List Int)):Asc (compL (sortL l)):=compN_pair (sortBy_pair swoL l) _ (Nat.le_refl _)
theorem mem_comp {l:List (List Int)} {x:List Int} : x ∈ compL (sortL l)↔x ∈ l:=by rw[compL_mem];exact(sortBy_perm cmpL l).mem_iff
theorem asc_ins {l:List (List Int)} {c:List Int} (h:Asc l) (hl:∀x ∈ l,x.length=c.length∧x.sum=c.sum):Asc (insF l c):=by
 have hb:∀x ∈ l,(befF x c=true↔cmpL x c<0):=fun x hx=>by
  unfold befF;rw[if_pos (hl x hx).2];exact lexF_iff (hl x hx).1
 unfold insF
 have hsp:=List.takeWhile_append_dropWhile (p:=fun x=>befF x c) (l:=l)
 split
 ·exact h
 ·rename_i hh
  generalize ht:l.takeWhile (fun x=>befF x c)=t at *
  generalize hd:l.dropWhile (fun x=>befF x c)=d at *
  have htm:∀x ∈ t,cmpL x c<0:=fun x hx=>by
   have h1:x ∈ l:=by rw[← hsp];exact List.mem_append_left _ hx
   refine(hb x h1).1 ?_
   have:=List.all_takeWhile (p:=fun x=>befF x c) (l:=l)
   rw[ht] at this
   exact List.all_eq_true.1 this x hx
  unfold Asc at h ⊢
  rw[← hsp,List.pairwise_append] at h
  obtain⟨a1,a2,a3⟩:=h
  have hdm:∀y ∈ d,cmpL c y<0:=fun y hy=>by
   cases d with
   | nil=>cases hy
   | cons z d =>
    have hz:cmpL c z<0:=by
     have hzl:z ∈ l:=by rw[← hsp];simp
     have hf:¬befF z c=true:=by
      have:=List.head?_dropWhile_not (fun x=>befF x c) l
      rw[hd] at this
      simpa using this
     by_cases e:cmpL c z<0
     ·exact e
     ·exact absurd (congrArg some (cmpL_anti z c (fun h=>hf ((hb z hzl).2 h)) e)) hh
    rcases List.mem_cons.1 hy with rfl|hy
    ·exact hz
    ·exact cmpL_trans _ _ _ hz (List.rel_of_pairwise_cons a2 hy)
  rw[List.pairwise_append,List.pairwise_cons]
  refine⟨a1,⟨hdm,a2⟩,fun x hx y hy => ?_⟩
  rcases List.mem_cons.1 hy with rfl|hy
  ·exact htm x hx
  ·exact a3 x hx y hy
theorem asc_insL {n:Nat} {s:Int} : ∀ {l acc:List (List Int)},Asc acc→(∀x ∈ acc,x.length=n∧x.sum=s)→(∀x ∈ l,x.length=n∧x.sum=s)→Asc (insL acc l)
 | [],_,h,_,_=>h
 | c :: l,acc,h,h1,h2=>by
  have hc:=h2 c List.mem_cons_self
  show Asc (insL (insF acc c) l)
  refine asc_insL (asc_ins h fun x hx=>by have:=h1 x hx;omega) (fun x hx => ?_) fun x hx=>h2 x (List.mem_cons_of_mem _ hx)
  rcases mem_insF.1 hx with hx|rfl
  ·exact h1 x hx
  ·exact hc
theorem asc_lev {ps:List Pr} (hv:validF ps=true):∀k,Asc (levF ps k)
 | 0=>List.pairwise_singleton _ _
 | k+1=>by
  have hm:∀(lv acc:List (List Int)),(∀c ∈ lv,isF ps c=true∧c.sum=k)→Asc acc→(∀x ∈ acc,x.length=ps.length∧x.sum=k+1)→Asc (lv.foldl (fun acc c=>insL acc (nextL ps c)) acc):=by
   intro lv
   induction lv with
   | nil=>intro acc _ h _;exact h
   | cons c lv ih =>
    intro acc h1 h2 h3
    have hc:=h1 c List.mem_cons_self
    have hnx:∀x ∈ nextL ps c,x.length=ps.length∧x.sum=k+1:=fun x hx=>by
     obtain⟨p,hp,_,h4,rfl⟩:=mem_nextL.1 hx
     exact⟨(isF_iff.1 h4).1,by rw[sum_stpC hp,hc.2]⟩
    refine ih _ (fun d hd=>h1 d (List.mem_cons_of_mem _ hd)) (asc_insL h2 h3 hnx) fun x hx => ?_
    rcases mem_insL.1 hx with hx|hx
    ·exact h3 x hx
    ·exact hnx x hx
  exact hm (levF ps k) [] (fun c hc=>(mem_levF hv k c).1 hc) List.Pairwise.nil fun x hx=>by cases hx
theorem next_lev {ps:List Pr} (hv:validF ps=true) (k:Nat) {l:List (List Int)} (h:∀x,x ∈ l↔∃c ∈ levF ps k,x ∈ nextL ps c):compL (sortL l)=levF ps (k+1):=by
 refine asc_eq (asc_comp l) (asc_lev hv (k+1)) fun x => ?_
 rw[mem_comp,h]
 show _↔x ∈ moreT ps (levF ps k)
 unfold moreT
 rw[mem_more]
 simp
end Go.AL
end
