/- Texts of this claim's proof: AlRed, WCf, WBd, WCl. No condition. -/
import Derived.Test.YtaomlpmcimjfgaaGreatDoorM4
import Derived.Test.YtaomlpmcimjfgaaGreatDoorM10
section
namespace Go.AL
open Go Go.RowKit
def aNilR (P:Program) (op:BinOp) (t:TypeId) (x y:AV):Option (Prop × AV) :=
 match x,y,tinfo P t with
 | .sl _ xs,.v (.slice none 0 0),some ⟨.slice _,_,_,_⟩=>match op with
  | .eql=>some (xs ≠ [],ab false)
  | .neq=>some (xs ≠ [],ab true)
  | _=>none
 | _,_,_=>none
def avalR (P:Program) (ρ:Env) (L:AHeap) (op:Op):Option (Prop × AV) :=
 match aval P ρ L op with
 | some z=>some z
 | none=>match op with
  | .binOp b t x y _=>w2 (ev ρ x) (ev ρ y) (aNilR P b t)
  | _=>none
theorem avalR_congr {P:Program} {ρ ρ':Env} {L:AHeap} {op:Op} (h:∀x ∈ op.operands,ev ρ' x=ev ρ x):avalR P ρ' L op=avalR P ρ L op:=by
 unfold avalR
 rw[aval_congr h]
 cases op with
 | binOp b t x y t' =>
  have e1:=h x (by simp [Op.operands])
  have e2:=h y (by simp [Op.operands])
  simp only[e1,e2]
 | _=>rfl
theorem aNilR_sound {C:Cfg} {o:Oper} {ρ:Env} {L:AHeap} {op:BinOp} {t t':TypeId} {x y:Operand} (ho:o.op = .binOp op t x y t') (hd:dstOk C o) {c:Prop} {z:AV} (h:w2 (ev ρ x) (ev ρ y) (aNilR C.P op t)=some (c,z)) (hc:c) :
  AOp C o ρ L fun ρ' L'=>ρ'=put ρ o.dst z∧L'=L:=by
 obtain⟨h1,h2,c',h3,h4⟩:=w2_inv h hc
 unfold aNilR at h3
 split at h3
 ·rename_i k xs e _ _ _ hx hy hti
  have hu:=tinfo_slice hti
  have main:∀(f:Bool→Bool),((op = .eql∧f=id)∨(op = .neq∧f=not))→xs ≠ []→z=ab (f false)→AOp C o ρ L fun ρ' L'=>ρ'=put ρ o.dst z∧L'=L:=fun f hf hne hz =>
   AOp.of_run (fun c e=>by rw[ho] at e;cases e) fun w0 M A0 a w A ds hs=>by
    have rx:=fo_ok (hs.ev x) h1;rw[hx] at rx
    have ry:=fo_ok (hs.ev y) h2;rw[hy] at ry
    have ry:=ry.inv_v
    have hval:∃a0 n m,a.eval x = .slice a0 n m∧a0.isNone=false:=by
     generalize a.eval x=u at rx
     cases rx with
     | sl0 _ a0 cap hc=>exact absurd rfl hne
     | sl _ _ b off cap=>exact⟨_,_,_,rfl,rfl⟩
    obtain⟨a0,n,m,e,hne⟩:=hval
    refine⟨_,w,?_,.inl ⟨.bool (f a0.isNone),rfl,_,_,⟨by rw[hz],rfl⟩,st_iff.2 ⟨A,ds,hs.put hd (by rw[hne];exact .v _)⟩⟩⟩
    unfold execOp
    rw[ho]
    rcases hf with ⟨rfl,rfl⟩|⟨rfl,rfl⟩
    ·simp [e,ry,eqGuard_slice,binOp,equal_slice_nil hu]
    ·simp [e,ry,eqGuard_slice,binOp,equal_slice_nil hu]
  split at h3
  ·cases h3;exact main id (.inl ⟨rfl,rfl⟩) h4 rfl
  ·cases h3;exact main not (.inr ⟨rfl,rfl⟩) h4 rfl
  ·cases h3
 ·cases h3
theorem avalR_sound {C:Cfg} {o:Oper} {ρ:Env} {L:AHeap} {c:Prop} {x:AV} (hv:avalR C.P ρ L o.op=some (c,x)) (hc:c) (hd:dstOk C o) (hdef:∀c,o.op ≠ .defer c):AOp C o ρ L fun ρ' L'=>ρ'=put ρ o.dst x∧L'=L:=by
 unfold avalR at hv
 split at hv
 ·rename_i z hz
  cases hv
  exact aval_sound hz hc hd hdef
 ·split at hv
  ·rename_i ho
   exact aNilR_sound ho hd hv hc
  ·cases hv
def YldL (C:Cfg) (ops:Array Oper) (i:Nat) (o:Oper) (x:AV) (ρ:Env) (L:AHeap):Prop :=
 ∀ρ',(∀t ∈ o.looksAt ops,get ρ' t=get ρ t)→GOp C ops i ρ' L fun ρ2 L2=>ρ2=put ρ' o.dst x∧L2=L
def aqL (C:Cfg) (all:List Oper) (o:Oper) (ρ:Env) (L:AHeap) (K:Env→Prop):Prop :=
 match o.guard with
 | none=>match avalR C.P ρ L o.op with
  | some (c,x)=>c∧K (put ρ o.dst x)
  | none=>match o.op with
   | .call c=>match c.callee with
    | .value g=>GCall C.P True ((fo (ev ρ g)).1∧fos (c.args.toList.map (ev ρ))) (fo (ev ρ g)).2 (c.args.toList.map fun x=>(fo (ev ρ x)).2) L (putQ K ρ o.dst)
    | _=>False
   | _=>False
 | some (j,want)=>match gval all ρ j want with
  | some b=>match avalR C.P ρ L o.op with
   | some (c,x)=>(b=want→c)∧K (put ρ o.dst (.cond (b == want) x))
   | none=>match o.op with
    | .call c=>match c.callee with
     | .value g=>GCall C.P (b=want) ((fo (ev ρ g)).1∧fos (c.args.toList.map (ev ρ))) (fo (ev ρ g)).2 (c.args.toList.map fun x=>(fo (ev ρ x)).2) L (putQC K ρ o.dst (b == want))
     | _=>b ≠ want∧K (put ρ o.dst (.cond (b == want) .any))
    | _=>b ≠ want∧K (put ρ o.dst (.cond (b == want) .any))
  | none=>False
def aqLRun (C:Cfg) (all:List Oper) (L:AHeap):List Nat→(Env→Prop)→Env→Prop
 | [],K,ρ=>K ρ
 | i :: r,K,ρ=>match all[i]? with
  | some o=>aqL C all o ρ L (aqLRun C all L r K)
  | none=>False
section
variable {C:Cfg} {ops:Array Oper} {L:AHeap}
theorem aqL_yields {i:Nat} {o:Oper} {ρ:Env} {K:Env→Prop} (hi:ops[i]?=some o) (hok:operOk C.N o=true) (h:aqL C ops.toList o ρ L K):∃x,YldL C ops i o x ρ L∧K (put ρ o.dst x):=by
 have hd:=operOk_dst hok
 have hdef:=operOk_def hok
 unfold aqL at h
 split at h
 ·rename_i hg
  split at h
  ·rename_i c x hv
   exact⟨x,fun ρ' hag=>AOp.gop hi hg (avalR_sound (by rw[avalR_congr (agree_ops hag)];exact hv) h.1 hd hdef),h.2⟩
  ·split at h
   ·rename_i cl ho
    split at h
    ·rename_i g h0
     obtain⟨r,h1,h2⟩:=h
     refine⟨r,fun ρ' hag=>AOp.gop hi hg ?_,h2⟩
     have hag':=agree_ops hag
     rw[ho] at hag'
     obtain⟨e1,e2,e3⟩:=call_congr h0 hag'
     exact call_sound ho h0 hd (by rw[e1,e2,e3];exact⟨(h1 trivial).1.1,(h1 trivial).1.2,(h1 trivial).2⟩)
    ·exact h.elim
   ·exact h.elim
 ·rename_i j want hg
  split at h
  ·rename_i b hv
   split at h
   ·rename_i c x ha
    refine⟨_,fun ρ' hag=>GOp.of_cond hi hg (by rw[agree_guard hag hg];exact hv) hd fun hb=>avalR_sound (by rw[avalR_congr (agree_ops hag)];exact ha) (h.1 hb) hd hdef,h.2⟩
   ·split at h
    ·rename_i cl ho
     split at h
     ·rename_i g h0
      obtain⟨r,h1,h2⟩:=h
      refine⟨_,fun ρ' hag=>GOp.of_cond hi hg (by rw[agree_guard hag hg];exact hv) hd fun hb => ?_,h2⟩
      have hag':=agree_ops hag
      rw[ho] at hag'
      obtain⟨e1,e2,e3⟩:=call_congr h0 hag'
      exact call_sound ho h0 hd (by rw[e1,e2,e3];exact⟨(h1 hb).1.1,(h1 hb).1.2,(h1 hb).2⟩)
     ·refine⟨_,fun ρ' hag=>GOp.of_cond hi hg (by rw[agree_guard hag hg];exact hv) hd fun hb=>absurd hb h.1,h.2⟩
    ·refine⟨_,fun ρ' hag=>GOp.of_cond hi hg (by rw[agree_guard hag hg];exact hv) hd fun hb=>absurd hb h.1,h.2⟩
  ·exact h.elim
def QFactL (C:Cfg) (ops:Array Oper) (ρ:Env) (L:AHeap) (q:Nat):Prop:=∃o x,ops[q]?=some o∧YldL C ops q o x ρ L∧∀d,o.dst=some d→get ρ d=x
theorem YldL.of_agree {i:Nat} {o:Oper} {x:AV} {ρ ρ':Env} (h:YldL C ops i o x ρ L) (he:∀t ∈ o.looksAt ops,get ρ' t=get ρ t):YldL C ops i o x ρ' L :=
 fun ρ2 hag=>h ρ2 fun t ht=>(hag t ht).trans (he t ht)
theorem aqLRun_facts {qs0:List Nat} (hm:mixOk ops qs0=true) (hok:ops.toList.all (operOk C.N)=true):∀(qs:List Nat) (ρ:Env) (K:Env→Prop),(∀q ∈ qs,q ∈ qs0)→ascend qs=true→aqLRun C ops.toList L qs K ρ →
  ∃ρq,K ρq∧(∀q ∈ qs,QFactL C ops ρq L q)∧∀s,(∀q ∈ qs,dstOf ops q ≠ some s)→get ρq s=get ρ s
 | [],ρ,K,_,_,h=>⟨ρ,h,fun q hq=>(by cases hq),fun _ _=>rfl⟩
 | i :: r,ρ,K,hsub,hasc,h=>by
  obtain⟨hlt,hasc'⟩:=ascend_cons hasc
  simp only[aqLRun] at h
  cases ho:ops.toList[i]? with
  | none=>rw[ho] at h;exact h.elim
  | some o =>
   rw[ho] at h
   have ho':ops[i]?=some o:=by simpa using ho
   obtain⟨x,hy,hK⟩:=aqL_yields ho' (List.all_eq_true.1 hok o (List.mem_of_getElem? ho)) h
   obtain⟨ρq,h1,h2,h3⟩:=aqLRun_facts hm hok r _ K (fun q hq=>hsub q (List.mem_cons_of_mem _ hq)) hasc' hK
   obtain⟨p1,p2,_⟩:=mix_at hm ho'
   have hself:∀d,o.dst=some d→d ∉ o.looksAt ops:=fun d hd hm'=>by
    have:=(p2 i (hsub i List.mem_cons_self) d (by simp [dstOf,ho',hd])).1 hm'
    exact absurd (p1 i this) (Nat.lt_irrefl i)
   refine⟨ρq,h1,fun q hq => ?_,fun s hs => ?_⟩
   ·rcases List.mem_cons.1 hq with rfl|hq
    ·refine⟨o,x,ho',hy.of_agree fun t ht => ?_,fun d hd => ?_⟩
     ·rw[h3 t fun q' hq' he => ?_,get_put,if_neg fun he=>hself t he ht]
      have:=(p2 q' (hsub q' (List.mem_cons_of_mem _ hq')) t he).1 ht
      have:=p1 q' this;have:=hlt q' hq';omega
     ·rw[h3 d fun q' hq' he => ?_,get_put,if_pos hd]
      exact(p2 q' (hsub q' (List.mem_cons_of_mem _ hq')) d he).2 (by have:=hlt q' hq';omega) hd
    ·exact h2 q hq
   ·rw[h3 s fun q hq=>hs q (List.mem_cons_of_mem _ hq),get_put,if_neg]
    have:=hs i List.mem_cons_self
    simpa [dstOf,ho'] using this
theorem read_sound {qs:List Nat} (hm:mixOk ops qs=true) (hall:∀i,i<ops.size→i ∈ qs) {K:ARes} {n:Nat} {w0:World} {M A0:Foot} {Q:Exit→Act→World→Prop} (hQ:∀a w,post w0 M A0 C.N K a w→Q .normal a w) {ρT:Env} (hK:K ρT L) :
  ∀(f:Nat) (listed:Array Bool) (a:Act) (w:World),listed.size=ops.size →
   (∀l:List Nat,l.Nodup→(∀i ∈ l,listed.getD i true=false)→l.length≤f) →
   (∀q ∈ qs,listed.getD q true=false→QFactL C ops ρT L q)→St w0 M A0 C.N (mask ops qs listed ρT) L a w →
   wpAnyIn (Fw C.r) n C.P .any ops Q f listed a w:=by
 have fin:∀(listed:Array Bool) (a:Act) (w:World),listed.size=ops.size→St w0 M A0 C.N (mask ops qs listed ρT) L a w→Region.ready .any ops listed=[]→Q .normal a w:=by
  intro listed a w hsz hs hr
  have all:∀i,listed.getD i true=true:=by
   intro i
   induction i using Nat.strongRecOn with
   | _ i ih =>
    cases hi:listed.getD i true with
    | true=>rfl
    | false =>
     exfalso
     have hlt:i<ops.size:=by
      rw[← hsz]
      by_cases h:i<listed.size
      ·exact h
      ·simp [Array.getD,h] at hi
     have ho:ops[i]?=some ops[i]:=Array.getElem?_eq_getElem hlt
     have:i ∈ Region.ready .any ops listed:=mem_ready.2 ⟨hi,_,ho,fun e he hb=>by
      have hp:=(mix_at hm ho).1 e.on (List.mem_map.2 ⟨e,List.mem_filter.2 ⟨by simpa using he,hb⟩,rfl⟩)
      exact getD_ft (by omega) (ih _ hp)⟩
     rw[hr] at this;cases this
  refine hQ a w ⟨ρT,L,hK,st_forget hs fun i => .inr ?_⟩
  rw[mask_out fun q _ hl=>by rw[all q] at hl;cases hl]
 intro f
 induction f with
 | zero =>
  intro listed a w hsz hcnt hfact hs
  have hr:Region.ready .any ops listed=[]:=by
   cases hh:Region.ready .any ops listed with
   | nil=>rfl
   | cons j r =>
    have hj:j ∈ Region.ready .any ops listed:=by rw[hh];exact List.mem_cons_self
    have:=hcnt [j] (by simp) (fun i hi=>by simp at hi;subst hi;exact(mem_ready.1 hj).1)
    simp at this
  exact⟨hr,fin listed a w hsz hs hr⟩
 | succ f ih =>
  intro listed a w hsz hcnt hfact hs
  refine⟨fin listed a w hsz hs,fun i hi => ?_⟩
  obtain⟨hun,o,ho,hpre⟩:=mem_ready.1 hi
  have hlt:i<ops.size:=(Array.getElem?_eq_some_iff.1 ho).1
  obtain⟨m1,m2,m3⟩:=mix_at hm ho
  have hlooks:∀t ∈ o.looksAt ops,get (mask ops qs listed ρT) t=get ρT t:=fun t ht=>mask_out fun q hq hl hd=>by
   have hp:=(m2 q hq t hd).1 ht
   obtain⟨e,he,rfl⟩:=List.mem_map.1 hp
   obtain⟨he1,he2⟩:=List.mem_filter.1 he
   have:=getD_tf (hpre e (by simpa using he1) he2)
   rw[hl] at this;cases this
  have hcnt':∀l:List Nat,l.Nodup→(∀j ∈ l,(listed.setIfInBounds i true).getD j true=false)→l.length≤f:=fun l hn hl=>by
   have hil:i ∉ l:=fun h=>by
    have:=hl i h
    simp [Array.getD,show i<listed.size by omega] at this
   have:=hcnt (i :: l) (List.nodup_cons.2 ⟨hil,hn⟩) (fun j hj=>by
    rcases List.mem_cons.1 hj with rfl|hj
    ·exact hun
    ·have:=hl j hj
     have hne:i ≠ j:=fun e=>hil (e ▸ hj)
     rwa [getD_set_ne true hne] at this)
   simp at this;omega
  have hset:∀j,j ≠ i→(listed.setIfInBounds i true).getD j true=listed.getD j true:=fun j hj=>getD_set_ne true (Ne.symm hj)
  have hq:=hall i hlt
  obtain⟨o',x,ho',hy,hgx⟩:=hfact i hq hun
  rw[ho] at ho';cases ho'
  refine wpOpIn_mono ?_ (hy _ hlooks n w0 M A0 a w Q hs)
  rintro a' w' ⟨ρ2,L2,⟨rfl,rfl⟩,hs2⟩
  refine ih _ a' w' (by simpa using hsz) hcnt' (fun q hq' hl=>hfact q hq' (by
   by_cases e:q=i
   ·subst e;exact hun
   ·rwa [hset q e] at hl)) (st_forget hs2 fun s => ?_)
  rcases mask_or (ops:=ops) qs (listed.setIfInBounds i true) ρT s with ⟨h1,_⟩|⟨h1,h2⟩
  ·exact .inl h1
  ·refine .inr ?_
   rw[h1,get_put]
   by_cases hd:o.dst=some s
   ·rw[if_pos hd];exact hgx s hd
   ·rw[if_neg hd,mask_out fun q hq' hl hds => ?_]
    by_cases e:q=i
    ·subst e;exact hd (by simpa [dstOf,ho] using hds)
    ·exact h2 q hq' (by rw[hset q e];exact hl) hds
end
def readAll (ops:Array Oper) (qs:List Nat):Bool:=mixOk ops qs && (List.range ops.size).all fun i=>qs.contains i
def readK (K:ARes) (L:AHeap) (ρ:Env):Prop:=K ρ L
theorem AWp.read {C:Cfg} {id:Nat} {ops:Array Oper} {Q:AQ} {ρ:Env} {L:AHeap} (hmx:C.P.follows .mixedOrders=true) (qs:List Nat) (hT:readAll ops qs=true) (h:aqLRun C ops.toList L qs (readK (Q .normal) L) ρ) :
  AWp C (.region id ops true) Q ρ L:=fun hok n w0 M A0 a w hs=>by
 simp only[readAll,Bool.and_eq_true,List.all_eq_true,List.contains_eq_mem,decide_eq_true_eq] at hT
 obtain⟨hm,hal⟩:=hT
 have hasc:=mix_asc hm
 obtain⟨ρq,hK,hF,hother⟩:=aqLRun_facts hm hok qs ρ _ (fun _ h=>h) hasc.1 h
 refine wpIn_region_any hmx ?_
 obtain⟨A,ds,hs'⟩:=st_iff.1 hs
 refine read_sound hm (fun i hi=>hal i (List.mem_range.2 hi)) (K:=Q .normal) (fun a w ⟨ρ',L',h1,h2⟩=>⟨ρ',L',h1,h2⟩) hK ops.size _ a _ (by simp) ?_ (fun q hq _=>hF q hq) (st_forget (st_iff.2 ⟨A,ds,hs'.drew⟩) fun s => ?_)
 ·intro l hn hl
  have:=List.Nodup.length_le_of_subset hn (l₂:=List.range ops.size) (fun i hi=>by
   have:=hl i hi
   rw[List.mem_range]
   by_cases h:i<ops.size
   ·exact h
   ·simp [Array.getD,h] at this)
  simpa using this
 ·rcases mask_or (ops:=ops) qs (Array.replicate ops.size false) ρq s with ⟨h1,_⟩|⟨h1,h2⟩
  ·exact .inl h1
  ·refine .inr ?_
   rw[h1]
   exact hother s fun q hq hd=>h2 q hq (by simp [Array.getD,hasc.2 q hq]) hd
theorem aqLRun_nil (C:Cfg) (all:List Oper) (L:AHeap) (K:Env→Prop) (ρ:Env):aqLRun C all L [] K ρ=K ρ:=rfl
theorem aqLRun_cons (C:Cfg) (all:List Oper) (L:AHeap) (i:Nat) (r:List Nat) (K:Env→Prop) (ρ:Env):aqLRun C all L (i :: r) K ρ=(match all[i]? with|some o=>aqL C all o ρ L (aqLRun C all L r K)|none=>False):=rfl
attribute [go_sem] aqLRun_nil aqLRun_cons aqL readK avalR aNilR
end Go.AL
end
section
namespace Go.AL
open Go Go.RowKit
set_option maxRecDepth 4000
def okL (E:Elim) (p:Nat):List AV:=(List.range (E.top p+1)).map fun k=>ab (E.ok p k)
def okM (E:Elim):List AV:=(List.range E.n).map fun p => .sl 1 (okL E p)
def needL (E:Elim) (q m:Nat):List AV:=(List.range E.n).map fun p=>ai (E.need q m p)
def needM (E:Elim) (q:Nat):List AV:=(List.range (E.top q+1)).map fun m => .sl 1 (needL E q m)
def needT (E:Elim):List AV:=(List.range E.n).map fun q => .sl 1 (needM E q)
theorem okL_len (E:Elim) (p:Nat):(okL E p).length=E.top p+1:=by simp [okL]
theorem okM_len (E:Elim):(okM E).length=E.n:=by simp [okM]
theorem needL_len (E:Elim) (q m:Nat):(needL E q m).length=E.n:=by simp [needL]
theorem needM_len (E:Elim) (q:Nat):(needM E q).length=E.top q+1:=by simp [needM]
theorem needT_len (E:Elim):(needT E).length=E.n:=by simp [needT]
section
variable {E:Elim} {p q m k:Nat}
theorem okL_get (hk:k≤E.top p):(okL E p).getD k .any=ab (E.ok p k):=map_range_getD (show k<E.top p+1 by omega) _
theorem okM_get (hp:p<E.n):(okM E).getD p .any = .sl 1 (okL E p):=map_range_getD hp _
theorem needL_get (hp:p<E.n):(needL E q m).getD p .any=ai (E.need q m p):=map_range_getD hp _
theorem needM_get (hm:m≤E.top q):(needM E q).getD m .any = .sl 1 (needL E q m):=map_range_getD (show m<E.top q+1 by omega) _
theorem needT_get (hq:q<E.n):(needT E).getD q .any = .sl 1 (needM E q):=map_range_getD hq _
end
def aBoard (E:Elim) (now:Nat→Nat):AV:=.rp 3 [.agg [.sl 1 (needT E),.sl 1 (okM E),.sl 1 (dnA E.n now)]] 0 0
structure SmE (E:Elim):Prop where
 n:E.n≤1000000
 top:∀q,E.top q≤1000000
theorem board_excluded (E:Elim) (hE:SmE E) (now:Nat→Nat) (hI:InE E now) (p k:Nat) (hp:p<E.n) (hk:k≤E.top p):PC Proofs.Tryz.prog 139 [aBoard E now,ai p,ai k] (ab (exB E now p k)):=by
 have hn:=hE.n
 have htp:=hE.top p
 have g1:=okM_get hp
 have g2:=okL_get hk
 have hex:exB E now p k=(!E.ok p k || exB E now p k):=by
  cases h:exB E now p k with
  | true=>rw[Bool.or_true]
  | false=>rw[(exB_false.1 h).1];rfl
 have hf:=exB_false (E:=E) (now:=now) (p:=p) (k:=k)
 unfold aBoard
 generalize exB E now p k=B at *
 refine PC.enter 51 [.tmp 6] [] Proofs.Tryz.func139 rfl rfl rfl rfl rfl (by simp) (AWp.of ?_);simp only[go_sem]
 repeat(first|((with_reducible refine AWp.ofC ?_ ?_);exact rfl;simp only[go_sem,g1,g2,okL_len,okM_len])|((with_reducible refine an ?_ ?_);exact Au))
 refine⟨fun h1 => ?_,fun h1 => ?_⟩
 ·refine Wk ?_
  refine ret_eq ?_;simp only[go_sem]
  rw[hex,h1];rfl
 ·repeat(first|((with_reducible refine AWp.ofC ?_ ?_);exact rfl;simp only[go_sem,dnA_length])|((with_reducible refine an ?_ ?_);exact Au))
  refine AWp.range' E.n [] [0,1,2,23,24] (fun q vs L=>L=[]∧∀j,j<q→j ≠ p→E.need j (now j) p≤k) (by omega) rfl rfl rfl ⟨rfl,fun j hj=>by omega⟩ ?_ ?_
  ·rintro q vs L hq - ⟨rfl,hJ⟩
   have n1:=dnA_get hq now
   have hnq:=hI q hq
   have htq:=hE.top q
   have g3:=needT_get hq
   have g4:=needM_get hnq
   have g5:=needL_get (q:=q) (m:=now q) hp
   by_cases e:q=p
   ·subst e
    simp only[go_sem]
    refine Sd ?_
    refine AWp.of ?_;simp only[go_sem,n1,dnA_length]
    repeat(first|((with_reducible refine AWp.ofC ?_ ?_);exact rfl;simp only[go_sem,g3,g4,g5,needL_len,needM_len,needT_len])|((with_reducible refine an ?_ ?_);exact Au))
    exact⟨_,List.Sublist.refl _,rfl,fun j hj hn=>hJ j (by omega) hn⟩
   ·have ei:¬(q:Int)=p:=by omega
    simp only[go_sem]
    refine Sd ?_
    refine AWp.of ?_;simp only[go_sem,n1,dnA_length]
    repeat(first|((with_reducible refine AWp.ofC ?_ ?_);exact rfl;simp only[go_sem,ei,g3,g4,g5,needL_len,needM_len,needT_len])|((with_reducible refine an ?_ ?_);exact Au))
    refine⟨fun h2 => ?_,fun h2 => ?_⟩
    ·refine Wk ?_
     refine ret_eq ?_;simp only[go_sem]
     cases B with
     | true=>rfl
     | false=>have:=(hf.1 rfl).2 q hq e;omega
    ·refine⟨_,List.Sublist.refl _,rfl,fun j hj hn => ?_⟩
     by_cases ej:j=q
     ·subst ej;omega
     ·exact hJ j (by omega) hn
  ·rintro vs L - ⟨rfl,hJ⟩
   simp only[go_sem]
   refine Wk ?_
   refine ret_eq ?_;simp only[go_sem]
   rw[hf.2 ⟨by simpa using h1,fun q hq hn=>hJ q hq hn⟩]
theorem board_left (E:Elim) (hE:SmE E) (now:Nat→Nat) (hnow:∀q,q<E.n→now q≤1000001) (p:Nat) (hp:p<E.n):PC Proofs.Tryz.prog 103 [aBoard E now,ai p] (ab (decide (now p<E.top p+1))):=by
 have hn:=hE.n
 have htp:=hE.top p
 have hnp:=hnow p hp
 have g0:=dnA_get hp now
 have g1:=okM_get hp
 unfold aBoard
 refine PC.enter 21 [.tmp 4] [] Proofs.Tryz.func103 rfl rfl rfl rfl rfl (by simp) (AWp.of ?_);simp only[go_sem]
 refine AWp.seq ?_
 repeat(first|(with_reducible refine AWp.seq ?_)|(with_reducible refine AWp.block ?_))
 refine AWp.mix mixed [0,1,2,3,4,5,6,7,8,9,10,11,12,13,14,15,16] .done (by kernel_rfl) ?_;simp only[go_sem,g0,g1,dnA_length,okL_len,okM_len]
 refine Sd ?_
 refine Wk ?_
 refine ret_eq ?_;simp only[go_sem]
 congr 2;simp only[decide_eq_decide];omega
def lostB (E:Elim) (now:Nat→Nat):Bool:=(List.range E.n).any fun q=>decide (E.top q<now q)
theorem board_lost (E:Elim) (hE:SmE E) (now:Nat→Nat) (hnow:∀q,q<E.n→now q≤1000001):PC Proofs.Tryz.prog 66 [aBoard E now] (ab (lostB E now)):=by
 have hn:=hE.n
 have hleft:=fun p hp=>board_left E hE now hnow p hp
 have hl:aBoard E now = .rp 3 [.agg [.sl 1 (needT E),.sl 1 (okM E),.sl 1 (dnA E.n now)]] 0 0:=rfl
 have h1:∀q,q<E.n→E.top q<now q→lostB E now=true:=fun q hq h=>List.any_eq_true.2 ⟨q,List.mem_range.2 hq,decide_eq_true h⟩
 have h0:(∀q,q<E.n→¬E.top q<now q)→lostB E now=false:=fun h=>List.any_eq_false.2 fun q hq=>by simpa using h q (List.mem_range.1 hq)
 generalize lostB E now=B at *
 rw[hl] at *
 refine PC.enter 17 [.tmp 2] [] Proofs.Tryz.func66 rfl rfl rfl rfl rfl (by simp) (AWp.of ?_);simp only[go_sem]
 repeat(first|((with_reducible refine AWp.ofC ?_ ?_);exact rfl;simp only[go_sem,dnA_length])|((with_reducible refine an ?_ ?_);exact Au))
 refine AWp.range' E.n [] [0,8] (fun q vs L=>L=[]∧∀j,j<q→¬E.top j<now j) (by omega) rfl rfl rfl ⟨rfl,fun j hj=>by omega⟩ ?_ ?_
 ·rintro q vs L hq - ⟨rfl,hJ⟩
  simp only[go_sem]
  refine Wk ?_
  refine Sd ?_
  refine(hleft q hq).val.use ?_;simp only[go_sem]
  refine Wk ?_
  refine⟨fun h2 => ?_,fun h2 => ?_⟩
  ·refine Wk ?_
   refine ret_eq ?_;simp only[go_sem]
   rw[h1 q hq (by omega)]
  ·refine⟨_,List.Sublist.refl _,rfl,fun j hj => ?_⟩
   by_cases ej:j=q
   ·subst ej;omega
   ·exact hJ j (by omega)
 ·rintro vs L - ⟨rfl,hJ⟩
  simp only[go_sem]
  refine Wk ?_
  refine ret_eq ?_;simp only[go_sem]
  rw[h0 hJ]
def boardL (E:Elim) (now:Nat→Nat) (bb bn:Nat):AHeap:=[(bb,.row 116 3 [.agg [.sl 1 (needT E),.sl 1 (okM E),.ls bn 1 0 E.n E.n]] 1),(bn,.row 3 1 (dnA E.n now) E.n)]
theorem Own.eid (x:Eid):Own (aEid x):=Own.agg fun y hy=>by
 simp only[List.mem_cons,List.not_mem_nil,or_false] at hy
 rcases hy with rfl|rfl <;> exact Own.v _
theorem Own.miss (ps:List Pr) (c:List Int):Own (aMiss ps c):=by
 unfold aMiss
 split <;> exact Own.tup fun y hy=>by
  simp only[List.mem_cons,List.not_mem_nil,or_false] at hy
  rcases hy with rfl|rfl|rfl
  ·exact Own.eid _
  ·exact Own.eid _
  ·exact Own.v _
theorem cut_Close1 (c:List Int) (s r:Eid) (b n cap:Nat) (hn:n=c.length) (h0:0≤s.1) (h1:s.1<c.length):MCalls Proofs.Tryz.prog 176 [.ls b 1 0 n cap,aEid s,aEid r] [(b,.row 3 1 (c.map ai) cap)] fun _ L=>L=[(b,.row 3 1 ((c.set s.1.toNat s.2).map ai) cap)]:=by
 subst hn
 have hg:=getD_cAt (c:=c) h0 h1
 refine MCalls.enter' 12 [] [4,5] Proofs.Tryz.func176 rfl rfl rfl rfl rfl (by simp) (AWp.of ?_);simp only[go_sem]
 refine W1 hg ?_
 refine ret_own ?_
 simp only[go_sem]
 rw[List.map_set]
theorem cut_repaired (ps:List Pr) (hs:Sm ps) (hv:validF ps=true) (c:List Int) (hc:c.length=ps.length) (hr:inRangeF ps c=true) :
  PC Proofs.Tryz.prog 175 [aTr ps,aInts c,.v (.func (.func 176) #[] #[])] (.tup [aInts (closeF ps c),ai 0]):=by
 obtain⟨hl1,hl8⟩:=valid_len hv
 have hs1:=cut_sized ps hs [c] (by simp)
 have e1:sizedF ps [c]=true:=by unfold sizedF;rw[hv];simp [hc]
 rw[e1] at hs1
 have hs2:=cut_inRange ps hs c hc
 rw[hr] at hs2
 refine PC.enter 40 [.tmp 6,.tmp 7] [3,9,10,15] Proofs.Tryz.func175 rfl rfl rfl rfl rfl (by simp) (AWp.of ?_);simp only[go_sem]
 refine Wk ?_
 refine Sd ?_
 refine(hs1).val.use ?_;simp only[go_sem]
 refine Wk ?_
 refine Sd ?_
 refine(hs2).val.use ?_;simp only[go_sem]
 refine Wk ?_
 refine(ints_cloneO c (by omega)).val.mono ?_
 rintro r L hA
 rcases hA.inv with ⟨e1,rfl,rfl⟩|⟨b,cap,rfl,rfl⟩
 ·have:c.length=0:=by simpa using congrArg List.length e1
  omega
 simp only[go_sem,List.length_map]
 refine Sd ?_
 refine AWp.of ?_;simp only[go_sem]
 refine AWp.loopN [] [2,3,8] (fun m vs L=>∃d,d.length=ps.length∧inRangeF ps d=true∧closeF ps d=closeF ps c∧m=off ps ps.length - totC d∧L=[(b,.row 3 1 (d.map ai) cap)]) (off ps ps.length - totC c) ⟨c,hc,hr,rfl,rfl,rfl⟩ ?_
 rintro m vs L - ⟨d,hd,hdr,hde,rfl,rfl⟩
 have hm:=cut_missing ps hs d hv hd hdr
 have ho:=Own.miss ps d
 have hvw:Vws [(b,.row 3 1 (d.map ai) cap)] [aTr ps,.ls b 1 0 c.length cap] [aTr ps,aInts d]:=Vws.cons (.refl _) (Vws.cons (Vw.ofLs (if_pos rfl) (by rw[List.length_map];omega)) .nil)
 simp only[go_sem]
 refine Wk ?_
 cases h:missF ps d with
 | none =>
  rw[closeF_none h] at hde
  unfold aMiss at hm ho
  rw[h] at hm ho
  refine(PC.view hvw hm ho ?_).val
  simp only[go_sem]
  intro b9 g1 b10 g2 g3
  have n1:¬b9=b10:=by omega
  have n2:¬b10=b9:=by omega
  have n3:¬b=b9:=by omega
  have n4:¬b=b10:=by omega
  have n5:¬b9=b:=by omega
  have n6:¬b10=b:=by omega
  simp only[go_sem,n1,n6]
  refine W6 n1 n2 n3 n4 n5 n6 ?_
  refine ret_view [true] ?_;simp only[go_sem]
  rw[← hde]
  exact .mkTup (Vws.cons (Vw.ofLs (if_pos rfl) (by rw[List.length_map];omega)) (Vws.refl _))
 | some x =>
  obtain⟨a1,a2,a3⟩:=miss_next hv hd hdr h
  have hst:=closeF_step hv hd hdr h
  have ht:=totC_le a1 a2
  obtain⟨_,_,_,_,q,hq,j,hj,_,_,_,hx,_⟩:=miss_inv hv hd h
  have hx1:0≤x.1.1∧x.1.1<d.length:=by rw[hx];dsimp only;omega
  unfold aMiss at hm ho
  rw[h] at hm ho
  clear hx
  obtain⟨s,r⟩:=x
  refine(PC.view hvw hm ho ?_).val
  simp only[go_sem]
  intro b9 g1 b10 g2 g3
  have n1:¬b9=b10:=by omega
  have n2:¬b10=b9:=by omega
  have n3:¬b=b9:=by omega
  have n4:¬b=b10:=by omega
  have n5:¬b9=b:=by omega
  have n6:¬b10=b:=by omega
  simp only[go_sem,n1,n6]
  refine W6 n1 n2 n3 n4 n5 n6 ?_
  refine(cut_Close1 d s r b c.length cap (by omega) hx1.1 hx1.2).val.mono ?_
  rintro r L rfl
  simp only[go_sem]
  refine Wk ?_
  exact⟨_,List.Sublist.refl _,_,by omega,_,a1,a2,by rw[← hst,hde],rfl,rfl⟩
theorem cut_Close (ps:List Pr) (hs:Sm ps) (hv:validF ps=true) (c:List Int) (hc:c.length=ps.length) (hr:inRangeF ps c=true) :
  PC Proofs.Tryz.prog 138 [aTr ps,aInts c] (.tup [aInts (closeF ps c),ai 0]):=by
 have h:=cut_repaired ps hs hv c hc hr
 refine PC.enter 11 [.tmp 4,.tmp 5] [2] Proofs.Tryz.func138 rfl rfl rfl rfl rfl (by simp) (AWp.of ?_);simp only[go_sem]
 refine Wk ?_
 refine Sd ?_
 refine(h).val.use ?_;simp only[go_sem]
 refine Wk ?_
 refine ret_eq ?_;simp only[go_sem]
theorem ref22_Sent (ps:List Pr) (hs:Sm ps) (hv:validF ps=true) (c:List Int) (hc:c.length=ps.length) (p:Nat) (hp:p<ps.length) (i:Nat) (hi:i<ps[p].evs.length) (hic:(i:Int)<cAt c p) :
  PC Proofs.Tryz.prog 159 [aTr ps,aInts c,ai p,ai i] (ab (!badEv ps c (((p:Int),(i:Int)+1),ps[p].evs[i]))):=by
 obtain⟨hl1,hl8⟩:=valid_len hv
 have hl:=hs.procs
 have hel:=hs.evs _ (List.getElem_mem hp)
 have hgp:=getD_map (f:=aPr) hp
 have hge:=getD_map (f:=aEv) hi
 have hbad:badEv ps c (((p:Int),(i:Int)+1),ps[p].evs[i])=(decide (ps[p].evs[i].kind=3) && decide (cAt c (findIn (evIds ps) 2 ps[p].evs[i].msg).1<(findIn (evIds ps) 2 ps[p].evs[i].msg).2)):=by
  simp only[badEv,decide_eq_true (show (i:Int)+1≤cAt c p by omega),Bool.and_true]
 rw[hbad]
 have hfd:=ref12_Find ps hs 2 ps[p].evs[i].msg
 obtain⟨f1,f2⟩:=findIn_proc hl1 2 ps[p].evs[i].msg
 have hgs:=getD_cAt (c:=c) f1 (by omega)
 generalize findIn (evIds ps) 2 ps[p].evs[i].msg=s at *
 refine PC.enter 35 [.tmp 8] [4,9,10] Proofs.Tryz.func159 rfl rfl rfl rfl rfl (by simp) (AWp.of ?_);simp only[go_sem]
 refine W2 hgp hge ?_
 intro b9
 refine Wk ?_
 refine⟨fun h3 => ?_,fun h3 => ?_⟩
 ·refine Wk ?_
  refine ret_eq ?_;simp only[go_sem]
  rw[decide_eq_false h3];rfl
 ·refine Wk ?_
  refine Sd ?_
  refine(hfd).val.use ?_;simp only[go_sem]
  refine Sd ?_
  intro b10
  refine AWp.seq ?_
  refine AWp.drawn mixed 8 (by kernel_rfl) ?_;simp only[go_sem,hgs]
  refine Sd ?_
  refine Wk ?_
  refine ret_eq ?_;simp only[go_sem]
  rw[decide_eq_true h3,Bool.true_and,← decide_not]
  congr 2
  simp only[decide_eq_decide];omega
theorem stC_ok {ps:List Pr} {p:Nat} {k:Int} (hp:p<ps.length) (h0:0≤k) (hk:k≤ps[p].evs.length):(stC ps.length p k).length=ps.length∧inRangeF ps (stC ps.length p k)=true:=by
 have hl:(stC ps.length p k).length=ps.length:=by unfold stC;rw[List.length_set,List.length_replicate]
 refine⟨hl,?_⟩
 rw[inRange_iff hl]
 intro q hq
 unfold cAt stC
 rw[Int.toNat_natCast,getD_set0]
 split
 ·rename_i e;obtain⟨rfl,_⟩:=e;omega
 ·rw[List.getD_eq_getElem?_getD,List.getElem?_replicate,if_pos hq]
  exact⟨Int.le_refl 0,by simp⟩
end Go.AL
end
