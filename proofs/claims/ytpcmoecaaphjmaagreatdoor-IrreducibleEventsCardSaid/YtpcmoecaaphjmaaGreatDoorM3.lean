/- Texts of this claim's proof: AlDraw, AlCode, AlFun, AlEnter, AlSimp. No condition. -/
import Derived.Test.YtpcmoecaaphjmaaGreatDoorM2
import Derived.RangeFuncRecord
import Derived.RangeFuncLeaves
section
namespace Go.AL
open Go Go.RowKit
def Yl (C:Cfg) (ops:Array Oper) (L:AHeap) (i:Nat) (d:Option Tmp) (x:AV) (ρ:Env):Prop:=GOp C ops i ρ L fun ρ' L'=>ρ'=put ρ d x∧L'=L
def Ylds (C:Cfg) (ops:Array Oper) (L:AHeap) (i:Nat) (o:Oper) (x:AV) (ρ:Env):Prop :=
 ∀ρ',(∀t ∈ o.looksAt ops,get ρ' t=get ρ t)→Yl C ops L i o.dst x ρ'
theorem get_put (ρ:Env) (d:Option Tmp) (x:AV) (i:Nat):get (put ρ d x) i=if d=some i then x else get ρ i:=by
 cases d with
 | none=>simp [put]
 | some d =>
  simp only[put,get,Option.some.injEq]
  by_cases h:i=d
  ·rw[if_pos h,if_pos h.symm]
  ·rw[if_neg h,if_neg (fun e=>h e.symm)]
def anyF (C:Cfg) (md:Region.Mode) (ops:Array Oper) (n:Nat) (L:AHeap) (fin:Array Bool→Env→Prop):Nat→Array Bool→Env→Prop
 | 0,listed,ρ=>∃ρ',(∀i,get ρ' i=get ρ i)∧fin listed ρ'
 | f+1,listed,ρ=>Region.ready md ops listed ≠ []∧∀i ∈ Region.ready md ops listed,i<n∧∃o x,ops[i]?=some o∧Ylds C ops L i o x ρ∧anyF C md ops n L fin f (listed.setIfInBounds i true) (put ρ o.dst x)
section
variable {C:Cfg} {md:Region.Mode} {ops:Array Oper} {n:Nat} {L:AHeap}
theorem anyF_congr {fin:Array Bool→Env→Prop} : ∀(f:Nat) (listed:Array Bool) (ρ ρ':Env),(∀i,get ρ i=get ρ' i)→anyF C md ops n L fin f listed ρ→anyF C md ops n L fin f listed ρ'
 | 0,listed,ρ,ρ',he,⟨ρ2,h1,h2⟩=>⟨ρ2,fun i=>(h1 i).trans (he i),h2⟩
 | f+1,listed,ρ,ρ',he,h=>⟨h.1,fun i hi=>by
   obtain⟨h1,o,x,h2,h3,h4⟩:=h.2 i hi
   exact⟨h1,o,x,h2,fun ρ2 h5=>h3 ρ2 fun t ht=>(h5 t ht).trans (he t).symm,anyF_congr f _ _ _ (fun k=>by rw[get_put,get_put,he k]) h4⟩⟩
theorem anyF_sound {fin:Array Bool→Env→Prop} {g m:Nat} {w0:World} {M A0:Foot} {Q:Exit→Act→World→Prop}
  (hfin:∀listed ρ a w,fin listed ρ→St w0 M A0 C.N ρ L a w→wpAnyIn (Fw C.r) m C.P md ops Q g listed a w) :
  ∀(f:Nat) (listed:Array Bool) (ρ:Env) (a:Act) (w:World),anyF C md ops n L fin f listed ρ→St w0 M A0 C.N ρ L a w→wpAnyIn (Fw C.r) m C.P md ops Q (f+g) listed a w
 | 0,listed,ρ,a,w,⟨ρ',h1,h⟩,hs=>by rw[Nat.zero_add];exact hfin _ _ _ _ h (st_env hs fun i A u hr=>by rw[h1 i];exact hr)
 | f+1,listed,ρ,a,w,h,hs=>by
  rw[show f+1+g=(f+g)+1 by omega]
  refine⟨fun h0=>absurd h0 h.1,fun i hi => ?_⟩
  obtain⟨_,o,x,ho,hy,hr⟩:=h.2 i hi
  refine wpOpIn_mono ?_ (hy ρ (fun _ _=>rfl) m w0 M A0 a w Q hs)
  rintro a' w' ⟨ρ',L',⟨e1,e2⟩,hs'⟩
  rw[e1,e2] at hs'
  exact anyF_sound hfin f _ _ a' w' hr hs'
theorem anyF_first {Inv:Array Bool→Prop} {i:Nat} {oi:Oper} {v:AV} {fin:Array Bool→Env→Prop} (hi:ops[i]?=some oi)
  (hset:∀listed j,Inv listed→j ∈ Region.ready md ops listed→j<n→Inv (listed.setIfInBounds j true))
  (hlt:∀listed,Inv listed→i ∈ Region.ready md ops listed→∀j ∈ Region.ready md ops listed,j<n)
  (hdone:∀listed ρ,fin listed ρ→∀j ∈ Region.ready md ops listed,n≤j) :
  ∀(f:Nat) (listed:Array Bool) (ρ:Env),Inv listed →
   (∀j oj,ops[j]?=some oj→j ≠ i→listed.getD j true=false→(∀e ∈ oj.after,Region.binds md e=true→e.on ≠ i)→oi.apart ops oj=true) →
   i ∈ Region.ready md ops listed→Ylds C ops L i oi v ρ →
   anyF C md ops n L fin f (listed.setIfInBounds i true) (put ρ oi.dst v)→anyF C md ops n L fin (f+1) listed ρ:=by
 intro f
 induction f with
 | zero =>
  intro listed ρ inv _ hr hy H
  refine⟨fun h=>(by rw[h] at hr;cases hr),fun j hj => ?_⟩
  have hjn:=hlt listed inv hr j hj
  refine⟨hjn,?_⟩
  by_cases hji:j=i
  ·subst hji;exact⟨oi,v,hi,hy,H⟩
  ·obtain⟨ρ',_,H⟩:=H
   have:=hdone _ _ H j (ready_mono hj hji)
   omega
 | succ f ih =>
  intro listed ρ inv hfree hr hy H
  have hun:=(mem_ready.1 hr).1
  refine⟨fun h=>(by rw[h] at hr;cases hr),fun j hj => ?_⟩
  have hjn:=hlt listed inv hr j hj
  refine⟨hjn,?_⟩
  by_cases hji:j=i
  ·subst hji;exact⟨oi,v,hi,hy,H⟩
  ·obtain⟨_,oj,x,hoj,hyj,hrest⟩:=H.2 j (ready_mono hj hji)
   obtain⟨hjun,oj',hoj',hall⟩:=mem_ready.1 hj
   rw[hoj] at hoj';cases hoj'
   have hnot:∀e ∈ oj.after,Region.binds md e=true→e.on ≠ i:=fun e he hb heq=>by
    have h1:=hall e he hb
    rw[heq,getD_both hun] at h1
    cases h1
   obtain⟨h1,h2,h3⟩:=Oper.apart_spec (hfree j oj hoj hji hjun hnot)
   have hfree':∀k ok,ops[k]?=some ok→k ≠ i→(listed.setIfInBounds j true).getD k true=false →
     (∀e ∈ ok.after,Region.binds md e=true→e.on ≠ i)→oi.apart ops ok=true:=fun k ok hk hki hunk hno=>by
    refine hfree k ok hk hki ?_ hno
    by_cases hjk:j=k
    ·subst hjk;exact hjun
    ·rw[getD_set_ne true hjk] at hunk;exact hunk
   have a1:∀t ∈ oj.looksAt ops,get (put ρ oi.dst v) t=get ρ t:=fun t ht=>by
    rw[get_put,if_neg];intro hd;exact h1 t hd ht
   have a2:∀t ∈ oi.looksAt ops,get (put ρ oj.dst x) t=get ρ t:=fun t ht=>by
    rw[get_put,if_neg];intro hd;exact h3 t hd ht
   have hyj':Ylds C ops L j oj x ρ:=fun ρ' he'=>hyj ρ' fun t ht=>by rw[he' t ht,a1 t ht]
   have hy':Ylds C ops L i oi v (put ρ oj.dst x):=fun ρ' he'=>hy ρ' fun t ht=>by rw[he' t ht,a2 t ht]
   refine⟨oj,x,hoj,hyj',ih (listed.setIfInBounds j true) _ (hset _ _ inv hj hjn) hfree' (ready_mono hr (Ne.symm hji)) hy' ?_⟩
   rw[Array.setIfInBounds_comm _ _ hji]
   refine anyF_congr _ _ _ _ (fun t => ?_) hrest
   rw[get_put,get_put,get_put,get_put]
   by_cases hd1:oi.dst=some t
   ·rw[if_pos hd1,if_neg (fun h=>h2 t hd1 h),if_pos hd1]
   ·rw[if_neg hd1,if_neg hd1]
theorem aval_congr {P:Program} {ρ ρ':Env} {L:AHeap} {op:Op} (h:∀x ∈ op.operands,ev ρ' x=ev ρ x):aval P ρ' L op=aval P ρ L op:=by
 have hl:∀(l:List Operand),(∀x ∈ l,ev ρ' x=ev ρ x)→l.map (ev ρ')=l.map (ev ρ):=fun l hl=>List.map_congr_left hl
 cases op with
 | build t parts =>
  have hp:∀p ∈ parts.toList,ev ρ' p.2=ev ρ p.2:=fun p hp=>h p.2 (by simp only[Op.operands,List.mem_toArray,List.mem_map];exact⟨p,hp,rfl⟩)
  have e1:(parts.toList.map fun p=>(p.1,(fo (ev ρ' p.2)).2))=(parts.toList.map fun p=>(p.1,(fo (ev ρ p.2)).2)):=List.map_congr_left fun p hp'=>by rw[hp p hp']
  have e2:(parts.toList.map fun p=>ev ρ' p.2)=(parts.toList.map fun p=>ev ρ p.2):=List.map_congr_left fun p hp'=>by rw[hp p hp']
  unfold aval
  simp only[e1,e2]
 | makeFunc fn first cap =>
  have hc:cap.toList.map (ev ρ')=cap.toList.map (ev ρ):=hl _ fun x hx=>h x (by simp only[Op.operands,Array.mem_append];exact .inr (by simpa using hx))
  cases fn <;> simp only[aval,hc]
 | call c =>
  obtain⟨callee,args,argTypes⟩:=c
  cases callee with
  | builtin b =>
   have ha:∀x ∈ args.toList,ev ρ' x=ev ρ x:=fun x hx=>h x (by simp only[Op.operands,Call.operands,Array.mem_append];exact .inr (by simpa using hx))
   unfold aval
   dsimp only
   split
   ·rename_i x t _ hx _;rw[ha x (by rw[hx];simp)]
   ·rename_i x t _ hx _;rw[ha x (by rw[hx];simp)]
   ·rename_i x y _ hx;rw[ha x (by rw[hx];simp),ha y (by rw[hx];simp)]
   ·rename_i x y _ hx;rw[ha x (by rw[hx];simp),ha y (by rw[hx];simp)]
   ·rfl
  | value g=>unfold aval;rfl
  | invoke r m=>unfold aval;rfl
 | slice t x lo hi mx =>
  have hx:=h x (by simp [Op.operands])
  have hlo:lo.map (ev ρ')=lo.map (ev ρ):=by
   cases lo with
   | none=>rfl
   | some y=>rw[Option.map_some,Option.map_some,h y (by simp [Op.operands])]
  have hhi:hi.map (ev ρ')=hi.map (ev ρ):=by
   cases hi with
   | none=>rfl
   | some y=>rw[Option.map_some,Option.map_some,h y (by simp [Op.operands])]
  have hlo2:(lo.map fun y=>(fo (ev ρ' y)).2)=(lo.map fun y=>(fo (ev ρ y)).2):=by
   cases lo with
   | none=>rfl
   | some y=>rw[Option.map_some,Option.map_some,h y (by simp [Op.operands])]
  have hhi2:(hi.map fun y=>(fo (ev ρ' y)).2)=(hi.map fun y=>(fo (ev ρ y)).2):=by
   cases hi with
   | none=>rfl
   | some y=>rw[Option.map_some,Option.map_some,h y (by simp [Op.operands])]
  cases mx <;> simp only[aval,hx,hlo,hhi,hlo2,hhi2]
 | move x=>simp only[aval,h x (by simp [Op.operands])]
 | assign x=>simp only[aval,h x (by simp [Op.operands])]
 | pick c a b=>simp only[aval,h c (by simp [Op.operands]),h a (by simp [Op.operands]),h b (by simp [Op.operands])]
 | load t x=>simp only[aval,h x (by simp [Op.operands])]
 | fieldAddr t x f=>simp only[aval,h x (by simp [Op.operands])]
 | field t x f=>simp only[aval,h x (by simp [Op.operands])]
 | indexAddr t x i=>simp only[aval,h x (by simp [Op.operands]),h i (by simp [Op.operands])]
 | index t x i=>simp only[aval,h x (by simp [Op.operands]),h i (by simp [Op.operands])]
 | binOp op t x y t'=>simp only[aval,h x (by simp [Op.operands]),h y (by simp [Op.operands])]
 | unOp op t x=>simp only[aval,h x (by simp [Op.operands])]
 | convert s d x=>simp only[aval,h x (by simp [Op.operands])]
 | extract x i=>simp only[aval,h x (by simp [Op.operands])]
 | nilCheck x=>simp only[aval,h x (by simp [Op.operands])]
 | lookup t x i ok=>simp only[aval,h x (by simp [Op.operands]),h i (by simp [Op.operands])]
 | _=>rfl
def aqv (C:Cfg) (o:Oper) (ρ:Env) (L:AHeap) (K:AV→Prop):Prop :=
 match aval C.P ρ L o.op with
 | some (c,x)=>c∧K x
 | none=>match o.op with
  | .call c=>match c.callee with
   | .value g=>GCall C.P True ((fo (ev ρ g)).1∧fos (c.args.toList.map (ev ρ))) (fo (ev ρ g)).2 (c.args.toList.map fun x=>(fo (ev ρ x)).2) L K
   | _=>False
  | .box t x=>match tinfo C.P t with
   | some ti=>((fo (ev ρ x)).1∧elOk ti.size (fo (ev ρ x)).2)∧K (.rp ti.size [(fo (ev ρ x)).2] 0 0)
   | none=>False
  | .buildSlice t len parts=>match tinfo C.P t with
   | some ⟨.slice e,_,_,_⟩=>match tinfo C.P e with
    | some ei=>(fos (parts.toList.map fun p=>ev ρ p.2)∧len * ei.size≤16777216∧0<ei.size∧elOk ei.size ei.zero∧partsOk len ei.size (parts.toList.map fun p=>(p.1,(fo (ev ρ p.2)).2))) ∧
      K (.sl ei.size (setAll (List.replicate len ei.zero) (parts.toList.map fun p=>(p.1,(fo (ev ρ p.2)).2))))
    | none=>False
   | _=>False
  | _=>False
def aq (C:Cfg) (all:List Oper) (o:Oper) (ρ:Env) (L:AHeap) (K:Env→Prop):Prop :=
 match o.guard with
 | none=>aqv C o ρ L (putQ K ρ o.dst)
 | some (j,want)=>match gval all ρ j want with
  | some b=>match aval C.P ρ L o.op with
   | some (c,x)=>(b=want→c)∧K (put ρ o.dst (.cond (b == want) x))
   | none=>match o.op with
    | .call c=>match c.callee with
     | .value g=>GCall C.P (b=want) ((fo (ev ρ g)).1∧fos (c.args.toList.map (ev ρ))) (fo (ev ρ g)).2 (c.args.toList.map fun x=>(fo (ev ρ x)).2) L (putQC K ρ o.dst (b == want))
     | _=>False
    | _=>False
  | none=>False
def aquiet (C:Cfg) (all:List Oper):List Oper→Env→AHeap→(Env→Prop)→Prop
 | [],ρ,_,K=>K ρ
 | o :: rest,ρ,L,K=>aq C all o ρ L fun ρ=>aquiet C all rest ρ L K
def aquietK (C:Cfg) (all rest:List Oper) (L:AHeap) (K:Env→Prop) (ρ:Env):Prop:=aquiet C all rest ρ L K
theorem aquiet_nil (C:Cfg) (all:List Oper) (ρ:Env) (L:AHeap) (K:Env→Prop):aquiet C all [] ρ L K=K ρ:=rfl
theorem aquiet_cons (C:Cfg) (all rest:List Oper) (o:Oper) (ρ:Env) (L:AHeap) (K:Env→Prop):aquiet C all (o :: rest) ρ L K=aq C all o ρ L (aquietK C all rest L K):=rfl
def aregD (C:Cfg) (all rest:List Oper) (L:AHeap) (K:ARes) (ρ:Env):Prop:=aregion C all rest ρ L K
theorem allocF_step {C:Cfg} {o:Oper} {ρ:Env} {L:AHeap} {x:AV} (hd:dstOk C o) (hdef:∀c,o.op ≠ .defer c)
  (h:∀(a:Act) w A,(∀y,Rel w A (ev ρ y) (a.eval y))→LRel w A L→∃ob u,(execOp a.eval o).run C.P w = .ok (.value u) (w.alloc ob)∧Rel (w.alloc ob) (fun b=>A b∨b=w.heap.size) x u) :
  AOp C o ρ L fun ρ' L'=>ρ'=put ρ o.dst x∧L'=L :=
 AOp.of_run hdef fun w0 M A0 a w A ds hs=>by
  obtain⟨ob,u,hr,hrel⟩:=h a w A hs.ev hs.l
  exact⟨_,_,hr,.inl ⟨u,rfl,post_mk ((hs.allocF ob).put hd hrel) ⟨rfl,rfl⟩⟩⟩
theorem agree_ops {ρ ρ':Env} {o:Oper} (h:∀t ∈ o.looksAt ops,get ρ' t=get ρ t):∀x ∈ o.op.operands,ev ρ' x=ev ρ x:=fun x hx=>by
 cases x with
 | tmp t=>exact h t (List.mem_append_left _ (List.mem_filterMap.2 ⟨.tmp t,by simpa using hx,rfl⟩))
 | _=>rfl
theorem agree_guard {ρ ρ':Env} {o:Oper} {j:Nat} {want:Bool} (h:∀t ∈ o.looksAt ops,get ρ' t=get ρ t) (hg:o.guard=some (j,want)):gval ops.toList ρ' j want=gval ops.toList ρ j want:=by
 unfold gval
 rw[Array.getElem?_toList]
 cases hj:ops[j]? with
 | none=>rfl
 | some oj =>
  dsimp only
  cases hd:oj.dst with
  | none=>rfl
  | some d =>
   dsimp only
   rw[h d (by unfold Oper.looksAt;rw[hg];simp [hj,hd])]
theorem call_congr {ρ ρ':Env} {g:Operand} {cl:Call} (h0:cl.callee = .value g) (hag:∀x ∈ (Op.call cl).operands,ev ρ' x=ev ρ x) :
  ev ρ' g=ev ρ g∧(cl.args.toList.map (ev ρ'))=cl.args.toList.map (ev ρ)∧(cl.args.toList.map fun x=>(fo (ev ρ' x)).2)=cl.args.toList.map fun x=>(fo (ev ρ x)).2:=by
 have h1:∀x ∈ cl.args.toList,ev ρ' x=ev ρ x:=fun x hx=>hag x (by simp only[Op.operands,Call.operands,Array.mem_append];exact .inr (by simpa using hx))
 exact⟨hag g (by simp [Op.operands,Call.operands,h0]),List.map_congr_left h1,List.map_congr_left fun x hx=>by rw[h1 x hx]⟩
theorem aqv_yields {o:Oper} {ρ:Env} {K:AV→Prop} (hd:dstOk C o) (hdef:∀c,o.op ≠ .defer c) (h:aqv C o ρ L K) :
  ∃x,K x∧∀ρ',(∀y ∈ o.op.operands,ev ρ' y=ev ρ y)→AOp C o ρ' L fun ρ'' L''=>ρ''=put ρ' o.dst x∧L''=L:=by
 unfold aqv at h
 split at h
 ·rename_i c x hv
  exact⟨x,h.2,fun ρ' hag=>aval_sound (by rw[aval_congr hag];exact hv) h.1 hd hdef⟩
 ·split at h
  ·rename_i cl ho
   split at h
   ·rename_i g h0
    obtain⟨r,h1,h2⟩:=h
    refine⟨r,h2,fun ρ' hag => ?_⟩
    rw[ho] at hag
    obtain⟨e1,e2,e3⟩:=call_congr h0 hag
    exact call_sound ho h0 hd (by rw[e1,e2,e3];exact⟨(h1 trivial).1.1,(h1 trivial).1.2,(h1 trivial).2⟩)
   ·exact h.elim
  ·rename_i t x ho
   split at h
   ·rename_i ti hti
    obtain⟨⟨h1,h2⟩,hK⟩:=h
    refine⟨_,hK,fun ρ' hag => ?_⟩
    rw[ho] at hag
    have hx:ev ρ' x=ev ρ x:=hag x (by simp [Op.operands])
    refine allocF_step hd hdef fun a w A hρ hL => ?_
    have hx':=hρ x;rw[hx] at hx'
    have hx':=fo_ok hx' h1
    obtain⟨E,hsz⟩:=ElemC.single hx' h2.2 h2.1
    have hB:BlkRel (w.alloc (.cells (a.eval x).cells t)) A w.heap.size (.row t ti.size [(fo (ev ρ x)).2] 1):=BlkRel.new E hL.abnd (by rw[hsz];simp) (by simp) (by simp [maxLen])
    refine⟨.cells (a.eval x).cells t,.pointer (some ⟨w.heap.size,0,none⟩),?_,?_⟩
    ·unfold execOp;rw[ho]
     simp [Instr.box,newVar,newRow]
    ·have h4:=rp_of_blk hB (A':=fun b=>A b∨b=w.heap.size) (.inr rfl) (fun _ h => .inl h) 0 0
     simpa using h4
   ·exact h.elim
  ·rename_i t len parts ho
   split at h
   ·rename_i e _ _ _ hti
    split at h
    ·rename_i ei hei
     obtain⟨⟨h1,h2,h3,h4,h5⟩,hK⟩:=h
     refine⟨_,hK,fun ρ' hag => ?_⟩
     rw[ho] at hag
     have hp:∀p ∈ parts.toList,ev ρ' p.2=ev ρ p.2:=fun p hp=>hag p.2 (by simp only[Op.operands,List.mem_toArray,List.mem_map];exact⟨p,hp,rfl⟩)
     refine allocF_step hd hdef fun a w A hρ hL => ?_
     obtain⟨d2,inf2,z2,hd2,hinf2,hz2,rfl⟩:=tinfo_inv hei
     dsimp only at *
     have hu:=tinfo_slice hti
     generalize hc0:(Array.range (len * inf2.size)).map (fun i=>z2.cells[i % z2.cells.size]!)=c0
     obtain⟨E,hcs⟩:=ElemC.made (w:=w) (A:=A) (z:=z2) rfl h4 len hc0.symm
     have hfos:fos ((parts.toList.map (·.2)).map (ev ρ')):=by
      rw[List.map_map,show (parts.toList.map (ev ρ' ∘ fun p=>p.2))=parts.toList.map fun p=>ev ρ p.2 from List.map_congr_left fun p hp'=>hp p hp'];exact h1
     have hh:=fos_ok (w:=w) (A:=A) hρ (parts.toList.map (·.2)) hfos
     have e1:(parts.toList.map fun p=>(p.1,(fo (ev ρ' p.2)).2))=(parts.toList.map fun p=>(p.1,(fo (ev ρ p.2)).2)):=List.map_congr_left fun p hp'=>by rw[hp p hp']
     obtain⟨oc,hf,E',hsz,hlen⟩:=fillEl_ok (w:=w) (A:=A) (k:=inf2.size) (parts.toList.map fun p=>(p.1,(fo (ev ρ p.2)).2)) (parts.map fun p=>(p.1,a.eval p.2)).toList (List.replicate len (zav z2)) c0
      (by simp [List.map_map,Function.comp_def]) (by
       rw[← e1];simpa [List.map_map,Function.comp_def] using hh) E (by simpa using hcs) (by simpa using h5)
     simp only[List.length_replicate] at hsz hlen
     generalize setAll (List.replicate len (zav z2)) (parts.toList.map fun p=>(p.1,(fo (ev ρ p.2)).2))=xs at *
     have hml:len≤maxLen:=by
      have:len * 1≤len * inf2.size:=Nat.mul_le_mul_left _ h3
      simp only[maxLen];omega
     have hB:BlkRel (w.alloc (.cells oc e)) A w.heap.size (.row e inf2.size xs len):=BlkRel.new E' hL.abnd hsz (by omega) hml
     refine⟨.cells oc e,.slice (some ⟨w.heap.size,0,none⟩) len len,?_,?_⟩
     ·unfold execOp;rw[ho]
      subst hc0
      have hr:=run_buildSlice (P:=C.P) (w:=w) hu hinf2 hz2 h2 hf
      simp only[Sem.run_bind,hr,Result.andThen_ok]
      rfl
     ·have h6:=sl_of_blk hB (A':=fun b=>A b∨b=w.heap.size) (.inr rfl) (fun _ h => .inl h) (off:=0) (n:=len) (cap':=len) (o:=0) (by omega) (Nat.le_refl _) hml (.inl (by simp))
      rwa [List.drop_zero,List.take_of_length_le (by omega)] at h6
    ·exact h.elim
   ·exact h.elim
  ·exact h.elim
theorem aq_yields {i:Nat} {o:Oper} {ρ:Env} {K:Env→Prop} (hi:ops[i]?=some o) (hok:operOk C.N o=true) (h:aq C ops.toList o ρ L K):∃x,Ylds C ops L i o x ρ∧K (put ρ o.dst x):=by
 have hd:=operOk_dst hok
 have hdef:=operOk_def hok
 unfold aq at h
 split at h
 ·rename_i hg
  obtain⟨x,hK,hy⟩:=aqv_yields hd hdef h
  exact⟨x,fun ρ' hag=>AOp.gop hi hg (hy ρ' (agree_ops hag)),hK⟩
 ·rename_i j want hg
  split at h
  ·rename_i b hv
   split at h
   ·rename_i c x ha
    refine⟨_,fun ρ' hag=>GOp.of_cond hi hg (by rw[agree_guard hag hg];exact hv) hd fun hb=>aval_sound (by rw[aval_congr (agree_ops hag)];exact ha) (h.1 hb) hd hdef,h.2⟩
   ·split at h
    ·rename_i cl ho
     split at h
     ·rename_i g h0
      obtain⟨r,h1,h2⟩:=h
      refine⟨_,fun ρ' hag=>GOp.of_cond hi hg (by rw[agree_guard hag hg];exact hv) hd fun hb => ?_,h2⟩
      have hag':=agree_ops hag
      rw[ho] at hag'
      obtain⟨e1,e2,e3⟩:=call_congr h0 hag'
      exact call_sound ho h0 hd (by rw[e1,e2,e3];exact⟨(h1 hb).1.1,(h1 hb).1.2,(h1 hb).2⟩)
     ·exact h.elim
    ·exact h.elim
  ·exact h.elim
theorem anyF_lex {Inv:Array Bool→Prop} {g:Nat} {K:Env→Prop} {B:Nat→Nat→Array Bool→Bool} {fin:Array Bool→Bool} (hok:ops.toList.all (operOk C.N)=true)
  (hset:∀listed j,Inv listed→j ∈ Region.ready md ops listed→j<n→Inv (listed.setIfInBounds j true))
  (hlt:∀listed i,i<n→Inv listed→i ∈ Region.ready md ops listed→∀j ∈ Region.ready md ops listed,j<n)
  (hB0:∀k listed,B 0 k listed=true→k=n→fin listed=true) (hBs:∀f k listed,B (f+1) k listed=true→(Region.ready md ops listed).contains k=true∧Region.free md ops listed k=true∧B f (k+1) (listed.setIfInBounds k true)=true)
  (hdone:∀listed,fin listed=true→∀j ∈ Region.ready md ops listed,n≤j) (_hg:g=0∨True) :
  ∀(l:List Oper) (k:Nat) (listed:Array Bool) (ρ:Env),(∀j,j<l.length→l[j]?=ops[k+j]?)→k+l.length=n→Inv listed→B l.length k listed=true→aquiet C ops.toList l ρ L K →
   anyF C md ops n L (fun listed' ρ'=>fin listed'=true∧K ρ') l.length listed ρ
 | [],k,listed,ρ,_,hk,_,hB,h=>⟨ρ,fun _=>rfl,hB0 k listed hB (by simpa using hk),h⟩
 | o :: l,k,listed,ρ,hl,hk,inv,hB,h=>by
  have h0:ops[k]?=some o:=by simpa using (hl 0 (by simp)).symm
  obtain⟨hr,hf,hB'⟩:=hBs _ _ _ hB
  have hkn:k<n:=by simp only[List.length_cons] at hk;omega
  have hr':k ∈ Region.ready md ops listed:=by simpa using hr
  have ho:operOk C.N o=true:=List.all_eq_true.1 hok o (List.mem_of_getElem? (by simpa using h0))
  obtain⟨x,hy,hK⟩:=aq_yields h0 ho h
  exact anyF_first h0 hset (fun listed hi hr=>hlt listed k hkn hi hr) (fun listed' ρ' hL=>hdone _ hL.1) l.length listed ρ inv (Region.free_spec h0 hf) hr' hy
   (anyF_lex hok hset hlt hB0 hBs hdone _hg l (k+1) _ _ (fun j hj=>by have:=hl (j+1) (by simp;omega);simpa [Nat.add_assoc,Nat.add_comm 1 j] using this) (by simp only[List.length_cons] at hk;omega) (hset _ _ inv hr' hkn) hB' hK)
theorem wpAnyIn_of_seq {m:Nat} {Q:Exit→Act→World→Prop} : ∀(l:List Oper) (k:Nat) (listed:Array Bool) (a:Act) (w:World),(∀j,l[j]?=ops[k+j]?) →
  Region.seqB md ops l.length k listed=true→wpOpsIn (Fw C.r) m C.P ops Q (List.range' k l.length) a w→wpAnyIn (Fw C.r) m C.P md ops Q l.length listed a w
 | [],_,_,_,_,_,hB,h=>⟨by simpa [Region.seqB] using hB,h⟩
 | o :: l,k,listed,a,w,hl,hB,h=>by
  simp only[List.length_cons,Region.seqB,Bool.and_eq_true,decide_eq_true_eq] at hB
  refine⟨fun h1=>(by rw[hB.1] at h1;cases h1),fun i hi => ?_⟩
  rw[hB.1] at hi
  have hik:i=k:=by simpa using hi
  subst hik
  rw[List.length_cons,List.range'_succ,wpOpsIn_cons] at h
  exact wpOpIn_mono (fun a' w' h'=>wpAnyIn_of_seq l (i+1) _ a' w' (fun j=>by have:=hl (j+1);simpa [Nat.add_assoc,Nat.add_comm 1 j] using this) hB.2 h') h
def dOk (ops:Array Oper) (n:Nat):Bool:=if n=ops.size then Region.lexB .any ops else Region.lexTailB .any ops n
theorem drawn_sound {K:ARes} {m:Nat} {w0:World} {M A0:Foot} {Q:Exit→Act→World→Prop} (hQ:∀a w,post w0 M A0 C.N K a w→Q .normal a w) (hok:ops.toList.all (operOk C.N)=true) (hB:dOk ops n=true)
  {ρ:Env} (h:aquiet C ops.toList (ops.toList.take n) ρ L fun ρ'=>aregion C ops.toList (ops.toList.drop n) ρ' L K) {a:Act} {w:World} (hs:St w0 M A0 C.N ρ L a w) :
  wpAnyIn (Fw C.r) m C.P .any ops Q ops.size (Array.replicate ops.size false) a w:=by
 unfold dOk at hB
 split at hB
 ·rename_i hn
  simp only[Region.lexB,Bool.and_eq_true] at hB
  have htl:(ops.toList.take n).length=ops.size:=by simp [hn]
  have H:=anyF_lex (md:=.any) (g:=0) (n:=n) (Inv:=fun _=>True) (B:=Region.lexFrom .any ops) (fin:=fun listed=>(Region.ready .any ops listed).isEmpty) hok (fun _ _ _ _ _=>trivial)
   (fun listed i _ _ _ j hj=>by rw[hn];obtain⟨_,o,ho,_⟩:=mem_ready.1 hj;exact(Array.getElem?_eq_some_iff.1 ho).1) (fun k listed h _=>h)
   (fun f k listed h=>by simp only[Region.lexFrom,Bool.and_eq_true] at h;exact⟨h.1.1,h.1.2,h.2⟩) (fun listed h j hj=>by rw[List.isEmpty_iff.1 h] at hj;cases hj) (.inl rfl)
   (ops.toList.take n) 0 _ ρ (fun j hj=>by simp [hn] at hj ⊢;rw[List.getElem?_take,if_pos hj];simp) (by simp [hn]) trivial (by rw[htl];exact hB.2) h
  have:=anyF_sound (g:=0) (m:=m) (Q:=Q) (fun listed ρ' a' w' hf hs'=>⟨List.isEmpty_iff.1 hf.1,by
   have h2:=hf.2
   rw[List.drop_of_length_le (by simp [hn])] at h2
   exact hQ a' w' ⟨ρ',L,h2,hs'⟩⟩) _ _ _ a w H hs
  rwa [htl,Nat.add_zero] at this
 ·simp only[Region.lexTailB,Bool.and_eq_true,decide_eq_true_eq] at hB
  obtain⟨⟨⟨⟨hsel,hn⟩,hsk⟩,hc⟩,hlex⟩:=hB
  have htl:(ops.toList.take n).length=n:=by simp;omega
  have hdl:(ops.toList.drop n).length=ops.size - n:=by simp
  have inv0:HeadInv .any ops n (Array.replicate ops.size false) :=
   ⟨by simp,fun j oj _ hl=>(by rw[getD_replicate_false] at hl;cases hl),fun t _ ht=>getD_in (by simpa using ht) (getD_replicate_false _ _)⟩
  have H:=anyF_lex (md:=.any) (g:=0) (n:=n) (Inv:=HeadInv .any ops n) (B:=fun f k listed=>Region.lexHead .any ops (ops.size - n) f k listed) (fin:=fun listed=>Region.seqB .any ops (ops.size - n) n listed) hok
   (fun listed j inv hj hjn=>inv.set hj hjn)
   (fun listed i hin inv hi j hj=>by
    rcases Nat.lt_or_ge j n with h|h
    ·exact h
    ·exact absurd hj (tail_waits hsk hc hn inv _ i rfl hin (mem_ready.1 hi).1 j h))
   (fun k listed h e=>by subst e;simpa [Region.lexHead] using h) (fun f k listed h=>by simp only[Region.lexHead,Bool.and_eq_true] at h;exact⟨h.1.1,h.1.2,h.2⟩) (fun listed h=>seqB_ready h) (.inl rfl)
   (ops.toList.take n) 0 _ ρ (fun j hj=>by rw[htl] at hj;rw[List.getElem?_take,if_pos hj];simp) (by rw[htl];simp) inv0 (by rw[htl];exact hlex) h
  have:=anyF_sound (g:=ops.size - n) (m:=m) (Q:=Q) (fun listed ρ' a' w' hf hs'=>by
   have:=wpAnyIn_of_seq (C:=C) (md:=.any) (m:=m) (Q:=Q) (ops.toList.drop n) n listed a' w' (fun j=>by simp [List.getElem?_drop]) (by rw[hdl];exact hf.1)
    (aregion_sound hQ hok _ n (fun j=>by simp [List.getElem?_drop]) ρ' L a' w' hf.2 hs')
   rwa [hdl] at this) _ _ _ a w H hs
  rw[htl,show n+(ops.size - n)=ops.size by omega] at this
  exact this
end
inductive OT where
 | done
 | step (i:Nat) (t r:OT)
def OT.alts:OT→List Nat
 | .done=>[]
 | .step i _ r=>i :: r.alts
def OT.isDone:OT→Bool
 | .done=>true
 | _=>false
def OT.ok (ops:Array Oper):OT→Nat→Array Bool→Bool
 | .done,_,_=>true
 | .step _ _ _,0,_=>false
 | .step i t r,f+1,listed=>(t.alts == Region.ready .any ops (listed.setIfInBounds i true)) && t.ok ops f (listed.setIfInBounds i true) && r.ok ops (f+1) listed
def OT.all (ops:Array Oper) (T:OT):Bool:=!T.isDone && (T.alts == Region.ready .any ops (Array.replicate ops.size false)) && T.ok ops ops.size (Array.replicate ops.size false)
def OT.ap (C:Cfg) (all:List Oper) (K:ARes):OT→Env→AHeap→Prop
 | .done,_,_=>True
 | .step i t r,ρ,L=>(match all[i]? with|some o=>astep C all o ρ L (fun ρ L=>if t.isDone then K ρ L else OT.ap C all K t ρ L)|none=>False)∧OT.ap C all K r ρ L
def OT.nx (C:Cfg) (all:List Oper) (K:ARes) (t:OT) (ρ:Env) (L:AHeap):Prop:=if t.isDone then K ρ L else OT.ap C all K t ρ L
theorem OT.ap_done (C:Cfg) (all:List Oper) (K:ARes) (ρ:Env) (L:AHeap):OT.ap C all K .done ρ L=True:=rfl
theorem OT.ap_step (C:Cfg) (all:List Oper) (K:ARes) (i:Nat) (t r:OT) (ρ:Env) (L:AHeap) :
  OT.ap C all K (.step i t r) ρ L=((match all[i]? with|some o=>astep C all o ρ L (OT.nx C all K t)|none=>False)∧OT.ap C all K r ρ L):=rfl
theorem OT.nx_done (C:Cfg) (all:List Oper) (K:ARes) (ρ:Env) (L:AHeap):OT.nx C all K .done ρ L=K ρ L:=rfl
theorem OT.nx_step (C:Cfg) (all:List Oper) (K:ARes) (i:Nat) (t r:OT) (ρ:Env) (L:AHeap):OT.nx C all K (.step i t r) ρ L=OT.ap C all K (.step i t r) ρ L:=rfl
theorem OT.sound {C:Cfg} {ops:Array Oper} {K:ARes} {n:Nat} {w0:World} {M A0:Foot} {Q:Exit→Act→World→Prop} (hQ:∀a w,post w0 M A0 C.N K a w→Q .normal a w) (hok:ops.toList.all (operOk C.N)=true) :
  ∀(T:OT) (f:Nat) (listed:Array Bool) (ρ:Env) (L:AHeap) (a:Act) (w:World),T.ok ops (f+1) listed=true→T.ap C ops.toList K ρ L→St w0 M A0 C.N ρ L a w →
   ∀j ∈ T.alts,wpOpIn (Fw C.r) n C.P ops Q j (wpAnyIn (Fw C.r) n C.P .any ops Q f (listed.setIfInBounds j true)) a w
 | .done,_,_,_,_,_,_,_,_,_=>fun j hj=>by cases hj
 | .step i t r,f,listed,ρ,L,a,w,h1,h2,hs=>fun j hj=>by
  simp only[OT.ok,Bool.and_eq_true,beq_iff_eq] at h1
  obtain⟨⟨ha,ht⟩,hr⟩:=h1
  rw[OT.ap_step] at h2
  rcases List.mem_cons.1 hj with rfl|hj
  ·cases h0:ops.toList[j]? with
   | none=>rw[h0] at h2;exact h2.1.elim
   | some o =>
    rw[h0] at h2
    have h0':ops[j]?=some o:=by simpa using h0
    refine wpOpIn_mono ?_ (astep_sound h0' (List.all_eq_true.1 hok o (List.mem_of_getElem? h0)) h2.1 n w0 M A0 a w Q hs)
    rintro a' w' ⟨ρ',L',hn,hs'⟩
    cases t with
    | done =>
     have hq:=hQ a' w' ⟨ρ',L',hn,hs'⟩
     have he:Region.ready .any ops (listed.setIfInBounds j true)=[]:=ha.symm
     cases f with
     | zero=>exact⟨he,hq⟩
     | succ f=>exact⟨fun _=>hq,fun k hk=>by rw[he] at hk;cases hk⟩
    | step i' t' r' =>
     cases f with
     | zero=>cases ht
     | succ f =>
      refine⟨fun he => ?_,fun k hk => ?_⟩
      ·rw[he] at ha;cases ha
      ·rw[← ha] at hk
       exact OT.sound hQ hok (.step i' t' r') f _ ρ' L' a' w' ht hn hs' k hk
  ·exact OT.sound hQ hok r f listed ρ L a w hr h2.2 hs j hj
theorem OT.top {C:Cfg} {ops:Array Oper} {K:ARes} {n:Nat} {w0:World} {M A0:Foot} {Q:Exit→Act→World→Prop} (hQ:∀a w,post w0 M A0 C.N K a w→Q .normal a w) (hok:ops.toList.all (operOk C.N)=true) (T:OT) (hT:T.all ops=true)
  {ρ:Env} {L:AHeap} {a:Act} {w:World} (h:T.ap C ops.toList K ρ L) (hs:St w0 M A0 C.N ρ L a w):wpAnyIn (Fw C.r) n C.P .any ops Q ops.size (Array.replicate ops.size false) a w:=by
 simp only[OT.all,Bool.and_eq_true,Bool.not_eq_true',beq_iff_eq] at hT
 obtain⟨⟨h1,h2⟩,h3⟩:=hT
 cases T with
 | done=>cases h1
 | step i t r =>
  generalize hf:ops.size=f at *
  cases f with
  | zero=>cases h3
  | succ f =>
   refine⟨fun he => ?_,fun k hk => ?_⟩
   ·rw[he] at h2;cases h2
   ·rw[← h2] at hk
    exact OT.sound hQ hok _ f _ ρ L a w h3 h hs k hk
end Go.AL
end
section
namespace Go.AL
open Go Go.RowKit
def codeOk (N:Nat):Code→Bool
 | .region _ ops _=>ops.toList.all (operOk N)
 | .seq a b=>codeOk N a && codeOk N b
 | .cond _ a b=>codeOk N a && codeOk N b
 | .block _ c=>codeOk N c
 | .loop c=>codeOk N c
 | .scope c=>codeOk N c
 | .rangeFunc _ ps a b=>ps.toList.all (fun p=>decide (p<N)) && codeOk N a && codeOk N b
 | _=>true
abbrev AQ:=Exit→Env→AHeap→Prop
def cq (C:Cfg) (w0:World) (M A0:Foot) (Q:AQ):Exit→Act→World→Prop:=fun e a w=>∃ρ L,Q e ρ L∧St w0 M A0 C.N ρ L a w
def AWp (C:Cfg) (c:Code) (Q:AQ) (ρ:Env) (L:AHeap):Prop :=
 codeOk C.N c=true→∀n w0 M A0 a w,St w0 M A0 C.N ρ L a w→c.wpIn (Fw C.r) n C.P (cq C w0 M A0 Q) a w
def thenQ (next:ARes) (Q:AQ):AQ
 | .normal,ρ,L=>next ρ L
 | e,ρ,L=>Q e ρ L
def blockQ (id:Nat) (Q:AQ):AQ
 | .exit id',ρ,L=>if id'=id then Q .normal ρ L else Q (.exit id') ρ L
 | e,ρ,L=>Q e ρ L
def noGotoQ (Q:AQ):AQ
 | .goto _,_,_=>False
 | e,ρ,L=>Q e ρ L
section
variable {C:Cfg} {Q:AQ} {ρ:Env} {L:AHeap}
theorem AWp.mono {c:Code} {Q':AQ} (h:AWp C c Q ρ L) (hq:∀e ρ L,Q e ρ L→Q' e ρ L):AWp C c Q' ρ L :=
 fun hok n w0 M A0 a w hs=>wpIn_mono (h hok n w0 M A0 a w hs) fun _ _ _ ⟨ρ',L',h1,h2⟩=>⟨ρ',L',hq _ _ _ h1,h2⟩
theorem AWp.st {c:Code} {ρ':Env} {L':AHeap} (hst:∀w0 M A0 a w,St w0 M A0 C.N ρ L a w→St w0 M A0 C.N ρ' L' a w) (h:AWp C c Q ρ' L'):AWp C c Q ρ L :=
 fun hok n w0 M A0 a w hs=>h hok n w0 M A0 a w (hst _ _ _ _ _ hs)
theorem AWp.seq {a b:Code} (h:AWp C a (thenQ (AWp C b Q) Q) ρ L):AWp C (.seq a b) Q ρ L:=fun hok n w0 M A0 x w hs=>by
 simp only[codeOk,Bool.and_eq_true] at hok
 refine wpIn_seq (wpIn_mono (h hok.1 n w0 M A0 x w hs) ?_)
 rintro e a' w' ⟨ρ',L',h1,h2⟩
 cases e with
 | normal=>exact h1 hok.2 n w0 M A0 a' w' h2
 | _=>exact⟨ρ',L',h1,h2⟩
theorem AWp.cond {c:Operand} {x y:Code} {t:Bool} (hc:ev ρ c = .v (.bool t)) (h1:t=true→AWp C x Q ρ L) (h2:t=false→AWp C y Q ρ L):AWp C (.cond c x y) Q ρ L:=fun hok n w0 M A0 a w hs=>by
 simp only[codeOk,Bool.and_eq_true] at hok
 obtain⟨A,ds,hs'⟩:=st_iff.1 hs
 have hv:=hs'.ev c
 rw[hc] at hv
 exact wpIn_cond_split hv.inv_v (fun ht=>h1 ht hok.1 n w0 M A0 a w hs) (fun ht=>h2 ht hok.2 n w0 M A0 a w hs)
theorem AWp.block {id:Nat} {c:Code} (h:AWp C c (blockQ id Q) ρ L):AWp C (.block id c) Q ρ L:=fun hok n w0 M A0 a w hs=>by
 refine wpIn_block (wpIn_mono (h hok n w0 M A0 a w hs) ?_)
 rintro e a' w' ⟨ρ',L',h1,h2⟩
 cases e with
 | exit id' =>
  simp only[blockQ] at h1
  simp only[Exit.inBlock]
  split at h1
  ·rename_i e;rw[if_pos e];exact⟨ρ',L',h1,h2⟩
  ·rename_i e;rw[if_neg e];exact⟨ρ',L',h1,h2⟩
 | _=>exact⟨ρ',L',h1,h2⟩
theorem AWp.region {id:Nat} {ops:Array Oper} (h:aregion C ops.toList ops.toList ρ L (Q .normal)):AWp C (.region id ops false) Q ρ L:=fun hok n w0 M A0 a w hs=>by
 refine wpIn_region ?_
 have:=aregion_sound (C:=C) (ops:=ops) (K:=Q .normal) (n:=n) (Q:=cq C w0 M A0 Q) (fun a w ⟨ρ',L',h1,h2⟩=>⟨ρ',L',h1,h2⟩) hok ops.toList 0 (by simp) ρ L a w h hs
 rwa [Array.length_toList,← List.range_eq_range'] at this
theorem AWp.drawn {id:Nat} {ops:Array Oper} (hm:C.P.follows .mixedOrders=true) (m:Nat) (hB:dOk ops m=true)
  (h:aquiet C ops.toList (ops.toList.take m) ρ L (aregD C ops.toList (ops.toList.drop m) L (Q .normal))):AWp C (.region id ops true) Q ρ L:=fun hok n w0 M A0 a w hs=>by
 refine wpIn_region_any hm ?_
 obtain⟨A,ds,hs'⟩:=st_iff.1 hs
 exact drawn_sound (C:=C) (ops:=ops) (K:=Q .normal) (fun a w ⟨ρ',L',h1,h2⟩=>⟨ρ',L',h1,h2⟩) hok hB h (st_iff.2 ⟨A,ds,hs'.drew⟩)
theorem AWp.drawnT {id:Nat} {ops:Array Oper} (hm:C.P.follows .mixedOrders=true) (T:OT) (hT:T.all ops=true) (h:T.ap C ops.toList (Q .normal) ρ L):AWp C (.region id ops true) Q ρ L:=fun hok n w0 M A0 a w hs=>by
 refine wpIn_region_any hm ?_
 obtain⟨A,ds,hs'⟩:=st_iff.1 hs
 exact OT.top (C:=C) (ops:=ops) (K:=Q .normal) (fun a w ⟨ρ',L',h1,h2⟩=>⟨ρ',L',h1,h2⟩) hok T hT h (st_iff.2 ⟨A,ds,hs'.drew⟩)
theorem stepR_scope {P:Program} {b:Frame} {a:Act} {k:List Item} {cs:List Frame} {w:World} {c:Code} : step P (lone (b.atR a (.code (.scope c) :: k)) cs w) = .next (lone (b.atR a (.code c :: .inScope c :: k)) cs w) :=
 step_lone_go (by simp [stepG,stepG.exec,Frame.atR])
theorem stepR_inScope {P:Program} {b:Frame} {a:Act} {k:List Item} {cs:List Frame} {w:World} {c:Code} : step P (lone (b.atR a (.inScope c :: k)) cs w) = .next (lone (b.atR a k) cs w) :=
 step_lone_go (by simp [stepG,stepG.exec,Frame.atR])
theorem AWp.scope {c:Code} (h:AWp C c (noGotoQ Q) ρ L):AWp C (.scope c) Q ρ L:=fun hok n w0 M A0 a w hs=>by
 intro b k cs hro hb hr
 obtain⟨e,a₁,w₁,⟨ρ',L',hq,hs'⟩,harr⟩:=h hok n w0 M A0 a w hs b (.inScope c :: k) cs hro hb hr
 have h0:(lone (b.atR a (.code (.scope c) :: k)) cs w).fenced C.P (Fw C.r):=fenced_calm hb hr rfl
 cases e with
 | normal=>exact⟨.normal,a₁,w₁,⟨ρ',L',hq,hs'⟩,.head h0 stepR_scope (StepsIn.trans harr (.one (fenced_calm (fr:=b.atR a₁ (.inScope c :: k)) hb hr rfl) stepR_inScope))⟩
 | exit id =>
  refine⟨.exit id,a₁,w₁,⟨ρ',L',hq,hs'⟩,fun k' hk => .head h0 stepR_scope (harr.1 k' (by simp [exitTo,hk])),fun hr' hk => ?_⟩
  obtain⟨k₁,hk1,hs1⟩:=harr.2 hr' (by simp [exitTo,hk])
  exact⟨k₁,hk1,.head h0 stepR_scope hs1⟩
 | goto l=>exact hq.elim
 | ret=>exact⟨_,a₁,w₁,⟨ρ',L',hq,hs'⟩,.of_steps (.one h0 stepR_scope) harr⟩
 | panic ch=>exact⟨_,a₁,w₁,⟨ρ',L',hq,hs'⟩,.of_steps (.one h0 stepR_scope) harr⟩
 | outgrown=>exact⟨_,a₁,w₁,⟨ρ',L',hq,hs'⟩,.of_steps (b:=b) (k:=k) (cs:=cs) (e:=.outgrown) (.one h0 stepR_scope) harr⟩
end
def awp1 (C:Cfg):Code→AQ→Env→AHeap→Prop
 | .skip,Q,ρ,L=>Q .normal ρ L
 | .label _,Q,ρ,L=>Q .normal ρ L
 | .region _ ops false,Q,ρ,L=>aregion C ops.toList ops.toList ρ L (Q .normal)
 | .seq a b,Q,ρ,L=>awp1 C a (thenQ (AWp C b Q) Q) ρ L
 | .cond c x y,Q,ρ,L=>match ev ρ c with
  | .v (.bool t)=>(t=true→awp1 C x Q ρ L)∧(t=false→awp1 C y Q ρ L)
  | _=>False
 | .block id c,Q,ρ,L=>awp1 C c (blockQ id Q) ρ L
 | .exit id,Q,ρ,L=>Q (.exit id) ρ L
 | .ret,Q,ρ,L=>Q .ret ρ L
 | .goto l,Q,ρ,L=>Q (.goto l) ρ L
 | .scope c,Q,ρ,L=>awp1 C c (noGotoQ Q) ρ L
 | c,Q,ρ,L=>AWp C c Q ρ L
theorem AWp.of {C:Cfg} : ∀ {c:Code} {Q:AQ} {ρ:Env} {L:AHeap},awp1 C c Q ρ L→AWp C c Q ρ L
 | .skip,Q,ρ,L,h=>fun _ n w0 M A0 a w hs=>wpIn_skip ⟨ρ,L,h,hs⟩
 | .label _,Q,ρ,L,h=>fun _ n w0 M A0 a w hs=>wpIn_label ⟨ρ,L,h,hs⟩
 | .region _ ops false,Q,ρ,L,h=>AWp.region h
 | .region _ ops true,Q,ρ,L,h=>h
 | .seq a b,Q,ρ,L,h=>AWp.seq (AWp.of (c:=a) h)
 | .cond c x y,Q,ρ,L,h=>by
  unfold awp1 at h
  split at h
  ·rename_i t hc;exact AWp.cond hc (fun ht=>AWp.of (c:=x) (h.1 ht)) (fun ht=>AWp.of (c:=y) (h.2 ht))
  ·exact h.elim
 | .block id c,Q,ρ,L,h=>AWp.block (AWp.of (c:=c) h)
 | .exit id,Q,ρ,L,h=>fun _ n w0 M A0 a w hs=>wpIn_exit ⟨ρ,L,h,hs⟩
 | .ret,Q,ρ,L,h=>fun _ n w0 M A0 a w hs=>wpIn_ret ⟨ρ,L,h,hs⟩
 | .goto l,Q,ρ,L,h=>fun _ n w0 M A0 a w hs=>wpIn_goto ⟨ρ,L,h,hs⟩
 | .scope c,Q,ρ,L,h=>AWp.scope (AWp.of (c:=c) h)
 | .loop c,Q,ρ,L,h=>h
 | .rangeFunc _ _ _ _,Q,ρ,L,h=>h
 | .refuse _,Q,ρ,L,h=>h
def calm1:Code→Bool
 | .region _ _ d => !d
 | .seq a _=>calm1 a
 | .cond _ _ _=>true
 | .block _ c=>calm1 c
 | .scope c=>calm1 c
 | .loop _=>false
 | .rangeFunc _ _ _ _=>false
 | _=>true
theorem AWp.ofC {C:Cfg} {c:Code} {Q:AQ} {ρ:Env} {L:AHeap} (_h:calm1 c=true) (h:awp1 C c Q ρ L):AWp C c Q ρ L:=AWp.of h
theorem st_sub {w0:World} {M A0:Foot} {N:Nat} {ρ:Env} {L L':AHeap} {a:Act} {w:World} (h:St w0 M A0 N ρ L a w) (hs:L'.Sublist L):St w0 M A0 N ρ L' a w:=by
 obtain⟨A,ds,h⟩:=st_iff.1 h
 exact st_iff.2 ⟨A,ds,h.sub hs⟩
theorem st_forget {w0:World} {M A0:Foot} {N:Nat} {ρ ρ':Env} {L:AHeap} {a:Act} {w:World} (h:St w0 M A0 N ρ L a w) (hs:∀i,get ρ' i = .any∨get ρ' i=get ρ i):St w0 M A0 N ρ' L a w :=
 st_env h fun i A u hr=>by
  rcases hs i with e|e
  ·rw[e];exact .any _
  ·rw[e];exact hr
def keep (ks:List Nat) (ρ:Env):Env:=ks.map fun k=>(k,get ρ k)
theorem get_keep (ks:List Nat) (ρ:Env) (i:Nat):get (keep ks ρ) i = .any∨get (keep ks ρ) i=get ρ i:=by
 induction ks with
 | nil=>exact .inl rfl
 | cons k ks ih =>
  simp only[keep,List.map_cons,get]
  split
  ·rename_i e;subst e;exact .inr rfl
  ·exact ih
theorem get_append (ρ1 ρ2:Env) (i:Nat):get (ρ1 ++ ρ2) i=if i ∈ ρ1.map (·.1) then get ρ1 i else get ρ2 i:=by
 induction ρ1 with
 | nil=>simp
 | cons p r ih =>
  obtain⟨j,x⟩:=p
  simp only[List.cons_append,get,List.map_cons,List.mem_cons]
  by_cases h:i=j
  ·simp [h]
  ·rw[if_neg h,ih];simp only[h,false_or,if_false]
def roundQ (ls ks:List Nat) (ρ0:Env) (J:List AV→AHeap→Prop) (Q:AQ):AQ
 | .normal,ρ,L=>ks.map (get ρ)=ks.map (get ρ0)∧∃L',L'.Sublist L∧J (ls.map (get ρ)) L'
 | e,ρ,L=>Q e ρ L
def lenv (ls ks:List Nat) (vs:List AV) (ρ0:Env):Env:=keep ks ρ0 ++ ls.zip vs
theorem get_zip (ls:List Nat) (ρ:Env) (i:Nat):get (ls.zip (ls.map (get ρ))) i = .any∨get (ls.zip (ls.map (get ρ))) i=get ρ i:=by
 induction ls with
 | nil=>exact .inl rfl
 | cons k ks ih =>
  simp only[List.map_cons,List.zip_cons_cons,get]
  split
  ·rename_i e;subst e;exact .inr rfl
  ·exact ih
theorem get_lenv (ls ks:List Nat) (ρ ρ0:Env) (h:ks.map (get ρ)=ks.map (get ρ0)) (i:Nat):get (lenv ls ks (ls.map (get ρ)) ρ0) i = .any∨get (lenv ls ks (ls.map (get ρ)) ρ0) i=get ρ i:=by
 have hk:keep ks ρ0=keep ks ρ:=by
  unfold keep
  induction ks with
  | nil=>rfl
  | cons k ks ih=>simp only[List.map_cons,List.cons.injEq] at h ⊢;exact⟨by rw[h.1],ih h.2⟩
 unfold lenv
 rw[hk,get_append]
 split
 ·exact get_keep ks ρ i
 ·exact get_zip ls ρ i
theorem least {p:Nat→Prop} (h:∃m,p m):∃m,p m∧∀k,p k→m≤k:=by
 obtain⟨m,hm⟩:=h
 induction m using Nat.strongRecOn with
 | _ m ih =>
  by_cases h:∃k,k<m∧p k
  ·obtain⟨k,hk,hp⟩:=h;exact ih k hk hp
  ·exact⟨m,hm,fun k hk=>Nat.le_of_not_lt fun hlt=>h ⟨k,hlt,hk⟩⟩
theorem AWp.loop {C:Cfg} {c:Code} {Q:AQ} {ρ:Env} {L:AHeap} (ls ks:List Nat) (I:List AV→AHeap→Prop) (μ:List AV→AHeap→Nat) (h0:I (ls.map (get ρ)) L)
  (round:∀vs L',vs.length=ls.length→I vs L'→AWp C c (roundQ ls ks ρ (fun vs' L''=>I vs' L''∧μ vs' L''<μ vs L') Q) (lenv ls ks vs ρ) L'):AWp C (.loop c) Q ρ L:=by
 intro hok n w0 M A0 a w hs
 let W:Act→World→Nat→Prop:=fun a w m=>∃vs L',vs.length=ls.length∧I vs L'∧St w0 M A0 C.N (lenv ls ks vs ρ) L' a w∧μ vs L'=m
 open Classical in
 let μ':Act→World→Nat:=fun a w=>if h:∃m,W a w m then Classical.choose (least h) else 0
 refine wpIn_loop (fun a w=>∃m,W a w m) μ' ⟨_,_,_,by simp,h0,st_forget hs (get_lenv ls ks ρ ρ rfl),rfl⟩ ?_
 rintro a w hI
 have hμ:μ' a w=Classical.choose (least hI):=dif_pos hI
 obtain⟨vs,L',hl,hi,hs',hm⟩:=(Classical.choose_spec (least hI)).1
 refine wpIn_mono (round vs L' hl hi hok n w0 M A0 a w hs') ?_
 rintro e a' w' ⟨ρ',L'',h1,h2⟩
 cases e with
 | normal =>
  obtain⟨hk,L3,hsub,hI3,hlt⟩:=h1
  have hW:W a' w' (μ (ls.map (get ρ')) L3):=⟨_,L3,by simp,hI3,st_sub (st_forget h2 (get_lenv ls ks ρ' ρ hk)) hsub,rfl⟩
  refine⟨⟨_,hW⟩,?_⟩
  have h3:μ' a' w'=Classical.choose (least ⟨_,hW⟩):=dif_pos ⟨_,hW⟩
  rw[h3,hμ,← hm]
  exact Nat.lt_of_le_of_lt ((Classical.choose_spec (least ⟨_,hW⟩)).2 _ hW) hlt
 | _=>exact⟨ρ',L'',h1,h2⟩
def rangeQ (id s k:Nat) (ls ks:List Nat) (ρ0:Env) (J:List AV→AHeap→Prop) (Q:AQ):AQ
 | .normal,ρ,L=>get ρ s=ai k∧ks.map (get ρ)=ks.map (get ρ0)∧∃L',L'.Sublist L∧J (ls.map (get ρ)) L'
 | .exit id',ρ,L=>if id'=id then Q .normal ρ L else Q (.exit id') ρ L
 | e,ρ,L=>Q e ρ L
theorem AWp.range {C:Cfg} {id i1 i2 t s n t2:Nat} {ty1 ty2 ty3 ty4 r1 r2 r3:TypeId} {p1 p2 p3:String} {a1 a2 a3:Array Edge} {body:Code} {Q:AQ} {ρ:Env} {L:AHeap}
  (m:Nat) (ls ks:List Nat) (I:Nat→List AV→AHeap→Prop) (hm:m≤9223372036854775806) (hs:get ρ s=ai 0) (hn:get ρ n=ai m) (hnk:n ∈ ks) (hsk:s ∉ ks) (hsl:s ∉ ls) (hts:t ≠ s) (htk:t ∉ ks) (h2k:t2 ∉ ks) (htl:t ∉ ls) (h2l:t2 ∉ ls)
  (h0:I 0 (ls.map (get ρ)) L)
  (round:∀k vs L',k<m→vs.length=ls.length→I k vs L'→AWp C body (rangeQ id s k ls ks ρ (I (k+1)) Q) ((s,ai k) :: lenv ls ks vs ρ) L')
  (done:∀vs L',vs.length=ls.length→I m vs L'→Q .normal ((s,ai m) :: lenv ls ks vs ρ) L') :
  AWp C (.block id (.loop (.seq (.region i1 #[⟨some t,.binOp .lss ty1 (.tmp s) (.tmp n) ty2,r1,p1,a1,none⟩] false) (.seq (.cond (.tmp t) .skip (.exit id)) (.seq body
   (.region i2 #[⟨some t2,.binOp .add ty3 (.tmp s) (.const (.int .i64 1)) ty4,r2,p2,a2,none⟩,⟨some s,.move (.tmp t2),r3,p3,a3,none⟩] false)))))) Q ρ L:=by
 have hnl:∀vs:List AV,vs.length=ls.length→get (lenv ls ks vs ρ) n=ai m:=fun vs _=>by
  unfold lenv
  have hin:n ∈ (keep ks ρ).map (·.1):=by simp [keep,hnk]
  rw[get_append,if_pos hin]
  rcases get_keep ks ρ n with e|e
  ·have:∀l:List Nat,n ∈ l→get (keep l ρ) n=get ρ n:=fun l=>by
    induction l with
    | nil=>intro h;cases h
    | cons x r ih =>
     intro h
     simp only[keep,List.map_cons,get]
     split
     ·rename_i e;rw[e]
     ·rename_i e;exact ih ((List.mem_cons.1 h).resolve_left e)
   rw[this ks hnk,hn]
  ·rw[e,hn]
 have hns:n ≠ s:=fun e=>hsk (e ▸ hnk)
 have dropT:∀(k:Nat) (vs:List AV) (x:AV) (i:Nat),get ((s,ai k) :: lenv ls ks vs ρ) i = .any∨get ((s,ai k) :: lenv ls ks vs ρ) i=get ((t,x) :: (s,ai k) :: lenv ls ks vs ρ) i:=fun k vs x i=>by
  by_cases hi:i=t
  ·subst hi
   refine .inl ?_
   simp only[get,if_neg hts,lenv]
   rw[get_append,if_neg (by simp [keep,htk])]
   have:∀(l:List Nat) (v:List AV),i ∉ l→get (l.zip v) i = .any:=fun l=>by
    induction l with
    | nil=>intro v _;rfl
    | cons x r ih =>
     intro v h
     cases v with
     | nil=>rfl
     | cons y v =>
      simp only[List.zip_cons_cons,get]
      rw[if_neg (by rintro rfl;exact h List.mem_cons_self)]
      exact ih v (fun hh=>h (List.mem_cons_of_mem _ hh))
   exact this ls vs htl
  ·exact .inr (by simp [get,hi])
 refine AWp.block (AWp.loop (s :: ls) ks (fun vs' L'=>∃(k:Nat) (vs:List AV),vs'=ai (k:Int) :: vs∧k≤m∧I k vs L') (fun vs' _=>match vs' with | .v (.int _ k) :: _=>m - k.toNat|_=>0)
  ⟨0,_,by simp [hs],Nat.zero_le _,h0⟩ ?_)
 rintro vs' L' hl ⟨k,vs,rfl,hk,hI⟩
 have hvl:vs.length=ls.length:=by simpa using hl
 -- the counter first
 refine AWp.st (ρ':=(s,ai k) :: lenv ls ks vs ρ) (L':=L') (fun w0 M A0 a w h=>st_forget h fun i => ?_) ?_
 ·by_cases hi:i=s
  ·subst hi
   refine .inr ?_
   simp only[get,if_true,lenv]
   rw[get_append,if_neg (by simp [keep,hsk])]
   simp [get]
  ·refine .inr ?_
   simp only[get,if_neg hi,lenv,List.zip_cons_cons]
   rw[get_append,get_append]
   split
   ·rfl
   ·simp [get,hi]
 have hget_s:get ((s,ai k) :: lenv ls ks vs ρ) s=ai k:=by simp [get]
 have hget_n:get ((s,ai k) :: lenv ls ks vs ρ) n=ai m:=by simp only[get,if_neg hns];exact hnl vs hvl
 refine AWp.seq (AWp.region ?_)
 simp only[aregion,astep,aop,aval,ev,hget_s,hget_n,w2,fo,aEq,aBin,thenQ,put]
 refine⟨by simp,?_⟩
 refine AWp.seq (AWp.cond (t:=decide ((k:Int)<m)) (by simp [ev,get]) (fun ht => ?_) (fun hf => ?_))
 ·have hlt:k<m:=by simpa using ht
  refine AWp.of ?_
  simp only[awp1,thenQ]
  refine AWp.st (ρ':=(s,ai k) :: lenv ls ks vs ρ) (L':=L') (fun w0 M A0 a w h=>st_forget h (dropT k vs _)) ?_
  refine AWp.seq ((round k vs L' hlt hvl hI).mono ?_)
  intro e ρ' L'' hq
  cases e with
  | normal =>
   obtain⟨g1,g2,L3,g3,g4⟩:=hq
   simp only[thenQ]
   refine AWp.region ?_
   have hi64:I64 ((k:Int)+1):=by unfold I64;omega
   simp only[aregion,astep,aop,aval,ev,g1,w2,fo,aEq,aBin,put,if_true,get]
   refine⟨⟨⟨trivial,trivial⟩,trivial,hi64⟩,trivial,?_⟩
   simp only[roundQ]
   have hks:ks.map (get ((s,ai ((k:Int)+1)) :: (t2,ai ((k:Int)+1)) :: ρ'))=ks.map (get ρ'):=List.map_congr_left fun j hj=>by
    simp only[get];rw[if_neg (by rintro rfl;exact hsk hj),if_neg (by rintro rfl;exact h2k hj)]
   have hls:ls.map (get ((s,ai ((k:Int)+1)) :: (t2,ai ((k:Int)+1)) :: ρ'))=ls.map (get ρ'):=List.map_congr_left fun j hj=>by
    simp only[get];rw[if_neg (by rintro rfl;exact hsl hj),if_neg (by rintro rfl;exact h2l hj)]
   refine⟨by rw[hks];exact g2,L3,g3,⟨k+1,_,?_,hlt,g4⟩,?_⟩
   ·rw[List.map_cons,hls]
    simp only[get,if_true]
    rfl
   ·simp only[List.map_cons,get,if_true]
    have:((k:Int)+1).toNat=k+1:=by omega
    simp only[this,Int.toNat_natCast]
    omega
  | exit id'=>simpa [thenQ,roundQ,blockQ,rangeQ] using hq
  | goto l=>exact hq
  | ret=>exact hq
  | panic c=>exact hq
  | outgrown=>exact hq
 ·have hkm:k=m:=by have:¬((k:Int)<m):=by simpa using hf
                   omega
  subst hkm
  refine AWp.st (ρ':=(s,ai k) :: lenv ls ks vs ρ) (L':=L') (fun w0 M A0 a w h=>st_forget h (dropT k vs _)) (AWp.of ?_)
  simp only[awp1,thenQ,roundQ,blockQ,if_true]
  exact done vs L' hvl hI
end Go.AL
end
section
namespace Go.AL
open Go Go.RowKit
inductive Vw (L:AHeap):AV→AV→Prop
 | refl (a:AV):Vw L a a
 | nil (k:Nat):Vw L (.v (.slice none 0 0)) (.sl k [])
 | ls {b k off len c:Nat} {t:TypeId} {xs xs':List AV} {cap:Nat} (h:lk L b=some (.row t k xs cap)) (hl:off+len≤xs.length) (hn:xs'.length=((xs.drop off).take len).length)
   (hv:∀(i:Nat) x y,((xs.drop off).take len)[i]?=some x→xs'[i]?=some y→Vw L x y):Vw L (.ls b k off len c) (.sl k xs')
 | lp {b k i j:Nat} {t:TypeId} {xs xs':List AV} {cap:Nat} (h:lk L b=some (.row t k xs cap)) (hn:xs'.length=xs.length) (hv:∀(i:Nat) x y,xs[i]?=some x→xs'[i]?=some y→Vw L x y):Vw L (.lp b k i j) (.rp k xs' i j)
 | sl {k:Nat} {xs xs':List AV} (hn:xs'.length=xs.length) (hv:∀(i:Nat) x y,xs[i]?=some x→xs'[i]?=some y→Vw L x y):Vw L (.sl k xs) (.sl k xs')
 | rp {k i j:Nat} {xs xs':List AV} (hn:xs'.length=xs.length) (hv:∀(i:Nat) x y,xs[i]?=some x→xs'[i]?=some y→Vw L x y):Vw L (.rp k xs i j) (.rp k xs' i j)
 | agg {xs xs':List AV} (hn:xs'.length=xs.length) (hv:∀(i:Nat) x y,xs[i]?=some x→xs'[i]?=some y→Vw L x y):Vw L (.agg xs) (.agg xs')
 | tup {xs xs':List AV} (hn:xs'.length=xs.length) (hv:∀(i:Nat) x y,xs[i]?=some x→xs'[i]?=some y→Vw L x y):Vw L (.tup xs) (.tup xs')
 | clo {f:FuncId} {xs xs':List AV} (hn:xs'.length=xs.length) (hv:∀(i:Nat) x y,xs[i]?=some x→xs'[i]?=some y→Vw L x y):Vw L (.clo f xs) (.clo f xs')
 | fn (f:FuncId):Vw L (.v (.func (.func f) #[] #[])) (.clo f [])
 | lm {b:Nat} {ks:List Value} {vs vs':List AV} (h:lk L b=some (.amap ks vs)) (hn:vs'.length=vs.length) (hv:∀(i:Nat) x y,vs[i]?=some x→vs'[i]?=some y→Vw L x y):Vw L (.lm b) (.rm ks vs')
def Vws (L:AHeap) (xs xs':List AV):Prop:=xs'.length=xs.length∧∀(i:Nat) x y,xs[i]?=some x→xs'[i]?=some y→Vw L x y
theorem Vws.refl {L:AHeap} (xs:List AV):Vws L xs xs:=⟨rfl,fun i x y h1 h2=>by rw[h1] at h2;cases h2;exact .refl _⟩
theorem Vws.nil {L:AHeap} : Vws L [] []:=Vws.refl []
theorem Vws.cons {L:AHeap} {x y:AV} {xs ys:List AV} (h:Vw L x y) (hs:Vws L xs ys):Vws L (x :: xs) (y :: ys) :=
 ⟨by simp [hs.1],fun i a b ha hb=>by
  cases i with
  | zero=>simp at ha hb;subst ha;subst hb;exact h
  | succ i=>exact hs.2 i a b (by simpa using ha) (by simpa using hb)⟩
theorem Vw.ofLs {L:AHeap} {b k len c:Nat} {t:TypeId} {xs:List AV} {cap:Nat} (h:lk L b=some (.row t k xs cap)) (hl:len=xs.length):Vw L (.ls b k 0 len c) (.sl k xs) :=
 have e:(xs.drop 0).take len=xs:=by rw[List.drop_zero,hl,List.take_length]
 .ls h (by omega) (by rw[e]) (by rw[e];exact(Vws.refl xs).2)
theorem Vw.ofLp {L:AHeap} {b k i j:Nat} {t:TypeId} {xs:List AV} {cap:Nat} (h:lk L b=some (.row t k xs cap)):Vw L (.lp b k i j) (.rp k xs i j) :=
 .lp h rfl (fun i x y h1 h2=>by rw[h1] at h2;cases h2;exact .refl _)
theorem Vw.mkTup {L:AHeap} {xs xs':List AV} (h:Vws L xs xs'):Vw L (.tup xs) (.tup xs'):=.tup h.1 h.2
theorem Vw.mkAgg {L:AHeap} {xs xs':List AV} (h:Vws L xs xs'):Vw L (.agg xs) (.agg xs'):=.agg h.1 h.2
theorem Vw.mkSl {L:AHeap} {k:Nat} {xs xs':List AV} (h:Vws L xs xs'):Vw L (.sl k xs) (.sl k xs'):=.sl h.1 h.2
theorem Vw.el {L:AHeap} {a a':AV} (h:Vw L a a'):a'.cells.length=a.cells.length∧(one a=true→one a'=true)∧(okv a=true→okv a'=true):=by
 induction h with
 | agg hn hv ih =>
  refine⟨hn,fun h=>by simp [one] at h,fun h=>List.all_eq_true.2 fun c' hc' => ?_⟩
  obtain⟨i,hi⟩:=List.getElem?_of_mem hc'
  have hlt:=(List.getElem?_eq_some_iff.1 hi).1
  have hx:=List.getElem?_eq_getElem (show i<_ from hn ▸ hlt)
  exact(ih i _ _ hx hi).2.1 (List.all_eq_true.1 h _ (List.mem_of_getElem? hx))
 | tup=>exact⟨rfl,fun h=>by simp [one] at h,fun h=>by simp [okv,one] at h⟩
 | refl a=>exact⟨rfl,id,id⟩
 | _=>exact⟨rfl,fun _=>rfl,fun _=>rfl⟩
theorem Vw.elOk {L:AHeap} {a a':AV} (h:Vw L a a') {k:Nat} (he:elOk k a):elOk k a':=⟨h.el.1.trans he.1,h.el.2.2 he.2⟩
section
variable {w:World} {A:Foot} {L:AHeap}
theorem RowR.view {A':Foot} {b base k:Nat} {xs xs':List AV} (R:RowR w A b base k xs) (hn:xs'.length=xs.length)
  (hv:∀(i:Nat) x y,xs[i]?=some x→xs'[i]?=some y→Vw L x y) (hr:∀(i:Nat) (x y:AV) (m:Nat) u c c',xs[i]?=some x→xs'[i]?=some y→x.cells[m]?=some c→y.cells[m]?=some c'→Rel w A c u→Rel w A' c' u):RowR w A' b base k xs':=by
 refine⟨fun y hy => ?_,fun i y m c' hy hc' => ?_⟩
 ·obtain⟨i,hi⟩:=List.getElem?_of_mem hy
  have hx:=List.getElem?_eq_getElem (show i<xs.length by have:=(List.getElem?_eq_some_iff.1 hi).1;omega)
  exact(hv i _ _ hx hi).elOk (R.len _ (List.mem_of_getElem? hx))
 ·have hx:=List.getElem?_eq_getElem (show i<xs.length by have:=(List.getElem?_eq_some_iff.1 hy).1;omega)
  generalize xs[i]'_=x at hx
  have hm:m<x.cells.length:=by
   have:=(List.getElem?_eq_some_iff.1 hc').1
   have h2:=(hv i _ _ hx hy).el.1
   omega
  obtain⟨u,hu,hrel⟩:=R.cell i _ m _ hx (List.getElem?_eq_getElem hm)
  exact⟨u,hu,hr i _ _ m u _ _ hx hy (List.getElem?_eq_getElem hm) hc' hrel⟩
theorem RowR.c {b base k:Nat} {xs:List AV} (R:RowR w A b base k xs):∃c:Nat→Value,(∀i,i<xs.length * k→w.cell? ⟨b,base+i,none⟩=some (c i))∧∀(i:Nat) x (j:Nat) y,xs[i]?=some x→x.cells[j]?=some y→Rel w A y (c (i * k+j)):=by
 refine⟨fun i=>(w.cell? ⟨b,base+i,none⟩).getD undef,fun i hi => ?_,fun i x j y hx hy => ?_⟩
 ·have hk:0<k:=by apply Nat.pos_of_ne_zero;rintro rfl;simp at hi
  have hi':i / k<xs.length:=(Nat.div_lt_iff_lt_mul hk).2 hi
  have hx:=List.getElem?_eq_getElem hi'
  have hj:i % k<(xs[i / k]).cells.length:=by rw[(R.len _ (List.mem_of_getElem? hx)).1];exact Nat.mod_lt _ hk
  obtain⟨u,hu,_⟩:=R.cell _ _ (i % k) _ hx (List.getElem?_eq_getElem hj)
  rw[Nat.mul_comm,Nat.div_add_mod] at hu
  simp only[hu,Option.getD_some]
 ·obtain⟨u,hu,hr⟩:=R.cell i x j y hx hy
  have:(w.cell? ⟨b,base+(i * k+j),none⟩).getD undef=u:=by rw[hu];rfl
  show Rel w A y ((w.cell? ⟨b,base+(i * k+j),none⟩).getD undef)
  rw[this];exact hr
theorem Vw.cells {a a':AV} (h:Vw L a a') {m:Nat} {c c':AV} (hc:a.cells[m]?=some c) (hc':a'.cells[m]?=some c'):Vw L c c':=by
 have single:∀ {x y:AV},Vw L x y→x.cells=[x]→y.cells=[y]→x.cells[m]?=some c→y.cells[m]?=some c'→Vw L c c':=fun {x y} hv hx hy h1 h2=>by
  rw[hx] at h1;rw[hy] at h2
  cases m with
  | zero=>simp at h1 h2;subst h1;subst h2;exact hv
  | succ m=>simp at h1
 cases h with
 | agg hn hv=>exact hv m _ _ hc hc'
 | refl a=>rw[hc] at hc';cases hc';exact .refl _
 | nil k=>exact single (.nil k) rfl rfl hc hc'
 | ls h hl hn hv=>exact single (.ls h hl hn hv) rfl rfl hc hc'
 | lp h hn hv=>exact single (.lp h hn hv) rfl rfl hc hc'
 | sl hn hv=>exact single (.sl hn hv) rfl rfl hc hc'
 | rp hn hv=>exact single (.rp hn hv) rfl rfl hc hc'
 | tup hn hv=>exact single (.tup hn hv) rfl rfl hc hc'
 | clo hn hv=>exact single (.clo hn hv) rfl rfl hc hc'
 | fn f=>exact single (.fn f) rfl rfl hc hc'
 | lm h hn hv=>exact single (.lm h hn hv) rfl rfl hc hc'
theorem Rel.inv_sl {k:Nat} {xs:List AV} {u:Value} (h:Rel w A (.sl k xs) u):(xs=[]∧∃a cap,u = .slice a 0 cap∧cap≤maxLen)∨∃b off cap,u = .slice (some ⟨b,off,none⟩) xs.length cap∧A b∧xs.length≤cap∧cap≤maxLen∧RowR w A b off k xs:=by
 cases h with
 | sl0 _ a cap hc=>exact .inl ⟨rfl,a,cap,rfl,hc⟩
 | sl _ _ b off cap c hA hl hc hk hw h=>exact .inr ⟨b,off,cap,rfl,hA,hl,hc,.of_c hk hw h⟩
theorem Rel.mk_sl {k:Nat} {xs:List AV} {b off cap:Nat} (hA:A b) (hl:xs.length≤cap) (hc:cap≤maxLen) (R:RowR w A b off k xs):Rel w A (.sl k xs) (.slice (some ⟨b,off,none⟩) xs.length cap):=by
 obtain⟨c,h1,h2⟩:=R.c
 exact .sl k xs b off cap c hA hl hc R.len h1 h2
theorem Rel.mk_rp {k:Nat} {xs:List AV} {b off:Nat} (hA:A b) (R:RowR w A b off k xs) (i j:Nat):Rel w A (.rp k xs i j) (.pointer (some ⟨b,off+(i * k+j),none⟩)):=by
 obtain⟨c,h1,h2⟩:=R.c
 exact .rp k xs i j b off c hA R.len h1 h2
theorem Rel.inv_rp2 {k:Nat} {xs:List AV} {i j:Nat} {u:Value} (h:Rel w A (.rp k xs i j) u):∃b off,u = .pointer (some ⟨b,off+(i * k+j),none⟩)∧A b∧RowR w A b off k xs:=by
 cases h with
 | rp _ _ _ _ b off cc hA hk hw h=>exact⟨b,off,rfl,hA,.of_c hk hw h⟩
def VP (w:World) (A A':Foot) (a a':AV):Prop:=(∀u,Rel w A a u→Rel w A' a' u)∧∀(m:Nat) (c c':AV) u,a.cells[m]?=some c→a'.cells[m]?=some c'→Rel w A c u→Rel w A' c' u
theorem VP.one {A A':Foot} {a a':AV} (h1:a.cells=[a]) (h2:a'.cells=[a']) (h:∀u,Rel w A a u→Rel w A' a' u):VP w A A' a a' :=
 ⟨h,fun m c c' u hc hc' hr=>by
  rw[h1] at hc;rw[h2] at hc'
  cases m with
  | zero=>simp at hc hc';subst hc;subst hc';exact h u hr
  | succ m=>simp at hc⟩
theorem Rel.view2 {A':Foot} {a a':AV} (hv:Vw L a a') (hL:∀b x,lk L b=some x→BlkRel w A b x∧A' b) (hA:∀b,A b→A' b):VP w A A' a a':=by
 induction hv with
 | refl a=>exact⟨fun u h=>h.later (fun _ _=>rfl) hA,fun m c c' u hc hc' h=>by rw[hc] at hc';cases hc';exact h.later (fun _ _=>rfl) hA⟩
 | nil k=>refine .one rfl rfl ?_;intro u h;obtain rfl:=h.inv_v;exact .sl0 _ _ _ (Nat.zero_le _)
 | @ls b k off len c t xs xs' cap h hl hn hv ih =>
  refine .one rfl rfl ?_
  intro u hr
  obtain⟨o,rfl,hle,hcm,ho⟩:=hr.inv_ls
  obtain⟨hB,hb⟩:=hL b _ h
  have hlen:xs'.length=len:=by rw[hn,List.length_take,List.length_drop];omega
  by_cases hz:len=0
  ·have:xs'=[]:=List.eq_nil_of_length_eq_zero (by omega)
   subst this;subst hz
   exact .sl0 _ _ _ hcm
  ·have ho:o=off * k:=by rcases ho with ho|ho;exact ho;omega
   subst ho
   have R:=RowR.of_blk hB
   have R2:RowR w A b (off * k) k ((xs.drop off).take len):=⟨fun x hx=>R.len x (List.mem_of_mem_drop (List.mem_of_mem_take hx)),fun i x m y hx hy=>by
    rw[List.getElem?_take] at hx
    split at hx
    ·rw[List.getElem?_drop] at hx
     obtain⟨u,hu,hr⟩:=R.cell _ x m y hx hy
     exact⟨u,by rw[← hu];congr 2;rw[Nat.add_mul];omega,hr⟩
    ·cases hx⟩
   have R3:RowR w A' b (off * k) k xs':=R2.view hn hv fun i x y m u c c' hx hy hc hc' hr=>by
    exact(ih i x y hx hy).2 m c c' u hc hc' hr
   have:=Rel.mk_sl hb (by omega) hcm R3
   rwa [hlen] at this
 | @lp b k i j t xs xs' cap h hn hv ih =>
  refine .one rfl rfl ?_
  intro u hr
  obtain rfl:=hr.inv_lp
  obtain⟨hB,hb⟩:=hL b _ h
  have R3:RowR w A' b 0 k xs':=(RowR.of_blk hB).view hn hv fun i x y m u c c' hx hy hc hc' hr=>(ih i x y hx hy).2 m c c' u hc hc' hr
  have:=Rel.mk_rp hb R3 i j
  rwa [Nat.zero_add] at this
 | @sl k xs xs' hn hv ih =>
  refine .one rfl rfl ?_
  intro u hr
  rcases hr.inv_sl with ⟨rfl,a,cap,rfl,hc⟩|⟨b,off,cap,rfl,hb,hl,hc,R⟩
  ·have:xs'=[]:=List.eq_nil_of_length_eq_zero hn
   subst this;exact .sl0 _ _ _ hc
  ·have R3:RowR w A' b off k xs':=R.view hn hv fun i x y m u c c' hx hy hc hc' hr=>(ih i x y hx hy).2 m c c' u hc hc' hr
   have:=Rel.mk_sl (hA b hb) (by omega) hc R3
   rwa [hn] at this
 | @rp k i j xs xs' hn hv ih =>
  refine .one rfl rfl ?_
  intro u hr
  obtain⟨b,off,rfl,hb,R⟩:=hr.inv_rp2
  have R3:RowR w A' b off k xs':=R.view hn hv fun i x y m u c c' hx hy hc hc' hr=>(ih i x y hx hy).2 m c c' u hc hc' hr
  exact Rel.mk_rp (hA b hb) R3 i j
 | @agg xs xs' hn hv ih =>
  refine⟨?_,fun m c c' u hc hc' h=>(ih m c c' hc hc').1 u h⟩
  intro u hr
  cases hr with
  | agg _ us hn' hh =>
  exact .agg _ _ (by omega) fun i c u hc hu=>by
   have hx:=List.getElem?_eq_getElem (show i<xs.length by have:=(List.getElem?_eq_some_iff.1 hc).1;omega)
   exact(ih i _ _ hx hc).1 _ (hh i _ _ hx hu)
 | @tup xs xs' hn hv ih =>
  refine .one rfl rfl ?_
  intro u hr
  cases hr with
  | tup _ us hn' hh =>
  exact .tup _ _ (by omega) fun i c u hc hu=>by
   have hx:=List.getElem?_eq_getElem (show i<xs.length by have:=(List.getElem?_eq_some_iff.1 hc).1;omega)
   exact(ih i _ _ hx hc).1 _ (hh i _ _ hx hu)
 | @clo f xs xs' hn hv ih =>
  refine .one rfl rfl ?_
  intro u hr
  cases hr with
  | clo _ _ us hn' hh =>
  exact .clo _ _ _ (by omega) fun i c u hc hu=>by
   have hx:=List.getElem?_eq_getElem (show i<xs.length by have:=(List.getElem?_eq_some_iff.1 hc).1;omega)
   exact(ih i _ _ hx hc).1 _ (hh i _ _ hx hu)
 | fn f=>refine .one rfl rfl ?_;intro u hr;obtain rfl:=hr.inv_v;exact .clo f [] #[] rfl fun i c u h=>by simp at h
 | @lm b ks vs vs' h hn hv ih =>
  refine .one rfl rfl ?_
  intro u hr
  obtain⟨⟨es,clock,h1,h2,h3,h4,h5,h6⟩,hb⟩:=hL b _ h
  cases hr with
  | lm _ =>
  exact .rm ks vs' b es clock hb h1 h2 (by omega) ⟨h4,h5⟩ fun i x e hx he=>by
   have hy:=List.getElem?_eq_getElem (show i<vs.length by have:=(List.getElem?_eq_some_iff.1 hx).1;omega)
   exact(ih i _ _ hy hx).1 _ (h6 i _ e hy he)
theorem Rel.view {A':Foot} {a a':AV} (hv:Vw L a a') (hL:∀b x,lk L b=some x→BlkRel w A b x∧A' b) (hA:∀b,A b→A' b) {u:Value} (h:Rel w A a u):Rel w A' a' u:=(Rel.view2 hv hL hA).1 u h
end
end Go.AL
end
section
namespace Go.AL
open Go Go.RowKit
def pickT:List Bool→AHeap→AHeap
 | true :: m,x :: L=>x :: pickT m L
 | false :: m,_ :: L=>pickT m L
 | _,_=>[]
def pickF:List Bool→AHeap→AHeap
 | true :: m,_ :: L=>pickF m L
 | false :: m,x :: L=>x :: pickF m L
 | [],L=>L
 | _,[]=>[]
theorem pick_perm:∀(m:List Bool) (L:AHeap),L.Perm (pickT m L ++ pickF m L)
 | [],L=>by simp [pickT,pickF]
 | true :: m,[]=>by simp [pickT,pickF]
 | false :: m,[]=>by simp [pickT,pickF]
 | true :: m,x :: L=>by simpa [pickT,pickF] using pick_perm m L
 | false :: m,x :: L=>by
  simp only[pickT,pickF]
  exact((pick_perm m L).cons x).trans List.perm_middle.symm
inductive LVw (Lf:AHeap):AHeap→AHeap→Prop
 | nil:LVw Lf [] []
 | drop {x:Nat × ABlk} {L L':AHeap} (h:LVw Lf L L'):LVw Lf (x :: L) L'
 | same {x:Nat × ABlk} {L L':AHeap} (h:LVw Lf L L'):LVw Lf (x :: L) (x :: L')
 | row {b k cap:Nat} {t:TypeId} {xs xs':List AV} {L L':AHeap} (hv:Vws Lf xs xs') (h:LVw Lf L L'):LVw Lf ((b,.row t k xs cap) :: L) ((b,.row t k xs' cap) :: L')
 | amap {b:Nat} {ks:List Value} {vs vs':List AV} {L L':AHeap} (hv:Vws Lf vs vs') (h:LVw Lf L L'):LVw Lf ((b,.amap ks vs) :: L) ((b,.amap ks vs') :: L')
theorem LVw.refl {Lf:AHeap} : ∀(L:AHeap),LVw Lf L L
 | [] => .nil
 | _ :: L => .same (LVw.refl L)
theorem LVw.none {Lf:AHeap} : ∀(L:AHeap),LVw Lf L []
 | [] => .nil
 | _ :: L => .drop (LVw.none L)
theorem LVw.of_sub {Lf L L':AHeap} (h:L'.Sublist L):LVw Lf L L':=by
 induction h with
 | slnil=>exact .nil
 | cons x _ ih=>exact .drop ih
 | cons_cons x _ ih=>exact .same ih
section
variable {w:World} {A:Foot} {L:AHeap}
theorem LRel.perm {L':AHeap} (h:LRel w A L) (hp:L.Perm L'):LRel w A L' :=
 ⟨h.abnd,fun x hx=>h.disj x (hp.mem_iff.2 hx),(hp.map _).nodup_iff.1 h.nodup,fun x hx=>h.blk x (hp.mem_iff.2 hx),h.glob⟩
theorem BlkRel.row_view {A':Foot} {Lf:AHeap} {b k cap:Nat} {t:TypeId} {xs xs':List AV} (hv:Vws Lf xs xs') (hL:∀b x,lk Lf b=some x→BlkRel w A b x∧A' b) (hA:∀b,A b→A' b)
  (h:BlkRel w A b (.row t k xs cap)):BlkRel w A' b (.row t k xs' cap):=by
 obtain⟨c,h1,h2,h3,h4,h5,h6⟩:=h
 have hx:∀i,i<xs'.length→∃x,xs[i]?=some x:=fun i hi=>⟨_,List.getElem?_eq_getElem (show i<xs.length by have:=hv.1;omega)⟩
 refine⟨c,h1,h2,by have:=hv.1;omega,h4,fun y hy => ?_,fun i y j c' u hy hc' hu => ?_⟩
 ·obtain⟨i,hi⟩:=List.getElem?_of_mem hy
  obtain⟨x,hxx⟩:=hx i (List.getElem?_eq_some_iff.1 hi).1
  exact(hv.2 i _ _ hxx hi).elOk (h5 _ (List.mem_of_getElem? hxx))
 ·obtain⟨x,hxx⟩:=hx i (List.getElem?_eq_some_iff.1 hy).1
  have hvw:=hv.2 i _ _ hxx hy
  have hj:j<x.cells.length:=by have:=(List.getElem?_eq_some_iff.1 hc').1;have:=hvw.el.1;omega
  exact(Rel.view2 hvw hL hA).2 j _ _ u (List.getElem?_eq_getElem hj) hc' (h6 i x j _ u hxx (List.getElem?_eq_getElem hj) hu)
theorem BlkRel.amap_view {A':Foot} {Lf:AHeap} {b:Nat} {ks:List Value} {xs xs':List AV} (hv:Vws Lf xs xs') (hL:∀b x,lk Lf b=some x→BlkRel w A b x∧A' b) (hA:∀b,A b→A' b)
  (h:BlkRel w A b (.amap ks xs)):BlkRel w A' b (.amap ks xs'):=by
 obtain⟨es,clock,h1,h2,h3,h4,h5,h6⟩:=h
 refine⟨es,clock,h1,h2,hv.1.trans h3,h4,h5,fun i y e hy he => ?_⟩
 have hxx:=List.getElem?_eq_getElem (show i<xs.length by have:=hv.1;have:=(List.getElem?_eq_some_iff.1 hy).1;omega)
 exact Rel.view (hv.2 i _ _ hxx hy) hL hA (h6 i _ e hxx he)
theorem LVw.keys {Lf L L':AHeap} (h:LVw Lf L L'):(L'.map (·.1)).Sublist (L.map (·.1)):=by
 induction h with
 | nil=>exact .slnil
 | drop _ ih=>exact .cons _ ih
 | same _ ih=>exact .cons_cons _ ih
 | row _ _ ih=>exact .cons_cons _ ih
 | amap _ _ ih=>exact .cons_cons _ ih
theorem LRel.viewed {Lf Lk L':AHeap} (h:LRel w A L) (hp:L.Perm (Lf ++ Lk)) (hv:LVw Lf Lk L'):LRel w (fun b=>A b∨keysOf Lf b) L':=by
 have h:=h.perm hp
 have hsub:=hv.keys
 have hLf:∀b x,AL.lk Lf b=some x→BlkRel w A b x∧(A b∨keysOf Lf b):=fun b x hx=>⟨h.blk (b,x) (List.mem_append_left _ (lk_mem hx)),.inr ⟨_,lk_mem hx,rfl⟩⟩
 have hnd:=h.nodup
 rw[List.map_append,List.nodup_append] at hnd
 refine⟨fun b hb => ?_,fun x hx => ?_,hnd.2.1.sublist hsub,?_,h.globL (fun _ _=>rfl) fun _ h => .inl h⟩
 ·rcases hb with hb|⟨x,hx,rfl⟩
  ·exact h.abnd b hb
  ·exact(h.blk x (List.mem_append_left _ hx)).lt
 ·have hk:x.1 ∈ Lk.map (·.1):=hsub.subset (List.mem_map_of_mem hx)
  rintro(hb|⟨y,hy,e⟩)
  ·obtain⟨z,hz,e⟩:=List.mem_map.1 hk
   exact h.disj z (List.mem_append_right _ hz) (e ▸ hb)
  ·exact hnd.2.2 _ (List.mem_map_of_mem hy) _ hk e
 ·have hblk:∀x ∈ Lk,BlkRel w A x.1 x.2:=fun x hx=>h.blk x (List.mem_append_right _ hx)
  clear hsub hnd h hp
  induction hv with
  | nil=>intro x hx;cases hx
  | drop _ ih=>exact ih (fun x hx=>hblk x (List.mem_cons_of_mem _ hx))
  | same _ ih =>
   intro x hx
   rcases List.mem_cons.1 hx with rfl|hx
   ·exact(hblk _ List.mem_cons_self).later rfl (fun _ _=>rfl) (fun _ h => .inl h)
   ·exact ih (fun x hx=>hblk x (List.mem_cons_of_mem _ hx)) x hx
  | row hvs _ ih =>
   intro x hx
   rcases List.mem_cons.1 hx with rfl|hx
   ·exact BlkRel.row_view hvs hLf (fun _ h => .inl h) (hblk _ List.mem_cons_self)
   ·exact ih (fun x hx=>hblk x (List.mem_cons_of_mem _ hx)) x hx
  | amap hvs _ ih =>
   intro x hx
   rcases List.mem_cons.1 hx with rfl|hx
   ·exact BlkRel.amap_view hvs hLf (fun _ h => .inl h) (hblk _ List.mem_cons_self)
   ·exact ih (fun x hx=>hblk x (List.mem_cons_of_mem _ hx)) x hx
theorem LRel.view {Lf Lk:AHeap} (h:LRel w A L) (hp:L.Perm (Lf ++ Lk)) {a a':AV} {u:Value} (hv:Vw Lf a a') (hr:Rel w A a u):Rel w (fun b=>A b∨keysOf Lf b) a' u :=
 Rel.view hv (fun _ x hx=>⟨(h.perm hp).blk (_,x) (List.mem_append_left _ (lk_mem hx)),.inr ⟨_,lk_mem hx,rfl⟩⟩) (fun _ h => .inl h) hr
end
section
variable {w0:World} {M A0:Foot} {N:Nat} {ρ:Env} {L:AHeap} {a:Act} {w:World} {A:Foot} {ds:List Nat}
theorem StW.view (h:StW w0 M A0 N ρ L a w A ds) {Lf Lk L':AHeap} {ρ':Env} (hp:L.Perm (Lf ++ Lk)) (hv:LVw Lf Lk L') (hρ:∀i,get ρ' i = .any∨Vw Lf (get ρ i) (get ρ' i)) :
  StW w0 M A0 N ρ' L' a w (fun b=>A b∨keysOf Lf b) ds:=by
 have hin:∀b,keysOf Lf b→keysOf L b:=fun b ⟨x,hx,e⟩=>⟨x,hp.mem_iff.2 (List.mem_append_left _ hx),e⟩
 have h1:=h.advance (Fr.refl w _) (fun _ h => .inl h) (fun b hb=>hb.elim .inl (fun hb => .inr (.inl (hin b hb)))) (h.l.viewed hp hv) (fun x hx=>by
  obtain⟨z,hz,e⟩:=List.mem_map.1 (hv.keys.subset (List.mem_map_of_mem hx))
  exact .inl ⟨z,hp.mem_iff.2 (List.mem_append_right _ hz),e⟩)
 refine⟨h1.fr,h1.asub,h1.l,h1.lown,h1.size,fun i => ?_,h1.dfs,h1.dblk,h1.dnd⟩
 rcases hρ i with e|hvw
 ·rw[e];exact .any _
 ·exact h.l.view hp hvw (h.env i)
theorem st_view (h:St w0 M A0 N ρ L a w) {Lf Lk L':AHeap} {ρ':Env} (hp:L.Perm (Lf ++ Lk)) (hv:LVw Lf Lk L') (hρ:∀i,get ρ' i = .any∨Vw Lf (get ρ i) (get ρ' i)):St w0 M A0 N ρ' L' a w :=
 let ⟨_,_,h⟩:=st_iff.1 h
 st_iff.2 ⟨_,_,h.view hp hv hρ⟩
end
theorem AWp.view {C:Cfg} {c:Code} {Q:AQ} {ρ:Env} {L L':AHeap} (m:List Bool) (sv:List (Nat × AV)) (hv:LVw (pickT m L) (pickF m L) L') (hs:∀p ∈ sv,Vw (pickT m L) (get ρ p.1) p.2)
  (h:AWp C c Q (sv ++ ρ) L'):AWp C c Q ρ L:=by
 refine AWp.st (fun w0 M A0 a w hst=>st_view hst (pick_perm m L) hv fun i => .inr ?_) h
 clear h
 induction sv with
 | nil=>exact .refl _
 | cons p sv ih =>
  obtain⟨j,x⟩:=p
  simp only[List.cons_append,get]
  split
  ·rename_i e;subst e;exact hs (i,x) List.mem_cons_self
  ·exact ih fun p hp=>hs p (List.mem_cons_of_mem _ hp)
theorem cpost.frame {w:World} {A:Foot} {Lm Lr:AHeap} {K:AV→AHeap→Prop} (h:LRel w A (Lm ++ Lr)) {e:Ending} {w':World} (hp:cpost w A Lm K e w') :
  cpost w A (Lm ++ Lr) (fun r L'=>∃L1,L'=L1 ++ Lr∧K r L1) e w':=by
 obtain⟨v,r,L1,A',rfl,hK,hf,hA,hL,hk,hr⟩:=hp
 have hnd:=h.nodup
 rw[List.map_append,List.nodup_append] at hnd
 have hm:∀b,keysOf Lm b→keysOf (Lm ++ Lr) b:=fun b ⟨x,hx,e⟩=>⟨x,List.mem_append_left _ hx,e⟩
 have hnm:∀x ∈ Lr,¬keysOf Lm x.1:=fun x hx ⟨y,hy,e⟩=>hnd.2.2 _ (List.mem_map_of_mem hy) _ (List.mem_map_of_mem hx) e
 have keepA:∀b,A b→w'.heap[b]?=w.heap[b]?:=fun b hb=>hf.block b (h.abnd b hb) (fun ⟨x,hx,e⟩=>h.disj x (List.mem_append_left _ hx) (e ▸ hb))
 refine⟨v,r,L1 ++ Lr,fun b=>A b∨A' b,rfl,⟨L1,rfl,hK⟩,⟨hf.os,hf.tape,hf.output,hf.size,fun k hk hn=>hf.block k hk (fun hh=>hn (hm k hh)),hf.drawn⟩,fun b hb => ?_,⟨fun b hb => ?_,fun x hx => ?_,?_,fun x hx => ?_,hL.globL (fun _ _=>rfl) fun _ h => .inr h⟩,fun x hx => ?_,hr.later (fun _ _=>rfl) (fun _ h => .inr h)⟩
 ·rcases hb with hb|hb
  ·exact .inl hb
  ·rcases hA b hb with h1|h1|h1
   ·exact .inl h1
   ·exact .inr (.inl (hm b h1))
   ·exact .inr (.inr h1)
 ·rcases hb with hb|hb
  ·exact Nat.lt_of_lt_of_le (h.abnd b hb) hf.size
  ·exact hL.abnd b hb
 ·rcases List.mem_append.1 hx with hx|hx
  ·rintro(hb|hb)
   ·rcases hk x hx with ⟨y,hy,e⟩|h1
    ·exact h.disj y (List.mem_append_left _ hy) (e ▸ hb)
    ·have:=h.abnd _ hb;omega
   ·exact hL.disj x hx hb
  ·rintro(hb|hb)
   ·exact h.disj x (List.mem_append_right _ hx) hb
   ·rcases hA _ hb with h1|h1|h1
    ·exact h.disj x (List.mem_append_right _ hx) h1
    ·exact hnm x hx h1
    ·have:=(h.blk x (List.mem_append_right _ hx)).lt;omega
 ·rw[List.map_append,List.nodup_append]
  refine⟨hL.nodup,hnd.2.1,fun p hp q hq e => ?_⟩
  subst e
  obtain⟨x,hx,rfl⟩:=List.mem_map.1 hp
  obtain⟨y,hy,e⟩:=List.mem_map.1 hq
  rcases hk x hx with h1|h1
  ·exact hnm y hy (e ▸ h1)
  ·have:=(h.blk y (List.mem_append_right _ hy)).lt;omega
 ·rcases List.mem_append.1 hx with hx|hx
  ·exact(hL.blk x hx).later rfl (fun _ _=>rfl) (fun _ h => .inr h)
  ·have hlt:=(h.blk x (List.mem_append_right _ hx)).lt
   exact(h.blk x (List.mem_append_right _ hx)).later (hf.block _ hlt (hnm x hx)) keepA (fun _ h => .inl h)
 ·rcases List.mem_append.1 hx with hx|hx
  ·exact(hk x hx).imp (hm _) id
  ·exact .inl ⟨x,List.mem_append_right _ hx,rfl⟩
theorem cpost.perm {w:World} {A:Foot} {L L':AHeap} {K:AV→AHeap→Prop} (hp:L.Perm L') {e:Ending} {w':World} (h:cpost w A L K e w'):cpost w A L' K e w':=by
 have hk:∀b,keysOf L b↔keysOf L' b:=fun b=>⟨fun ⟨x,hx,e⟩=>⟨x,hp.mem_iff.1 hx,e⟩,fun ⟨x,hx,e⟩=>⟨x,hp.mem_iff.2 hx,e⟩⟩
 obtain⟨v,r,L1,A',h1,h2,h3,h4,h5,h6,h7⟩:=h
 exact⟨v,r,L1,A',h1,h2,⟨h3.os,h3.tape,h3.output,h3.size,fun k hk' hn=>h3.block k hk' (fun hh=>hn ((hk k).1 hh)),h3.drawn⟩,fun b hb=>(h4 b hb).imp id (Or.imp ((hk b).1) id),h5,fun x hx=>(h6 x hx).imp ((hk _).1) id,h7⟩
section
variable {P:Program} {f:FuncId} {args args':List AV} {K:AV→AHeap→Prop} {L Lm Lr:AHeap}
theorem MCalls.frame (h:MCalls P f args Lm K):MCalls P f args (Lm ++ Lr) fun r L'=>∃L1,L'=L1 ++ Lr∧K r L1 :=
 ⟨h.1,fun n w A vs hL hv=>(h.2 n w A vs (hL.sub (List.sublist_append_left _ _)) hv).mono fun _ _ hp=>hp.frame hL⟩
theorem MVal.frame {g:AV} (h:MVal P g args Lm K):MVal P g args (Lm ++ Lr) fun r L'=>∃L1,L'=L1 ++ Lr∧K r L1 :=
 fun n w A gv vs hL hg hv=>(h n w A gv vs (hL.sub (List.sublist_append_left _ _)) hg hv).mono fun _ _ hp=>hp.frame hL
theorem MCalls.perm {L':AHeap} (hp:L'.Perm L) (h:MCalls P f args L' K):MCalls P f args L K :=
 ⟨h.1,fun n w A vs hL hv=>(h.2 n w A vs (hL.perm hp.symm) hv).mono fun _ _ hq=>hq.perm hp⟩
theorem MVal.perm {g:AV} {L':AHeap} (hp:L'.Perm L) (h:MVal P g args L' K):MVal P g args L K :=
 fun n w A gv vs hL hg hv=>(h n w A gv vs (hL.perm hp.symm) hg hv).mono fun _ _ hq=>hq.perm hp
def PC (P:Program) (f:FuncId) (args:List AV) (r:AV):Prop:=MCalls P f args [] fun r' L'=>r'=r∧L'=[]
def PV (P:Program) (g:AV) (args:List AV) (r:AV):Prop:=MVal P g args [] fun r' L'=>r'=r∧L'=[]
theorem PC.use {r:AV} (h:PC P f args r) (hk:K r L):MCalls P f args L K :=
 (MCalls.frame (Lm:=[]) (Lr:=L) h).mono fun r' L' ⟨L1,e,e1,e2⟩=>by subst e e1 e2;exact hk
theorem PV.use {g:AV} {r:AV} (h:PV P g args r) (hk:K r L):MVal P g args L K :=
 (MVal.frame (Lm:=[]) (Lr:=L) h).mono fun r' L' ⟨L1,e,e1,e2⟩=>by subst e e1 e2;exact hk
theorem PC.val {r:AV} (h:PC P f args r):PV P (.v (.func (.func f) #[] #[])) args r:=MCalls.val h
theorem PC.clo {caps:List AV} {r:AV} (h:PC P f (args ++ caps) r):PV P (.clo f caps) args r:=MCalls.clo h
def Own (a:AV):Prop:=∀w A A' u,Rel w A a u→Rel w A' a u
def OwnB (x:ABlk):Prop:=match x with
 | .row _ _ xs _=>∀y ∈ xs,Own y∧∀c ∈ y.cells,Own c
 | .amap _ vs=>∀y ∈ vs,Own y
 | .obj _=>True
 | .iter _ _ _=>False
 | .amapE _ _ _ _=>False
theorem Own.v (x:Value):Own (.v x):=fun _ _ _ _ h=>by obtain rfl:=h.inv_v;exact .v _
theorem Own.any:Own .any:=fun _ _ _ _ _ => .any _
theorem Own.ls (b k off len cap:Nat):Own (.ls b k off len cap):=fun _ _ _ _ h=>by cases h with|ls _ _ _ _ _ o h1 h2 h3=>exact .ls _ _ _ _ _ o h1 h2 h3
theorem Own.lp (b k i j:Nat):Own (.lp b k i j):=fun _ _ _ _ h=>by cases h;exact .lp _ _ _ _
theorem Own.lm (b:Nat):Own (.lm b):=fun _ _ _ _ h=>by cases h;exact .lm _
theorem Own.sl0 (k:Nat):Own (.sl k []):=fun _ _ _ _ h=>by
 rcases h.inv_sl with ⟨_,a,cap,rfl,hc⟩|⟨b,off,cap,rfl,_,_,hc,_⟩
 ·exact .sl0 _ _ _ hc
 ·exact .sl0 _ _ _ hc
theorem Own.agg {cs:List AV} (h:∀x ∈ cs,Own x):Own (.agg cs):=fun _ _ _ _ hr=>by
 cases hr with|agg _ us hn hh=>exact .agg _ _ hn fun i c u hc hu=>h c (List.mem_of_getElem? hc) _ _ _ _ (hh i c u hc hu)
theorem Own.tup {cs:List AV} (h:∀x ∈ cs,Own x):Own (.tup cs):=fun _ _ _ _ hr=>by
 cases hr with|tup _ us hn hh=>exact .tup _ _ hn fun i c u hc hu=>h c (List.mem_of_getElem? hc) _ _ _ _ (hh i c u hc hu)
theorem Own.clo {f:FuncId} {cs:List AV} (h:∀x ∈ cs,Own x):Own (.clo f cs):=fun _ _ _ _ hr=>by
 cases hr with|clo _ _ us hn hh=>exact .clo _ _ _ hn fun i c u hc hu=>h c (List.mem_of_getElem? hc) _ _ _ _ (hh i c u hc hu)
theorem cpost.viewed {w:World} {A:Foot} (h:LRel w A L) {e:Ending} {w':World} (hp:cpost w (fun b=>A b∨keysOf L b) [] K e w') (ho:∀r L1,K r L1→Own r∧∀x ∈ L1,OwnB x.2) :
  cpost w A L (fun r L'=>∃L1,L'=L1 ++ L∧K r L1) e w':=by
 obtain⟨v,r,L1,A',rfl,hK,hf,hA,hL,hk,hr⟩:=hp
 obtain⟨or,oL⟩:=ho r L1 hK
 have nokey:∀b,¬keysOf [] b:=fun b ⟨x,hx,_⟩=>by cases hx
 have hk':∀x ∈ L1,w.heap.size≤x.1:=fun x hx=>(hk x hx).resolve_left (nokey _)
 have keep:∀b,b<w.heap.size→w'.heap[b]?=w.heap[b]?:=fun b hb=>hf.block b hb (nokey b)
 refine⟨v,r,L1 ++ L,A,rfl,⟨L1,rfl,hK⟩,⟨hf.os,hf.tape,hf.output,hf.size,fun k hk _=>keep k hk,hf.drawn⟩,fun b hb => .inl hb,⟨fun b hb=>Nat.lt_of_lt_of_le (h.abnd b hb) hf.size,fun x hx => ?_,?_,fun x hx => ?_,h.globL (fun b hb=>keep b (h.abnd b hb)) fun _ h=>h⟩,fun x hx => ?_,or _ _ _ _ hr⟩
 ·rcases List.mem_append.1 hx with hx|hx
  ·intro hb;have:=h.abnd _ hb;have:=hk' x hx;omega
  ·exact h.disj x hx
 ·rw[List.map_append,List.nodup_append]
  refine⟨hL.nodup,h.nodup,fun p hp q hq e => ?_⟩
  subst e
  obtain⟨x,hx,rfl⟩:=List.mem_map.1 hp
  obtain⟨y,hy,e⟩:=List.mem_map.1 hq
  have:=(h.blk y hy).lt;have:=hk' x hx;omega
 ·rcases List.mem_append.1 hx with hx|hx
  ·have hb:=hL.blk x hx
   have ho:=oL x hx
   obtain⟨b,x⟩:=x
   cases x with
   | row t k xs cap =>
    obtain⟨c,h1,h2,h3,h4,h5,h6⟩:=hb
    exact⟨c,h1,h2,h3,h4,h5,fun i x j y u hx hy hu=>(ho x (List.mem_of_getElem? hx)).2 y (List.mem_of_getElem? hy) _ _ _ _ (h6 i x j y u hx hy hu)⟩
   | amap ks vs =>
    obtain⟨es,clock,h1,h2,h3,h4,h5,h6⟩:=hb
    exact⟨es,clock,h1,h2,h3,h4,h5,fun i x e hx he=>ho x (List.mem_of_getElem? hx) _ _ _ _ (h6 i x e hx he)⟩
   | obj o=>exact hb
   | iter ks vs vis=>exact ho.elim
   | amapE ks vs i st=>exact ho.elim
  ·exact(h.blk x hx).later (keep _ (h.blk x hx).lt) (fun b hb=>keep b (h.abnd b hb)) (fun _ h=>h)
 ·rcases List.mem_append.1 hx with hx|hx
  ·exact .inr (hk' x hx)
  ·exact .inl ⟨x,hx,rfl⟩
theorem LRel.borrow {w:World} {A:Foot} (h:LRel w A L):LRel w (fun b=>A b∨keysOf L b) []:=h.viewed (Lf:=L) (Lk:=[]) (by simp) .nil
theorem Rels.borrow {w:World} {A:Foot} (h:LRel w A L) (hv:Vws L args args') {vs:List Value} (hr:Rels w A args vs):Rels w (fun b=>A b∨keysOf L b) args' vs :=
 ⟨by rw[hr.1,hv.1],fun i a' u ha' hu=>by
  have hx:=List.getElem?_eq_getElem (show i<args.length by have:=hv.1;have:=(List.getElem?_eq_some_iff.1 ha').1;omega)
  exact h.view (Lf:=L) (Lk:=[]) (by simp) (hv.2 i _ _ hx ha') (hr.2 i _ _ hx hu)⟩
theorem MCalls.viewed (hv:Vws L args args') (h:MCalls P f args' [] K) (ho:∀r L1,K r L1→Own r∧∀x ∈ L1,OwnB x.2):MCalls P f args L fun r L'=>∃L1,L'=L1 ++ L∧K r L1 :=
 ⟨h.1,fun n w A vs hL hr=>(h.2 n w _ vs hL.borrow (Rels.borrow hL hv hr)).mono fun _ _ hp=>hp.viewed hL ho⟩
theorem MVal.viewed {g g':AV} (hg:Vw L g g') (hv:Vws L args args') (h:MVal P g' args' [] K) (ho:∀r L1,K r L1→Own r∧∀x ∈ L1,OwnB x.2):MVal P g args L fun r L'=>∃L1,L'=L1 ++ L∧K r L1 :=
 fun n w A gv vs hL hgr hr=>(h n w _ gv vs hL.borrow (hL.view (Lf:=L) (Lk:=[]) (by simp) hg hgr) (Rels.borrow hL hv hr)).mono fun _ _ hp=>hp.viewed hL ho
theorem PC.view {r:AV} (hv:Vws L args args') (h:PC P f args' r) (ho:Own r) (hk:K r L):MCalls P f args L K :=
 (MCalls.viewed hv h fun r' L1 ⟨e1,e2⟩=>by subst e1 e2;exact⟨ho,fun x hx=>by cases hx⟩).mono fun r' L' ⟨L1,e,e1,e2⟩=>by subst e e1 e2;exact hk
theorem PV.view {g g' r:AV} (hg:Vw L g g') (hv:Vws L args args') (h:PV P g' args' r) (ho:Own r) (hk:K r L):MVal P g args L K :=
 (MVal.viewed hg hv h fun r' L1 ⟨e1,e2⟩=>by subst e1 e2;exact⟨ho,fun x hx=>by cases hx⟩).mono fun r' L' ⟨L1,e,e1,e2⟩=>by subst e e1 e2;exact hk
end
def aenv:Nat→List AV→Env
 | _,[]=>[]
 | i,x :: r=>(i,x) :: aenv (i+1) r
def aresult (P:Program) (ρ:Env) (L:AHeap):ResultVar→Option (Prop × AV)
 | .tmp t=>some (True,get ρ t)
 | .cell p t=>w1 (get ρ p) (aLoad P L t)
def aresults (P:Program) (ρ:Env) (L:AHeap):List ResultVar→Option (Prop × List AV)
 | []=>some (True,[])
 | r :: rs=>match aresult P ρ L r,aresults P ρ L rs with
  | some (c,x),some (cs,xs)=>some (c∧cs,x :: xs)
  | _,_=>none
def resAV:List AV→AV
 | [x]=>x
 | xs => .tup xs
def retK (P:Program) (rs:List ResultVar) (K:AV→AHeap→Prop) (ρ:Env) (L:AHeap):Prop :=
 match aresults P ρ L rs with
 | some (c,xs)=>c∧∃m r L',Vw (pickT m L) (resAV xs) r∧LVw (pickT m L) (pickF m L) L'∧K r L'
 | none=>False
def retQ (P:Program) (rs:List ResultVar) (K:AV→AHeap→Prop):AQ
 | .ret,ρ,L=>retK P rs K ρ L
 | .normal,ρ,L=>retK P rs K ρ L
 | _,_,_=>False
theorem get_aenv:∀(l:List AV) (i j:Nat),get (aenv j l) (j+i)=(l[i]?).getD .any
 | [],_,_=>rfl
 | x :: l,i,j=>by
  simp only[aenv,get]
  cases i with
  | zero=>simp
  | succ i=>rw[if_neg (by omega),show j+(i+1)=(j+1)+i by omega,get_aenv l i (j+1)];simp
theorem aresults_ok {P:Program} {ρ:Env} {L:AHeap} {w:World} {A:Foot} (g:ResultVar→Sem Value)
  (hg:∀r c x,aresult P ρ L r=some (c,x)→c→∃u,(g r).run P w = .ok u w∧Rel w A x u) :
  ∀(rs:List ResultVar) (c:Prop) (xs:List AV),aresults P ρ L rs=some (c,xs)→c→∃us:List Value,(rs.mapM (m:=Sem) g).run P w = .ok us w∧Rels w A xs us:=by
 intro rs
 induction rs with
 | nil=>intro c xs h _;cases h;exact⟨[],rfl,Rels.nil⟩
 | cons r rs ih =>
  intro c xs h hc
  simp only[aresults] at h
  split at h
  ·rename_i c1 x cs xs' h1 h2
   cases h
   obtain⟨us,hu,hr⟩:=ih cs xs' h2 hc.2
   obtain⟨u,hu',hr'⟩:=hg r c1 x h1 hc.1
   exact⟨u :: us,by simp [List.mapM_cons,hu',hu],Rels.cons hr' hr⟩
  ·cases h
theorem results_ok {P:Program} {fn:Func} {ρ:Env} {L:AHeap} {w:World} {A:Foot} {tmps:Array Value} (hρ:∀i,Rel w A (get ρ i) (tmps.getD i undef)) (hL:LRel w A L) {c:Prop} {xs:List AV}
  (h:aresults P ρ L fn.results.toList=some (c,xs)) (hc:c):∃v,(results fn tmps).run P w = .ok v w∧Rel w A (resAV xs) v:=by
 unfold results
 rw[← Array.toArray_toList (xs:=fn.results),List.mapM_toArray]
 generalize hgdef:(fun x:ResultVar=>(match x with | .tmp t=>pure (tmps.getD t undef) | .cell a t=>do loadVar t (← asAddr (tmps.getD a undef)):Sem Value))=g
 have hg:∀r c x,aresult P ρ L r=some (c,x)→c→∃u,(g r).run P w = .ok u w∧Rel w A x u:=by
  intro r c x h1 hc
  subst hgdef
  cases r with
  | tmp t=>simp only[aresult] at h1;cases h1;exact⟨_,rfl,hρ t⟩
  | cell p t =>
   simp only[aresult] at h1
   obtain⟨g1,c',g2,g3⟩:=w1_inv h1 hc
   have hp:=fo_ok (hρ p) g1
   obtain⟨u,hu,hr⟩:=aLoad_ok g2 g3 hL hp
   refine⟨u,?_,hr⟩
   have hpt:∃ad,tmps.getD p undef = .pointer (some ad):=by
    unfold aLoad at g2
    split at g2
    ·cases g2
    ·split at g2
     ·rename_i heq;rw[heq] at hp;obtain⟨_,_,h,_⟩:=hp.inv_rp2;exact⟨_,h⟩
     ·rename_i heq;rw[heq] at hp;exact⟨_,hp.inv_lp⟩
     ·cases g2
   obtain⟨ad,had⟩:=hpt
   simpa [Instr.loadAt,Instr.sureAddr,asAddr,had] using hu
 obtain⟨us,hu,hr⟩:=aresults_ok g hg _ c xs h hc
 refine⟨if h:us.toArray.size=1 then us.toArray[0] else .tuple us.toArray,?_,?_⟩
 ·simp [hu]
 ·unfold resAV
  split
  ·rename_i x
   obtain⟨u,us',rfl,h1,h2⟩:=hr.inv_cons
   obtain rfl:=h2.inv_nil
   simpa using h1
  ·rename_i hne
   have hlen:us.length=xs.length:=hr.1
   have hne1:¬us.toArray.size=1:=fun e=>by
    have:xs.length=1:=by simpa [hlen] using e
    obtain⟨x,rfl⟩:=List.length_eq_one_iff.1 this
    exact hne x rfl
   rw[dif_neg hne1]
   exact .tup _ _ (by simpa using hlen) fun i c u hc hu=>hr.2 i c u hc (by simpa using hu)
theorem leave_marks {n:Nat} {P:Program} {fn:Func} {tmps:Array Value} {R:Ending→World→Prop} : ∀(ds:List Nat) (w:World),(∀D ∈ ds,w.heap[D]?=some (.deferred (some [])))→ds.Nodup →
  (∀w',Fr w (fun b=>b ∈ ds) w'→w'.heap.size=w.heap.size→∃v,(results fn tmps).run P w' = .ok v w'∧R (.returned v) w') →
  LeavesInM Fence.wide n P fn tmps R (ds.map fun D => { target:=.collected D,args:=#[] }) .returning w
 | [],w,_,_,h=>h w (Fr.refl _ _) rfl
 | D :: ds,w,hd,hn,h=>by
  refine⟨by simp,.inl ⟨D,w.putObj D (.deferred none),rfl,run_takeDeferred (hd D List.mem_cons_self),?_⟩⟩
  have hn':=List.nodup_cons.1 hn
  refine leave_marks ds _ (fun E hE => ?_) hn'.2 fun w' hf hs=>h w' ?_ (by rw[hs];simp [World.putObj])
  ·rw[World.putObj_heap_other (by rintro rfl;exact hn'.1 hE)];exact hd E (List.mem_cons_of_mem _ hE)
  ·have h1:Fr w (fun b=>b ∈ D :: ds) (w.putObj D (.deferred none)):=Fr.putObj (M:=fun b=>b ∈ D :: ds) List.mem_cons_self _
   exact h1.trans hf fun b hb => .inl (List.mem_cons_of_mem _ hb)
theorem MCalls.enter {P:Program} {f:FuncId} {fn:Func} {c:Code} {args:List AV} {L:AHeap} {K:AV→AHeap→Prop} (fz:List Nat) (hf:P.funcs[f]?=some fn) (hname:(fn.name == "runtime.NumGoroutine")=false)
  (hb:fn.body=some c) (hok:codeOk fn.ntmps c=true) (hargs:args.length≤fn.ntmps) (h:AWp ⟨P,fn.ntmps,none,fz⟩ c (retQ P fn.results.toList K) (aenv 0 args) L):MCalls P f args L K:=by
 refine⟨enters_of hf hname hb,fun n w A vs hL hv=>callsIn_of_wp_marks hf hb trivial ?_ rfl⟩
 have hst:St w (keysOf L) A fn.ntmps (aenv 0 args) L { tmps:=vs.toArray ++ Array.replicate (fn.ntmps - vs.toArray.size) undef,defers:=[] } w:=by
  refine st_iff.2 ⟨A,[],Fr.refl _ _,fun _ h => .inl h,hL,fun x hx => .inl ⟨x,hx,rfl⟩,by simp [hv.1];omega,fun i => ?_,rfl,fun D hD=>(by cases hD),.nil⟩
  have hget:get (aenv 0 args) i=(args[i]?).getD .any:=by simpa using get_aenv args i 0
  rw[hget]
  cases hi:args[i]? with
  | none=>exact .any _
  | some x =>
   have hlt:i<args.length:=(List.getElem?_eq_some_iff.1 hi).1
   have hlt':i<vs.length:=by rw[hv.1];exact hlt
   refine hv.2 i x _ hi ?_
   simp [Array.getD_eq_getD_getElem?,Array.getElem?_append,hlt']
 have hFw:Fw none=Fence.wide:=rfl
 have hw:=h hok n w (keysOf L) A _ w hst
 rw[hFw] at hw
 refine wpIn_mono hw ?_
 rintro e a' w' ⟨ρ',L',hq,hs⟩
 have key:retK P fn.results.toList K ρ' L'→LeavesInM Fence.wide n P fn a'.tmps (cpost w A L K) a'.defers .returning w':=fun hq=>by
  obtain⟨A',ds,hs⟩:=st_iff.1 hs
  unfold retK at hq
  split at hq
  ·rename_i cc xs hres
   obtain⟨hc,m,r,L2,hvw,hlv,hK⟩:=hq
   rw[hs.dfs]
   refine leave_marks ds w' (fun D hD=>(hs.dblk D hD).1) hs.dnd fun w2 hf2 hsz => ?_
   have hkeep:∀b,b<w'.heap.size→b ∉ ds→w2.heap[b]?=w'.heap[b]?:=fun b hb hn=>hf2.block b hb hn
   have hAk:∀b,A' b→w2.heap[b]?=w'.heap[b]?:=fun b hb=>hkeep b (hs.l.abnd b hb) (fun hD=>(hs.dblk b hD).2.1 hb)
   have hL2:LRel w2 A' L':=⟨fun b hb=>by rw[hsz];exact hs.l.abnd b hb,hs.l.disj,hs.l.nodup,fun x hx=>(hs.l.blk x hx).later (hkeep _ (hs.l.blk x hx).lt (fun hD=>(hs.dblk _ hD).2.2.1 ⟨x,hx,rfl⟩)) hAk (fun _ h=>h),hs.l.globL hAk fun _ h=>h⟩
   obtain⟨v,hv2,hr⟩:=results_ok (fn:=fn) (fun i=>(hs.env i).later hAk (fun _ h=>h)) hL2 hres hc
   refine⟨v,hv2,v,r,L2,fun b=>A' b∨keysOf (pickT m L') b,rfl,hK,hs.fr.trans hf2 (fun D hD=>(hs.dblk D hD).2.2.2),fun b hb => ?_,hL2.viewed (pick_perm m L') hlv,fun x hx => ?_,hL2.view (pick_perm m L') hvw hr⟩
   ·rcases hb with hb|⟨x,hx,rfl⟩
    ·exact hs.asub b hb
    ·exact .inr (hs.lown x ((pick_perm m L').mem_iff.2 (List.mem_append_left _ hx)))
   ·obtain⟨z,hz,e⟩:=List.mem_map.1 (hlv.keys.subset (List.mem_map_of_mem hx))
    rw[← e]
    exact hs.lown z ((pick_perm m L').mem_iff.2 (List.mem_append_right _ hz))
  ·exact hq.elim
 cases e with
 | normal=>exact key hq
 | ret=>exact key hq
 | exit id=>exact hq.elim
 | goto l=>exact hq.elim
 | panic ch=>exact hq.elim
 | outgrown=>exact hq.elim
def zrow (n:Nat) (x:AV):List AV:=List.replicate n x
end Go.AL
end
section
namespace Go.AL
open Go Go.RowKit
attribute [go_sem] isArr1 stI stJ stXs OT.ap_done OT.ap_step OT.nx_done OT.nx_step fop wo Option.map_some Option.map_none awp1 aregion_nil aregion_cons aregK putK putC putQ putQC aquietK aquiet_nil aquiet_cons aregD astep aop aval aop2 aguard gval get put ev w1 w2 fos aLoad aFieldAddr aIndexAddr aIndex aField aSlice aLen aCap aBin aEq eqv1 eqvs fitss SK.fits aNilCmp aLookup aMapUpdate aMapEntry aEntryStore flatV flatVs mapOf aUn aConvL aConv bytesOf bytesOf_map aMin aMax aExtract aNil aStore aBox aAlloc aBuildSlice
 aMakeSlice aMakeMap aAppend aCopy aClear aGrow aBuild thenQ blockQ noGotoQ retQ aresults aresult resAV pickT pickF lk upd fresh apart keep lenv roundQ rangeQ aenv isFz pickAV loadAV ldOk TI.agg AV.cells
 true_and and_true if_true if_false Nat.reduceAdd Nat.reduceMul Nat.reduceSub Nat.reduceEqDiff Nat.reduceLT Nat.reduceLeDiff Int.reduceNeg Int.toNat_natCast Int.toNat_zero
section
variable (x:AV) (c:Bool)
theorem fo_v (x:Value):fo (.v x)=(True,.v x):=rfl
theorem fo_agg (x:List AV):fo (.agg x)=(True,.agg x):=rfl
theorem fo_tup (x:List AV):fo (.tup x)=(True,.tup x):=rfl
theorem fo_sl (k:Nat) (x:List AV):fo (.sl k x)=(True,.sl k x):=rfl
theorem fo_rp (k:Nat) (x:List AV) (i j:Nat):fo (.rp k x i j)=(True,.rp k x i j):=rfl
theorem fo_ls (a b c d e:Nat):fo (.ls a b c d e)=(True,.ls a b c d e):=rfl
theorem fo_lp (a b c d:Nat):fo (.lp a b c d)=(True,.lp a b c d):=rfl
theorem fo_clo (f:FuncId) (x:List AV):fo (.clo f x)=(True,.clo f x):=rfl
theorem fo_rm (k:List Value) (x:List AV):fo (.rm k x)=(True,.rm k x):=rfl
theorem fo_lm (b:Nat):fo (.lm b)=(True,.lm b):=rfl
theorem fo_any:fo .any=(True,.any):=rfl
theorem fo_cond:fo (.cond c x)=(c=true,x):=rfl
end
attribute [go_sem] fo_v fo_agg fo_tup fo_sl fo_rp fo_ls fo_lp fo_clo fo_rm fo_lm fo_any fo_cond List.drop_zero List.drop_succ_cons List.take_succ_cons List.getD_cons_zero
attribute [go_sem] List.map_cons List.map_nil setAll partsOk elOk okv one Value.oneCell' AppOk List.all_cons List.all_nil List.length_cons List.length_nil Bool.false_eq_true Bool.and_true Bool.true_and Bool.and_false Bool.false_and
 ne_eq not_false_eq_true not_true_eq_false Nat.zero_le Nat.le_refl Nat.add_zero Nat.zero_add List.nil_append del List.take_zero List.take_nil List.length_map true_implies forall_const implies_true List.getD_cons_zero List.getD_cons_succ
 srcOf Bool.not_true Bool.not_false decide_true decide_false Nat.zero_lt_succ false_implies List.replicate_zero List.replicate_succ List.set_cons_zero List.set_cons_succ List.getElem?_cons_zero List.getElem?_cons_succ stEl splice List.cons_append
 Nat.zero_mul Nat.one_mul Nat.mul_one Nat.mul_zero Nat.sub_zero Nat.lt_irrefl eq_self
theorem ite_and_b (a b:Bool):(if a=true then b else false)=(a && b):=by cases a <;> rfl
theorem ite_or_b (a b:Bool):(if a=true then true else b)=(a || b):=by cases a <;> rfl
theorem ite_and_b' (a b:Bool):(if a=false then b else false)=(!a && b):=by cases a <;> rfl
theorem ite_or_b' (a b:Bool):(if a=false then true else b)=(!a || b):=by cases a <;> rfl
theorem ite_imp_b (a b:Bool):(if a=true then b else true)=(!a || b):=by cases a <;> rfl
theorem ite_and_p (p:Prop) [Decidable p] (b:Bool):(if p then b else false)=(decide p && b):=by by_cases h:p <;> simp [h]
theorem ite_or_p (p:Prop) [Decidable p] (b:Bool):(if p then true else b)=(decide p || b):=by by_cases h:p <;> simp [h]
theorem ite_imp_p (p:Prop) [Decidable p] (b:Bool):(if p then b else true)=(!decide p || b):=by by_cases h:p <;> simp [h]
theorem dec_t (b:Bool) [Decidable (b=true)]:decide (b=true)=b:=by cases b <;> simp
theorem dec_f (b:Bool) [Decidable (b=false)]:decide (b=false) = !b:=by cases b <;> simp
theorem seqB_dec (a b:ByteArray):seqB a b=decide (a=b):=by
 by_cases h:a=b
 ·subst h;simp [seqB]
 ·rw[decide_eq_false h]
  cases e:seqB a b
  ·rfl
  ·exact absurd (seqB_eq e) h
attribute [go_sem] ite_and_p ite_or_p ite_imp_p dec_t dec_f seqB_dec Bool.decide_and Bool.decide_or decide_not
theorem beq_t (b:Bool):(b == true)=b:=by cases b <;> rfl
theorem beq_f (b:Bool):(b == false) = !b:=by cases b <;> rfl
attribute [go_sem] ite_and_b ite_or_b ite_and_b' ite_or_b' ite_imp_b beq_t beq_f Bool.not_not decide_eq_true_eq decide_eq_false_iff_not Bool.and_eq_true Bool.or_eq_true Bool.or_eq_false_iff Bool.and_eq_false_imp Bool.not_eq_true' Bool.not_eq_false'
 Bool.not_eq_true Bool.not_eq_false and_self and_imp
theorem AWp.to {C:Cfg} {c:Code} {Q:AQ} {ρ ρ':Env} {L L':AHeap} (h1:ρ=ρ') (h2:L=L'):AWp C c Q ρ L=AWp C c Q ρ' L':=by rw[h1,h2]
attribute [congr] AWp.to
theorem MVal.to {P:Program} {g g':AV} {args args':List AV} {L L':AHeap} {K:AV→AHeap→Prop} (h1:g=g') (h2:args=args') (h3:L=L'):MVal P g args L K=MVal P g' args' L' K:=by rw[h1,h2,h3]
attribute [congr] MVal.to
theorem GCall.to {P:Program} {p p' c c':Prop} {g g':AV} {args args':List AV} {L L':AHeap} {K:AV→Prop} (h:p=p') (h0:c=c') (h1:g=g') (h2:args=args') (h3:L=L') :
  GCall P p c g args L K=GCall P p' c' g' args' L' K:=by rw[h,h0,h1,h2,h3]
attribute [congr] GCall.to
theorem getD_map {α:Type} {f:α→AV} {l:List α} {k:Nat} (h:k<l.length):(l.map f).getD k .any=f l[k]:=by
 simp [List.getD_eq_getElem?_getD,h]
attribute [go_sem] List.zip_nil_left List.zip_cons_cons List.append_nil List.mem_cons List.not_mem_nil or_false
def ret1 (r:AV):AV→AHeap→Prop:=fun r' L'=>r'=r∧L'=[]
theorem PC.enter {P:Program} {f:FuncId} {fn:Func} {c:Code} {args:List AV} {r:AV} (N:Nat) (rs:List ResultVar) (fz:List Nat) (hf:P.funcs[f]?=some fn) (hN:fn.ntmps=N) (hr:fn.results.toList=rs)
  (hname:(fn.name == "runtime.NumGoroutine")=false) (hb:fn.body=some c) (hok:codeOk N c=true) (hargs:args.length≤N) (h:AWp ⟨P,N,none,fz⟩ c (retQ P rs (ret1 r)) (aenv 0 args) []):PC P f args r:=by
 subst hN;subst hr
 exact MCalls.enter fz hf hname hb hok hargs h
theorem MCalls.enter' {P:Program} {f:FuncId} {fn:Func} {c:Code} {args:List AV} {L:AHeap} {K:AV→AHeap→Prop} (N:Nat) (rs:List ResultVar) (fz:List Nat) (hf:P.funcs[f]?=some fn) (hN:fn.ntmps=N) (hr:fn.results.toList=rs)
  (hname:(fn.name == "runtime.NumGoroutine")=false) (hb:fn.body=some c) (hok:codeOk N c=true) (hargs:args.length≤N) (h:AWp ⟨P,N,none,fz⟩ c (retQ P rs K) (aenv 0 args) L):MCalls P f args L K:=by
 subst hN;subst hr
 exact MCalls.enter fz hf hname hb hok hargs h
def retV (P:Program) (rs:List ResultVar) (m:List Bool) (r:AV) (ρ:Env) (L:AHeap):Prop :=
 match aresults P ρ L rs with
 | some (c,xs)=>c∧Vw (pickT m L) (resAV xs) r
 | none=>False
theorem ret_view {P:Program} {rs:List ResultVar} {r:AV} {ρ:Env} {L:AHeap} (m:List Bool) (h:retV P rs m r ρ L):retK P rs (ret1 r) ρ L:=by
 unfold retK;unfold retV at h
 split at h
 ·rename_i e;(try rw[e]);exact⟨h.1,m,r,[],h.2,.none _,rfl,rfl⟩
 ·exact h.elim
def retE (P:Program) (rs:List ResultVar) (r:AV) (ρ:Env) (L:AHeap):Prop :=
 match aresults P ρ L rs with
 | some (c,xs)=>c∧resAV xs=r
 | none=>False
theorem ret_eq {P:Program} {rs:List ResultVar} {r:AV} {ρ:Env} {L:AHeap} (h:retE P rs r ρ L):retK P rs (ret1 r) ρ L:=by
 refine ret_view [] ?_
 unfold retV;unfold retE at h
 split at h
 ·exact⟨h.1,by rw[h.2];exact .refl _⟩
 ·exact h.elim
def retO (P:Program) (rs:List ResultVar) (K:AV→AHeap→Prop) (ρ:Env) (L:AHeap):Prop :=
 match aresults P ρ L rs with
 | some (c,xs)=>c∧K (resAV xs) L
 | none=>False
theorem ret_own {P:Program} {rs:List ResultVar} {K:AV→AHeap→Prop} {ρ:Env} {L:AHeap} (h:retO P rs K ρ L):retK P rs K ρ L:=by
 unfold retK;unfold retO at h
 split at h
 ·rename_i e;(try rw[e]);exact⟨h.1,[],_,L,.refl _,LVw.refl _,h.2⟩
 ·exact h.elim
theorem map_take_r {α β:Type} (f:α→β) (l:List α) (n:Nat):(l.map f).take n=(l.take n).map f:=List.map_take.symm
theorem map_drop_r {α β:Type} (f:α→β) (l:List α) (n:Nat):(l.map f).drop n=(l.drop n).map f:=List.map_drop.symm
theorem map_append_r {α β:Type} (f:α→β) (l r:List α):l.map f ++ r.map f=(l ++ r).map f:=List.map_append.symm
theorem toNat_1:Int.toNat 1=1:=rfl
theorem toNat_2:Int.toNat 2=2:=rfl
attribute [go_sem] toNat_1 toNat_2
attribute [go_sem] List.take_length map_take_r map_drop_r map_append_r
attribute [go_sem] fillAV placeF Option.isSome_some bnd I64 allocRow Option.some.injEq reduceCtorEq or_true true_or or_false false_or and_false false_and not_true_eq_false
attribute [go_sem] retV retE retO beq_iff_eq imp_self
def retS (P:Program) (rs:List ResultVar) (K:AV→AHeap→Prop) (ρ:Env) (L L2:AHeap):Prop :=
 match aresults P ρ L rs with
 | some (c,xs)=>c∧K (resAV xs) L2
 | none=>False
theorem ret_sub {P:Program} {rs:List ResultVar} {K:AV→AHeap→Prop} {ρ:Env} {L:AHeap} (L2:AHeap) (hs:L2.Sublist L) (h:retS P rs K ρ L L2):retK P rs K ρ L:=by
 unfold retK;unfold retS at h
 split at h
 ·rename_i e;(try rw[e]);exact⟨h.1,[],_,L2,.refl _,LVw.of_sub hs,h.2⟩
 ·exact h.elim
attribute [go_sem] retS
theorem an {a b:Prop} (h:a) (g:b):a∧b:=⟨h,g⟩
theorem Au {a:Prop} (h:a:=by first|exact True.intro|omega|(((repeat' (first|(with_reducible refine And.intro ?_ ?_)|intro _)) <;> first|(with_reducible assumption)|omega);done)):a:=h
theorem As {a:Prop} (h:a:=by first|exact True.intro|omega|(((repeat' (first|(with_reducible refine And.intro ?_ ?_)|intro _)) <;> first|(with_reducible assumption)|omega);done)|(simp;done)|(simp;omega)):a:=h
theorem At {a:Prop} (h:a:=by first|exact True.intro|omega|(((repeat' (first|(with_reducible refine And.intro ?_ ?_)|intro _)) <;> first|(with_reducible assumption)|omega);done)|(simp;done)|(simp;omega)|(intros;simp_all;done)|(intros;simp_all;omega)):a:=h
structure Hid (p:Prop):Prop where
 out:p
theorem Wk {a b:Prop} (g:b) (h:Hid b→a:=by (intro g;(repeat(first|((with_reducible refine AWp.ofC ?_ ?_);exact rfl;simp only[go_sem])|((with_reducible refine an ?_ ?_);exact Au)));exact g.out)):a:=h ⟨g⟩
theorem Sd {a b:Prop} (g:b) (h:Hid b→a:=by (intro g;(repeat((with_reducible refine an ?_ ?_);exact As));exact g.out)):a:=h ⟨g⟩
theorem W1 {p1 a b:Prop} (h1:p1) (g:b) (h:p1→Hid b→a:=by (intro h1 g;(repeat(first|((with_reducible refine AWp.ofC ?_ ?_);exact rfl;simp only[go_sem,h1])|((with_reducible refine an ?_ ?_);exact Au)));exact g.out)):a:=h h1 ⟨g⟩
theorem W2 {p1 p2 a b:Prop} (h1:p1) (h2:p2) (g:b) (h:p1→p2→Hid b→a:=by (intro h1 h2 g;(repeat(first|((with_reducible refine AWp.ofC ?_ ?_);exact rfl;simp only[go_sem,h1,h2])|((with_reducible refine an ?_ ?_);exact Au)));exact g.out)):a:=h h1 h2 ⟨g⟩
theorem W3 {p1 p2 p3 a b:Prop} (h1:p1) (h2:p2) (h3:p3) (g:b) (h:p1→p2→p3→Hid b→a:=by (intro h1 h2 h3 g;(repeat(first|((with_reducible refine AWp.ofC ?_ ?_);exact rfl;simp only[go_sem,h1,h2,h3])|((with_reducible refine an ?_ ?_);exact Au)));exact g.out)):a:=h h1 h2 h3 ⟨g⟩
theorem W4 {p1 p2 p3 p4 a b:Prop} (h1:p1) (h2:p2) (h3:p3) (h4:p4) (g:b) (h:p1→p2→p3→p4→Hid b→a:=by (intro h1 h2 h3 h4 g;(repeat(first|((with_reducible refine AWp.ofC ?_ ?_);exact rfl;simp only[go_sem,h1,h2,h3,h4])|((with_reducible refine an ?_ ?_);exact Au)));exact g.out)):a:=h h1 h2 h3 h4 ⟨g⟩
theorem W5 {p1 p2 p3 p4 p5 a b:Prop} (h1:p1) (h2:p2) (h3:p3) (h4:p4) (h5:p5) (g:b) (h:p1→p2→p3→p4→p5→Hid b→a:=by (intro h1 h2 h3 h4 h5 g;(repeat(first|((with_reducible refine AWp.ofC ?_ ?_);exact rfl;simp only[go_sem,h1,h2,h3,h4,h5])|((with_reducible refine an ?_ ?_);exact Au)));exact g.out)):a:=h h1 h2 h3 h4 h5 ⟨g⟩
theorem W6 {p1 p2 p3 p4 p5 p6 a b:Prop} (h1:p1) (h2:p2) (h3:p3) (h4:p4) (h5:p5) (h6:p6) (g:b) (h:p1→p2→p3→p4→p5→p6→Hid b→a:=by (intro h1 h2 h3 h4 h5 h6 g;(repeat(first|((with_reducible refine AWp.ofC ?_ ?_);exact rfl;simp only[go_sem,h1,h2,h3,h4,h5,h6])|((with_reducible refine an ?_ ?_);exact Au)));exact g.out)):a:=h h1 h2 h3 h4 h5 h6 ⟨g⟩
theorem Gc {p a b:Prop} (h1:p) (g:b) (h:p→Hid b→a:=by (intro h1 g;refine GCall.use _ (fun _=>⟨At,h1.val.use ⟨rfl,rfl⟩⟩) ?_;simp only[go_sem];exact g.out)):a:=h h1 ⟨g⟩
end Go.AL
end
