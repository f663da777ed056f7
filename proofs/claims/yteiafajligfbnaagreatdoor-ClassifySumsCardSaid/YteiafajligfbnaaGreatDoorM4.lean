/- Texts of this claim's proof: AlMix, WTy, WDt, AlFam. No condition. -/
import Derived.Test.YteiafajligfbnaaGreatDoorM3
import Derived.Test.YteiafajligfbnaaGreatDoorProg
section
namespace Go.AL
open Go Go.RowKit
def tOp (o:Oper):Bool :=
 match o.op with
 | .alloc _=>true
 | .box _ _=>true
 | .buildSlice _ _ _=>true
 | .store _ _ _=>true
 | .makeSlice _ _ _=>true
 | .makeMap _ none=>true
 | .mapUpdate _ _ _ _=>true
 | .call c=>match c.callee,c.args.toList,c.argTypes.toList with
  | .builtin .append,[_,_],[_,_]=>true
  | .builtin .copy,[_,_],[_,_]=>true
  | .value _,_,_=>true
  | _,_,_=>false
 | _=>false
def aopX (C:Cfg) (o:Oper) (ρ:Env) (L:AHeap) (K:ARes):Prop :=
 match aval C.P ρ L o.op with
 | some (c,x)=>c∧K (put ρ o.dst x) L
 | none=>if tOp o then aop2 C o ρ L K else False
theorem aopX_aop {C:Cfg} {o:Oper} {ρ:Env} {L:AHeap} {K:ARes} (h:aopX C o ρ L K):aop C o ρ L K:=by
 unfold aopX at h;unfold aop
 cases hv:aval C.P ρ L o.op with
 | some cx=>rw[hv] at h;exact h
 | none =>
  rw[hv] at h
  by_cases ht:tOp o=true
  ·have h:if tOp o then aop2 C o ρ L K else False:=h
   rw[if_pos ht] at h;exact h
  ·have h:if tOp o then aop2 C o ρ L K else False:=h
   rw[if_neg ht] at h;exact h.elim
section
variable {C:Cfg} {o:Oper} {ρ ρ':Env} {L:AHeap} {K K':ARes}
theorem aop2_tr (hag:∀x ∈ o.op.operands,ev ρ' x=ev ρ x) (ht:tOp o=true) (k1:∀x L,K (put ρ o.dst x) L→K' (put ρ' o.dst x) L) (k2:∀s y x L,(∃t x',o.op = .store t (.tmp s) x')→K ((s,y) :: put ρ o.dst x) L→K' ((s,y) :: put ρ' o.dst x) L)
  (h:aop2 C o ρ L K):aop2 C o ρ' L K':=by
 unfold aop2 at *
 split at h
 ·unfold aAlloc at *;split at h
  ·exact⟨h.1,fun b hb=>k1 _ _ (h.2 b hb)⟩
  ·exact h.elim
 ·rename_i t x hop
  rw[hop] at hag
  have e:ev ρ' x=ev ρ x:=hag x (by simp [Op.operands])
  rw[e]
  unfold aBox at *;split at h
  ·refine⟨h.1,h.2.1,?_⟩
   have h:=h.2.2
   split at h
   ·rename_i hz;rw[if_pos hz];exact k1 _ _ h
   ·rename_i hz;rw[if_neg hz];exact fun b hb=>k1 _ _ (h b hb)
  ·exact h.elim
 ·rename_i t len parts hop
  rw[hop] at hag
  have e:(parts.toList.map fun p=>(p.1,ev ρ' p.2))=parts.toList.map fun p=>(p.1,ev ρ p.2):=List.map_congr_left fun p hp=>by
   rw[hag p.2 (by simp only[Op.operands,List.mem_toArray,List.mem_map,Array.mem_map];first|exact⟨p,hp,rfl⟩|exact⟨p,by simpa using hp,rfl⟩)]
  rw[e]
  unfold aBuildSlice at *;split at h
  ·split at h
   ·refine⟨h.1,h.2.1,h.2.2.1,h.2.2.2.1,h.2.2.2.2.1,?_⟩
    have h:=h.2.2.2.2.2
    split at h
    ·rename_i hz;rw[if_pos hz];exact k1 _ _ h
    ·rename_i hz;rw[if_neg hz];exact fun b hb=>k1 _ _ (h b hb)
   ·exact h.elim
  ·exact h.elim
 ·rename_i t p x hop
  have hop':=hop
  rw[hop] at hag
  have e1:ev ρ' p=ev ρ p:=hag p (by simp [Op.operands])
  have e2:ev ρ' x=ev ρ x:=hag x (by simp [Op.operands])
  rw[e2]
  unfold aStore at *
  rw[e1]
  split at h
  ·split at h
   ·refine⟨h.1,h.2.1,h.2.2.1,h.2.2.2.1,h.2.2.2.2.1,h.2.2.2.2.2.1,h.2.2.2.2.2.2.1,h.2.2.2.2.2.2.2.1,?_⟩
    have h:=h.2.2.2.2.2.2.2.2
    split at h
    ·split at h
     ·rename_i hz;rw[if_pos hz];exact k2 _ _ _ _ ⟨_,_,hop'⟩ h
     ·rename_i hz;rw[if_neg hz];exact k1 _ _ h
    ·exact k1 _ _ h
   ·exact h.elim
  ·exact h.elim
 ·rename_i t l c hop
  rw[hop] at hag
  have e1:ev ρ' l=ev ρ l:=hag l (by simp [Op.operands])
  have e2:ev ρ' c=ev ρ c:=hag c (by simp [Op.operands])
  rw[e1,e2]
  unfold aMakeSlice at *;split at h
  ·split at h
   ·refine⟨h.1,h.2.1,h.2.2.1,h.2.2.2.1,h.2.2.2.2.1,h.2.2.2.2.2.1,h.2.2.2.2.2.2.1,?_⟩
    have h:=h.2.2.2.2.2.2.2
    split at h
    ·rename_i hz;rw[if_pos hz];exact k1 _ _ h
    ·rename_i hz;rw[if_neg hz];exact fun b hb=>k1 _ _ (h b hb)
   ·exact h.elim
  ·exact h.elim
 ·exact fun b hb=>k1 _ _ (h b hb)
 ·rename_i cl hop
  rw[hop] at hag
  have ha:∀x ∈ cl.args.toList,ev ρ' x=ev ρ x:=fun x hx=>hag x (by simp only[Op.operands,Call.operands,Array.mem_append];exact .inr (by simpa using hx))
  split at h
  ·rename_i s x t t' h0 hx ht'
   have e1:ev ρ' s=ev ρ s:=ha s (by rw[hx];simp)
   have e2:ev ρ' x=ev ρ x:=ha x (by rw[hx];simp)
   rw[e1,e2]
   split at h
   ·rename_i e;rw[if_pos e]
    unfold aAppend at *;split at h
    ·split at h
     ·split at h
      ·refine⟨h.1,h.2.1,h.2.2.1,h.2.2.2.1,h.2.2.2.2.1,?_⟩
       have h:=h.2.2.2.2.2
       split at h
       ·exact⟨h.1,fun hy=>k1 _ _ (h.2.1 hy),fun hy b c hb hc=>k1 _ _ (h.2.2 hy b c hb hc)⟩
       ·split at h
        ·exact⟨h.1,h.2.1,h.2.2.1,h.2.2.2.1,h.2.2.2.2.1,h.2.2.2.2.2.1,fun b c hb hc=>k1 _ _ (h.2.2.2.2.2.2 b c hb hc)⟩
        ·exact h.elim
       ·split at h
        ·exact⟨h.1,h.2.1,h.2.2.1,h.2.2.2.1,h.2.2.2.2.1,h.2.2.2.2.2.1,fun hc=>k1 _ _ (h.2.2.2.2.2.2.1 hc),fun b c hb hc=>k1 _ _ (h.2.2.2.2.2.2.2 b c hb hc)⟩
        ·exact h.elim
       ·exact h.elim
      ·exact h.elim
     ·exact h.elim
    ·exact h.elim
   ·rename_i e;rw[if_neg e]
    unfold aGrow at *;split at h
    ·split at h
     ·exact⟨h.1,h.2.1,h.2.2.1,h.2.2.2.1,h.2.2.2.2.1,h.2.2.2.2.2.1,h.2.2.2.2.2.2.1,fun b c hb hc=>k1 _ _ (h.2.2.2.2.2.2.2 b c hb hc)⟩
     ·exact h.elim
    ·exact h.elim
  ·rename_i s x t t' h0 hx ht'
   have e1:ev ρ' s=ev ρ s:=ha s (by rw[hx];simp)
   have e2:ev ρ' x=ev ρ x:=ha x (by rw[hx];simp)
   rw[e1,e2]
   unfold aCopy at *;split at h
   ·split at h
    ·split at h
     ·refine⟨h.1,h.2.1,h.2.2.1,h.2.2.2.1,?_⟩
      have h:=h.2.2.2.2
      split at h
      ·split at h
       ·exact⟨h.1,h.2.1,h.2.2.1,k1 _ _ h.2.2.2⟩
       ·exact h.elim
      ·exact h.elim
     ·exact h.elim
    ·exact h.elim
   ·exact h.elim
  ·rename_i s t h0 hx ht'
   have e1:ev ρ' s=ev ρ s:=ha s (by rw[hx];simp)
   rw[e1]
   unfold aClear at *;split at h
   ·split at h
    ·refine⟨h.1,h.2.1,h.2.2.1,?_⟩
     have h:=h.2.2.2
     split at h
     ·split at h
      ·exact⟨h.1,h.2.1,h.2.2.1,k1 _ _ h.2.2.2⟩
      ·exact h.elim
     ·exact h.elim
    ·exact h.elim
   ·exact h.elim
  ·rename_i l tys g h0
   have e0:ev ρ' g=ev ρ g:=hag g (by simp [Op.operands,Call.operands,h0])
   have e1:cl.args.toList.map (ev ρ')=cl.args.toList.map (ev ρ):=List.map_congr_left ha
   have e2:(cl.args.toList.map fun x=>(fo (ev ρ' x)).2)=cl.args.toList.map fun x=>(fo (ev ρ x)).2:=List.map_congr_left fun x hx=>by rw[ha x hx]
   rw[e0,e1,e2]
   exact⟨h.1,h.2.1,h.2.2.mono fun r L hh=>k1 _ _ hh⟩
  ·rename_i hn1 hn2 hn3
   exfalso
   simp only[tOp,hop] at ht
   cases ht
 ·rename_i op t x y ty hop;simp [tOp,hop] at ht
 ·rename_i t m k x hop
  rw[hop] at hag
  have e1:ev ρ' m=ev ρ m:=hag m (by simp [Op.operands])
  have e2:ev ρ' k=ev ρ k:=hag k (by simp [Op.operands])
  have e3:ev ρ' x=ev ρ x:=hag x (by simp [Op.operands])
  rw[e1,e2,e3]
  unfold aMapUpdate at *
  split at h
  ·split at h
   ·exact⟨h.1,h.2.1,h.2.2.1,h.2.2.2.1,h.2.2.2.2.1,k1 _ _ h.2.2.2.2.2⟩
   ·exact h.elim
  ·exact h.elim
 ·rename_i t m k x hop;simp [tOp,hop] at ht
 ·rename_i hn1 hn2 hn3 hn4 hn5 hn6 hn7 hn8 hn9 hn10
  exfalso
  unfold tOp at ht
  split at ht
  ·rename_i e;exact hn1 _ e
  ·rename_i e;exact hn2 _ _ e
  ·rename_i e;exact hn3 _ _ _ e
  ·rename_i e;exact hn4 _ _ _ e
  ·rename_i e;exact hn5 _ _ _ e
  ·rename_i e;exact hn6 _ e
  ·rename_i e;exact hn9 _ _ _ _ e
  ·rename_i e;exact hn7 _ e
  ·cases ht
theorem aopX_tr (hag:∀x ∈ o.op.operands,ev ρ' x=ev ρ x) (k1:∀x L,K (put ρ o.dst x) L→K' (put ρ' o.dst x) L) (k2:∀s y x L,(∃t x',o.op = .store t (.tmp s) x')→K ((s,y) :: put ρ o.dst x) L→K' ((s,y) :: put ρ' o.dst x) L)
  (h:aopX C o ρ L K):aopX C o ρ' L K':=by
 unfold aopX at *
 rw[aval_congr hag]
 cases hv:aval C.P ρ L o.op with
 | some cx=>rw[hv] at h;exact⟨h.1,k1 _ _ h.2⟩
 | none =>
  rw[hv] at h
  by_cases ht:tOp o=true
  ·have h:if tOp o then aop2 C o ρ L K else False:=h
   rw[if_pos ht] at h
   show if tOp o then aop2 C o ρ' L K' else False
   rw[if_pos ht]
   exact aop2_tr hag ht k1 k2 h
  ·have h:if tOp o then aop2 C o ρ L K else False:=h
   rw[if_neg ht] at h;exact h.elim
end
theorem aLoad_nil {P:Program} {t:TypeId} {p:AV} {r:Prop × AV} (h:aLoad P [] t p=some r) (L:AHeap):aLoad P L t p=some r:=by
 unfold aLoad at *
 split at h
 ·cases h
 ·split at h
  ·exact h
  ·cases h
  ·cases h
theorem aLen_nil {P:Program} {t:TypeId} {x:AV} {r:Prop × AV} (h:aLen P [] t x=some r) (L:AHeap):aLen P L t x=some r:=by
 unfold aLen at *
 split at h
 ·exact h
 ·exact h
 ·exact h
 ·exact h
 ·split at h
  ·exact h
  ·cases h
  ·exact h
  ·cases h
 ·cases h
theorem w1_nil {x:AV} {f g:AV→Option (Prop × AV)} {r:Prop × AV} (h:w1 x f=some r) (hfg:∀y r,f y=some r→g y=some r):w1 x g=some r:=by
 unfold w1 at *
 split at h
 ·rename_i c y hf;rw[hfg _ _ hf];exact h
 ·cases h
theorem w2_nil {x y:AV} {f g:AV→AV→Option (Prop × AV)} {r:Prop × AV} (h:w2 x y f=some r) (hfg:∀y z r,f y z=some r→g y z=some r):w2 x y g=some r:=by
 unfold w2 at *
 split at h
 ·rename_i c z hf;rw[hfg _ _ _ hf];exact h
 ·cases h
theorem mapOf_nil {m:AV} {r:List Value × List AV} (h:mapOf [] m=some r) (L:AHeap):mapOf L m=some r:=by
 unfold mapOf at *
 split at h
 ·cases h
 ·exact h
 ·exact h
 ·cases h
theorem aLookup_nil {P:Program} {t:TypeId} {ok:Bool} {m k:AV} {r:Prop × AV} (h:aLookup P [] t ok m k=some r) (L:AHeap):aLookup P L t ok m k=some r:=by
 unfold aLookup at *
 split at h
 ·split at h
  ·rename_i e1 e2 e3 e4
   rw[e1,e2,e3,mapOf_nil e4 L];exact h
  ·cases h
 ·cases h
theorem srcOf_nil {k:Nat} {x:AV} {r:Prop × List AV} (h:srcOf [] k x=some r) (L:AHeap):srcOf L k x=some r:=by
 unfold srcOf at *
 split at h
 ·exact h
 ·cases h
 ·exact h
 ·cases h
theorem aConvL_nil {P:Program} {s d:TypeId} {x:AV} {r:Prop × AV} (h:aConvL P [] s d x=some r) (L:AHeap):aConvL P L s d x=some r:=by
 unfold aConvL at *
 split at h
 ·split at h
  ·cases hs:srcOf [] 1 x with
   | none=>rw[hs] at h;cases h
   | some p=>rw[hs] at h;rw[srcOf_nil hs L];exact h
  ·cases h
 ·exact h
theorem aval_nil {P:Program} {ρ:Env} {op:Op} {r:Prop × AV} (h:aval P ρ [] op=some r) (L:AHeap):aval P ρ L op=some r:=by
 cases op with
 | load t x=>exact w1_nil h fun y r hy=>aLoad_nil hy L
 | lookup t m k ok=>exact w2_nil h fun y z r hy=>aLookup_nil hy L
 | convert s d x=>exact w1_nil h fun y r hy=>aConvL_nil hy L
 | call c =>
  unfold aval at *
  dsimp only at *
  split at h
  ·exact w1_nil h fun y r hy=>aLen_nil hy L
  ·exact h
  ·exact h
  ·exact h
  ·cases h
 | makeFunc fn first cap=>cases fn <;> exact h
 | slice t x lo hi mx=>cases mx <;> exact h
 | _=>exact h
def YldF (C:Cfg) (ops:Array Oper) (i:Nat) (o:Oper) (x:AV) (ρ:Env):Prop :=
 ∀ρ' L,(∀t ∈ o.looksAt ops,get ρ' t=get ρ t)→GOp C ops i ρ' L fun ρ2 L2=>ρ2=put ρ' o.dst x∧L2=L
def aFz (C:Cfg) (o:Oper) (ρ:Env):Option (Prop × AV) :=
 match o.op with
 | .makeSlice t l c=>match tinfo C.P t,(fo (ev ρ l)).2,(fo (ev ρ c)).2 with
  | some ⟨.slice e,_,_,_⟩,.v (.int _ l'),.v (.int _ c')=>match tinfo C.P e with
   | some ei=>some (isFz C.fz o.dst=true∧((fo (ev ρ l)).1∧(fo (ev ρ c)).1)∧0≤l'∧l'≤c'∧ei.bytes * c'≤281474976710656∧c'≤9223372036854775807∧0<ei.size∧elOk ei.size ei.zero,.sl ei.size (List.replicate l'.toNat ei.zero))
   | none=>none
  | _,_,_=>none
 | .buildSlice t len parts=>match tinfo C.P t with
  | some ⟨.slice e,_,_,_⟩=>match tinfo C.P e with
   | some ei=>some (isFz C.fz o.dst=true∧fos (parts.toList.map fun p=>ev ρ p.2)∧len * ei.size≤16777216∧0<ei.size∧elOk ei.size ei.zero∧partsOk len ei.size (parts.toList.map fun p=>(p.1,(fo (ev ρ p.2)).2)),
     .sl ei.size (setAll (List.replicate len ei.zero) (parts.toList.map fun p=>(p.1,(fo (ev ρ p.2)).2))))
   | none=>none
  | _=>none
 | _=>none
theorem aFz_sound {C:Cfg} {o:Oper} {ρ:Env} {c:Prop} {x:AV} (hd:dstOk C o) (h:aFz C o ρ=some (c,x)) (hc:c) (L:AHeap):AOp C o ρ L fun ρ2 L2=>ρ2=put ρ o.dst x∧L2=L:=by
 unfold aFz at h
 split at h
 ·rename_i t l c' ho
  refine aMakeSlice_sound ho hd ?_
  unfold aMakeSlice
  split at h
  ·rename_i e _ _ _ kl ll kc cc hti hl hc'
   split at h
   ·rename_i ei hei
    simp only[Option.some.injEq,Prod.mk.injEq] at h
    obtain⟨rfl,rfl⟩:=h
    simp only[hti,hl,hc',hei]
    exact⟨hc.2.1,hc.2.2.1,hc.2.2.2.1,hc.2.2.2.2.1,hc.2.2.2.2.2.1,hc.2.2.2.2.2.2.1,hc.2.2.2.2.2.2.2,by rw[if_pos hc.1];simp⟩
   ·cases h
  ·cases h
 ·rename_i t len parts ho
  refine aBuildSlice_sound ho hd ?_
  unfold aBuildSlice
  split at h
  ·rename_i e _ _ _ hti
   split at h
   ·rename_i ei hei
    simp only[Option.some.injEq,Prod.mk.injEq] at h
    obtain⟨rfl,rfl⟩:=h
    simp only[hti,hei]
    obtain⟨h1,h2,h3,h4,h5,h6⟩:=hc
    refine⟨by simpa [List.map_map,Function.comp_def] using h2,h3,h4,h5,by simpa [List.map_map,Function.comp_def] using h6,?_⟩
    rw[if_pos h1]
    simp [List.map_map,Function.comp_def]
   ·cases h
  ·cases h
 ·cases h
theorem aFz_congr {C:Cfg} {o:Oper} {ρ ρ':Env} (hag:∀x ∈ o.op.operands,ev ρ' x=ev ρ x):aFz C o ρ'=aFz C o ρ:=by
 unfold aFz
 split
 ·rename_i t l c hop
  rw[hop] at hag
  rw[hag l (by simp [Op.operands]),hag c (by simp [Op.operands])]
 ·rename_i t len parts hop
  rw[hop] at hag
  have e1:(parts.toList.map fun p=>ev ρ' p.2)=parts.toList.map fun p=>ev ρ p.2:=List.map_congr_left fun p hp=>by
   rw[hag p.2 (by simp only[Op.operands,List.mem_toArray,List.mem_map,Array.mem_map];first|exact⟨p,hp,rfl⟩|exact⟨p,by simpa using hp,rfl⟩)]
  have e2:(parts.toList.map fun p=>(p.1,(fo (ev ρ' p.2)).2))=parts.toList.map fun p=>(p.1,(fo (ev ρ p.2)).2):=List.map_congr_left fun p hp=>by
   rw[hag p.2 (by simp only[Op.operands,List.mem_toArray,List.mem_map,Array.mem_map];first|exact⟨p,hp,rfl⟩|exact⟨p,by simpa using hp,rfl⟩)]
  rw[e1,e2]
 ·rfl
def aqF (C:Cfg) (all:List Oper) (o:Oper) (ρ:Env) (K:Env→Prop):Prop :=
 match o.guard with
 | none=>match aval C.P ρ [] o.op with
  | some (c,x)=>c∧K (put ρ o.dst x)
  | none=>match o.op with
   | .call c=>match c.callee with
    | .value g=>GCall C.P True ((fo (ev ρ g)).1∧fos (c.args.toList.map (ev ρ))) (fo (ev ρ g)).2 (c.args.toList.map fun x=>(fo (ev ρ x)).2) [] (putQ K ρ o.dst)
    | _=>False
   | _=>match aFz C o ρ with
    | some (c,x)=>c∧K (put ρ o.dst x)
    | none=>False
 | some (j,want)=>match gval all ρ j want with
  | some b=>match aval C.P ρ [] o.op with
   | some (c,x)=>(b=want→c)∧K (put ρ o.dst (.cond (b == want) x))
   | none=>match o.op with
    | .call c=>match c.callee with
     | .value g=>GCall C.P (b=want) ((fo (ev ρ g)).1∧fos (c.args.toList.map (ev ρ))) (fo (ev ρ g)).2 (c.args.toList.map fun x=>(fo (ev ρ x)).2) [] (putQC K ρ o.dst (b == want))
     | _=>False
    | _=>match aFz C o ρ with
     | some (c,x)=>(b=want→c)∧K (put ρ o.dst (.cond (b == want) x))
     | none=>b ≠ want∧K (put ρ o.dst (.cond (b == want) .any))
  | none=>False
section
variable {C:Cfg} {ops:Array Oper}
theorem MVal.any {P:Program} {g:AV} {args:List AV} {r:AV} (h:MVal P g args [] fun r' L'=>r'=r∧L'=[]) (L:AHeap):MVal P g args L fun r' L'=>r'=r∧L'=L:=by
 have:=MVal.frame (Lr:=L) h
 exact this.mono fun r' L' ⟨L1,e,e1,e2⟩=>by subst e1 e2;exact⟨rfl,by simpa using e⟩
theorem aqF_yields {i:Nat} {o:Oper} {ρ:Env} {K:Env→Prop} (hi:ops[i]?=some o) (hok:operOk C.N o=true) (h:aqF C ops.toList o ρ K):∃x,YldF C ops i o x ρ∧K (put ρ o.dst x):=by
 have hd:=operOk_dst hok
 have hdef:=operOk_def hok
 unfold aqF at h
 split at h
 ·rename_i hg
  split at h
  ·rename_i c x hv
   exact⟨x,fun ρ' L hag=>AOp.gop hi hg (aval_sound (by rw[aval_congr (agree_ops hag)];exact aval_nil hv L) h.1 hd hdef),h.2⟩
  ·split at h
   ·rename_i cl ho
    split at h
    ·rename_i g h0
     obtain⟨r,h1,h2⟩:=h
     refine⟨r,fun ρ' L hag=>AOp.gop hi hg ?_,h2⟩
     have hag':=agree_ops hag
     rw[ho] at hag'
     obtain⟨e1,e2,e3⟩:=call_congr h0 hag'
     exact call_sound ho h0 hd (by rw[e1,e2,e3];exact⟨(h1 trivial).1.1,(h1 trivial).1.2,(h1 trivial).2.any L⟩)
    ·exact h.elim
   ·split at h
    ·rename_i c x hz
     exact⟨x,fun ρ' L hag=>AOp.gop hi hg (aFz_sound hd (by rw[aFz_congr (agree_ops hag)];exact hz) h.1 L),h.2⟩
    ·exact h.elim
 ·rename_i j want hg
  split at h
  ·rename_i b hv
   split at h
   ·rename_i c x ha
    refine⟨_,fun ρ' L hag=>GOp.of_cond hi hg (by rw[agree_guard hag hg];exact hv) hd fun hb=>aval_sound (by rw[aval_congr (agree_ops hag)];exact aval_nil ha L) (h.1 hb) hd hdef,h.2⟩
   ·split at h
    ·rename_i cl ho
     split at h
     ·rename_i g h0
      obtain⟨r,h1,h2⟩:=h
      refine⟨_,fun ρ' L hag=>GOp.of_cond hi hg (by rw[agree_guard hag hg];exact hv) hd fun hb => ?_,h2⟩
      have hag':=agree_ops hag
      rw[ho] at hag'
      obtain⟨e1,e2,e3⟩:=call_congr h0 hag'
      exact call_sound ho h0 hd (by rw[e1,e2,e3];exact⟨(h1 hb).1.1,(h1 hb).1.2,(h1 hb).2.any L⟩)
     ·exact h.elim
    ·split at h
     ·rename_i c x hz
      exact⟨_,fun ρ' L hag=>GOp.of_cond hi hg (by rw[agree_guard hag hg];exact hv) hd fun hb=>aFz_sound hd (by rw[aFz_congr (agree_ops hag)];exact hz) (h.1 hb) L,h.2⟩
     ·exact⟨_,fun ρ' L hag=>GOp.of_cond hi hg (by rw[agree_guard hag hg];exact hv) hd fun hb=>absurd hb h.1,h.2⟩
  ·exact h.elim
end
def gopX (C:Cfg) (all:List Oper) (o:Oper) (ρ:Env) (L:AHeap) (K:ARes):Prop :=
 match o.guard with
 | none=>aopX C o ρ L K
 | some (j,want)=>match gval all ρ j want with
  | some b=>match aval C.P ρ L o.op with
   | some (c,x)=>(b=want→c)∧K (put ρ o.dst (.cond (b == want) x)) L
   | none=>match o.op with
    | .call c=>match c.callee with
     | .value g=>GCall C.P (b=want) ((fo (ev ρ g)).1∧fos (c.args.toList.map (ev ρ))) (fo (ev ρ g)).2 (c.args.toList.map fun x=>(fo (ev ρ x)).2) L (putC K ρ o.dst (b == want) L)
     | _=>False
    | _=>False
  | none=>False
theorem gopX_some {C:Cfg} {ops:Array Oper} {i:Nat} {o:Oper} {ρ:Env} {L:AHeap} {K:ARes} {j:Nat} {want:Bool} (hi:ops[i]?=some o) (hok:operOk C.N o=true) (hg:o.guard=some (j,want)) (h:gopX C ops.toList o ρ L K) :
  ∃x,K (put ρ o.dst x) L∧∀ρ',(∀t ∈ o.looksAt ops,get ρ' t=get ρ t)→GOp C ops i ρ' L fun ρ2 L2=>ρ2=put ρ' o.dst x∧L2=L:=by
 have hd:=operOk_dst hok
 have hdef:=operOk_def hok
 unfold gopX at h
 rw[hg] at h
 dsimp only at h
 split at h
 ·rename_i b hv
  split at h
  ·rename_i c x ha
   exact⟨_,h.2,fun ρ' hag=>GOp.of_cond hi hg (by rw[agree_guard hag hg];exact hv) hd fun hb=>aval_sound (by rw[aval_congr (agree_ops hag)];exact ha) (h.1 hb) hd hdef⟩
  ·split at h
   ·rename_i cl ho
    split at h
    ·rename_i g h0
     obtain⟨r,h1,h2⟩:=h
     refine⟨_,h2,fun ρ' hag=>GOp.of_cond hi hg (by rw[agree_guard hag hg];exact hv) hd fun hb => ?_⟩
     have hag':=agree_ops hag
     rw[ho] at hag'
     obtain⟨e1,e2,e3⟩:=call_congr h0 hag'
     exact call_sound ho h0 hd (by rw[e1,e2,e3];exact⟨(h1 hb).1.1,(h1 hb).1.2,(h1 hb).2⟩)
    ·exact h.elim
   ·exact h.elim
 ·exact h.elim
def dstOf (ops:Array Oper) (i:Nat):Option Nat:=(ops[i]?).bind (·.dst)
def predsOf (o:Oper):List Nat:=(o.after.toList.filter (Region.binds .any)).map (·.on)
def touchOf (o:Oper):List Nat:=o.dst.toList ++ (match o.op with | .store _ (.tmp s) _=>[s]|_=>[])
def ascend:List Nat→Bool
 | []=>true
 | i :: r=>r.all (fun j=>decide (i<j)) && ascend r
def mixOk (ops:Array Oper) (qs:List Nat):Bool :=
 ascend qs && qs.all (fun q=>decide (q<ops.size)) &&
 (List.range ops.size).all fun i=>match ops[i]? with
  | some o=>(predsOf o).all (fun p=>decide (p<i)) &&
    qs.all (fun q=>match dstOf ops q with
     | some d=>(!(o.looksAt ops).contains d || (predsOf o).contains q) && (i == q || !(o.dst == some d))
     | none=>true) &&
    (qs.contains i || qs.all fun q=>match ops[q]? with
     | some oq=>(touchOf o).all fun s=>(!(oq.looksAt ops).contains s || (predsOf o).contains q) && !(oq.dst == some s)
     | none=>true)
  | none=>true
def OT.apX (C:Cfg) (all:List Oper) (K:ARes):OT→Env→AHeap→Prop
 | .done,_,_=>True
 | .step i t r,ρ,L=>(match all[i]? with|some o=>gopX C all o ρ L (fun ρ L=>if t.isDone then K ρ L else OT.apX C all K t ρ L)|none=>False)∧OT.apX C all K r ρ L
def OT.nxX (C:Cfg) (all:List Oper) (K:ARes) (t:OT) (ρ:Env) (L:AHeap):Prop:=if t.isDone then K ρ L else OT.apX C all K t ρ L
theorem OT.apX_done (C:Cfg) (all:List Oper) (K:ARes) (ρ:Env) (L:AHeap):OT.apX C all K .done ρ L=True:=rfl
theorem OT.apX_step (C:Cfg) (all:List Oper) (K:ARes) (i:Nat) (t r:OT) (ρ:Env) (L:AHeap) :
  OT.apX C all K (.step i t r) ρ L=((match all[i]? with|some o=>gopX C all o ρ L (OT.nxX C all K t)|none=>False)∧OT.apX C all K r ρ L):=rfl
theorem OT.nxX_done (C:Cfg) (all:List Oper) (K:ARes) (ρ:Env) (L:AHeap):OT.nxX C all K .done ρ L=K ρ L:=rfl
theorem OT.nxX_step (C:Cfg) (all:List Oper) (K:ARes) (i:Nat) (t r:OT) (ρ:Env) (L:AHeap):OT.nxX C all K (.step i t r) ρ L=OT.apX C all K (.step i t r) ρ L:=rfl
def aqRun (C:Cfg) (all:List Oper):List Nat→(Env→Prop)→Env→Prop
 | [],K,ρ=>K ρ
 | i :: r,K,ρ=>match all[i]? with
  | some o=>aqF C all o ρ (aqRun C all r K)
  | none=>False
def fullL (n:Nat) (qs:List Nat):Array Bool:=qs.foldl (fun l q=>l.setIfInBounds q true) (Array.replicate n false)
section
variable {C:Cfg} {ops:Array Oper}
def QFact (C:Cfg) (ops:Array Oper) (ρ:Env) (q:Nat):Prop:=∃o x,ops[q]?=some o∧YldF C ops q o x ρ∧∀d,o.dst=some d→get ρ d=x
theorem YldF.of_agree {i:Nat} {o:Oper} {x:AV} {ρ ρ':Env} (h:YldF C ops i o x ρ) (he:∀t ∈ o.looksAt ops,get ρ' t=get ρ t):YldF C ops i o x ρ' :=
 fun ρ2 L hag=>h ρ2 L fun t ht=>(hag t ht).trans (he t ht)
theorem ascend_cons {i:Nat} {r:List Nat} (h:ascend (i :: r)=true):(∀j ∈ r,i<j)∧ascend r=true:=by
 simp only[ascend,Bool.and_eq_true,List.all_eq_true,decide_eq_true_eq] at h;exact h
theorem mix_at {qs:List Nat} (h:mixOk ops qs=true) {i:Nat} {o:Oper} (hi:ops[i]?=some o) :
  (∀p ∈ predsOf o,p<i)∧(∀q ∈ qs,∀d,dstOf ops q=some d→(d ∈ o.looksAt ops→q ∈ predsOf o)∧(i ≠ q→o.dst ≠ some d)) ∧
  (i ∉ qs→∀q ∈ qs,∀oq,ops[q]?=some oq→∀s ∈ touchOf o,(s ∈ oq.looksAt ops→q ∈ predsOf o)∧oq.dst ≠ some s):=by
 unfold mixOk at h
 simp only[Bool.and_eq_true,List.all_eq_true] at h
 have hlt:i<ops.size:=(Array.getElem?_eq_some_iff.1 hi).1
 have h3:=h.2 i (List.mem_range.2 hlt)
 rw[hi] at h3
 simp only[Bool.and_eq_true,List.all_eq_true,decide_eq_true_eq] at h3
 refine⟨h3.1.1,fun q hq d hd => ?_,fun hiq => ?_⟩
 ·have:=h3.1.2 q hq
  rw[hd] at this
  simp only[Bool.and_eq_true,Bool.or_eq_true,Bool.not_eq_true',List.contains_eq_mem,decide_eq_true_eq,decide_eq_false_iff_not,beq_iff_eq,beq_eq_false_iff_ne,ne_eq] at this
  exact⟨fun hm=>this.1.resolve_left (fun hn=>hn hm),fun hne=>this.2.resolve_left hne⟩
 ·have h4:=h3.2
  simp only[Bool.or_eq_true,List.contains_eq_mem,decide_eq_true_eq,List.all_eq_true] at h4
  have h4:=h4.resolve_left hiq
  intro q hq oq hoq s hs
  have:=h4 q hq
  rw[hoq] at this
  simp only[List.all_eq_true,Bool.and_eq_true,Bool.or_eq_true,Bool.not_eq_true',List.contains_eq_mem,decide_eq_true_eq,decide_eq_false_iff_not,beq_eq_false_iff_ne,ne_eq] at this
  exact⟨fun hm=>(this s hs).1.resolve_left (fun hn=>hn hm),(this s hs).2⟩
theorem mix_asc {qs:List Nat} (h:mixOk ops qs=true):ascend qs=true∧∀q ∈ qs,q<ops.size:=by
 unfold mixOk at h
 simp only[Bool.and_eq_true,List.all_eq_true,decide_eq_true_eq] at h
 exact h.1
theorem aqRun_facts {qs0:List Nat} (hm:mixOk ops qs0=true) (hok:ops.toList.all (operOk C.N)=true):∀(qs:List Nat) (ρ:Env) (K:Env→Prop),(∀q ∈ qs,q ∈ qs0)→ascend qs=true→aqRun C ops.toList qs K ρ →
  ∃ρq,K ρq∧(∀q ∈ qs,QFact C ops ρq q)∧∀s,(∀q ∈ qs,dstOf ops q ≠ some s)→get ρq s=get ρ s
 | [],ρ,K,_,_,h=>⟨ρ,h,fun q hq=>(by cases hq),fun _ _=>rfl⟩
 | i :: r,ρ,K,hsub,hasc,h=>by
  obtain⟨hlt,hasc'⟩:=ascend_cons hasc
  simp only[aqRun] at h
  cases ho:ops.toList[i]? with
  | none=>rw[ho] at h;exact h.elim
  | some o =>
   rw[ho] at h
   have ho':ops[i]?=some o:=by simpa using ho
   obtain⟨x,hy,hK⟩:=aqF_yields ho' (List.all_eq_true.1 hok o (List.mem_of_getElem? ho)) h
   obtain⟨ρq,h1,h2,h3⟩:=aqRun_facts hm hok r _ K (fun q hq=>hsub q (List.mem_cons_of_mem _ hq)) hasc' hK
   obtain⟨p1,p2,_⟩:=mix_at hm ho'
   have hself:∀d,o.dst=some d→d ∉ o.looksAt ops:=fun d hd hm'=>by
    have:=(p2 i (hsub i List.mem_cons_self) d (by simp [dstOf,ho',hd])).1 hm'
    exact absurd (p1 i this) (Nat.lt_irrefl i)
   refine⟨ρq,h1,fun q hq => ?_,fun s hs => ?_⟩
   ·rcases List.mem_cons.1 hq with rfl|hq
    ·refine⟨o,x,ho',hy.of_agree fun t ht => ?_,fun d hd => ?_⟩
     ·rw[h3 t fun q' hq' he => ?_,get_put,if_neg fun he=>hself t he ht]
      have:=(p2 q' (hsub q' (List.mem_cons_of_mem _ hq')) t he).1 ht
      have:=p1 q' this;have:=hlt q' hq';omega
     ·rw[h3 d fun q' hq' he => ?_,get_put,if_pos hd]
      exact(p2 q' (hsub q' (List.mem_cons_of_mem _ hq')) d he).2 (by have:=hlt q' hq';omega) hd
    ·exact h2 q hq
   ·rw[h3 s fun q hq=>hs q (List.mem_cons_of_mem _ hq),get_put,if_neg]
    have:=hs i List.mem_cons_self
    simpa [dstOf,ho'] using this
def mask (ops:Array Oper) (qs:List Nat) (listed:Array Bool) (ρ:Env):Env:=((qs.filter fun q=>listed.getD q true == false).filterMap (dstOf ops)).map (fun d=>(d,AV.any)) ++ ρ
theorem get_anys (l:List Nat) (ρ:Env) (s:Nat):get (l.map (fun d=>(d,AV.any)) ++ ρ) s=if s ∈ l then .any else get ρ s:=by
 induction l with
 | nil=>simp
 | cons d l ih =>
  simp only[List.map_cons,List.cons_append,get,List.mem_cons]
  by_cases h:s=d
  ·simp [h]
  ·simp [h,ih]
theorem mask_or (qs:List Nat) (listed:Array Bool) (ρ:Env) (s:Nat):(get (mask ops qs listed ρ) s = .any∧∃q ∈ qs,listed.getD q true=false∧dstOf ops q=some s)∨(get (mask ops qs listed ρ) s=get ρ s∧∀q ∈ qs,listed.getD q true=false→dstOf ops q ≠ some s):=by
 unfold mask
 rw[get_anys]
 split
 ·rename_i h
  refine .inl ⟨rfl,?_⟩
  obtain⟨q,hq,hd⟩:=List.mem_filterMap.1 h
  obtain⟨h1,h2⟩:=List.mem_filter.1 hq
  exact⟨q,h1,by simpa using h2,hd⟩
 ·rename_i h
  refine .inr ⟨rfl,fun q hq hl hd=>h ?_⟩
  exact List.mem_filterMap.2 ⟨q,List.mem_filter.2 ⟨hq,by simpa using hl⟩,hd⟩
theorem mask_out {qs:List Nat} {listed:Array Bool} {ρ:Env} {s:Nat} (h:∀q ∈ qs,listed.getD q true=false→dstOf ops q ≠ some s):get (mask ops qs listed ρ) s=get ρ s:=by
 rcases mask_or (ops:=ops) qs listed ρ s with ⟨_,q,h1,h2,h3⟩|h'
 ·exact absurd h3 (h q h1 h2)
 ·exact h'.1
theorem OT.isDone_iff {T:OT} (h:T.alts=[]):T = .done:=by cases T with|done=>rfl|step i t r=>cases h
theorem getD_tf {listed:Array Bool} {i:Nat} (h:listed.getD i false=true):listed.getD i true=true:=by
 by_cases hi:i<listed.size
 ·simpa [Array.getD,hi] using h
 ·simp [Array.getD,hi] at h
theorem getD_ft {listed:Array Bool} {i:Nat} (hi:i<listed.size) (h:listed.getD i true=true):listed.getD i false=true:=by simpa [Array.getD,hi] using h
theorem mix_sound {qs:List Nat} (hm:mixOk ops qs=true) (hok:ops.toList.all (operOk C.N)=true) {K:ARes} {n:Nat} {w0:World} {M A0:Foot} {Q:Exit→Act→World→Prop} (hQ:∀a w,post w0 M A0 C.N K a w→Q .normal a w) :
  ∀(f:Nat) (T:OT) (g:Nat) (listed listedF:Array Bool) (ρT:Env) (L:AHeap) (a:Act) (w:World),
   T.alts=Region.ready .any ops listedF→T.ok ops g listedF=true→listed.size=ops.size→listedF.size=ops.size →
   (∀i,i ∉ qs→listed.getD i true=listedF.getD i true)→(∀q ∈ qs,listedF.getD q true=true) →
   (∀l:List Nat,l.Nodup→(∀i ∈ l,listed.getD i true=false)→l.length≤f) →
   (∀q ∈ qs,listed.getD q true=false→QFact C ops ρT q)→OT.nxX C ops.toList K T ρT L→St w0 M A0 C.N (mask ops qs listed ρT) L a w →
   wpAnyIn (Fw C.r) n C.P .any ops Q f listed a w:=by
 -- where nothing is ready,all is done
 have fin:∀(T:OT) (listed listedF:Array Bool) (ρT:Env) (L:AHeap) (a:Act) (w:World),T.alts=Region.ready .any ops listedF→listed.size=ops.size→(∀i,i ∉ qs→listed.getD i true=listedF.getD i true)→(∀q ∈ qs,listedF.getD q true=true) →
   OT.nxX C ops.toList K T ρT L→St w0 M A0 C.N (mask ops qs listed ρT) L a w→Region.ready .any ops listed=[]→Q .normal a w:=by
  intro T listed listedF ρT L a w hT hsz hL hF hK hs hr
  have all:∀i,listed.getD i true=true:=by
   intro i
   induction i using Nat.strongRecOn with
   | _ i ih =>
    cases hi:listed.getD i true with
    | true=>rfl
    | false =>
     exfalso
     have hlt:i<ops.size:=by
      rw[← hsz]
      by_cases h:i<listed.size
      ·exact h
      ·simp [Array.getD,h] at hi
     have ho:ops[i]?=some ops[i]:=Array.getElem?_eq_getElem hlt
     have:i ∈ Region.ready .any ops listed:=mem_ready.2 ⟨hi,_,ho,fun e he hb=>by
      have hp:=(mix_at hm ho).1 e.on (List.mem_map.2 ⟨e,List.mem_filter.2 ⟨by simpa using he,hb⟩,rfl⟩)
      exact getD_ft (by omega) (ih _ hp)⟩
     rw[hr] at this;cases this
  have hTd:T = .done:=OT.isDone_iff (by
   rw[hT]
   cases hh:Region.ready .any ops listedF with
   | nil=>rfl
   | cons j r =>
    have hj:j ∈ Region.ready .any ops listedF:=by rw[hh];exact List.mem_cons_self
    have h1:=(mem_ready.1 hj).1
    have hq:j ∉ qs:=fun hq=>by rw[hF j hq] at h1;cases h1
    rw[← hL j hq,all j] at h1;cases h1)
  subst hTd
  refine hQ a w ⟨ρT,L,hK,st_forget hs fun i => .inr ?_⟩
  rw[mask_out fun q _ hl=>by rw[all q] at hl;cases hl]
 intro f
 induction f with
 | zero =>
  intro T g listed listedF ρT L a w hT hTo hsz hszF hL hF hcnt hfact hK hs
  have hr:Region.ready .any ops listed=[]:=by
   cases hh:Region.ready .any ops listed with
   | nil=>rfl
   | cons j r =>
    have hj:j ∈ Region.ready .any ops listed:=by rw[hh];exact List.mem_cons_self
    have:=hcnt [j] (by simp) (fun i hi=>by simp at hi;subst hi;exact(mem_ready.1 hj).1)
    simp at this
  exact⟨hr,fin T listed listedF ρT L a w hT hsz hL hF hK hs hr⟩
 | succ f ih =>
  intro T g listed listedF ρT L a w hT hTo hsz hszF hL hF hcnt hfact hK hs
  refine⟨fin T listed listedF ρT L a w hT hsz hL hF hK hs,fun i hi => ?_⟩
  obtain⟨hun,o,ho,hpre⟩:=mem_ready.1 hi
  have hlt:i<ops.size:=(Array.getElem?_eq_some_iff.1 ho).1
  obtain⟨m1,m2,m3⟩:=mix_at hm ho
  have hlooks:∀t ∈ o.looksAt ops,get (mask ops qs listed ρT) t=get ρT t:=fun t ht=>mask_out fun q hq hl hd=>by
   have hp:=(m2 q hq t hd).1 ht
   obtain⟨e,he,rfl⟩:=List.mem_map.1 hp
   obtain⟨he1,he2⟩:=List.mem_filter.1 he
   have:=getD_tf (hpre e (by simpa using he1) he2)
   rw[hl] at this;cases this
  have hcnt':∀l:List Nat,l.Nodup→(∀j ∈ l,(listed.setIfInBounds i true).getD j true=false)→l.length≤f:=fun l hn hl=>by
   have hil:i ∉ l:=fun h=>by
    have:=hl i h
    simp [Array.getD,show i<listed.size by omega] at this
   have:=hcnt (i :: l) (List.nodup_cons.2 ⟨hil,hn⟩) (fun j hj=>by
    rcases List.mem_cons.1 hj with rfl|hj
    ·exact hun
    ·have:=hl j hj
     have hne:i ≠ j:=fun e=>hil (e ▸ hj)
     rwa [getD_set_ne true hne] at this)
   simp at this;omega
  have hset:∀j,j ≠ i→(listed.setIfInBounds i true).getD j true=listed.getD j true:=fun j hj=>getD_set_ne true (Ne.symm hj)
  have hseti:(listed.setIfInBounds i true).getD i true=true:=by simp [Array.getD,show i<listed.size by omega]
  by_cases hq:i ∈ qs
  ·obtain⟨o',x,ho',hy,hgx⟩:=hfact i hq hun
   rw[ho] at ho';cases ho'
   refine wpOpIn_mono ?_ (hy _ L hlooks n w0 M A0 a w Q hs)
   rintro a' w' ⟨ρ2,L2,⟨rfl,rfl⟩,hs2⟩
   refine ih T g _ listedF ρT L2 a' w' hT hTo (by simpa using hsz) hszF (fun j hj=>by rw[hset j (fun e=>hj (e ▸ hq))];exact hL j hj) hF hcnt' (fun q hq' hl=>hfact q hq' (by
    by_cases e:q=i
    ·subst e;exact hun
    ·rwa [hset q e] at hl)) hK (st_forget hs2 fun s => ?_)
   rcases mask_or (ops:=ops) qs (listed.setIfInBounds i true) ρT s with ⟨h1,_⟩|⟨h1,h2⟩
   ·exact .inl h1
   ·refine .inr ?_
    rw[h1,get_put]
    by_cases hd:o.dst=some s
    ·rw[if_pos hd];exact hgx s hd
    ·rw[if_neg hd,mask_out fun q hq' hl hds => ?_]
     by_cases e:q=i
     ·subst e;exact hd (by simpa [dstOf,ho] using hds)
     ·exact h2 q hq' (by rw[hset q e];exact hl) hds
  ·have htouch:=m3 hq
   have hiF:i ∈ Region.ready .any ops listedF:=mem_ready.2 ⟨by rw[← hL i hq];exact hun,o,ho,fun e he hb=>by
    have h1:=getD_tf (hpre e he hb)
    have hlt':e.on<listedF.size:=by
     have:=m1 e.on (List.mem_map.2 ⟨e,List.mem_filter.2 ⟨by simpa using he,hb⟩,rfl⟩);omega
    by_cases hqe:e.on ∈ qs
    ·exact getD_ft hlt' (hF _ hqe)
    ·exact getD_ft hlt' (by rw[← hL _ hqe];exact h1)⟩
   rw[← hT] at hiF
   have key:∀(T:OT) (g:Nat),T.ok ops g listedF=true→OT.apX C ops.toList K T ρT L→i ∈ T.alts→∃t g',t.alts=Region.ready .any ops (listedF.setIfInBounds i true)∧t.ok ops g' (listedF.setIfInBounds i true)=true∧gopX C ops.toList o ρT L (OT.nxX C ops.toList K t):=by
    intro T
    induction T with
    | done=>intro g _ _ h;cases h
    | step j t r iht ihr =>
     intro g h1 h2 h3
     cases g with
     | zero=>cases h1
     | succ g =>
      simp only[OT.ok,Bool.and_eq_true,beq_iff_eq] at h1
      rw[OT.apX_step] at h2
      rcases List.mem_cons.1 h3 with rfl|h3
      ·refine⟨t,g,h1.1.1,h1.1.2,?_⟩
       have h0:ops.toList[i]?=some o:=by simpa using ho
       rw[h0] at h2;exact h2.1
      ·exact ihr (g+1) h1.2 h2.2 h3
   have hap:OT.apX C ops.toList K T ρT L:=by
    cases T with
    | done=>trivial
    | step j t r=>exact hK
   obtain⟨t,g',ht1,ht2,ht3⟩:=key T g hTo hap hiF
   have hag:=agree_ops (ρ:=ρT) (ρ':=mask ops qs listed ρT) hlooks
   let K':ARes:=fun ρ2 L2=>∃ρT2,(∀s,s ∉ touchOf o→get ρT2 s=get ρT s)∧(∀s,get (mask ops qs (listed.setIfInBounds i true) ρT2) s = .any∨get (mask ops qs (listed.setIfInBounds i true) ρT2) s=get ρ2 s)∧OT.nxX C ops.toList K t ρT2 L2
   have hmq:∀(ρ1 ρ2:Env),(∀s,s ∈ touchOf o→get ρ1 s=get ρ2 s)→(∀s,s ∉ touchOf o→get ρ2 s=get (mask ops qs listed ρT) s∧get ρ1 s=get ρT s)→∀s,get (mask ops qs (listed.setIfInBounds i true) ρ1) s = .any∨get (mask ops qs (listed.setIfInBounds i true) ρ1) s=get ρ2 s:=fun ρ1 ρ2 e1 e2 s=>by
    rcases mask_or (ops:=ops) qs (listed.setIfInBounds i true) ρ1 s with ⟨h1,_⟩|⟨h1,h2⟩
    ·exact .inl h1
    ·refine .inr ?_
     rw[h1]
     by_cases hst:s ∈ touchOf o
     ·exact e1 s hst
     ·obtain⟨e3,e4⟩:=e2 s hst
      rw[e3,e4]
      exact(mask_out fun q hq' hl hds=>h2 q hq' (by rw[hset q (fun e=>hq (e ▸ hq'))];exact hl) hds).symm
   have k1:∀x L',OT.nxX C ops.toList K t (put ρT o.dst x) L'→K' (put (mask ops qs listed ρT) o.dst x) L':=fun x L' hk=>⟨_,fun s hs'=>by
     rw[get_put,if_neg];intro e;exact hs' (by simp [touchOf,e]),hmq _ _ (fun s hs'=>by
      rw[get_put,get_put]
      by_cases e:o.dst=some s
      ·rw[if_pos e,if_pos e]
      ·rw[if_neg e,if_neg e]
       exact(mask_out fun q hq' hl hds=>(htouch q hq' _ (Array.getElem?_eq_getElem ((mix_asc hm).2 q hq')) s hs').2 (by simpa [dstOf,Array.getElem?_eq_getElem ((mix_asc hm).2 q hq')] using hds)).symm) (fun s hs'=>by
      have e:o.dst ≠ some s:=fun e=>hs' (by simp [touchOf,e])
      rw[get_put,get_put,if_neg e,if_neg e];exact⟨rfl,rfl⟩),hk⟩
   have hoo:=List.all_eq_true.1 hok o (List.mem_of_getElem? (show ops.toList[i]?=some o by simpa using ho))
   have hgo:GOp C ops i (mask ops qs listed ρT) L K':=by
    cases hg:o.guard with
    | some jw =>
     obtain⟨x,hk,hgg⟩:=gopX_some ho hoo hg ht3
     refine(hgg _ hlooks).conv ?_
     rintro ρ' L' w0 M A0 a w ⟨rfl,rfl⟩ hs
     exact⟨_,_,k1 x _ hk,hs⟩
    | none =>
     have ht3:aopX C o ρT L (OT.nxX C ops.toList K t):=by unfold gopX at ht3;rw[hg] at ht3;exact ht3
     have htr:aopX C o (mask ops qs listed ρT) L K':=aopX_tr hag k1
      (fun s' y x L' hst hk=>⟨_,fun s hs'=>by
       obtain⟨t',x',hop⟩:=hst
       have h1:s ≠ s':=fun e=>hs' (by simp [touchOf,hop,e])
       simp only[get,if_neg h1]
       rw[get_put,if_neg];intro e;exact hs' (by simp [touchOf,e]),hmq _ _ (fun s hs'=>by
        simp only[get]
        by_cases h1:s=s'
        ·rw[if_pos h1,if_pos h1]
        ·rw[if_neg h1,if_neg h1,get_put,get_put]
         by_cases e:o.dst=some s
         ·rw[if_pos e,if_pos e]
         ·rw[if_neg e,if_neg e]
          exact(mask_out fun q hq' hl hds=>(htouch q hq' _ (Array.getElem?_eq_getElem ((mix_asc hm).2 q hq')) s hs').2 (by simpa [dstOf,Array.getElem?_eq_getElem ((mix_asc hm).2 q hq')] using hds)).symm) (fun s hs'=>by
        obtain⟨t',x',hop⟩:=hst
        have h1:s ≠ s':=fun e=>hs' (by simp [touchOf,hop,e])
        have e:o.dst ≠ some s:=fun e=>hs' (by simp [touchOf,e])
        simp only[get,if_neg h1]
        rw[get_put,get_put,if_neg e,if_neg e];exact⟨rfl,rfl⟩),hk⟩) ht3
     exact AOp.gop ho hg (aop_sound (operOk_dst hoo) (operOk_def hoo) (aopX_aop htr))
   refine wpOpIn_mono ?_ (hgo n w0 M A0 a w Q hs)
   rintro a' w' ⟨ρ2,L2,⟨ρT2,h1,h2,h3⟩,hs2⟩
   refine ih t g' _ (listedF.setIfInBounds i true) ρT2 L2 a' w' ht1 ht2 (by simpa using hsz) (by simpa using hszF) (fun j hj => ?_) (fun q hq' => ?_) hcnt' (fun q hq' hl => ?_) h3 (st_forget hs2 h2)
   ·by_cases e:j=i
    ·subst e;rw[hseti];simp [Array.getD,show j<listedF.size by omega]
    ·rw[hset j e,getD_set_ne true (Ne.symm e)];exact hL j hj
   ·have e:q ≠ i:=fun e=>hq (e ▸ hq')
    rw[getD_set_ne true (Ne.symm e)];exact hF q hq'
   ·have e:q ≠ i:=fun e=>hq (e ▸ hq')
    rw[hset q e] at hl
    obtain⟨oq,x,hoq,hy,hgx⟩:=hfact q hq' hl
    refine⟨oq,x,hoq,hy.of_agree fun s hs'=>h1 s fun hst => ?_,fun d hd => ?_⟩
    ·have hp:=(htouch q hq' oq hoq s hst).1 hs'
     obtain⟨e',he',rfl⟩:=List.mem_map.1 hp
     obtain⟨he1,he2⟩:=List.mem_filter.1 he'
     have:=getD_tf (hpre e' (by simpa using he1) he2)
     rw[hl] at this;cases this
    ·rw[h1 d fun hst=>(htouch q hq' oq hoq d hst).2 hd];exact hgx d hd
end
theorem fullL_spec (qs:List Nat) (n:Nat) (h:∀q ∈ qs,q<n):(fullL n qs).size=n∧(∀i,i ∉ qs→(fullL n qs).getD i true=(Array.replicate n false).getD i true)∧∀q ∈ qs,(fullL n qs).getD q true=true:=by
 have key:∀(qs:List Nat) (l:Array Bool),l.size=n→(∀q ∈ qs,q<n) →
   (qs.foldl (fun l q=>l.setIfInBounds q true) l).size=n∧(∀i,i ∉ qs→(qs.foldl (fun l q=>l.setIfInBounds q true) l).getD i true=l.getD i true)∧∀i,(i ∈ qs∨l.getD i true=true)→(qs.foldl (fun l q=>l.setIfInBounds q true) l).getD i true=true:=by
  intro qs
  induction qs with
  | nil=>intro l hl _;exact⟨hl,fun _ _=>rfl,fun i hi=>hi.resolve_left (by simp)⟩
  | cons q qs ih =>
   intro l hl hq
   obtain⟨h1,h2,h3⟩:=ih (l.setIfInBounds q true) (by simpa using hl) (fun q' hq'=>hq q' (List.mem_cons_of_mem _ hq'))
   refine⟨h1,fun i hi => ?_,fun i hi => ?_⟩
   ·simp only[List.mem_cons,not_or] at hi
    rw[List.foldl_cons,h2 i hi.2,getD_set_ne true (Ne.symm hi.1)]
   ·rw[List.foldl_cons]
    apply h3
    by_cases e:i=q
    ·subst e;exact .inr (by have:=hq i List.mem_cons_self;simp [Array.getD,show i<l.size by omega])
    ·rcases hi with hi|hi
     ·exact .inl ((List.mem_cons.1 hi).resolve_left e)
     ·exact .inr (by rw[getD_set_ne true (Ne.symm e)];exact hi)
 obtain⟨h1,h2,h3⟩:=key qs (Array.replicate n false) (by simp) h
 exact⟨h1,h2,fun q hq=>h3 q (.inl hq)⟩
def mixAll (ops:Array Oper) (qs:List Nat) (T:OT):Bool:=mixOk ops qs && (T.alts == Region.ready .any ops (fullL ops.size qs)) && T.ok ops ops.size (fullL ops.size qs)
def mixK (C:Cfg) (all:List Oper) (K:ARes) (T:OT) (L:AHeap) (ρ:Env):Prop:=OT.nxX C all K T ρ L
theorem AWp.mix {C:Cfg} {id:Nat} {ops:Array Oper} {Q:AQ} {ρ:Env} {L:AHeap} (hmx:C.P.follows .mixedOrders=true) (qs:List Nat) (T:OT) (hT:mixAll ops qs T=true)
  (h:aqRun C ops.toList qs (mixK C ops.toList (Q .normal) T L) ρ):AWp C (.region id ops true) Q ρ L:=fun hok n w0 M A0 a w hs=>by
 simp only[mixAll,Bool.and_eq_true,beq_iff_eq] at hT
 obtain⟨⟨hm,h1⟩,h2⟩:=hT
 have hasc:=mix_asc hm
 obtain⟨f1,f2,f3⟩:=fullL_spec qs ops.size hasc.2
 obtain⟨ρq,hK,hF,hother⟩:=aqRun_facts hm hok qs ρ _ (fun _ h=>h) hasc.1 h
 refine wpIn_region_any hmx ?_
 obtain⟨A,ds,hs'⟩:=st_iff.1 hs
 refine mix_sound hm hok (K:=Q .normal) (fun a w ⟨ρ',L',h1,h2⟩=>⟨ρ',L',h1,h2⟩) ops.size T ops.size _ (fullL ops.size qs) ρq L a _ h1 h2 (by simp) f1 (fun i hi=>(f2 i hi).symm) f3 ?_ (fun q hq _=>hF q hq) hK
  (st_forget (st_iff.2 ⟨A,ds,hs'.drew⟩) fun s => ?_)
 ·intro l hn hl
  have:=List.Nodup.length_le_of_subset hn (l₂:=List.range ops.size) (fun i hi=>by
   have:=hl i hi
   rw[List.mem_range]
   by_cases h:i<ops.size
   ·exact h
   ·simp [Array.getD,h] at this)
  simpa using this
 ·rcases mask_or (ops:=ops) qs (Array.replicate ops.size false) ρq s with ⟨h1,_⟩|⟨h1,h2⟩
  ·exact .inl h1
  ·refine .inr ?_
   rw[h1]
   exact hother s fun q hq hd=>h2 q hq (by simp [Array.getD,hasc.2 q hq]) hd
theorem aqRun_nil (C:Cfg) (all:List Oper) (K:Env→Prop) (ρ:Env):aqRun C all [] K ρ=K ρ:=rfl
theorem aqRun_cons (C:Cfg) (all:List Oper) (i:Nat) (r:List Nat) (K:Env→Prop) (ρ:Env):aqRun C all (i :: r) K ρ=(match all[i]? with|some o=>aqF C all o ρ (aqRun C all r K)|none=>False):=rfl
attribute [go_sem] aqRun_nil aqRun_cons aqF aFz mixK OT.apX_done OT.apX_step OT.nxX_done OT.nxX_step aopX tOp gopX
end Go.AL
end
section
namespace Go.AL
open Go Go.RowKit
@[go_sem] theorem ti1:tinfo Proofs.Tryz.prog 1=some ⟨.func,1,8,.v .nilFunc⟩:=by kernel_rfl
@[go_sem] theorem ti2:tinfo Proofs.Tryz.prog 2=some ⟨.int .i64,1,8,.v (.int .i64 0)⟩:=by kernel_rfl
@[go_sem] theorem ti3:tinfo Proofs.Tryz.prog 3=some ⟨.int .i64,1,8,.v (.int .i64 0)⟩:=by kernel_rfl
@[go_sem] theorem ti4:tinfo Proofs.Tryz.prog 4=some ⟨.bool,1,1,.v (.bool false)⟩:=by kernel_rfl
@[go_sem] theorem ti5:tinfo Proofs.Tryz.prog 5=some ⟨.int .u8,1,1,.v (.int .u8 0)⟩:=by kernel_rfl
@[go_sem] theorem ti6:tinfo Proofs.Tryz.prog 6=some ⟨.int .u8,1,1,.v (.int .u8 0)⟩:=by kernel_rfl
@[go_sem] theorem ti7:tinfo Proofs.Tryz.prog 7=some ⟨.struct [(0,2),(1,3),(2,4),(3,6)],4,24,.agg [.v (.int .i64 0),.v (.int .i64 0),.v (.bool false),.v (.int .u8 0)]⟩:=by kernel_rfl
@[go_sem] theorem ti8:tinfo Proofs.Tryz.prog 8=some ⟨.struct [(0,2),(1,3),(2,4),(3,6)],4,24,.agg [.v (.int .i64 0),.v (.int .i64 0),.v (.bool false),.v (.int .u8 0)]⟩:=by kernel_rfl
@[go_sem] theorem ti9:tinfo Proofs.Tryz.prog 9=some ⟨.str,1,16,.v (.string ⟨#[]⟩)⟩:=by kernel_rfl
@[go_sem] theorem ti10:tinfo Proofs.Tryz.prog 10=some ⟨.str,1,16,.v (.string ⟨#[]⟩)⟩:=by kernel_rfl
@[go_sem] theorem ti11:tinfo Proofs.Tryz.prog 11=some ⟨.str,1,16,.v (.string ⟨#[]⟩)⟩:=by kernel_rfl
@[go_sem] theorem ti12:tinfo Proofs.Tryz.prog 12=some ⟨.int .u64,1,8,.v (.int .u64 0)⟩:=by kernel_rfl
@[go_sem] theorem ti13:tinfo Proofs.Tryz.prog 13=some ⟨.struct [(0,9),(1,12)],2,24,.agg [.v (.string ⟨#[]⟩),.v (.int .u64 0)]⟩:=by kernel_rfl
@[go_sem] theorem ti14:tinfo Proofs.Tryz.prog 14=some ⟨.struct [(0,9),(1,12)],2,24,.agg [.v (.string ⟨#[]⟩),.v (.int .u64 0)]⟩:=by kernel_rfl
@[go_sem] theorem ti15:tinfo Proofs.Tryz.prog 15=some ⟨.ptr 241,1,8,.v (.pointer none)⟩:=by kernel_rfl
@[go_sem] theorem ti16:tinfo Proofs.Tryz.prog 16=some ⟨.ptr 244,1,8,.v (.pointer none)⟩:=by kernel_rfl
@[go_sem] theorem ti17:tinfo Proofs.Tryz.prog 17=some ⟨.ptr 253,1,8,.v (.pointer none)⟩:=by kernel_rfl
@[go_sem] theorem ti18:tinfo Proofs.Tryz.prog 18=some ⟨.struct [(0,17)],1,8,.agg [.v (.pointer none)]⟩:=by kernel_rfl
@[go_sem] theorem ti19:tinfo Proofs.Tryz.prog 19=some ⟨.struct [(0,17)],1,8,.agg [.v (.pointer none)]⟩:=by kernel_rfl
@[go_sem] theorem ti21:tinfo Proofs.Tryz.prog 21=some ⟨.int .i32,1,4,.v (.int .i32 0)⟩:=by kernel_rfl
@[go_sem] theorem ti22:tinfo Proofs.Tryz.prog 22=some ⟨.slice 50,1,24,.v (.slice none 0 0)⟩:=by kernel_rfl
@[go_sem] theorem ti23:tinfo Proofs.Tryz.prog 23=some ⟨.struct [(0,22)],1,24,.agg [.v (.slice none 0 0)]⟩:=by kernel_rfl
@[go_sem] theorem ti24:tinfo Proofs.Tryz.prog 24=some ⟨.struct [(0,22)],1,24,.agg [.v (.slice none 0 0)]⟩:=by kernel_rfl
@[go_sem] theorem ti25:tinfo Proofs.Tryz.prog 25=some ⟨.slice 27,1,24,.v (.slice none 0 0)⟩:=by kernel_rfl
@[go_sem] theorem ti26:tinfo Proofs.Tryz.prog 26=some ⟨.struct [(0,3),(1,3),(2,3),(3,3),(4,9),(5,25)],6,72,.agg [.v (.int .i64 0),.v (.int .i64 0),.v (.int .i64 0),.v (.int .i64 0),.v (.string ⟨#[]⟩),.v (.slice none 0 0)]⟩:=by kernel_rfl
@[go_sem] theorem ti27:tinfo Proofs.Tryz.prog 27=some ⟨.struct [(0,3),(1,3),(2,3),(3,3),(4,9),(5,25)],6,72,.agg [.v (.int .i64 0),.v (.int .i64 0),.v (.int .i64 0),.v (.int .i64 0),.v (.string ⟨#[]⟩),.v (.slice none 0 0)]⟩:=by kernel_rfl
@[go_sem] theorem ti28:tinfo Proofs.Tryz.prog 28=some ⟨.slice 3,1,24,.v (.slice none 0 0)⟩:=by kernel_rfl
@[go_sem] theorem ti29:tinfo Proofs.Tryz.prog 29=some ⟨.func,1,8,.v .nilFunc⟩:=by kernel_rfl
@[go_sem] theorem ti30:tinfo Proofs.Tryz.prog 30=some ⟨.func,1,8,.v .nilFunc⟩:=by kernel_rfl
@[go_sem] theorem ti31:tinfo Proofs.Tryz.prog 31=some ⟨.func,1,8,.v .nilFunc⟩:=by kernel_rfl
@[go_sem] theorem ti32:tinfo Proofs.Tryz.prog 32=some ⟨.func,1,8,.v .nilFunc⟩:=by kernel_rfl
@[go_sem] theorem ti33:tinfo Proofs.Tryz.prog 33=some ⟨.func,1,8,.v .nilFunc⟩:=by kernel_rfl
@[go_sem] theorem ti34:tinfo Proofs.Tryz.prog 34=some ⟨.slice 41,1,24,.v (.slice none 0 0)⟩:=by kernel_rfl
@[go_sem] theorem ti35:tinfo Proofs.Tryz.prog 35=some ⟨.int .i64,1,8,.v (.int .i64 0)⟩:=by kernel_rfl
@[go_sem] theorem ti37:tinfo Proofs.Tryz.prog 37=some ⟨.func,1,8,.v .nilFunc⟩:=by kernel_rfl
@[go_sem] theorem ti39:tinfo Proofs.Tryz.prog 39=some ⟨.func,1,8,.v .nilFunc⟩:=by kernel_rfl
@[go_sem] theorem ti40:tinfo Proofs.Tryz.prog 40=some ⟨.struct [(0,3),(1,9),(2,3)],3,32,.agg [.v (.int .i64 0),.v (.string ⟨#[]⟩),.v (.int .i64 0)]⟩:=by kernel_rfl
@[go_sem] theorem ti41:tinfo Proofs.Tryz.prog 41=some ⟨.struct [(0,3),(1,9),(2,3)],3,32,.agg [.v (.int .i64 0),.v (.string ⟨#[]⟩),.v (.int .i64 0)]⟩:=by kernel_rfl
@[go_sem] theorem ti43:tinfo Proofs.Tryz.prog 43=some ⟨.func,1,8,.v .nilFunc⟩:=by kernel_rfl
@[go_sem] theorem ti44:tinfo Proofs.Tryz.prog 44=some ⟨.func,1,8,.v .nilFunc⟩:=by kernel_rfl
@[go_sem] theorem ti45:tinfo Proofs.Tryz.prog 45=some ⟨.struct [(0,9),(1,3)],2,24,.agg [.v (.string ⟨#[]⟩),.v (.int .i64 0)]⟩:=by kernel_rfl
@[go_sem] theorem ti46:tinfo Proofs.Tryz.prog 46=some ⟨.struct [(0,9),(1,3)],2,24,.agg [.v (.string ⟨#[]⟩),.v (.int .i64 0)]⟩:=by kernel_rfl
@[go_sem] theorem ti47:tinfo Proofs.Tryz.prog 47=some ⟨.slice 46,1,24,.v (.slice none 0 0)⟩:=by kernel_rfl
@[go_sem] theorem ti48:tinfo Proofs.Tryz.prog 48=some ⟨.slice 60,1,24,.v (.slice none 0 0)⟩:=by kernel_rfl
@[go_sem] theorem ti49:tinfo Proofs.Tryz.prog 49=some ⟨.struct [(0,9),(1,47),(2,48)],3,64,.agg [.v (.string ⟨#[]⟩),.v (.slice none 0 0),.v (.slice none 0 0)]⟩:=by kernel_rfl
@[go_sem] theorem ti50:tinfo Proofs.Tryz.prog 50=some ⟨.struct [(0,9),(1,47),(2,48)],3,64,.agg [.v (.string ⟨#[]⟩),.v (.slice none 0 0),.v (.slice none 0 0)]⟩:=by kernel_rfl
@[go_sem] theorem ti51:tinfo Proofs.Tryz.prog 51=some ⟨.func,1,8,.v .nilFunc⟩:=by kernel_rfl
@[go_sem] theorem ti52:tinfo Proofs.Tryz.prog 52=some ⟨.struct [(0,3),(1,25),(2,34),(3,3),(4,3)],5,72,.agg [.v (.int .i64 0),.v (.slice none 0 0),.v (.slice none 0 0),.v (.int .i64 0),.v (.int .i64 0)]⟩:=by kernel_rfl
@[go_sem] theorem ti53:tinfo Proofs.Tryz.prog 53=some ⟨.struct [(0,3),(1,25),(2,34),(3,3),(4,3)],5,72,.agg [.v (.int .i64 0),.v (.slice none 0 0),.v (.slice none 0 0),.v (.int .i64 0),.v (.int .i64 0)]⟩:=by kernel_rfl
@[go_sem] theorem ti55:tinfo Proofs.Tryz.prog 55=some ⟨.func,1,8,.v .nilFunc⟩:=by kernel_rfl
@[go_sem] theorem ti56:tinfo Proofs.Tryz.prog 56=some ⟨.func,1,8,.v .nilFunc⟩:=by kernel_rfl
@[go_sem] theorem ti57:tinfo Proofs.Tryz.prog 57=some ⟨.func,1,8,.v .nilFunc⟩:=by kernel_rfl
@[go_sem] theorem ti58:tinfo Proofs.Tryz.prog 58=some ⟨.slice 151,1,24,.v (.slice none 0 0)⟩:=by kernel_rfl
@[go_sem] theorem ti59:tinfo Proofs.Tryz.prog 59=some ⟨.struct [(0,3),(1,3),(2,3),(3,3),(4,58)],5,56,.agg [.v (.int .i64 0),.v (.int .i64 0),.v (.int .i64 0),.v (.int .i64 0),.v (.slice none 0 0)]⟩:=by kernel_rfl
@[go_sem] theorem ti60:tinfo Proofs.Tryz.prog 60=some ⟨.struct [(0,3),(1,3),(2,3),(3,3),(4,58)],5,56,.agg [.v (.int .i64 0),.v (.int .i64 0),.v (.int .i64 0),.v (.int .i64 0),.v (.slice none 0 0)]⟩:=by kernel_rfl
@[go_sem] theorem ti61:tinfo Proofs.Tryz.prog 61=some ⟨.func,1,8,.v .nilFunc⟩:=by kernel_rfl
@[go_sem] theorem ti62:tinfo Proofs.Tryz.prog 62=some ⟨.func,1,8,.v .nilFunc⟩:=by kernel_rfl
@[go_sem] theorem ti63:tinfo Proofs.Tryz.prog 63=some ⟨.func,1,8,.v .nilFunc⟩:=by kernel_rfl
@[go_sem] theorem ti64:tinfo Proofs.Tryz.prog 64=some ⟨.func,1,8,.v .nilFunc⟩:=by kernel_rfl
@[go_sem] theorem ti66:tinfo Proofs.Tryz.prog 66=some ⟨.func,1,8,.v .nilFunc⟩:=by kernel_rfl
@[go_sem] theorem ti68:tinfo Proofs.Tryz.prog 68=some ⟨.func,1,8,.v .nilFunc⟩:=by kernel_rfl
@[go_sem] theorem ti70:tinfo Proofs.Tryz.prog 70=some ⟨.func,1,8,.v .nilFunc⟩:=by kernel_rfl
@[go_sem] theorem ti71:tinfo Proofs.Tryz.prog 71=some ⟨.slice 28,1,24,.v (.slice none 0 0)⟩:=by kernel_rfl
@[go_sem] theorem ti72:tinfo Proofs.Tryz.prog 72=some ⟨.struct [(0,24),(1,28),(2,71)],3,72,.agg [.v (.slice none 0 0),.v (.slice none 0 0),.v (.slice none 0 0)]⟩:=by kernel_rfl
@[go_sem] theorem ti73:tinfo Proofs.Tryz.prog 73=some ⟨.struct [(0,24),(1,28),(2,71)],3,72,.agg [.v (.slice none 0 0),.v (.slice none 0 0),.v (.slice none 0 0)]⟩:=by kernel_rfl
@[go_sem] theorem ti75:tinfo Proofs.Tryz.prog 75=some ⟨.func,1,8,.v .nilFunc⟩:=by kernel_rfl
@[go_sem] theorem ti76:tinfo Proofs.Tryz.prog 76=some ⟨.func,1,8,.v .nilFunc⟩:=by kernel_rfl
@[go_sem] theorem ti77:tinfo Proofs.Tryz.prog 77=some ⟨.func,1,8,.v .nilFunc⟩:=by kernel_rfl
@[go_sem] theorem ti79:tinfo Proofs.Tryz.prog 79=some ⟨.func,1,8,.v .nilFunc⟩:=by kernel_rfl
@[go_sem] theorem ti81:tinfo Proofs.Tryz.prog 81=some ⟨.func,1,8,.v .nilFunc⟩:=by kernel_rfl
@[go_sem] theorem ti82:tinfo Proofs.Tryz.prog 82=some ⟨.func,1,8,.v .nilFunc⟩:=by kernel_rfl
@[go_sem] theorem ti83:tinfo Proofs.Tryz.prog 83=some ⟨.func,1,8,.v .nilFunc⟩:=by kernel_rfl
@[go_sem] theorem ti84:tinfo Proofs.Tryz.prog 84=some ⟨.func,1,8,.v .nilFunc⟩:=by kernel_rfl
@[go_sem] theorem ti85:tinfo Proofs.Tryz.prog 85=some ⟨.func,1,8,.v .nilFunc⟩:=by kernel_rfl
@[go_sem] theorem ti86:tinfo Proofs.Tryz.prog 86=some ⟨.func,1,8,.v .nilFunc⟩:=by kernel_rfl
@[go_sem] theorem ti87:tinfo Proofs.Tryz.prog 87=some ⟨.func,1,8,.v .nilFunc⟩:=by kernel_rfl
@[go_sem] theorem ti88:tinfo Proofs.Tryz.prog 88=some ⟨.struct [(0,3),(1,3)],2,16,.agg [.v (.int .i64 0),.v (.int .i64 0)]⟩:=by kernel_rfl
@[go_sem] theorem ti89:tinfo Proofs.Tryz.prog 89=some ⟨.struct [(0,3),(1,3)],2,16,.agg [.v (.int .i64 0),.v (.int .i64 0)]⟩:=by kernel_rfl
@[go_sem] theorem ti91:tinfo Proofs.Tryz.prog 91=some ⟨.func,1,8,.v .nilFunc⟩:=by kernel_rfl
@[go_sem] theorem ti92:tinfo Proofs.Tryz.prog 92=some ⟨.func,1,8,.v .nilFunc⟩:=by kernel_rfl
@[go_sem] theorem ti93:tinfo Proofs.Tryz.prog 93=some ⟨.func,1,8,.v .nilFunc⟩:=by kernel_rfl
@[go_sem] theorem ti94:tinfo Proofs.Tryz.prog 94=some ⟨.func,1,8,.v .nilFunc⟩:=by kernel_rfl
@[go_sem] theorem ti95:tinfo Proofs.Tryz.prog 95=some ⟨.map 101 3,1,8,.v (.map none)⟩:=by kernel_rfl
@[go_sem] theorem ti96:tinfo Proofs.Tryz.prog 96=some ⟨.struct [(0,3),(1,95)],2,16,.agg [.v (.int .i64 0),.v (.map none)]⟩:=by kernel_rfl
@[go_sem] theorem ti97:tinfo Proofs.Tryz.prog 97=some ⟨.struct [(0,3),(1,95)],2,16,.agg [.v (.int .i64 0),.v (.map none)]⟩:=by kernel_rfl
@[go_sem] theorem ti99:tinfo Proofs.Tryz.prog 99=some ⟨.func,1,8,.v .nilFunc⟩:=by kernel_rfl
@[go_sem] theorem ti100:tinfo Proofs.Tryz.prog 100=some ⟨.struct [(0,3),(1,3),(2,3),(3,9)],4,40,.agg [.v (.int .i64 0),.v (.int .i64 0),.v (.int .i64 0),.v (.string ⟨#[]⟩)]⟩:=by kernel_rfl
@[go_sem] theorem ti101:tinfo Proofs.Tryz.prog 101=some ⟨.struct [(0,3),(1,3),(2,3),(3,9)],4,40,.agg [.v (.int .i64 0),.v (.int .i64 0),.v (.int .i64 0),.v (.string ⟨#[]⟩)]⟩:=by kernel_rfl
@[go_sem] theorem ti102:tinfo Proofs.Tryz.prog 102=some ⟨.func,1,8,.v .nilFunc⟩:=by kernel_rfl
@[go_sem] theorem ti103:tinfo Proofs.Tryz.prog 103=some ⟨.func,1,8,.v .nilFunc⟩:=by kernel_rfl
@[go_sem] theorem ti104:tinfo Proofs.Tryz.prog 104=some ⟨.func,1,8,.v .nilFunc⟩:=by kernel_rfl
@[go_sem] theorem ti105:tinfo Proofs.Tryz.prog 105=some ⟨.func,1,8,.v .nilFunc⟩:=by kernel_rfl
@[go_sem] theorem ti106:tinfo Proofs.Tryz.prog 106=some ⟨.func,1,8,.v .nilFunc⟩:=by kernel_rfl
@[go_sem] theorem ti108:tinfo Proofs.Tryz.prog 108=some ⟨.func,1,8,.v .nilFunc⟩:=by kernel_rfl
@[go_sem] theorem ti109:tinfo Proofs.Tryz.prog 109=some ⟨.func,1,8,.v .nilFunc⟩:=by kernel_rfl
@[go_sem] theorem ti110:tinfo Proofs.Tryz.prog 110=some ⟨.func,1,8,.v .nilFunc⟩:=by kernel_rfl
@[go_sem] theorem ti111:tinfo Proofs.Tryz.prog 111=some ⟨.func,1,8,.v .nilFunc⟩:=by kernel_rfl
@[go_sem] theorem ti112:tinfo Proofs.Tryz.prog 112=some ⟨.func,1,8,.v .nilFunc⟩:=by kernel_rfl
@[go_sem] theorem ti113:tinfo Proofs.Tryz.prog 113=some ⟨.func,1,8,.v .nilFunc⟩:=by kernel_rfl
@[go_sem] theorem ti115:tinfo Proofs.Tryz.prog 115=some ⟨.func,1,8,.v .nilFunc⟩:=by kernel_rfl
@[go_sem] theorem ti116:tinfo Proofs.Tryz.prog 116=some ⟨.func,1,8,.v .nilFunc⟩:=by kernel_rfl
@[go_sem] theorem ti117:tinfo Proofs.Tryz.prog 117=some ⟨.func,1,8,.v .nilFunc⟩:=by kernel_rfl
@[go_sem] theorem ti118:tinfo Proofs.Tryz.prog 118=some ⟨.func,1,8,.v .nilFunc⟩:=by kernel_rfl
@[go_sem] theorem ti120:tinfo Proofs.Tryz.prog 120=some ⟨.func,1,8,.v .nilFunc⟩:=by kernel_rfl
@[go_sem] theorem ti121:tinfo Proofs.Tryz.prog 121=some ⟨.func,1,8,.v .nilFunc⟩:=by kernel_rfl
@[go_sem] theorem ti122:tinfo Proofs.Tryz.prog 122=some ⟨.func,1,8,.v .nilFunc⟩:=by kernel_rfl
@[go_sem] theorem ti123:tinfo Proofs.Tryz.prog 123=some ⟨.func,1,8,.v .nilFunc⟩:=by kernel_rfl
@[go_sem] theorem ti124:tinfo Proofs.Tryz.prog 124=some ⟨.slice 4,1,24,.v (.slice none 0 0)⟩:=by kernel_rfl
@[go_sem] theorem ti125:tinfo Proofs.Tryz.prog 125=some ⟨.slice 124,1,24,.v (.slice none 0 0)⟩:=by kernel_rfl
@[go_sem] theorem ti126:tinfo Proofs.Tryz.prog 126=some ⟨.func,1,8,.v .nilFunc⟩:=by kernel_rfl
@[go_sem] theorem ti127:tinfo Proofs.Tryz.prog 127=some ⟨.func,1,8,.v .nilFunc⟩:=by kernel_rfl
@[go_sem] theorem ti128:tinfo Proofs.Tryz.prog 128=some ⟨.func,1,8,.v .nilFunc⟩:=by kernel_rfl
@[go_sem] theorem ti129:tinfo Proofs.Tryz.prog 129=some ⟨.func,1,8,.v .nilFunc⟩:=by kernel_rfl
@[go_sem] theorem ti130:tinfo Proofs.Tryz.prog 130=some ⟨.func,1,8,.v .nilFunc⟩:=by kernel_rfl
@[go_sem] theorem ti131:tinfo Proofs.Tryz.prog 131=some ⟨.func,1,8,.v .nilFunc⟩:=by kernel_rfl
@[go_sem] theorem ti132:tinfo Proofs.Tryz.prog 132=some ⟨.func,1,8,.v .nilFunc⟩:=by kernel_rfl
@[go_sem] theorem ti133:tinfo Proofs.Tryz.prog 133=some ⟨.int .u64,1,8,.v (.int .u64 0)⟩:=by kernel_rfl
@[go_sem] theorem ti134:tinfo Proofs.Tryz.prog 134=some ⟨.func,1,8,.v .nilFunc⟩:=by kernel_rfl
@[go_sem] theorem ti135:tinfo Proofs.Tryz.prog 135=some ⟨.func,1,8,.v .nilFunc⟩:=by kernel_rfl
@[go_sem] theorem ti136:tinfo Proofs.Tryz.prog 136=some ⟨.slice 89,1,24,.v (.slice none 0 0)⟩:=by kernel_rfl
@[go_sem] theorem ti138:tinfo Proofs.Tryz.prog 138=some ⟨.func,1,8,.v .nilFunc⟩:=by kernel_rfl
@[go_sem] theorem ti139:tinfo Proofs.Tryz.prog 139=some ⟨.func,1,8,.v .nilFunc⟩:=by kernel_rfl
@[go_sem] theorem ti140:tinfo Proofs.Tryz.prog 140=some ⟨.func,1,8,.v .nilFunc⟩:=by kernel_rfl
@[go_sem] theorem ti142:tinfo Proofs.Tryz.prog 142=some ⟨.func,1,8,.v .nilFunc⟩:=by kernel_rfl
@[go_sem] theorem ti143:tinfo Proofs.Tryz.prog 143=some ⟨.slice 25,1,24,.v (.slice none 0 0)⟩:=by kernel_rfl
@[go_sem] theorem ti144:tinfo Proofs.Tryz.prog 144=some ⟨.func,1,8,.v .nilFunc⟩:=by kernel_rfl
@[go_sem] theorem ti145:tinfo Proofs.Tryz.prog 145=some ⟨.func,1,8,.v .nilFunc⟩:=by kernel_rfl
@[go_sem] theorem ti146:tinfo Proofs.Tryz.prog 146=some ⟨.func,1,8,.v .nilFunc⟩:=by kernel_rfl
@[go_sem] theorem ti147:tinfo Proofs.Tryz.prog 147=some ⟨.func,1,8,.v .nilFunc⟩:=by kernel_rfl
@[go_sem] theorem ti148:tinfo Proofs.Tryz.prog 148=some ⟨.func,1,8,.v .nilFunc⟩:=by kernel_rfl
@[go_sem] theorem ti149:tinfo Proofs.Tryz.prog 149=some ⟨.func,1,8,.v .nilFunc⟩:=by kernel_rfl
@[go_sem] theorem ti150:tinfo Proofs.Tryz.prog 150=some ⟨.struct [(0,3),(1,3)],2,16,.agg [.v (.int .i64 0),.v (.int .i64 0)]⟩:=by kernel_rfl
@[go_sem] theorem ti151:tinfo Proofs.Tryz.prog 151=some ⟨.struct [(0,3),(1,3)],2,16,.agg [.v (.int .i64 0),.v (.int .i64 0)]⟩:=by kernel_rfl
@[go_sem] theorem ti152:tinfo Proofs.Tryz.prog 152=some ⟨.func,1,8,.v .nilFunc⟩:=by kernel_rfl
@[go_sem] theorem ti153:tinfo Proofs.Tryz.prog 153=some ⟨.func,1,8,.v .nilFunc⟩:=by kernel_rfl
@[go_sem] theorem ti155:tinfo Proofs.Tryz.prog 155=some ⟨.func,1,8,.v .nilFunc⟩:=by kernel_rfl
@[go_sem] theorem ti156:tinfo Proofs.Tryz.prog 156=some ⟨.func,1,8,.v .nilFunc⟩:=by kernel_rfl
@[go_sem] theorem ti157:tinfo Proofs.Tryz.prog 157=some ⟨.struct [(0,3),(1,3)],2,16,.agg [.v (.int .i64 0),.v (.int .i64 0)]⟩:=by kernel_rfl
@[go_sem] theorem ti158:tinfo Proofs.Tryz.prog 158=some ⟨.struct [(0,3),(1,3)],2,16,.agg [.v (.int .i64 0),.v (.int .i64 0)]⟩:=by kernel_rfl
@[go_sem] theorem ti160:tinfo Proofs.Tryz.prog 160=some ⟨.func,1,8,.v .nilFunc⟩:=by kernel_rfl
@[go_sem] theorem ti161:tinfo Proofs.Tryz.prog 161=some ⟨.func,1,8,.v .nilFunc⟩:=by kernel_rfl
@[go_sem] theorem ti162:tinfo Proofs.Tryz.prog 162=some ⟨.slice 97,1,24,.v (.slice none 0 0)⟩:=by kernel_rfl
@[go_sem] theorem ti163:tinfo Proofs.Tryz.prog 163=some ⟨.func,1,8,.v .nilFunc⟩:=by kernel_rfl
@[go_sem] theorem ti164:tinfo Proofs.Tryz.prog 164=some ⟨.func,1,8,.v .nilFunc⟩:=by kernel_rfl
@[go_sem] theorem ti165:tinfo Proofs.Tryz.prog 165=some ⟨.func,1,8,.v .nilFunc⟩:=by kernel_rfl
@[go_sem] theorem ti166:tinfo Proofs.Tryz.prog 166=some ⟨.func,1,8,.v .nilFunc⟩:=by kernel_rfl
@[go_sem] theorem ti167:tinfo Proofs.Tryz.prog 167=some ⟨.func,1,8,.v .nilFunc⟩:=by kernel_rfl
@[go_sem] theorem ti168:tinfo Proofs.Tryz.prog 168=some ⟨.int .i64,1,8,.v (.int .i64 0)⟩:=by kernel_rfl
@[go_sem] theorem ti170:tinfo Proofs.Tryz.prog 170=some ⟨.func,1,8,.v .nilFunc⟩:=by kernel_rfl
@[go_sem] theorem ti171:tinfo Proofs.Tryz.prog 171=some ⟨.func,1,8,.v .nilFunc⟩:=by kernel_rfl
@[go_sem] theorem ti172:tinfo Proofs.Tryz.prog 172=some ⟨.func,1,8,.v .nilFunc⟩:=by kernel_rfl
@[go_sem] theorem ti173:tinfo Proofs.Tryz.prog 173=some ⟨.func,1,8,.v .nilFunc⟩:=by kernel_rfl
@[go_sem] theorem ti174:tinfo Proofs.Tryz.prog 174=some ⟨.func,1,8,.v .nilFunc⟩:=by kernel_rfl
@[go_sem] theorem ti175:tinfo Proofs.Tryz.prog 175=some ⟨.int .u32,1,4,.v (.int .u32 0)⟩:=by kernel_rfl
@[go_sem] theorem ti176:tinfo Proofs.Tryz.prog 176=some ⟨.func,1,8,.v .nilFunc⟩:=by kernel_rfl
@[go_sem] theorem ti177:tinfo Proofs.Tryz.prog 177=some ⟨.int .u64,1,8,.v (.int .u64 0)⟩:=by kernel_rfl
@[go_sem] theorem ti178:tinfo Proofs.Tryz.prog 178=some ⟨.func,1,8,.v .nilFunc⟩:=by kernel_rfl
@[go_sem] theorem ti179:tinfo Proofs.Tryz.prog 179=some ⟨.func,1,8,.v .nilFunc⟩:=by kernel_rfl
@[go_sem] theorem ti180:tinfo Proofs.Tryz.prog 180=some ⟨.func,1,8,.v .nilFunc⟩:=by kernel_rfl
@[go_sem] theorem ti181:tinfo Proofs.Tryz.prog 181=some ⟨.func,1,8,.v .nilFunc⟩:=by kernel_rfl
@[go_sem] theorem ti183:tinfo Proofs.Tryz.prog 183=some ⟨.func,1,8,.v .nilFunc⟩:=by kernel_rfl
@[go_sem] theorem ti184:tinfo Proofs.Tryz.prog 184=some ⟨.func,1,8,.v .nilFunc⟩:=by kernel_rfl
@[go_sem] theorem ti185:tinfo Proofs.Tryz.prog 185=some ⟨.func,1,8,.v .nilFunc⟩:=by kernel_rfl
@[go_sem] theorem ti186:tinfo Proofs.Tryz.prog 186=some ⟨.func,1,8,.v .nilFunc⟩:=by kernel_rfl
@[go_sem] theorem ti187:tinfo Proofs.Tryz.prog 187=some ⟨.func,1,8,.v .nilFunc⟩:=by kernel_rfl
@[go_sem] theorem ti188:tinfo Proofs.Tryz.prog 188=some ⟨.func,1,8,.v .nilFunc⟩:=by kernel_rfl
@[go_sem] theorem ti189:tinfo Proofs.Tryz.prog 189=some ⟨.func,1,8,.v .nilFunc⟩:=by kernel_rfl
@[go_sem] theorem ti190:tinfo Proofs.Tryz.prog 190=some ⟨.func,1,8,.v .nilFunc⟩:=by kernel_rfl
@[go_sem] theorem ti191:tinfo Proofs.Tryz.prog 191=some ⟨.func,1,8,.v .nilFunc⟩:=by kernel_rfl
@[go_sem] theorem ti192:tinfo Proofs.Tryz.prog 192=some ⟨.ptr 221,1,8,.v (.pointer none)⟩:=by kernel_rfl
@[go_sem] theorem ti194:tinfo Proofs.Tryz.prog 194=some ⟨.func,1,8,.v .nilFunc⟩:=by kernel_rfl
@[go_sem] theorem ti195:tinfo Proofs.Tryz.prog 195=some ⟨.func,1,8,.v .nilFunc⟩:=by kernel_rfl
@[go_sem] theorem ti196:tinfo Proofs.Tryz.prog 196=some ⟨.arr 22 3,22,176,.agg [.v (.int .i64 0),.v (.int .i64 0),.v (.int .i64 0),.v (.int .i64 0),.v (.int .i64 0),.v (.int .i64 0),.v (.int .i64 0),.v (.int .i64 0),.v (.int .i64 0),.v (.int .i64 0),.v (.int .i64 0),.v (.int .i64 0),.v (.int .i64 0),.v (.int .i64 0),.v (.int .i64 0),.v (.int .i64 0),.v (.int .i64 0),.v (.int .i64 0),.v (.int .i64 0),.v (.int .i64 0),.v (.int .i64 0),.v (.int .i64 0)]⟩:=by kernel_rfl
@[go_sem] theorem ti197:tinfo Proofs.Tryz.prog 197=some ⟨.func,1,8,.v .nilFunc⟩:=by kernel_rfl
@[go_sem] theorem ti198:tinfo Proofs.Tryz.prog 198=some ⟨.func,1,8,.v .nilFunc⟩:=by kernel_rfl
@[go_sem] theorem ti199:tinfo Proofs.Tryz.prog 199=some ⟨.arr 2 3,2,16,.agg [.v (.int .i64 0),.v (.int .i64 0)]⟩:=by kernel_rfl
@[go_sem] theorem ti200:tinfo Proofs.Tryz.prog 200=some ⟨.slice 199,1,24,.v (.slice none 0 0)⟩:=by kernel_rfl
@[go_sem] theorem ti201:tinfo Proofs.Tryz.prog 201=some ⟨.func,1,8,.v .nilFunc⟩:=by kernel_rfl
@[go_sem] theorem ti202:tinfo Proofs.Tryz.prog 202=some ⟨.func,1,8,.v .nilFunc⟩:=by kernel_rfl
@[go_sem] theorem ti203:tinfo Proofs.Tryz.prog 203=some ⟨.int .u64,1,8,.v (.int .u64 0)⟩:=by kernel_rfl
@[go_sem] theorem ti204:tinfo Proofs.Tryz.prog 204=some ⟨.func,1,8,.v .nilFunc⟩:=by kernel_rfl
@[go_sem] theorem ti205:tinfo Proofs.Tryz.prog 205=some ⟨.func,1,8,.v .nilFunc⟩:=by kernel_rfl
@[go_sem] theorem ti206:tinfo Proofs.Tryz.prog 206=some ⟨.func,1,8,.v .nilFunc⟩:=by kernel_rfl
@[go_sem] theorem ti207:tinfo Proofs.Tryz.prog 207=some ⟨.ptr 3,1,8,.v (.pointer none)⟩:=by kernel_rfl
@[go_sem] theorem ti208:tinfo Proofs.Tryz.prog 208=some ⟨.func,1,8,.v .nilFunc⟩:=by kernel_rfl
@[go_sem] theorem ti209:tinfo Proofs.Tryz.prog 209=some ⟨.func,1,8,.v .nilFunc⟩:=by kernel_rfl
@[go_sem] theorem ti210:tinfo Proofs.Tryz.prog 210=some ⟨.func,1,8,.v .nilFunc⟩:=by kernel_rfl
@[go_sem] theorem ti211:tinfo Proofs.Tryz.prog 211=some ⟨.func,1,8,.v .nilFunc⟩:=by kernel_rfl
@[go_sem] theorem ti212:tinfo Proofs.Tryz.prog 212=some ⟨.func,1,8,.v .nilFunc⟩:=by kernel_rfl
@[go_sem] theorem ti213:tinfo Proofs.Tryz.prog 213=some ⟨.func,1,8,.v .nilFunc⟩:=by kernel_rfl
@[go_sem] theorem ti214:tinfo Proofs.Tryz.prog 214=some ⟨.func,1,8,.v .nilFunc⟩:=by kernel_rfl
@[go_sem] theorem ti215:tinfo Proofs.Tryz.prog 215=some ⟨.func,1,8,.v .nilFunc⟩:=by kernel_rfl
@[go_sem] theorem ti216:tinfo Proofs.Tryz.prog 216=some ⟨.func,1,8,.v .nilFunc⟩:=by kernel_rfl
@[go_sem] theorem ti217:tinfo Proofs.Tryz.prog 217=some ⟨.func,1,8,.v .nilFunc⟩:=by kernel_rfl
@[go_sem] theorem ti218:tinfo Proofs.Tryz.prog 218=some ⟨.func,1,8,.v .nilFunc⟩:=by kernel_rfl
@[go_sem] theorem ti219:tinfo Proofs.Tryz.prog 219=some ⟨.struct [(0,89),(2,89)],4,32,.agg [.v (.int .i64 0),.v (.int .i64 0),.v (.int .i64 0),.v (.int .i64 0)]⟩:=by kernel_rfl
@[go_sem] theorem ti220:tinfo Proofs.Tryz.prog 220=some ⟨.arr 200 219,800,6400,.agg (zrow 800 (.v (.int .i64 0)))⟩:=by kernel_rfl
@[go_sem] theorem ti221:tinfo Proofs.Tryz.prog 221=some ⟨.arr 200 219,800,6400,.agg (zrow 800 (.v (.int .i64 0)))⟩:=by kernel_rfl
@[go_sem] theorem ti222:tinfo Proofs.Tryz.prog 222=some ⟨.func,1,8,.v .nilFunc⟩:=by kernel_rfl
@[go_sem] theorem ti223:tinfo Proofs.Tryz.prog 223=some ⟨.map 89 4,1,8,.v (.map none)⟩:=by kernel_rfl
@[go_sem] theorem ti224:tinfo Proofs.Tryz.prog 224=some ⟨.func,1,8,.v .nilFunc⟩:=by kernel_rfl
@[go_sem] theorem ti226:tinfo Proofs.Tryz.prog 226=some ⟨.func,1,8,.v .nilFunc⟩:=by kernel_rfl
@[go_sem] theorem ti227:tinfo Proofs.Tryz.prog 227=some ⟨.func,1,8,.v .nilFunc⟩:=by kernel_rfl
@[go_sem] theorem ti228:tinfo Proofs.Tryz.prog 228=some ⟨.ptr 203,1,8,.v (.pointer none)⟩:=by kernel_rfl
@[go_sem] theorem ti229:tinfo Proofs.Tryz.prog 229=some ⟨.func,1,8,.v .nilFunc⟩:=by kernel_rfl
@[go_sem] theorem ti230:tinfo Proofs.Tryz.prog 230=some ⟨.func,1,8,.v .nilFunc⟩:=by kernel_rfl
@[go_sem] theorem ti231:tinfo Proofs.Tryz.prog 231=some ⟨.func,1,8,.v .nilFunc⟩:=by kernel_rfl
@[go_sem] theorem ti233:tinfo Proofs.Tryz.prog 233=some ⟨.func,1,8,.v .nilFunc⟩:=by kernel_rfl
@[go_sem] theorem ti234:tinfo Proofs.Tryz.prog 234=some ⟨.func,1,8,.v .nilFunc⟩:=by kernel_rfl
@[go_sem] theorem ti235:tinfo Proofs.Tryz.prog 235=some ⟨.func,1,8,.v .nilFunc⟩:=by kernel_rfl
@[go_sem] theorem ti236:tinfo Proofs.Tryz.prog 236=some ⟨.func,1,8,.v .nilFunc⟩:=by kernel_rfl
@[go_sem] theorem ti237:tinfo Proofs.Tryz.prog 237=some ⟨.func,1,8,.v .nilFunc⟩:=by kernel_rfl
@[go_sem] theorem ti238:tinfo Proofs.Tryz.prog 238=some ⟨.func,1,8,.v .nilFunc⟩:=by kernel_rfl
@[go_sem] theorem ti239:tinfo Proofs.Tryz.prog 239=some ⟨.func,1,8,.v .nilFunc⟩:=by kernel_rfl
@[go_sem] theorem ti240:tinfo Proofs.Tryz.prog 240=some ⟨.struct [(0,17),(1,17),(2,17),(3,9)],4,40,.agg [.v (.pointer none),.v (.pointer none),.v (.pointer none),.v (.string ⟨#[]⟩)]⟩:=by kernel_rfl
@[go_sem] theorem ti241:tinfo Proofs.Tryz.prog 241=some ⟨.struct [(0,17),(1,17),(2,17),(3,9)],4,40,.agg [.v (.pointer none),.v (.pointer none),.v (.pointer none),.v (.string ⟨#[]⟩)]⟩:=by kernel_rfl
@[go_sem] theorem ti242:tinfo Proofs.Tryz.prog 242=some ⟨.arr 0 16,0,0,.agg []⟩:=by kernel_rfl
@[go_sem] theorem ti243:tinfo Proofs.Tryz.prog 243=some ⟨.struct [(0,242)],0,0,.agg []⟩:=by kernel_rfl
@[go_sem] theorem ti244:tinfo Proofs.Tryz.prog 244=some ⟨.struct [(0,242)],0,0,.agg []⟩:=by kernel_rfl
@[go_sem] theorem ti245:tinfo Proofs.Tryz.prog 245=some ⟨.func,1,8,.v .nilFunc⟩:=by kernel_rfl
@[go_sem] theorem ti246:tinfo Proofs.Tryz.prog 246=some ⟨.int .u8,1,1,.v (.int .u8 0)⟩:=by kernel_rfl
@[go_sem] theorem ti247:tinfo Proofs.Tryz.prog 247=some ⟨.int .u8,1,1,.v (.int .u8 0)⟩:=by kernel_rfl
@[go_sem] theorem ti248:tinfo Proofs.Tryz.prog 248=some ⟨.func,1,8,.v .nilFunc⟩:=by kernel_rfl
@[go_sem] theorem ti249:tinfo Proofs.Tryz.prog 249=some ⟨.ptr 5,1,8,.v (.pointer none)⟩:=by kernel_rfl
@[go_sem] theorem ti250:tinfo Proofs.Tryz.prog 250=some ⟨.int .i32,1,4,.v (.int .i32 0)⟩:=by kernel_rfl
@[go_sem] theorem ti251:tinfo Proofs.Tryz.prog 251=some ⟨.int .i32,1,4,.v (.int .i32 0)⟩:=by kernel_rfl
@[go_sem] theorem plain40:plainSt Proofs.Tryz.prog 40=some [.int,.str,.int]:=by kernel_rfl
@[go_sem] theorem plain41:plainSt Proofs.Tryz.prog 41=some [.int,.str,.int]:=by kernel_rfl
@[go_sem] theorem plain45:plainSt Proofs.Tryz.prog 45=some [.str,.int]:=by kernel_rfl
@[go_sem] theorem plain46:plainSt Proofs.Tryz.prog 46=some [.str,.int]:=by kernel_rfl
@[go_sem] theorem plain88:plainSt Proofs.Tryz.prog 88=some [.int,.int]:=by kernel_rfl
@[go_sem] theorem plain89:plainSt Proofs.Tryz.prog 89=some [.int,.int]:=by kernel_rfl
@[go_sem] theorem plain100:plainSt Proofs.Tryz.prog 100=some [.int,.int,.int,.str]:=by kernel_rfl
@[go_sem] theorem plain101:plainSt Proofs.Tryz.prog 101=some [.int,.int,.int,.str]:=by kernel_rfl
@[go_sem] theorem plain150:plainSt Proofs.Tryz.prog 150=some [.int,.int]:=by kernel_rfl
@[go_sem] theorem plain151:plainSt Proofs.Tryz.prog 151=some [.int,.int]:=by kernel_rfl
@[go_sem] theorem plain157:plainSt Proofs.Tryz.prog 157=some [.int,.int]:=by kernel_rfl
@[go_sem] theorem plain158:plainSt Proofs.Tryz.prog 158=some [.int,.int]:=by kernel_rfl
@[go_sem] theorem plain219:plainSt Proofs.Tryz.prog 219=some [.int,.int,.int,.int]:=by kernel_rfl
@[go_sem] theorem kk89:kkOf Proofs.Tryz.prog 89=some (.st [.int,.int]):=by kernel_rfl
@[go_sem] theorem kk101:kkOf Proofs.Tryz.prog 101=some (.st [.int,.int,.int,.str]):=by kernel_rfl
end Go.AL
end
section
namespace Go.AL
open Go Go.RowKit
set_option maxRecDepth 4000
theorem mixed:Proofs.Tryz.prog.follows .mixedOrders=true:=by kernel_rfl
attribute [go_sem] aqv aq
def aInts (l:List Int):AV:=.sl 1 (l.map ai)
def aRows (l:List (List Int)):AV:=.sl 1 (l.map aInts)
def aRows3 (l:List (List (List Int))):AV:=.sl 1 (l.map aRows)
abbrev astr (s:ByteArray):AV:=.v (.string s)
structure Ev where
 kind:Int
 peer:Int
 msg:Int
 time:Int
 asg:List (Int × Int)
 deriving DecidableEq
structure Pr where
 name:ByteArray
 vars:List (ByteArray × Int)
 evs:List Ev
 deriving DecidableEq
def aAsg (a:Int × Int):AV:=.agg [ai a.1,ai a.2]
def aVar (a:ByteArray × Int):AV:=.agg [astr a.1,ai a.2]
def aAsgs (l:List (Int × Int)):AV:=.sl 2 (l.map aAsg)
def aVars (l:List (ByteArray × Int)):AV:=.sl 2 (l.map aVar)
def aEv (e:Ev):AV:=.agg [ai e.kind,ai e.peer,ai e.msg,ai e.time,aAsgs e.asg]
def aEvs (l:List Ev):AV:=.sl 5 (l.map aEv)
def aPr (p:Pr):AV:=.agg [astr p.name,aVars p.vars,aEvs p.evs]
def aPrs (l:List Pr):AV:=.sl 3 (l.map aPr)
def aTr (l:List Pr):AV:=.agg [aPrs l]
abbrev Eid:=Int × Int
def aEid (x:Eid):AV:=.agg [ai x.1,ai x.2]
def aEids (l:List Eid):AV:=.sl 2 (l.map aEid)
attribute [go_sem] aInts aRows aRows3 aAsg aVar aAsgs aVars aEv aEvs aPr aPrs aTr aEid aEids
theorem findIdx_any {α:Type} (l:List α) (p:α→Bool):decide ((0:Int)≤(match l.findIdx? p with|some i=>(i:Int)|none => -1))=l.any p:=by
 cases h:l.findIdx? p with
 | none =>
  rw[List.findIdx?_eq_none_iff] at h
  have:l.any p=false:=by rw[List.any_eq_false];intro x hx;simp [h x hx]
  rw[this];decide
 | some i =>
  rw[List.findIdx?_eq_some_iff_getElem] at h
  obtain⟨hi,hp,_⟩:=h
  have:l.any p=true:=List.any_eq_true.2 ⟨l[i],List.getElem_mem hi,hp⟩
  rw[this];simp
theorem take_le {α:Type} {l:List α} {n N:Nat} (h:l.length≤N):(l.take n).length≤N:=Nat.le_trans (List.length_take_le' _ _) h
def fstF (f:Nat→Int) (n:Nat):Int:=match (List.range n).find? (fun i=>f i != 0) with|some i=>f i|none=>0
theorem fstF_hit {f:Nat→Int} {n k:Nat} (hk:k<n) (h0:∀i,i<k→f i=0) (h:f k ≠ 0):fstF f n=f k:=by
 have:(List.range n).find? (fun i=>f i != 0)=some k:=by
  rw[List.find?_range_eq_some]
  exact⟨by simpa using h,by simpa using hk,fun j hj=>by simpa using h0 j hj⟩
 unfold fstF;rw[this]
theorem fstF_none {f:Nat→Int} {n:Nat} (h:∀i,i<n→f i=0):fstF f n=0:=by
 have:(List.range n).find? (fun i=>f i != 0)=none:=by
  rw[List.find?_eq_none];intro i hi;simpa using h i (List.mem_range.1 hi)
 unfold fstF;rw[this]
structure Smh (ps:List Pr):Prop where
 procs:ps.length≤1000000
 vars:∀p ∈ ps,p.vars.length≤1000000
structure Sm (ps:List Pr):Prop where
 procs:ps.length≤1000000
 evs:∀p ∈ ps,p.evs.length≤1000000
 vars:∀p ∈ ps,p.vars.length≤1000000
 asg:∀p ∈ ps,∀e ∈ p.evs,e.asg.length≤1000000
theorem Sm.h {ps:List Pr} (hs:Sm ps):Smh ps:=⟨hs.procs,hs.vars⟩
end Go.AL
end
section
namespace Go.AL
open Go Go.RowKit
section
variable {C:Cfg} {c:Code} {Q:AQ} {ρ:Env} {L:AHeap}
theorem AWp.perm {L':AHeap} (hp:L.Perm L') (h:AWp C c Q ρ L'):AWp C c Q ρ L :=
 AWp.st (fun _ _ _ _ _ hs=>st_view hs (Lf:=[]) (Lk:=L') hp (LVw.refl _) fun _ => .inr (.refl _)) h
theorem AWp.nodup (h:(L.map (·.1)).Nodup→AWp C c Q ρ L):AWp C c Q ρ L:=fun hok n w0 M A0 a w hs=>by
 obtain⟨A,ds,hs'⟩:=st_iff.1 hs
 exact h hs'.l.nodup hok n w0 M A0 a w hs
theorem AWp.viewP {Lf Lk L':AHeap} (hp:L.Perm (Lf ++ Lk)) (hv:LVw Lf Lk L') (sv:List (Nat × AV)) (hs:∀p ∈ sv,Vw Lf (get ρ p.1) p.2) (h:AWp C c Q (sv ++ ρ) L'):AWp C c Q ρ L:=by
 refine AWp.st (fun w0 M A0 a w hst=>st_view hst hp hv fun i => .inr ?_) h
 clear h
 induction sv with
 | nil=>exact .refl _
 | cons p sv ih =>
  obtain⟨j,x⟩:=p
  simp only[List.cons_append,get]
  split
  ·rename_i e;subst e;exact hs (i,x) List.mem_cons_self
  ·exact ih fun p hp=>hs p (List.mem_cons_of_mem _ hp)
theorem AWp.rowLe {b k cap:Nat} {t:TypeId} {xs:List AV} (hm:(b,.row t k xs cap) ∈ L) (h:xs.length≤cap→AWp C c Q ρ L):AWp C c Q ρ L:=fun hok n w0 M A0 a w hs=>by
 obtain⟨A,ds,hs'⟩:=st_iff.1 hs
 obtain⟨_,_,_,h3,_⟩:=hs'.l.blk _ hm
 exact h h3 hok n w0 M A0 a w hs
theorem AWp.loopN (ls ks:List Nat) (I:Nat→List AV→AHeap→Prop) (m0:Nat) (h0:I m0 (ls.map (get ρ)) L)
  (round:∀m vs L',vs.length=ls.length→I m vs L'→AWp C c (roundQ ls ks ρ (fun vs' L''=>∃m',m'<m∧I m' vs' L'') Q) (lenv ls ks vs ρ) L'):AWp C (.loop c) Q ρ L:=by
 open Classical in
 let μ:List AV→AHeap→Nat:=fun vs L=>if h:∃m,I m vs L then Classical.choose (least h) else 0
 refine AWp.loop ls ks (fun vs L=>∃m,I m vs L) μ ⟨m0,h0⟩ fun vs L' hl hI => ?_
 have hμ:μ vs L'=Classical.choose (least hI):=dif_pos hI
 have hm:=(Classical.choose_spec (least hI)).1
 refine(round _ vs L' hl hm).mono fun e ρ' L'' hq => ?_
 cases e with
 | normal =>
  obtain⟨h1,L3,h2,m',h3,h4⟩:=hq
  have hx:∃m,I m (ls.map (get ρ')) L3:=⟨m',h4⟩
  refine⟨h1,L3,h2,hx,?_⟩
  have e:μ (ls.map (get ρ')) L3=Classical.choose (least hx):=dif_pos hx
  rw[e,hμ]
  exact Nat.lt_of_le_of_lt ((Classical.choose_spec (least hx)).2 _ h4) h3
 | _=>exact hq
end
theorem lk_of_mem {L:AHeap} (hn:(L.map (·.1)).Nodup) {b:Nat} {x:ABlk} (h:(b,x) ∈ L):lk L b=some x:=by
 induction L with
 | nil=>cases h
 | cons y r ih =>
  obtain⟨b',y⟩:=y
  simp only[List.map_cons,List.nodup_cons] at hn
  simp only[lk]
  rcases List.mem_cons.1 h with e|h'
  ·cases e;rw[if_pos rfl]
  ·have hne:¬b=b':=fun e=>by subst e;exact hn.1 (List.mem_map_of_mem (f:=(·.1)) h')
   rw[if_neg hne,ih hn.2 h']
theorem flatMap_ext {α β:Type} {f g:α→List β} : ∀ {l:List α},(∀x ∈ l,f x=g x)→l.flatMap f=l.flatMap g
 | [],_=>rfl
 | x :: l,h=>by simp only[List.flatMap_cons];rw[h x (by simp),flatMap_ext fun y hy=>h y (List.mem_cons_of_mem _ hy)]
def famL (n:Nat) (Ls:Nat→AHeap):AHeap:=(List.range n).flatMap Ls
def famR (n p:Nat) (Ls:Nat→AHeap):AHeap:=((List.range n).erase p).flatMap Ls
theorem fam_split {n p:Nat} (hp:p<n) (Ls:Nat→AHeap):(famL n Ls).Perm (Ls p ++ famR n p Ls):=by
 have h:=List.Perm.flatMap_right Ls (List.perm_cons_erase (List.mem_range.2 hp))
 rwa [List.flatMap_cons] at h
theorem famR_congr {n p:Nat} {Ls Ls':Nat→AHeap} (h:∀q,q ≠ p→Ls' q=Ls q):famR n p Ls'=famR n p Ls :=
 flatMap_ext fun q hq=>h q fun e=>by subst e;exact(List.nodup_range.not_mem_erase) hq
theorem map_range_set (n p:Nat) (V:Nat→AV) (x:AV):((List.range n).map V).set p x=(List.range n).map fun q=>if q=p then x else V q:=by
 apply List.ext_getElem?
 intro i
 rw[List.getElem?_set,List.getElem?_map,List.getElem?_map]
 by_cases hi:i<n
 ·rw[List.getElem?_range hi]
  by_cases e:p=i
  ·subst e;simp [hi]
  ·rw[if_neg e];simp [Ne.symm e]
 ·have:(List.range n)[i]?=none:=by simp;omega
  rw[this]
  split
  ·split
   ·rename_i h;simp at h;omega
   ·rfl
  ·rfl
theorem fam_views {n k:Nat} {t:TypeId} {V:Nat→AV} {Ls:Nat→AHeap} {Y:Nat→List AV} (hn:((famL n Ls).map (·.1)).Nodup) (h:∀p,p<n→AppSt t k (Y p) (V p) (Ls p)) :
  Vws (famL n Ls) ((List.range n).map V) ((List.range n).map fun p => .sl k (Y p)):=by
 refine⟨by simp,fun i x y hx hy => ?_⟩
 by_cases hi:i<n
 ·rw[List.getElem?_map,List.getElem?_range hi] at hx hy
  cases hx;cases hy
  show Vw (famL n Ls) (V i) (.sl k (Y i))
  rcases (h i hi).inv with ⟨e1,e2,_⟩|⟨b,cap,e1,e2⟩
  ·rw[e1,e2];exact .nil k
  ·rw[e1]
   refine Vw.ofLs (t:=t) (cap:=cap) (lk_of_mem hn ?_) rfl
   unfold famL
   exact List.mem_flatMap.2 ⟨i,List.mem_range.2 hi,by rw[e2];exact List.mem_singleton_self _⟩
 ·have:(List.range n)[i]?=none:=by simp;omega
  rw[List.getElem?_map,this] at hx;cases hx
theorem map_range_getD {n p:Nat} (hp:p<n) (V:Nat→AV):((List.range n).map V).getD p .any=V p:=by
 rw[List.getD_eq_getElem?_getD,List.getElem?_map,List.getElem?_range hp];rfl
end Go.AL
end
