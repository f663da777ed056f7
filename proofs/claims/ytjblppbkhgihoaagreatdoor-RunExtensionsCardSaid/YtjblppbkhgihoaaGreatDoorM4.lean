/- Texts of this claim's proof: AlMix, AlBr, AlBr2, AlBr3, AlBr4, AlSrt, WLsf. No condition. -/
import Derived.Test.YtjblppbkhgihoaaGreatDoorM3
import Derived.ProofKit
import Derived.Lib.LaidTab
import Derived.Shelf.SlSortCmp.Whole1
import Derived.Test.YtjblppbkhgihoaaGreatDoorProg
import Derived.Shelf.SlGeneric
section
namespace Go.AL
open Go Go.RowKit
def tOp (o:Oper):Bool :=
 match o.op with
 | .alloc _=>true
 | .box _ _=>true
 | .buildSlice _ _ _=>true
 | .store _ _ _=>true
 | .makeSlice _ _ _=>true
 | .makeMap _ none=>true
 | .mapUpdate _ _ _ _=>true
 | .call c=>match c.callee,c.args.toList,c.argTypes.toList with
  | .builtin .append,[_,_],[_,_]=>true
  | .builtin .copy,[_,_],[_,_]=>true
  | .value _,_,_=>true
  | _,_,_=>false
 | _=>false
def aopX (C:Cfg) (o:Oper) (ρ:Env) (L:AHeap) (K:ARes):Prop :=
 match aval C.P ρ L o.op with
 | some (c,x)=>c∧K (put ρ o.dst x) L
 | none=>if tOp o then aop2 C o ρ L K else False
theorem aopX_aop {C:Cfg} {o:Oper} {ρ:Env} {L:AHeap} {K:ARes} (h:aopX C o ρ L K):aop C o ρ L K:=by
 unfold aopX at h;unfold aop
 cases hv:aval C.P ρ L o.op with
 | some cx=>rw[hv] at h;exact h
 | none =>
  rw[hv] at h
  by_cases ht:tOp o=true
  ·have h:if tOp o then aop2 C o ρ L K else False:=h
   rw[if_pos ht] at h;exact h
  ·have h:if tOp o then aop2 C o ρ L K else False:=h
   rw[if_neg ht] at h;exact h.elim
section
variable {C:Cfg} {o:Oper} {ρ ρ':Env} {L:AHeap} {K K':ARes}
theorem aop2_tr (hag:∀x ∈ o.op.operands,ev ρ' x=ev ρ x) (ht:tOp o=true) (k1:∀x L,K (put ρ o.dst x) L→K' (put ρ' o.dst x) L) (k2:∀s y x L,(∃t x',o.op = .store t (.tmp s) x')→K ((s,y) :: put ρ o.dst x) L→K' ((s,y) :: put ρ' o.dst x) L)
  (h:aop2 C o ρ L K):aop2 C o ρ' L K':=by
 unfold aop2 at *
 split at h
 ·unfold aAlloc at *;split at h
  ·exact⟨h.1,fun b hb=>k1 _ _ (h.2 b hb)⟩
  ·exact h.elim
 ·rename_i t x hop
  rw[hop] at hag
  have e:ev ρ' x=ev ρ x:=hag x (by simp [Op.operands])
  rw[e]
  unfold aBox at *;split at h
  ·refine⟨h.1,h.2.1,?_⟩
   have h:=h.2.2
   split at h
   ·rename_i hz;rw[if_pos hz];exact k1 _ _ h
   ·rename_i hz;rw[if_neg hz];exact fun b hb=>k1 _ _ (h b hb)
  ·exact h.elim
 ·rename_i t len parts hop
  rw[hop] at hag
  have e:(parts.toList.map fun p=>(p.1,ev ρ' p.2))=parts.toList.map fun p=>(p.1,ev ρ p.2):=List.map_congr_left fun p hp=>by
   rw[hag p.2 (by simp only[Op.operands,List.mem_toArray,List.mem_map,Array.mem_map];first|exact⟨p,hp,rfl⟩|exact⟨p,by simpa using hp,rfl⟩)]
  rw[e]
  unfold aBuildSlice at *;split at h
  ·split at h
   ·refine⟨h.1,h.2.1,h.2.2.1,h.2.2.2.1,h.2.2.2.2.1,?_⟩
    have h:=h.2.2.2.2.2
    split at h
    ·rename_i hz;rw[if_pos hz];exact k1 _ _ h
    ·rename_i hz;rw[if_neg hz];exact fun b hb=>k1 _ _ (h b hb)
   ·exact h.elim
  ·exact h.elim
 ·rename_i t p x hop
  have hop':=hop
  rw[hop] at hag
  have e1:ev ρ' p=ev ρ p:=hag p (by simp [Op.operands])
  have e2:ev ρ' x=ev ρ x:=hag x (by simp [Op.operands])
  rw[e2]
  unfold aStore at *
  rw[e1]
  split at h
  ·split at h
   ·refine⟨h.1,h.2.1,h.2.2.1,h.2.2.2.1,h.2.2.2.2.1,h.2.2.2.2.2.1,h.2.2.2.2.2.2.1,h.2.2.2.2.2.2.2.1,?_⟩
    have h:=h.2.2.2.2.2.2.2.2
    split at h
    ·split at h
     ·rename_i hz;rw[if_pos hz];exact k2 _ _ _ _ ⟨_,_,hop'⟩ h
     ·rename_i hz;rw[if_neg hz];exact k1 _ _ h
    ·exact k1 _ _ h
   ·exact h.elim
  ·exact h.elim
 ·rename_i t l c hop
  rw[hop] at hag
  have e1:ev ρ' l=ev ρ l:=hag l (by simp [Op.operands])
  have e2:ev ρ' c=ev ρ c:=hag c (by simp [Op.operands])
  rw[e1,e2]
  unfold aMakeSlice at *;split at h
  ·split at h
   ·refine⟨h.1,h.2.1,h.2.2.1,h.2.2.2.1,h.2.2.2.2.1,h.2.2.2.2.2.1,h.2.2.2.2.2.2.1,?_⟩
    have h:=h.2.2.2.2.2.2.2
    split at h
    ·rename_i hz;rw[if_pos hz];exact k1 _ _ h
    ·rename_i hz;rw[if_neg hz];exact fun b hb=>k1 _ _ (h b hb)
   ·exact h.elim
  ·exact h.elim
 ·exact fun b hb=>k1 _ _ (h b hb)
 ·rename_i cl hop
  rw[hop] at hag
  have ha:∀x ∈ cl.args.toList,ev ρ' x=ev ρ x:=fun x hx=>hag x (by simp only[Op.operands,Call.operands,Array.mem_append];exact .inr (by simpa using hx))
  split at h
  ·rename_i s x t t' h0 hx ht'
   have e1:ev ρ' s=ev ρ s:=ha s (by rw[hx];simp)
   have e2:ev ρ' x=ev ρ x:=ha x (by rw[hx];simp)
   rw[e1,e2]
   split at h
   ·rename_i e;rw[if_pos e]
    unfold aAppend at *;split at h
    ·split at h
     ·split at h
      ·refine⟨h.1,h.2.1,h.2.2.1,h.2.2.2.1,h.2.2.2.2.1,?_⟩
       have h:=h.2.2.2.2.2
       split at h
       ·exact⟨h.1,fun hy=>k1 _ _ (h.2.1 hy),fun hy b c hb hc=>k1 _ _ (h.2.2 hy b c hb hc)⟩
       ·split at h
        ·exact⟨h.1,h.2.1,h.2.2.1,h.2.2.2.1,h.2.2.2.2.1,h.2.2.2.2.2.1,fun b c hb hc=>k1 _ _ (h.2.2.2.2.2.2 b c hb hc)⟩
        ·exact h.elim
       ·split at h
        ·exact⟨h.1,h.2.1,h.2.2.1,h.2.2.2.1,h.2.2.2.2.1,h.2.2.2.2.2.1,fun hc=>k1 _ _ (h.2.2.2.2.2.2.1 hc),fun b c hb hc=>k1 _ _ (h.2.2.2.2.2.2.2 b c hb hc)⟩
        ·exact h.elim
       ·exact h.elim
      ·exact h.elim
     ·exact h.elim
    ·exact h.elim
   ·rename_i e;rw[if_neg e]
    unfold aGrow at *;split at h
    ·split at h
     ·exact⟨h.1,h.2.1,h.2.2.1,h.2.2.2.1,h.2.2.2.2.1,h.2.2.2.2.2.1,h.2.2.2.2.2.2.1,fun b c hb hc=>k1 _ _ (h.2.2.2.2.2.2.2 b c hb hc)⟩
     ·exact h.elim
    ·exact h.elim
  ·rename_i s x t t' h0 hx ht'
   have e1:ev ρ' s=ev ρ s:=ha s (by rw[hx];simp)
   have e2:ev ρ' x=ev ρ x:=ha x (by rw[hx];simp)
   rw[e1,e2]
   unfold aCopy at *;split at h
   ·split at h
    ·split at h
     ·refine⟨h.1,h.2.1,h.2.2.1,h.2.2.2.1,?_⟩
      have h:=h.2.2.2.2
      split at h
      ·split at h
       ·exact⟨h.1,h.2.1,h.2.2.1,k1 _ _ h.2.2.2⟩
       ·exact h.elim
      ·exact h.elim
     ·exact h.elim
    ·exact h.elim
   ·exact h.elim
  ·rename_i s t h0 hx ht'
   have e1:ev ρ' s=ev ρ s:=ha s (by rw[hx];simp)
   rw[e1]
   unfold aClear at *;split at h
   ·split at h
    ·refine⟨h.1,h.2.1,h.2.2.1,?_⟩
     have h:=h.2.2.2
     split at h
     ·split at h
      ·exact⟨h.1,h.2.1,h.2.2.1,k1 _ _ h.2.2.2⟩
      ·exact h.elim
     ·exact h.elim
    ·exact h.elim
   ·exact h.elim
  ·rename_i l tys g h0
   have e0:ev ρ' g=ev ρ g:=hag g (by simp [Op.operands,Call.operands,h0])
   have e1:cl.args.toList.map (ev ρ')=cl.args.toList.map (ev ρ):=List.map_congr_left ha
   have e2:(cl.args.toList.map fun x=>(fo (ev ρ' x)).2)=cl.args.toList.map fun x=>(fo (ev ρ x)).2:=List.map_congr_left fun x hx=>by rw[ha x hx]
   rw[e0,e1,e2]
   exact⟨h.1,h.2.1,h.2.2.mono fun r L hh=>k1 _ _ hh⟩
  ·rename_i hn1 hn2 hn3
   exfalso
   simp only[tOp,hop] at ht
   cases ht
 ·rename_i op t x y ty hop;simp [tOp,hop] at ht
 ·rename_i t m k x hop
  rw[hop] at hag
  have e1:ev ρ' m=ev ρ m:=hag m (by simp [Op.operands])
  have e2:ev ρ' k=ev ρ k:=hag k (by simp [Op.operands])
  have e3:ev ρ' x=ev ρ x:=hag x (by simp [Op.operands])
  rw[e1,e2,e3]
  unfold aMapUpdate at *
  split at h
  ·split at h
   ·exact⟨h.1,h.2.1,h.2.2.1,h.2.2.2.1,h.2.2.2.2.1,k1 _ _ h.2.2.2.2.2⟩
   ·exact h.elim
  ·exact h.elim
 ·rename_i t m k x hop;simp [tOp,hop] at ht
 ·rename_i hn1 hn2 hn3 hn4 hn5 hn6 hn7 hn8 hn9 hn10
  exfalso
  unfold tOp at ht
  split at ht
  ·rename_i e;exact hn1 _ e
  ·rename_i e;exact hn2 _ _ e
  ·rename_i e;exact hn3 _ _ _ e
  ·rename_i e;exact hn4 _ _ _ e
  ·rename_i e;exact hn5 _ _ _ e
  ·rename_i e;exact hn6 _ e
  ·rename_i e;exact hn9 _ _ _ _ e
  ·rename_i e;exact hn7 _ e
  ·cases ht
theorem aopX_tr (hag:∀x ∈ o.op.operands,ev ρ' x=ev ρ x) (k1:∀x L,K (put ρ o.dst x) L→K' (put ρ' o.dst x) L) (k2:∀s y x L,(∃t x',o.op = .store t (.tmp s) x')→K ((s,y) :: put ρ o.dst x) L→K' ((s,y) :: put ρ' o.dst x) L)
  (h:aopX C o ρ L K):aopX C o ρ' L K':=by
 unfold aopX at *
 rw[aval_congr hag]
 cases hv:aval C.P ρ L o.op with
 | some cx=>rw[hv] at h;exact⟨h.1,k1 _ _ h.2⟩
 | none =>
  rw[hv] at h
  by_cases ht:tOp o=true
  ·have h:if tOp o then aop2 C o ρ L K else False:=h
   rw[if_pos ht] at h
   show if tOp o then aop2 C o ρ' L K' else False
   rw[if_pos ht]
   exact aop2_tr hag ht k1 k2 h
  ·have h:if tOp o then aop2 C o ρ L K else False:=h
   rw[if_neg ht] at h;exact h.elim
end
theorem aLoad_nil {P:Program} {t:TypeId} {p:AV} {r:Prop × AV} (h:aLoad P [] t p=some r) (L:AHeap):aLoad P L t p=some r:=by
 unfold aLoad at *
 split at h
 ·cases h
 ·split at h
  ·exact h
  ·cases h
  ·cases h
theorem aLen_nil {P:Program} {t:TypeId} {x:AV} {r:Prop × AV} (h:aLen P [] t x=some r) (L:AHeap):aLen P L t x=some r:=by
 unfold aLen at *
 split at h
 ·exact h
 ·exact h
 ·exact h
 ·exact h
 ·split at h
  ·exact h
  ·cases h
  ·exact h
  ·cases h
 ·cases h
theorem w1_nil {x:AV} {f g:AV→Option (Prop × AV)} {r:Prop × AV} (h:w1 x f=some r) (hfg:∀y r,f y=some r→g y=some r):w1 x g=some r:=by
 unfold w1 at *
 split at h
 ·rename_i c y hf;rw[hfg _ _ hf];exact h
 ·cases h
theorem w2_nil {x y:AV} {f g:AV→AV→Option (Prop × AV)} {r:Prop × AV} (h:w2 x y f=some r) (hfg:∀y z r,f y z=some r→g y z=some r):w2 x y g=some r:=by
 unfold w2 at *
 split at h
 ·rename_i c z hf;rw[hfg _ _ _ hf];exact h
 ·cases h
theorem mapOf_nil {m:AV} {r:List Value × List AV} (h:mapOf [] m=some r) (L:AHeap):mapOf L m=some r:=by
 unfold mapOf at *
 split at h
 ·cases h
 ·exact h
 ·exact h
 ·cases h
theorem aLookup_nil {P:Program} {t:TypeId} {ok:Bool} {m k:AV} {r:Prop × AV} (h:aLookup P [] t ok m k=some r) (L:AHeap):aLookup P L t ok m k=some r:=by
 unfold aLookup at *
 split at h
 ·split at h
  ·rename_i e1 e2 e3 e4
   rw[e1,e2,e3,mapOf_nil e4 L];exact h
  ·cases h
 ·cases h
theorem srcOf_nil {k:Nat} {x:AV} {r:Prop × List AV} (h:srcOf [] k x=some r) (L:AHeap):srcOf L k x=some r:=by
 unfold srcOf at *
 split at h
 ·exact h
 ·cases h
 ·exact h
 ·cases h
theorem aConvL_nil {P:Program} {s d:TypeId} {x:AV} {r:Prop × AV} (h:aConvL P [] s d x=some r) (L:AHeap):aConvL P L s d x=some r:=by
 unfold aConvL at *
 split at h
 ·split at h
  ·cases hs:srcOf [] 1 x with
   | none=>rw[hs] at h;cases h
   | some p=>rw[hs] at h;rw[srcOf_nil hs L];exact h
  ·cases h
 ·exact h
theorem aval_nil {P:Program} {ρ:Env} {op:Op} {r:Prop × AV} (h:aval P ρ [] op=some r) (L:AHeap):aval P ρ L op=some r:=by
 cases op with
 | load t x=>exact w1_nil h fun y r hy=>aLoad_nil hy L
 | lookup t m k ok=>exact w2_nil h fun y z r hy=>aLookup_nil hy L
 | convert s d x=>exact w1_nil h fun y r hy=>aConvL_nil hy L
 | call c =>
  unfold aval at *
  dsimp only at *
  split at h
  ·exact w1_nil h fun y r hy=>aLen_nil hy L
  ·exact h
  ·exact h
  ·exact h
  ·cases h
 | makeFunc fn first cap=>cases fn <;> exact h
 | slice t x lo hi mx=>cases mx <;> exact h
 | _=>exact h
def YldF (C:Cfg) (ops:Array Oper) (i:Nat) (o:Oper) (x:AV) (ρ:Env):Prop :=
 ∀ρ' L,(∀t ∈ o.looksAt ops,get ρ' t=get ρ t)→GOp C ops i ρ' L fun ρ2 L2=>ρ2=put ρ' o.dst x∧L2=L
def aFz (C:Cfg) (o:Oper) (ρ:Env):Option (Prop × AV) :=
 match o.op with
 | .makeSlice t l c=>match tinfo C.P t,(fo (ev ρ l)).2,(fo (ev ρ c)).2 with
  | some ⟨.slice e,_,_,_⟩,.v (.int _ l'),.v (.int _ c')=>match tinfo C.P e with
   | some ei=>some (isFz C.fz o.dst=true∧((fo (ev ρ l)).1∧(fo (ev ρ c)).1)∧0≤l'∧l'≤c'∧ei.bytes * c'≤281474976710656∧c'≤9223372036854775807∧0<ei.size∧elOk ei.size ei.zero,.sl ei.size (List.replicate l'.toNat ei.zero))
   | none=>none
  | _,_,_=>none
 | .buildSlice t len parts=>match tinfo C.P t with
  | some ⟨.slice e,_,_,_⟩=>match tinfo C.P e with
   | some ei=>some (isFz C.fz o.dst=true∧fos (parts.toList.map fun p=>ev ρ p.2)∧len * ei.size≤16777216∧0<ei.size∧elOk ei.size ei.zero∧partsOk len ei.size (parts.toList.map fun p=>(p.1,(fo (ev ρ p.2)).2)),
     .sl ei.size (setAll (List.replicate len ei.zero) (parts.toList.map fun p=>(p.1,(fo (ev ρ p.2)).2))))
   | none=>none
  | _=>none
 | _=>none
theorem aFz_sound {C:Cfg} {o:Oper} {ρ:Env} {c:Prop} {x:AV} (hd:dstOk C o) (h:aFz C o ρ=some (c,x)) (hc:c) (L:AHeap):AOp C o ρ L fun ρ2 L2=>ρ2=put ρ o.dst x∧L2=L:=by
 unfold aFz at h
 split at h
 ·rename_i t l c' ho
  refine aMakeSlice_sound ho hd ?_
  unfold aMakeSlice
  split at h
  ·rename_i e _ _ _ kl ll kc cc hti hl hc'
   split at h
   ·rename_i ei hei
    simp only[Option.some.injEq,Prod.mk.injEq] at h
    obtain⟨rfl,rfl⟩:=h
    simp only[hti,hl,hc',hei]
    exact⟨hc.2.1,hc.2.2.1,hc.2.2.2.1,hc.2.2.2.2.1,hc.2.2.2.2.2.1,hc.2.2.2.2.2.2.1,hc.2.2.2.2.2.2.2,by rw[if_pos hc.1];simp⟩
   ·cases h
  ·cases h
 ·rename_i t len parts ho
  refine aBuildSlice_sound ho hd ?_
  unfold aBuildSlice
  split at h
  ·rename_i e _ _ _ hti
   split at h
   ·rename_i ei hei
    simp only[Option.some.injEq,Prod.mk.injEq] at h
    obtain⟨rfl,rfl⟩:=h
    simp only[hti,hei]
    obtain⟨h1,h2,h3,h4,h5,h6⟩:=hc
    refine⟨by simpa [List.map_map,Function.comp_def] using h2,h3,h4,h5,by simpa [List.map_map,Function.comp_def] using h6,?_⟩
    rw[if_pos h1]
    simp [List.map_map,Function.comp_def]
   ·cases h
  ·cases h
 ·cases h
theorem aFz_congr {C:Cfg} {o:Oper} {ρ ρ':Env} (hag:∀x ∈ o.op.operands,ev ρ' x=ev ρ x):aFz C o ρ'=aFz C o ρ:=by
 unfold aFz
 split
 ·rename_i t l c hop
  rw[hop] at hag
  rw[hag l (by simp [Op.operands]),hag c (by simp [Op.operands])]
 ·rename_i t len parts hop
  rw[hop] at hag
  have e1:(parts.toList.map fun p=>ev ρ' p.2)=parts.toList.map fun p=>ev ρ p.2:=List.map_congr_left fun p hp=>by
   rw[hag p.2 (by simp only[Op.operands,List.mem_toArray,List.mem_map,Array.mem_map];first|exact⟨p,hp,rfl⟩|exact⟨p,by simpa using hp,rfl⟩)]
  have e2:(parts.toList.map fun p=>(p.1,(fo (ev ρ' p.2)).2))=parts.toList.map fun p=>(p.1,(fo (ev ρ p.2)).2):=List.map_congr_left fun p hp=>by
   rw[hag p.2 (by simp only[Op.operands,List.mem_toArray,List.mem_map,Array.mem_map];first|exact⟨p,hp,rfl⟩|exact⟨p,by simpa using hp,rfl⟩)]
  rw[e1,e2]
 ·rfl
def aqF (C:Cfg) (all:List Oper) (o:Oper) (ρ:Env) (K:Env→Prop):Prop :=
 match o.guard with
 | none=>match aval C.P ρ [] o.op with
  | some (c,x)=>c∧K (put ρ o.dst x)
  | none=>match o.op with
   | .call c=>match c.callee with
    | .value g=>GCall C.P True ((fo (ev ρ g)).1∧fos (c.args.toList.map (ev ρ))) (fo (ev ρ g)).2 (c.args.toList.map fun x=>(fo (ev ρ x)).2) [] (putQ K ρ o.dst)
    | _=>False
   | _=>match aFz C o ρ with
    | some (c,x)=>c∧K (put ρ o.dst x)
    | none=>False
 | some (j,want)=>match gval all ρ j want with
  | some b=>match aval C.P ρ [] o.op with
   | some (c,x)=>(b=want→c)∧K (put ρ o.dst (.cond (b == want) x))
   | none=>match o.op with
    | .call c=>match c.callee with
     | .value g=>GCall C.P (b=want) ((fo (ev ρ g)).1∧fos (c.args.toList.map (ev ρ))) (fo (ev ρ g)).2 (c.args.toList.map fun x=>(fo (ev ρ x)).2) [] (putQC K ρ o.dst (b == want))
     | _=>False
    | _=>match aFz C o ρ with
     | some (c,x)=>(b=want→c)∧K (put ρ o.dst (.cond (b == want) x))
     | none=>b ≠ want∧K (put ρ o.dst (.cond (b == want) .any))
  | none=>False
section
variable {C:Cfg} {ops:Array Oper}
theorem MVal.any {P:Program} {g:AV} {args:List AV} {r:AV} (h:MVal P g args [] fun r' L'=>r'=r∧L'=[]) (L:AHeap):MVal P g args L fun r' L'=>r'=r∧L'=L:=by
 have:=MVal.frame (Lr:=L) h
 exact this.mono fun r' L' ⟨L1,e,e1,e2⟩=>by subst e1 e2;exact⟨rfl,by simpa using e⟩
theorem aqF_yields {i:Nat} {o:Oper} {ρ:Env} {K:Env→Prop} (hi:ops[i]?=some o) (hok:operOk C.N o=true) (h:aqF C ops.toList o ρ K):∃x,YldF C ops i o x ρ∧K (put ρ o.dst x):=by
 have hd:=operOk_dst hok
 have hdef:=operOk_def hok
 unfold aqF at h
 split at h
 ·rename_i hg
  split at h
  ·rename_i c x hv
   exact⟨x,fun ρ' L hag=>AOp.gop hi hg (aval_sound (by rw[aval_congr (agree_ops hag)];exact aval_nil hv L) h.1 hd hdef),h.2⟩
  ·split at h
   ·rename_i cl ho
    split at h
    ·rename_i g h0
     obtain⟨r,h1,h2⟩:=h
     refine⟨r,fun ρ' L hag=>AOp.gop hi hg ?_,h2⟩
     have hag':=agree_ops hag
     rw[ho] at hag'
     obtain⟨e1,e2,e3⟩:=call_congr h0 hag'
     exact call_sound ho h0 hd (by rw[e1,e2,e3];exact⟨(h1 trivial).1.1,(h1 trivial).1.2,(h1 trivial).2.any L⟩)
    ·exact h.elim
   ·split at h
    ·rename_i c x hz
     exact⟨x,fun ρ' L hag=>AOp.gop hi hg (aFz_sound hd (by rw[aFz_congr (agree_ops hag)];exact hz) h.1 L),h.2⟩
    ·exact h.elim
 ·rename_i j want hg
  split at h
  ·rename_i b hv
   split at h
   ·rename_i c x ha
    refine⟨_,fun ρ' L hag=>GOp.of_cond hi hg (by rw[agree_guard hag hg];exact hv) hd fun hb=>aval_sound (by rw[aval_congr (agree_ops hag)];exact aval_nil ha L) (h.1 hb) hd hdef,h.2⟩
   ·split at h
    ·rename_i cl ho
     split at h
     ·rename_i g h0
      obtain⟨r,h1,h2⟩:=h
      refine⟨_,fun ρ' L hag=>GOp.of_cond hi hg (by rw[agree_guard hag hg];exact hv) hd fun hb => ?_,h2⟩
      have hag':=agree_ops hag
      rw[ho] at hag'
      obtain⟨e1,e2,e3⟩:=call_congr h0 hag'
      exact call_sound ho h0 hd (by rw[e1,e2,e3];exact⟨(h1 hb).1.1,(h1 hb).1.2,(h1 hb).2.any L⟩)
     ·exact h.elim
    ·split at h
     ·rename_i c x hz
      exact⟨_,fun ρ' L hag=>GOp.of_cond hi hg (by rw[agree_guard hag hg];exact hv) hd fun hb=>aFz_sound hd (by rw[aFz_congr (agree_ops hag)];exact hz) (h.1 hb) L,h.2⟩
     ·exact⟨_,fun ρ' L hag=>GOp.of_cond hi hg (by rw[agree_guard hag hg];exact hv) hd fun hb=>absurd hb h.1,h.2⟩
  ·exact h.elim
end
def gopX (C:Cfg) (all:List Oper) (o:Oper) (ρ:Env) (L:AHeap) (K:ARes):Prop :=
 match o.guard with
 | none=>aopX C o ρ L K
 | some (j,want)=>match gval all ρ j want with
  | some b=>match aval C.P ρ L o.op with
   | some (c,x)=>(b=want→c)∧K (put ρ o.dst (.cond (b == want) x)) L
   | none=>match o.op with
    | .call c=>match c.callee with
     | .value g=>GCall C.P (b=want) ((fo (ev ρ g)).1∧fos (c.args.toList.map (ev ρ))) (fo (ev ρ g)).2 (c.args.toList.map fun x=>(fo (ev ρ x)).2) L (putC K ρ o.dst (b == want) L)
     | _=>False
    | _=>False
  | none=>False
theorem gopX_some {C:Cfg} {ops:Array Oper} {i:Nat} {o:Oper} {ρ:Env} {L:AHeap} {K:ARes} {j:Nat} {want:Bool} (hi:ops[i]?=some o) (hok:operOk C.N o=true) (hg:o.guard=some (j,want)) (h:gopX C ops.toList o ρ L K) :
  ∃x,K (put ρ o.dst x) L∧∀ρ',(∀t ∈ o.looksAt ops,get ρ' t=get ρ t)→GOp C ops i ρ' L fun ρ2 L2=>ρ2=put ρ' o.dst x∧L2=L:=by
 have hd:=operOk_dst hok
 have hdef:=operOk_def hok
 unfold gopX at h
 rw[hg] at h
 dsimp only at h
 split at h
 ·rename_i b hv
  split at h
  ·rename_i c x ha
   exact⟨_,h.2,fun ρ' hag=>GOp.of_cond hi hg (by rw[agree_guard hag hg];exact hv) hd fun hb=>aval_sound (by rw[aval_congr (agree_ops hag)];exact ha) (h.1 hb) hd hdef⟩
  ·split at h
   ·rename_i cl ho
    split at h
    ·rename_i g h0
     obtain⟨r,h1,h2⟩:=h
     refine⟨_,h2,fun ρ' hag=>GOp.of_cond hi hg (by rw[agree_guard hag hg];exact hv) hd fun hb => ?_⟩
     have hag':=agree_ops hag
     rw[ho] at hag'
     obtain⟨e1,e2,e3⟩:=call_congr h0 hag'
     exact call_sound ho h0 hd (by rw[e1,e2,e3];exact⟨(h1 hb).1.1,(h1 hb).1.2,(h1 hb).2⟩)
    ·exact h.elim
   ·exact h.elim
 ·exact h.elim
def dstOf (ops:Array Oper) (i:Nat):Option Nat:=(ops[i]?).bind (·.dst)
def predsOf (o:Oper):List Nat:=(o.after.toList.filter (Region.binds .any)).map (·.on)
def touchOf (o:Oper):List Nat:=o.dst.toList ++ (match o.op with | .store _ (.tmp s) _=>[s]|_=>[])
def ascend:List Nat→Bool
 | []=>true
 | i :: r=>r.all (fun j=>decide (i<j)) && ascend r
def mixOk (ops:Array Oper) (qs:List Nat):Bool :=
 ascend qs && qs.all (fun q=>decide (q<ops.size)) &&
 (List.range ops.size).all fun i=>match ops[i]? with
  | some o=>(predsOf o).all (fun p=>decide (p<i)) &&
    qs.all (fun q=>match dstOf ops q with
     | some d=>(!(o.looksAt ops).contains d || (predsOf o).contains q) && (i == q || !(o.dst == some d))
     | none=>true) &&
    (qs.contains i || qs.all fun q=>match ops[q]? with
     | some oq=>(touchOf o).all fun s=>(!(oq.looksAt ops).contains s || (predsOf o).contains q) && !(oq.dst == some s)
     | none=>true)
  | none=>true
def OT.apX (C:Cfg) (all:List Oper) (K:ARes):OT→Env→AHeap→Prop
 | .done,_,_=>True
 | .step i t r,ρ,L=>(match all[i]? with|some o=>gopX C all o ρ L (fun ρ L=>if t.isDone then K ρ L else OT.apX C all K t ρ L)|none=>False)∧OT.apX C all K r ρ L
def OT.nxX (C:Cfg) (all:List Oper) (K:ARes) (t:OT) (ρ:Env) (L:AHeap):Prop:=if t.isDone then K ρ L else OT.apX C all K t ρ L
theorem OT.apX_done (C:Cfg) (all:List Oper) (K:ARes) (ρ:Env) (L:AHeap):OT.apX C all K .done ρ L=True:=rfl
theorem OT.apX_step (C:Cfg) (all:List Oper) (K:ARes) (i:Nat) (t r:OT) (ρ:Env) (L:AHeap) :
  OT.apX C all K (.step i t r) ρ L=((match all[i]? with|some o=>gopX C all o ρ L (OT.nxX C all K t)|none=>False)∧OT.apX C all K r ρ L):=rfl
theorem OT.nxX_done (C:Cfg) (all:List Oper) (K:ARes) (ρ:Env) (L:AHeap):OT.nxX C all K .done ρ L=K ρ L:=rfl
theorem OT.nxX_step (C:Cfg) (all:List Oper) (K:ARes) (i:Nat) (t r:OT) (ρ:Env) (L:AHeap):OT.nxX C all K (.step i t r) ρ L=OT.apX C all K (.step i t r) ρ L:=rfl
def aqRun (C:Cfg) (all:List Oper):List Nat→(Env→Prop)→Env→Prop
 | [],K,ρ=>K ρ
 | i :: r,K,ρ=>match all[i]? with
  | some o=>aqF C all o ρ (aqRun C all r K)
  | none=>False
def fullL (n:Nat) (qs:List Nat):Array Bool:=qs.foldl (fun l q=>l.setIfInBounds q true) (Array.replicate n false)
section
variable {C:Cfg} {ops:Array Oper}
def QFact (C:Cfg) (ops:Array Oper) (ρ:Env) (q:Nat):Prop:=∃o x,ops[q]?=some o∧YldF C ops q o x ρ∧∀d,o.dst=some d→get ρ d=x
theorem YldF.of_agree {i:Nat} {o:Oper} {x:AV} {ρ ρ':Env} (h:YldF C ops i o x ρ) (he:∀t ∈ o.looksAt ops,get ρ' t=get ρ t):YldF C ops i o x ρ' :=
 fun ρ2 L hag=>h ρ2 L fun t ht=>(hag t ht).trans (he t ht)
theorem ascend_cons {i:Nat} {r:List Nat} (h:ascend (i :: r)=true):(∀j ∈ r,i<j)∧ascend r=true:=by
 simp only[ascend,Bool.and_eq_true,List.all_eq_true,decide_eq_true_eq] at h;exact h
theorem mix_at {qs:List Nat} (h:mixOk ops qs=true) {i:Nat} {o:Oper} (hi:ops[i]?=some o) :
  (∀p ∈ predsOf o,p<i)∧(∀q ∈ qs,∀d,dstOf ops q=some d→(d ∈ o.looksAt ops→q ∈ predsOf o)∧(i ≠ q→o.dst ≠ some d)) ∧
  (i ∉ qs→∀q ∈ qs,∀oq,ops[q]?=some oq→∀s ∈ touchOf o,(s ∈ oq.looksAt ops→q ∈ predsOf o)∧oq.dst ≠ some s):=by
 unfold mixOk at h
 simp only[Bool.and_eq_true,List.all_eq_true] at h
 have hlt:i<ops.size:=(Array.getElem?_eq_some_iff.1 hi).1
 have h3:=h.2 i (List.mem_range.2 hlt)
 rw[hi] at h3
 simp only[Bool.and_eq_true,List.all_eq_true,decide_eq_true_eq] at h3
 refine⟨h3.1.1,fun q hq d hd => ?_,fun hiq => ?_⟩
 ·have:=h3.1.2 q hq
  rw[hd] at this
  simp only[Bool.and_eq_true,Bool.or_eq_true,Bool.not_eq_true',List.contains_eq_mem,decide_eq_true_eq,decide_eq_false_iff_not,beq_iff_eq,beq_eq_false_iff_ne,ne_eq] at this
  exact⟨fun hm=>this.1.resolve_left (fun hn=>hn hm),fun hne=>this.2.resolve_left hne⟩
 ·have h4:=h3.2
  simp only[Bool.or_eq_true,List.contains_eq_mem,decide_eq_true_eq,List.all_eq_true] at h4
  have h4:=h4.resolve_left hiq
  intro q hq oq hoq s hs
  have:=h4 q hq
  rw[hoq] at this
  simp only[List.all_eq_true,Bool.and_eq_true,Bool.or_eq_true,Bool.not_eq_true',List.contains_eq_mem,decide_eq_true_eq,decide_eq_false_iff_not,beq_eq_false_iff_ne,ne_eq] at this
  exact⟨fun hm=>(this s hs).1.resolve_left (fun hn=>hn hm),(this s hs).2⟩
theorem mix_asc {qs:List Nat} (h:mixOk ops qs=true):ascend qs=true∧∀q ∈ qs,q<ops.size:=by
 unfold mixOk at h
 simp only[Bool.and_eq_true,List.all_eq_true,decide_eq_true_eq] at h
 exact h.1
theorem aqRun_facts {qs0:List Nat} (hm:mixOk ops qs0=true) (hok:ops.toList.all (operOk C.N)=true):∀(qs:List Nat) (ρ:Env) (K:Env→Prop),(∀q ∈ qs,q ∈ qs0)→ascend qs=true→aqRun C ops.toList qs K ρ →
  ∃ρq,K ρq∧(∀q ∈ qs,QFact C ops ρq q)∧∀s,(∀q ∈ qs,dstOf ops q ≠ some s)→get ρq s=get ρ s
 | [],ρ,K,_,_,h=>⟨ρ,h,fun q hq=>(by cases hq),fun _ _=>rfl⟩
 | i :: r,ρ,K,hsub,hasc,h=>by
  obtain⟨hlt,hasc'⟩:=ascend_cons hasc
  simp only[aqRun] at h
  cases ho:ops.toList[i]? with
  | none=>rw[ho] at h;exact h.elim
  | some o =>
   rw[ho] at h
   have ho':ops[i]?=some o:=by simpa using ho
   obtain⟨x,hy,hK⟩:=aqF_yields ho' (List.all_eq_true.1 hok o (List.mem_of_getElem? ho)) h
   obtain⟨ρq,h1,h2,h3⟩:=aqRun_facts hm hok r _ K (fun q hq=>hsub q (List.mem_cons_of_mem _ hq)) hasc' hK
   obtain⟨p1,p2,_⟩:=mix_at hm ho'
   have hself:∀d,o.dst=some d→d ∉ o.looksAt ops:=fun d hd hm'=>by
    have:=(p2 i (hsub i List.mem_cons_self) d (by simp [dstOf,ho',hd])).1 hm'
    exact absurd (p1 i this) (Nat.lt_irrefl i)
   refine⟨ρq,h1,fun q hq => ?_,fun s hs => ?_⟩
   ·rcases List.mem_cons.1 hq with rfl|hq
    ·refine⟨o,x,ho',hy.of_agree fun t ht => ?_,fun d hd => ?_⟩
     ·rw[h3 t fun q' hq' he => ?_,get_put,if_neg fun he=>hself t he ht]
      have:=(p2 q' (hsub q' (List.mem_cons_of_mem _ hq')) t he).1 ht
      have:=p1 q' this;have:=hlt q' hq';omega
     ·rw[h3 d fun q' hq' he => ?_,get_put,if_pos hd]
      exact(p2 q' (hsub q' (List.mem_cons_of_mem _ hq')) d he).2 (by have:=hlt q' hq';omega) hd
    ·exact h2 q hq
   ·rw[h3 s fun q hq=>hs q (List.mem_cons_of_mem _ hq),get_put,if_neg]
    have:=hs i List.mem_cons_self
    simpa [dstOf,ho'] using this
def mask (ops:Array Oper) (qs:List Nat) (listed:Array Bool) (ρ:Env):Env:=((qs.filter fun q=>listed.getD q true == false).filterMap (dstOf ops)).map (fun d=>(d,AV.any)) ++ ρ
theorem get_anys (l:List Nat) (ρ:Env) (s:Nat):get (l.map (fun d=>(d,AV.any)) ++ ρ) s=if s ∈ l then .any else get ρ s:=by
 induction l with
 | nil=>simp
 | cons d l ih =>
  simp only[List.map_cons,List.cons_append,get,List.mem_cons]
  by_cases h:s=d
  ·simp [h]
  ·simp [h,ih]
theorem mask_or (qs:List Nat) (listed:Array Bool) (ρ:Env) (s:Nat):(get (mask ops qs listed ρ) s = .any∧∃q ∈ qs,listed.getD q true=false∧dstOf ops q=some s)∨(get (mask ops qs listed ρ) s=get ρ s∧∀q ∈ qs,listed.getD q true=false→dstOf ops q ≠ some s):=by
 unfold mask
 rw[get_anys]
 split
 ·rename_i h
  refine .inl ⟨rfl,?_⟩
  obtain⟨q,hq,hd⟩:=List.mem_filterMap.1 h
  obtain⟨h1,h2⟩:=List.mem_filter.1 hq
  exact⟨q,h1,by simpa using h2,hd⟩
 ·rename_i h
  refine .inr ⟨rfl,fun q hq hl hd=>h ?_⟩
  exact List.mem_filterMap.2 ⟨q,List.mem_filter.2 ⟨hq,by simpa using hl⟩,hd⟩
theorem mask_out {qs:List Nat} {listed:Array Bool} {ρ:Env} {s:Nat} (h:∀q ∈ qs,listed.getD q true=false→dstOf ops q ≠ some s):get (mask ops qs listed ρ) s=get ρ s:=by
 rcases mask_or (ops:=ops) qs listed ρ s with ⟨_,q,h1,h2,h3⟩|h'
 ·exact absurd h3 (h q h1 h2)
 ·exact h'.1
theorem OT.isDone_iff {T:OT} (h:T.alts=[]):T = .done:=by cases T with|done=>rfl|step i t r=>cases h
theorem getD_tf {listed:Array Bool} {i:Nat} (h:listed.getD i false=true):listed.getD i true=true:=by
 by_cases hi:i<listed.size
 ·simpa [Array.getD,hi] using h
 ·simp [Array.getD,hi] at h
theorem getD_ft {listed:Array Bool} {i:Nat} (hi:i<listed.size) (h:listed.getD i true=true):listed.getD i false=true:=by simpa [Array.getD,hi] using h
theorem mix_sound {qs:List Nat} (hm:mixOk ops qs=true) (hok:ops.toList.all (operOk C.N)=true) {K:ARes} {n:Nat} {w0:World} {M A0:Foot} {Q:Exit→Act→World→Prop} (hQ:∀a w,post w0 M A0 C.N K a w→Q .normal a w) :
  ∀(f:Nat) (T:OT) (g:Nat) (listed listedF:Array Bool) (ρT:Env) (L:AHeap) (a:Act) (w:World),
   T.alts=Region.ready .any ops listedF→T.ok ops g listedF=true→listed.size=ops.size→listedF.size=ops.size →
   (∀i,i ∉ qs→listed.getD i true=listedF.getD i true)→(∀q ∈ qs,listedF.getD q true=true) →
   (∀l:List Nat,l.Nodup→(∀i ∈ l,listed.getD i true=false)→l.length≤f) →
   (∀q ∈ qs,listed.getD q true=false→QFact C ops ρT q)→OT.nxX C ops.toList K T ρT L→St w0 M A0 C.N (mask ops qs listed ρT) L a w →
   wpAnyIn (Fw C.r) n C.P .any ops Q f listed a w:=by
 -- where nothing is ready,all is done
 have fin:∀(T:OT) (listed listedF:Array Bool) (ρT:Env) (L:AHeap) (a:Act) (w:World),T.alts=Region.ready .any ops listedF→listed.size=ops.size→(∀i,i ∉ qs→listed.getD i true=listedF.getD i true)→(∀q ∈ qs,listedF.getD q true=true) →
   OT.nxX C ops.toList K T ρT L→St w0 M A0 C.N (mask ops qs listed ρT) L a w→Region.ready .any ops listed=[]→Q .normal a w:=by
  intro T listed listedF ρT L a w hT hsz hL hF hK hs hr
  have all:∀i,listed.getD i true=true:=by
   intro i
   induction i using Nat.strongRecOn with
   | _ i ih =>
    cases hi:listed.getD i true with
    | true=>rfl
    | false =>
     exfalso
     have hlt:i<ops.size:=by
      rw[← hsz]
      by_cases h:i<listed.size
      ·exact h
      ·simp [Array.getD,h] at hi
     have ho:ops[i]?=some ops[i]:=Array.getElem?_eq_getElem hlt
     have:i ∈ Region.ready .any ops listed:=mem_ready.2 ⟨hi,_,ho,fun e he hb=>by
      have hp:=(mix_at hm ho).1 e.on (List.mem_map.2 ⟨e,List.mem_filter.2 ⟨by simpa using he,hb⟩,rfl⟩)
      exact getD_ft (by omega) (ih _ hp)⟩
     rw[hr] at this;cases this
  have hTd:T = .done:=OT.isDone_iff (by
   rw[hT]
   cases hh:Region.ready .any ops listedF with
   | nil=>rfl
   | cons j r =>
    have hj:j ∈ Region.ready .any ops listedF:=by rw[hh];exact List.mem_cons_self
    have h1:=(mem_ready.1 hj).1
    have hq:j ∉ qs:=fun hq=>by rw[hF j hq] at h1;cases h1
    rw[← hL j hq,all j] at h1;cases h1)
  subst hTd
  refine hQ a w ⟨ρT,L,hK,st_forget hs fun i => .inr ?_⟩
  rw[mask_out fun q _ hl=>by rw[all q] at hl;cases hl]
 intro f
 induction f with
 | zero =>
  intro T g listed listedF ρT L a w hT hTo hsz hszF hL hF hcnt hfact hK hs
  have hr:Region.ready .any ops listed=[]:=by
   cases hh:Region.ready .any ops listed with
   | nil=>rfl
   | cons j r =>
    have hj:j ∈ Region.ready .any ops listed:=by rw[hh];exact List.mem_cons_self
    have:=hcnt [j] (by simp) (fun i hi=>by simp at hi;subst hi;exact(mem_ready.1 hj).1)
    simp at this
  exact⟨hr,fin T listed listedF ρT L a w hT hsz hL hF hK hs hr⟩
 | succ f ih =>
  intro T g listed listedF ρT L a w hT hTo hsz hszF hL hF hcnt hfact hK hs
  refine⟨fin T listed listedF ρT L a w hT hsz hL hF hK hs,fun i hi => ?_⟩
  obtain⟨hun,o,ho,hpre⟩:=mem_ready.1 hi
  have hlt:i<ops.size:=(Array.getElem?_eq_some_iff.1 ho).1
  obtain⟨m1,m2,m3⟩:=mix_at hm ho
  have hlooks:∀t ∈ o.looksAt ops,get (mask ops qs listed ρT) t=get ρT t:=fun t ht=>mask_out fun q hq hl hd=>by
   have hp:=(m2 q hq t hd).1 ht
   obtain⟨e,he,rfl⟩:=List.mem_map.1 hp
   obtain⟨he1,he2⟩:=List.mem_filter.1 he
   have:=getD_tf (hpre e (by simpa using he1) he2)
   rw[hl] at this;cases this
  have hcnt':∀l:List Nat,l.Nodup→(∀j ∈ l,(listed.setIfInBounds i true).getD j true=false)→l.length≤f:=fun l hn hl=>by
   have hil:i ∉ l:=fun h=>by
    have:=hl i h
    simp [Array.getD,show i<listed.size by omega] at this
   have:=hcnt (i :: l) (List.nodup_cons.2 ⟨hil,hn⟩) (fun j hj=>by
    rcases List.mem_cons.1 hj with rfl|hj
    ·exact hun
    ·have:=hl j hj
     have hne:i ≠ j:=fun e=>hil (e ▸ hj)
     rwa [getD_set_ne true hne] at this)
   simp at this;omega
  have hset:∀j,j ≠ i→(listed.setIfInBounds i true).getD j true=listed.getD j true:=fun j hj=>getD_set_ne true (Ne.symm hj)
  have hseti:(listed.setIfInBounds i true).getD i true=true:=by simp [Array.getD,show i<listed.size by omega]
  by_cases hq:i ∈ qs
  ·obtain⟨o',x,ho',hy,hgx⟩:=hfact i hq hun
   rw[ho] at ho';cases ho'
   refine wpOpIn_mono ?_ (hy _ L hlooks n w0 M A0 a w Q hs)
   rintro a' w' ⟨ρ2,L2,⟨rfl,rfl⟩,hs2⟩
   refine ih T g _ listedF ρT L2 a' w' hT hTo (by simpa using hsz) hszF (fun j hj=>by rw[hset j (fun e=>hj (e ▸ hq))];exact hL j hj) hF hcnt' (fun q hq' hl=>hfact q hq' (by
    by_cases e:q=i
    ·subst e;exact hun
    ·rwa [hset q e] at hl)) hK (st_forget hs2 fun s => ?_)
   rcases mask_or (ops:=ops) qs (listed.setIfInBounds i true) ρT s with ⟨h1,_⟩|⟨h1,h2⟩
   ·exact .inl h1
   ·refine .inr ?_
    rw[h1,get_put]
    by_cases hd:o.dst=some s
    ·rw[if_pos hd];exact hgx s hd
    ·rw[if_neg hd,mask_out fun q hq' hl hds => ?_]
     by_cases e:q=i
     ·subst e;exact hd (by simpa [dstOf,ho] using hds)
     ·exact h2 q hq' (by rw[hset q e];exact hl) hds
  ·have htouch:=m3 hq
   have hiF:i ∈ Region.ready .any ops listedF:=mem_ready.2 ⟨by rw[← hL i hq];exact hun,o,ho,fun e he hb=>by
    have h1:=getD_tf (hpre e he hb)
    have hlt':e.on<listedF.size:=by
     have:=m1 e.on (List.mem_map.2 ⟨e,List.mem_filter.2 ⟨by simpa using he,hb⟩,rfl⟩);omega
    by_cases hqe:e.on ∈ qs
    ·exact getD_ft hlt' (hF _ hqe)
    ·exact getD_ft hlt' (by rw[← hL _ hqe];exact h1)⟩
   rw[← hT] at hiF
   have key:∀(T:OT) (g:Nat),T.ok ops g listedF=true→OT.apX C ops.toList K T ρT L→i ∈ T.alts→∃t g',t.alts=Region.ready .any ops (listedF.setIfInBounds i true)∧t.ok ops g' (listedF.setIfInBounds i true)=true∧gopX C ops.toList o ρT L (OT.nxX C ops.toList K t):=by
    intro T
    induction T with
    | done=>intro g _ _ h;cases h
    | step j t r iht ihr =>
     intro g h1 h2 h3
     cases g with
     | zero=>cases h1
     | succ g =>
      simp only[OT.ok,Bool.and_eq_true,beq_iff_eq] at h1
      rw[OT.apX_step] at h2
      rcases List.mem_cons.1 h3 with rfl|h3
      ·refine⟨t,g,h1.1.1,h1.1.2,?_⟩
       have h0:ops.toList[i]?=some o:=by simpa using ho
       rw[h0] at h2;exact h2.1
      ·exact ihr (g+1) h1.2 h2.2 h3
   have hap:OT.apX C ops.toList K T ρT L:=by
    cases T with
    | done=>trivial
    | step j t r=>exact hK
   obtain⟨t,g',ht1,ht2,ht3⟩:=key T g hTo hap hiF
   have hag:=agree_ops (ρ:=ρT) (ρ':=mask ops qs listed ρT) hlooks
   let K':ARes:=fun ρ2 L2=>∃ρT2,(∀s,s ∉ touchOf o→get ρT2 s=get ρT s)∧(∀s,get (mask ops qs (listed.setIfInBounds i true) ρT2) s = .any∨get (mask ops qs (listed.setIfInBounds i true) ρT2) s=get ρ2 s)∧OT.nxX C ops.toList K t ρT2 L2
   have hmq:∀(ρ1 ρ2:Env),(∀s,s ∈ touchOf o→get ρ1 s=get ρ2 s)→(∀s,s ∉ touchOf o→get ρ2 s=get (mask ops qs listed ρT) s∧get ρ1 s=get ρT s)→∀s,get (mask ops qs (listed.setIfInBounds i true) ρ1) s = .any∨get (mask ops qs (listed.setIfInBounds i true) ρ1) s=get ρ2 s:=fun ρ1 ρ2 e1 e2 s=>by
    rcases mask_or (ops:=ops) qs (listed.setIfInBounds i true) ρ1 s with ⟨h1,_⟩|⟨h1,h2⟩
    ·exact .inl h1
    ·refine .inr ?_
     rw[h1]
     by_cases hst:s ∈ touchOf o
     ·exact e1 s hst
     ·obtain⟨e3,e4⟩:=e2 s hst
      rw[e3,e4]
      exact(mask_out fun q hq' hl hds=>h2 q hq' (by rw[hset q (fun e=>hq (e ▸ hq'))];exact hl) hds).symm
   have k1:∀x L',OT.nxX C ops.toList K t (put ρT o.dst x) L'→K' (put (mask ops qs listed ρT) o.dst x) L':=fun x L' hk=>⟨_,fun s hs'=>by
     rw[get_put,if_neg];intro e;exact hs' (by simp [touchOf,e]),hmq _ _ (fun s hs'=>by
      rw[get_put,get_put]
      by_cases e:o.dst=some s
      ·rw[if_pos e,if_pos e]
      ·rw[if_neg e,if_neg e]
       exact(mask_out fun q hq' hl hds=>(htouch q hq' _ (Array.getElem?_eq_getElem ((mix_asc hm).2 q hq')) s hs').2 (by simpa [dstOf,Array.getElem?_eq_getElem ((mix_asc hm).2 q hq')] using hds)).symm) (fun s hs'=>by
      have e:o.dst ≠ some s:=fun e=>hs' (by simp [touchOf,e])
      rw[get_put,get_put,if_neg e,if_neg e];exact⟨rfl,rfl⟩),hk⟩
   have hoo:=List.all_eq_true.1 hok o (List.mem_of_getElem? (show ops.toList[i]?=some o by simpa using ho))
   have hgo:GOp C ops i (mask ops qs listed ρT) L K':=by
    cases hg:o.guard with
    | some jw =>
     obtain⟨x,hk,hgg⟩:=gopX_some ho hoo hg ht3
     refine(hgg _ hlooks).conv ?_
     rintro ρ' L' w0 M A0 a w ⟨rfl,rfl⟩ hs
     exact⟨_,_,k1 x _ hk,hs⟩
    | none =>
     have ht3:aopX C o ρT L (OT.nxX C ops.toList K t):=by unfold gopX at ht3;rw[hg] at ht3;exact ht3
     have htr:aopX C o (mask ops qs listed ρT) L K':=aopX_tr hag k1
      (fun s' y x L' hst hk=>⟨_,fun s hs'=>by
       obtain⟨t',x',hop⟩:=hst
       have h1:s ≠ s':=fun e=>hs' (by simp [touchOf,hop,e])
       simp only[get,if_neg h1]
       rw[get_put,if_neg];intro e;exact hs' (by simp [touchOf,e]),hmq _ _ (fun s hs'=>by
        simp only[get]
        by_cases h1:s=s'
        ·rw[if_pos h1,if_pos h1]
        ·rw[if_neg h1,if_neg h1,get_put,get_put]
         by_cases e:o.dst=some s
         ·rw[if_pos e,if_pos e]
         ·rw[if_neg e,if_neg e]
          exact(mask_out fun q hq' hl hds=>(htouch q hq' _ (Array.getElem?_eq_getElem ((mix_asc hm).2 q hq')) s hs').2 (by simpa [dstOf,Array.getElem?_eq_getElem ((mix_asc hm).2 q hq')] using hds)).symm) (fun s hs'=>by
        obtain⟨t',x',hop⟩:=hst
        have h1:s ≠ s':=fun e=>hs' (by simp [touchOf,hop,e])
        have e:o.dst ≠ some s:=fun e=>hs' (by simp [touchOf,e])
        simp only[get,if_neg h1]
        rw[get_put,get_put,if_neg e,if_neg e];exact⟨rfl,rfl⟩),hk⟩) ht3
     exact AOp.gop ho hg (aop_sound (operOk_dst hoo) (operOk_def hoo) (aopX_aop htr))
   refine wpOpIn_mono ?_ (hgo n w0 M A0 a w Q hs)
   rintro a' w' ⟨ρ2,L2,⟨ρT2,h1,h2,h3⟩,hs2⟩
   refine ih t g' _ (listedF.setIfInBounds i true) ρT2 L2 a' w' ht1 ht2 (by simpa using hsz) (by simpa using hszF) (fun j hj => ?_) (fun q hq' => ?_) hcnt' (fun q hq' hl => ?_) h3 (st_forget hs2 h2)
   ·by_cases e:j=i
    ·subst e;rw[hseti];simp [Array.getD,show j<listedF.size by omega]
    ·rw[hset j e,getD_set_ne true (Ne.symm e)];exact hL j hj
   ·have e:q ≠ i:=fun e=>hq (e ▸ hq')
    rw[getD_set_ne true (Ne.symm e)];exact hF q hq'
   ·have e:q ≠ i:=fun e=>hq (e ▸ hq')
    rw[hset q e] at hl
    obtain⟨oq,x,hoq,hy,hgx⟩:=hfact q hq' hl
    refine⟨oq,x,hoq,hy.of_agree fun s hs'=>h1 s fun hst => ?_,fun d hd => ?_⟩
    ·have hp:=(htouch q hq' oq hoq s hst).1 hs'
     obtain⟨e',he',rfl⟩:=List.mem_map.1 hp
     obtain⟨he1,he2⟩:=List.mem_filter.1 he'
     have:=getD_tf (hpre e' (by simpa using he1) he2)
     rw[hl] at this;cases this
    ·rw[h1 d fun hst=>(htouch q hq' oq hoq d hst).2 hd];exact hgx d hd
end
theorem fullL_spec (qs:List Nat) (n:Nat) (h:∀q ∈ qs,q<n):(fullL n qs).size=n∧(∀i,i ∉ qs→(fullL n qs).getD i true=(Array.replicate n false).getD i true)∧∀q ∈ qs,(fullL n qs).getD q true=true:=by
 have key:∀(qs:List Nat) (l:Array Bool),l.size=n→(∀q ∈ qs,q<n) →
   (qs.foldl (fun l q=>l.setIfInBounds q true) l).size=n∧(∀i,i ∉ qs→(qs.foldl (fun l q=>l.setIfInBounds q true) l).getD i true=l.getD i true)∧∀i,(i ∈ qs∨l.getD i true=true)→(qs.foldl (fun l q=>l.setIfInBounds q true) l).getD i true=true:=by
  intro qs
  induction qs with
  | nil=>intro l hl _;exact⟨hl,fun _ _=>rfl,fun i hi=>hi.resolve_left (by simp)⟩
  | cons q qs ih =>
   intro l hl hq
   obtain⟨h1,h2,h3⟩:=ih (l.setIfInBounds q true) (by simpa using hl) (fun q' hq'=>hq q' (List.mem_cons_of_mem _ hq'))
   refine⟨h1,fun i hi => ?_,fun i hi => ?_⟩
   ·simp only[List.mem_cons,not_or] at hi
    rw[List.foldl_cons,h2 i hi.2,getD_set_ne true (Ne.symm hi.1)]
   ·rw[List.foldl_cons]
    apply h3
    by_cases e:i=q
    ·subst e;exact .inr (by have:=hq i List.mem_cons_self;simp [Array.getD,show i<l.size by omega])
    ·rcases hi with hi|hi
     ·exact .inl ((List.mem_cons.1 hi).resolve_left e)
     ·exact .inr (by rw[getD_set_ne true (Ne.symm e)];exact hi)
 obtain⟨h1,h2,h3⟩:=key qs (Array.replicate n false) (by simp) h
 exact⟨h1,h2,fun q hq=>h3 q (.inl hq)⟩
def mixAll (ops:Array Oper) (qs:List Nat) (T:OT):Bool:=mixOk ops qs && (T.alts == Region.ready .any ops (fullL ops.size qs)) && T.ok ops ops.size (fullL ops.size qs)
def mixK (C:Cfg) (all:List Oper) (K:ARes) (T:OT) (L:AHeap) (ρ:Env):Prop:=OT.nxX C all K T ρ L
theorem AWp.mix {C:Cfg} {id:Nat} {ops:Array Oper} {Q:AQ} {ρ:Env} {L:AHeap} (hmx:C.P.follows .mixedOrders=true) (qs:List Nat) (T:OT) (hT:mixAll ops qs T=true)
  (h:aqRun C ops.toList qs (mixK C ops.toList (Q .normal) T L) ρ):AWp C (.region id ops true) Q ρ L:=fun hok n w0 M A0 a w hs=>by
 simp only[mixAll,Bool.and_eq_true,beq_iff_eq] at hT
 obtain⟨⟨hm,h1⟩,h2⟩:=hT
 have hasc:=mix_asc hm
 obtain⟨f1,f2,f3⟩:=fullL_spec qs ops.size hasc.2
 obtain⟨ρq,hK,hF,hother⟩:=aqRun_facts hm hok qs ρ _ (fun _ h=>h) hasc.1 h
 refine wpIn_region_any hmx ?_
 obtain⟨A,ds,hs'⟩:=st_iff.1 hs
 refine mix_sound hm hok (K:=Q .normal) (fun a w ⟨ρ',L',h1,h2⟩=>⟨ρ',L',h1,h2⟩) ops.size T ops.size _ (fullL ops.size qs) ρq L a _ h1 h2 (by simp) f1 (fun i hi=>(f2 i hi).symm) f3 ?_ (fun q hq _=>hF q hq) hK
  (st_forget (st_iff.2 ⟨A,ds,hs'.drew⟩) fun s => ?_)
 ·intro l hn hl
  have:=List.Nodup.length_le_of_subset hn (l₂:=List.range ops.size) (fun i hi=>by
   have:=hl i hi
   rw[List.mem_range]
   by_cases h:i<ops.size
   ·exact h
   ·simp [Array.getD,h] at this)
  simpa using this
 ·rcases mask_or (ops:=ops) qs (Array.replicate ops.size false) ρq s with ⟨h1,_⟩|⟨h1,h2⟩
  ·exact .inl h1
  ·refine .inr ?_
   rw[h1]
   exact hother s fun q hq hd=>h2 q hq (by simp [Array.getD,hasc.2 q hq]) hd
theorem aqRun_nil (C:Cfg) (all:List Oper) (K:Env→Prop) (ρ:Env):aqRun C all [] K ρ=K ρ:=rfl
theorem aqRun_cons (C:Cfg) (all:List Oper) (i:Nat) (r:List Nat) (K:Env→Prop) (ρ:Env):aqRun C all (i :: r) K ρ=(match all[i]? with|some o=>aqF C all o ρ (aqRun C all r K)|none=>False):=rfl
attribute [go_sem] aqRun_nil aqRun_cons aqF aFz mixK OT.apX_done OT.apX_step OT.nxX_done OT.nxX_step aopX tOp gopX
end Go.AL
end
section
namespace Go.AL
open Go Go.RowKit Go.ChangeShapes Go.WideShapes Go.ChangeAt
theorem Fr.below {W W':World} (h:Fr W (keysOf []) W'):Below W.heap.size W W':=⟨h.os,h.tape,h.output,h.size,fun k hk=>h.block k hk (by rintro⟨x,hx,_⟩;cases hx)⟩
theorem LRel.empty (W:World) (hg:∀g x,GV g=some x→Rel W (fun b=>b<W.heap.size) x (.pointer (some ⟨g,0,none⟩))):LRel W (fun b=>b<W.heap.size) []:=⟨fun _ h=>h,(by intro x hx;cases hx),List.nodup_nil,(by intro x hx;cases hx),hg⟩
theorem PC.calls {P:Program} {f:FuncId} {args:List AV} {x:Value} (h:PC P f args (.v x)) {W:World} {vs:List Value} (hg:∀g x,GV g=some x→Rel W (fun b=>b<W.heap.size) x (.pointer (some ⟨g,0,none⟩))) (hr:Rels W (fun b=>b<W.heap.size) args vs) :
  Calls P f vs.toArray W fun e W'=>e = .returned x∧Below W.heap.size W W' :=
 ((h.2 0 W _ vs (LRel.empty W hg) hr).calls (fun _ d hd=>by cases hd)).mono fun e W' ⟨v,r,L',A',he,⟨hr,_⟩,hf,_,_,_,hv⟩=>by
  subst he hr
  cases hv
  exact⟨rfl,hf.below⟩
def Rd {H:Type} (enc:TypeId × Value→H) (P:Program) (W:World) (t:TypeId) (k:Nat) {α:Type} (E:α→AV) (ok:α→Prop):Prop :=
 ∀fuel cs x,DataW.trod enc P W 0 (fun _=>true) true fuel t cs=some x→∃y,ok y∧elOk k (E y)∧cs.length=k∧∀(i:Nat) c u,(E y).cells[i]?=some c→cs[i]?=some u→Rel W (fun b=>b<W.heap.size) c u
section
variable {H:Type} {enc:TypeId × Value→H} {P:Program} {W:World} {t:TypeId}
theorem Rd.int (ht:P.underlying t=some (.int .i64)):Rd enc P W t 1 ai (fun n=>(Lit.int .i64 n).wf=true):=by
 intro fuel cs x h
 obtain⟨n,rfl,_,hw⟩:=DataW.trod_int ht h
 refine⟨n,hw,⟨rfl,rfl⟩,rfl,fun i c u h1 h2 => ?_⟩
 cases i with
 | zero=>cases h1;cases h2;exact .v _
 | succ i=>cases h2
theorem Rd.str (ht:P.underlying t=some .string):Rd enc P W t 1 (fun s => .v (.string s)) (fun _=>True):=by
 intro fuel cs x h
 obtain⟨s,rfl,_,hw⟩:=DataW.trod_string ht h
 refine⟨s,trivial,⟨rfl,rfl⟩,rfl,fun i c u h1 h2 => ?_⟩
 cases i with
 | zero=>cases h1;cases h2;exact .v _
 | succ i=>cases h2
theorem ofFin {α:Type} {len:Nat} {Q:Nat→α→Prop} (h:∀i,i<len→∃y,Q i y):∃l:List α,l.length=len∧∀(i:Nat) (hi:i<l.length),Q i l[i]:=by
 refine⟨List.ofFn fun i:Fin len=>Classical.choose (h i i.2),List.length_ofFn,fun i hi => ?_⟩
 rw[List.getElem_ofFn]
 exact Classical.choose_spec (h i (by simpa using hi))
theorem add_none (b off n:Nat):(⟨b,off,none⟩:Addr).add n=⟨b,off+n,none⟩:=by
 unfold Addr.add;split
 ·rename_i h;rw[h];rfl
 ·rfl
theorem Rd.slice {α:Type} {E:α→AV} {ok:α→Prop} {e:TypeId} {k:Nat} (ht:P.underlying t=some (.slice e)) (hk:P.cellsOf e=k) (h0:0<k) (he:Rd enc P W e k E ok) :
  Rd enc P W t 1 (fun l:List α => .sl k (l.map E)) (fun l=>l.length≤maxLen∧∀y ∈ l,ok y):=by
 intro fuel cs x h
 rcases DataW.trod_slice ht h with ⟨rfl,_⟩|⟨a,len,cap,elems,rest,n,_,rfl,_,_,hl,hm,hlen,hel,_,_⟩
 ·refine⟨[],⟨by simp,by simp⟩,⟨rfl,rfl⟩,rfl,fun i c u h1 h2 => ?_⟩
  cases i with
  | zero=>cases h1;cases h2;exact .sl0 k none 0 (by simp)
  | succ i=>cases h2
 ·rw[hk] at hel
  obtain⟨l,hll,hli⟩:=ofFin (len:=len) (Q:=fun i y=>∃cs:List Value,ok y∧elOk k (E y)∧cs.length=k∧(∀m,m<k→W.cell? ((a.add (i * k)).add m)=cs[m]?)∧∀(m:Nat) c u,(E y).cells[m]?=some c→cs[m]?=some u→Rel W (fun b=>b<W.heap.size) c u) fun i hi=>by
   have h1:=hel i hi
   rw[List.getElem?_eq_getElem (by omega),Option.bind_eq_some_iff] at h1
   obtain⟨cs,hc,ht⟩:=h1
   obtain⟨y,k1,k2,k3,k4⟩:=he _ _ _ ht
   exact⟨y,cs,k1,k2,k3,(World.cells?_some hc).2.2,k4⟩
  refine⟨l,⟨by omega,fun y hy => ?_⟩,⟨rfl,rfl⟩,rfl,fun i c u h1 h2 => ?_⟩
  ·obtain⟨i,hi,rfl⟩:=List.getElem_of_mem hy
   obtain⟨_,h,_⟩:=hli i (by omega);exact h
  ·cases i with
   | succ i=>cases h2
   | zero =>
    cases h1;cases h2
    by_cases hz:len=0
    ·subst hz
     rw[List.length_eq_zero_iff.1 hll]
     exact .sl0 k _ cap hm
    ·obtain⟨b,off,spot⟩:=a
     obtain⟨cs0,_,_,c3,c4,_⟩:=hli 0 (by omega)
     have hs:spot=none:=by
      have:=c4 0 h0
      have e0:∀a:Addr,a.add 0=a:=fun _=>rfl
      rw[Nat.zero_mul,e0,e0,List.getElem?_eq_getElem (by omega)] at this
      cases spot with
      | none=>rfl
      | some s =>
       exfalso
       unfold World.cell? at this
       split at this
       ·rw[if_pos (show (some s).isSome=true from rfl)] at this;cases this
       ·cases this
     subst hs
     have cell:∀(i:Nat) (hi:i<len) (m:Nat),m<k→∃u,W.cell? ⟨b,off+(i * k+m),none⟩=some u∧∀c,(E (l[i]'(by omega))).cells[m]?=some c→Rel W (fun b=>b<W.heap.size) c u:=fun i hi m hm=>by
      obtain⟨cs,_,_,c3,c4,c5⟩:=hli i (by omega)
      have:=c4 m hm
      rw[add_none,add_none,Nat.add_assoc,List.getElem?_eq_getElem (by omega)] at this
      exact⟨_,this,fun c hc=>c5 m c _ hc (List.getElem?_eq_getElem (by omega))⟩
     have hA:b<W.heap.size:=by
      obtain⟨u,hu,_⟩:=cell 0 (by omega) 0 h0
      unfold World.cell? at hu
      cases hb:W.heap[b]? with
      | none=>simp [hb] at hu
      | some o=>exact(Array.getElem?_eq_some_iff.1 hb).1
     have:=Rel.sl (w:=W) (A:=fun b=>b<W.heap.size) k (l.map E) b off cap (fun j=>(W.cell? ⟨b,off+j,none⟩).getD undef) hA (by rw[List.length_map];omega) hm
      (fun x hx=>by
       obtain⟨y,hy,rfl⟩:=List.mem_map.1 hx
       obtain⟨i,hi,rfl⟩:=List.getElem_of_mem hy
       obtain⟨cs,_,c2,_⟩:=hli i (by omega)
       exact c2)
      (fun j hj=>by
       rw[List.length_map,hll] at hj
       have h1:j / k<len:=(Nat.div_lt_iff_lt_mul h0).2 hj
       obtain⟨u,hu,_⟩:=cell (j / k) h1 (j % k) (Nat.mod_lt _ h0)
       have e:j / k * k+j % k=j:=Nat.div_add_mod' j k
       rw[e] at hu
       rw[hu];rfl)
      (fun i x j y hx hy=>by
       rw[List.getElem?_map,Option.map_eq_some_iff] at hx
       obtain⟨z,hz,rfl⟩:=hx
       obtain⟨hi,rfl⟩:=List.getElem?_eq_some_iff.1 hz
       obtain⟨cs,_,c2,_⟩:=hli i (by omega)
       have hj:j<k:=by have:=(List.getElem?_eq_some_iff.1 hy).1;have:=c2.1;omega
       obtain⟨u,hu,hr⟩:=cell i (by omega) j hj
       rw[hu]
       exact hr _ hy)
     rw[List.length_map,hll] at this
     exact this
theorem trodAll_stays {W':World} (hl:laidOutB P=true) (hb:Below W.heap.size W W'):∀ {ts:List TypeId} {vs:List Value} {ds:List (DataW H)} {ps:List MemPlace},(∀t ∈ ts,P.readableRec t=true∧t<P.types.size)→DataW.TrodAll enc P W 0 (fun _=>true) true ts vs ds ps →
  DataW.TrodAll enc P W' 0 (fun b=>decide (b<W.heap.size)) true ts vs ds ps
 | [],_,_,_,_,h=>by
  obtain⟨rfl,rfl,rfl⟩:=trodAll_nil h
  rfl
 | t :: ts,_,_,_,ht,h=>by
  have hlt:=h.lt
  obtain⟨v,vs1,d,ds1,a,b,rfl,rfl,rfl,h1,h2⟩:=trodAll_cons h
  exact⟨a,b,Below.trod hl (ht t List.mem_cons_self).1 (ht t List.mem_cons_self).2 h1 hb (fun x hx=>hlt x (List.mem_append_left _ hx)),trodAll_stays hl hb (fun t' ht'=>ht t' (List.mem_cons_of_mem _ ht')) h2,rfl⟩
theorem post_true {f:Func} {s:ChangeSpec} {fresh handsOn:Bool} {W':World} {args:Array Value} {ds:List (DataW H)} {before:List MemPlace} {tb:TypeId} (hl:laidOutB P=true)
  (hW:DataW.Whole enc P f.params.toList s.vars false W args.toList ds [] before) (hv:s.vars=[]) (hs:s.fn H (ds ++ []) = { results:=[.lit (.bool true)],args:=ds })
  (hr:f.resultTypes = #[tb]) (ht:P.underlying tb=some .bool) (hp:∀t ∈ f.params.toList,P.readableRec t=true∧t<P.types.size) (hb:Below W.heap.size W W') :
  s.post enc P f false fresh handsOn false W args (.bool true) W':=by
 have hW0:=hW
 obtain⟨p,q,hA,hV,rfl,_,_⟩:=hW0
 refine⟨ds,[],p ++ q,[],p,[],hW,?_,?_,?_,hb.frame _,fun h=>by cases h⟩
 ·rw[hs,hr]
  exact⟨[],[],⟨1,by simp [DataW.trod,Value.cells,ht]⟩,rfl,rfl⟩
 ·rw[hs]
  exact trodAll_stays hl hb hp hA
 ·rw[hs,hv];rfl
end
end Go.AL
end
section
namespace Go.AL
open Go Go.RowKit Go.ChangeShapes Go.WideShapes Go.ChangeAt
section
variable {H:Type} {enc:TypeId × Value→H} {P:Program} {W:World} {t:TypeId}
theorem Rd.map {α β:Type} {k:Nat} {E:α→AV} {E':β→AV} {ok:α→Prop} {ok':β→Prop} (f:α→β) (hE:∀y,E y=E' (f y)) (hok:∀y,ok y→ok' (f y)) (h:Rd enc P W t k E ok):Rd enc P W t k E' ok':=by
 intro fuel cs x hx
 obtain⟨y,k1,k2,k3,k4⟩:=h fuel cs x hx
 exact⟨f y,hok y k1,by rw[← hE];exact k2,k3,by rw[← hE];exact k4⟩
def RdL (enc:TypeId × Value→H) (P:Program) (W:World) (ts:List TypeId) {α:Type} (E:α→List AV) (ok:α→Prop):Prop :=
 ∀(n:Nat) (cs:List Value) (xs:List (DataW H × List MemPlace)),xs.length=ts.length→cs.length=ts.length →
  (∀(i:Nat) t,ts[i]?=some t→DataW.trod enc P W 0 (fun _=>true) true n t ((cs.drop i).take 1)=xs[i]?) →
  ∃y,ok y∧(E y).length=ts.length∧(E y).all one=true∧∀(i:Nat) c u,(E y)[i]?=some c→cs[i]?=some u→Rel W (fun b=>b<W.heap.size) c u
theorem RdL.nil:RdL enc P W [] (fun _:Unit=>[]) (fun _=>True):=by
 intro n cs xs _ _ _
 exact⟨(),trivial,rfl,rfl,fun i c u h=>by simp at h⟩
theorem RdL.cons {α β:Type} {E:α→AV} {ok:α→Prop} {ts:List TypeId} {F:β→List AV} {ok':β→Prop} (h:Rd enc P W t 1 E ok) (h1:∀y,one (E y)=true∧(E y).cells=[E y]) (hs:RdL enc P W ts F ok') :
  RdL enc P W (t :: ts) (fun y:α × β=>E y.1 :: F y.2) (fun y=>ok y.1∧ok' y.2):=by
 intro n cs xs hx hc hi
 match xs,cs,hx,hc with
 | x :: xs,u :: cs,hx,hc =>
  have h0:=hi 0 t rfl
  simp only[List.drop_zero,List.take_succ_cons,List.take_zero,List.getElem?_cons_zero] at h0
  obtain⟨y,k1,_,_,k4⟩:=h _ _ _ h0
  obtain⟨z,g1,g2,g3,g4⟩:=hs n cs xs (by simpa using hx) (by simpa using hc) fun i t' ht=>by
   have:=hi (i+1) t' (by simpa using ht)
   simpa using this
  refine⟨(y,z),⟨k1,g1⟩,by simp [g2],by simp [g3,(h1 y).1],fun i c u' hcc hu => ?_⟩
  cases i with
  | zero=>cases hcc;cases hu;exact k4 0 _ _ (by rw[(h1 y).2];rfl) rfl
  | succ i=>exact g4 i c u' (by simpa using hcc) (by simpa using hu)
theorem Rd.struct {fs:Array Field} {α:Type} {ts:List TypeId} {F:α→List AV} {ok:α→Prop} (ht:P.underlying t=some (.struct fs)) (hts:fs.toList.map (·.type)=ts) (hof:fs.toList.map (·.offset)=List.range ts.length) (hk:P.cellsOf t=ts.length)
  (hc:(ts.all fun t=>P.cellsOf t == 1)=true) (h:RdL enc P W ts F ok):Rd enc P W t ts.length (fun y => .agg (F y)) ok:=by
 intro fuel cs x hx
 obtain⟨xs,n,_,_,hl,hlen,hf⟩:=DataW.trod_struct ht hx
 have hfl:fs.size=ts.length:=by rw[← hts];simp
 obtain⟨y,k1,k2,k3,k4⟩:=h n cs xs (by omega) (by omega) fun i t' ht'=>by
  have hi:i<ts.length:=(List.getElem?_eq_some_iff.1 ht').1
  have hg:fs[i]?=some fs[i]:=Array.getElem?_eq_getElem (by omega)
  have e1:(fs[i]).type=t':=by
   rw[← hts,List.getElem?_map,Array.getElem?_toList,hg] at ht'
   exact Option.some.inj ht'
  have e2:(fs[i]).offset=i:=by
   have:(fs.toList.map (·.offset))[i]?=some i:=by rw[hof,List.getElem?_range hi]
   rw[List.getElem?_map,Array.getElem?_toList,hg] at this
   exact Option.some.inj this
  have:=hf i _ hg
  have hct:P.cellsOf t'=1:=by
   have:=List.all_eq_true.1 hc _ (List.mem_of_getElem? ht')
   simpa using this
  rw[e1,e2,hct] at this
  exact this
 exact⟨y,k1,⟨k2,k3⟩,by omega,k4⟩
theorem Rd.agg {α:Type} {k:Nat} {E:α→AV} {F:α→List AV} {ok:α→Prop} (hE:∀y,E y = .agg (F y)) (h:Rd enc P W t k E ok) {v:Value} {d:DataW H} {ps:List MemPlace} (ha:∃us,v = .agg us)
  (hd:DataW.Trod enc P W 0 (fun _=>true) true t v d ps):∃y,ok y∧Rel W (fun b=>b<W.heap.size) (E y) v:=by
 obtain⟨us,rfl⟩:=ha
 obtain⟨fuel,hf⟩:=hd
 obtain⟨y,k1,k2,k3,k4⟩:=h _ _ _ hf
 refine⟨y,k1,?_⟩
 have e1:(E y).cells=F y:=by rw[hE];rfl
 have e2:(Value.agg us).cells.toList=us.toList:=rfl
 have k5:=k2.1
 rw[e1] at k4 k5
 rw[e2] at k3 k4
 rw[hE]
 refine .agg _ _ ?_ fun i c u h1 h2=>k4 i c u h1 (by simpa using h2)
 rw[k5,← k3];simp
theorem okWide_agg {r:Go.Reach} {b:Nat} {fs:Array Field} {v:Value} (ht:P.underlying t=some (.struct fs)) (h:Value.okWide P W r b t v):∃us,v = .agg us:=by
 unfold Value.okWide at h
 rw[ht] at h
 obtain⟨cs,h1,_⟩:=h
 exact⟨cs,h1⟩
theorem Rd.one {α:Type} {E:α→AV} {ok:α→Prop} (h:Rd enc P W t 1 E ok) (h1:∀y,(E y).cells=[E y]) {v:Value} {d:DataW H} {ps:List MemPlace} (hc:v.cells = #[v])
  (hd:DataW.Trod enc P W 0 (fun _=>true) true t v d ps):∃y,ok y∧Rel W (fun b=>b<W.heap.size) (E y) v:=by
 obtain⟨fuel,hf⟩:=hd
 rw[hc] at hf
 obtain⟨y,k1,_,_,k4⟩:=h _ _ _ hf
 exact⟨y,k1,k4 0 _ _ (by rw[h1];rfl) rfl⟩
end
end Go.AL
end
section
namespace Go.AL
open Go Go.RowKit Go.ChangeShapes Go.WideShapes Go.ChangeAt
def RdF {H:Type} (enc:TypeId × Value→H) (P:Program) (W:World) (N:Nat) (t:TypeId) (k:Nat) {α:Type} (E:α→AV) (ok:α→Prop):Prop :=
 ∀fuel cs x,fuel≤N→DataW.trod enc P W 0 (fun _=>true) true fuel t cs=some x→∃y,ok y∧elOk k (E y)∧cs.length=k∧∀(i:Nat) c u,(E y).cells[i]?=some c→cs[i]?=some u→Rel W (fun b=>b<W.heap.size) c u
section
variable {H:Type} {enc:TypeId × Value→H} {P:Program} {W:World} {t:TypeId}
theorem RdF.all {α:Type} {k:Nat} {E:α→AV} {ok:α→Prop} (h:∀N,RdF enc P W N t k E ok):Rd enc P W t k E ok:=fun fuel cs x hx=>h fuel fuel cs x (Nat.le_refl _) hx
theorem RdF.mono {α:Type} {k:Nat} {E:α→AV} {ok:α→Prop} {N M:Nat} (h:RdF enc P W N t k E ok) (hM:M≤N):RdF enc P W M t k E ok:=fun fuel cs x hf hx=>h fuel cs x (by omega) hx
theorem RdF.zero {α:Type} {k:Nat} {E:α→AV} {ok:α→Prop} : RdF enc P W 0 t k E ok:=fun fuel cs x hf hx=>by
 obtain rfl:fuel=0:=by omega
 simp [DataW.trod] at hx
theorem RdF.map {α β:Type} {k:Nat} {N:Nat} {E:α→AV} {E':β→AV} {ok:α→Prop} {ok':β→Prop} (f:α→β) (hE:∀y,E y=E' (f y)) (hok:∀y,ok y→ok' (f y)) (h:RdF enc P W N t k E ok):RdF enc P W N t k E' ok':=by
 intro fuel cs x hN hx
 obtain⟨y,k1,k2,k3,k4⟩:=h fuel cs x hN hx
 exact⟨f y,hok y k1,by rw[← hE];exact k2,k3,by rw[← hE];exact k4⟩
theorem RdF.slice {N:Nat} {α:Type} {E:α→AV} {ok:α→Prop} {e:TypeId} {k:Nat} (ht:P.underlying t=some (.slice e)) (hk:P.cellsOf e=k) (h0:0<k) (he:RdF enc P W N e k E ok) :
  RdF enc P W (N+1) t 1 (fun l:List α => .sl k (l.map E)) (fun l=>l.length≤maxLen∧∀y ∈ l,ok y):=by
 intro fuel cs x hN h
 rcases DataW.trod_slice ht h with ⟨rfl,_⟩|⟨a,len,cap,elems,rest,n,hfu,rfl,_,_,hl,hm,hlen,hel,_,_⟩
 ·refine⟨[],⟨by simp,by simp⟩,⟨rfl,rfl⟩,rfl,fun i c u h1 h2 => ?_⟩
  cases i with
  | zero=>cases h1;cases h2;exact .sl0 k none 0 (by simp)
  | succ i=>cases h2
 ·rw[hk] at hel
  obtain⟨l,hll,hli⟩:=ofFin (len:=len) (Q:=fun i y=>∃cs:List Value,ok y∧elOk k (E y)∧cs.length=k∧(∀m,m<k→W.cell? ((a.add (i * k)).add m)=cs[m]?)∧∀(m:Nat) c u,(E y).cells[m]?=some c→cs[m]?=some u→Rel W (fun b=>b<W.heap.size) c u) fun i hi=>by
   have h1:=hel i hi
   rw[List.getElem?_eq_getElem (by omega),Option.bind_eq_some_iff] at h1
   obtain⟨cs,hc,ht⟩:=h1
   obtain⟨y,k1,k2,k3,k4⟩:=he _ _ _ (by omega) ht
   exact⟨y,cs,k1,k2,k3,(World.cells?_some hc).2.2,k4⟩
  refine⟨l,⟨by omega,fun y hy => ?_⟩,⟨rfl,rfl⟩,rfl,fun i c u h1 h2 => ?_⟩
  ·obtain⟨i,hi,rfl⟩:=List.getElem_of_mem hy
   obtain⟨_,h,_⟩:=hli i (by omega);exact h
  ·cases i with
   | succ i=>cases h2
   | zero =>
    cases h1;cases h2
    by_cases hz:len=0
    ·subst hz
     rw[List.length_eq_zero_iff.1 hll]
     exact .sl0 k _ cap hm
    ·obtain⟨b,off,spot⟩:=a
     obtain⟨cs0,_,_,c3,c4,_⟩:=hli 0 (by omega)
     have hs:spot=none:=by
      have:=c4 0 h0
      have e0:∀a:Addr,a.add 0=a:=fun _=>rfl
      rw[Nat.zero_mul,e0,e0,List.getElem?_eq_getElem (by omega)] at this
      cases spot with
      | none=>rfl
      | some s =>
       exfalso
       unfold World.cell? at this
       split at this
       ·rw[if_pos (show (some s).isSome=true from rfl)] at this;cases this
       ·cases this
     subst hs
     have cell:∀(i:Nat) (hi:i<len) (m:Nat),m<k→∃u,W.cell? ⟨b,off+(i * k+m),none⟩=some u∧∀c,(E (l[i]'(by omega))).cells[m]?=some c→Rel W (fun b=>b<W.heap.size) c u:=fun i hi m hm=>by
      obtain⟨cs,_,_,c3,c4,c5⟩:=hli i (by omega)
      have:=c4 m hm
      rw[add_none,add_none,Nat.add_assoc,List.getElem?_eq_getElem (by omega)] at this
      exact⟨_,this,fun c hc=>c5 m c _ hc (List.getElem?_eq_getElem (by omega))⟩
     have hA:b<W.heap.size:=by
      obtain⟨u,hu,_⟩:=cell 0 (by omega) 0 h0
      unfold World.cell? at hu
      cases hb:W.heap[b]? with
      | none=>simp [hb] at hu
      | some o=>exact(Array.getElem?_eq_some_iff.1 hb).1
     have:=Rel.sl (w:=W) (A:=fun b=>b<W.heap.size) k (l.map E) b off cap (fun j=>(W.cell? ⟨b,off+j,none⟩).getD undef) hA (by rw[List.length_map];omega) hm
      (fun x hx=>by
       obtain⟨y,hy,rfl⟩:=List.mem_map.1 hx
       obtain⟨i,hi,rfl⟩:=List.getElem_of_mem hy
       obtain⟨cs,_,c2,_⟩:=hli i (by omega)
       exact c2)
      (fun j hj=>by
       rw[List.length_map,hll] at hj
       have h1:j / k<len:=(Nat.div_lt_iff_lt_mul h0).2 hj
       obtain⟨u,hu,_⟩:=cell (j / k) h1 (j % k) (Nat.mod_lt _ h0)
       have e:j / k * k+j % k=j:=Nat.div_add_mod' j k
       rw[e] at hu
       rw[hu];rfl)
      (fun i x j y hx hy=>by
       rw[List.getElem?_map,Option.map_eq_some_iff] at hx
       obtain⟨z,hz,rfl⟩:=hx
       obtain⟨hi,rfl⟩:=List.getElem?_eq_some_iff.1 hz
       obtain⟨cs,_,c2,_⟩:=hli i (by omega)
       have hj:j<k:=by have:=(List.getElem?_eq_some_iff.1 hy).1;have:=c2.1;omega
       obtain⟨u,hu,hr⟩:=cell i (by omega) j hj
       rw[hu]
       exact hr _ hy)
     rw[List.length_map,hll] at this
     exact this
def RdFL (enc:TypeId × Value→H) (P:Program) (W:World) (N:Nat) (ts:List TypeId) {α:Type} (E:α→List AV) (ok:α→Prop):Prop :=
 ∀(n:Nat) (cs:List Value) (xs:List (DataW H × List MemPlace)),n≤N→xs.length=ts.length→cs.length=ts.length →
  (∀(i:Nat) t,ts[i]?=some t→DataW.trod enc P W 0 (fun _=>true) true n t ((cs.drop i).take 1)=xs[i]?) →
  ∃y,ok y∧(E y).length=ts.length∧(E y).all one=true∧∀(i:Nat) c u,(E y)[i]?=some c→cs[i]?=some u→Rel W (fun b=>b<W.heap.size) c u
theorem RdFL.nil {N:Nat} : RdFL enc P W N [] (fun _:Unit=>[]) (fun _=>True):=by
 intro n cs xs _ _ _ _
 exact⟨(),trivial,rfl,rfl,fun i c u h=>by simp at h⟩
theorem RdFL.cons {N:Nat} {α β:Type} {E:α→AV} {ok:α→Prop} {ts:List TypeId} {F:β→List AV} {ok':β→Prop} (h:RdF enc P W N t 1 E ok) (h1:∀y,one (E y)=true∧(E y).cells=[E y]) (hs:RdFL enc P W N ts F ok') :
  RdFL enc P W N (t :: ts) (fun y:α × β=>E y.1 :: F y.2) (fun y=>ok y.1∧ok' y.2):=by
 intro n cs xs hN hx hc hi
 match xs,cs,hx,hc with
 | x :: xs,u :: cs,hx,hc =>
  have h0:=hi 0 t rfl
  simp only[List.drop_zero,List.take_succ_cons,List.take_zero,List.getElem?_cons_zero] at h0
  obtain⟨y,k1,_,_,k4⟩:=h _ _ _ hN h0
  obtain⟨z,g1,g2,g3,g4⟩:=hs n cs xs hN (by simpa using hx) (by simpa using hc) fun i t' ht=>by
   have:=hi (i+1) t' (by simpa using ht)
   simpa using this
  refine⟨(y,z),⟨k1,g1⟩,by simp [g2],by simp [g3,(h1 y).1],fun i c u' hcc hu => ?_⟩
  cases i with
  | zero=>cases hcc;cases hu;exact k4 0 _ _ (by rw[(h1 y).2];rfl) rfl
  | succ i=>exact g4 i c u' (by simpa using hcc) (by simpa using hu)
theorem RdF.struct {N:Nat} {fs:Array Field} {α:Type} {ts:List TypeId} {F:α→List AV} {ok:α→Prop} (ht:P.underlying t=some (.struct fs)) (hts:fs.toList.map (·.type)=ts) (hof:fs.toList.map (·.offset)=List.range ts.length) (hk:P.cellsOf t=ts.length)
  (hc:(ts.all fun t=>P.cellsOf t == 1)=true) (h:RdFL enc P W N ts F ok):RdF enc P W (N+1) t ts.length (fun y => .agg (F y)) ok:=by
 intro fuel cs x hN hx
 obtain⟨xs,n,hfu,_,hl,hlen,hf⟩:=DataW.trod_struct ht hx
 have hfl:fs.size=ts.length:=by rw[← hts];simp
 obtain⟨y,k1,k2,k3,k4⟩:=h n cs xs (by omega) (by omega) (by omega) fun i t' ht'=>by
  have hi:i<ts.length:=(List.getElem?_eq_some_iff.1 ht').1
  have hg:fs[i]?=some fs[i]:=Array.getElem?_eq_getElem (by omega)
  have e1:(fs[i]).type=t':=by
   rw[← hts,List.getElem?_map,Array.getElem?_toList,hg] at ht'
   exact Option.some.inj ht'
  have e2:(fs[i]).offset=i:=by
   have:(fs.toList.map (·.offset))[i]?=some i:=by rw[hof,List.getElem?_range hi]
   rw[List.getElem?_map,Array.getElem?_toList,hg] at this
   exact Option.some.inj this
  have:=hf i _ hg
  have hct:P.cellsOf t'=1:=by
   have:=List.all_eq_true.1 hc _ (List.mem_of_getElem? ht')
   simpa using this
  rw[e1,e2,hct] at this
  exact this
 exact⟨y,k1,⟨k2,k3⟩,by omega,k4⟩
end
end Go.AL
end
section
namespace Go.AL
open Go Go.RowKit
theorem Rel.tabK {P:Program} {W:World} {name:String} {k:IntKind} {zs:List Int} {g:Nat} (h:Lib.TabIs P W name k zs) (hg:P.globalNamed name=some g) (hz:0<zs.length) :
  Rel W (fun b=>b<W.heap.size) (.rp 1 (zs.map fun z => .v (.int k z)) 0 0) (.pointer (some ⟨g,0,none⟩)):=by
 have hA:g<W.heap.size:=by
  have hu:=h.cell hg 0 hz
  unfold World.cell? at hu
  cases hb:W.heap[g]? with
  | none=>simp [hb] at hu
  | some o=>exact(Array.getElem?_eq_some_iff.1 hb).1
 have:=Rel.rp (w:=W) (A:=fun b=>b<W.heap.size) 1 (zs.map fun z => .v (.int k z)) 0 0 g 0 (fun i => .int k (zs.getD i 0)) hA
  (fun x hx=>by obtain⟨z,_,rfl⟩:=List.mem_map.1 hx;exact⟨rfl,rfl⟩)
  (fun i hi=>by
   rw[List.length_map] at hi
   have:=h.cell hg i (by omega)
   simpa using this)
  (fun i x j y hx hy=>by
   rw[List.getElem?_map,Option.map_eq_some_iff] at hx
   obtain⟨z,hz,rfl⟩:=hx
   cases j with
   | succ j=>cases hy
   | zero =>
    cases hy
    have e:zs.getD i 0=z:=by rw[List.getD_eq_getElem?_getD,hz];rfl
    simp only[Nat.mul_one,Nat.add_zero,e]
    exact .v _)
 exact this
end Go.AL
end
section
namespace Go.AL
open Go Go.RowKit Go.Lib Go.Sort Go.Proofs Go.Shelf
structure Item (w:World) (A:Foot) {β:Type} (av:β→AV) (Q:β→Prop) where
 u:Value
 x:β
 rel:Rel w A (av x) u
 ok:Q x
theorem items {w:World} {A:Foot} {β:Type} {av:β→AV} {Q:β→Prop} : ∀(xs:List β) (us:List Value),us.length=xs.length →
  (∀(i:Nat) x u,xs[i]?=some x→us[i]?=some u→Rel w A (av x) u∧Q x)→∃d:List (Item w A av Q),d.map (·.x)=xs∧d.map (·.u)=us
 | [],us,hl,_=>⟨[],rfl,(List.eq_nil_of_length_eq_zero hl).symm⟩
 | x :: xs,[],hl,_=>by simp at hl
 | x :: xs,u :: us,hl,h=>by
  obtain⟨d,h1,h2⟩:=items xs us (by simpa using hl) fun i y v hy hv=>h (i+1) y v (by simpa using hy) (by simpa using hv)
  have h0:=h 0 x u rfl rfl
  exact⟨⟨u,x,h0.1,h0.2⟩ :: d,by simp [h1],by simp [h2]⟩
theorem grow_of_Fr {w w':World} {M:Foot} (h:Fr w M w') (hM:∀b,¬M b):∃q os,w'=grow (w.drewN q) os:=by
 refine⟨w'.drawn - w.drawn,w'.heap.extract w.heap.size w'.heap.size,?_⟩
 have hh:w'.heap=w.heap ++ w'.heap.extract w.heap.size w'.heap.size:=by
  apply Array.ext_getElem?
  intro k
  by_cases hk:k<w.heap.size
  ·rw[Array.getElem?_append_left hk];exact h.block k hk (hM k)
  ·rw[Array.getElem?_append_right (by omega),Array.getElem?_extract]
   have:=h.size
   by_cases hk2:k<w'.heap.size
   ·rw[if_pos (by omega)];congr 1;omega
   ·rw[if_neg (by omega)];exact Array.getElem?_eq_none (by omega)
 have hd:=h.drawn
 obtain⟨heap,tape,drawn,os,out⟩:=w'
 simp only[grow,World.drewN,World.mk.injEq]
 exact⟨hh,h.tape,by simp only at hd ⊢;omega,h.os,h.output⟩
theorem sortWorld_heap_ne {α:Type} [Inhabited α] (enc:α→Value) (w:World) (b o m:Nat) (d:Array α) (os:Array Obj) {k:Nat} (hk:k<w.heap.size) (hb:k ≠ b) :
  (sortWorld enc w b o m d os).heap[k]?=w.heap[k]?:=by
 simp only[sortWorld,grow,putRow,mapBlock,Sort.ahead]
 rw[Array.getElem?_append_left (by simpa using hk),Array.getElem?_modify,if_neg (fun e=>hb e.symm)]
theorem sortWorld_heap_eq {α:Type} [Inhabited α] (enc:α→Value) (w:World) (b o m:Nat) (d:Array α) (os:Array Obj) {c:Array Value} {t:TypeId} {fr:Nat × Nat} (h:w.heap[b]?=some (.cells c t fr)) :
  (sortWorld enc w b o m d os).heap[b]?=some (.cells (putCells enc o d c) t fr):=by
 have hk:b<w.heap.size:=(Array.getElem?_eq_some_iff.1 h).1
 simp only[sortWorld,grow,putRow,mapBlock,Sort.ahead]
 rw[Array.getElem?_append_left (by simpa using hk),Array.getElem?_modify,if_pos rfl,h]
 rfl
theorem sortWorld_size {α:Type} [Inhabited α] (enc:α→Value) (w:World) (b o m:Nat) (d:Array α) (os:Array Obj):w.heap.size≤(sortWorld enc w b o m d os).heap.size:=by
 simp only[sortWorld,grow,putRow,mapBlock,Sort.ahead,Array.size_append,Array.size_modify];omega
theorem sort_calls {P:Program} {ρ:Ren} (S:SlLaysF.n6 P ρ) {g:Nat} {t:TypeId} {β:Type} (av:β→AV) (Q:β→Prop) (dflt:β) (hQ:Q dflt) (hd:∀w A,∃u,Rel w A (av dflt) u)
  (ho:∀x,Q x→one (av x)=true) (cf:β→β→Int) (hS:SWO (ltOf cf)) (hc:∀x y,Q x→Q y→PC P g [av x,av y] (.v (.int .i64 (cf x y)))) (b cap:Nat) (xs:List β) (hx:∀x ∈ xs,Q x)
  (hlen:xs.length<4611686018427387904) :
  MCalls P (ρ.f 6) [.ls b 1 0 xs.length cap,.v (.func (.func g) #[] #[])] [(b,.row t 1 (xs.map av) cap)]
   fun r L'=>r = .tup []∧∃ys:List β,ys.Perm xs∧ys.Pairwise (fun x y=>¬cf y x<0)∧L'=[(b,.row t 1 (ys.map av) cap)]:=by
 refine⟨S.f6.enters rfl,fun n w A vs hL hv=>callsIn_wide.2 ?_⟩
 obtain⟨u1,vs1,rfl,r1,hv⟩:=hv.inv_cons
 obtain⟨u2,vs2,rfl,r2,hv⟩:=hv.inv_cons
 obtain rfl:=hv.inv_nil
 cases r2
 cases r1 with
 | ls _ _ _ _ _ o hl hcm hoo =>
 have hb:=hL.blk (b,.row t 1 (xs.map av) cap) List.mem_cons_self
 have hblk:=hb.lt
 have hnA:=hL.disj (b,.row t 1 (xs.map av) cap) List.mem_cons_self
 obtain⟨c,b1,b2,b3,b4,b5,b6⟩:=hb
 simp only[Nat.mul_one,List.length_map] at b2 b3 hblk hnA
 have o0:xs.length=0∨o=0:=by rcases hoo with h|h <;> omega
 obtain⟨d,d1,d2⟩:=items (w:=w) (A:=A) (av:=av) (Q:=Q) xs (c.toList.take xs.length) (by simp;omega) fun i x u hi hu=>by
  have hlt:i<xs.length:=(List.getElem?_eq_some_iff.1 hi).1
  have hq:Q x:=hx x (List.mem_of_getElem? hi)
  rw[List.getElem?_take_of_lt hlt,Array.getElem?_toList] at hu
  exact⟨b6 i (av x) 0 (av x) u (by simp [hi]) (by rw[one_cells (ho x hq)];rfl) (by simpa using hu),hq⟩
 have dl:d.length=xs.length:=by have:=congrArg List.length d1;simpa using this
 obtain⟨ud,hud⟩:=hd w A
 haveI:Inhabited (Item w A av Q):=⟨⟨ud,dflt,hud,hQ⟩⟩
 let enc:Item w A av Q→Value:=fun i=>i.u
 let cf':Item w A av Q→Item w A av Q→Int:=fun i j=>cf i.x j.x
 have hS':SWO (ltOf cf'):=⟨fun x=>hS.irrefl x.x,fun x y z=>hS.trans x.x y.x z.x,fun x y z=>hS.ntrans x.x y.x z.x⟩
 have hH:Holds enc w b o d.toArray:=fun j hj=>by
  have hj':j<xs.length:=by simpa [dl] using hj
  have ho0:o=0:=by omega
  subst ho0
  have e1:(c.toList.take xs.length)[j]?=some (enc d[j]!):=by
   rw[← d2,List.getElem?_map,getElem!_pos d j (by omega),List.getElem?_eq_getElem (by omega)];rfl
  rw[List.getElem?_take_of_lt hj',Array.getElem?_toList] at e1
  refine⟨?_,?_⟩
  ·simp only[World.cell?,b1,Nat.zero_add,Option.isSome_none,Bool.false_eq_true,if_false]
   simpa using e1
  ·simp [World.frozen?,b1]
 have eg:∀args w,(callFunc g args).run P w = .ok (.enter g args) w:=(hc dflt dflt hQ hQ).1
 have hcmp:CmpLays1 P g #[] enc cf' b o d.toArray.size w:=fun m os dk hdk x y=>by
  have keep:∀k,A k→(sortWorld enc w b o m dk os).heap[k]?=w.heap[k]?:=fun k hk=>sortWorld_heap_ne enc w b o m dk os (hL.abnd k hk) (fun e=>hnA (e ▸ hk))
  have hL':LRel (sortWorld enc w b o m dk os) A []:=⟨fun k hk=>Nat.lt_of_lt_of_le (hL.abnd k hk) (sortWorld_size ..),(fun _ h=>nomatch h),by simp,(fun _ h=>nomatch h),hL.globL keep fun _ h=>h⟩
  have hr:Rels (sortWorld enc w b o m dk os) A [av x.x,av y.x] [x.u,y.u]:=.cons (x.rel.later keep fun _ h=>h) (.cons (y.rel.later keep fun _ h=>h) .nil)
  have h:=callsIn_wide.1 ((hc x.x y.x x.ok y.ok).2 0 _ A _ hL' hr)
  refine Calls.mono h ?_
  rintro e w' ⟨v,r,L',A',rfl,⟨rfl,rfl⟩,hf,_,_,_,hrv⟩
  cases hrv
  exact⟨rfl,grow_of_Fr hf fun k ⟨_,hk,_⟩=>by cases hk⟩
 have h1:OneCell enc:=fun i=>one_ok i.rel (ho i.x i.ok)
 have main:=Any.slices_SortFunc S enc h1 cf' hS' g #[] b o cap d.toArray w eg hcmp hH hblk (by simpa [dl] using hlen)
 rw[show d.toArray.size=xs.length by simp [dl]] at main
 refine Calls.mono main ?_
 rintro e w' ⟨rfl,d',n',os,hp,hs,rfl⟩
 have sz:d'.size=xs.length:=by rw[hp.1];simp [dl]
 have keep:∀k,A k→(sortWorld enc w b o n' d' os).heap[k]?=w.heap[k]?:=fun k hk=>sortWorld_heap_ne enc w b o n' d' os (hL.abnd k hk) (fun e=>hnA (e ▸ hk))
 refine⟨_,.tup [],[(b,.row t 1 ((d'.toList.map (·.x)).map av) cap)],A,rfl,⟨rfl,d'.toList.map (·.x),?_,?_,rfl⟩,⟨rfl,rfl,rfl,sortWorld_size ..,fun k hk hn => ?_,by simp [sortWorld,grow,putRow,mapBlock,Sort.ahead]⟩,fun _ h => .inl h,?_,fun x hx => .inl ?_,.tup [] #[] rfl (by simp)⟩
 ·have:=hp.2.2
  rw[show d'.extract 0 xs.length=d' by rw[← sz];exact Array.extract_size ..,show d.toArray.extract 0 xs.length=d.toArray by rw[← dl];simp] at this
  have:=this.map (fun i:Item w A av Q=>i.x)
  simpa [d1] using this
 ·rw[List.pairwise_map,List.pairwise_iff_getElem]
  intro i j hi hj hij
  have hi':i<d'.size:=by simpa using hi
  have hj':j<d'.size:=by simpa using hj
  have:=hs i j (Nat.zero_le _) hij (by omega)
  rw[getElem!_pos d' i hi',getElem!_pos d' j hj'] at this
  simpa [ltOf,cf'] using this
 ·exact sortWorld_heap_ne _ _ _ _ _ _ _ hk fun e=>hn ⟨_,List.mem_cons_self,e.symm⟩
 ·have hb':=sortWorld_heap_eq enc w b o n' d' os b1
  refine⟨fun k hk=>Nat.lt_of_lt_of_le (hL.abnd k hk) (sortWorld_size ..),fun x hx => ?_,by simp,fun x hx => ?_,hL.globL keep fun _ h=>h⟩
  ·obtain rfl:=List.mem_singleton.1 hx;exact hnA
  ·obtain rfl:=List.mem_singleton.1 hx
   refine⟨_,hb',by simp [putCells,b2],by simp [sz];omega,b4,fun y hy => ?_,fun i x j y u hi hj hu => ?_⟩
   ·simp only[List.map_map,List.mem_map] at hy
    obtain⟨it,_,rfl⟩:=hy
    have h1:=ho it.x it.ok
    exact⟨by simp [one_cells h1],by revert h1;simp only[Function.comp];cases av it.x <;> simp [one,okv]⟩
   ·simp only[List.map_map,List.getElem?_map,Option.map_eq_some_iff] at hi
    obtain⟨it,hit,rfl⟩:=hi
    have h1:=ho it.x it.ok
    simp only[Function.comp,one_cells h1] at hj
    have hj0:j=0:=by have:=(List.getElem?_eq_some_iff.1 hj).1;simpa using this
    subst hj0
    simp only[List.getElem?_cons_zero,Option.some.injEq] at hj
    subst hj
    have hi2:i<d'.size:=by have:=(List.getElem?_eq_some_iff.1 hit).1;simpa using this
    have o0':o=0:=by omega
    subst o0'
    simp only[Nat.mul_one,Nat.add_zero,putCells,Array.getElem?_mapIdx,Option.map_eq_some_iff] at hu
    obtain⟨v0,_,hu⟩:=hu
    rw[if_pos (by omega)] at hu
    have e2:d'[i - 0]! = it:=by
     rw[Nat.sub_zero,getElem!_pos d' i hi2]
     have:=(List.getElem?_eq_some_iff.1 hit).2
     simpa using this
    rw[e2] at hu
    subst hu
    exact it.rel.later keep fun _ h=>h
 ·obtain rfl:=List.mem_singleton.1 hx;exact⟨_,List.mem_cons_self,rfl⟩
def sortBy {β:Type} (cf:β→β→Int) (xs:List β):List β:=xs.mergeSort fun x y=>decide (¬cf y x<0)
theorem sortBy_perm {β:Type} (cf:β→β→Int) (xs:List β):(sortBy cf xs).Perm xs:=List.mergeSort_perm _ _
theorem sortBy_pair {β:Type} {cf:β→β→Int} (hS:SWO (ltOf cf)) (xs:List β):(sortBy cf xs).Pairwise fun x y=>¬cf y x<0:=by
 have h:=List.pairwise_mergeSort (le:=fun x y:β=>decide (¬cf y x<0)) (fun a b c h1 h2 => ?_) (fun a b => ?_) xs
 ·exact h.imp fun h=>of_decide_eq_true h
 ·have:=hS.ntrans c b a (by simpa [ltOf] using h2) (by simpa [ltOf] using h1)
  simpa [ltOf] using this
 ·by_cases h1:cf b a<0
  ·by_cases h2:cf a b<0
   ·have:=hS.trans a b a (by simpa [ltOf] using h2) (by simpa [ltOf] using h1)
    rw[hS.irrefl] at this;cases this
   ·simp [h2]
  ·simp [h1]
theorem sortBy_eq {β:Type} {cf:β→β→Int} (hS:SWO (ltOf cf)) (ha:∀x y,¬cf x y<0→¬cf y x<0→x=y) {xs ys:List β} (hp:ys.Perm xs) (hq:ys.Pairwise fun x y=>¬cf y x<0):ys=sortBy cf xs :=
 List.Perm.eq_of_pairwise (le:=fun x y=>¬cf y x<0) (fun a b _ _ h1 h2=>ha a b h2 h1) hq (sortBy_pair hS xs) (hp.trans (sortBy_perm cf xs).symm)
theorem sort_calls' {P:Program} {ρ:Ren} (S:SlLaysF.n6 P ρ) {g:Nat} {t:TypeId} {β:Type} (av:β→AV) (Q:β→Prop) (dflt:β) (hQ:Q dflt) (hd:∀w A,∃u,Rel w A (av dflt) u)
  (ho:∀x,Q x→one (av x)=true) (cf:β→β→Int) (hS:SWO (ltOf cf)) (ha:∀x y,¬cf x y<0→¬cf y x<0→x=y) (hc:∀x y,Q x→Q y→PC P g [av x,av y] (.v (.int .i64 (cf x y)))) (b cap:Nat) (xs:List β)
  (hx:∀x ∈ xs,Q x) (hlen:xs.length<4611686018427387904) :
  MCalls P (ρ.f 6) [.ls b 1 0 xs.length cap,.v (.func (.func g) #[] #[])] [(b,.row t 1 (xs.map av) cap)] fun r L'=>r = .tup []∧L'=[(b,.row t 1 ((sortBy cf xs).map av) cap)] :=
 (sort_calls S av Q dflt hQ hd ho cf hS hc b cap xs hx hlen).mono fun r L' ⟨h1,ys,hp,hq,h2⟩=>⟨h1,by rw[h2,sortBy_eq hS ha hp hq]⟩
theorem PC.same {P:Program} {f:FuncId} {args:List AV} {vs:List Value} {v:Value} (he:Enters P f) (hv:∀w A us,Rels w A args us→us=vs) (h:∀w,Calls P f vs.toArray w fun e w'=>e = .returned v∧w'=w):PC P f args (.v v) :=
 ⟨he,fun n w A us hL hr=>callsIn_wide.2 (by
  rw[hv w A us hr]
  refine Calls.mono (h w) ?_
  rintro e w' ⟨rfl,rfl⟩
  exact⟨v,.v v,[],A,rfl,⟨rfl,rfl⟩,.refl _ _,fun _ h => .inl h,hL,(fun x hx=>nomatch hx),.v v⟩)⟩
end Go.AL
end
section
namespace Go.AL
open Go Go.RowKit Go.Lib Go.Sort Go.Proofs Go.Shelf
def sortRows_ren:Go.Shelf.Ren:=⟨fun|6=>109|15=>124|14=>123|28=>139|29=>140|20=>131|21=>132|22=>133|23=>134|24=>135|25=>136|26=>137|27=>138|46=>144|47=>145|48=>146|49=>147|50=>148|57=>149|n=>n,fun|22=>44|24=>47|25=>177|3=>3|39=>184|0=>0|53=>204|55=>106|4=>4|46=>197|45=>196|50=>201|5=>5|9=>9|66=>206|70=>210|76=>212|77=>213|n=>n,fun|n=>n⟩
theorem sortRows:Go.Proofs.SlLaysF.n6 Proofs.Tryz.prog sortRows_ren where
 mixed:=by kernel_rfl
 f6:=⟨"slices.SortFunc[[][]int,[]int]",by decide,Proofs.Tryz.func109.trans (congrArg some (by kernel_rfl))⟩
 f14:=⟨"slices.pdqsortCmpFunc[[]int]",by decide,Proofs.Tryz.func123.trans (congrArg some (by kernel_rfl))⟩
 f15:=Proofs.Tryz.func124.trans (congrArg some (by kernel_rfl))
 f20:=⟨"slices.insertionSortCmpFunc[[]int]",by decide,Proofs.Tryz.func131.trans (congrArg some (by kernel_rfl))⟩
 f21:=⟨"slices.heapSortCmpFunc[[]int]",by decide,Proofs.Tryz.func132.trans (congrArg some (by kernel_rfl))⟩
 f22:=⟨"slices.breakPatternsCmpFunc[[]int]",by decide,Proofs.Tryz.func133.trans (congrArg some (by kernel_rfl))⟩
 f23:=⟨"slices.choosePivotCmpFunc[[]int]",by decide,Proofs.Tryz.func134.trans (congrArg some (by kernel_rfl))⟩
 f24:=⟨"slices.reverseRangeCmpFunc[[]int]",by decide,Proofs.Tryz.func135.trans (congrArg some (by kernel_rfl))⟩
 f25:=⟨"slices.partialInsertionSortCmpFunc[[]int]",by decide,Proofs.Tryz.func136.trans (congrArg some (by kernel_rfl))⟩
 f26:=⟨"slices.partitionEqualCmpFunc[[]int]",by decide,Proofs.Tryz.func137.trans (congrArg some (by kernel_rfl))⟩
 f27:=⟨"slices.partitionCmpFunc[[]int]",by decide,Proofs.Tryz.func138.trans (congrArg some (by kernel_rfl))⟩
 f28:=Proofs.Tryz.func139.trans (congrArg some (by kernel_rfl))
 f29:=Proofs.Tryz.func140.trans (congrArg some (by kernel_rfl))
 f46:=⟨"slices.siftDownCmpFunc[[]int]",by decide,Proofs.Tryz.func144.trans (congrArg some (by kernel_rfl))⟩
 f47:=Proofs.Tryz.func145.trans (congrArg some (by kernel_rfl))
 f48:=Proofs.Tryz.func146.trans (congrArg some (by kernel_rfl))
 f49:=⟨"slices.medianAdjacentCmpFunc[[]int]",by decide,Proofs.Tryz.func147.trans (congrArg some (by kernel_rfl))⟩
 f50:=⟨"slices.medianCmpFunc[[]int]",by decide,Proofs.Tryz.func148.trans (congrArg some (by kernel_rfl))⟩
 f57:=⟨"slices.order2CmpFunc[[]int]",by decide,Proofs.Tryz.func149.trans (congrArg some (by kernel_rfl))⟩
 t0:=Proofs.Tryz.underlying0
 a0:=Proofs.Tryz.isAgg0
 z0:=Proofs.Tryz.sizeOf0
 v0:=Proofs.Tryz.zeroValue0
 t3:=Proofs.Tryz.underlying3
 a3:=Proofs.Tryz.isAgg3
 z3:=Proofs.Tryz.sizeOf3
 v3:=Proofs.Tryz.zeroValue3
 t4:=Proofs.Tryz.underlying4
 a4:=Proofs.Tryz.isAgg4
 z4:=Proofs.Tryz.sizeOf4
 v4:=Proofs.Tryz.zeroValue4
 t5:=Proofs.Tryz.underlying5
 a5:=Proofs.Tryz.isAgg5
 z5:=Proofs.Tryz.sizeOf5
 v5:=Proofs.Tryz.zeroValue5
 t9:=Proofs.Tryz.underlying9
 a9:=Proofs.Tryz.isAgg9
 z9:=Proofs.Tryz.sizeOf9
 v9:=Proofs.Tryz.zeroValue9
 t22:=Proofs.Tryz.underlying44
 a22:=Proofs.Tryz.isAgg44
 z22:=Proofs.Tryz.sizeOf44
 v22:=Proofs.Tryz.zeroValue44
 a24:=Proofs.Tryz.isAgg47
 z24:=Proofs.Tryz.sizeOf47
 t25:=Proofs.Tryz.underlying177
 a25:=Proofs.Tryz.isAgg177
 z25:=Proofs.Tryz.sizeOf177
 v25:=Proofs.Tryz.zeroValue177
 t39:=Proofs.Tryz.underlying184
 a39:=Proofs.Tryz.isAgg184
 z39:=Proofs.Tryz.sizeOf184
 v39:=Proofs.Tryz.zeroValue184
 t45:=Proofs.Tryz.underlying196
 a45:=Proofs.Tryz.isAgg196
 z45:=Proofs.Tryz.sizeOf196
 v45:=Proofs.Tryz.zeroValue196
 t46:=Proofs.Tryz.underlying197
 a46:=Proofs.Tryz.isAgg197
 z46:=Proofs.Tryz.sizeOf197
 v46:=Proofs.Tryz.zeroValue197
 t50:=Proofs.Tryz.underlying201
 a50:=Proofs.Tryz.isAgg201
 z50:=Proofs.Tryz.sizeOf201
 v50:=Proofs.Tryz.zeroValue201
 t53:=Proofs.Tryz.underlying204
 a53:=Proofs.Tryz.isAgg204
 z53:=Proofs.Tryz.sizeOf204
 v53:=Proofs.Tryz.zeroValue204
 t55:=Proofs.Tryz.underlying106
 a55:=Proofs.Tryz.isAgg106
 z55:=Proofs.Tryz.sizeOf106
 v55:=Proofs.Tryz.zeroValue106
 t66:=Proofs.Tryz.underlying206
 a66:=Proofs.Tryz.isAgg206
 z66:=Proofs.Tryz.sizeOf206
 v66:=Proofs.Tryz.zeroValue206
 t70:=Proofs.Tryz.underlying210
 a70:=Proofs.Tryz.isAgg210
 z70:=Proofs.Tryz.sizeOf210
 v70:=Proofs.Tryz.zeroValue210
 t76:=Proofs.Tryz.underlying212
 a76:=Proofs.Tryz.isAgg212
 z76:=Proofs.Tryz.sizeOf212
 v76:=Proofs.Tryz.zeroValue212
 t77:=Proofs.Tryz.underlying213
 a77:=Proofs.Tryz.isAgg213
 z77:=Proofs.Tryz.sizeOf213
 v77:=Proofs.Tryz.zeroValue213
end Go.AL
end
