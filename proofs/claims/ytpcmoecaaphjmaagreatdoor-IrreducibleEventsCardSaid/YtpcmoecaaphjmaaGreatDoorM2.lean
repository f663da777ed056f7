/- Texts of this claim's proof: AlStep, AlRegion. No condition. -/
import Derived.Test.YtpcmoecaaphjmaaGreatDoorM1
section
namespace Go.AL
open Go Go.RowKit
def fresh:AHeap→Nat→Prop
 | [],_=>True
 | (c,_) :: r,b=>c<b∧fresh r b
def apart:AHeap→Nat→Prop
 | [],_=>True
 | (c,_) :: r,b=>c ≠ b∧apart r b
theorem fresh_of {L:AHeap} {b:Nat} (h:∀x ∈ L,x.1<b):fresh L b:=by
 induction L with
 | nil=>trivial
 | cons x r ih=>exact⟨h x (by simp),ih fun y hy=>h y (by simp [hy])⟩
theorem apart_of {L:AHeap} {b:Nat} (h:∀x ∈ L,x.1 ≠ b):apart L b:=by
 induction L with
 | nil=>trivial
 | cons x r ih=>exact⟨h x (by simp),ih fun y hy=>h y (by simp [hy])⟩
def allocRow (P:Program) (t:TypeId):Option (Prop × Nat × List AV × Nat) :=
 match tinfo P t with
 | some ti=>match ti.k with
  | .arr n e=>match tinfo P e with
   | some ei=>some (ti.zero.cells=(List.replicate n ei.zero.cells).flatten∧elOk ei.size ei.zero∧n≤9223372036854775807,ei.size,List.replicate n ei.zero,n)
   | none=>none
  | _=>some (elOk ti.size ti.zero,ti.size,[ti.zero],1)
 | none=>none
def setAll:List AV→List (Nat × AV)→List AV
 | xs,[]=>xs
 | xs,(i,x) :: r=>setAll (xs.set i x) r
def partsOk (len k:Nat):List (Nat × AV)→Prop
 | []=>True
 | (i,x) :: r=>i<len∧elOk k x∧partsOk len k r
def aAlloc (C:Cfg) (o:Oper) (t:TypeId) (ρ:Env) (L:AHeap) (K:ARes):Prop :=
 match allocRow C.P t with
 | some (c,k,xs,cap)=>c∧∀b,fresh L b→K (put ρ o.dst (.lp b k 0 0)) ((b,.row t k xs cap) :: L)
 | none=>False
def aBox (C:Cfg) (o:Oper) (t:TypeId) (x:AV) (ρ:Env) (L:AHeap) (K:ARes):Prop :=
 match tinfo C.P t with
 | some ti=>(fo x).1∧elOk ti.size (fo x).2 ∧
  if isFz C.fz o.dst then K (put ρ o.dst (.rp ti.size [(fo x).2] 0 0)) L
  else ∀b,fresh L b→K (put ρ o.dst (.lp b ti.size 0 0)) ((b,.row t ti.size [(fo x).2] 1) :: L)
 | none=>False
def aBuildSlice (C:Cfg) (o:Oper) (t:TypeId) (len:Nat) (parts:List (Nat × AV)) (ρ:Env) (L:AHeap) (K:ARes):Prop :=
 match tinfo C.P t with
 | some ⟨.slice e,_,_,_⟩=>match tinfo C.P e with
  | some ei=>fos (parts.map (·.2))∧len * ei.size≤16777216∧0<ei.size∧elOk ei.size ei.zero∧partsOk len ei.size (parts.map fun p=>(p.1,(fo p.2).2)) ∧
   if isFz C.fz o.dst then K (put ρ o.dst (.sl ei.size (setAll (List.replicate len ei.zero) (parts.map fun p=>(p.1,(fo p.2).2))))) L
   else ∀b,fresh L b→K (put ρ o.dst (.ls b ei.size 0 len len)) ((b,.row e ei.size (setAll (List.replicate len ei.zero) (parts.map fun p=>(p.1,(fo p.2).2))) len) :: L)
  | none=>False
 | _=>False
def aStore (C:Cfg) (o:Oper) (t:TypeId) (p:Operand) (x:AV) (ρ:Env) (L:AHeap) (K:ARes):Prop :=
 match tinfo C.P t,(fo (ev ρ p)).2 with
 | some ti,.lp b k i j=>match lk L b with
  | some (.row t' k' xs cap)=>(fo (ev ρ p)).1∧(fo x).1∧k'=k∧stI ti k i xs∧stJ ti k j∧(fo x).2.cells.length=ti.size∧0<ti.size∧okv (fo x).2=true ∧
   match p with
   | .tmp s=>if isFz C.fz (some s) && decide (o.dst ≠ some s) then K ((s,.rp k (stXs ti k xs i j (fo x).2) i j) :: put ρ o.dst .any) (del L b)
    else K (put ρ o.dst .any) (upd L b (.row t' k' (stXs ti k xs i j (fo x).2) cap))
   | _=>K (put ρ o.dst .any) (upd L b (.row t' k' (stXs ti k xs i j (fo x).2) cap))
  | _=>False
 | _,_=>False
def aMakeSlice (C:Cfg) (o:Oper) (t:TypeId) (l c:AV) (ρ:Env) (L:AHeap) (K:ARes):Prop :=
 match tinfo C.P t,(fo l).2,(fo c).2 with
 | some ⟨.slice e,_,_,_⟩,.v (.int _ l'),.v (.int _ c')=>match tinfo C.P e with
  | some ei=>((fo l).1∧(fo c).1)∧0≤l'∧l'≤c'∧ei.bytes * c'≤281474976710656∧c'≤9223372036854775807∧0<ei.size∧elOk ei.size ei.zero ∧
   if isFz C.fz o.dst then K (put ρ o.dst (.sl ei.size (List.replicate l'.toNat ei.zero))) L
   else ∀b,fresh L b→K (put ρ o.dst (.ls b ei.size 0 l'.toNat c'.toNat)) ((b,.row e ei.size (List.replicate l'.toNat ei.zero) c'.toNat) :: L)
  | none=>False
 | _,_,_=>False
def aMakeMap (o:Oper) (ρ:Env) (L:AHeap) (K:ARes):Prop:=∀b,fresh L b→K (put ρ o.dst (.lm b)) ((b,.amap [] []) :: L)
def aAppend (C:Cfg) (o:Oper) (t:TypeId) (s x:AV) (ρ:Env) (L:AHeap) (K:ARes):Prop :=
 match tinfo C.P t with
 | some ⟨.slice e,_,_,_⟩=>match tinfo C.P e with
  | some ei=>match srcOf L ei.size (fo x).2 with
   | some (cs,ys)=>(fo s).1∧(fo x).1∧cs∧elOk ei.size ei.zero∧0<ei.size∧(match (fo s).2 with
    | .v (.slice none 0 0)=>AppOk ys.length ei.bytes∧(ys=[]→K (put ρ o.dst anil) L) ∧
      (ys ≠ []→∀b' cap',fresh L b'→ys.length≤cap'→K (put ρ o.dst (.ls b' ei.size 0 ys.length cap')) ((b',.row e ei.size ys cap') :: L))
    | .ls b k 0 len cap=>(match lk L b with
     | some (.row t' k2 xs capb)=>k=ei.size∧k2=ei.size∧t'=e∧len≤xs.length∧cap=capb∧AppOk (len+ys.length) ei.bytes ∧
       ∀b' cap',apart (del L b) b'→len+ys.length≤cap'→K (put ρ o.dst (.ls b' ei.size 0 (len+ys.length) cap')) ((b',.row e ei.size (xs.take len ++ ys) cap') :: del L b)
     | _=>False)
    | .ls b k off len cap=>(match lk L b with
     | some (.row t' k2 xs capb)=>k=ei.size∧k2=ei.size∧t'=e∧off+len≤xs.length∧off+cap≤capb∧AppOk (len+ys.length) ei.bytes ∧
       (len+ys.length≤cap→K (put ρ o.dst (.ls b ei.size off (len+ys.length) cap)) (upd L b (.row e ei.size (xs.take (off+len) ++ ys) capb))) ∧
       (∀b' cap',fresh L b'→len+ys.length≤cap'→K (put ρ o.dst (.ls b' ei.size 0 (len+ys.length) cap')) ((b',.row e ei.size ((xs.drop off).take len ++ ys) cap') :: del L b))
     | _=>False)
    | _=>False)
   | none=>False
  | none=>False
 | _=>False
def aCopy (C:Cfg) (o:Oper) (t:TypeId) (s x:AV) (ρ:Env) (L:AHeap) (K:ARes):Prop :=
 match tinfo C.P t with
 | some ⟨.slice e,_,_,_⟩=>match tinfo C.P e with
  | some ei=>match srcOf L ei.size (fo x).2 with
   | some (cs,ys)=>(fo s).1∧(fo x).1∧cs∧0<ei.size∧(match (fo s).2 with
    | .ls b k off len _=>(match lk L b with
     | some (.row t' k2 xs capb)=>k=ei.size∧k2=ei.size∧off+len≤xs.length ∧
       K (put ρ o.dst (ai (min ys.length len:Nat))) (upd L b (.row t' ei.size (splice xs off (ys.take (min ys.length len))) capb))
     | _=>False)
    | _=>False)
   | none=>False
  | none=>False
 | _=>False
def aGrow (C:Cfg) (o:Oper) (t t':TypeId) (s x:AV) (ρ:Env) (L:AHeap) (K:ARes):Prop :=
 match tinfo C.P t,tinfo C.P t',(fo s).2,(fo x).2 with
 | some ⟨.slice e,_,_,_⟩,some ⟨.int _,_,_,_⟩,.v (.slice none 0 0),.v (.int _ n)=>match tinfo C.P e with
  | some ei=>(fo s).1∧(fo x).1∧0<n∧n≤9223372036854775807∧n.toNat * ei.bytes≤140737488355328∧0<ei.size∧elOk ei.size ei.zero ∧
   ∀b' cap',fresh L b'→n.toNat≤cap'→K (put ρ o.dst (.ls b' ei.size 0 n.toNat cap')) ((b',.row e ei.size (List.replicate n.toNat ei.zero) cap') :: L)
  | none=>False
 | _,_,_,_=>False
def aClear (C:Cfg) (o:Oper) (t:TypeId) (s:AV) (ρ:Env) (L:AHeap) (K:ARes):Prop :=
 match tinfo C.P t with
 | some ⟨.slice e,_,_,_⟩=>match tinfo C.P e with
  | some ei=>(fo s).1∧0<ei.size∧elOk ei.size ei.zero∧(match (fo s).2 with
   | .ls b k off len _=>(match lk L b with
    | some (.row t' k2 xs capb)=>k=ei.size∧k2=ei.size∧off+len≤xs.length∧K (put ρ o.dst (.tup [])) (upd L b (.row t' ei.size (splice xs off (List.replicate len ei.zero)) capb))
    | _=>False)
   | _=>False)
  | none=>False
 | _=>False
def mput (k:Value) (x:AV) (ks:List Value) (vs:List AV):ABlk :=
 match mfind k ks with
 | some i => .amap ks (vs.set i x)
 | none => .amap (ks ++ [k]) (vs ++ [x])
def aMapUpdate (C:Cfg) (o:Oper) (t:TypeId) (m k x:AV) (ρ:Env) (L:AHeap) (K:ARes):Prop :=
 match (fo m).2,tinfo C.P t,flatV (fo k).2 with
 | .lm b,some ⟨.map kt _,_,_,_⟩,some kv=>match lk L b,kkOf C.P kt with
  | some (.amap ks vs),some κ=>(fo m).1∧(fo k).1∧(fo x).1∧κ.fits kv=true∧ks.all κ.fits=true∧K (put ρ o.dst .any) (upd L b (mput kv (fo x).2 ks vs))
  | _,_=>False
 | _,_,_=>False
def mentry (k:Value) (z:AV) (ks:List Value) (vs:List AV) (st:Int):ABlk :=
 match mfind k ks with
 | some i => .amapE ks vs i st
 | none => .amapE (ks ++ [k]) (vs ++ [z]) ks.length st
def aMapEntry (C:Cfg) (o:Oper) (t:TypeId) (m k:AV) (ρ:Env) (L:AHeap) (K:ARes):Prop :=
 match (fo m).2,tinfo C.P t,flatV (fo k).2 with
 | .lm b,some ⟨.map kt et,_,_,_⟩,some kv=>match lk L b,kkOf C.P kt,tinfo C.P et with
  | some (.amap ks vs),some κ,some ei=>(fo m).1∧(fo k).1∧κ.fits kv=true∧ks.all κ.fits=true∧∀st:Int,K (put ρ o.dst (.tup [.any,ai st])) (upd L b (mentry kv ei.zero ks vs st))
  | _,_,_=>False
 | _,_,_=>False
def aEntryStore (o:Oper) (m s x:AV) (ρ:Env) (L:AHeap) (K:ARes):Prop :=
 match (fo m).2,(fo s).2 with
 | .lm b,.v (.int _ n)=>match lk L b with
  | some (.amapE ks vs i st)=>(fo m).1∧(fo s).1∧(fo x).1∧n=st∧K (put ρ o.dst .any) (upd L b (.amap ks (vs.set i (fo x).2)))
  | _=>False
 | _,_=>False
def aNilCmp (C:Cfg) (o:Oper) (op:BinOp) (t:TypeId) (x y:AV) (ρ:Env) (L:AHeap) (K:ARes):Prop :=
 match x,y,tinfo C.P t with
 | .sl _ xs,.v (.slice none 0 0),some ⟨.slice _,_,_,_⟩=>match op with
  | .eql=>∀b,(xs ≠ []→b=false)→K (put ρ o.dst (ab b)) L
  | .neq=>∀b,(xs ≠ []→b=false)→K (put ρ o.dst (ab (!b))) L
  | _=>AOp C o ρ L K
 | _,_,_=>AOp C o ρ L K
def putK (K:ARes) (ρ:Env) (d:Option Tmp) (r:AV) (L:AHeap):Prop:=K (put ρ d r) L
def putC (K:ARes) (ρ:Env) (d:Option Tmp) (c:Bool) (L:AHeap) (r:AV):Prop:=K (put ρ d (.cond c r)) L
def putQ (K:Env→Prop) (ρ:Env) (d:Option Tmp) (r:AV):Prop:=K (put ρ d r)
def putQC (K:Env→Prop) (ρ:Env) (d:Option Tmp) (c:Bool) (r:AV):Prop:=K (put ρ d (.cond c r))
def GCall (P:Program) (p c:Prop) (g:AV) (args:List AV) (L:AHeap) (K:AV→Prop):Prop:=∃r,(p→c∧MVal P g args L fun r' L'=>r'=r∧L'=L)∧K r
theorem GCall.use {P:Program} {p c:Prop} {g:AV} {args:List AV} {L:AHeap} {K:AV→Prop} (r:AV) (h:p→c∧MVal P g args L fun r' L'=>r'=r∧L'=L) (hk:K r):GCall P p c g args L K:=⟨r,h,hk⟩
def aop2 (C:Cfg) (o:Oper) (ρ:Env) (L:AHeap) (K:ARes):Prop :=
 match o.op with
 | .alloc t=>aAlloc C o t ρ L K
 | .box t x=>aBox C o t (ev ρ x) ρ L K
 | .buildSlice t len parts=>aBuildSlice C o t len (parts.toList.map fun p=>(p.1,ev ρ p.2)) ρ L K
 | .store t p x=>aStore C o t p (ev ρ x) ρ L K
 | .makeSlice t l c=>aMakeSlice C o t (ev ρ l) (ev ρ c) ρ L K
 | .makeMap _ none=>aMakeMap o ρ L K
 | .call c=>match c.callee,c.args.toList,c.argTypes.toList with
  | .builtin .append,[s,x],[t,t']=>if t=t' then aAppend C o t (ev ρ s) (ev ρ x) ρ L K else aGrow C o t t' (ev ρ s) (ev ρ x) ρ L K
  | .builtin .copy,[s,x],[t,_]=>aCopy C o t (ev ρ s) (ev ρ x) ρ L K
  | .builtin .clear,[s],[t]=>aClear C o t (ev ρ s) ρ L K
  | .value g,l,_=>(fo (ev ρ g)).1∧fos (l.map (ev ρ))∧MVal C.P (fo (ev ρ g)).2 (l.map fun x=>(fo (ev ρ x)).2) L (putK K ρ o.dst)
  | _,_,_=>AOp C o ρ L K
 | .binOp op t x y _=>aNilCmp C o op t (ev ρ x) (ev ρ y) ρ L K
 | .mapUpdate t m k x=>aMapUpdate C o t (ev ρ m) (ev ρ k) (ev ρ x) ρ L K
 | .insert t m k x=>aMapUpdate C o t (ev ρ m) (ev ρ k) (ev ρ x) ρ L K
 | .mapEntry t m k=>aMapEntry C o t (ev ρ m) (ev ρ k) ρ L K
 | .entryStore _ m s x=>aEntryStore o (ev ρ m) (ev ρ s) (ev ρ x) ρ L K
 | _=>AOp C o ρ L K
def aop (C:Cfg) (o:Oper) (ρ:Env) (L:AHeap) (K:ARes):Prop :=
 match aval C.P ρ L o.op with
 | some (c,x)=>c∧K (put ρ o.dst x) L
 | none=>aop2 C o ρ L K
section
variable {P:Program} {w:World} {A:Foot} {L:AHeap}
theorem StW.alloc {w0:World} {M A0:Foot} {N:Nat} {ρ:Env} {a:Act} {ds:List Nat} (h:StW w0 M A0 N ρ L a w A ds) {o:Obj} {x:ABlk} (hx:BlkRel (w.alloc o) A w.heap.size x) :
  StW w0 M A0 N ρ ((w.heap.size,x) :: L) a (w.alloc o) A ds :=
 h.advance (Fr.alloc w _ o) (fun _ h=>h) (fun _ h => .inl h) (h.l.alloc hx) (fun y hy=>by
  rcases List.mem_cons.1 hy with rfl|hy
  ·exact .inr (Nat.le_refl _)
  ·exact .inl ⟨y,hy,rfl⟩)
theorem StW.allocF {w0:World} {M A0:Foot} {N:Nat} {ρ:Env} {a:Act} {ds:List Nat} (h:StW w0 M A0 N ρ L a w A ds) (o:Obj) :
  StW w0 M A0 N ρ L a (w.alloc o) (fun b=>A b∨b=w.heap.size) ds :=
 h.advance (Fr.alloc w _ o) (fun _ h => .inl h) (fun b hb=>hb.imp id (fun e => .inr (by omega))) (h.l.allocF o) (fun y hy => .inl ⟨y,hy,rfl⟩)
theorem StW.drew {w0:World} {M A0:Foot} {N:Nat} {ρ:Env} {a:Act} {ds:List Nat} (h:StW w0 M A0 N ρ L a w A ds):StW w0 M A0 N ρ L a w.drew A ds :=
 h.advance (Fr.drew w _) (fun _ h=>h) (fun _ h => .inl h) ⟨h.l.abnd,h.l.disj,h.l.nodup,fun x hx=>(h.l.blk x hx).later rfl (fun _ _=>rfl) (fun _ h=>h),h.l.globL (fun _ _=>rfl) fun _ h=>h⟩ (fun y hy => .inl ⟨y,hy,rfl⟩)
theorem StW.fresh {w0:World} {M A0:Foot} {N:Nat} {ρ:Env} {a:Act} {ds:List Nat} (h:StW w0 M A0 N ρ L a w A ds):AL.fresh L w.heap.size:=fresh_of fun x hx=>(h.l.blk x hx).lt
theorem StW.set {w0:World} {M A0:Foot} {N:Nat} {ρ:Env} {a:Act} {ds:List Nat} (h:StW w0 M A0 N ρ L a w A ds) {b:Nat} {old x:ABlk} (hb:lk L b=some old) {w':World} (h1:∀m,m ≠ b→w'.heap[m]?=w.heap[m]?)
  (h2:w'.heap.size=w.heap.size) (h3:w'.os=w.os) (h4:w'.tape=w.tape) (h5:w'.output=w.output) (h6:w'.drawn=w.drawn) (hx:BlkRel w' A b x):StW w0 M A0 N ρ (upd L b x) a w' A ds :=
 have hm:=lk_mem hb
 h.advance ⟨h3,h4,h5,by omega,fun k _ hn=>h1 k (fun e=>hn ⟨_,hm,e.symm⟩),by omega⟩ (fun _ h=>h) (fun _ h => .inl h)
  (h.l.set (fun k _ hn=>h1 k hn) (by omega) (h.l.disj _ hm) hx) (fun y hy => .inl (keys_upd y hy))
theorem StW.sub {w0:World} {M A0:Foot} {N:Nat} {ρ:Env} {a:Act} {ds:List Nat} (h:StW w0 M A0 N ρ L a w A ds) {L':AHeap} (hs:L'.Sublist L):StW w0 M A0 N ρ L' a w A ds :=
 h.advance (Fr.refl w _) (fun _ h=>h) (fun _ h => .inl h) (h.l.sub hs) (fun y hy => .inl ⟨y,hs.subset hy,rfl⟩)
theorem lk_upd {L:AHeap} {b:Nat} {old x:ABlk} (h:lk L b=some old):lk (upd L b x) b=some x:=by
 induction L with
 | nil=>cases h
 | cons y r ih =>
  obtain⟨b',y⟩:=y
  simp only[lk] at h
  simp only[upd]
  split
  ·rename_i e;subst e;simp [lk]
  ·rename_i e;rw[if_neg e] at h;simp only[lk,if_neg e];exact ih h
theorem del_upd {L:AHeap} {b:Nat} {x:ABlk} : del (upd L b x) b=del L b:=by
 induction L with
 | nil=>rfl
 | cons y r ih =>
  obtain⟨b',y⟩:=y
  simp only[upd,del]
  split
  ·rename_i e;subst e;simp [del]
  ·rename_i e;simp only[del,if_neg e,ih]
theorem zav_rel (z:Value):Rel w A (zav z) z:=by
 cases z with
 | agg cs =>
  refine .agg _ _ (by simp) fun i c u hc hu => ?_
  rw[List.getElem?_map,Array.getElem?_toList,hu] at hc
  cases hc;exact .v _
 | _=>exact .v _
theorem flatten_replicate_get {α:Type} (l:List α) (n i j:Nat) (hi:i<n) (hj:j<l.length):((List.replicate n l).flatten)[i * l.length+j]?=l[j]?:=by
 induction n generalizing i with
 | zero=>omega
 | succ n ih =>
  rw[List.replicate_succ,List.flatten_cons]
  cases i with
  | zero=>rw[Nat.zero_mul,Nat.zero_add,List.getElem?_append_left hj]
  | succ i =>
   have:(i+1) * l.length=i * l.length+l.length:=by rw[Nat.add_mul,Nat.one_mul]
   rw[List.getElem?_append_right (by omega),show (i+1) * l.length+j - l.length=i * l.length+j by omega,ih i (by omega)]
theorem allocRow_ok {t:TypeId} {c:Prop} {k:Nat} {xs:List AV} {cap:Nat} (h:allocRow P t=some (c,k,xs,cap)) (hc:c) (hA:∀b,A b→b<w.heap.size) :
  ∃z:Value,(zeroValue t).run P w = .ok z w∧BlkRel (w.alloc (.cells z.cells t)) A w.heap.size (.row t k xs cap):=by
 unfold allocRow at h
 split at h
 ·rename_i ti hti
  obtain⟨d,inf,z,hd,hinf,hz,rfl⟩:=tinfo_inv hti
  split at h
  ·rename_i n e hk
   split at h
   ·rename_i ei hei
    cases h
    obtain⟨h1,h2,h3⟩:=hc
    refine⟨z,run_zeroValue_i hinf hz,BlkRel.new ⟨fun x hx=>by rw[List.eq_of_mem_replicate hx];exact h2,fun i x j y u hx hy hu => ?_⟩ hA ?_ (by simp) (by simp only[maxLen];exact h3)⟩
    ·have hi:i<cap:=by have:=(List.getElem?_eq_some_iff.1 hx).1;simpa using this
     rw[List.getElem?_replicate,if_pos hi] at hx
     cases hx
     have hj:=h2.lt hy
     have hzc:=zav_cells (w:=w) (A:=A) z
     refine hzc.2 _ _ _ ?_ hu
     rw[h1]
     have:=flatten_replicate_get ei.zero.cells cap i j hi (by rw[h2.1];exact hj)
     rw[h2.1] at this
     rw[this];exact hy
    ·have hzc:=(zav_cells (w:=w) (A:=A) z).1
     rw[h1] at hzc
     simp only[Array.length_toList,List.length_flatten,List.map_replicate,List.sum_replicate_nat] at hzc
     rw[hzc,h2.1]
   ·cases h
  ·cases h
   obtain⟨E,hs⟩:=ElemC.single (zav_rel (w:=w) (A:=A) z) hc.2 hc.1
   exact⟨z,run_zeroValue_i hinf hz,BlkRel.new E hA (by rw[hs];simp) (by simp) (by simp [maxLen])⟩
 ·cases h
theorem ElemC.set {k:Nat} {xs:List AV} {c:Array Value} (h:ElemC w A k xs c.toList) (hs:c.size=xs.length * k) {i:Nat} {x:AV} {u:Value} (hi:i<xs.length) (hx:elOk k x) (hr:Rel w A x u) :
  u.cells.size=k∧i * k+u.cells.size≤c.size∧ElemC w A k (xs.set i x) (layIn c (i * k) u).toList:=by
 obtain⟨hc,ho⟩:=cells_ok hr hx.2
 have hk:u.cells.size=k:=by have:=hc.1;simp at this;rw[this];exact hx.1
 have hfit:i * k+u.cells.size≤c.size:=by
  have:(i+1) * k≤xs.length * k:=Nat.mul_le_mul_right _ hi
  rw[Nat.add_mul] at this;omega
 refine⟨hk,hfit,fun y hy => ?_,fun i' y j z v hy hz hv => ?_⟩
 ·rcases List.mem_or_eq_of_mem_set hy with hy|rfl
  ·exact h.ok y hy
  ·exact hx
 ·rw[Array.getElem?_toList,layIn_get hfit,hk] at hv
  by_cases hii:i'=i
  ·subst hii
   rw[List.getElem?_set_self hi] at hy
   cases hy
   have hj:=hx.lt hz
   rw[if_pos (by omega),show i' * k+j - i' * k=j by omega] at hv
   exact hc.2 _ _ _ hz (by simpa using hv)
  ·rw[List.getElem?_set_ne (Ne.symm hii)] at hy
   have hj:=(h.ok y (List.mem_of_getElem? hy)).lt hz
   have hout:¬(i * k≤i' * k+j∧i' * k+j<i * k+k):=by
    intro ⟨h7,h8⟩
    rcases Nat.lt_or_gt_of_ne hii with h9|h9
    ·have:(i'+1) * k≤i * k:=Nat.mul_le_mul_right _ h9
     rw[Nat.add_mul] at this;omega
    ·have:(i+1) * k≤i' * k:=Nat.mul_le_mul_right _ h9
     rw[Nat.add_mul] at this;omega
   rw[if_neg hout] at hv
   exact h.rel i' y j z v hy hz (by simpa using hv)
theorem fillEl_ok {k:Nat} : ∀(parts:List (Nat × AV)) (partsV:List (Nat × Value)) (xs:List AV) (c:Array Value),partsV.map (·.1)=parts.map (·.1)→Rels w A (parts.map (·.2)) (partsV.map (·.2)) →
  ElemC w A k xs c.toList→c.size=xs.length * k→partsOk xs.length k parts →
  ∃o,Instr.fill (fun i=>some (i * k,k)) c partsV=some o∧ElemC w A k (setAll xs parts) o.toList∧o.size=xs.length * k∧(setAll xs parts).length=xs.length
 | [],partsV,xs,c,h1,h2,E,hs,_=>by
  have:partsV=[]:=by simpa using h1
  subst this
  exact⟨c,rfl,E,hs,rfl⟩
 | (i,x) :: r,partsV,xs,c,h1,h2,E,hs,hp=>by
  cases partsV with
  | nil=>simp at h1
  | cons pv rv =>
  obtain⟨i',u⟩:=pv
  simp only[List.map_cons,List.cons.injEq] at h1
  obtain⟨rfl,h1⟩:=h1
  obtain⟨u',us',e,hu,hr⟩:=Rels.inv_cons h2
  simp only[List.map_cons,List.cons.injEq] at e
  obtain⟨rfl,rfl⟩:=e
  obtain⟨hi,hx,hp⟩:=hp
  obtain⟨hk,hfit,E'⟩:=E.set hs hi hx hu
  obtain⟨o,ho,h3,h4,h5⟩:=fillEl_ok r rv (xs.set i' x) (layIn c (i' * k) u) h1 hr E' (by rw[layIn_size hfit,hs,List.length_set]) (by rw[List.length_set];exact hp)
  rw[List.length_set] at h4 h5
  refine⟨o,?_,h3,h4,h5⟩
  simp only[Instr.fill]
  rw[if_neg (by simp;omega)]
  exact ho
theorem ElemC.made {z:Value} {k:Nat} {ze:AV} (hz:ze=zav z) (ho:elOk k ze) (n:Nat) {c:Array Value} (hc:c=(Array.range (n * k)).map (fun i=>z.cells[i % z.cells.size]!)) :
  ElemC w A k (List.replicate n ze) c.toList∧c.size=n * k:=by
 have hzc:=zav_cells (w:=w) (A:=A) z
 have hzs:z.cells.size=k:=by have:=hzc.1;simp at this;rw[this,← hz];exact ho.1
 subst hc
 refine⟨⟨fun x hx=>by rw[List.eq_of_mem_replicate hx];exact ho,fun i x j y u hx hy hu => ?_⟩,by simp⟩
 have hi:i<n:=by have:=(List.getElem?_eq_some_iff.1 hx).1;simpa using this
 rw[List.getElem?_replicate,if_pos hi] at hx
 cases hx
 have hj:=ho.lt hy
 have hlt:=idx_lt hi hj
 refine hzc.2 j _ _ (by rw[← hz];exact hy) ?_
 rw[Array.getElem?_toList,Array.getElem?_map,Array.getElem?_range,if_pos hlt] at hu
 have hmod:(i * k+j) % k=j:=by rw[Nat.mul_comm,Nat.mul_add_mod,Nat.mod_eq_of_lt hj]
 simp only[Option.map_some,hzs,hmod] at hu
 rw[Array.getElem?_toList,Array.getElem?_eq_getElem (show j<z.cells.size by omega)]
 rw[getElem!_pos z.cells j (by omega)] at hu
 exact hu
theorem run_buildSlice {t e:TypeId} {inf:TypeInfo} {z:Value} (hu:P.underlying t=some (.slice e)) (hinf:P.info? e=some inf) (hz:inf.zero=some z) {len:Nat} (hlim:len * inf.size≤16777216) {parts:Array (Nat × Value)} {oc:Array Value}
  (hf:Instr.fill (fun i=>some (i * inf.size,inf.size)) ((Array.range (len * inf.size)).map (fun i=>z.cells[i % z.cells.size]!)) parts.toList=some oc) :
  (Instr.buildSlice t len parts).run P w = .ok (.slice (some ⟨w.heap.size,0,none⟩) len len) (w.alloc (.cells oc e)):=by
 have hl:¬(len * inf.size > 2 ^ 24):=by omega
 by_cases h0:len * inf.size=0
 ·have e0:∀f:Nat→Value,(Array.range (len * inf.size)).map f = #[]:=fun f=>by rw[h0];simp
  rw[e0] at hf
  simp only[Instr.buildSlice,Sem.run_bind,run_underlying hu,Result.andThen_ok,run_sizeOf_i hinf,if_neg hl,if_pos h0,Sem.run_pure,e0,hf]
  rfl
 ·simp only[Instr.buildSlice,Sem.run_bind,run_underlying hu,Result.andThen_ok,run_sizeOf_i hinf,if_neg hl,if_neg h0,run_zeroValue_i hinf hz,Sem.run_pure,hf]
  rfl
theorem post_mk {w0:World} {M A0:Foot} {N:Nat} {ρ:Env} {a:Act} {ds:List Nat} {K:ARes} (h:StW w0 M A0 N ρ L a w A ds) (hK:K ρ L):post w0 M A0 N K a w:=⟨ρ,L,hK,st_iff.2 ⟨A,ds,h⟩⟩
end
section
variable {C:Cfg} {o:Oper} {ρ:Env} {L:AHeap} {K:ARes}
theorem aAlloc_sound {t:TypeId} (ho:o.op = .alloc t) (hd:dstOk C o) (h:aAlloc C o t ρ L K):AOp C o ρ L K :=
 AOp.of_run (by rw[ho];intro c e;cases e) fun w0 M A0 a w A ds hs=>by
  unfold aAlloc at h
  split at h
  ·rename_i c k xs cap hr
   obtain⟨hc,hK⟩:=h
   obtain⟨z,hz,hB⟩:=allocRow_ok (w:=w) hr hc hs.l.abnd
   refine⟨.value (.pointer (some ⟨w.heap.size,0,none⟩)),w.alloc (.cells z.cells t),?_,.inl ⟨_,rfl,?_⟩⟩
   ·unfold execOp;rw[ho]
    simp [Instr.alloc,hz,newVar,newRow]
   ·have:=(hs.alloc hB).put hd (x:=.lp w.heap.size k 0 0) (v:=.pointer (some ⟨w.heap.size,0,none⟩)) (by have:=Rel.lp (w:=w.alloc (.cells z.cells t)) (A:=A) w.heap.size k 0 0;simpa using this)
    exact post_mk this (hK _ hs.fresh)
  ·exact h.elim
theorem aBox_sound {t:TypeId} {x:Operand} (ho:o.op = .box t x) (hd:dstOk C o) (h:aBox C o t (ev ρ x) ρ L K):AOp C o ρ L K :=
 AOp.of_run (by rw[ho];intro c e;cases e) fun w0 M A0 a w A ds hs=>by
  unfold aBox at h
  split at h
  ·rename_i ti hti
   obtain⟨h1,h2,hK⟩:=h
   have hx:=fo_ok (hs.ev x) h1
   obtain⟨E,hsz⟩:=ElemC.single hx h2.2 h2.1
   have hB:BlkRel (w.alloc (.cells (a.eval x).cells t)) A w.heap.size (.row t ti.size [(fo (ev ρ x)).2] 1):=BlkRel.new E hs.l.abnd (by rw[hsz];simp) (by simp) (by simp [maxLen])
   refine⟨.value (.pointer (some ⟨w.heap.size,0,none⟩)),w.alloc (.cells (a.eval x).cells t),?_,.inl ⟨_,rfl,?_⟩⟩
   ·unfold execOp;rw[ho]
    simp [Instr.box,newVar,newRow]
   ·split at hK
    ·have h3:=hs.allocF (.cells (a.eval x).cells t)
     have h4:=rp_of_blk hB (A':=fun b=>A b∨b=w.heap.size) (.inr rfl) (fun _ h => .inl h) 0 0
     simp only[Nat.zero_mul,Nat.add_zero] at h4
     exact post_mk (h3.put hd h4) hK
    ·have:=(hs.alloc hB).put hd (x:=.lp w.heap.size ti.size 0 0) (v:=.pointer (some ⟨w.heap.size,0,none⟩)) (by have:=Rel.lp (w:=w.alloc (.cells (a.eval x).cells t)) (A:=A) w.heap.size ti.size 0 0;simpa using this)
     exact post_mk this (hK _ hs.fresh)
  ·exact h.elim
theorem aMakeMap_sound {t:TypeId} (ho:o.op = .makeMap t none) (hd:dstOk C o) (h:aMakeMap o ρ L K):AOp C o ρ L K :=
 AOp.of_run (by rw[ho];intro c e;cases e) fun w0 M A0 a w A ds hs=>by
  have hB:BlkRel (w.alloc (.map #[] 0)) A w.heap.size (.amap [] []):=⟨#[],0,World.alloc_heap_new w _,rfl,rfl,by simp,by simp,fun i x e h=>by simp at h⟩
  refine⟨.value (.map (some w.heap.size)),w.alloc (.map #[] 0),?_,.inl ⟨_,rfl,?_⟩⟩
  ·unfold execOp;rw[ho]
   simp [Instr.makeMap]
  ·exact post_mk ((hs.alloc hB).put hd (.lm _)) (h _ hs.fresh)
theorem aBuildSlice_sound {t:TypeId} {len:Nat} {parts:Array (Nat × Operand)} (ho:o.op = .buildSlice t len parts) (hd:dstOk C o) (h:aBuildSlice C o t len (parts.toList.map fun p=>(p.1,ev ρ p.2)) ρ L K):AOp C o ρ L K :=
 AOp.of_run (by rw[ho];intro c e;cases e) fun w0 M A0 a w A ds hs=>by
  unfold aBuildSlice at h
  split at h
  ·rename_i e _ _ _ hti
   split at h
   ·rename_i ei hei
    obtain⟨h1,h2,h3,h4,h5,hK⟩:=h
    obtain⟨d2,inf2,z2,hd2,hinf2,hz2,rfl⟩:=tinfo_inv hei
    dsimp only at *
    have hu:=tinfo_slice hti
    generalize hc0:(Array.range (len * inf2.size)).map (fun i=>z2.cells[i % z2.cells.size]!)=c0
    obtain⟨E,hcs⟩:=ElemC.made (w:=w) (A:=A) (z:=z2) rfl h4 len hc0.symm
    have hh:=fos_ok (w:=w) (A:=A) hs.ev (parts.toList.map (·.2)) (by simpa [List.map_map,Function.comp_def] using h1)
    obtain⟨oc,hf,E',hsz,hlen⟩:=fillEl_ok (w:=w) (A:=A) (k:=inf2.size) (parts.toList.map fun p=>(p.1,(fo (ev ρ p.2)).2)) (parts.map fun p=>(p.1,a.eval p.2)).toList (List.replicate len (zav z2)) c0
     (by simp [List.map_map,Function.comp_def]) (by simpa [List.map_map,Function.comp_def] using hh) E (by simpa using hcs) (by simpa [List.map_map,Function.comp_def] using h5)
    simp only[List.length_replicate] at hsz hlen
    have hxs:(setAll (List.replicate len (zav z2)) ((parts.toList.map fun p=>(p.1,ev ρ p.2)).map fun p=>(p.1,(fo p.2).2)))=setAll (List.replicate len (zav z2)) (parts.toList.map fun p=>(p.1,(fo (ev ρ p.2)).2)):=by
     simp [List.map_map,Function.comp_def]
    rw[hxs] at hK
    generalize setAll (List.replicate len (zav z2)) (parts.toList.map fun p=>(p.1,(fo (ev ρ p.2)).2))=xs at *
    have hml:len≤maxLen:=by
     have:len * 1≤len * inf2.size:=Nat.mul_le_mul_left _ h3
     simp only[maxLen];omega
    have hB:BlkRel (w.alloc (.cells oc e)) A w.heap.size (.row e inf2.size xs len):=BlkRel.new E' hs.l.abnd hsz (by omega) hml
    refine⟨.value (.slice (some ⟨w.heap.size,0,none⟩) len len),w.alloc (.cells oc e),?_,.inl ⟨_,rfl,?_⟩⟩
    ·unfold execOp;rw[ho]
     subst hc0
     have hr:=run_buildSlice (P:=C.P) (w:=w) hu hinf2 hz2 h2 hf
     simp only[Sem.run_bind,hr,Result.andThen_ok]
     rfl
    ·split at hK
     ·have h3:=hs.allocF (.cells oc e)
      have h4:=sl_of_blk hB (A':=fun b=>A b∨b=w.heap.size) (.inr rfl) (fun _ h => .inl h) (off:=0) (n:=len) (cap':=len) (o:=0) (by omega) (Nat.le_refl _) hml (.inl (by simp))
      rw[List.drop_zero,List.take_of_length_le (by omega)] at h4
      exact post_mk (h3.put hd h4) hK
     ·exact post_mk ((hs.alloc hB).put hd (.ls _ _ _ _ _ _ (Nat.le_refl _) hml (.inl (by simp)))) (hK _ hs.fresh)
   ·exact h.elim
  ·exact h.elim
theorem aMakeSlice_sound {t:TypeId} {l c:Operand} (ho:o.op = .makeSlice t l c) (hd:dstOk C o) (h:aMakeSlice C o t (ev ρ l) (ev ρ c) ρ L K):AOp C o ρ L K :=
 AOp.of_run (by rw[ho];intro c e;cases e) fun w0 M A0 a w A ds hs=>by
  unfold aMakeSlice at h
  split at h
  ·rename_i e _ _ _ kl ll kc cc hti hl hc
   split at h
   ·rename_i ei hei
    obtain⟨⟨f1,f2⟩,h1,h2,h3,h4,h5,h6,hK⟩:=h
    have rl:=fo_ok (hs.ev l) f1;rw[hl] at rl;have rl:=rl.inv_v
    have rc:=fo_ok (hs.ev c) f2;rw[hc] at rc;have rc:=rc.inv_v
    obtain⟨d2,inf2,z2,hd2,hinf2,hz2,rfl⟩:=tinfo_inv hei
    dsimp only at *
    have hr:=run_make (P:=C.P) w t e inf2 z2 (tinfo_slice hti) hinf2 hz2 kl kc ll cc h1 h2 h3 h4
    obtain⟨E,hcs⟩:=ElemC.made (w:=w) (A:=A) (z:=z2) rfl h6 cc.toNat rfl
    have E2:=E.take ll.toNat
    rw[List.take_replicate,Nat.min_eq_left (by omega)] at E2
    have E3:ElemC w A inf2.size (List.replicate ll.toNat (zav z2)) (madeCells z2.cells (cc.toNat * inf2.size)).toList:=by
     refine⟨E2.ok,fun i x j y u hx hy hu => ?_⟩
     have hi:i<ll.toNat:=by have:=(List.getElem?_eq_some_iff.1 hx).1;simpa using this
     refine E.rel i x j y u ?_ hy hu
     rw[List.getElem?_replicate,if_pos hi] at hx
     rw[List.getElem?_replicate,if_pos (by omega)];exact hx
    have hm:cc.toNat≤maxLen:=by simp only[maxLen];omega
    have hB:BlkRel (w.alloc (.cells (madeCells z2.cells (cc.toNat * inf2.size)) e)) A w.heap.size (.row e inf2.size (List.replicate ll.toNat (zav z2)) cc.toNat) :=
     BlkRel.new E3 hs.l.abnd hcs (by simp;omega) hm
    refine⟨.value (.slice (some ⟨w.heap.size,0,none⟩) ll.toNat cc.toNat),w.alloc (.cells (madeCells z2.cells (cc.toNat * inf2.size)) e),?_,.inl ⟨_,rfl,?_⟩⟩
    ·unfold execOp;rw[ho]
     dsimp only
     rw[rl,rc]
     simp [hr]
    ·split at hK
     ·have h3:=hs.allocF (.cells (madeCells z2.cells (cc.toNat * inf2.size)) e)
      have h4:=sl_of_blk hB (A':=fun b=>A b∨b=w.heap.size) (.inr rfl) (fun _ h => .inl h) (off:=0) (n:=ll.toNat) (cap':=cc.toNat) (o:=0) (by simp) (by omega) hm (.inl (by simp))
      rw[List.drop_zero,List.take_of_length_le (by simp)] at h4
      exact post_mk (h3.put hd h4) hK
     ·exact post_mk ((hs.alloc hB).put hd (.ls _ _ _ _ _ _ (by omega) hm (.inl (by simp)))) (hK _ hs.fresh)
   ·exact h.elim
  ·exact h.elim
theorem aStore_sound {t:TypeId} {p x:Operand} (ho:o.op = .store t p x) (hd:dstOk C o) (h:aStore C o t p (ev ρ x) ρ L K):AOp C o ρ L K :=
 AOp.of_run (by rw[ho];intro c e;cases e) fun w0 M A0 a w A ds hs=>by
  unfold aStore at h
  split at h
  ·rename_i ti b k i j hti hp
   split at h
   ·rename_i t' k' xs cap hlk
    obtain⟨hfp,hfx,rfl,h1,h2,h3,h4,h5,hK⟩:=h
    have rp0:=fo_ok (hs.ev p) hfp
    rw[hp] at rp0
    have rp:=rp0.inv_lp
    clear rp0
    have rx:=fo_ok (hs.ev x) hfx
    have hm:=lk_mem hlk
    obtain⟨w',hrun,g1,g2,g3,g4,g5,g6,hB⟩:=store_ok' hti (hs.l.lk hlk) h1 h2 h3 h4 h5 rx (hs.l.disj _ hm)
    have hs':=hs.set hlk g1 g2 g3 g4 g5 g6 hB
    refine⟨.skip,w',?_,.inr ⟨rfl,?_⟩⟩
    ·unfold execOp;rw[ho]
     dsimp only
     rw[rp]
     simp [hrun]
    ·have hput:=hs'.put hd (x:=.any) (v:=undef) (.any _)
     split at hK
     ·rename_i s
      split at hK
      ·rename_i hz
       simp only[Bool.and_eq_true,decide_eq_true_eq] at hz
       have hlt:b<w'.heap.size:=hB.lt
       have hfr:LRel w' (fun q=>A q∨q=b) (del L b):=by
        have:=hs'.l.freeze (b:=b) hlt
        rwa [del_upd] at this
       have hs2:StW w0 M A0 C.N (put ρ o.dst .any) (del L b) (a.put o.dst undef) w' (fun q=>A q∨q=b) ds :=
        hput.advance (Fr.refl _ _) (fun _ h => .inl h) (fun q hq=>hq.imp id (fun e => .inl ⟨_,lk_mem (lk_upd hlk),e.symm⟩)) hfr (fun y hy => .inl (by
         have hy':=(mem_del hs.l.nodup hy).1
         have:y.1 ∈ (upd L b (.row t' k' (stXs ti k' xs i j (fo (ev ρ x)).2) cap)).map (·.1):=by rw[upd_keys];exact List.mem_map_of_mem hy'
         obtain⟨z,hz,e⟩:=List.mem_map.1 this
         exact⟨z,hz,e⟩))
       refine post_mk (A:=fun q=>A q∨q=b) (ds:=ds) ?_ hK
       refine { hs2 with env:=fun q => ?_ }
       simp only[get]
       by_cases hq:q=s
       ·subst hq
        rw[if_pos rfl]
        have e1:(a.put o.dst undef).tmps.getD q undef = .pointer (some ⟨b,i * k'+j,none⟩):=by
         have hsd:o.dst ≠ some q:=hz.2
         have:(a.put o.dst undef).tmps.getD q undef=a.tmps.getD q undef:=by
          cases hdd:o.dst with
          | none=>rfl
          | some d =>
           have hne:d ≠ q:=fun e=>hsd (by rw[hdd,e])
           simp [Act.put,Array.getD_eq_getD_getElem?,Array.getElem?_setIfInBounds_ne hne]
         rw[this];exact rp
        rw[e1]
        exact rp_of_blk hB (A':=fun q=>A q∨q=b) (Or.inr rfl) (fun _ h=>Or.inl h) i j
       ·rw[if_neg hq];exact hs2.env q
      ·exact post_mk hput hK
     ·exact post_mk hput hK
   ·exact h.elim
  ·exact h.elim
theorem StW.anew {w0:World} {M A0:Foot} {N:Nat} {a:Act} {w:World} {A:Foot} {ds:List Nat} (h:StW w0 M A0 N ρ L a w A ds) {e:TypeId} {k:Nat} {xs:List AV} {c:Array Value} {cap:Nat} (E:ElemC w A k xs c.toList) (hc:c.size=cap * k)
  (hl:xs.length≤cap) (hm:cap≤maxLen):StW w0 M A0 N ρ ((w.heap.size,.row e k xs cap) :: L) a (w.drew.alloc (.cells c e)) A ds :=
 h.drew.alloc (w:=w.drew) (BlkRel.new (w:=w.drew) (E.later (fun _ _=>rfl) (fun _ h=>h)) h.drew.l.abnd hc hl hm)
theorem aAppend_sound {t:TypeId} {s x:Operand} {cl:Call} (ho:o.op = .call cl) (h0:cl.callee = .builtin .append) (ha:cl.args.toList=[s,x]) (ht:cl.argTypes.toList=[t,t]) (hd:dstOk C o) (h:aAppend C o t (ev ρ s) (ev ρ x) ρ L K):AOp C o ρ L K :=
 AOp.of_run (by rw[ho];intro c e;cases e) fun w0 M A0 a w A ds hs=>by
  obtain⟨callee,args,argTypes⟩:=cl
  dsimp only at h0 ha ht
  subst h0
  obtain rfl:=arr_two ha
  obtain rfl:=arr_two ht
  have lift:∀ {u:Value} {w'},(Builtin.append_ #[t,t] o.type #[a.eval s,a.eval x]).run C.P w = .ok u w'→(execOp a.eval o).run C.P w = .ok (.value u) w':=fun {u w'} h=>by
   unfold execOp;rw[ho]
   simp [resolve,invoke,builtin,h]
  unfold aAppend at h
  split at h
  ·rename_i e _ _ _ hti
   split at h
   ·rename_i ei hei
    split at h
    ·rename_i cs ys hsrc
     obtain⟨h1,h2,h3,h4,h5,hK⟩:=h
     have rs:=fo_ok (hs.ev s) h1
     have rx:=fo_ok (hs.ev x) h2
     obtain⟨news,S⟩:=srcOf_ok hsrc h3 hs.l rx h5
     have general:∀(b k off len cap:Nat) (xs:List AV) (capb:Nat),(fo (ev ρ s)).2 = .ls b k off len cap→lk L b=some (.row e ei.size xs capb)→k=ei.size→off+len≤xs.length→off+cap≤capb→AppOk (len+ys.length) ei.bytes →
       (len+ys.length≤cap→K (put ρ o.dst (.ls b ei.size off (len+ys.length) cap)) (upd L b (.row e ei.size (xs.take (off+len) ++ ys) capb)) ∨
        (off=0∧cap=capb∧K (put ρ o.dst (.ls b ei.size 0 (len+ys.length) cap)) ((b,.row e ei.size (xs.take len ++ ys) cap) :: del L b))) →
       (∀b' cap',fresh L b'→len+ys.length≤cap'→K (put ρ o.dst (.ls b' ei.size 0 (len+ys.length) cap')) ((b',.row e ei.size ((xs.drop off).take len ++ ys) cap') :: del L b)) →
       ∃nx w',(execOp a.eval o).run C.P w = .ok nx w'∧((∃v,nx = .value v∧post w0 M A0 C.N K (a.put o.dst v) w')∨(nx = .skip∧post w0 M A0 C.N K (a.put o.dst undef) w')):=by
      intro b k off len cap xs capb hsv hlk hk hx hcb hap hin hnew
      subst hk
      rw[hsv] at rs
      obtain⟨oo,hsa,hle,hcm,hoo⟩:=rs.inv_ls
      have hm:=lk_mem hlk
      have hbk:=hs.l.lk hlk
      rcases append_ok (ty:=o.type) hti hei h4.1 h5 S hbk (hs.l.disj _ hm) hle hoo hx hcb hap with ⟨hroom,w',hr,g1,g2,g3,g4,g5,g6,hB⟩|⟨c,cap',hr,hl,hcm',hsz,E⟩
      ·rw[← hsa] at hr
       refine⟨_,w',lift hr,.inl ⟨_,rfl,?_⟩⟩
       rcases hin hroom with hK'|⟨rfl,rfl,hK'⟩
       ·exact post_mk ((hs.set hlk g1 g2 g3 g4 g5 g6 hB).put hd (.ls _ _ _ _ _ _ hroom hcm hoo)) hK'
       ·-- the block,told first and only as far as its slice reaches
        have hs1:=hs.set hlk g1 g2 g3 g4 g5 g6 hB
        have hB2:BlkRel w' A b (.row e ei.size (xs.take len ++ ys) cap):=by simpa using hB
        have hs2:StW w0 M A0 C.N ρ ((b,.row e ei.size (xs.take len ++ ys) cap) :: del L b) a w' A ds:=by
         refine hs1.advance (Fr.refl _ _) (fun _ h=>h) (fun _ h => .inl h) ?_ ?_
         ·have hsub:=hs1.l.sub (del_sub _ b)
          rw[del_upd] at hsub
          refine⟨hsub.abnd,fun y hy => ?_,?_,fun y hy => ?_,hsub.glob⟩
          ·rcases List.mem_cons.1 hy with rfl|hy
           ·exact fun hb=>hs.l.disj _ hm hb
           ·exact hsub.disj y hy
          ·simp only[List.map_cons,List.nodup_cons]
           refine⟨fun hc => ?_,hsub.nodup⟩
           obtain⟨z,hz,e⟩:=List.mem_map.1 hc
           exact(mem_del hs.l.nodup hz).2 e
          ·rcases List.mem_cons.1 hy with rfl|hy
           ·exact hB2
           ·exact hsub.blk y hy
         ·intro y hy
          refine .inl ?_
          rcases List.mem_cons.1 hy with rfl|hy
          ·exact⟨_,lk_mem (lk_upd hlk),rfl⟩
          ·have:y.1 ∈ (upd L b (.row e ei.size (xs.take (0+len) ++ ys) cap)).map (·.1):=by rw[upd_keys];exact List.mem_map_of_mem (mem_del hs.l.nodup hy).1
           obtain⟨z,hz,e⟩:=List.mem_map.1 this
           exact⟨z,hz,e⟩
        exact post_mk (hs2.put hd (.ls _ _ _ _ _ _ hroom hcm hoo)) hK'
      ·rw[← hsa] at hr
       refine⟨_,_,lift hr,.inl ⟨_,rfl,?_⟩⟩
       have hlen:((xs.drop off).take len ++ ys).length=len+ys.length:=by simp;omega
       have h6:=(hs.sub (del_sub L b)).anew (e:=e) E hsz (by rw[hlen];exact hl) hcm'
       exact post_mk (h6.put hd (.ls _ _ _ _ _ _ hl hcm' (.inl (by simp)))) (hnew _ _ hs.fresh hl)
     split at hK
     ·rename_i hsv
      obtain⟨hap,hn,hne⟩:=hK
      rw[hsv] at rs
      have hsa:=rs.inv_v
      rcases append_nil_ok (w:=w) (A:=A) (ty:=o.type) hti hei h4.1 h5 S hap with ⟨hy,hr⟩|⟨hy,c,cap',hr,hl,hcm,hsz,E⟩
      ·rw[← hsa] at hr
       exact⟨_,_,lift hr,.inl ⟨_,rfl,post_mk (hs.put hd (x:=anil) (v:=a.eval s) (by rw[hsa];exact .v _)) (hn hy)⟩⟩
      ·rw[← hsa] at hr
       exact⟨_,_,lift hr,.inl ⟨_,rfl,post_mk ((hs.anew (e:=e) E hsz hl hcm).put hd (.ls _ _ _ _ _ _ hl hcm (.inl (by simp)))) (hne hy _ _ hs.fresh hl)⟩⟩
     ·rename_i b k len cap hsv
      split at hK
      ·rename_i t' k2 xs capb hlk
       obtain⟨g1,rfl,rfl,g4,g5,g6,g7⟩:=hK
       refine general b k 0 len cap xs capb hsv hlk g1 (by omega) (by omega) g6 (fun hroom => .inr ⟨rfl,g5,g7 b cap (apart_of fun y hy=>(mem_del hs.l.nodup hy).2) hroom⟩) (fun b' cap' hf hl => ?_)
       rw[List.drop_zero]
       refine g7 b' cap' (apart_of fun y hy => ?_) hl
       have hfr:∀(L:AHeap),AL.fresh L b'→∀y ∈ L,y.1<b':=fun L=>by
        induction L with
        | nil=>intro _ y hy;cases hy
        | cons x r ih =>
         intro hf y hy
         rcases List.mem_cons.1 hy with rfl|hy
         ·exact hf.1
         ·exact ih hf.2 y hy
       exact Nat.ne_of_lt (hfr L hf y (mem_del hs.l.nodup hy).1)
      ·exact hK.elim
     ·rename_i b k off len cap _ hsv
      split at hK
      ·rename_i t' k2 xs capb hlk
       obtain⟨g1,rfl,rfl,g4,g5,g6,g7,g8⟩:=hK
       exact general b k off len cap xs capb hsv hlk g1 g4 g5 g6 (fun hroom => .inl (g7 hroom)) g8
      ·exact hK.elim
     ·exact hK.elim
    ·exact h.elim
   ·exact h.elim
  ·exact h.elim
theorem aCopy_sound {t t':TypeId} {s x:Operand} {cl:Call} (ho:o.op = .call cl) (h0:cl.callee = .builtin .copy) (ha:cl.args.toList=[s,x]) (ht:cl.argTypes.toList=[t,t']) (hd:dstOk C o) (h:aCopy C o t (ev ρ s) (ev ρ x) ρ L K):AOp C o ρ L K :=
 AOp.of_run (by rw[ho];intro c e;cases e) fun w0 M A0 a w A ds hs=>by
  obtain⟨callee,args,argTypes⟩:=cl
  dsimp only at h0 ha ht
  subst h0
  obtain rfl:=arr_two ha
  obtain rfl:=arr_two ht
  unfold aCopy at h
  split at h
  ·rename_i e _ _ _ hti
   split at h
   ·rename_i ei hei
    split at h
    ·rename_i cs ys hsrc
     obtain⟨h1,h2,h3,h5,hK⟩:=h
     have rs:=fo_ok (hs.ev s) h1
     have rx:=fo_ok (hs.ev x) h2
     obtain⟨news,S⟩:=srcOf_ok hsrc h3 hs.l rx h5
     split at hK
     ·rename_i b k off len cap hsv
      split at hK
      ·rename_i t2 k2 xs capb hlk
       obtain⟨rfl,rfl,g3,hK⟩:=hK
       rw[hsv] at rs
       obtain⟨oo,hsa,hle,hcm,hoo⟩:=rs.inv_ls
       obtain⟨w',hr,g1,g2,g4,g5,g6,g7,hB⟩:=copy_ok (u':=t') (ty:=o.type) hti hei h5 S (hs.l.lk hlk) (hs.l.disj _ (lk_mem hlk)) hle hoo g3
       rw[← hsa] at hr
       refine⟨_,w',?_,.inl ⟨_,rfl,post_mk ((hs.set hlk g1 g2 g4 g5 g6 g7 hB).put hd (.v _)) hK⟩⟩
       unfold execOp;rw[ho]
       simp [resolve,invoke,builtin,hr]
      ·exact hK.elim
     ·exact hK.elim
    ·exact h.elim
   ·exact h.elim
  ·exact h.elim
theorem aGrow_sound {t t':TypeId} {s x:Operand} {cl:Call} (ho:o.op = .call cl) (h0:cl.callee = .builtin .append) (ha:cl.args.toList=[s,x]) (ht:cl.argTypes.toList=[t,t']) (hd:dstOk C o) (h:aGrow C o t t' (ev ρ s) (ev ρ x) ρ L K):AOp C o ρ L K :=
 AOp.of_run (by rw[ho];intro c e;cases e) fun w0 M A0 a w A ds hs=>by
  obtain⟨callee,args,argTypes⟩:=cl
  dsimp only at h0 ha ht
  subst h0
  obtain rfl:=arr_two ha
  obtain rfl:=arr_two ht
  unfold aGrow at h
  split at h
  ·rename_i e _ _ _ kn _ _ _ kx n hti htn hsv hxv
   split at h
   ·rename_i ei hei
    obtain⟨h1,h2,h3,h4,h5,h6,h7,hK⟩:=h
    have rs:=fo_ok (hs.ev s) h1
    rw[hsv] at rs
    have hsa:=rs.inv_v
    have rx:=fo_ok (hs.ev x) h2
    rw[hxv] at rx
    have hxa:=rx.inv_v
    obtain⟨d2,inf2,z2,hd2,hinf2,hz2,rfl⟩:=tinfo_inv hei
    dsimp only at *
    have hzs:z2.cells.size=inf2.size:=by have:=(zav_cells (w:=w) (A:=A) z2).1;simp at this;rw[this];exact h7.1
    have hn:((n.toNat:Nat):Int)=n:=by omega
    have hr:=Lib.run_append_nil_zeros (P:=C.P) w t t' o.type e inf2 z2 kx kn (tinfo_slice hti) (tinfo_int htn) hinf2 hz2 n.toNat (by omega) h6 (by omega) (by omega)
    rw[hn] at hr
    have hge:=grownCap_ge w n.toNat 0 e
    obtain⟨E,_⟩:=ElemC.made (w:=w) (A:=A) (z:=z2) rfl h7 n.toNat (c:=Builtin.zeroCells z2.cells n.toNat) (by rw[Builtin.zeroCells,hzs])
    have E2:ElemC w A inf2.size (List.replicate n.toNat (zav z2)) (Builtin.zeroCells z2.cells n.toNat ++ Builtin.zeroCells z2.cells (grownCap w n.toNat 0 e - n.toNat)).toList:=by
     rw[Array.toList_append]
     exact E.tail _ (by rw[List.length_replicate,Array.length_toList,size_zeros z2 hzs];exact Nat.le_refl _)
    have hsz:(Builtin.zeroCells z2.cells n.toNat ++ Builtin.zeroCells z2.cells (grownCap w n.toNat 0 e - n.toNat)).size=grownCap w n.toNat 0 e * inf2.size:=by
     rw[Array.size_append,size_zeros z2 hzs,size_zeros z2 hzs,← Nat.add_mul];congr 1;omega
    have hcm:=grownCap_le_maxLen w n.toNat 0 e (by simp only[maxLen];omega)
    refine⟨_,_,?_,.inl ⟨_,rfl,post_mk ((hs.anew (e:=e) E2 hsz (by rw[List.length_replicate];exact hge) hcm).put hd (.ls _ _ _ _ _ 0 hge hcm (.inl (by simp)))) (hK _ _ hs.fresh hge)⟩⟩
    unfold execOp;rw[ho]
    simp [resolve,invoke,builtin,hsa,hxa,hr]
   ·exact h.elim
  ·exact h.elim
theorem aClear_sound {t:TypeId} {s:Operand} {cl:Call} (ho:o.op = .call cl) (h0:cl.callee = .builtin .clear) (ha:cl.args.toList=[s]) (ht:cl.argTypes.toList=[t]) (hd:dstOk C o) (h:aClear C o t (ev ρ s) ρ L K):AOp C o ρ L K :=
 AOp.of_run (by rw[ho];intro c e;cases e) fun w0 M A0 a w A ds hs=>by
  obtain⟨callee,args,argTypes⟩:=cl
  dsimp only at h0 ha ht
  subst h0
  obtain rfl:args = #[s]:=by rw[← Array.toArray_toList (xs:=args),ha]
  obtain rfl:argTypes = #[t]:=by rw[← Array.toArray_toList (xs:=argTypes),ht]
  unfold aClear at h
  split at h
  ·rename_i e _ _ _ hti
   split at h
   ·rename_i ei hei
    obtain⟨h1,h5,h6,hK⟩:=h
    have rs:=fo_ok (hs.ev s) h1
    split at hK
    ·rename_i b k off len cap hsv
     split at hK
     ·rename_i t2 k2 xs capb hlk
      obtain⟨rfl,rfl,g3,hK⟩:=hK
      rw[hsv] at rs
      obtain⟨oo,hsa,hle,hcm,hoo⟩:=rs.inv_ls
      obtain⟨w',hr,g1,g2,g4,g5,g6,g7,hB⟩:=clear_ok (ty:=o.type) hti hei h5 h6 (hs.l.lk hlk) (hs.l.disj _ (lk_mem hlk)) hle hoo g3 fun {z} hz hzs =>
       (ElemC.made hz h6 len (c:=Builtin.zeroCells z.cells len) (by rw[Builtin.zeroCells,hzs])).1
      rw[← hsa] at hr
      refine⟨_,w',?_,.inl ⟨_,rfl,post_mk ((hs.set hlk g1 g2 g4 g5 g6 g7 hB).put hd (.tup [] #[] rfl (by simp))) hK⟩⟩
      unfold execOp;rw[ho]
      simp [resolve,invoke,builtin,hr]
     ·exact hK.elim
    ·exact hK.elim
   ·exact h.elim
  ·exact h.elim
theorem callsIn_fw {n:Nat} {P:Program} {f:FuncId} {args:Array Value} {w:World} {R:Ending→World→Prop} (r:Option Nat) (h:CallsIn Fence.wide n P f args w R):CallsIn (Fw r) n P f args w R:=h
theorem roundIn_fw {n:Nat} {P:Program} {l:Nat} {f:FuncId} {tmps:Array Value} {assign body:Code} {w:World} {R:Ending→World→Prop} (r:Option Nat) (h:RoundIn Fence.wide n P l f tmps assign body w R):RoundIn (Fw r) n P l f tmps assign body w R:=h
theorem StW.behind {w0:World} {M A0:Foot} {N:Nat} {a:Act} {w:World} {A:Foot} {ds:List Nat} (h:StW w0 M A0 N ρ L a w A ds) {K:AV→AHeap→Prop} {e:Ending} {w':World} (hp:cpost w A L K e w') :
  ∃v r L' A',e = .returned v∧K r L'∧StW w0 M A0 N ρ L' a w' A' ds∧Rel w' A' r v:=by
 obtain⟨v,r,L',A',he,hK,hf,hA',hL,hk,hr⟩:=hp
 have keep:∀b,A b→w'.heap[b]?=w.heap[b]?:=fun b hb=>hf.block b (h.l.abnd b hb) (fun ⟨x,hx,e⟩=>h.l.disj x hx (e ▸ hb))
 refine⟨v,r,L',fun b=>A b∨A' b,he,hK,h.advance hf (fun _ h => .inl h) (fun b hb => ?_) ⟨fun b hb => ?_,fun y hy hb => ?_,hL.nodup,fun y hy=>(hL.blk y hy).later rfl (fun _ _=>rfl) (fun _ h => .inr h),hL.globL (fun _ _=>rfl) fun _ h => .inr h⟩ hk,
  hr.later (fun _ _=>rfl) (fun _ h => .inr h)⟩
 ·rcases hb with hb|hb
  ·exact .inl hb
  ·exact hA' b hb
 ·rcases hb with hb|hb
  ·exact Nat.lt_of_lt_of_le (h.l.abnd b hb) hf.size
  ·exact hL.abnd b hb
 ·rcases hb with hb|hb
  ·rcases hk y hy with ⟨x,hx,e⟩|h5
   ·exact h.l.disj x hx (e ▸ hb)
   ·have:=h.l.abnd _ hb;omega
  ·exact hL.disj y hy hb
theorem aCall_sound {g:Operand} {cl:Call} (ho:o.op = .call cl) (h0:cl.callee = .value g) (hd:dstOk C o) (h:(fo (ev ρ g)).1∧fos (cl.args.toList.map (ev ρ)) ∧
  MVal C.P (fo (ev ρ g)).2 (cl.args.toList.map fun x=>(fo (ev ρ x)).2) L fun r L'=>K (put ρ o.dst r) L'):AOp C o ρ L K:=by
 intro n w0 M A0 a w Qx hs
 obtain⟨A,ds,hs⟩:=st_iff.1 hs
 obtain⟨h1,h2,h3⟩:=h
 have hm:=h3 (n - 1) w A (a.eval g) (cl.args.toList.map a.eval) hs.l (fo_ok (hs.ev g) h1) (fos_ok hs.ev _ h2)
 refine⟨fun f _=>trivial,?_⟩
 rw[Oper.semAt_eq _ _ _ (by rw[ho];intro c e;cases e)]
 unfold FCall at hm
 have done:∀e w',cpost w A L (fun r L'=>K (put ρ o.dst r) L') e w'→∃v,e = .returned v∧post w0 M A0 C.N K (a.put o.dst v) w':=fun e w' hp=>by
  obtain⟨v,r,L',A',he,hK,hs',hr⟩:=hs.behind hp
  exact⟨v,he,post_mk (hs'.put hd hr) hK⟩
 split at hm
 ·rename_i f first cap hg
  obtain⟨rfl,hen,hc⟩:=hm
  have hrun:(execOp a.eval o).run C.P w = .ok (.enter f ((cl.args.toList.map a.eval).toArray ++ cap)) w:=by
   unfold execOp;rw[ho]
   have hen':=hen ((cl.args.toList.map a.eval).toArray ++ cap) w
   rw[← List.map_toArray,Array.toArray_toList] at hen'
   rw[← List.map_toArray,Array.toArray_toList]
   simp [resolve,h0,hg,Deferred.ofValue,invoke,hen']
  rw[hrun,Oper.uponIn_enter]
  refine⟨fun hh=>by simp [Fw,Fence.wide] at hh,callsIn_fw _ (hc.mono fun e w' hp => ?_)⟩
  obtain⟨v,rfl,hq⟩:=done e w' hp
  exact hq
 ·rename_i l first cap hg
  obtain⟨rfl,rfl,fn,tmps,assign,body,hy,hc⟩:=hm
  have hrun:(execOp a.eval o).run C.P w = .ok (.round l fn tmps assign body) w:=by
   unfold execOp;rw[ho]
   have hy':=hy
   rw[← List.map_toArray,Array.toArray_toList] at hy'
   simp [resolve,h0,hg,Deferred.ofValue,invoke,hy']
  rw[hrun,Oper.uponIn_round]
  refine⟨fun hh=>by simp [Fw,Fence.wide] at hh,roundIn_fw _ (hc.mono fun e w' hp => ?_)⟩
  obtain⟨v,rfl,hq⟩:=done e w' hp
  exact hq
 ·exact hm.elim
theorem aNilCmp_sound {op:BinOp} {t t':TypeId} {x y:Operand} (ho:o.op = .binOp op t x y t') (hd:dstOk C o) (h:aNilCmp C o op t (ev ρ x) (ev ρ y) ρ L K):AOp C o ρ L K:=by
 unfold aNilCmp at h
 split at h
 ·rename_i k xs e _ _ _ hx hy hti
  have hu:=tinfo_slice hti
  have main:∀(f:Bool→Bool),((op = .eql∧f=id)∨(op = .neq∧f=not))→(∀b,(xs ≠ []→b=false)→K (put ρ o.dst (ab (f b))) L)→AOp C o ρ L K:=fun f hf hK =>
   AOp.of_run (fun c e=>by rw[ho] at e;cases e) fun w0 M A0 a w A ds hs=>by
    have rx:=hs.ev x;rw[hx] at rx
    have ry:=hs.ev y;rw[hy] at ry
    have ry:=ry.inv_v
    have hval:∃a0 n m,a.eval x = .slice a0 n m∧(xs ≠ []→a0.isNone=false):=by
     generalize a.eval x=u at rx
     cases rx with
     | sl0 _ a0 cap hc=>exact⟨_,_,_,rfl,fun h=>absurd rfl h⟩
     | sl _ _ b off cap=>exact⟨_,_,_,rfl,fun _=>rfl⟩
    obtain⟨a0,n,m,e,hne⟩:=hval
    refine⟨_,w,?_,.inl ⟨.bool (f a0.isNone),rfl,_,_,hK _ hne,st_iff.2 ⟨A,ds,hs.put hd (.v _)⟩⟩⟩
    unfold execOp
    rw[ho]
    rcases hf with ⟨rfl,rfl⟩|⟨rfl,rfl⟩
    ·simp [e,ry,eqGuard_slice,binOp,equal_slice_nil hu]
    ·simp [e,ry,eqGuard_slice,binOp,equal_slice_nil hu]
  split at h
  ·exact main id (.inl ⟨rfl,rfl⟩) h
  ·exact main not (.inr ⟨rfl,rfl⟩) h
  ·exact h
 ·exact h
theorem modify_keys {es:Array MapEntry} {i:Nat} {e:MapEntry} (he:es[i]?=some e) (v:Value):(es.modify i fun e' => { e' with key:=e.key,val:=v }).toList.map (·.key)=es.toList.map (·.key):=by
 apply List.ext_getElem?
 intro j
 simp only[List.getElem?_map,Array.getElem?_toList,Array.getElem?_modify]
 split
 ·rename_i e2;subst e2;rw[he];rfl
 ·rfl
theorem aMapUpdate_sound {t:TypeId} {m k x:Operand} (ho:o.op = .mapUpdate t m k x∨o.op = .insert t m k x) (hd:dstOk C o) (h:aMapUpdate C o t (ev ρ m) (ev ρ k) (ev ρ x) ρ L K):AOp C o ρ L K :=
 AOp.of_run (fun c e=>by rcases ho with ho|ho <;> (rw[ho] at e;cases e)) fun w0 M A0 a w A ds hs=>by
  unfold aMapUpdate at h
  split at h
  ·rename_i b kt _ _ _ _ kv hm hti hkv
   split at h
   ·rename_i ks vs κ hlk hκ
    obtain⟨h1,h2,h3,h4,h5,hK⟩:=h
    have rm:=fo_ok (hs.ev m) h1;rw[hm] at rm
    have rk:=flatV_ok hkv (fo_ok (hs.ev k) h2)
    have rx:=fo_ok (hs.ev x) h3
    have hu:=tinfo_map hti
    obtain⟨es,clock,g1,g2,g3,g4,g5,g6⟩:=hs.l.lk hlk
    have hmv:a.eval m = .map (some b):=by generalize a.eval m=u at rm;cases rm;rfl
    have hes:∀e ∈ es.toList,κ.fits e.key=true:=fun e he=>List.all_eq_true.1 h5 _ (g2 ▸ List.mem_map_of_mem he)
    obtain⟨r,f1,f2,f3⟩:=findKey_ok (P:=C.P) (w:=w) hκ h4 es.toList hes
    have hcheck:(Instr.checkKey false 10000 kt kv).run C.P w = .ok () w:=checkKey_ok (P:=C.P) (w:=w) hκ h4 false 9998
    have hg:(getObj b).run C.P w = .ok (.map es clock) w:=by simp [getObj,Sem.run,g1]
    have hset:∀o',(setObj b o').run C.P w = .ok () (w.putObj b o'):=fun o'=>by simp [setObj,Sem.run,g1,World.putObj]
    have hlt:b<w.heap.size:=(Array.getElem?_eq_some_iff.1 g1).1
    have hbA:¬A b:=hs.l.disj _ (lk_mem hlk)
    have keepR:∀o' (y:AV) (u:Value),Rel w A y u→Rel (w.putObj b o') A y u:=fun o' y u hr=>hr.later (fun c hc=>World.putObj_heap_other (fun e=>hbA (e ▸ hc))) (fun _ h=>h)
    rw[g2] at f2
    have main:∃o',(Instr.mapUpdate t (a.eval m) (a.eval k) (a.eval x)).run C.P w = .ok () (w.putObj b o')∧BlkRel (w.putObj b o') A b (mput kv (fo (ev ρ x)).2 ks vs):=by
     rw[hmv,rk]
     unfold mput
     rw[← f2]
     cases r with
     | none =>
      refine⟨.map (es.push { key:=kv,val:=a.eval x,born:=clock }) (clock+1),?_,?_⟩
      ·simp [Instr.mapUpdate,run_underlying hu,hg,hcheck,f1,hset]
      ·refine⟨_,_,World.putObj_heap_same hlt,by simp [g2],by simp [g3],?_,?_,?_⟩
       ·intro e he
        simp only[Array.toList_push,List.mem_append,List.mem_singleton] at he
        rcases he with he|rfl
        ·have:=g4 e he;omega
        ·simp
       ·simp only[Array.toList_push,List.map_append,List.map_cons,List.map_nil]
        rw[List.nodup_append]
        refine⟨g5,by simp,fun p hp q hq e => ?_⟩
        obtain⟨e',he',rfl⟩:=List.mem_map.1 hp
        simp only[List.mem_singleton] at hq
        have:=g4 e' he';omega
       ·intro i y e hy he
        have hsz:es.size=vs.length:=by rw[g3,← g2];simp
        rw[Array.getElem?_push] at he
        split at he
        ·rename_i hi
         rw[List.getElem?_append_right (by omega)] at hy
         have:i - vs.length=0:=by omega
         rw[this] at hy
         simp at hy;cases he;subst hy
         exact keepR _ _ _ rx
        ·rename_i hi
         have:i<es.size:=(Array.getElem?_eq_some_iff.1 he).1
         rw[List.getElem?_append_left (by omega)] at hy
         exact keepR _ _ _ (g6 i y e hy he)
     | some p =>
      obtain⟨i,v⟩:=p
      obtain⟨e,he,rfl⟩:=f3 i v rfl
      have he':es[i]?=some e:=by simpa using he
      have hkey:e.key=kv:=by
       have hmf:mfind kv ks=some i:=by rw[← f2];rfl
       have hki:ks[i]?=some e.key:=by rw[← g2,List.getElem?_map,he];rfl
       have:∀(l:List Value) (j:Nat) k',mfind kv l=some j→l[j]?=some k'→keyB kv k'=true:=fun l=>by
        induction l with
        | nil=>intro j k' h _;simp [mfind] at h
        | cons q l ih =>
         intro j k' h hk'
         simp only[mfind] at h
         split at h
         ·rename_i hq;cases h;simp at hk';subst hk';exact hq
         ·split at h
          ·rename_i i' hi';cases h;exact ih i' k' hi' (by simpa using hk')
          ·cases h
       exact(keyB_eq h4 (hes e (List.mem_of_getElem? he)) (this ks i e.key hmf hki)).symm
      have hstay:(Instr.keyThatStays kv kv).run C.P w = .ok kv w:=by
       have hsb:Instr.sameBits 10000 kv kv=true:=sameBits_fits h4 9999
       simp [Instr.keyThatStays,hsb]
      refine⟨.map (es.modify i fun e' => { e' with key:=kv,val:=a.eval x }) clock,?_,?_⟩
      ·have hk2:((es[i]?).map (·.key)).getD kv=kv:=by rw[he'];simp [hkey]
       simp only[Instr.mapUpdate,Sem.run_bind,run_underlying hu,hg,Result.andThen_ok]
       rw[hcheck]
       simp only[f1,Result.andThen_ok,hk2]
       rw[Sem.run_bind,hstay,Result.andThen_ok,hset]
      ·have hmk:=modify_keys he' (a.eval x)
       rw[hkey] at hmk
       refine⟨_,_,World.putObj_heap_same hlt,hmk.trans g2,by simpa using g3,?_,?_,?_⟩
       ·intro e2 he2
        obtain⟨j,hj⟩:=List.getElem?_of_mem he2
        rw[Array.getElem?_toList,Array.getElem?_modify] at hj
        split at hj
        ·rename_i e3;subst e3;rw[he'] at hj;cases hj
         exact g4 e (List.mem_of_getElem? he)
        ·exact g4 e2 (List.mem_of_getElem? (by rw[Array.getElem?_toList];exact hj))
       ·have:(es.modify i fun e' => { e' with key:=kv,val:=a.eval x }).toList.map (·.born)=es.toList.map (·.born):=by
         apply List.ext_getElem?
         intro j
         simp only[List.getElem?_map,Array.getElem?_toList,Array.getElem?_modify]
         split
         ·rename_i e2;subst e2;rw[he'];rfl
         ·rfl
        rw[this];exact g5
       ·intro j y e2 hy he2
        rw[Array.getElem?_modify] at he2
        by_cases hij:i=j
        ·subst hij
         rw[if_pos rfl,he'] at he2
         cases he2
         rw[List.getElem?_set] at hy
         simp only[if_true] at hy
         split at hy
         ·cases hy;exact keepR _ _ _ rx
         ·cases hy
        ·rw[if_neg hij] at he2
         rw[List.getElem?_set_ne hij] at hy
         exact keepR _ _ _ (g6 j y e2 hy he2)
    obtain⟨o',hrun,hB⟩:=main
    refine⟨.skip,w.putObj b o',?_,.inr ⟨rfl,?_⟩⟩
    ·rcases ho with ho|ho <;> (unfold execOp;rw[ho];simp [hrun])
    ·exact post_mk ((hs.set hlk (fun q hq=>World.putObj_heap_other hq) (by simp) rfl rfl rfl rfl hB).put hd (.any _)) hK
   ·exact h.elim
  ·exact h.elim
theorem aMapEntry_sound {t:TypeId} {m k:Operand} (ho:o.op = .mapEntry t m k) (hd:dstOk C o) (h:aMapEntry C o t (ev ρ m) (ev ρ k) ρ L K):AOp C o ρ L K :=
 AOp.of_run (fun c e=>by rw[ho] at e;cases e) fun w0 M A0 a w A ds hs=>by
  unfold aMapEntry at h
  split at h
  ·rename_i b kt et _ _ _ kv hm hti hkv
   split at h
   ·rename_i ks vs κ ei hlk hκ hei
    obtain⟨h1,h2,h4,h5,hK⟩:=h
    have rm:=fo_ok (hs.ev m) h1;rw[hm] at rm
    have rk:=flatV_ok hkv (fo_ok (hs.ev k) h2)
    have hu:=tinfo_map hti
    obtain⟨d2,inf2,z2,hd2,hinf2,hz2,rfl⟩:=tinfo_inv hei
    have hzero:(zeroValue et).run C.P w = .ok z2 w:=run_zeroValue_i hinf2 hz2
    obtain⟨es,clock,g1,g2,g3,g4,g5,g6⟩:=hs.l.lk hlk
    have hmv:a.eval m = .map (some b):=by generalize a.eval m=u at rm;cases rm;rfl
    have hes:∀e ∈ es.toList,κ.fits e.key=true:=fun e he=>List.all_eq_true.1 h5 _ (g2 ▸ List.mem_map_of_mem he)
    obtain⟨r,f1,f2,f3⟩:=findKey_ok (P:=C.P) (w:=w) hκ h4 es.toList hes
    have hcheck:(Instr.checkKey false 10000 kt kv).run C.P w = .ok () w:=checkKey_ok (P:=C.P) (w:=w) hκ h4 false 9998
    have hg:(getObj b).run C.P w = .ok (.map es clock) w:=by simp [getObj,Sem.run,g1]
    have hset:∀o',(setObj b o').run C.P w = .ok () (w.putObj b o'):=fun o'=>by simp [setObj,Sem.run,g1,World.putObj]
    have hlt:b<w.heap.size:=(Array.getElem?_eq_some_iff.1 g1).1
    have hbA:¬A b:=hs.l.disj _ (lk_mem hlk)
    have keepR:∀o' (y:AV) (u:Value),Rel w A y u→Rel (w.putObj b o') A y u:=fun o' y u hr=>hr.later (fun c hc=>World.putObj_heap_other (fun e=>hbA (e ▸ hc))) (fun _ h=>h)
    rw[g2] at f2
    have main:∃(o':Obj) (v0:Value) (st:Int),(Instr.mapEntry t (a.eval m) (a.eval k)).run C.P w = .ok (.tuple #[v0,.int .i64 st]) (w.putObj b o')∧BlkRel (w.putObj b o') A b (mentry kv (zav z2) ks vs st):=by
     rw[hmv,rk]
     unfold mentry
     rw[← f2]
     cases r with
     | none =>
      refine⟨.map (es.push { key:=kv,val:=z2,born:=clock }) (clock+1),z2,clock,?_,?_⟩
      ·simp [Instr.mapEntry,run_underlying hu,hg,hcheck,f1,hset,hzero,goInt]
      ·have hsz:es.size=vs.length:=by rw[g3,← g2];simp
       have hkl:ks.length=es.size:=by rw[← g2];simp
       refine⟨_,_,World.putObj_heap_same hlt,by simp [g2],by simp [g3],?_,?_,?_,⟨{ key:=kv,val:=z2,born:=clock },by rw[hkl];simp,rfl⟩⟩
       ·intro e he
        simp only[Array.toList_push,List.mem_append,List.mem_singleton] at he
        rcases he with he|rfl
        ·have:=g4 e he;omega
        ·simp
       ·simp only[Array.toList_push,List.map_append,List.map_cons,List.map_nil]
        rw[List.nodup_append]
        refine⟨g5,by simp,fun p hp q hq e => ?_⟩
        obtain⟨e',he',rfl⟩:=List.mem_map.1 hp
        simp only[List.mem_singleton] at hq
        have:=g4 e' he';omega
       ·intro i y e hy he
        rw[Array.getElem?_push] at he
        split at he
        ·rename_i hi
         rw[List.getElem?_append_right (by omega)] at hy
         have:i - vs.length=0:=by omega
         rw[this] at hy
         simp at hy;cases he;subst hy
         exact zav_rel0 _
        ·rename_i hi
         have:i<es.size:=(Array.getElem?_eq_some_iff.1 he).1
         rw[List.getElem?_append_left (by omega)] at hy
         exact keepR _ _ _ (g6 i y e hy he)
     | some p =>
      obtain⟨i,v⟩:=p
      obtain⟨e,he,rfl⟩:=f3 i v rfl
      have he':es[i]?=some e:=by simpa using he
      have hkey:e.key=kv:=by
       have hmf:mfind kv ks=some i:=by rw[← f2];rfl
       have hki:ks[i]?=some e.key:=by rw[← g2,List.getElem?_map,he];rfl
       have:∀(l:List Value) (j:Nat) k',mfind kv l=some j→l[j]?=some k'→keyB kv k'=true:=fun l=>by
        induction l with
        | nil=>intro j k' h _;simp [mfind] at h
        | cons q l ih =>
         intro j k' h hk'
         simp only[mfind] at h
         split at h
         ·rename_i hq;cases h;simp at hk';subst hk';exact hq
         ·split at h
          ·rename_i i' hi';cases h;exact ih i' k' hi' (by simpa using hk')
          ·cases h
       exact(keyB_eq h4 (hes e (List.mem_of_getElem? he)) (this ks i e.key hmf hki)).symm
      have hstay:(Instr.keyThatStays kv kv).run C.P w = .ok kv w:=by
       have hsb:Instr.sameBits 10000 kv kv=true:=sameBits_fits h4 9999
       simp [Instr.keyThatStays,hsb]
      have hsame:(es.modify i fun e' => { e' with key:=kv })=es:=by
       apply Array.ext_getElem?
       intro j
       rw[Array.getElem?_modify]
       split
       ·rename_i e2;subst e2;rw[he',← hkey];rfl
       ·rfl
      refine⟨.map es clock,e.val,e.born,?_,?_⟩
      ·have hk2:((es[i]?).map (·.key)).getD kv=kv:=by rw[he'];simp [hkey]
       simp only[Instr.mapEntry,Sem.run_bind,run_underlying hu,hg,Result.andThen_ok]
       rw[hcheck]
       simp only[f1,Result.andThen_ok,hk2]
       rw[Sem.run_bind,hstay,Result.andThen_ok,Sem.run_bind,hsame,hset,Result.andThen_ok,he']
       rfl
      ·exact⟨_,_,World.putObj_heap_same hlt,g2,g3,g4,g5,fun j y e2 hy he2=>keepR _ _ _ (g6 j y e2 hy he2),⟨e,he',rfl⟩⟩
    obtain⟨o',v0,st,hrun,hB⟩:=main
    refine⟨.value (.tuple #[v0,.int .i64 st]),w.putObj b o',?_,.inl ⟨_,rfl,?_⟩⟩
    ·unfold execOp;rw[ho];simp [hrun]
    ·refine post_mk ((hs.set hlk (fun q hq=>World.putObj_heap_other hq) (by simp) rfl rfl rfl rfl hB).put hd (.tup _ _ (by simp) fun i c u hc hu => ?_)) (hK st)
     match i with
     | 0=>simp at hc;subst hc;exact .any _
     | 1=>simp at hc hu;subst hc;subst hu;exact .v _
     | i+2=>simp at hc
   ·exact h.elim
  ·exact h.elim
theorem findIdx_stamp {l:List MapEntry} (hn:(l.map (·.born)).Nodup) {j:Nat} {e0:MapEntry} (h:l[j]?=some e0):l.findIdx? (fun e=>((e.born:Nat):Int) == ((e0.born:Nat):Int))=some j:=by
 induction l generalizing j with
 | nil=>simp at h
 | cons a r ih =>
  simp only[List.map_cons,List.nodup_cons] at hn
  cases j with
  | zero =>
   simp only[List.getElem?_cons_zero,Option.some.injEq] at h
   subst h
   simp [List.findIdx?_cons]
  | succ j =>
   simp only[List.getElem?_cons_succ] at h
   have hne:a.born ≠ e0.born:=fun e1=>hn.1 (List.mem_map.2 ⟨e0,List.mem_of_getElem? h,e1.symm⟩)
   have hb:(((a.born:Nat):Int) == ((e0.born:Nat):Int))=false:=by
    simp only[beq_eq_false_iff_ne,ne_eq,Int.natCast_inj]
    exact hne
   rw[List.findIdx?_cons,hb]
   simp [ih hn.2 h]
theorem aEntryStore_sound {t:TypeId} {m s x:Operand} (ho:o.op = .entryStore t m s x) (hd:dstOk C o) (h:aEntryStore o (ev ρ m) (ev ρ s) (ev ρ x) ρ L K):AOp C o ρ L K :=
 AOp.of_run (fun c e=>by rw[ho] at e;cases e) fun w0 M A0 a w A ds hs=>by
  unfold aEntryStore at h
  split at h
  ·rename_i b ik n hm hsv
   split at h
   ·rename_i ks vs i st hlk
    obtain⟨h1,h2,h3,rfl,hK⟩:=h
    have rm:=fo_ok (hs.ev m) h1;rw[hm] at rm
    have rs:=fo_ok (hs.ev s) h2;rw[hsv] at rs
    have rx:=fo_ok (hs.ev x) h3
    obtain⟨es,clock,g1,g2,g3,g4,g5,g6,e,he,hst⟩:=hs.l.lk hlk
    have hmv:a.eval m = .map (some b):=by generalize a.eval m=u at rm;cases rm;rfl
    have hsv2:a.eval s = .int ik n:=rs.inv_v
    have hg:(getObj b).run C.P w = .ok (.map es clock) w:=by simp [getObj,Sem.run,g1]
    have hset:∀o',(setObj b o').run C.P w = .ok () (w.putObj b o'):=fun o'=>by simp [setObj,Sem.run,g1,World.putObj]
    have hlt:b<w.heap.size:=(Array.getElem?_eq_some_iff.1 g1).1
    have hbA:¬A b:=hs.l.disj _ (lk_mem hlk)
    have keepR:∀o' (y:AV) (u:Value),Rel w A y u→Rel (w.putObj b o') A y u:=fun o' y u hr=>hr.later (fun c hc=>World.putObj_heap_other (fun e=>hbA (e ▸ hc))) (fun _ h=>h)
    have hidx:es.findIdx? (fun e=>((e.born:Nat):Int) == n)=some i:=by
     have h1:es.findIdx? (fun e=>((e.born:Nat):Int) == n)=es.toList.findIdx? (fun e=>((e.born:Nat):Int) == n):=by
      cases es
      simp
     rw[h1,← hst]
     exact findIdx_stamp g5 (by rw[Array.getElem?_toList];exact he)
    have hrun:(Instr.entryStore t (a.eval m) (a.eval s) (a.eval x)).run C.P w = .ok () (w.putObj b (.map (es.modify i fun e' => { e' with val:=a.eval x }) clock)):=by
     rw[hmv,hsv2]
     simp [Instr.entryStore,hg,asInt,asIntOf,hidx,hset,Result.andThen]
    have hB:BlkRel (w.putObj b (.map (es.modify i fun e' => { e' with val:=a.eval x }) clock)) A b (.amap ks (vs.set i (fo (ev ρ x)).2)):=by
     refine⟨_,_,World.putObj_heap_same hlt,?_,by simpa using g3,?_,?_,?_⟩
     ·rw[← g2]
      apply List.ext_getElem?
      intro j
      simp only[List.getElem?_map,Array.getElem?_toList,Array.getElem?_modify]
      split
      ·rename_i e2;subst e2;rw[he];rfl
      ·rfl
     ·intro e2 he2
      obtain⟨j,hj⟩:=List.getElem?_of_mem he2
      rw[Array.getElem?_toList,Array.getElem?_modify] at hj
      split at hj
      ·rename_i e3;subst e3;rw[he] at hj;cases hj
       exact g4 e (List.mem_of_getElem? (by rw[Array.getElem?_toList];exact he))
      ·exact g4 e2 (List.mem_of_getElem? (by rw[Array.getElem?_toList];exact hj))
     ·have:(es.modify i fun e' => { e' with val:=a.eval x }).toList.map (·.born)=es.toList.map (·.born):=by
       apply List.ext_getElem?
       intro j
       simp only[List.getElem?_map,Array.getElem?_toList,Array.getElem?_modify]
       split
       ·rename_i e2;subst e2;rw[he];rfl
       ·rfl
      rw[this];exact g5
     ·intro j y e2 hy he2
      rw[Array.getElem?_modify] at he2
      by_cases hij:i=j
      ·subst hij
       rw[if_pos rfl,he] at he2
       cases he2
       rw[List.getElem?_set] at hy
       simp only[if_true] at hy
       split at hy
       ·cases hy;exact keepR _ _ _ rx
       ·cases hy
      ·rw[if_neg hij] at he2
       rw[List.getElem?_set_ne hij] at hy
       exact keepR _ _ _ (g6 j y e2 hy he2)
    refine⟨.skip,w.putObj b (.map (es.modify i fun e' => { e' with val:=a.eval x }) clock),?_,.inr ⟨rfl,?_⟩⟩
    ·unfold execOp;rw[ho];simp [hrun]
    ·exact post_mk ((hs.set hlk (fun q hq=>World.putObj_heap_other hq) (by simp) rfl rfl rfl rfl hB).put hd (.any _)) hK
   ·exact h.elim
  ·exact h.elim
theorem aop_sound (hd:dstOk C o) (hdef:∀c,o.op ≠ .defer c) (h:aop C o ρ L K):AOp C o ρ L K:=by
 unfold aop at h
 split at h
 ·rename_i c x hv
  exact AOp.val hd hdef (fun a w A hρ hL=>aval_ok hv h.1 hρ hL) h.2
 ·unfold aop2 at h
  split at h
  ·rename_i t ho;exact aAlloc_sound ho hd h
  ·rename_i t x ho;exact aBox_sound ho hd h
  ·rename_i t len parts ho;exact aBuildSlice_sound ho hd h
  ·rename_i t p x ho;exact aStore_sound ho hd h
  ·rename_i t l c ho;exact aMakeSlice_sound ho hd h
  ·rename_i t ho;exact aMakeMap_sound ho hd h
  ·rename_i cl ho
   split at h
   ·rename_i s x t t' h0 ha ht
    split at h
    ·rename_i e;subst e
     exact aAppend_sound ho h0 ha ht hd h
    ·exact aGrow_sound ho h0 ha ht hd h
   ·rename_i s x t t' h0 ha ht
    exact aCopy_sound ho h0 ha ht hd h
   ·rename_i s t h0 ha ht
    exact aClear_sound ho h0 ha ht hd h
   ·rename_i g l _ h0
    exact aCall_sound ho h0 hd h
   ·exact h
  ·rename_i ho;exact aNilCmp_sound ho hd h
  ·rename_i ho;exact aMapUpdate_sound (.inl ho) hd h
  ·rename_i ho;exact aMapUpdate_sound (.inr ho) hd h
  ·rename_i ho;exact aMapEntry_sound ho hd h
  ·rename_i ho;exact aEntryStore_sound ho hd h
  ·exact h
end
end Go.AL
end
section
namespace Go.AL
open Go Go.RowKit
def gval (ops:List Oper) (ρ:Env) (j:Nat) (want:Bool):Option Bool :=
 match ops[j]? with
 | some o=>match o.dst with
  | some d=>match get ρ d with
   | .v (.bool b)=>some b
   | .cond c (.v (.bool b))=>some (if c then b else !want)
   | _=>none
  | none=>none
 | none=>none
def aguard (C:Cfg) (o:Oper) (b want:Bool) (ρ:Env) (L:AHeap) (K:ARes):Prop :=
 match aval C.P ρ L o.op with
 | some (c,x)=>(b=want→c)∧K (put ρ o.dst (.cond (b == want) x)) L
 | none=>match o.op with
  | .call c=>match c.callee with
   | .value g=>GCall C.P (b=want) ((fo (ev ρ g)).1∧fos (c.args.toList.map (ev ρ))) (fo (ev ρ g)).2 (c.args.toList.map fun x=>(fo (ev ρ x)).2) L (putC K ρ o.dst (b == want) L)
   | _=>(b=want→aop2 C o ρ L K)∧(b ≠ want→K (put ρ o.dst .any) L)
  | _=>(b=want→aop2 C o ρ L K)∧(b ≠ want→K (put ρ o.dst .any) L)
def astep (C:Cfg) (all:List Oper) (o:Oper) (ρ:Env) (L:AHeap) (K:ARes):Prop :=
 match o.guard with
 | none=>aop C o ρ L K
 | some (j,want)=>match gval all ρ j want with
  | some b=>aguard C o b want ρ L K
  | none=>False
def aregion (C:Cfg) (all:List Oper):List Oper→Env→AHeap→ARes→Prop
 | [],ρ,L,K=>K ρ L
 | o :: rest,ρ,L,K=>astep C all o ρ L fun ρ L=>aregion C all rest ρ L K
def aregK (C:Cfg) (all rest:List Oper) (K:ARes) (ρ:Env) (L:AHeap):Prop:=aregion C all rest ρ L K
theorem aregion_nil (C:Cfg) (all:List Oper) (ρ:Env) (L:AHeap) (K:ARes):aregion C all [] ρ L K=K ρ L:=rfl
theorem aregion_cons (C:Cfg) (all rest:List Oper) (o:Oper) (ρ:Env) (L:AHeap) (K:ARes):aregion C all (o :: rest) ρ L K=astep C all o ρ L (aregK C all rest K):=rfl
def operOk (N:Nat) (o:Oper):Bool :=
 (match o.dst with|some d=>decide (d<N)|none=>true) && (match o.op with | .defer _=>false | .select _ _=>false|_=>true)
theorem operOk_dst {C:Cfg} {o:Oper} (h:operOk C.N o=true):dstOk C o:=fun i hi=>by
 simp only[operOk,hi,Bool.and_eq_true,decide_eq_true_eq] at h;exact h.1
theorem operOk_def {N:Nat} {o:Oper} (h:operOk N o=true):∀c,o.op ≠ .defer c:=fun c e=>by
 simp [operOk,e] at h
theorem st_env {w0:World} {M A0:Foot} {N:Nat} {ρ ρ':Env} {L:AHeap} {a:Act} {w:World} (h:St w0 M A0 N ρ L a w) (hr:∀i A u,Rel w A (get ρ i) u→Rel w A (get ρ' i) u):St w0 M A0 N ρ' L a w:=by
 obtain⟨A,ds,h⟩:=st_iff.1 h
 exact st_iff.2 ⟨A,ds,{ h with env:=fun i=>hr i _ _ (h.env i) }⟩
def GOp (C:Cfg) (ops:Array Oper) (i:Nat) (ρ:Env) (L:AHeap) (K:ARes):Prop :=
 ∀n w0 M A0 a w (Qx:Exit→Act→World→Prop),St w0 M A0 C.N ρ L a w→wpOpIn (Fw C.r) n C.P ops Qx i (post w0 M A0 C.N K) a w
theorem AOp.gop {C:Cfg} {ops:Array Oper} {i:Nat} {o:Oper} {ρ:Env} {L:AHeap} {K:ARes} (hi:ops[i]?=some o) (hg:o.guard=none) (h:AOp C o ρ L K):GOp C ops i ρ L K:=by
 intro n w0 M A0 a w Qx hs
 unfold wpOpIn
 simp only[hi]
 rw[if_pos (by simp [Region.wanted,hg])]
 exact h n w0 M A0 a w Qx hs
theorem gval_ok {ops:Array Oper} {ρ:Env} {o:Oper} {j:Nat} {want b:Bool} (hg:o.guard=some (j,want)) (h:gval ops.toList ρ j want=some b) {w0:World} {M A0:Foot} {N:Nat} {L:AHeap} {a:Act} {w:World} (hs:St w0 M A0 N ρ L a w) :
  Region.wanted o (yielded ops a.tmps)=decide (b=want):=by
 obtain⟨A,ds,hs⟩:=st_iff.1 hs
 have key:∀oj d,ops[j]?=some oj→oj.dst=some d→yielded ops a.tmps j=match a.tmps.getD d undef with | .bool b=>some b|_=>none:=fun oj d h1 h2=>by
  unfold yielded
  simp only[h1,Option.bind_some,h2]
  by_cases hlt:d<a.tmps.size
  ·have e:a.tmps.getD d undef=a.tmps[d]:=by simp [Array.getD,hlt]
   rw[Array.getElem?_eq_getElem hlt,e]
   generalize a.tmps[d]=u
   cases u <;> rfl
  ·have e:a.tmps.getD d undef=undef:=by simp [Array.getD,hlt]
   rw[Array.getElem?_eq_none (Nat.le_of_not_lt hlt),e]
   rfl
 unfold gval at h
 split at h
 ·rename_i oj ho
  have ho':ops[j]?=some oj:=by simpa using ho
  split at h
  ·rename_i d hd
   have hr:=hs.env d
   have hk:=key oj d ho' hd
   split at h
   ·rename_i b' hget
    cases h
    rw[hget] at hr
    rw[hr.inv_v] at hk
    have hk:yielded ops a.tmps j=some b:=hk
    simp [Region.wanted,hg,hk]
    cases b <;> cases want <;> rfl
   ·rename_i c b' hget
    cases h
    rw[hget] at hr
    cases hr with
    | cond _ _ _ h1 h2 =>
     cases c with
     | true =>
      rw[(h1 rfl).inv_v] at hk
      have hk:yielded ops a.tmps j=some b':=hk
      simp [Region.wanted,hg,hk]
      cases b' <;> cases want <;> rfl
     | false =>
      rw[h2 rfl] at hk
      have hk:yielded ops a.tmps j=none:=hk
      simp [Region.wanted,hg,hk]
   ·cases h
  ·cases h
 ·cases h
theorem GOp.of_guard {C:Cfg} {ops:Array Oper} {i j:Nat} {o:Oper} {b want:Bool} {ρ:Env} {L:AHeap} {K:ARes} (hi:ops[i]?=some o) (hg:o.guard=some (j,want)) (hv:gval ops.toList ρ j want=some b) (hd:dstOk C o)
  (h1:b=want→AOp C o ρ L K) (h2:b ≠ want→K (put ρ o.dst (.v undef)) L):GOp C ops i ρ L K:=by
 intro n w0 M A0 a w Qx hs
 unfold wpOpIn
 simp only[hi]
 have hy:=gval_ok hg hv hs
 by_cases hb:b=want
 ·rw[if_pos (by rw[hy,decide_eq_true hb])]
  exact h1 hb n w0 M A0 a w Qx hs
 ·rw[if_neg (by rw[hy,decide_eq_false hb];simp)]
  obtain⟨A,ds,hs⟩:=st_iff.1 hs
  exact⟨fun f _=>trivial,post_mk (hs.put hd (.v _)) (h2 hb)⟩
theorem undef_any {w:World} {A:Foot} {ρ:Env} {d:Option Tmp} (i:Nat) (u:Value) (h:Rel w A (get (put ρ d (.v undef)) i) u):Rel w A (get (put ρ d .any) i) u:=by
 cases d with
 | none=>exact h
 | some d =>
  simp only[put,get] at *
  split at h
  ·rename_i e;rw[if_pos e];exact .any _
  ·rename_i e;rw[if_neg e];exact h
theorem cond_true {w:World} {A:Foot} {ρ:Env} {d:Option Tmp} {x:AV} {c:Bool} (hc:c=true) (i:Nat) (u:Value) (h:Rel w A (get (put ρ d x) i) u):Rel w A (get (put ρ d (.cond c x)) i) u:=by
 cases d with
 | none=>exact h
 | some d =>
  simp only[put,get] at *
  split at h
  ·rename_i e;rw[if_pos e];exact .cond _ _ _ (fun _=>h) (fun h=>by rw[hc] at h;cases h)
  ·rename_i e;rw[if_neg e];exact h
theorem cond_false {w:World} {A:Foot} {ρ:Env} {d:Option Tmp} {x:AV} (i:Nat) (u:Value) (h:Rel w A (get (put ρ d (.v undef)) i) u):Rel w A (get (put ρ d (.cond false x)) i) u:=by
 cases d with
 | none=>exact h
 | some d =>
  simp only[put,get] at *
  split at h
  ·rename_i e;rw[if_pos e];exact .cond _ _ _ (fun h=>by cases h) (fun _=>h.inv_v)
  ·rename_i e;rw[if_neg e];exact h
theorem GOp.conv {C:Cfg} {ops:Array Oper} {i:Nat} {ρ:Env} {L:AHeap} {K K':ARes} (h:GOp C ops i ρ L K) (hk:∀ρ' L' w0 M A0 a w,K ρ' L'→St w0 M A0 C.N ρ' L' a w→post w0 M A0 C.N K' a w):GOp C ops i ρ L K' :=
 fun n w0 M A0 a w Qx hs=>wpOpIn_mono (fun _ _ ⟨ρ',L',h1,h2⟩=>hk ρ' L' _ _ _ _ _ h1 h2) (h n w0 M A0 a w Qx hs)
theorem GOp.of_guard' {C:Cfg} {ops:Array Oper} {i j:Nat} {o:Oper} {b want:Bool} {ρ:Env} {L:AHeap} {K:ARes} (hi:ops[i]?=some o) (hg:o.guard=some (j,want)) (hv:gval ops.toList ρ j want=some b) (hd:dstOk C o)
  (h1:b=want→AOp C o ρ L K) (h2:b ≠ want→K (put ρ o.dst .any) L):GOp C ops i ρ L K:=by
 refine(GOp.of_guard (K:=fun ρ' L'=>K ρ' L'∨(ρ'=put ρ o.dst (.v undef)∧L'=L∧K (put ρ o.dst .any) L)) hi hg hv hd (fun h=>(h1 h).mono fun _ _ h => .inl h) (fun h => .inr ⟨rfl,rfl,h2 h⟩)).conv ?_
 rintro ρ' L' w0 M A0 a w (h|⟨rfl,rfl,h⟩) hs
 ·exact⟨_,_,h,hs⟩
 ·exact⟨_,_,h,st_env hs fun i A u h=>undef_any i u h⟩
theorem GOp.of_cond {C:Cfg} {ops:Array Oper} {i j:Nat} {o:Oper} {b want:Bool} {ρ:Env} {L:AHeap} {x:AV} (hi:ops[i]?=some o) (hg:o.guard=some (j,want)) (hv:gval ops.toList ρ j want=some b) (hd:dstOk C o)
  (h1:b=want→AOp C o ρ L fun ρ' L'=>ρ'=put ρ o.dst x∧L'=L):GOp C ops i ρ L fun ρ' L'=>ρ'=put ρ o.dst (.cond (b == want) x)∧L'=L:=by
 by_cases hb:b=want
 ·refine(GOp.of_guard (K:=fun ρ' L'=>ρ'=put ρ o.dst x∧L'=L) hi hg hv hd h1 (fun h=>absurd hb h)).conv ?_
  rintro ρ' L' w0 M A0 a w ⟨rfl,rfl⟩ hs
  exact⟨_,_,⟨rfl,rfl⟩,st_env hs fun i A u h=>cond_true (by simpa using hb) i u h⟩
 ·refine(GOp.of_guard (K:=fun ρ' L'=>ρ'=put ρ o.dst (.v undef)∧L'=L) hi hg hv hd (fun h=>absurd h hb) (fun _=>⟨rfl,rfl⟩)).conv ?_
  rintro ρ' L' w0 M A0 a w ⟨rfl,rfl⟩ hs
  refine⟨_,_,⟨rfl,rfl⟩,st_env hs fun i A u h => ?_⟩
  rw[show (b == want)=false by simpa using hb]
  exact cond_false i u h
theorem aval_sound {C:Cfg} {o:Oper} {ρ:Env} {L:AHeap} {c:Prop} {x:AV} (hv:aval C.P ρ L o.op=some (c,x)) (hc:c) (hd:dstOk C o) (hdef:∀c,o.op ≠ .defer c):AOp C o ρ L fun ρ' L'=>ρ'=put ρ o.dst x∧L'=L :=
 AOp.val hd hdef (fun _ _ _ hρ hL=>aval_ok hv hc hρ hL) ⟨rfl,rfl⟩
theorem call_sound {C:Cfg} {o:Oper} {ρ:Env} {L:AHeap} {g:Operand} {cl:Call} {r:AV} (ho:o.op = .call cl) (h0:cl.callee = .value g) (hd:dstOk C o)
  (h:(fo (ev ρ g)).1∧fos (cl.args.toList.map (ev ρ))∧MVal C.P (fo (ev ρ g)).2 (cl.args.toList.map fun x=>(fo (ev ρ x)).2) L fun r' L'=>r'=r∧L'=L):AOp C o ρ L fun ρ' L'=>ρ'=put ρ o.dst r∧L'=L :=
 aCall_sound ho h0 hd ⟨h.1,h.2.1,h.2.2.mono fun r' L' ⟨e1,e2⟩=>by rw[e1];exact⟨rfl,e2⟩⟩
theorem aop2_sound {C:Cfg} {o:Oper} {ρ:Env} {L:AHeap} {K:ARes} (hd:dstOk C o) (h:aop2 C o ρ L K):AOp C o ρ L K:=by
 unfold aop2 at h
 split at h
 ·rename_i t ho;exact aAlloc_sound ho hd h
 ·rename_i t x ho;exact aBox_sound ho hd h
 ·rename_i t len parts ho;exact aBuildSlice_sound ho hd h
 ·rename_i t p x ho;exact aStore_sound ho hd h
 ·rename_i t l c ho;exact aMakeSlice_sound ho hd h
 ·rename_i t ho;exact aMakeMap_sound ho hd h
 ·rename_i cl ho
  split at h
  ·rename_i s x t t' h0 ha ht
   split at h
   ·rename_i e;subst e
    exact aAppend_sound ho h0 ha ht hd h
   ·exact aGrow_sound ho h0 ha ht hd h
  ·rename_i s x t t' h0 ha ht
   exact aCopy_sound ho h0 ha ht hd h
  ·rename_i s t h0 ha ht
   exact aClear_sound ho h0 ha ht hd h
  ·rename_i g l _ h0
   exact aCall_sound ho h0 hd h
  ·exact h
 ·rename_i ho;exact aNilCmp_sound ho hd h
 ·rename_i ho;exact aMapUpdate_sound (.inl ho) hd h
 ·rename_i ho;exact aMapUpdate_sound (.inr ho) hd h
 ·rename_i ho;exact aMapEntry_sound ho hd h
 ·rename_i ho;exact aEntryStore_sound ho hd h
 ·exact h
theorem astep_sound {C:Cfg} {ops:Array Oper} {i:Nat} {o:Oper} {ρ:Env} {L:AHeap} {K:ARes} (hi:ops[i]?=some o) (hok:operOk C.N o=true) (h:astep C ops.toList o ρ L K):GOp C ops i ρ L K:=by
 have hd:=operOk_dst hok
 have hdef:=operOk_def hok
 unfold astep at h
 split at h
 ·rename_i hg;exact AOp.gop hi hg (aop_sound hd hdef h)
 ·rename_i j want hg
  split at h
  ·rename_i b hv
   unfold aguard at h
   split at h
   ·rename_i c x ha
    refine(GOp.of_cond hi hg hv hd fun hb=>aval_sound ha (h.1 hb) hd hdef).conv ?_
    rintro ρ' L' w0 M A0 a w ⟨rfl,rfl⟩ hs
    exact⟨_,_,h.2,hs⟩
   ·split at h
    ·rename_i cl ho
     split at h
     ·rename_i g h0
      obtain⟨r,h1,h2⟩:=h
      refine(GOp.of_cond hi hg hv hd fun hb=>call_sound ho h0 hd ⟨(h1 hb).1.1,(h1 hb).1.2,(h1 hb).2⟩).conv ?_
      rintro ρ' L' w0 M A0 a w ⟨rfl,rfl⟩ hs
      exact⟨_,_,h2,hs⟩
     ·exact GOp.of_guard' hi hg hv hd (fun hb=>aop2_sound hd (h.1 hb)) h.2
    ·exact GOp.of_guard' hi hg hv hd (fun hb=>aop2_sound hd (h.1 hb)) h.2
  ·exact h.elim
theorem aregion_sound {C:Cfg} {ops:Array Oper} {K:ARes} {n:Nat} {w0:World} {M A0:Foot} {Q:Exit→Act→World→Prop} (hQ:∀a w,post w0 M A0 C.N K a w→Q .normal a w) (hok:ops.toList.all (operOk C.N)=true) :
  ∀(l:List Oper) (k:Nat),(∀j,l[j]?=ops[k+j]?)→∀(ρ:Env) (L:AHeap) (a:Act) (w:World),aregion C ops.toList l ρ L K→St w0 M A0 C.N ρ L a w→wpOpsIn (Fw C.r) n C.P ops Q (List.range' k l.length) a w
 | [],k,_,ρ,L,a,w,h,hs=>hQ a w ⟨ρ,L,h,hs⟩
 | o :: l,k,hl,ρ,L,a,w,h,hs=>by
  have h0:ops[k]?=some o:=by simpa using (hl 0).symm
  have ho:operOk C.N o=true:=List.all_eq_true.1 hok o (List.mem_of_getElem? (by simpa using h0))
  rw[List.length_cons,List.range'_succ,wpOpsIn_cons]
  refine wpOpIn_mono ?_ (astep_sound h0 ho h n w0 M A0 a w Q hs)
  rintro a' w' ⟨ρ',L',h1,h2⟩
  exact aregion_sound hQ hok l (k+1) (fun j=>by have:=hl (j+1);simpa [Nat.add_assoc,Nat.add_comm 1 j] using this) ρ' L' a' w' h1 h2
end Go.AL
end
