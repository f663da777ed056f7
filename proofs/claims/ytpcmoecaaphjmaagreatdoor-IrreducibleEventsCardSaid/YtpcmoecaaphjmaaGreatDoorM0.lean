/- Texts of this claim's proof: AlBase, AlPure, AlSound, AlFill, AlState. No condition. -/
import Derived.CallsIn
import Derived.Below
import Derived.Laws.AppendOwn
import Derived.RangeFuncRecord
import Derived.OwnWalkIn
import Derived.Deep.MidRow
import Derived.Maps.Own
import Derived.Laws.Slices
import Derived.IntWalk
import Derived.OrdersIn
import Derived.StillTail
section
namespace Go.AL
open Go Go.RowKit
inductive AV where
 | v (x:Value)
 | agg (cs:List AV)
 | tup (xs:List AV)
 | sl (k:Nat) (xs:List AV)
 | rp (k:Nat) (xs:List AV) (i j:Nat)
 | ls (b k off len cap:Nat)
 | lp (b k i j:Nat)
 | clo (f:FuncId) (cap:List AV)
 | cond (c:Bool) (x:AV)
 | rm (ks:List Value) (vs:List AV)
 | lm (b:Nat)
 | yl (l:Nat) (us:Array Value) (ks:List Nat) (cs:List AV)
 | any
 deriving Inhabited
def AV.cells:AV→List AV
 | .agg cs=>cs
 | x=>[x]
def one:AV→Bool
 | .v x=>x.oneCell'
 | .agg _=>false
 | .tup _=>false
 | .any=>false
 | .cond _ _=>false
 | _=>true
def okv:AV→Bool
 | .agg cs=>cs.all one
 | x=>one x
def elOk (k:Nat) (x:AV):Prop:=x.cells.length=k∧okv x=true
abbrev Foot:=Nat→Prop
inductive Rel (w:World) (A:Foot):AV→Value→Prop
 | any (u:Value):Rel w A .any u
 | v (x:Value):Rel w A (.v x) x
 | agg (cs:List AV) (us:Array Value) (hn:us.size=cs.length) (h:∀(i:Nat) c u,cs[i]?=some c→us[i]?=some u→Rel w A c u):Rel w A (.agg cs) (.agg us)
 | tup (cs:List AV) (us:Array Value) (hn:us.size=cs.length) (h:∀(i:Nat) c u,cs[i]?=some c→us[i]?=some u→Rel w A c u):Rel w A (.tup cs) (.tuple us)
 | sl0 (k:Nat) (a:Option Addr) (cap:Nat) (hc:cap≤maxLen):Rel w A (.sl k []) (.slice a 0 cap)
 | sl (k:Nat) (xs:List AV) (b off cap:Nat) (c:Nat→Value) (hA:A b) (hl:xs.length≤cap) (hc:cap≤maxLen) (hk:∀x ∈ xs,elOk k x)
   (hw:∀i,i<xs.length * k→w.cell? ⟨b,off+i,none⟩=some (c i)) (h:∀(i:Nat) x (j:Nat) y,xs[i]?=some x→x.cells[j]?=some y→Rel w A y (c (i * k+j))) :
   Rel w A (.sl k xs) (.slice (some ⟨b,off,none⟩) xs.length cap)
 | rp (k:Nat) (xs:List AV) (i j b off:Nat) (c:Nat→Value) (hA:A b) (hk:∀x ∈ xs,elOk k x)
   (hw:∀i,i<xs.length * k→w.cell? ⟨b,off+i,none⟩=some (c i)) (h:∀(i:Nat) x (j:Nat) y,xs[i]?=some x→x.cells[j]?=some y→Rel w A y (c (i * k+j))) :
   Rel w A (.rp k xs i j) (.pointer (some ⟨b,off+(i * k+j),none⟩))
 | ls (b k off len cap o:Nat) (hl:len≤cap) (hc:cap≤maxLen) (ho:o=off * k∨cap=0):Rel w A (.ls b k off len cap) (.slice (some ⟨b,o,none⟩) len cap)
 | lp (b k i j:Nat):Rel w A (.lp b k i j) (.pointer (some ⟨b,i * k+j,none⟩))
 | clo (f:FuncId) (cs:List AV) (us:Array Value) (hn:us.size=cs.length) (h:∀(i:Nat) c u,cs[i]?=some c→us[i]?=some u→Rel w A c u) :
   Rel w A (.clo f cs) (.func (.func f) #[] us)
 | cond (c:Bool) (x:AV) (u:Value) (h:c=true→Rel w A x u) (h2:c=false→u=undef):Rel w A (.cond c x) u
 | rm (ks:List Value) (vs:List AV) (b:Nat) (es:Array MapEntry) (clock:Nat) (hA:A b) (hw:w.heap[b]?=some (.map es clock))
   (hk:es.toList.map (·.key)=ks) (hv:vs.length=ks.length) (hbn:(∀e ∈ es.toList,e.born<clock)∧(es.toList.map (·.born)).Nodup) (h:∀(i:Nat) x e,vs[i]?=some x→es[i]?=some e→Rel w A x e.val):Rel w A (.rm ks vs) (.map (some b))
 | lm (b:Nat):Rel w A (.lm b) (.map (some b))
 | yl (l:Nat) (us:Array Value) (ks:List Nat) (cs:List AV) (h:∀(i:Nat) k c,ks[i]?=some k→cs[i]?=some c→Rel w A c (us.getD k undef)):Rel w A (.yl l us ks cs) (.func (.yield l) #[] #[])
theorem Rel.later {w w':World} {A A':Foot} {a:AV} {u:Value} (h:Rel w A a u) (hw:∀b,A b→w'.heap[b]?=w.heap[b]?) (hA:∀b,A b→A' b):Rel w' A' a u:=by
 have cell:∀b o,A b→w'.cell? ⟨b,o,none⟩=w.cell? ⟨b,o,none⟩:=fun b o hb=>World.cell?_of_block (w:=w) (hw b hb)
 induction h with
 | any u=>exact .any u
 | v x=>exact .v x
 | agg cs us hn _ ih=>exact .agg cs us hn ih
 | tup cs us hn _ ih=>exact .tup cs us hn ih
 | sl0 k a cap hc=>exact .sl0 k a cap hc
 | sl k xs b off cap c hb hl hc hk hcw _ ih=>exact .sl k xs b off cap c (hA b hb) hl hc hk (fun i hi=>(cell _ _ hb).trans (hcw i hi)) ih
 | rp k xs i j b off c hb hk hcw _ ih=>exact .rp k xs i j b off c (hA b hb) hk (fun i hi=>(cell _ _ hb).trans (hcw i hi)) ih
 | ls b k off len cap o hl hc ho=>exact .ls b k off len cap o hl hc ho
 | lp b k i j=>exact .lp b k i j
 | clo f cs us hn _ ih=>exact .clo f cs us hn ih
 | cond c x u _ h2 ih=>exact .cond c x u ih h2
 | rm ks vs b es clock hb hm hk hv hbn _ ih=>exact .rm ks vs b es clock (hA b hb) ((hw b hb).trans hm) hk hv hbn ih
 | lm b=>exact .lm b
 | yl l us ks cs _ ih=>exact .yl l us ks cs ih
def Rels (w:World) (A:Foot) (as:List AV) (us:List Value):Prop:=us.length=as.length∧∀(i:Nat) a u,as[i]?=some a→us[i]?=some u→Rel w A a u
theorem Rels.later {w w':World} {A A':Foot} {a:List AV} {u:List Value} (h:Rels w A a u) (hw:∀b,A b→w'.heap[b]?=w.heap[b]?) (hA:∀b,A b→A' b):Rels w' A' a u :=
 ⟨h.1,fun i x y hx hy=>(h.2 i x y hx hy).later hw hA⟩
theorem Rels.nil {w:World} {A:Foot} : Rels w A [] []:=⟨rfl,fun _ _ _ h=>by simp at h⟩
theorem Rels.cons {w:World} {A:Foot} {a:AV} {u:Value} {as:List AV} {us:List Value} (h:Rel w A a u) (hs:Rels w A as us):Rels w A (a :: as) (u :: us) :=
 ⟨by simp [hs.1],fun i x y hx hy=>by
  cases i with
  | zero=>simp at hx hy;subst hx;subst hy;exact h
  | succ i=>exact hs.2 i x y (by simpa using hx) (by simpa using hy)⟩
theorem Rels.inv_cons {w:World} {A:Foot} {a:AV} {as:List AV} {us:List Value} (h:Rels w A (a :: as) us):∃u us',us=u :: us'∧Rel w A a u∧Rels w A as us':=by
 cases us with
 | nil=>have:=h.1;simp at this
 | cons u us=>exact⟨u,us,rfl,h.2 0 a u rfl rfl,by have:=h.1;simpa using this,fun i x y hx hy=>h.2 (i+1) x y (by simpa using hx) (by simpa using hy)⟩
theorem Rels.inv_nil {w:World} {A:Foot} {us:List Value} (h:Rels w A [] us):us=[]:=List.eq_nil_of_length_eq_zero (by simpa using h.1)
theorem Rels.append {w:World} {A:Foot} {as bs:List AV} {us vs:List Value} (h:Rels w A as us) (k:Rels w A bs vs):Rels w A (as ++ bs) (us ++ vs):=by
 induction as generalizing us with
 | nil=>obtain rfl:=h.inv_nil;simpa using k
 | cons a as ih=>obtain⟨u,us',rfl,h1,h2⟩:=h.inv_cons;simpa using Rels.cons h1 (ih h2)
inductive ABlk where
 | row (t:TypeId) (k:Nat) (xs:List AV) (cap:Nat)
 | amap (ks:List Value) (vs:List AV)
 | obj (o:Obj)
 | iter (ks:List Value) (vs:List AV) (vis:List Nat)
 | amapE (ks:List Value) (vs:List AV) (i:Nat) (st:Int)
 deriving Inhabited
abbrev AHeap:=List (Nat × ABlk)
def BlkRel (w:World) (A:Foot) (b:Nat):ABlk→Prop
 | .row t k xs cap=>∃c:Array Value,w.heap[b]?=some (.cells c t (0,0))∧c.size=cap * k∧xs.length≤cap∧cap≤maxLen∧(∀x ∈ xs,elOk k x) ∧
   ∀(i:Nat) x (j:Nat) y u,xs[i]?=some x→x.cells[j]?=some y→c[i * k+j]?=some u→Rel w A y u
 | .amap ks vs=>∃es clock,w.heap[b]?=some (.map es clock)∧es.toList.map (·.key)=ks∧vs.length=ks.length∧(∀e ∈ es.toList,e.born<clock)∧(es.toList.map (·.born)).Nodup ∧
   ∀(i:Nat) x e,vs[i]?=some x→es[i]?=some e→Rel w A x e.val
 | .obj o=>w.heap[b]?=some o
 | .amapE ks vs i st=>∃es clock,w.heap[b]?=some (.map es clock)∧es.toList.map (·.key)=ks∧vs.length=ks.length∧(∀e ∈ es.toList,e.born<clock)∧(es.toList.map (·.born)).Nodup ∧
   (∀(i:Nat) x e,vs[i]?=some x→es[i]?=some e→Rel w A x e.val)∧∃e,es[i]?=some e∧(e.born:Int)=st
 | .iter ks vs vis=>∃bm es clock seen,w.heap[b]?=some (.mapIter (some bm) clock seen clock)∧A bm∧w.heap[bm]?=some (.map es clock)∧es.toList.map (·.key)=ks∧vs.length=ks.length∧(∀e ∈ es.toList,e.born<clock) ∧
   (es.toList.map (·.born)).Nodup∧seen.toList=vis.map (fun i=>(es.toList.map (·.born)).getD i 0)∧(∀i ∈ vis,i<ks.length)∧∀(i:Nat) x e,vs[i]?=some x→es[i]?=some e→Rel w A x e.val
theorem BlkRel.later {w w':World} {A A':Foot} {b:Nat} {x:ABlk} (h:BlkRel w A b x) (hb:w'.heap[b]?=w.heap[b]?) (hw:∀b,A b→w'.heap[b]?=w.heap[b]?) (hA:∀b,A b→A' b) :
  BlkRel w' A' b x:=by
 cases x with
 | row t k xs cap =>
  obtain⟨c,h1,h2,h3,h4,h5,h6⟩:=h
  exact⟨c,hb.trans h1,h2,h3,h4,h5,fun i x j y u hx hy hu=>(h6 i x j y u hx hy hu).later hw hA⟩
 | amap ks vs =>
  obtain⟨es,clock,h1,h2,h3,h4,h5,h6⟩:=h
  exact⟨es,clock,hb.trans h1,h2,h3,h4,h5,fun i x e hx he=>(h6 i x e hx he).later hw hA⟩
 | obj o=>exact hb.trans h
 | amapE ks vs i st =>
  obtain⟨es,clock,h1,h2,h3,h4,h5,h6,h7⟩:=h
  exact⟨es,clock,hb.trans h1,h2,h3,h4,h5,fun i x e hx he=>(h6 i x e hx he).later hw hA,h7⟩
 | iter ks vs vis =>
  obtain⟨bm,es,clock,seen,h1,h2,h3,h4,h5,h6,h7,h8,h9,h10⟩:=h
  exact⟨bm,es,clock,seen,hb.trans h1,hA bm h2,(hw bm h2).trans h3,h4,h5,h6,h7,h8,h9,fun i x e hx he=>(h10 i x e hx he).later hw hA⟩
theorem BlkRel.lt {w:World} {A:Foot} {b:Nat} {x:ABlk} (h:BlkRel w A b x):b<w.heap.size:=by
 cases x with
 | row t k xs cap=>obtain⟨c,h1,_⟩:=h;exact(Array.getElem?_eq_some_iff.1 h1).1
 | amap ks vs=>obtain⟨es,clock,h1,_⟩:=h;exact(Array.getElem?_eq_some_iff.1 h1).1
 | obj o=>exact(Array.getElem?_eq_some_iff.1 h).1
 | amapE ks vs i st=>obtain⟨es,clock,h1,_⟩:=h;exact(Array.getElem?_eq_some_iff.1 h1).1
 | iter ks vs vis=>obtain⟨bm,es,clock,seen,h1,_⟩:=h;exact(Array.getElem?_eq_some_iff.1 h1).1
structure Fr (w:World) (M:Foot) (w':World):Prop where
 os:w'.os=w.os
 tape:w'.tape=w.tape
 output:w'.output=w.output
 size:w.heap.size≤w'.heap.size
 block:∀k,k<w.heap.size→¬M k→w'.heap[k]?=w.heap[k]?
 drawn:w.drawn≤w'.drawn
theorem Fr.refl (w:World) (M:Foot):Fr w M w:=⟨rfl,rfl,rfl,Nat.le_refl _,fun _ _ _=>rfl,Nat.le_refl _⟩
theorem Fr.trans {w w1 w2:World} {M M':Foot} (h:Fr w M w1) (k:Fr w1 M' w2) (hM:∀b,M' b→M b∨w.heap.size≤b):Fr w M w2 :=
 ⟨k.os.trans h.os,k.tape.trans h.tape,k.output.trans h.output,Nat.le_trans h.size k.size,fun i hi hn =>
  (k.block i (Nat.lt_of_lt_of_le hi h.size) (fun hm=>by rcases hM i hm with h'|h';exact hn h';omega)).trans (h.block i hi hn),Nat.le_trans h.drawn k.drawn⟩
theorem Fr.drew (w:World) (M:Foot):Fr w M w.drew:=⟨rfl,rfl,rfl,Nat.le_refl _,fun _ _ _=>rfl,Nat.le_succ _⟩
theorem Fr.alloc (w:World) (M:Foot) (o:Obj):Fr w M (w.alloc o):=⟨rfl,rfl,rfl,by simp,fun k hk _=>Below.heap_alloc _ _ _ hk,Nat.le_refl _⟩
theorem Fr.putObj {w:World} {M:Foot} {r:Nat} (hM:M r) (o:Obj):Fr w M (w.putObj r o) :=
 ⟨rfl,rfl,rfl,by simp,fun k _ hn=>World.putObj_heap_other (fun e=>hn (by rw[e];exact hM)),Nat.le_refl _⟩
def partsAV:List AV:=[-1,0,0,0,0,1,2,2,2,2,2,2,2,0,0,1,2,2,1,1,1,1].map fun n => .v (.int .i64 n)
def GV:Nat→Option AV:=fun g=>if g=0 then some (.rp 1 partsAV 0 0) else none
structure LRel (w:World) (A:Foot) (L:AHeap):Prop where
 abnd:∀b,A b→b<w.heap.size
 disj:∀x ∈ L,¬A x.1
 nodup:(L.map (·.1)).Nodup
 blk:∀x ∈ L,BlkRel w A x.1 x.2
 glob:∀g x,GV g=some x→Rel w A x (.pointer (some ⟨g,0,none⟩))
theorem LRel.globL {w w':World} {A A':Foot} {L:AHeap} (h:LRel w A L) (hw:∀b,A b→w'.heap[b]?=w.heap[b]?) (hA:∀b,A b→A' b):∀g x,GV g=some x→Rel w' A' x (.pointer (some ⟨g,0,none⟩)) :=
 fun g x hx=>(h.glob g x hx).later hw hA
def keysOf (L:AHeap):Foot:=fun b=>∃x ∈ L,x.1=b
abbrev Env:=List (Nat × AV)
def get:Env→Nat→AV
 | [],_ => .any
 | (j,x) :: r,i=>if i=j then x else get r i
def put (ρ:Env) (d:Option Tmp) (x:AV):Env :=
 match d with
 | some d=>(d,x) :: ρ
 | none=>ρ
def St (w0:World) (M A0:Foot) (N:Nat) (ρ:Env) (L:AHeap) (a:Act) (w:World):Prop :=
 ∃(A:Foot) (ds:List Nat),Fr w0 M w∧(∀b,A b→A0 b∨M b∨w0.heap.size≤b)∧LRel w A L∧(∀x ∈ L,M x.1∨w0.heap.size≤x.1) ∧
  a.tmps.size=N∧(∀i,Rel w A (get ρ i) (a.tmps.getD i undef)) ∧
  a.defers=ds.map (fun D => { target:=.collected D,args:=#[] }) ∧
  (∀D ∈ ds,w.heap[D]?=some (.deferred (some []))∧¬A D∧¬keysOf L D∧(M D∨w0.heap.size≤D))∧ds.Nodup
def Fw (r:Option Nat):Fence:={ Fence.wide with round:=r }
end Go.AL
end
section
namespace Go.AL
open Go Go.RowKit
inductive TK where
 | int (k:IntKind)|bool|str|slice (e:TypeId)|ptr (e:TypeId)|arr (n:Nat) (e:TypeId)|struct (fs:List (Nat × TypeId))|map (k e:TypeId)|func|tuple|other
structure TI where
 k:TK
 size:Nat
 bytes:Nat
 zero:AV
def tk:TypeDesc→TK
 | .int k => .int k
 | .bool => .bool
 | .string => .str
 | .slice e => .slice e
 | .pointer e => .ptr e
 | .array n e => .arr n e
 | .struct fs => .struct (fs.toList.map fun f=>(f.offset,f.type))
 | .map k e => .map k e
 | .func _ _ _ => .func
 | .tuple _ => .tuple
 | _ => .other
def zav:Value→AV
 | .agg cs => .agg (cs.toList.map .v)
 | z => .v z
def tinfo (P:Program) (t:TypeId):Option TI :=
 match P.underlying t,P.info? t with
 | some d,some i=>match i.zero with
  | some z=>some ⟨tk d,i.size,i.bytes,zav z⟩
  | none=>none
 | _,_=>none
def TI.agg (ti:TI):Bool:=match ti.k with | .arr _ _=>true | .struct _=>true|_=>false
theorem tinfo_inv {P:Program} {t:TypeId} {ti:TI} (h:tinfo P t=some ti) :
  ∃d i z,P.underlying t=some d∧P.info? t=some i∧i.zero=some z∧ti=⟨tk d,i.size,i.bytes,zav z⟩:=by
 unfold tinfo at h
 split at h
 ·rename_i d i hd hi
  split at h
  ·rename_i z hz
   exact⟨d,i,z,hd,hi,hz,(Option.some.inj h).symm⟩
  ·cases h
 ·cases h
theorem agg_tk (d:TypeDesc) (s b:Nat) (z:AV):(TI.agg ⟨tk d,s,b,z⟩)=d.isRow:=by cases d <;> rfl
theorem tk_slice {d:TypeDesc} {e:TypeId} (h:tk d = .slice e):d = .slice e:=by cases d <;> simp [tk] at h;rw[h]
theorem tk_arr {d:TypeDesc} {n:Nat} {e:TypeId} (h:tk d = .arr n e):d = .array n e:=by cases d <;> simp [tk] at h;rw[h.1,h.2]
theorem tk_str {d:TypeDesc} (h:tk d = .str):d = .string:=by cases d <;> simp [tk] at h;rfl
theorem tk_bool {d:TypeDesc} (h:tk d = .bool):d = .bool:=by cases d <;> simp [tk] at h;rfl
theorem tk_int {d:TypeDesc} {k:IntKind} (h:tk d = .int k):d = .int k:=by cases d <;> simp [tk] at h;rw[h]
theorem tk_ptr {d:TypeDesc} {e:TypeId} (h:tk d = .ptr e):d = .pointer e:=by cases d <;> simp [tk] at h;rw[h]
theorem tk_map {d:TypeDesc} {k e:TypeId} (h:tk d = .map k e):d = .map k e:=by cases d <;> simp [tk] at h;rw[h.1,h.2]
theorem tk_struct {d:TypeDesc} {l:List (Nat × TypeId)} (h:tk d = .struct l):∃fs,d = .struct fs∧l=fs.toList.map fun f=>(f.offset,f.type):=by
 cases d <;> simp [tk] at h
 exact⟨_,rfl,h.symm⟩
section runs
variable {P:Program} {w:World}
theorem run_sizeOf_i {t:TypeId} {i:TypeInfo} (h:P.info? t=some i):(sizeOf t).run P w = .ok i.size w:=by simp [sizeOf,typeInfo,h]
theorem run_zeroValue_i {t:TypeId} {i:TypeInfo} {z:Value} (h:P.info? t=some i) (hz:i.zero=some z):(zeroValue t).run P w = .ok z w:=by simp [zeroValue,typeInfo,h,hz]
theorem run_isAgg_i {t:TypeId} {d:TypeDesc} (h:P.underlying t=some d):(isAgg t).run P w = .ok d.isRow w:=by
 unfold isAgg
 rw[Sem.run_bind,run_underlying h w]
 cases d <;> rfl
end runs
structure RowR (w:World) (A:Foot) (b base k:Nat) (xs:List AV):Prop where
 len:∀x ∈ xs,elOk k x
 cell:∀(i:Nat) x (m:Nat) y,xs[i]?=some x→x.cells[m]?=some y→∃u,w.cell? ⟨b,base+(i * k+m),none⟩=some u∧Rel w A y u
theorem idx_lt {i k m n:Nat} (hi:i<n) (hm:m<k):i * k+m<n * k:=by
 have:(i+1) * k≤n * k:=Nat.mul_le_mul_right k hi
 rw[Nat.add_mul,Nat.one_mul] at this
 omega
theorem RowR.of_c {w:World} {A:Foot} {b base k:Nat} {xs:List AV} {c:Nat→Value} (hk:∀x ∈ xs,elOk k x)
  (hw:∀i,i<xs.length * k→w.cell? ⟨b,base+i,none⟩=some (c i)) (h:∀(i:Nat) x (j:Nat) y,xs[i]?=some x→x.cells[j]?=some y→Rel w A y (c (i * k+j))):RowR w A b base k xs :=
 ⟨hk,fun i x m y hx hy=>⟨_,hw _ (idx_lt (List.getElem?_eq_some_iff.1 hx).1 (by
  have:=(List.getElem?_eq_some_iff.1 hy).1
  rw[(hk x (List.mem_of_getElem? hx)).1] at this;exact this)),h i x m y hx hy⟩⟩
theorem RowR.of_blk {w:World} {A:Foot} {b:Nat} {t:TypeId} {k:Nat} {xs:List AV} {cap:Nat} (h:BlkRel w A b (.row t k xs cap)):RowR w A b 0 k xs:=by
 obtain⟨c,h1,h2,h3,h4,h5,h6⟩:=h
 refine⟨h5,fun i x m y hx hy => ?_⟩
 have hm:=(List.getElem?_eq_some_iff.1 hy).1
 rw[(h5 x (List.mem_of_getElem? hx)).1] at hm
 have hlt:i * k+m<c.size:=by
  rw[h2];exact Nat.lt_of_lt_of_le (idx_lt (List.getElem?_eq_some_iff.1 hx).1 hm) (Nat.mul_le_mul_right k h3)
 have hc:c[i * k+m]?=some c[i * k+m]:=Array.getElem?_eq_getElem hlt
 exact⟨c[i * k+m],by rw[Nat.zero_add,cell_of_row w b _ c t _ h1,hc],h6 i x m y _ hx hy hc⟩
def loadAV (ti:TI) (x:AV) (j:Nat):AV:=if ti.agg then .agg ((x.cells.drop j).take ti.size) else x.cells.getD j .any
theorem getD_get {xs:List AV} {i:Nat} (h:i<xs.length):xs[i]?=some (xs.getD i .any):=by
 simp [List.getD,List.getElem?_eq_getElem h]
theorem load_ok {P:Program} {w:World} {A:Foot} {t:TypeId} {ti:TI} (hti:tinfo P t=some ti) {b base k:Nat} {xs:List AV} (R:RowR w A b base k xs) {i j:Nat} (hi:i<xs.length)
  (hj:if ti.agg then j+ti.size≤k else j<k) :
  ∃u,(loadVar t ⟨b,base+(i * k+j),none⟩).run P w = .ok u w∧Rel w A (loadAV ti (xs.getD i .any) j) u:=by
 obtain⟨d,inf,z,hd,hinf,hz,rfl⟩:=tinfo_inv hti
 have hx:=getD_get hi
 generalize xs.getD i .any=x at *
 have hlen:=(R.len x (List.mem_of_getElem? hx)).1
 unfold loadAV
 rw[agg_tk] at hj ⊢
 dsimp only at hj ⊢
 by_cases hr:d.isRow=true
 ·rw[if_pos hr] at hj ⊢
  have hcell:∀m,m<inf.size→∃u y,w.cell? ⟨b,base+(i * k+j)+m,none⟩=some u∧x.cells[j+m]?=some y∧Rel w A y u:=fun m hm=>by
   have hy:j+m<x.cells.length:=by omega
   obtain⟨u,hu,hr⟩:=R.cell i x (j+m) _ hx (List.getElem?_eq_getElem hy)
   exact⟨u,_,by rw[← hu];congr 2;omega,List.getElem?_eq_getElem hy,hr⟩
  let cs:List Value:=(List.range inf.size).map fun m=>(w.cell? ⟨b,base+(i * k+j)+m,none⟩).getD undef
  have hcs:cs.length=inf.size:=by simp [cs]
  have hrange:w.rangeAt b (base+(i * k+j)) cs:=fun m v hv=>by
   have hm:m<inf.size:=by have:=(List.getElem?_eq_some_iff.1 hv).1;omega
   obtain⟨u,y,hu,_,_⟩:=hcell m hm
   simp [cs,hm,hu] at hv
   rw[hu,hv]
  refine⟨.agg cs.toArray,run_loadVar_mid w b _ t cs d hrange hd hr (by simp [hinf,hcs]),.agg _ _ (by simp [hcs];omega) ?_⟩
  intro m y u hy hu
  have hm:m<inf.size:=by
   have:=(List.getElem?_eq_some_iff.1 hy).1
   simp at this;omega
  obtain⟨u',y',hu',hy',hrel⟩:=hcell m hm
  have e1:((x.cells.drop j).take inf.size)[m]?=some y':=by
   rw[List.getElem?_take,if_pos hm,List.getElem?_drop];exact hy'
  have e2:cs.toArray[m]?=some u':=by simp [cs,hm,hu']
  rw[e1] at hy;rw[e2] at hu
  cases hy;cases hu
  exact hrel
 ·rw[if_neg hr] at hj ⊢
  have hy:j<x.cells.length:=by omega
  obtain⟨u,hu,hrel⟩:=R.cell i x j _ hx (List.getElem?_eq_getElem hy)
  refine⟨u,?_,?_⟩
  ·simp only[loadVar,Sem.run_bind,run_isAgg_i hd,Result.andThen_ok,hr,Bool.false_eq_true]
   simp [run_load,hu]
  ·rw[List.getD,List.getElem?_eq_getElem hy];exact hrel
def fo:AV→Prop × AV
 | .cond b x=>(b=true,x)
 | x=>(True,x)
theorem fo_ok {w:World} {A:Foot} {x:AV} {u:Value} (h:Rel w A x u) (hc:(fo x).1):Rel w A (fo x).2 u:=by
 cases x <;> first|exact h|skip
 rename_i b y
 cases h with
 | cond _ _ _ h _=>exact h hc
def ev (ρ:Env):Operand→AV
 | .tmp t=>get ρ t
 | .const x => .v x
 | .global g=>match GV g with
  | some x=>x
  | none => .v (.pointer (some ⟨g,0,none⟩))
 | .func f => .v (.func (.func f) #[] #[])
def lk:AHeap→Nat→Option ABlk
 | [],_=>none
 | (b',x) :: r,b=>if b=b' then some x else lk r b
theorem lk_mem {L:AHeap} {b:Nat} {x:ABlk} (h:lk L b=some x):(b,x) ∈ L:=by
 induction L with
 | nil=>cases h
 | cons y r ih =>
  obtain⟨b',y⟩:=y
  simp only[lk] at h
  split at h
  ·rename_i e;subst e;cases h;exact List.mem_cons_self
  ·exact List.mem_cons_of_mem _ (ih h)
theorem LRel.lk {w:World} {A:Foot} {L:AHeap} (h:LRel w A L) {b:Nat} {x:ABlk} (hb:lk L b=some x):BlkRel w A b x:=h.blk _ (lk_mem hb)
abbrev ai (n:Int):AV:=.v (.int .i64 n)
abbrev ab (b:Bool):AV:=.v (.bool b)
abbrev anil:AV:=.v (.slice none 0 0)
def pickAV (t:Bool) (x y:AV):AV :=
 match x,y with
 | .v (.bool a),.v (.bool b)=>ab (if t then a else b)
 | .v (.int .i64 a),.v (.int .i64 b)=>ai (if t then a else b)
 | x,y=>if t then x else y
theorem pickAV_eq (t:Bool) (x y:AV):pickAV t x y=if t then x else y:=by
 unfold pickAV
 split
 ·cases t <;> rfl
 ·cases t <;> rfl
 ·rfl
def I64 (z:Int):Prop:=-9223372036854775808≤z∧z≤9223372036854775807
def ldOk (ti:TI) (k j:Nat):Prop:=if ti.agg then j+ti.size≤k else j<k
def aLoad (P:Program) (L:AHeap) (t:TypeId) (p:AV):Option (Prop × AV) :=
 match tinfo P t with
 | none=>none
 | some ti=>match p with
  | .rp k xs i j=>some (i<xs.length∧ldOk ti k j,loadAV ti (xs.getD i .any) j)
  | .lp b k i j=>match lk L b with
   | some (.row _ k' xs _)=>some (k=k'∧i<xs.length∧ldOk ti k j,loadAV ti (xs.getD i .any) j)
   | _=>none
  | _=>none
def aFieldAddr (P:Program) (s:TypeId) (p:AV) (f:Nat):Option (Prop × AV) :=
 match tinfo P s with
 | some ⟨.struct fs,_,_,_⟩=>match fs[f]? with
  | some (off,ft)=>match tinfo P ft with
   | some fi=>match p with
    | .rp k xs i j=>some (fi.size ≠ 0,.rp k xs i (j+off))
    | .lp b k i j=>some (fi.size ≠ 0,.lp b k i (j+off))
    | _=>none
   | none=>none
  | none=>none
 | _=>none
def aIndexAddr (P:Program) (t:TypeId) (x ix:AV):Option (Prop × AV) :=
 match tinfo P t,ix with
 | some ⟨.slice e,_,_,_⟩,.v (.int _ n)=>match tinfo P e with
  | some ei=>match x with
   | .sl k xs=>some (k=ei.size∧0≤n∧n<xs.length,.rp k xs n.toNat 0)
   | .ls b k off len _=>some (k=ei.size∧0≤n∧n<len,.lp b k (off+n.toNat) 0)
   | _=>none
  | none=>none
 | some ⟨.arr m e,_,_,_⟩,.v (.int _ n)=>match tinfo P e with
  | some ei=>match x with
   | .rp k xs i j=>some (0≤n∧n<m,if k=ei.size∧j=0 then .rp k xs (i+n.toNat) 0 else .rp k xs i (j+n.toNat * ei.size))
   | .lp b k i j=>some (0≤n∧n<m,if k=ei.size∧j=0 then .lp b k (i+n.toNat) 0 else .lp b k i (j+n.toNat * ei.size))
   | _=>none
  | none=>none
 | _,_=>none
def aIndex (P:Program) (t:TypeId) (x ix:AV):Option (Prop × AV) :=
 match tinfo P t,x,ix with
 | some ⟨.str,_,_,_⟩,.v (.string s),.v (.int _ n)=>some (0≤n∧n<s.size,.v (.int .u8 (s.get! n.toNat).toNat))
 | some ⟨.arr m e,_,_,_⟩,.agg cs,.v (.int _ n)=>match tinfo P e with
  | some ei=>some (ei.agg=false∧0≤n∧n<m∧n.toNat * ei.size<cs.length,cs.getD (n.toNat * ei.size) .any)
  | none=>none
 | _,_,_=>none
def aField (P:Program) (t:TypeId) (x:AV) (f:Nat):Option (Prop × AV) :=
 match tinfo P t,x with
 | some ⟨.struct fs,_,_,_⟩,.agg cs=>match fs[f]? with
  | some (off,ft)=>match tinfo P ft with
   | some fi=>if fi.agg then some (off+fi.size≤cs.length,.agg ((cs.drop off).take fi.size)) else some (off<cs.length,cs.getD off .any)
   | none=>none
  | none=>none
 | _,_=>none
def bnd (d:Int):Option AV→Option Int
 | none=>some d
 | some (.v (.int _ n))=>some n
 | _=>none
def aSlice (P:Program) (t:TypeId) (x:AV) (lo hi:Option AV):Option (Prop × AV) :=
 match tinfo P t with
 | some ⟨.slice e,_,_,_⟩=>match tinfo P e with
  | some ei=>match x with
   | .sl k xs=>match bnd 0 lo,bnd xs.length hi with
    | some l,some h=>some (k=ei.size∧0≤l∧l≤h∧h≤xs.length,.sl k ((xs.take h.toNat).drop l.toNat))
    | _,_=>none
   | .ls b k off len cap=>match bnd 0 lo,bnd len hi with
    | some l,some h=>some (k=ei.size∧0≤l∧l≤h∧h≤cap,.ls b k (off+l.toNat) (h.toNat - l.toNat) (cap - l.toNat))
    | _,_=>none
   | .v (.slice none 0 0)=>match bnd 0 lo,bnd 0 hi with
    | some l,some h=>some (l=0∧h=0,anil)
    | _,_=>none
   | _=>none
  | none=>none
 | some ⟨.str,_,_,_⟩=>match x with
  | .v (.string s)=>match bnd 0 lo,bnd s.size hi with
   | some l,some h=>some (0≤l∧l≤h∧h≤s.size,.v (.string (s.extract l.toNat h.toNat)))
   | _,_=>none
  | _=>none
 | _=>none
def aLen (P:Program) (L:AHeap) (t:TypeId) (x:AV):Option (Prop × AV) :=
 match tinfo P t with
 | some ⟨.slice _,_,_,_⟩=>match x with
  | .sl _ xs=>some (True,ai xs.length)
  | .ls _ _ _ len _=>some (True,ai len)
  | .v (.slice _ n _)=>some (True,ai n)
  | .any=>some (False,.any)
  | _=>none
 | some ⟨.str,_,_,_⟩=>match x with
  | .v (.string s)=>some (True,ai s.size)
  | _=>none
 | some ⟨.arr n _,_,_,_⟩=>some (True,ai n)
 | some ⟨.ptr e,_,_,_⟩=>match tinfo P e with
  | some ⟨.arr n _,_,_,_⟩=>some (True,ai n)
  | _=>none
 | some ⟨.map _ _,_,_,_⟩=>match x with
  | .rm ks _=>some (True,ai ks.length)
  | .lm b=>match lk L b with
   | some (.amap ks _)=>some (True,ai ks.length)
   | _=>none
  | .v (.map none)=>some (True,ai 0)
  | _=>none
 | _=>none
def aCap (P:Program) (t:TypeId) (x:AV):Option (Prop × AV) :=
 match tinfo P t with
 | some ⟨.slice _,_,_,_⟩=>match x with
  | .ls _ _ _ _ cap=>some (True,ai cap)
  | .v (.slice _ _ n)=>some (True,ai n)
  | _=>none
 | _=>none
def seqB (a b:ByteArray):Bool:=a.toList == b.toList
def mulW (a b:Int):Int:=IntKind.i64.wrap (a * b)
def orK (k:IntKind) (a b:Int):Int:=k.wrap (BitVec.ofInt k.bits a ||| BitVec.ofInt k.bits b).toNat
def andK (k:IntKind) (a b:Int):Int:=k.wrap (BitVec.ofInt k.bits a &&& BitVec.ofInt k.bits b).toNat
def xorK (k:IntKind) (a b:Int):Int:=k.wrap (BitVec.ofInt k.bits a ^^^ BitVec.ofInt k.bits b).toNat
def andNotK (k:IntKind) (a b:Int):Int:=k.wrap (BitVec.ofInt k.bits a &&& ~~~BitVec.ofInt k.bits b).toNat
def shlK (k:IntKind) (a b:Int):Int:=k.wrap (a * 2 ^ (min b.toNat k.bits))
def shrK (k:IntKind) (a b:Int):Int:=a.fdiv (2 ^ (min b.toNat k.bits))
def aBin (P:Program) (op:BinOp) (t:TypeId) (x y:AV):Option (Prop × AV) :=
 match x,y with
 | .v (.int k a),.v (.int k' b)=>match op with
  | .add=>if k = .i64 then some (k' = .i64∧I64 (a+b),ai (a+b)) else some (k'=k,.v (.int k (k.wrap (a+b))))
  | .sub=>if k = .i64 then some (k' = .i64∧I64 (a - b),ai (a - b)) else some (k'=k,.v (.int k (k.wrap (a - b))))
  | .mul=>if k = .i64 then some (k' = .i64,ai (mulW a b)) else some (k'=k,.v (.int k (k.wrap (a * b))))
  | .quo=>some (k'=k∧b ≠ 0,.v (.int k (k.wrap (a.tdiv b))))
  | .rem=>some (k'=k∧b ≠ 0,.v (.int k (a.tmod b)))
  | .eql=>some (k'=k,ab (decide (a=b)))
  | .neq=>some (k'=k,ab (!decide (a=b)))
  | .lss=>some (k'=k,ab (decide (a<b)))
  | .leq=>some (k'=k,ab (decide (a≤b)))
  | .gtr=>some (k'=k,ab (decide (b<a)))
  | .geq=>some (k'=k,ab (decide (b≤a)))
  | .or=>some (k'=k,.v (.int k (orK k a b)))
  | .and=>some (k'=k,.v (.int k (andK k a b)))
  | .xor=>some (k'=k,.v (.int k (xorK k a b)))
  | .andNot=>some (k'=k,.v (.int k (andNotK k a b)))
  | .shl=>some (0≤b,.v (.int k (shlK k a b)))
  | .shr=>some (0≤b,.v (.int k (shrK k a b)))
 | .v (.bool a),.v (.bool b)=>match tinfo P t,op with
  | some ⟨.bool,_,_,_⟩,.eql=>some (True,ab (decide (a=b)))
  | some ⟨.bool,_,_,_⟩,.neq=>some (True,ab (!decide (a=b)))
  | _,_=>none
 | .v (.string a),.v (.string b)=>match op with
  | .eql=>some (True,ab (seqB a b))
  | .neq=>some (True,ab (!seqB a b))
  | .lss=>some (True,ab (Op.bytesLess a.toList b.toList))
  | .gtr=>some (True,ab (!(Op.bytesLess a.toList b.toList || seqB a b)))
  | .leq=>some (True,ab (Op.bytesLess a.toList b.toList || seqB a b))
  | _=>none
 | x,.v (.slice none 0 0)=>match tinfo P t with
  | some ⟨.slice _,_,_,_⟩=>match op,x with
   | .eql,.v (.slice none 0 0)=>some (True,ab true)
   | .neq,.v (.slice none 0 0)=>some (True,ab false)
   | .eql,.ls _ _ _ _ _=>some (True,ab false)
   | .neq,.ls _ _ _ _ _=>some (True,ab true)
   | _,_=>none
  | _=>none
 | .any,.v (.int _ _)=>some (False,ab false)      -- behind a guard that is false
 | _,_=>none
def aUn (op:UnOp) (x:AV):Option (Prop × AV) :=
 match op,x with
 | .not,.v (.bool b)=>some (True,ab (!b))
 | .neg,.v (.int .i64 n)=>some (I64 (-n),ai (-n))
 | .not,.any=>some (False,ab true)      -- behind a guard that is false
 | _,_=>none
def aConv (P:Program) (src dst:TypeId) (x:AV):Option (Prop × AV) :=
 match tinfo P src,tinfo P dst,x with
 | some _,some ⟨.int k,_,_,_⟩,.v (.int _ n)=>some (True,.v (.int k (k.wrap n)))
 | _,_,_=>none
def aMin (x y:AV):Option (Prop × AV) :=
 match x,y with
 | .v (.int k a),.v (.int k' b)=>some (k'=k,.v (.int k (if b<a then b else a)))
 | _,_=>none
def aMax (x y:AV):Option (Prop × AV) :=
 match x,y with
 | .v (.int k a),.v (.int k' b)=>some (k'=k,.v (.int k (if a<b then b else a)))
 | _,_=>none
def aExtract (x:AV) (i:Nat):Option (Prop × AV) :=
 match x with
 | .tup xs=>some (i<xs.length,xs.getD i .any)
 | _=>none
def aNil (x:AV):Option (Prop × AV) :=
 match x with
 | .rp .. | .lp .. | .clo .. => some (True,x)
 | .v (.pointer (some _))=>some (True,x)
 | .v (.func (.func _) _ _)=>some (True,x)
 | _=>none
end Go.AL
end
section
namespace Go.AL
open Go Go.RowKit
section
variable {P:Program} {w:World} {A:Foot} {L:AHeap} {c:Prop} {x:AV}
theorem Rel.inv_v {w:World} {A:Foot} {x u:Value} (h:Rel w A (.v x) u):u=x:=by cases h;rfl
theorem Rel.inv_rp {k:Nat} {xs:List AV} {i j:Nat} {u:Value} (h:Rel w A (.rp k xs i j) u) :
  ∃b off,u = .pointer (some ⟨b,off+(i * k+j),none⟩)∧RowR w A b off k xs∧∀i' j',Rel w A (.rp k xs i' j') (.pointer (some ⟨b,off+(i' * k+j'),none⟩)):=by
 cases h with
 | rp _ _ _ _ b off cc hA hk hw h=>exact⟨b,off,rfl,.of_c hk hw h,fun i' j' => .rp k xs i' j' b off cc hA hk hw h⟩
theorem Rel.inv_lp {b k i j:Nat} {u:Value} (h:Rel w A (.lp b k i j) u):u = .pointer (some ⟨b,i * k+j,none⟩):=by cases h;rfl
theorem Rel.inv_ls {b k off len cap:Nat} {u:Value} (h:Rel w A (.ls b k off len cap) u):∃o,u = .slice (some ⟨b,o,none⟩) len cap∧len≤cap∧cap≤maxLen∧(o=off * k∨cap=0):=by
 cases h with
 | ls _ _ _ _ _ o hl hc ho=>exact⟨o,rfl,hl,hc,ho⟩
theorem aLoad_ok {t:TypeId} {p:AV} {pv:Value} (h:aLoad P L t p=some (c,x)) (hc:c) (hL:LRel w A L) (hp:Rel w A p pv) :
  ∃u,(Instr.loadAt t pv).run P w = .ok u w∧Rel w A x u:=by
 unfold aLoad at h
 split at h
 ·cases h
 ·rename_i ti hti
  split at h
  ·rename_i k xs i j
   cases h
   obtain⟨b,off,rfl,R,_⟩:=hp.inv_rp
   obtain⟨u,hu,hr⟩:=load_ok hti R hc.1 hc.2
   exact⟨u,by simpa [Instr.loadAt,Instr.sureAddr] using hu,hr⟩
  ·rename_i b k i j
   obtain rfl:=hp.inv_lp
   split at h
   ·rename_i t' k' xs cap hlk
    cases h
    obtain⟨rfl,h1,h2⟩:=hc
    obtain⟨u,hu,hr⟩:=load_ok hti (RowR.of_blk (hL.lk hlk)) h1 h2
    rw[Nat.zero_add] at hu
    exact⟨u,by simpa [Instr.loadAt,Instr.sureAddr] using hu,hr⟩
   ·cases h
  ·cases h
theorem aFieldAddr_ok {s:TypeId} {p:AV} {f:Nat} {pv:Value} (h:aFieldAddr P s p f=some (c,x)) (hc:c) (hp:Rel w A p pv) :
  ∃u,(Instr.fieldAt s pv f).run P w = .ok u w∧Rel w A x u:=by
 unfold aFieldAddr at h
 split at h
 ·rename_i fs _ _ _ hti
  obtain⟨d,inf,z,hd,hinf,hz,e⟩:=tinfo_inv hti
  simp only[TI.mk.injEq] at e
  obtain⟨e1,-,-,-⟩:=e
  obtain⟨fa,rfl,rfl⟩:=tk_struct e1.symm
  split at h
  ·rename_i off ft hf
   simp only[List.getElem?_map,Array.getElem?_toList,Option.map_eq_some_iff] at hf
   obtain⟨fd,hfd,hf2⟩:=hf
   cases hf2
   split at h
   ·rename_i fi hfi
    obtain⟨d2,inf2,z2,hd2,hinf2,hz2,rfl⟩:=tinfo_inv hfi
    have run:∀(b o:Nat),inf2.size ≠ 0→(Instr.fieldAt s (.pointer (some ⟨b,o,none⟩)) f).run P w = .ok (.pointer (some ⟨b,o+fd.offset,none⟩)) w:=fun b o hs=>by
     simp [Instr.fieldAt,run_underlying hd,hfd,Instr.sureAddr,fieldPlace,run_sizeOf_i hinf2,hs,Addr.add_lit]
    split at h
    ·rename_i k xs i j
     cases h
     obtain⟨b,off,rfl,R,mk⟩:=hp.inv_rp
     exact⟨_,run _ _ hc,by have:=mk i (j+fd.offset);rwa [show off+(i * k+(j+fd.offset))=off+(i * k+j)+fd.offset by omega] at this⟩
    ·rename_i b k i j
     cases h
     obtain rfl:=hp.inv_lp
     exact⟨_,run _ _ hc,by have:=Rel.lp (w:=w) (A:=A) b k i (j+fd.offset);rwa [show i * k+(j+fd.offset)=i * k+j+fd.offset by omega] at this⟩
    ·cases h
   ·cases h
  ·cases h
 ·cases h
theorem aIndexAddr_ok {t:TypeId} {p ix:AV} {pv iv:Value} (h:aIndexAddr P t p ix=some (c,x)) (hc:c) (hp:Rel w A p pv) (hi:Rel w A ix iv) :
  ∃u,(Instr.indexAt t pv iv).run P w = .ok u w∧Rel w A x u:=by
 unfold aIndexAddr at h
 split at h
 ·rename_i e _ _ _ kd n hti
  obtain⟨d,inf,z,hd,hinf,hz,e0⟩:=tinfo_inv hti
  simp only[TI.mk.injEq] at e0
  obtain⟨e1,-,-,-⟩:=e0
  obtain rfl:=tk_slice e1.symm
  obtain rfl:=hi.inv_v
  split at h
  ·rename_i ei hei
   obtain⟨d2,inf2,z2,hd2,hinf2,hz2,rfl⟩:=tinfo_inv hei
   split at h
   ·rename_i k xs
    cases h
    obtain⟨rfl,h0,h1⟩:=hc
    cases hp with
    | sl0 _ a cap _=>simp at h1;omega
    | sl _ _ b off cap cc hA hl hcap hk hw hh =>
     refine⟨.pointer (some ⟨b,off+(n.toNat * inf2.size+0),none⟩),?_,.rp _ _ _ _ b off cc hA hk hw hh⟩
     simp [Instr.indexAt,asIntOf,run_underlying hd,h0,h1,run_sizeOf_i hinf2,Addr.add_lit]
   ·rename_i b k off len cap
    cases h
    obtain⟨rfl,h0,h1⟩:=hc
    obtain⟨o,rfl,hl,hcap,ho⟩:=hp.inv_ls
    have ho:o=off * inf2.size:=by
     rcases ho with ho|ho
     ·exact ho
     ·omega
    subst ho
    refine⟨.pointer (some ⟨b,(off+n.toNat) * inf2.size+0,none⟩),?_,.lp _ _ _ _⟩
    simp [Instr.indexAt,asIntOf,run_underlying hd,h0,h1,run_sizeOf_i hinf2,Addr.add_lit,Nat.add_mul]
   ·cases h
  ·cases h
 ·rename_i m e _ _ _ kd n hti
  obtain⟨d,inf,z,hd,hinf,hz,e0⟩:=tinfo_inv hti
  simp only[TI.mk.injEq] at e0
  obtain⟨e1,-,-,-⟩:=e0
  obtain rfl:=tk_arr e1.symm
  obtain rfl:=hi.inv_v
  split at h
  ·rename_i ei hei
   obtain⟨d2,inf2,z2,hd2,hinf2,hz2,rfl⟩:=tinfo_inv hei
   have run:∀(b o:Nat),0≤n→n<m→(Instr.indexAt t (.pointer (some ⟨b,o,none⟩)) (.int kd n)).run P w = .ok (.pointer (some ⟨b,o+n.toNat * inf2.size,none⟩)) w:=fun b o h0 h1=>by
    simp [Instr.indexAt,asIntOf,run_underlying hd,h0,h1,run_sizeOf_i hinf2,Addr.add_lit,Instr.sureAddr]
   split at h
   ·rename_i k xs i j
    cases h
    obtain⟨b,off,rfl,R,mk⟩:=hp.inv_rp
    refine⟨_,run _ _ hc.1 hc.2,?_⟩
    dsimp only
    split
    ·rename_i hk
     obtain⟨rfl,rfl⟩:=hk
     have:=mk (i+n.toNat) 0
     rwa [show off+((i+n.toNat) * inf2.size+0)=off+(i * inf2.size+0)+n.toNat * inf2.size by rw[Nat.add_mul];omega] at this
    ·have:=mk i (j+n.toNat * inf2.size)
     rwa [show off+(i * k+(j+n.toNat * inf2.size))=off+(i * k+j)+n.toNat * inf2.size by omega] at this
   ·rename_i b k i j
    cases h
    obtain rfl:=hp.inv_lp
    refine⟨_,run _ _ hc.1 hc.2,?_⟩
    dsimp only
    split
    ·rename_i hk
     obtain⟨rfl,rfl⟩:=hk
     have:=Rel.lp (w:=w) (A:=A) b inf2.size (i+n.toNat) 0
     rwa [show (i+n.toNat) * inf2.size+0=i * inf2.size+0+n.toNat * inf2.size by rw[Nat.add_mul];omega] at this
    ·have:=Rel.lp (w:=w) (A:=A) b k i (j+n.toNat * inf2.size)
     rwa [show i * k+(j+n.toNat * inf2.size)=i * k+j+n.toNat * inf2.size by omega] at this
   ·cases h
  ·cases h
 ·cases h
theorem tinfo_slice {t:TypeId} {e:TypeId} {s b:Nat} {z:AV} (h:tinfo P t=some ⟨.slice e,s,b,z⟩):P.underlying t=some (.slice e):=by
 obtain⟨d,inf,z,hd,hinf,hz,e0⟩:=tinfo_inv h
 simp only[TI.mk.injEq] at e0
 rw[hd,tk_slice e0.1.symm]
theorem tinfo_arr {t:TypeId} {e n:Nat} {s b:Nat} {z:AV} (h:tinfo P t=some ⟨.arr n e,s,b,z⟩):P.underlying t=some (.array n e):=by
 obtain⟨d,inf,z,hd,hinf,hz,e0⟩:=tinfo_inv h
 simp only[TI.mk.injEq] at e0
 rw[hd,tk_arr e0.1.symm]
theorem tinfo_str {t:TypeId} {s b:Nat} {z:AV} (h:tinfo P t=some ⟨.str,s,b,z⟩):P.underlying t=some .string:=by
 obtain⟨d,inf,z,hd,hinf,hz,e0⟩:=tinfo_inv h
 simp only[TI.mk.injEq] at e0
 rw[hd,tk_str e0.1.symm]
theorem tinfo_bool {t:TypeId} {s b:Nat} {z:AV} (h:tinfo P t=some ⟨.bool,s,b,z⟩):P.underlying t=some .bool:=by
 obtain⟨d,inf,z,hd,hinf,hz,e0⟩:=tinfo_inv h
 simp only[TI.mk.injEq] at e0
 rw[hd,tk_bool e0.1.symm]
theorem tinfo_int {t:TypeId} {k:IntKind} {s b:Nat} {z:AV} (h:tinfo P t=some ⟨.int k,s,b,z⟩):P.underlying t=some (.int k):=by
 obtain⟨d,inf,z,hd,hinf,hz,e0⟩:=tinfo_inv h
 simp only[TI.mk.injEq] at e0
 rw[hd,tk_int e0.1.symm]
theorem tinfo_ptr {t:TypeId} {e:TypeId} {s b:Nat} {z:AV} (h:tinfo P t=some ⟨.ptr e,s,b,z⟩):P.underlying t=some (.pointer e):=by
 obtain⟨d,inf,z,hd,hinf,hz,e0⟩:=tinfo_inv h
 simp only[TI.mk.injEq] at e0
 rw[hd,tk_ptr e0.1.symm]
theorem tinfo_map {t:TypeId} {k e:TypeId} {s b:Nat} {z:AV} (h:tinfo P t=some ⟨.map k e,s,b,z⟩):P.underlying t=some (.map k e):=by
 obtain⟨d,inf,z,hd,hinf,hz,e0⟩:=tinfo_inv h
 simp only[TI.mk.injEq] at e0
 rw[hd,tk_map e0.1.symm]
theorem tinfo_struct {t:TypeId} {fs:List (Nat × TypeId)} {s b:Nat} {z:AV} (h:tinfo P t=some ⟨.struct fs,s,b,z⟩):∃fa,P.underlying t=some (.struct fa)∧fs=fa.toList.map fun f=>(f.offset,f.type):=by
 obtain⟨d,inf,z,hd,hinf,hz,e0⟩:=tinfo_inv h
 simp only[TI.mk.injEq] at e0
 obtain⟨fa,rfl,h2⟩:=tk_struct e0.1.symm
 exact⟨fa,hd,h2⟩
theorem run_part_agg {t:TypeId} {ti:TI} (hti:tinfo P t=some ti) (ha:ti.agg=true) (us:Array Value) (off:Nat):(part t us off).run P w = .ok (.agg (us.extract off (off+ti.size))) w:=by
 obtain⟨d,inf,z,hd,hinf,hz,rfl⟩:=tinfo_inv hti
 rw[agg_tk] at ha
 simp [part,run_isAgg_i hd,ha,run_sizeOf_i hinf]
theorem run_part_one {t:TypeId} {ti:TI} (hti:tinfo P t=some ti) (ha:ti.agg=false) (us:Array Value) (off:Nat) (u:Value) (hu:us[off]?=some u):(part t us off).run P w = .ok u w:=by
 obtain⟨d,inf,z,hd,hinf,hz,rfl⟩:=tinfo_inv hti
 rw[agg_tk] at ha
 simp [part,run_isAgg_i hd,ha,hu]
theorem aField_ok {t:TypeId} {y:AV} {f:Nat} {yv:Value} (h:aField P t y f=some (c,x)) (hc:c) (hy:Rel w A y yv):∃u,(Instr.field t yv f).run P w = .ok u w∧Rel w A x u:=by
 unfold aField at h
 split at h
 ·rename_i fs _ _ _ cs hti
  obtain⟨fa,hd,rfl⟩:=tinfo_struct hti
  split at h
  ·rename_i off ft hf
   simp only[List.getElem?_map,Array.getElem?_toList,Option.map_eq_some_iff] at hf
   obtain⟨fd,hfd,hf2⟩:=hf
   cases hf2
   split at h
   ·rename_i fi hfi
    cases hy with
    | agg _ us hn hh =>
    split at h
    ·rename_i hag
     cases h
     refine⟨.agg (us.extract fd.offset (fd.offset+fi.size)),by simp [Instr.field,run_underlying hd,hfd,asAgg,run_part_agg hfi hag],.agg _ _ (by simp;omega) ?_⟩
     intro i cc u hi hu
     rw[List.getElem?_take] at hi
     split at hi
     ·rw[List.getElem?_drop] at hi
      rw[Array.getElem?_extract] at hu
      split at hu
      ·exact hh _ _ _ hi hu
      ·cases hu
     ·cases hi
    ·rename_i hag
     cases h
     have hlt:fd.offset<us.size:=by omega
     refine⟨us[fd.offset],by simp [Instr.field,run_underlying hd,hfd,asAgg,run_part_one hfi (by simpa using hag) us _ _ (Array.getElem?_eq_getElem hlt)],?_⟩
     exact hh _ _ _ (getD_get hc) (Array.getElem?_eq_getElem hlt)
   ·cases h
  ·cases h
 ·cases h
theorem aIndex_ok {t:TypeId} {y ix:AV} {yv iv:Value} (h:aIndex P t y ix=some (c,x)) (hc:c) (hy:Rel w A y yv) (hi:Rel w A ix iv):∃u,(Instr.index t yv iv).run P w = .ok u w∧Rel w A x u:=by
 unfold aIndex at h
 split at h
 ·rename_i s kd n hti
  cases h
  obtain rfl:=hi.inv_v
  obtain rfl:=hy.inv_v
  obtain⟨h0,h1⟩:=hc
  refine⟨_,?_,.v _⟩
  have hlt:n.toNat<s.size:=by omega
  have hget:s[n.toNat]?=some (s.get! n.toNat):=by
   rw[getElem?_pos s n.toNat hlt]
   obtain⟨d⟩:=s
   show some d[n.toNat]=some (d[n.toNat]!)
   rw[getElem!_pos d n.toNat hlt]
  simp [Instr.index,asIntOf,run_underlying (tinfo_str hti),h0,hget]
 ·rename_i m e _ _ _ cs kd n hti
  obtain rfl:=hi.inv_v
  split at h
  ·rename_i ei hei
   cases h
   obtain⟨h1,h2,h3,h4⟩:=hc
   cases hy with
   | agg _ us hn hh =>
   have hlt:n.toNat * ei.size<us.size:=by omega
   refine⟨us[n.toNat * ei.size],?_,hh _ _ _ (getD_get h4) (Array.getElem?_eq_getElem hlt)⟩
   obtain⟨d2,inf2,z2,hd2,hinf2,hz2,e2⟩:=tinfo_inv hei
   have hs:inf2.size=ei.size:=by rw[e2]
   simp [Instr.index,asIntOf,run_underlying (tinfo_arr hti),h2,h3,run_sizeOf_i hinf2,hs,run_part_one hei h1 us _ _ (Array.getElem?_eq_getElem hlt)]
  ·cases h
 ·cases h
theorem aLen_ok {t:TypeId} {y:AV} {yv:Value} {ty:TypeId} (h:aLen P L t y=some (c,x)) (hc:c) (hL:LRel w A L) (hy:Rel w A y yv):∃u,(Builtin.len_ #[t] ty #[yv]).run P w = .ok u w∧Rel w A x u:=by
 unfold aLen at h
 split at h
 ·rename_i hti
  have hd:=tinfo_slice hti
  split at h <;> cases h
  ·cases hy with
   | sl0=>exact⟨_,by simp [Builtin.len_,run_underlying hd,goInt],.v _⟩
   | sl=>exact⟨_,by simp [Builtin.len_,run_underlying hd,goInt],.v _⟩
  ·obtain⟨o,rfl,_⟩:=hy.inv_ls
   exact⟨_,by simp [Builtin.len_,run_underlying hd,goInt],.v _⟩
  ·obtain rfl:=hy.inv_v
   exact⟨_,by simp [Builtin.len_,run_underlying hd,goInt],.v _⟩
  ·exact hc.elim
 ·rename_i hti
  have hd:=tinfo_str hti
  split at h <;> cases h
  obtain rfl:=hy.inv_v
  exact⟨_,by simp [Builtin.len_,run_underlying hd,goInt],.v _⟩
 ·rename_i hti
  have hd:=tinfo_arr hti
  cases h
  exact⟨_,by simp [Builtin.len_,run_underlying hd,goInt],.v _⟩
 ·rename_i hti
  have hd:=tinfo_ptr hti
  split at h
  ·rename_i hti2
   have hd2:=tinfo_arr hti2
   cases h
   exact⟨_,by simp [Builtin.len_,run_underlying hd,run_underlying hd2,goInt],.v _⟩
  ·cases h
 ·rename_i hti
  have hd:=tinfo_map hti
  split at h
  ·cases h
   cases hy with
   | rm _ _ b es clock hA hw hk hv hh =>
    refine⟨.int .i64 es.size,by simp [Builtin.len_,run_underlying hd,goInt,getObj,Sem.run,hw],?_⟩
    rw[← hk];simp;exact .v _
  ·split at h
   ·rename_i hlk
    cases h
    obtain⟨es,clock,hw,hk,_⟩:=hL.lk hlk
    cases hy with
    | lm b =>
    refine⟨.int .i64 es.size,by simp [Builtin.len_,run_underlying hd,goInt,getObj,Sem.run,hw],?_⟩
    rw[← hk];simp;exact .v _
   ·cases h
  ·cases h
   obtain rfl:=hy.inv_v
   exact⟨_,by simp [Builtin.len_,run_underlying hd,goInt],.v _⟩
  ·cases h
 ·cases h
theorem aCap_ok {t:TypeId} {y:AV} {yv:Value} {ty:TypeId} (h:aCap P t y=some (c,x)) (hy:Rel w A y yv):∃u,(Builtin.cap_ #[t] ty #[yv]).run P w = .ok u w∧Rel w A x u:=by
 unfold aCap at h
 split at h
 ·rename_i hti
  have hd:=tinfo_slice hti
  split at h <;> cases h
  ·obtain⟨o,rfl,_⟩:=hy.inv_ls
   exact⟨_,by simp [Builtin.cap_,run_underlying hd,goInt],.v _⟩
  ·obtain rfl:=hy.inv_v
   exact⟨_,by simp [Builtin.cap_,run_underlying hd,goInt],.v _⟩
 ·cases h
theorem aUn_ok {op:UnOp} {y:AV} {yv:Value} (h:aUn op y=some (c,x)) (hc:c) (hy:Rel w A y yv):∃u,(Op.unary op yv).run P w = .ok u w∧Rel w A x u:=by
 unfold aUn at h
 split at h
 ·cases h;obtain rfl:=hy.inv_v
  exact⟨_,by simp [Op.unary],.v _⟩
 ·cases h;obtain rfl:=hy.inv_v
  refine⟨_,by simp [Op.unary,Op.intArith];rfl,?_⟩
  rename_i n
  unfold I64 at hc
  rw[show IntKind.i64.wrap (-n) = -n from IntWalk.i64_in _ (by omega)]
  exact .v _
 ·cases h;exact hc.elim
 ·cases h
theorem aConv_ok {s d:TypeId} {y:AV} {yv:Value} (h:aConv P s d y=some (c,x)) (hy:Rel w A y yv):∃u,(convert s d yv).run P w = .ok u w∧Rel w A x u:=by
 unfold aConv at h
 split at h
 ·rename_i ti k _ _ _ kd n h1 h2
  cases h
  obtain rfl:=hy.inv_v
  obtain⟨d0,inf,z,hd,hinf,hz,rfl⟩:=tinfo_inv h1
  exact⟨_,by simp [convert,run_underlying hd,run_underlying (tinfo_int h2),Conv.intToInt],.v _⟩
 ·cases h
theorem aMin_ok {y z:AV} {yv zv:Value} {as:Array TypeId} {ty:TypeId} (h:aMin y z=some (c,x)) (hc:c) (hy:Rel w A y yv) (hz:Rel w A z zv):∃u,(Builtin.min_ as ty #[yv,zv]).run P w = .ok u w∧Rel w A x u:=by
 unfold aMin at h
 split at h <;> cases h
 obtain rfl:=hy.inv_v;obtain rfl:=hz.inv_v
 exact⟨_,by simp [Builtin.min_,Builtin.min2],.v _⟩
theorem aMax_ok {y z:AV} {yv zv:Value} {as:Array TypeId} {ty:TypeId} (h:aMax y z=some (c,x)) (hc:c) (hy:Rel w A y yv) (hz:Rel w A z zv):∃u,(Builtin.max_ as ty #[yv,zv]).run P w = .ok u w∧Rel w A x u:=by
 unfold aMax at h
 split at h <;> cases h
 obtain rfl:=hy.inv_v;obtain rfl:=hz.inv_v
 exact⟨_,by simp [Builtin.max_,Builtin.max2],.v _⟩
theorem aExtract_ok {y:AV} {i:Nat} {yv:Value} (h:aExtract y i=some (c,x)) (hc:c) (hy:Rel w A y yv):∃u,(Instr.extract yv i).run P w = .ok u w∧Rel w A x u:=by
 unfold aExtract at h
 split at h <;> cases h
 cases hy with
 | tup cs us hn hh =>
  have hlt:i<us.size:=by omega
  exact⟨us[i],by simp [Instr.extract,hlt],hh _ _ _ (getD_get hc) (Array.getElem?_eq_getElem hlt)⟩
theorem wrap_i64 {z:Int} (h:I64 z):IntKind.i64.wrap z=z:=IntWalk.i64_in _ (by unfold I64 at h;omega)
theorem eqGuard_int (op:BinOp) (t:TypeId) (ox oy:Operand) (k k':IntKind) (a b:Int):(eqGuard op t ox oy (.int k a) (.int k' b)).run P w = .ok () w:=by
 unfold eqGuard;split <;> rfl
theorem eqGuard_bool (op:BinOp) (t:TypeId) (ox oy:Operand) (a b:Bool):(eqGuard op t ox oy (.bool a) (.bool b)).run P w = .ok () w:=by
 unfold eqGuard;split <;> rfl
theorem eqGuard_str (op:BinOp) (t:TypeId) (ox oy:Operand) (a b:ByteArray):(eqGuard op t ox oy (.string a) (.string b)).run P w = .ok () w:=by
 unfold eqGuard;split <;> rfl
theorem eqGuard_slice (op:BinOp) (t:TypeId) (ox oy:Operand) (a b:Option Addr) (n m n' m':Nat):(eqGuard op t ox oy (.slice a n m) (.slice b n' m')).run P w = .ok () w:=by
 unfold eqGuard;split <;> rfl
theorem aBin_int (op:BinOp) (t:TypeId) (ox oy:Operand) {k k':IntKind} {a b:Int} (h:aBin P op t (.v (.int k a)) (.v (.int k' b))=some (c,x)) (hc:c) :
  ∃u,(do eqGuard op t ox oy (.int k a) (.int k' b);binOp op t (.int k a) (.int k' b):Sem Value).run P w = .ok u w∧Rel w A x u:=by
 simp only[Sem.run_bind,eqGuard_int,Result.andThen_ok]
 cases op <;> simp only[aBin] at h
 case add =>
  split at h <;> cases h
  ·rename_i e;subst e;obtain⟨rfl,hb⟩:=hc
   exact⟨_,by simp [binOp,Op.intArith,wrap_i64 hb],.v _⟩
  ·obtain rfl:=hc;exact⟨_,by simp [binOp,Op.intArith],.v _⟩
 case sub =>
  split at h <;> cases h
  ·rename_i e;subst e;obtain⟨rfl,hb⟩:=hc
   exact⟨_,by simp [binOp,Op.intArith,wrap_i64 hb],.v _⟩
  ·obtain rfl:=hc;exact⟨_,by simp [binOp,Op.intArith],.v _⟩
 case mul =>
  split at h <;> cases h
  ·rename_i e;subst e;obtain rfl:=hc
   exact⟨_,by simp [binOp,Op.intArith,mulW],.v _⟩
  ·obtain rfl:=hc;exact⟨_,by simp [binOp,Op.intArith],.v _⟩
 case quo=>cases h;obtain⟨rfl,hb⟩:=hc;exact⟨_,by simp [binOp,Op.intDiv,hb],.v _⟩
 case rem=>cases h;obtain⟨rfl,hb⟩:=hc;exact⟨_,by simp [binOp,Op.intDiv,hb],.v _⟩
 case eql=>cases h;obtain rfl:=hc;exact⟨.bool (decide (a=b)),by simp [binOp,Op.intCmp];by_cases h:a=b <;> simp [h],.v _⟩
 case neq=>cases h;obtain rfl:=hc;exact⟨.bool (!decide (a=b)),by simp [binOp,Op.intCmp];by_cases h:a=b <;> simp [h],.v _⟩
 case lss=>cases h;obtain rfl:=hc;exact⟨_,by simp [binOp,Op.intCmp],.v _⟩
 case leq=>cases h;obtain rfl:=hc;exact⟨_,by simp [binOp,Op.intCmp],.v _⟩
 case gtr=>cases h;obtain rfl:=hc;exact⟨_,by simp [binOp,Op.intCmp],.v _⟩
 case geq=>cases h;obtain rfl:=hc;exact⟨_,by simp [binOp,Op.intCmp],.v _⟩
 case or=>cases h;obtain rfl:=hc;exact⟨_,by simp only[binOp,ne_eq,not_true_eq_false,if_false,Op.intBits];rfl,.v _⟩
 case and=>cases h;obtain rfl:=hc;exact⟨_,by simp only[binOp,ne_eq,not_true_eq_false,if_false,Op.intBits];rfl,.v _⟩
 case xor=>cases h;obtain rfl:=hc;exact⟨_,by simp only[binOp,ne_eq,not_true_eq_false,if_false,Op.intBits];rfl,.v _⟩
 case andNot=>cases h;obtain rfl:=hc;exact⟨_,by simp only[binOp,ne_eq,not_true_eq_false,if_false,Op.intBits];rfl,.v _⟩
 case shl=>cases h;exact⟨_,by simp only[binOp,Op.shift];rw[if_neg (by omega)];rfl,.v _⟩
 case shr=>cases h;exact⟨_,by simp only[binOp,Op.shift];rw[if_neg (by omega)];rfl,.v _⟩
theorem equal_succ (t:TypeId) (a b:Value):Op.equal t a b=Op.equalIn (9999+1) t a b:=rfl
theorem equal_bool {t:TypeId} (hd:P.underlying t=some .bool) (a b:Bool):(Op.equal t (.bool a) (.bool b)).run P w = .ok (a == b) w:=by
 rw[equal_succ,Op.equalIn]
 simp only[Sem.run_bind,run_underlying hd,Result.andThen_ok,Sem.run_pure]
theorem aBin_bool (op:BinOp) (t:TypeId) (ox oy:Operand) {a b:Bool} (h:aBin P op t (.v (.bool a)) (.v (.bool b))=some (c,x)) :
  ∃u,(do eqGuard op t ox oy (.bool a) (.bool b);binOp op t (.bool a) (.bool b):Sem Value).run P w = .ok u w∧Rel w A x u:=by
 simp only[Sem.run_bind,eqGuard_bool,Result.andThen_ok]
 simp only[aBin] at h
 split at h
 ·rename_i hti
  cases h
  refine⟨.bool (decide (a=b)),?_,.v _⟩
  simp only[binOp,Sem.run_bind,equal_bool (tinfo_bool hti),Result.andThen_ok,Sem.run_pure]
  cases a <;> cases b <;> rfl
 ·rename_i hti
  cases h
  refine⟨.bool (!decide (a=b)),?_,.v _⟩
  simp only[binOp,Sem.run_bind,equal_bool (tinfo_bool hti),Result.andThen_ok,Sem.run_pure]
  cases a <;> cases b <;> rfl
 ·cases h
theorem aBin_str (op:BinOp) (t:TypeId) (ox oy:Operand) {a b:ByteArray} (h:aBin P op t (.v (.string a)) (.v (.string b))=some (c,x)) :
  ∃u,(do eqGuard op t ox oy (.string a) (.string b);binOp op t (.string a) (.string b):Sem Value).run P w = .ok u w∧Rel w A x u:=by
 simp only[Sem.run_bind,eqGuard_str,Result.andThen_ok]
 cases op <;> simp only[aBin] at h <;> cases h
 all_goals exact⟨_,by simp [binOp,Op.stringOp,seqB],.v _⟩
theorem equal_slice_nil {t e:TypeId} (hd:P.underlying t=some (.slice e)) (a:Option Addr) (n m:Nat):(Op.equal t (.slice a n m) (.slice none 0 0)).run P w = .ok (a.isNone) w:=by
 rw[equal_succ,Op.equalIn]
 cases a <;> simp only[Sem.run_bind,run_underlying hd,Result.andThen_ok,Sem.run_pure] <;> rfl
theorem aBin_nil (op:BinOp) (t:TypeId) (ox oy:Operand) {y:AV} {yv:Value} (hy:Rel w A y yv) (h:aBin P op t y (.v (.slice none 0 0))=some (c,x)) (hc:c) :
  ∃u,(do eqGuard op t ox oy yv (.slice none 0 0);binOp op t yv (.slice none 0 0):Sem Value).run P w = .ok u w∧Rel w A x u:=by
 have key:∀(a:Option Addr) (n m:Nat) (e:TypeId),P.underlying t=some (.slice e)→((do eqGuard .eql t ox oy (.slice a n m) (.slice none 0 0);binOp .eql t (.slice a n m) (.slice none 0 0):Sem Value).run P w = .ok (.bool a.isNone) w ∧
   (do eqGuard .neq t ox oy (.slice a n m) (.slice none 0 0);binOp .neq t (.slice a n m) (.slice none 0 0):Sem Value).run P w = .ok (.bool (!a.isNone)) w):=fun a n m e hd=>by
  simp [Sem.run_bind,eqGuard_slice,binOp,equal_slice_nil hd]
 have main:∀o,(match tinfo P t with
  | some ⟨.slice _,_,_,_⟩=>match op,y with
   | .eql,.v (.slice none 0 0)=>some (True,ab true)
   | .neq,.v (.slice none 0 0)=>some (True,ab false)
   | .eql,.ls _ _ _ _ _=>some (True,ab false)
   | .neq,.ls _ _ _ _ _=>some (True,ab true)
   | _,_=>none
  | _=>none)=some o→o=(c,x)→∃u,(do eqGuard op t ox oy yv (.slice none 0 0);binOp op t yv (.slice none 0 0):Sem Value).run P w = .ok u w∧Rel w A x u:=by
  intro o ho e
  subst e
  split at ho
  ·rename_i e _ _ _ hti
   have hd:=tinfo_slice hti
   split at ho <;> cases ho
   ·obtain rfl:=hy.inv_v;exact⟨_,(key _ _ _ e hd).1,.v _⟩
   ·obtain rfl:=hy.inv_v;exact⟨_,(key _ _ _ e hd).2,.v _⟩
   ·obtain⟨o,rfl,_⟩:=hy.inv_ls;exact⟨_,(key _ _ _ e hd).1,.v _⟩
   ·obtain⟨o,rfl,_⟩:=hy.inv_ls;exact⟨_,(key _ _ _ e hd).2,.v _⟩
  ·cases ho
 cases y with
 | v z=>cases z <;> exact main _ h rfl
 | _=>exact main _ h rfl
theorem aBin_ok (op:BinOp) (t:TypeId) (ox oy:Operand) {y z:AV} {yv zv:Value} (h:aBin P op t y z=some (c,x)) (hc:c) (hy:Rel w A y yv) (hz:Rel w A z zv) :
  ∃u,(do eqGuard op t ox oy yv zv;binOp op t yv zv:Sem Value).run P w = .ok u w∧Rel w A x u:=by
 by_cases hz':z = .v (.slice none 0 0)
 ·subst hz'
  obtain rfl:=hz.inv_v
  exact aBin_nil op t ox oy hy h hc
 ·have h0:=h
  unfold aBin at h
  split at h
  ·obtain rfl:=hy.inv_v;obtain rfl:=hz.inv_v;exact aBin_int op t ox oy h0 hc
  ·obtain rfl:=hy.inv_v;obtain rfl:=hz.inv_v;exact aBin_bool op t ox oy h0
  ·obtain rfl:=hy.inv_v;obtain rfl:=hz.inv_v;exact aBin_str op t ox oy h0
  ·exact absurd rfl hz'
  ·cases h;exact hc.elim
  ·cases h
theorem aNil_ok {y:AV} {yv:Value} (h:aNil y=some (c,x)) (hy:Rel w A y yv) :
  ∃u,(match yv with
  | .pointer none | .nilIface | .nilFunc=>(runtimePanic .nilDeref:Sem Next)
  | .func (.method name) first captured =>
   match (first[0]?:Option Value) with
   | some .nilIface=>runtimePanic .nilDeref
   | some (.iface t w)=>do
    if (← nilAhead ((← program).types.size+Made.depth) t w name) != some false then
     unsupported (.noEntry "op/nilCheck.the method's receiver behind this interface value is a nil pointer, or cannot be seen to be none, and the arguments act or may panic (ledger 612)")
    pure (.value (.func (.method name) first captured))
   | _=>pure (.value (.func (.method name) first captured))
  | x=>pure (.value x)).run P w = .ok (.value u) w∧Rel w A x u:=by
 unfold aNil at h
 split at h <;> cases h
 ·obtain⟨b,off,rfl,_,_⟩:=hy.inv_rp;exact⟨_,rfl,hy⟩
 ·obtain rfl:=hy.inv_lp;exact⟨_,rfl,hy⟩
 ·cases hy with
  | clo f cs us hn hh=>exact⟨_,rfl,.clo _ _ us hn hh⟩
 ·obtain rfl:=hy.inv_v;exact⟨_,rfl,.v _⟩
 ·obtain rfl:=hy.inv_v;exact⟨_,rfl,.v _⟩
def ORel (w:World) (A:Foot) (x:Option AV) (u:Option Value):Prop :=
 match x,u with
 | none,none=>True
 | some x,some u=>Rel w A x u
 | _,_=>False
theorem bnd_ok {d:Int} {x:Option AV} {u:Option Value} {n:Int} (h:bnd d x=some n) (hx:ORel w A x u):(u=none∧n=d)∨∃k,u=some (.int k n):=by
 unfold bnd at h
 split at h
 ·cases h
  cases u with
  | none=>exact .inl ⟨rfl,rfl⟩
  | some u=>exact hx.elim
 ·cases h
  cases u with
  | none=>exact hx.elim
  | some u=>obtain rfl:=Rel.inv_v hx;exact .inr ⟨_,rfl⟩
 ·cases h
theorem run_sliceBounds {isS:Bool} {len cap:Nat} {lo hi:Option AV} {lov hiv:Option Value} {l h:Int} (hl:bnd 0 lo=some l) (hh:bnd len hi=some h) (rl:ORel w A lo lov) (rh:ORel w A hi hiv)
  (h0:0≤l) (h1:l≤h) (h2:h≤cap) (_h3:len≤cap):(Instr.sliceBounds isS len cap lov hiv none).run P w = .ok (l.toNat,h.toNat,cap) w:=by
 have e2:0≤h:=by omega
 rcases bnd_ok hl rl with ⟨rfl,rfl⟩|⟨k,rfl⟩ <;> rcases bnd_ok hh rh with ⟨rfl,rfl⟩|⟨k',rfl⟩
 ·simp [Instr.sliceBounds]
 ·simp [Instr.sliceBounds,Instr.sliceBound,asIntOf,e2,h2]
 ·simp [Instr.sliceBounds,Instr.sliceBound,asIntOf,h0,h1]
 ·have e3:¬max h 0<l:=by omega
  simp [Instr.sliceBounds,Instr.sliceBound,asIntOf,e2,h2,h0,e3]
theorem aSlice_ok {t:TypeId} {y:AV} {yv:Value} {lo hi:Option AV} {lov hiv:Option Value} (h:aSlice P t y lo hi=some (c,x)) (hc:c) (hy:Rel w A y yv) (rl:ORel w A lo lov) (rh:ORel w A hi hiv) :
  ∃u,(Instr.sliceAt t yv lov hiv none).run P w = .ok u w∧Rel w A x u:=by
 unfold aSlice at h
 split at h
 ·rename_i e _ _ _ hti
  have hd:=tinfo_slice hti
  split at h
  ·rename_i ei hei
   obtain⟨d2,inf2,z2,hd2,hinf2,hz2,rfl⟩:=tinfo_inv hei
   have go:∀(a:Option Addr) (len cap:Nat) (l h:Int),(Instr.sliceBounds true len cap lov hiv none).run P w = .ok (l.toNat,h.toNat,cap) w →
     (Instr.sliceAt t (.slice a len cap) lov hiv none).run P w = .ok (.slice (if cap=l.toNat then a else a.map (·.add (l.toNat * inf2.size))) (h.toNat - l.toNat) (cap - l.toNat)) w:=fun a len cap l h hb=>by
    simp [Instr.sliceAt,Instr.slice,run_underlying hd,hb,run_sizeOf_i hinf2]
   split at h
   ·rename_i k xs
    split at h
    ·rename_i l h' hl hh
     cases h
     obtain⟨rfl,h0,h1,h2⟩:=hc
     have hlen:((xs.take h'.toNat).drop l.toNat).length=h'.toNat - l.toNat:=by simp;omega
     cases hy with
     | sl0 _ a cap hcap =>
      have hl0:l=0:=by simp at h2;omega
      have hh0:h'=0:=by simp at h2;omega
      subst hl0;subst hh0
      refine⟨_,go _ _ _ _ _ (run_sliceBounds hl hh rl rh (by omega) (by omega) (by simp) (by simp)),?_⟩
      simp only[List.take_nil,List.drop_nil]
      exact .sl0 _ _ _ (by simp;omega)
     | sl _ _ b off cap cc hA hle hcap hk hw hh' =>
      refine⟨_,go _ _ _ _ _ (run_sliceBounds hl hh rl rh h0 h1 (by omega) hle),?_⟩
      by_cases he:h'.toNat - l.toNat=0
      ·rw[List.eq_nil_of_length_eq_zero (hlen.trans he),he]
       exact .sl0 _ _ _ (by omega)
      ·have hne:cap ≠ l.toNat:=by omega
       rw[if_neg hne]
       simp only[Option.map_some,Addr.add_lit]
       have main:=Rel.sl (w:=w) (A:=A) inf2.size ((xs.take h'.toNat).drop l.toNat) b (off+l.toNat * inf2.size) (cap - l.toNat) (fun i=>cc (l.toNat * inf2.size+i)) hA (by rw[hlen];omega) (by omega)
        (fun x hx=>hk x (List.mem_of_mem_take (List.mem_of_mem_drop hx)))
        (fun i hi=>by
         rw[Nat.add_assoc]
         refine hw _ ?_
         rw[hlen] at hi
         have:(l.toNat+(h'.toNat - l.toNat)) * inf2.size≤xs.length * inf2.size:=Nat.mul_le_mul_right _ (by omega)
         rw[Nat.add_mul] at this
         dsimp only
         omega)
        (fun i x j y hx hy=>by
         have hx':xs[l.toNat+i]?=some x:=by
          rw[List.getElem?_drop,List.getElem?_take] at hx
          split at hx
          ·exact hx
          ·cases hx
         have:=hh' (l.toNat+i) x j y hx' hy
         rwa [Nat.add_mul,Nat.add_assoc] at this)
       rwa [hlen] at main
    ·cases h
   ·rename_i b k off len cap
    split at h
    ·rename_i l h' hl hh
     cases h
     obtain⟨rfl,h0,h1,h2⟩:=hc
     obtain⟨o,rfl,hle,hcap,ho⟩:=hy.inv_ls
     refine⟨_,go _ _ _ _ _ (run_sliceBounds hl hh rl rh h0 h1 h2 hle),?_⟩
     by_cases he:cap=l.toNat
     ·rw[if_pos he]
      exact .ls _ _ _ _ _ _ (by omega) (by omega) (.inr (by omega))
     ·rw[if_neg he]
      simp only[Option.map_some,Addr.add_lit]
      refine .ls _ _ _ _ _ _ (by omega) (by omega) (.inl ?_)
      rcases ho with ho|ho
      ·rw[ho,Nat.add_mul]
      ·omega
    ·cases h
   ·split at h
    ·rename_i l h' hl hh
     cases h
     obtain⟨rfl,rfl⟩:=hc
     obtain rfl:=hy.inv_v
     refine⟨_,go _ _ _ _ _ (run_sliceBounds (len:=0) (cap:=0) hl (by simpa using hh) rl rh (by omega) (by omega) (by simp) (by simp)),.v _⟩
    ·cases h
   ·cases h
  ·cases h
 ·rename_i hti
  have hd:=tinfo_str hti
  split at h
  ·split at h
   ·rename_i s _ _ l h' hl hh
    cases h
    obtain⟨h0,h1,h2⟩:=hc
    obtain rfl:=hy.inv_v
    exact⟨_,by simp [Instr.sliceAt,Instr.slice,run_underlying hd,run_sliceBounds (isS:=false) (P:=P) hl hh rl rh h0 h1 h2 (Nat.le_refl _)],.v _⟩
   ·cases h
  ·cases h
 ·cases h
end
end Go.AL
end
section
namespace Go.AL
open Go Go.RowKit
def splice {α:Type} (cs:List α) (off:Nat) (vs:List α):List α:=cs.take off ++ vs ++ cs.drop (off+vs.length)
theorem splice_get {α:Type} (cs:List α) (off:Nat) (vs:List α) (h:off+vs.length≤cs.length) (m:Nat) :
  (splice cs off vs)[m]?=if off≤m∧m<off+vs.length then vs[m - off]? else cs[m]?:=by
 unfold splice
 rw[List.append_assoc,List.getElem?_append,List.getElem?_append]
 have ht:(cs.take off).length=off:=by simp;omega
 rw[ht]
 by_cases h1:m<off
 ·rw[if_pos h1,if_neg (by omega),List.getElem?_take,if_pos h1]
 ·rw[if_neg h1]
  by_cases h2:m - off<vs.length
  ·rw[if_pos h2,if_pos (by omega)]
  ·rw[if_neg h2,if_neg (by omega),List.getElem?_drop]
   congr 1;omega
theorem splice_length {α:Type} (cs:List α) (off:Nat) (vs:List α) (h:off+vs.length≤cs.length):(splice cs off vs).length=cs.length:=by
 unfold splice;simp;omega
section
variable {P:Program} {w:World} {A:Foot}
theorem one_ok {x:AV} {u:Value} (h:Rel w A x u) (ho:one x=true):u.oneCell'=true:=by
 cases h <;> first|rfl|exact ho|(simp [one] at ho)
theorem one_cells {x:AV} (ho:one x=true):x.cells=[x]:=by cases x <;> first|rfl|(simp [one] at ho)
theorem oneCell_cells {u:Value} (h:u.oneCell'=true):u.cells = #[u]:=by cases u <;> first|rfl|(simp [Value.oneCell'] at h)
theorem cells_ok {x:AV} {u:Value} (h:Rel w A x u) (ho:okv x=true):Rels w A x.cells u.cells.toList∧∀c ∈ u.cells.toList,c.oneCell'=true:=by
 by_cases h1:one x=true
 ·rw[one_cells h1,oneCell_cells (one_ok h h1)]
  exact⟨Rels.cons h Rels.nil,fun c hc=>by simp at hc;subst hc;exact one_ok h h1⟩
 ·cases h with
  | agg cs us hn hh =>
   have hall:∀c ∈ cs,one c=true:=by simpa [okv] using ho
   refine⟨⟨by simpa [AV.cells,Value.cells] using hn,fun i a v ha hv=>hh i a v ha (by simpa [Value.cells] using hv)⟩,fun c hc => ?_⟩
   obtain⟨i,hi⟩:=List.getElem?_of_mem hc
   have hi':us[i]?=some c:=by simpa [Value.cells] using hi
   have hlt:i<cs.length:=by have:=(Array.getElem?_eq_some_iff.1 hi').1;omega
   exact one_ok (hh i _ _ (List.getElem?_eq_getElem hlt) hi') (hall _ (List.getElem_mem hlt))
  | v z=>simp [okv] at ho;exact absurd ho h1
  | _=>exact absurd ho h1
theorem foldl_set (off:Nat):∀(vs:List Value) (k:Nat) (cells:Array Value) (m:Nat),off+k+vs.length≤cells.size →
  ((vs.zipIdx k).foldl (fun (cs:Array Value) (p:Value × Nat)=>cs.setIfInBounds (off+p.2) p.1) cells)[m]?=if off+k≤m∧m<off+k+vs.length then vs[m - (off+k)]? else cells[m]?
 | [],k,cells,m,_=>by simp;intro h1 h2;omega
 | v :: vs,k,cells,m,h=>by
  simp only[List.zipIdx_cons,List.foldl_cons]
  rw[foldl_set off vs (k+1) (cells.setIfInBounds (off+k) v) m (by simp at h ⊢;omega)]
  simp only[List.length_cons] at h ⊢
  by_cases h1:m=off+k
  ·subst h1
   rw[if_neg (by omega),if_pos (by omega)]
   simp [show off+k<cells.size by omega]
  ·by_cases h2:off+k≤m∧m<off+k+(vs.length+1)
   ·rw[if_pos (by omega),if_pos h2,show m - (off+k)=(m - (off+(k+1)))+1 by omega,List.getElem?_cons_succ]
   ·rw[if_neg (by omega),if_neg h2,Array.getElem?_setIfInBounds_ne (by omega)]
def layIn (cells:Array Value) (off:Nat) (v:Value):Array Value:=v.cells.zipIdx.foldl (fun cs (c,j)=>cs.setIfInBounds (off+j) c) cells
theorem layIn_get {cells:Array Value} {off:Nat} {v:Value} (h:off+v.cells.size≤cells.size) (m:Nat) :
  (layIn cells off v)[m]?=if off≤m∧m<off+v.cells.size then v.cells[m - off]? else cells[m]?:=by
 have:=foldl_set off v.cells.toList 0 cells m (by simpa using h)
 simp only[Nat.add_zero,Array.length_toList,Array.getElem?_toList] at this
 rw[← this]
 unfold layIn
 rw[← Array.foldl_toList,Array.toList_zipIdx]
theorem layIn_size {cells:Array Value} {off:Nat} {v:Value} (h:off+v.cells.size≤cells.size):(layIn cells off v).size=cells.size:=by
 apply Nat.le_antisymm
 ·apply Nat.le_of_not_lt;intro hlt
  have:=layIn_get h cells.size
  rw[Array.getElem?_eq_getElem hlt,if_neg (by omega)] at this
  simp at this
 ·apply Nat.le_of_not_lt;intro hlt
  have:=layIn_get h (layIn cells off v).size
  rw[Array.getElem?_eq_none (Nat.le_refl _)] at this
  split at this
  ·rename_i h1
   have:=this.symm
   rw[Array.getElem?_eq_none_iff] at this;omega
  ·have:=this.symm
   rw[Array.getElem?_eq_none_iff] at this;omega
def fillAV (place:Nat→Option (Nat × Nat)) (cells:List AV):List (Nat × AV)→Option (Prop × List AV)
 | []=>some (True,cells)
 | (i,x) :: r=>match place i with
  | some (off,size)=>match fillAV place (splice cells off x.cells) r with
   | some (c,out)=>some ((okv x=true∧x.cells.length=size∧off+size≤cells.length)∧c,out)
   | none=>none
  | none=>none
theorem fill_ok {place:Nat→Option (Nat × Nat)} : ∀(parts:List (Nat × AV)) (partsV:List (Nat × Value)) (cells:List AV) (cs:Array Value) (c:Prop) (out:List AV),
  partsV.map (·.1)=parts.map (·.1)→Rels w A (parts.map (·.2)) (partsV.map (·.2))→Rels w A cells cs.toList→fillAV place cells parts=some (c,out)→c →
  ∃o,Instr.fill place cs partsV=some o∧Rels w A out o.toList
 | [],partsV,cells,cs,c,out,h1,h2,h3,h4,h5=>by
  have:partsV=[]:=by simpa using h1
  subst this
  simp only[fillAV] at h4;cases h4
  exact⟨cs,rfl,h3⟩
 | (i,x) :: r,partsV,cells,cs,c,out,h1,h2,h3,h4,h5=>by
  cases partsV with
  | nil=>simp at h1
  | cons pv rv =>
  obtain⟨i',u⟩:=pv
  simp only[List.map_cons,List.cons.injEq] at h1
  obtain⟨rfl,h1⟩:=h1
  obtain⟨u',us',e,hu,hr⟩:=Rels.inv_cons h2
  simp only[List.map_cons,List.cons.injEq] at e
  obtain⟨rfl,rfl⟩:=e
  simp only[fillAV] at h4
  split at h4
  ·rename_i off size hp
   split at h4
   ·rename_i c' out' hf
    cases h4
    obtain⟨⟨ho,hs,hb⟩,hc'⟩:=h5
    obtain⟨hcells,hone⟩:=cells_ok hu ho
    have hsz:u.cells.size=size:=by have:=hcells.1;simp at this;omega
    have hcs:cs.size=cells.length:=by have:=h3.1;simpa using this
    have hfit:off+u.cells.size≤cs.size:=by omega
    have h3':Rels w A (splice cells off x.cells) (layIn cs off u).toList:=by
     refine⟨by rw[splice_length _ _ _ (by omega)];simp [layIn_size hfit,hcs],fun m a v ha hv => ?_⟩
     rw[splice_get _ _ _ (by omega)] at ha
     rw[Array.getElem?_toList,layIn_get hfit] at hv
     rw[hs] at ha;rw[hsz] at hv
     split at ha
     ·rename_i hm;rw[if_pos hm] at hv
      exact hcells.2 _ _ _ ha (by simpa using hv)
     ·rename_i hm;rw[if_neg hm] at hv
      exact h3.2 _ _ _ ha (by simpa using hv)
    obtain⟨o,hfill,hrel⟩:=fill_ok r rv _ (layIn cs off u) c' out h1 hr h3' hf hc'
    refine⟨o,?_,hrel⟩
    simp only[Instr.fill,hp]
    rw[if_neg (by simp;omega)]
    exact hfill
   ·cases h4
  ·cases h4
def placeF (P:Program) (fs:List (Nat × TypeId)) (i:Nat):Option (Nat × Nat) :=
 match fs[i]? with
 | some (off,ft)=>match tinfo P ft with
  | some fi=>some (off,fi.size)
  | none=>none
 | none=>none
def aBuild (P:Program) (t:TypeId) (parts:List (Nat × AV)):Option (Prop × AV) :=
 match tinfo P t with
 | some ⟨.struct fs,_,_,z⟩ =>
  if fs.all (fun f=>(tinfo P f.2).isSome) then
   match fillAV (placeF P fs) z.cells parts with
   | some (c,out)=>some (c,.agg out)
   | none=>none
  else none
 | some ⟨.arr _ e,_,_,z⟩=>match tinfo P e with
  | some ei=>match fillAV (fun i=>some (i * ei.size,ei.size)) z.cells parts with
   | some (c,out)=>some (c,.agg out)
   | none=>none
  | none=>none
 | _=>none
theorem zav_cells (z:Value):Rels w A (zav z).cells z.cells.toList:=by
 cases z with
 | agg cs =>
  refine⟨by simp [zav,AV.cells,Value.cells],fun i a v ha hv => ?_⟩
  simp only[zav,AV.cells,List.getElem?_map,Option.map_eq_some_iff] at ha
  obtain⟨u,hu,rfl⟩:=ha
  simp only[Value.cells] at hv
  rw[hu] at hv;cases hv;exact .v _
 | _=>exact Rels.cons (.v _) Rels.nil
theorem mapM_places (fs:List Field) (g:Field→Nat × Nat) (h:∀f ∈ fs,(sizeOf f.type).run P w = .ok (g f).2 w) (hg:∀f,(g f).1=f.offset) :
  (fs.mapM (m:=Sem) fun f=>do pure (f.offset,← sizeOf f.type)).run P w = .ok (fs.map g) w:=by
 induction fs with
 | nil=>rfl
 | cons f fs ih =>
  simp only[List.mapM_cons,Sem.run_bind,h f (by simp),Result.andThen_ok,Sem.run_pure,ih (fun f hf=>h f (by simp [hf])),List.map_cons]
  rw[show (f.offset,(g f).2)=g f by rw[← hg f]]
theorem aBuild_ok {t:TypeId} {parts:List (Nat × AV)} {partsV:Array (Nat × Value)} {c:Prop} {x:AV} (h:aBuild P t parts=some (c,x)) (hc:c)
  (h1:partsV.toList.map (·.1)=parts.map (·.1)) (h2:Rels w A (parts.map (·.2)) (partsV.toList.map (·.2))):∃u,(Instr.build t partsV).run P w = .ok u w∧Rel w A x u:=by
 unfold aBuild at h
 split at h
 ·rename_i fs _ _ z hti
  obtain⟨d,inf,z',hd,hinf,hz,e⟩:=tinfo_inv hti
  simp only[TI.mk.injEq] at e
  obtain⟨e1,-,-,rfl⟩:=e
  obtain⟨fa,rfl,rfl⟩:=tk_struct e1.symm
  split at h
  ·rename_i hall
   split at h
   ·rename_i c' out hf
    cases h
    have hzc:=zav_cells (w:=w) (A:=A) z'
    have hall':∀f ∈ fa.toList,∃ti,tinfo P f.type=some ti:=fun f hf=>by
     have:=List.all_eq_true.1 hall (f.offset,f.type) (List.mem_map.2 ⟨f,hf,rfl⟩)
     exact Option.isSome_iff_exists.1 this
    obtain⟨o,hfill,hrel⟩:=fill_ok parts partsV.toList _ z'.cells c out h1 h2 hzc hf hc
    let g:Field→Nat × Nat:=fun f=>(f.offset,((tinfo P f.type).map (·.size)).getD 0)
    have hm:=mapM_places (P:=P) (w:=w) fa.toList g (fun f hf=>by
     obtain⟨ti,hti'⟩:=hall' f hf
     obtain⟨d2,inf2,z2,hd2,hinf2,hz2,rfl⟩:=tinfo_inv hti'
     rw[run_sizeOf_i hinf2];simp [g,hti']) (fun f=>rfl)
    have hplace:∀i,(fa.toList.map g)[i]?=placeF P (fa.toList.map fun f=>(f.offset,f.type)) i:=fun i=>by
     unfold placeF
     rw[List.getElem?_map,List.getElem?_map]
     cases hi:fa.toList[i]? with
     | none=>rfl
     | some f =>
      obtain⟨ti,hti'⟩:=hall' f (List.mem_of_getElem? hi)
      simp [g,hti']
    refine⟨.agg o,?_,.agg _ _ (by have:=hrel.1;simpa using this) (fun i a u ha hu=>hrel.2 i a u ha (by simpa using hu))⟩
    have hm':(fa.mapM (m:=Sem) fun f=>do pure (f.offset,← sizeOf f.type)).run P w = .ok ((fa.toList.map g).toArray) w:=by
     rw[Array.mapM_eq_mapM_toList,Sem.run_map,hm];rfl
    simp only[Instr.build,Sem.run_bind,run_zeroValue_i hinf hz,Result.andThen_ok,run_underlying hd]
    rw[hm']
    simp only[Result.andThen_ok,List.getElem?_toArray]
    rw[show (fun i=>(fa.toList.map g)[i]?)=placeF P (fa.toList.map fun f=>(f.offset,f.type)) from funext hplace,hfill]
    rfl
   ·cases h
  ·cases h
 ·rename_i n e _ _ z hti
  obtain⟨d,inf,z',hd,hinf,hz,e'⟩:=tinfo_inv hti
  simp only[TI.mk.injEq] at e'
  obtain⟨e1,-,-,rfl⟩:=e'
  obtain rfl:=tk_arr e1.symm
  split at h
  ·rename_i ei hei
   obtain⟨d2,inf2,z2,hd2,hinf2,hz2,rfl⟩:=tinfo_inv hei
   split at h
   ·rename_i c' out hf
    cases h
    obtain⟨o,hfill,hrel⟩:=fill_ok parts partsV.toList _ z'.cells c out h1 h2 (zav_cells z') hf hc
    refine⟨.agg o,?_,.agg _ _ (by have:=hrel.1;simpa using this) (fun i a u ha hu=>hrel.2 i a u ha (by simpa using hu))⟩
    simp only[Instr.build,Sem.run_bind,run_zeroValue_i hinf hz,Result.andThen_ok,run_underlying hd,run_sizeOf_i hinf2,hfill]
    rfl
   ·cases h
  ·cases h
 ·cases h
end
end Go.AL
end
section
namespace Go.AL
open Go Go.RowKit
structure StW (w0:World) (M A0:Foot) (N:Nat) (ρ:Env) (L:AHeap) (a:Act) (w:World) (A:Foot) (ds:List Nat):Prop where
 fr:Fr w0 M w
 asub:∀b,A b→A0 b∨M b∨w0.heap.size≤b
 l:LRel w A L
 lown:∀x ∈ L,M x.1∨w0.heap.size≤x.1
 size:a.tmps.size=N
 env:∀i,Rel w A (get ρ i) (a.tmps.getD i undef)
 dfs:a.defers=ds.map (fun D => { target:=.collected D,args:=#[] })
 dblk:∀D ∈ ds,w.heap[D]?=some (.deferred (some []))∧¬A D∧¬keysOf L D∧(M D∨w0.heap.size≤D)
 dnd:ds.Nodup
theorem st_iff {w0:World} {M A0:Foot} {N:Nat} {ρ:Env} {L:AHeap} {a:Act} {w:World} : St w0 M A0 N ρ L a w↔∃A ds,StW w0 M A0 N ρ L a w A ds :=
 ⟨fun ⟨A,ds,h1,h2,h3,h4,h5,h6,h7,h8,h9⟩=>⟨A,ds,h1,h2,h3,h4,h5,h6,h7,h8,h9⟩,
 fun ⟨A,ds,h⟩=>⟨A,ds,h.fr,h.asub,h.l,h.lown,h.size,h.env,h.dfs,h.dblk,h.dnd⟩⟩
section
variable {w0:World} {M A0:Foot} {N:Nat} {ρ:Env} {L:AHeap} {a:Act} {w:World} {A:Foot} {ds:List Nat}
theorem StW.ev (h:StW w0 M A0 N ρ L a w A ds) (x:Operand):Rel w A (ev ρ x) (a.eval x):=by
 cases x with
 | tmp t=>exact h.env t
 | const v=>exact .v v
 | global g =>
  show Rel w A (match GV g with|some x=>x|none => .v (.pointer (some ⟨g,0,none⟩))) (.pointer (some ⟨g,0,none⟩))
  split
  ·rename_i x hx;exact h.l.glob g x hx
  ·exact .v _
 | func f=>exact .v _
theorem StW.put (h:StW w0 M A0 N ρ L a w A ds) {d:Option Tmp} {x:AV} {v:Value} (hd:∀i,d=some i→i<N) (hr:Rel w A x v):StW w0 M A0 N (put ρ d x) L (a.put d v) w A ds:=by
 cases d with
 | none=>exact h
 | some d =>
  refine { h with size:=by simpa [Act.put] using h.size,env:=fun i => ?_,dfs:=h.dfs }
  simp only[AL.put,get,Act.put]
  by_cases hi:i=d
  ·subst hi
   have hlt:i<a.tmps.size:=by rw[h.size];exact hd i rfl
   rw[if_pos rfl]
   simpa [Array.getD,hlt] using hr
  ·rw[if_neg hi]
   have:=h.env i
   simpa [Array.getD_eq_getD_getElem?,Array.getElem?_setIfInBounds_ne (Ne.symm hi)] using this
theorem StW.advance (h:StW w0 M A0 N ρ L a w A ds) {w':World} {A':Foot} {L':AHeap} (hf:Fr w (keysOf L) w') (hA:∀b,A b→A' b)
  (hA':∀b,A' b→A b∨keysOf L b∨w.heap.size≤b) (hL:LRel w' A' L') (hk:∀x ∈ L',keysOf L x.1∨w.heap.size≤x.1):StW w0 M A0 N ρ L' a w' A' ds:=by
 have hKM:∀b,keysOf L b→M b∨w0.heap.size≤b:=fun b ⟨x,hx,e⟩=>e ▸ h.lown x hx
 have hsz:=h.fr.size
 have keep:∀b,A b→w'.heap[b]?=w.heap[b]?:=fun b hb=>hf.block b (h.l.abnd b hb) (fun ⟨x,hx,e⟩=>h.l.disj x hx (e ▸ hb))
 refine⟨h.fr.trans hf hKM,fun b hb => ?_,hL,fun x hx => ?_,h.size,fun i=>(h.env i).later keep hA,h.dfs,fun D hD => ?_,h.dnd⟩
 ·rcases hA' b hb with h1|h1|h1
  ·exact h.asub b h1
  ·exact .inr (hKM b h1)
  ·exact .inr (.inr (by omega))
 ·rcases hk x hx with h1|h1
  ·exact hKM _ h1
  ·exact .inr (by omega)
 ·obtain⟨h1,h2,h3,h4⟩:=h.dblk D hD
  have hlt:D<w.heap.size:=(Array.getElem?_eq_some_iff.1 h1).1
  refine⟨(hf.block D hlt h3).trans h1,fun hb => ?_,fun ⟨x,hx,e⟩ => ?_,h4⟩
  ·rcases hA' D hb with h5|h5|h5
   ·exact h2 h5
   ·exact h3 h5
   ·omega
  ·rcases hk x hx with h5|h5
   ·exact h3 (e ▸ h5)
   ·omega
theorem LRel.alloc (h:LRel w A L) {o:Obj} {x:ABlk} (hx:BlkRel (w.alloc o) A w.heap.size x):LRel (w.alloc o) A ((w.heap.size,x) :: L):=by
 have keep:∀b,b<w.heap.size→(w.alloc o).heap[b]?=w.heap[b]?:=fun b hb=>Below.heap_alloc w o b hb
 refine⟨fun b hb=>by have:=h.abnd b hb;simp;omega,fun y hy => ?_,?_,fun y hy => ?_,h.globL (fun b hb=>keep b (h.abnd b hb)) fun _ h=>h⟩
 ·rcases List.mem_cons.1 hy with rfl|hy
  ·exact fun hb=>by have:=h.abnd _ hb;simp at this
  ·exact h.disj y hy
 ·simp only[List.map_cons,List.nodup_cons]
  refine⟨fun hm => ?_,h.nodup⟩
  obtain⟨y,hy,e⟩:=List.mem_map.1 hm
  have:=(h.blk y hy).lt
  omega
 ·rcases List.mem_cons.1 hy with rfl|hy
  ·exact hx
  ·exact(h.blk y hy).later (keep _ (h.blk y hy).lt) (fun b hb=>keep b (h.abnd b hb)) (fun _ h=>h)
theorem LRel.allocF (h:LRel w A L) (o:Obj):LRel (w.alloc o) (fun b=>A b∨b=w.heap.size) L:=by
 have keep:∀b,b<w.heap.size→(w.alloc o).heap[b]?=w.heap[b]?:=fun b hb=>Below.heap_alloc w o b hb
 refine⟨fun b hb => ?_,fun y hy hb => ?_,h.nodup,fun y hy=>(h.blk y hy).later (keep _ (h.blk y hy).lt) (fun b hb=>keep b (h.abnd b hb)) (fun _ h => .inl h),h.globL (fun b hb=>keep b (h.abnd b hb)) fun _ h => .inl h⟩
 ·rcases hb with hb|rfl
  ·have:=h.abnd b hb;simp;omega
  ·simp
 ·rcases hb with hb|hb
  ·exact h.disj y hy hb
  ·have:=(h.blk y hy).lt;omega
def upd:AHeap→Nat→ABlk→AHeap
 | [],_,_=>[]
 | (b',y) :: r,b,x=>if b=b' then (b',x) :: r else (b',y) :: upd r b x
def del:AHeap→Nat→AHeap
 | [],_=>[]
 | (b',y) :: r,b=>if b=b' then r else (b',y) :: del r b
theorem upd_keys (L:AHeap) (b:Nat) (x:ABlk):(upd L b x).map (·.1)=L.map (·.1):=by
 induction L with
 | nil=>rfl
 | cons y r ih=>obtain⟨b',y⟩:=y;simp only[upd];split <;> simp_all
theorem mem_upd {L:AHeap} (hn:(L.map (·.1)).Nodup) {b:Nat} {x:ABlk} {y:Nat × ABlk} (h:y ∈ upd L b x):(y=(b,x))∨(y ∈ L∧y.1 ≠ b):=by
 induction L with
 | nil=>cases h
 | cons z r ih =>
  obtain⟨b',z⟩:=z
  simp only[List.map_cons,List.nodup_cons] at hn
  simp only[upd] at h
  split at h
  ·rename_i e;subst e
   rcases List.mem_cons.1 h with rfl|h
   ·exact .inl rfl
   ·exact .inr ⟨List.mem_cons_of_mem _ h,fun e=>hn.1 (e ▸ List.mem_map_of_mem h)⟩
  ·rename_i e
   rcases List.mem_cons.1 h with rfl|h
   ·exact .inr ⟨List.mem_cons_self,fun e'=>e e'.symm⟩
   ·rcases ih hn.2 h with h'|h'
    ·exact .inl h'
    ·exact .inr ⟨List.mem_cons_of_mem _ h'.1,h'.2⟩
theorem del_sub (L:AHeap) (b:Nat):(del L b).Sublist L:=by
 induction L with
 | nil=>exact .slnil
 | cons z r ih =>
  obtain⟨b',z⟩:=z
  simp only[del]
  split
  ·exact List.sublist_cons_self _ _
  ·exact ih.cons_cons _
theorem mem_del {L:AHeap} (hn:(L.map (·.1)).Nodup) {b:Nat} {y:Nat × ABlk} (h:y ∈ del L b):y ∈ L∧y.1 ≠ b:=by
 induction L with
 | nil=>cases h
 | cons z r ih =>
  obtain⟨b',z⟩:=z
  simp only[List.map_cons,List.nodup_cons] at hn
  simp only[del] at h
  split at h
  ·rename_i e;subst e
   exact⟨List.mem_cons_of_mem _ h,fun e=>hn.1 (e ▸ List.mem_map_of_mem h)⟩
  ·rename_i e
   rcases List.mem_cons.1 h with rfl|h
   ·exact⟨List.mem_cons_self,fun e'=>e e'.symm⟩
   ·exact⟨List.mem_cons_of_mem _ (ih hn.2 h).1,(ih hn.2 h).2⟩
theorem keys_upd {L:AHeap} {b:Nat} {x:ABlk} (y:Nat × ABlk) (h:y ∈ upd L b x):keysOf L y.1:=by
 have:y.1 ∈ (upd L b x).map (·.1):=List.mem_map_of_mem h
 rw[upd_keys] at this
 obtain⟨z,hz,e⟩:=List.mem_map.1 this
 exact⟨z,hz,e⟩
theorem LRel.set (h:LRel w A L) {b:Nat} {x:ABlk} {w':World} (hf:∀k,k<w.heap.size→k ≠ b→w'.heap[k]?=w.heap[k]?) (hs:w.heap.size≤w'.heap.size) (hb:¬A b) (hx:BlkRel w' A b x):LRel w' A (upd L b x):=by
 have keep:∀b',A b'→w'.heap[b']?=w.heap[b']?:=fun b' hb'=>hf b' (h.abnd b' hb') (fun e=>hb (e ▸ hb'))
 refine⟨fun b hb=>Nat.lt_of_lt_of_le (h.abnd b hb) hs,fun y hy => ?_,by rw[upd_keys];exact h.nodup,fun y hy => ?_,h.globL keep fun _ h=>h⟩
 ·rcases mem_upd h.nodup hy with rfl|⟨hy,_⟩
  ·exact hb
  ·exact h.disj y hy
 ·rcases mem_upd h.nodup hy with rfl|⟨hy,hne⟩
  ·exact hx
  ·exact(h.blk y hy).later (hf _ (h.blk y hy).lt hne) keep (fun _ h=>h)
theorem LRel.sub (h:LRel w A L) {L':AHeap} (hs:L'.Sublist L):LRel w A L' :=
 ⟨h.abnd,fun x hx=>h.disj x (hs.subset hx),h.nodup.sublist (hs.map _),fun x hx=>h.blk x (hs.subset hx),h.glob⟩
theorem LRel.freeze (h:LRel w A L) {b:Nat} (hb:b<w.heap.size):LRel w (fun k=>A k∨k=b) (del L b):=by
 refine⟨fun k hk => ?_,fun y hy hk => ?_,h.nodup.sublist ((del_sub L b).map _),fun y hy=>(h.blk y (mem_del h.nodup hy).1).later rfl (fun _ _=>rfl) (fun _ h => .inl h),h.globL (fun _ _=>rfl) fun _ h => .inl h⟩
 ·rcases hk with hk|rfl
  ·exact h.abnd k hk
  ·exact hb
 ·obtain⟨h1,h2⟩:=mem_del h.nodup hy
  rcases hk with hk|hk
  ·exact h.disj y h1 hk
  ·exact h2 hk
end
structure Cfg where
 P:Program
 N:Nat
 r:Option Nat
 fz:List Nat
def isFz:List Nat→Option Tmp→Bool
 | [],_=>false
 | x :: r,d=>if d=some x then true else isFz r d
abbrev ARes:=Env→AHeap→Prop
def post (w0:World) (M A0:Foot) (N:Nat) (K:ARes):Act→World→Prop:=fun a' w'=>∃ρ' L',K ρ' L'∧St w0 M A0 N ρ' L' a' w'
def AOp (C:Cfg) (o:Oper) (ρ:Env) (L:AHeap) (K:ARes):Prop :=
 ∀n w0 M A0 a w (Qx:Exit→Act→World→Prop),St w0 M A0 C.N ρ L a w→o.wpIn (Fw C.r) n C.P a w (post w0 M A0 C.N K) Qx
theorem AOp.mono {C:Cfg} {o:Oper} {ρ:Env} {L:AHeap} {K K':ARes} (h:AOp C o ρ L K) (hk:∀ρ L,K ρ L→K' ρ L):AOp C o ρ L K' :=
 fun n w0 M A0 a w Qx hs=>Oper.wpIn_mono (fun _ _ ⟨ρ',L',h1,h2⟩=>⟨ρ',L',hk _ _ h1,h2⟩) (h n w0 M A0 a w Qx hs)
def dstOk (C:Cfg) (o:Oper):Prop:=∀i,o.dst=some i→i<C.N
theorem AOp.of_run {C:Cfg} {o:Oper} {ρ:Env} {L:AHeap} {K:ARes} (hdef:∀c,o.op ≠ .defer c)
  (h:∀w0 M A0 a w A ds,StW w0 M A0 C.N ρ L a w A ds→∃nx w',(execOp a.eval o).run C.P w = .ok nx w' ∧
   ((∃v,nx = .value v∧post w0 M A0 C.N K (a.put o.dst v) w')∨(nx = .skip∧post w0 M A0 C.N K (a.put o.dst undef) w'))):AOp C o ρ L K:=by
 intro n w0 M A0 a w Qx hs
 obtain⟨A,ds,hs⟩:=st_iff.1 hs
 obtain⟨nx,w',hr,hp⟩:=h w0 M A0 a w A ds hs
 refine⟨fun f _=>trivial,?_⟩
 rw[Oper.semAt_eq _ _ _ hdef,hr]
 rcases hp with ⟨v,rfl,hp⟩|⟨rfl,hp⟩
 ·exact hp
 ·exact hp
theorem AOp.val {C:Cfg} {o:Oper} {ρ:Env} {L:AHeap} {K:ARes} (hd:dstOk C o) (hdef:∀c,o.op ≠ .defer c) {x:AV}
  (h:∀(a:Act) w A,(∀y,Rel w A (ev ρ y) (a.eval y))→LRel w A L→∃u,(execOp a.eval o).run C.P w = .ok (.value u) w∧Rel w A x u) (hK:K (put ρ o.dst x) L):AOp C o ρ L K :=
 AOp.of_run hdef fun w0 M A0 a w A ds hs=>by
  obtain⟨u,hr,hrel⟩:=h a w A hs.ev hs.l
  exact⟨_,w,hr,.inl ⟨u,rfl,_,_,hK,st_iff.2 ⟨A,ds,hs.put hd hrel⟩⟩⟩
end Go.AL
end
