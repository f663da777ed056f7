/- Texts of this claim's proof: AlHeap, AlApp, AlByt, AlEq, AlMap, AlOps. No condition. -/
import Derived.Test.YtpcmoecaaphjmaaGreatDoorM0
import Derived.Laws.MakeOwn
import Derived.Lib.AppendZeros
import Derived.Laws.BytesString
import Derived.Laws.StructEq
import Derived.ChangeKeysEq
import Derived.RangeFuncIn
section
namespace Go.AL
open Go Go.RowKit
section
variable {P:Program} {w:World} {A:Foot}
structure ElemC (w:World) (A:Foot) (k:Nat) (xs:List AV) (c:List Value):Prop where
 ok:∀x ∈ xs,elOk k x
 rel:∀(i:Nat) x (j:Nat) y u,xs[i]?=some x→x.cells[j]?=some y→c[i * k+j]?=some u→Rel w A y u
theorem ElemC.nil {k:Nat} {c:List Value} : ElemC w A k [] c:=⟨fun _ h=>by simp at h,fun i x j y u h=>by simp at h⟩
theorem ElemC.later {w':World} {A':Foot} {k:Nat} {xs:List AV} {c:List Value} (h:ElemC w A k xs c) (hw:∀b,A b→w'.heap[b]?=w.heap[b]?) (hA:∀b,A b→A' b):ElemC w' A' k xs c :=
 ⟨h.ok,fun i x j y u hx hy hu=>(h.rel i x j y u hx hy hu).later hw hA⟩
theorem elOk.lt {k:Nat} {x y:AV} {j:Nat} (h:elOk k x) (hy:x.cells[j]?=some y):j<k:=by
 have:=(List.getElem?_eq_some_iff.1 hy).1;rw[h.1] at this;exact this
theorem BlkRel.row_iff {b:Nat} {t:TypeId} {k:Nat} {xs:List AV} {cap:Nat} : BlkRel w A b (.row t k xs cap) ↔
  ∃c:Array Value,w.heap[b]?=some (.cells c t (0,0))∧c.size=cap * k∧xs.length≤cap∧cap≤maxLen∧ElemC w A k xs c.toList :=
 ⟨fun ⟨c,h1,h2,h3,h4,h5,h6⟩=>⟨c,h1,h2,h3,h4,h5,fun i x j y u hx hy hu=>h6 i x j y u hx hy (by simpa using hu)⟩,
 fun ⟨c,h1,h2,h3,h4,h5⟩=>⟨c,h1,h2,h3,h4,h5.ok,fun i x j y u hx hy hu=>h5.rel i x j y u hx hy (by simpa using hu)⟩⟩
theorem ElemC.append {k:Nat} {xs ys:List AV} {c d:List Value} (h:ElemC w A k xs c) (g:ElemC w A k ys d) (hc:c.length=xs.length * k):ElemC w A k (xs ++ ys) (c ++ d):=by
 refine⟨fun x hx=>(List.mem_append.1 hx).elim (h.ok x) (g.ok x),fun i x j y u hx hy hu => ?_⟩
 rw[List.getElem?_append] at hx
 split at hx
 ·rename_i hi
  have hj:=(h.ok x (List.mem_of_getElem? hx)).lt hy
  rw[List.getElem?_append_left (by rw[hc];exact idx_lt hi hj)] at hu
  exact h.rel i x j y u hx hy hu
 ·rename_i hi
  have:xs.length * k≤i * k:=Nat.mul_le_mul_right _ (by omega)
  rw[List.getElem?_append_right (by rw[hc];omega),hc,show i * k+j - xs.length * k=(i - xs.length) * k+j by rw[Nat.sub_mul];omega] at hu
  exact g.rel _ x j y u hx hy hu
theorem ElemC.tail {k:Nat} {xs:List AV} {c:List Value} (h:ElemC w A k xs c) (d:List Value) (hc:xs.length * k≤c.length):ElemC w A k xs (c ++ d) :=
 ⟨h.ok,fun i x j y u hx hy hu=>by
  have hj:=(h.ok x (List.mem_of_getElem? hx)).lt hy
  have:=idx_lt (List.getElem?_eq_some_iff.1 hx).1 hj
  rw[List.getElem?_append_left (by omega)] at hu
  exact h.rel i x j y u hx hy hu⟩
theorem ElemC.take {k:Nat} {xs:List AV} {c:List Value} (h:ElemC w A k xs c) (n:Nat):ElemC w A k (xs.take n) (c.take (n * k)) :=
 ⟨fun x hx=>h.ok x (List.mem_of_mem_take hx),fun i x j y u hx hy hu=>by
  rw[List.getElem?_take] at hx hu
  split at hx
  ·split at hu
   ·exact h.rel i x j y u hx hy hu
   ·cases hu
  ·cases hx⟩
theorem ElemC.drop {k:Nat} {xs:List AV} {c:List Value} (h:ElemC w A k xs c) (n:Nat):ElemC w A k (xs.drop n) (c.drop (n * k)) :=
 ⟨fun x hx=>h.ok x (List.mem_of_mem_drop hx),fun i x j y u hx hy hu=>by
  rw[List.getElem?_drop] at hx hu
  rw[← Nat.add_assoc,← Nat.add_mul] at hu
  exact h.rel _ x j y u hx hy hu⟩
theorem ElemC.single {k:Nat} {x:AV} {u:Value} (h:Rel w A x u) (ho:okv x=true) (hk:x.cells.length=k):ElemC w A k [x] u.cells.toList∧u.cells.size=k:=by
 obtain⟨h1,h2⟩:=cells_ok h ho
 refine⟨⟨fun y hy=>by simp at hy;subst hy;exact⟨hk,ho⟩,fun i y j z v hy hz hv => ?_⟩,by have:=h1.1;simp at this;omega⟩
 cases i with
 | zero=>simp at hy;subst hy;exact h1.2 j z v hz (by simpa using hv)
 | succ i=>simp at hy
def stEl (x:AV) (j:Nat) (vs:List AV):AV :=
 match x with
 | .agg cs => .agg (splice cs j vs)
 | _=>vs.getD 0 .any
theorem one_of_okv {x:AV} (h:okv x=true):∀c ∈ x.cells,one c=true:=by
 cases x with
 | agg cs=>exact fun c hc=>List.all_eq_true.1 h c hc
 | _=>exact fun c hc=>by simp [AV.cells] at hc;subst hc;exact h
theorem stEl_ok {k:Nat} {x v:AV} {j:Nat} (hx:elOk k x) (hv:okv v=true) (hj:j+v.cells.length≤k) (hp:0<v.cells.length):elOk k (stEl x j v.cells)∧(stEl x j v.cells).cells=splice x.cells j v.cells:=by
 have h1:=one_of_okv hv
 cases x with
 | agg cs =>
  have hl:cs.length=k:=hx.1
  refine⟨⟨?_,?_⟩,rfl⟩
  ·show (splice cs j v.cells).length=k
   rw[splice_length _ _ _ (by omega)];exact hl
  ·refine List.all_eq_true.2 fun c hc => ?_
   unfold splice at hc
   rcases List.mem_append.1 hc with hc|hc
   ·rcases List.mem_append.1 hc with hc|hc
    ·exact List.all_eq_true.1 hx.2 c (List.mem_of_mem_take hc)
    ·exact h1 c hc
   ·exact List.all_eq_true.1 hx.2 c (List.mem_of_mem_drop hc)
 | _ =>
  have hk:(1:Nat)=k:=hx.1
  have hj0:j=0:=by omega
  have hl:v.cells.length=1:=by omega
  subst hj0
  obtain⟨c,hc⟩:=List.length_eq_one_iff.1 hl
  have ho:one c=true:=h1 c (by rw[hc];simp)
  rw[hc]
  have hcc:c.cells=[c]:=one_cells ho
  refine⟨⟨by rw[← hk];show c.cells.length=1;rw[hcc];rfl,?_⟩,?_⟩
  ·show okv c=true
   cases c <;> first|exact ho|(simp [one] at ho)
  ·show c.cells=_
   rw[hcc];rfl
theorem store_ok {t:TypeId} {ti:TI} (hti:tinfo P t=some ti) {b:Nat} {t':TypeId} {k:Nat} {xs:List AV} {cap:Nat} (hb:BlkRel w A b (.row t' k xs cap)) {i j:Nat} {v:AV} {u:Value}
  (hi:i<xs.length) (hj:j+ti.size≤k) (hs:v.cells.length=ti.size) (hp:0<ti.size) (ho:okv v=true) (hv:Rel w A v u) (hA:¬A b) :
  ∃w',(Instr.storeAt t (.pointer (some ⟨b,i * k+j,none⟩)) u).run P w = .ok () w'∧(∀m,m ≠ b→w'.heap[m]?=w.heap[m]?)∧w'.heap.size=w.heap.size∧w'.os=w.os∧w'.tape=w.tape∧w'.output=w.output∧w'.drawn=w.drawn ∧
   BlkRel w' A b (.row t' k (xs.set i (stEl (xs.getD i .any) j v.cells)) cap):=by
 obtain⟨c,hc,hsz,hl,hcap,E⟩:=BlkRel.row_iff.1 hb
 obtain⟨d,inf,z,hd,hinf,hz,rfl⟩:=tinfo_inv hti
 obtain⟨hcells,hone⟩:=cells_ok hv ho
 have hun:u.cells.toList.length=inf.size:=by rw[hcells.1,hs]
 have hx:=getD_get hi
 have hxo:=E.ok _ (List.mem_of_getElem? hx)
 have hfit:i * k+j+0+u.cells.toList.length≤c.size:=by
  rw[hun,hsz]
  have h1:(i+1) * k≤cap * k:=Nat.mul_le_mul_right _ (by omega)
  rw[Nat.add_mul] at h1;dsimp only at hj;omega
 have hrun:=run_storeCells_at P b (i * k+j) t' u.cells.toList 0 c w hc hfit hone
 generalize hnew:(c.toList.take (i * k+j+0) ++ u.cells.toList ++ c.toList.drop (i * k+j+0+u.cells.toList.length)).toArray=cn at hrun
 have hcn:cn.toList=splice c.toList (i * k+j) u.cells.toList:=by rw[← hnew];rfl
 have hfit':i * k+j+u.cells.toList.length≤c.toList.length:=by simpa using hfit
 refine⟨w.setRow b cn,?_,fun m hm=>setRow_other w b m cn hm,size_setRow w b cn,rfl,rfl,rfl,rfl,?_⟩
 ·have h2:¬(u.cells.size ≠ inf.size):=by simp at hun;omega
  simp only[Instr.storeAt,Instr.sureAddr,Sem.run_bind,Sem.run_pure,Result.andThen_ok,storeVar,run_sizeOf_i hinf]
  rw[if_neg h2]
  exact hrun
 ·have keep:∀m,A m→(w.setRow b cn).heap[m]?=w.heap[m]?:=fun m hm=>setRow_other w b m cn (fun e=>hA (e ▸ hm))
  refine BlkRel.row_iff.2 ⟨cn,setRow_heap w b c cn t' _ hc,?_,by simpa using hl,hcap,?_⟩
  ·rw[← Array.length_toList,hcn,splice_length _ _ _ hfit',Array.length_toList,hsz]
  ·obtain⟨h5,h6⟩:=stEl_ok (j:=j) hxo ho (by dsimp only at hj hs;omega) (by dsimp only at hs hp;omega)
   refine⟨fun y hy => ?_,fun i' y j' z' u' hy hz' hu' => ?_⟩
   ·rcases List.mem_or_eq_of_mem_set hy with hy|rfl
    ·exact E.ok y hy
    ·exact h5
   ·rw[hcn,splice_get _ _ _ hfit',hun] at hu'
    refine Rel.later (w:=w) (A:=A) ?_ keep (fun _ h=>h)
    by_cases hii:i'=i
    ·subst hii
     rw[List.getElem?_set_self hi] at hy
     cases hy
     rw[h6,splice_get _ _ _ (by rw[hxo.1,hs];exact hj),hs] at hz'
     dsimp only at hz'
     by_cases hr:j≤j'∧j'<j+inf.size
     ·rw[if_pos hr] at hz'
      rw[if_pos (show i' * k+j≤i' * k+j'∧i' * k+j'<i' * k+j+inf.size by omega),show i' * k+j' - (i' * k+j)=j' - j by omega] at hu'
      exact hcells.2 _ _ _ hz' hu'
     ·rw[if_neg hr] at hz'
      rw[if_neg (show ¬(i' * k+j≤i' * k+j'∧i' * k+j'<i' * k+j+inf.size) by omega)] at hu'
      exact E.rel i' _ j' z' u' hx hz' hu'
    ·rw[List.getElem?_set_ne (Ne.symm hii)] at hy
     have hj':=(E.ok y (List.mem_of_getElem? hy)).lt hz'
     have hout:¬(i * k+j≤i' * k+j'∧i' * k+j'<i * k+j+inf.size):=by
      intro ⟨h7,h8⟩
      dsimp only at hj
      rcases Nat.lt_or_gt_of_ne hii with h9|h9
      ·have:(i'+1) * k≤i * k:=Nat.mul_le_mul_right _ h9
       rw[Nat.add_mul] at this;omega
      ·have:(i+1) * k≤i' * k:=Nat.mul_le_mul_right _ h9
       rw[Nat.add_mul] at this;omega
     rw[if_neg hout] at hu'
     exact E.rel i' y j' z' u' hy hz' hu'
def isArr1 (ti:TI) (k:Nat):Bool:=match ti.k with | .arr _ _=>decide (k=1)|_=>false
def stI (ti:TI) (k i:Nat) (xs:List AV):Prop:=if isArr1 ti k then i=0∧xs.length=ti.size else i<xs.length
def stJ (ti:TI) (k j:Nat):Prop:=if isArr1 ti k then j=0 else j+ti.size≤k
def stXs (ti:TI) (k:Nat) (xs:List AV) (i j:Nat) (x:AV):List AV:=if isArr1 ti k then x.cells else xs.set i (stEl (xs.getD i .any) j x.cells)
theorem elOk_one {c:AV} (h:one c=true):elOk 1 c:=⟨by rw[one_cells h];rfl,by cases c <;> first|exact h|(simp [one] at h)⟩
theorem store_ok' {t:TypeId} {ti:TI} (hti:tinfo P t=some ti) {b:Nat} {t':TypeId} {k:Nat} {xs:List AV} {cap:Nat} (hb:BlkRel w A b (.row t' k xs cap)) {i j:Nat} {v:AV} {u:Value}
  (hi:stI ti k i xs) (hj:stJ ti k j) (hs:v.cells.length=ti.size) (hp:0<ti.size) (ho:okv v=true) (hv:Rel w A v u) (hA:¬A b) :
  ∃w',(Instr.storeAt t (.pointer (some ⟨b,i * k+j,none⟩)) u).run P w = .ok () w'∧(∀m,m ≠ b→w'.heap[m]?=w.heap[m]?)∧w'.heap.size=w.heap.size∧w'.os=w.os∧w'.tape=w.tape∧w'.output=w.output∧w'.drawn=w.drawn ∧
   BlkRel w' A b (.row t' k (stXs ti k xs i j v) cap):=by
 unfold stI at hi
 unfold stJ at hj
 unfold stXs
 by_cases ha:isArr1 ti k=true
 ·rw[if_pos ha] at hi hj ⊢
  obtain⟨rfl,hxl⟩:=hi
  subst hj
  have hk:k=1:=by
   unfold isArr1 at ha
   split at ha
   ·simpa using ha
   ·cases ha
  subst hk
  obtain⟨c,hc,hsz,hl,hcap,E⟩:=BlkRel.row_iff.1 hb
  obtain⟨d,inf,z,hd,hinf,hz,rfl⟩:=tinfo_inv hti
  obtain⟨hcells,hone⟩:=cells_ok hv ho
  dsimp only at hs hp hxl
  have hun:u.cells.toList.length=inf.size:=by rw[hcells.1,hs]
  have hfit:0 * 1+0+0+u.cells.toList.length≤c.size:=by rw[hun,hsz];omega
  have hrun:=run_storeCells_at P b (0 * 1+0) t' u.cells.toList 0 c w hc hfit hone
  generalize hnew:(c.toList.take (0 * 1+0+0) ++ u.cells.toList ++ c.toList.drop (0 * 1+0+0+u.cells.toList.length)).toArray=cn at hrun
  have hcn:cn.toList=u.cells.toList ++ c.toList.drop u.cells.toList.length:=by rw[← hnew];simp
  refine⟨w.setRow b cn,?_,fun m hm=>setRow_other w b m cn hm,size_setRow w b cn,rfl,rfl,rfl,rfl,?_⟩
  ·have h2:¬(u.cells.size ≠ inf.size):=by simp at hun;omega
   simp only[Instr.storeAt,Instr.sureAddr,Sem.run_bind,Sem.run_pure,Result.andThen_ok,storeVar,run_sizeOf_i hinf]
   rw[if_neg h2]
   exact hrun
  ·have keep:∀m,A m→(w.setRow b cn).heap[m]?=w.heap[m]?:=fun m hm=>setRow_other w b m cn (fun e=>hA (e ▸ hm))
   refine BlkRel.row_iff.2 ⟨cn,setRow_heap w b c cn t' _ hc,?_,by omega,hcap,fun y hy => ?_,fun i' y j' z' u' hy hz' hu' => ?_⟩
   ·have hus:u.cells.size=inf.size:=by simpa using hun
    rw[← Array.length_toList,hcn,List.length_append,List.length_drop,Array.length_toList,Array.length_toList,hus,hsz];omega
   ·exact elOk_one (one_of_okv ho y hy)
   ·have hy1:=one_cells (one_of_okv ho y (List.mem_of_getElem? hy))
    rw[hy1] at hz'
    have hlt:i'<v.cells.length:=(List.getElem?_eq_some_iff.1 hy).1
    cases j' with
    | succ j'=>simp at hz'
    | zero =>
     simp only[List.getElem?_cons_zero,Option.some.injEq] at hz'
     subst hz'
     rw[hcn,List.getElem?_append_left (by omega)] at hu'
     exact(hcells.2 i' y u' hy (by simpa using hu')).later keep (fun _ h=>h)
 ·rw[if_neg ha] at hi hj ⊢
  exact store_ok hti hb hi hj hs hp ho hv hA
theorem rp_of_blk {A':Foot} {b:Nat} {t:TypeId} {k:Nat} {xs:List AV} {cap:Nat} (h:BlkRel w A b (.row t k xs cap)) (hb:A' b) (hA:∀b,A b→A' b) (i j:Nat) :
  Rel w A' (.rp k xs i j) (.pointer (some ⟨b,i * k+j,none⟩)):=by
 obtain⟨c,h1,h2,h3,h4,E⟩:=BlkRel.row_iff.1 h
 have hlt:∀m,m<xs.length * k→m<c.size:=fun m hm=>by
  rw[h2];exact Nat.lt_of_lt_of_le hm (Nat.mul_le_mul_right _ h3)
 have:=Rel.rp (w:=w) (A:=A') k xs i j b 0 (fun m=>c.toList.getD m undef) hb E.ok
  (fun m hm=>by rw[Nat.zero_add,cell_of_row w b m c t _ h1];simp [hlt m hm])
  (fun i x j y hx hy=>by
   have hj:=(E.ok x (List.mem_of_getElem? hx)).lt hy
   have hm:=hlt _ (idx_lt (List.getElem?_eq_some_iff.1 hx).1 hj)
   exact(E.rel i x j y _ hx hy (by simp [hm])).later (fun _ _=>rfl) hA)
 rwa [Nat.zero_add] at this
theorem sl_of_blk {A':Foot} {b:Nat} {t:TypeId} {k:Nat} {xs:List AV} {cap:Nat} (h:BlkRel w A b (.row t k xs cap)) (hb:A' b) (hA:∀b,A b→A' b) {off n cap' o:Nat} (hn:off+n≤xs.length) (hc:n≤cap') (hm:cap'≤maxLen)
  (ho:o=off * k∨cap'=0):Rel w A' (.sl k ((xs.drop off).take n)) (.slice (some ⟨b,o,none⟩) n cap'):=by
 obtain⟨c,h1,h2,h3,h4,E⟩:=BlkRel.row_iff.1 h
 by_cases hz:n=0
 ·subst hz;rw[List.take_zero];exact .sl0 _ _ _ hm
 ·have ho:o=off * k:=by rcases ho with ho|ho;exact ho;omega
  subst ho
  have hlen:((xs.drop off).take n).length=n:=by simp;omega
  have hlt:∀m,m<n * k→off * k+m<c.size:=fun m hm=>by
   rw[h2]
   have:(off+n) * k≤cap * k:=Nat.mul_le_mul_right _ (by omega)
   rw[Nat.add_mul] at this;omega
  have:=Rel.sl (w:=w) (A:=A') k ((xs.drop off).take n) b (off * k) cap' (fun m=>c.toList.getD (off * k+m) undef) hb (by omega) hm (fun x hx=>E.ok x (List.mem_of_mem_drop (List.mem_of_mem_take hx)))
   (fun m hm=>by
    rw[hlen] at hm
    rw[cell_of_row w b _ c t _ h1];simp [hlt m hm])
   (fun i x j y hx hy=>by
    have hi:i<n:=by have:=(List.getElem?_eq_some_iff.1 hx).1;omega
    have hx':xs[off+i]?=some x:=by
     rw[List.getElem?_take,if_pos hi,List.getElem?_drop] at hx;exact hx
    have hj:=(E.ok x (List.mem_of_getElem? hx')).lt hy
    have hm:=hlt _ (idx_lt hi hj)
    refine(E.rel (off+i) x j y _ hx' hy ?_).later (fun _ _=>rfl) hA
    rw[Nat.add_mul,Nat.add_assoc]
    simp [hm])
  rwa [hlen] at this
theorem BlkRel.new {c:Array Value} {t:TypeId} {k:Nat} {xs:List AV} {cap:Nat} (E:ElemC w A k xs c.toList) (hA:∀b,A b→b<w.heap.size) (hs:c.size=cap * k) (hl:xs.length≤cap) (hc:cap≤maxLen) :
  BlkRel (w.alloc (.cells c t)) A w.heap.size (.row t k xs cap) :=
 BlkRel.row_iff.2 ⟨c,heap_alloc_new w _,hs,hl,hc,E.later (fun b hb=>Below.heap_alloc w _ b (hA b hb)) (fun _ h=>h)⟩
def srcOf (L:AHeap) (k:Nat) (x:AV):Option (Prop × List AV) :=
 match x with
 | .sl k' ys=>some (k=k',ys)
 | .ls b k' off len _=>match lk L b with
  | some (.row _ k2 xs _)=>some (k=k'∧k=k2∧off+len≤xs.length,(xs.drop off).take len)
  | _=>none
 | .v (.slice none 0 0)=>some (True,[])
 | _=>none
structure SrcOk (w:World) (A:Foot) (k:Nat) (ys:List AV) (u:Value) (news:List Value):Prop where
 shape:(∃a cap,u = .slice (some a) ys.length cap∧∀(j:Nat) v,news[j]?=some v→w.cell? (a.add j)=some v)∨(u = .slice none 0 0∧ys=[]∧news=[])∨(∃a cap,u = .slice a 0 cap∧ys=[]∧news=[])
 len:news.length=ys.length * k
 el:ElemC w A k ys news
 one:∀v ∈ news,v.oneCell'=true
theorem ElemC.one {k:Nat} {ys:List AV} {news:List Value} (h:ElemC w A k ys news) (hl:news.length=ys.length * k) (hk:0<k):∀v ∈ news,v.oneCell'=true:=fun v hv=>by
 obtain⟨m,hm⟩:=List.getElem?_of_mem hv
 have hlt:m<ys.length * k:=by have:=(List.getElem?_eq_some_iff.1 hm).1;omega
 have hi:m / k<ys.length:=(Nat.div_lt_iff_lt_mul hk).2 hlt
 have hx:=List.getElem?_eq_getElem hi
 have ho:=h.ok _ (List.mem_of_getElem? hx)
 have hj:m % k<(ys[m / k]).cells.length:=by rw[ho.1];exact Nat.mod_lt _ hk
 have hy:=List.getElem?_eq_getElem hj
 exact one_ok (h.rel (m / k) _ (m % k) _ v hx hy (by rw[Nat.mul_comm,Nat.div_add_mod];exact hm)) (one_of_okv ho.2 _ (List.mem_of_getElem? hy))
theorem srcOf_ok {L:AHeap} {k:Nat} {x:AV} {u:Value} {c:Prop} {ys:List AV} (h:srcOf L k x=some (c,ys)) (hc:c) (hL:LRel w A L) (hx:Rel w A x u) (hk:0<k):∃news,SrcOk w A k ys u news:=by
 unfold srcOf at h
 split at h
 ·cases h
  obtain rfl:=hc
  cases hx with
  | sl0 _ a cap _=>exact⟨[],.inr (.inr ⟨a,cap,rfl,rfl,rfl⟩),by simp,.nil,by simp⟩
  | sl _ _ b off cap cc hA hl hcap hok hw hh =>
   have hlen:((List.range (ys.length * k)).map cc).length=ys.length * k:=by simp
   have E:ElemC w A k ys ((List.range (ys.length * k)).map cc):=⟨hok,fun i x j y u hx hy hu=>by
     have hj:=(hok x (List.mem_of_getElem? hx)).lt hy
     have:=idx_lt (List.getElem?_eq_some_iff.1 hx).1 hj
     rw[List.getElem?_map,List.getElem?_range this] at hu
     cases hu
     exact hh i x j y hx hy⟩
   refine⟨(List.range (ys.length * k)).map cc,.inl ⟨_,_,rfl,fun j v hv => ?_⟩,hlen,E,E.one hlen hk⟩
   have hj:j<ys.length * k:=by have:=(List.getElem?_eq_some_iff.1 hv).1;omega
   rw[List.getElem?_map,List.getElem?_range hj] at hv
   cases hv
   rw[Addr.add_lit];exact hw j hj
 ·split at h
  ·rename_i b k' off len cap _ t k2 xs cap2 hlk
   cases h
   obtain⟨rfl,rfl,hn⟩:=hc
   obtain⟨o,rfl,hle,hcap,ho⟩:=hx.inv_ls
   obtain⟨c,h1,h2,h3,h4,E⟩:=BlkRel.row_iff.1 (hL.lk hlk)
   by_cases hz:len=0
   ·subst hz
    rw[List.take_zero]
    exact⟨[],.inr (.inr ⟨_,_,rfl,rfl,rfl⟩),by simp,.nil,by simp⟩
   ·have ho:o=off * k:=by rcases ho with ho|ho;exact ho;omega
    subst ho
    have hlen:((xs.drop off).take len).length=len:=by simp;omega
    have hcl:(off+len) * k≤c.toList.length:=by rw[Array.length_toList,h2];exact Nat.mul_le_mul_right _ (by omega)
    have hl2:((c.toList.drop (off * k)).take (len * k)).length=((xs.drop off).take len).length * k:=by
     rw[hlen,List.length_take,List.length_drop];rw[Nat.add_mul] at hcl;omega
    have E2:=(E.drop off).take len
    refine⟨_,.inl ⟨_,_,by rw[hlen],fun j v hv => ?_⟩,hl2,E2,E2.one hl2 hk⟩
    rw[Addr.add_lit,cell_of_row w b _ c t _ h1]
    rw[List.getElem?_take] at hv
    split at hv
    ·rw[List.getElem?_drop] at hv;simpa using hv
    ·cases hv
  ·cases h
 ·cases h
  obtain rfl:=hx.inv_v
  exact⟨[],.inr (.inl ⟨rfl,rfl,rfl⟩),by simp,.nil,by simp⟩
 ·cases h
end
end Go.AL
end
section
namespace Go.AL
open Go Go.RowKit
section
variable {P:Program} {w:World} {A:Foot}
theorem size_zeros (z:Value) {k:Nat} (hz:z.cells.size=k) (n:Nat):(Builtin.zeroCells z.cells n).size=n * k:=by rw[size_zeroCells,hz]
def AppOk (n bytes:Nat):Prop:=n * bytes≤140737488355328∧n≤9223372036854775807
theorem append_nil_ok {t ty e:TypeId} {s b:Nat} {z:AV} (ht:tinfo P t=some ⟨.slice e,s,b,z⟩) {ei:TI} (he:tinfo P e=some ei) (hzl:ei.zero.cells.length=ei.size) (_hp:0<ei.size)
  {ys:List AV} {u:Value} {news:List Value} (S:SrcOk w A ei.size ys u news) (hb:AppOk ys.length ei.bytes) :
  (ys=[]∧(Builtin.append_ #[t,t] ty #[.slice none 0 0,u]).run P w = .ok (.slice none 0 0) w) ∨
  (ys ≠ []∧∃c cap,(Builtin.append_ #[t,t] ty #[.slice none 0 0,u]).run P w = .ok (.slice (some ⟨w.heap.size,0,none⟩) ys.length cap) (w.drew.alloc (.cells c e)) ∧
   ys.length≤cap∧cap≤maxLen∧c.size=cap * ei.size∧ElemC w A ei.size ys c.toList):=by
 have hd:=tinfo_slice ht
 obtain⟨d2,inf2,z2,hd2,hinf2,hz2,rfl⟩:=tinfo_inv he
 by_cases hy:ys=[]
 ·refine .inl ⟨hy,?_⟩
  rcases S.shape with ⟨a,cap,rfl,_⟩|⟨rfl,_,_⟩|⟨a,cap,rfl,_,_⟩
  ·subst hy
   simp [Builtin.append_,run_underlying hd,sizeOf,typeInfo,hinf2,Builtin.lenOf,Builtin.firstCells,loadCells,loadCellsFrom]
  ·simp [Builtin.append_,run_underlying hd,sizeOf,typeInfo,hinf2,Builtin.lenOf,Builtin.firstCells]
  ·cases a <;> simp [Builtin.append_,run_underlying hd,sizeOf,typeInfo,hinf2,Builtin.lenOf,Builtin.firstCells,loadCells,loadCellsFrom]
 ·refine .inr ⟨hy,?_⟩
  rcases S.shape with ⟨a,cap,rfl,hc⟩|⟨_,h,_⟩|⟨_,_,_,h,_⟩
  ·have h0:0<ys.length:=List.length_pos_iff.2 hy
   have hr:=run_append_nil (P:=P) w t ty e inf2 z2 hd hinf2 hz2 a ys.length cap news S.len hc h0 (by have:=hb.2;omega) (by have:=hb.1;dsimp only at this;omega)
   refine⟨_,_,hr,grownCap_ge _ _ _ _,grownCap_le_maxLen _ _ _ _ (by have:=hb.2;simp only[maxLen];omega),?_,?_⟩
   ·have hz3:z2.cells.size=inf2.size:=by have:=(zav_cells (w:=w) (A:=A) z2).1;simp at this;dsimp only at hzl;omega
    rw[Array.size_append,List.size_toArray,S.len,size_zeros z2 hz3,← Nat.add_mul]
    congr 1;have:=grownCap_ge w ys.length 0 e;omega
   ·rw[Array.toList_append]
    exact S.el.tail _ (by simp [S.len])
  ·exact absurd h hy
  ·exact absurd h hy
theorem append_ok {t ty e:TypeId} {s b':Nat} {z:AV} (ht:tinfo P t=some ⟨.slice e,s,b',z⟩) {ei:TI} (he:tinfo P e=some ei) (hzl:ei.zero.cells.length=ei.size) (_hp:0<ei.size)
  {ys:List AV} {u:Value} {news:List Value} (S:SrcOk w A ei.size ys u news) {b:Nat} {xs:List AV} {capb:Nat} (hB:BlkRel w A b (.row e ei.size xs capb)) (hA:¬A b)
  {off len cap o:Nat} (hle:len≤cap) (ho:o=off * ei.size∨cap=0) (h1:off+len≤xs.length) (h2:off+cap≤capb) (hb:AppOk (len+ys.length) ei.bytes) :
  (len+ys.length≤cap∧∃w',(Builtin.append_ #[t,t] ty #[.slice (some ⟨b,o,none⟩) len cap,u]).run P w = .ok (.slice (some ⟨b,o,none⟩) (len+ys.length) cap) w' ∧
   (∀m,m ≠ b→w'.heap[m]?=w.heap[m]?)∧w'.heap.size=w.heap.size∧w'.os=w.os∧w'.tape=w.tape∧w'.output=w.output∧w'.drawn=w.drawn∧BlkRel w' A b (.row e ei.size (xs.take (off+len) ++ ys) capb)) ∨
  (∃c cap',(Builtin.append_ #[t,t] ty #[.slice (some ⟨b,o,none⟩) len cap,u]).run P w = .ok (.slice (some ⟨w.heap.size,0,none⟩) (len+ys.length) cap') (w.drew.alloc (.cells c e)) ∧
   len+ys.length≤cap'∧cap'≤maxLen∧c.size=cap' * ei.size∧ElemC w A ei.size ((xs.drop off).take len ++ ys) c.toList):=by
 have hd:=tinfo_slice ht
 obtain⟨d2,inf2,z2,hd2,hinf2,hz2,rfl⟩:=tinfo_inv he
 dsimp only at *
 obtain⟨c,hc,hsz,hl,hcap,E⟩:=BlkRel.row_iff.1 hB
 have first:∀w:World,(∀(a:Addr),w.cell? a=w.cell? a)→True:=fun _ _=>trivial
 by_cases hroom:len+ys.length≤cap
 ·refine .inl ⟨hroom,?_⟩
  have hfc:∀a,(∃ad cp,u = .slice (some ad) ys.length cp∧∀(j:Nat) v,news[j]?=some v→w.cell? (ad.add j)=some v)∨a→True:=fun _ _=>trivial
  have hrunf:(Builtin.firstCells inf2.size ys.length u).run P w = .ok news.toArray w:=by
   rcases S.shape with ⟨a,cp,rfl,hcc⟩|⟨rfl,h,h'⟩|⟨a,cp,rfl,h,h'⟩
   ·exact run_firstCells_some (P:=P) w inf2.size ys.length a ys.length cp news S.len hcc
   ·subst h';simp [Builtin.firstCells]
   ·subst h;subst h';cases a <;> simp [Builtin.firstCells,loadCells,loadCellsFrom]
  have hlenof:(Builtin.lenOf u).run P w = .ok ys.length w:=by
   rcases S.shape with ⟨a,cp,rfl,hcc⟩|⟨rfl,h,h'⟩|⟨a,cp,rfl,h,h'⟩
   ·rfl
   ·subst h;rfl
   ·subst h;rfl
  have happ:∀w',(storeCells ((⟨b,o,none⟩:Addr).add (len * inf2.size)) news).run P w = .ok () w' →
    (Builtin.append_ #[t,t] ty #[.slice (some ⟨b,o,none⟩) len cap,u]).run P w = .ok (.slice (some ⟨b,o,none⟩) (len+ys.length) cap) w':=fun w' hst=>by
   simp [Builtin.append_,run_underlying hd,sizeOf,typeInfo,hinf2,hlenof,hroom,hrunf,hst]
  by_cases hc0:cap=0
  ·have hy:ys=[]:=List.eq_nil_of_length_eq_zero (by omega)
   have hn:news=[]:=List.eq_nil_of_length_eq_zero (by rw[S.len,hy];simp)
   refine⟨w,happ w (by rw[hn];rfl),fun _ _=>rfl,rfl,rfl,rfl,rfl,rfl,?_⟩
   refine BlkRel.row_iff.2 ⟨c,hc,hsz,by rw[hy];simp;omega,hcap,?_⟩
   rw[hy,List.append_nil]
   exact⟨fun x hx=>E.ok x (List.mem_of_mem_take hx),fun i x j y v hx hy hv=>by
    rw[List.getElem?_take] at hx
    split at hx
    ·exact E.rel i x j y v hx hy hv
    ·cases hx⟩
  ·have ho:o=off * inf2.size:=by rcases ho with ho|ho;exact ho;exact absurd ho hc0
   subst ho
   have hfit:off * inf2.size+len * inf2.size+0+news.length≤c.size:=by
    rw[S.len,hsz]
    have:(off+len+ys.length) * inf2.size≤capb * inf2.size:=Nat.mul_le_mul_right _ (by omega)
    rw[Nat.add_mul,Nat.add_mul] at this;omega
   have hrun:=run_storeCells_at P b (off * inf2.size+len * inf2.size) e news 0 c w hc hfit S.one
   generalize hnew:(c.toList.take (off * inf2.size+len * inf2.size+0) ++ news ++ c.toList.drop (off * inf2.size+len * inf2.size+0+news.length)).toArray=cn at hrun
   have hcn:cn.toList=c.toList.take ((off+len) * inf2.size) ++ (news ++ c.toList.drop (off * inf2.size+len * inf2.size+0+news.length)):=by
    rw[← hnew,Nat.add_mul];simp
   have keep:∀m,A m→(w.setRow b cn).heap[m]?=w.heap[m]?:=fun m hm=>setRow_other w b m cn (fun e=>hA (e ▸ hm))
   refine⟨w.setRow b cn,happ _ (by rw[Addr.add_lit];exact hrun),fun m hm=>setRow_other w b m cn hm,size_setRow w b cn,rfl,rfl,rfl,rfl,?_⟩
   refine BlkRel.row_iff.2 ⟨cn,setRow_heap w b c cn e _ hc,?_,?_,hcap,?_⟩
   ·rw[← hnew,List.size_toArray]
    simp only[List.length_append,List.length_take,List.length_drop,Array.length_toList]
    omega
   ·simp;omega
   ·rw[hcn]
    have htl:(xs.take (off+len)).length=off+len:=by simp;omega
    refine ElemC.later (w:=w) (A:=A) (ElemC.append (E.take (off+len)) (S.el.tail _ (by rw[S.len];exact Nat.le_refl _)) ?_) keep (fun _ h=>h)
    rw[htl,List.length_take,Array.length_toList,hsz]
    have:(off+len) * inf2.size≤capb * inf2.size:=Nat.mul_le_mul_right _ (by omega)
    omega
 ·refine .inr ?_
  rcases S.shape with ⟨a,cp,rfl,hcc⟩|⟨rfl,h,h'⟩|⟨a,cp,rfl,h,h'⟩
  ·have hosz:len=0∨o=off * inf2.size:=by rcases ho with ho|ho;exact .inr ho;exact .inl (by omega)
   have hcl:(off+len) * inf2.size≤c.toList.length:=by rw[Array.length_toList,hsz];exact Nat.mul_le_mul_right _ (by omega)
   have hol:((c.toList.drop (off * inf2.size)).take (len * inf2.size)).length=len * inf2.size:=by
    rw[List.length_take,List.length_drop];rw[Nat.add_mul] at hcl;omega
   have holds:∀(j:Nat) v,((c.toList.drop (off * inf2.size)).take (len * inf2.size))[j]?=some v→w.cell? ((⟨b,o,none⟩:Addr).add j)=some v:=fun j v hv=>by
    have hj:j<len * inf2.size:=by have:=(List.getElem?_eq_some_iff.1 hv).1;omega
    rcases hosz with hl0|rfl
    ·subst hl0;simp at hj
    ·rw[Addr.add_lit,cell_of_row w b _ c e _ hc]
     rw[List.getElem?_take,if_pos hj,List.getElem?_drop] at hv
     simpa using hv
   have hr:=run_append_grow (P:=P) w t ty e inf2 z2 hd hinf2 hz2 ⟨b,o,none⟩ len cap _ hol holds a ys.length cp news S.len hcc (by omega) (by have:=hb.2;omega) (growslice_fits (by omega) hb.1)
   refine⟨_,_,hr,grownCap_ge _ _ _ _,grownCap_le_maxLen _ _ _ _ (by have:=hb.2;simp only[maxLen];omega),?_,?_⟩
   ·have hz3:z2.cells.size=inf2.size:=by have:=(zav_cells (w:=w) (A:=A) z2).1;simp at this;omega
    rw[Array.size_append,Array.size_append,List.size_toArray,List.size_toArray,S.len,hol,size_zeros z2 hz3,← Nat.add_mul,← Nat.add_mul]
    congr 1;have:=grownCap_ge w (len+ys.length) cap e;omega
   ·rw[Array.toList_append,Array.toList_append]
    have htl:((xs.drop off).take len).length=len:=by simp;omega
    refine ElemC.tail (ElemC.append ((E.drop off).take len) S.el (by rw[htl];exact hol)) _ ?_
    rw[List.length_append,htl,Nat.add_mul]
    have e1:=hol
    have e2:=S.len
    show _≤(List.take (len * inf2.size) (List.drop (off * inf2.size) c.toList) ++ news).length
    rw[List.length_append];omega
  ·subst h;simp at hroom;omega
  ·subst h;simp at hroom;omega
theorem ElemC.splice {k:Nat} {xs ys:List AV} {c d:List Value} (h:ElemC w A k xs c) (g:ElemC w A k ys d) {off:Nat} (hd:d.length=ys.length * k) (hy:off+ys.length≤xs.length) (hc:xs.length * k≤c.length) :
  ElemC w A k (splice xs off ys) (splice c (off * k) d):=by
 unfold AL.splice
 have h1:(off+ys.length) * k≤xs.length * k:=Nat.mul_le_mul_right _ hy
 rw[Nat.add_mul] at h1
 have ht:(xs.take off).length=off:=by simp;omega
 rw[show off * k+d.length=(off+ys.length) * k by rw[hd,Nat.add_mul]]
 refine ElemC.append (ElemC.append (h.take off) g ?_) (h.drop _) ?_
 ·rw[ht,List.length_take];omega
 ·rw[List.length_append,List.length_append,ht,List.length_take,hd,Nat.add_mul];omega
theorem copy_ok {t u' ty e:TypeId} {s b':Nat} {z:AV} (ht:tinfo P t=some ⟨.slice e,s,b',z⟩) {ei:TI} (he:tinfo P e=some ei) (hp:0<ei.size)
  {ys:List AV} {u:Value} {news:List Value} (S:SrcOk w A ei.size ys u news) {b:Nat} {t':TypeId} {xs:List AV} {capb:Nat} (hB:BlkRel w A b (.row t' ei.size xs capb)) (hA:¬A b)
  {off len cap o:Nat} (hle:len≤cap) (ho:o=off * ei.size∨cap=0) (h1:off+len≤xs.length) :
  ∃w',(Builtin.copy_ #[t,u'] ty #[.slice (some ⟨b,o,none⟩) len cap,u]).run P w = .ok (.int .i64 (min ys.length len:Nat)) w' ∧
   (∀m,m ≠ b→w'.heap[m]?=w.heap[m]?)∧w'.heap.size=w.heap.size∧w'.os=w.os∧w'.tape=w.tape∧w'.output=w.output∧w'.drawn=w.drawn∧BlkRel w' A b (.row t' ei.size (splice xs off (ys.take (min ys.length len))) capb):=by
 have hd:=tinfo_slice ht
 obtain⟨d2,inf2,z2,hd2,hinf2,hz2,rfl⟩:=tinfo_inv he
 dsimp only at *
 obtain⟨c,hc,hsz,hl,hcap,E⟩:=BlkRel.row_iff.1 hB
 generalize hn:min ys.length len=n
 have hnl:(ys.take n).length=n:=by simp;omega
 have hnn:(news.take (n * inf2.size)).length=n * inf2.size:=by
  rw[List.length_take,S.len]
  have:n * inf2.size≤ys.length * inf2.size:=Nat.mul_le_mul_right _ (by omega)
  omega
 have hlenof:(Builtin.lenOf u).run P w = .ok ys.length w:=by
  rcases S.shape with ⟨a,cp,rfl,hcc⟩|⟨rfl,h,h'⟩|⟨a,cp,rfl,h,h'⟩
  ·rfl
  ·subst h;rfl
  ·subst h;rfl
 have hrunf:(Builtin.firstCells inf2.size n u).run P w = .ok (news.take (n * inf2.size)).toArray w:=by
  rcases S.shape with ⟨a,cp,rfl,hcc⟩|⟨rfl,h,h'⟩|⟨a,cp,rfl,h,h'⟩
  ·exact run_firstCells_some (P:=P) w inf2.size n a ys.length cp _ hnn (fun j v hv=>by
    rw[List.getElem?_take] at hv
    split at hv
    ·exact hcc j v hv
    ·cases hv)
  ·subst h';simp [Builtin.firstCells]
  ·subst h;subst h'
   have:n=0:=by simp at hn;omega
   subst this
   cases a <;> simp [Builtin.firstCells,loadCells,loadCellsFrom]
 have hcopy:∀w',(storeCells ⟨b,o,none⟩ (news.take (n * inf2.size))).run P w = .ok () w' →
   (Builtin.copy_ #[t,u'] ty #[.slice (some ⟨b,o,none⟩) len cap,u]).run P w = .ok (.int .i64 n) w':=fun w' hst=>by
  have hnm:Nat.min ys.length len=n:=hn
  simp [Builtin.copy_,run_underlying hd,hlenof,run_sizeOf_i hinf2,hnm,hrunf,hst,goInt]
 by_cases hc0:cap=0
 ·have hn0:n=0:=by omega
  refine⟨w,hcopy w (by rw[hn0];simp;rfl),fun _ _=>rfl,rfl,rfl,rfl,rfl,rfl,?_⟩
  rw[hn0,List.take_zero]
  unfold splice
  simp only[List.append_nil,List.length_nil,Nat.add_zero,List.take_append_drop]
  exact hB
 ·have ho:o=off * inf2.size:=by rcases ho with ho|ho;exact ho;exact absurd ho hc0
  subst ho
  have h2:(off+n) * inf2.size≤capb * inf2.size:=Nat.mul_le_mul_right _ (by omega)
  rw[Nat.add_mul] at h2
  have hone:∀v ∈ news.take (n * inf2.size),v.oneCell'=true:=fun v hv=>S.one v (List.mem_of_mem_take hv)
  have hrun:=run_storeCells_at P b (off * inf2.size) t' (news.take (n * inf2.size)) 0 c w hc (by rw[hnn,hsz];omega) hone
  generalize hnew:(c.toList.take (off * inf2.size+0) ++ news.take (n * inf2.size) ++ c.toList.drop (off * inf2.size+0+(news.take (n * inf2.size)).length)).toArray=cn at hrun
  have hcn:cn.toList=splice c.toList (off * inf2.size) (news.take (n * inf2.size)):=by rw[← hnew];rfl
  have keep:∀m,A m→(w.setRow b cn).heap[m]?=w.heap[m]?:=fun m hm=>setRow_other w b m cn (fun e=>hA (e ▸ hm))
  refine⟨w.setRow b cn,hcopy _ hrun,fun m hm=>setRow_other w b m cn hm,size_setRow w b cn,rfl,rfl,rfl,rfl,?_⟩
  refine BlkRel.row_iff.2 ⟨cn,setRow_heap w b c cn t' _ hc,?_,?_,hcap,?_⟩
  ·rw[← Array.length_toList,hcn,splice_length _ _ _ (by rw[hnn,Array.length_toList,hsz];omega),Array.length_toList,hsz]
  ·rw[splice_length _ _ _ (by rw[hnl];omega)];exact hl
  ·rw[hcn]
   refine ElemC.later (w:=w) (A:=A) (E.splice (S.el.take n) (by rw[hnl];exact hnn) (by rw[hnl];omega) ?_) keep (fun _ h=>h)
   show xs.length * inf2.size≤c.size
   rw[hsz];exact Nat.mul_le_mul_right _ hl
theorem clear_ok {t ty e:TypeId} {s b':Nat} {z:AV} (ht:tinfo P t=some ⟨.slice e,s,b',z⟩) {ei:TI} (he:tinfo P e=some ei) (hp:0<ei.size) (hz:elOk ei.size ei.zero)
  {b:Nat} {t':TypeId} {xs:List AV} {capb:Nat} (hB:BlkRel w A b (.row t' ei.size xs capb)) (hA:¬A b)
  {off len cap o:Nat} (hle:len≤cap) (ho:o=off * ei.size∨cap=0) (h1:off+len≤xs.length) (hm:∀ {z:Value},ei.zero=zav z→z.cells.size=ei.size →
   ElemC w A ei.size (List.replicate len ei.zero) (Builtin.zeroCells z.cells len).toList) :
  ∃w',(Builtin.clear_ #[t] ty #[.slice (some ⟨b,o,none⟩) len cap]).run P w = .ok (.tuple #[]) w' ∧
   (∀m,m ≠ b→w'.heap[m]?=w.heap[m]?)∧w'.heap.size=w.heap.size∧w'.os=w.os∧w'.tape=w.tape∧w'.output=w.output∧w'.drawn=w.drawn∧BlkRel w' A b (.row t' ei.size (splice xs off (List.replicate len ei.zero)) capb):=by
 have hd:=tinfo_slice ht
 obtain⟨d2,inf2,z2,hd2,hinf2,hz2,rfl⟩:=tinfo_inv he
 dsimp only at *
 obtain⟨c,hc,hsz,hl,hcap,E⟩:=BlkRel.row_iff.1 hB
 have hzs:z2.cells.size=inf2.size:=by have:=(zav_cells (w:=w) (A:=A) z2).1;simp at this;rw[this];exact hz.1
 have hE:=hm rfl hzs
 by_cases hn0:len=0
 ·subst hn0
  refine⟨w,by simp [Builtin.clear_,run_underlying hd],fun _ _=>rfl,rfl,rfl,rfl,rfl,rfl,?_⟩
  unfold splice
  simp only[List.replicate_zero,List.append_nil,List.length_nil,Nat.add_zero,List.take_append_drop]
  exact hB
 ·have ho:o=off * inf2.size:=by rcases ho with ho|ho;exact ho;omega
  subst ho
  generalize hnews:(Builtin.zeroCells z2.cells len).toList=news at hE
  have hnn:news.length=len * inf2.size:=by rw[← hnews,Array.length_toList];exact size_zeros z2 hzs len
  have h2:(off+len) * inf2.size≤capb * inf2.size:=Nat.mul_le_mul_right _ (by omega)
  rw[Nat.add_mul] at h2
  have hone:∀v ∈ news,v.oneCell'=true:=ElemC.one hE (by rw[hnn,List.length_replicate]) hp
  have hrun:=run_storeCells_at P b (off * inf2.size) t' news 0 c w hc (by rw[hnn,hsz];omega) hone
  generalize hnew:(c.toList.take (off * inf2.size+0) ++ news ++ c.toList.drop (off * inf2.size+0+news.length)).toArray=cn at hrun
  have hcn:cn.toList=splice c.toList (off * inf2.size) news:=by rw[← hnew];rfl
  have keep:∀m,A m→(w.setRow b cn).heap[m]?=w.heap[m]?:=fun m hm=>setRow_other w b m cn (fun e=>hA (e ▸ hm))
  have hst:(storeCells ⟨b,off * inf2.size,none⟩ (Builtin.zeroCells z2.cells len).toList).run P w = .ok () (w.setRow b cn):=by rw[hnews];exact hrun
  refine⟨w.setRow b cn,?_,fun m hm=>setRow_other w b m cn hm,size_setRow w b cn,rfl,rfl,rfl,rfl,?_⟩
  ·obtain⟨n,rfl⟩:∃n,len=n+1:=⟨len - 1,by omega⟩
   simp [Builtin.clear_,run_underlying hd,run_zeroValue_i hinf2 hz2,hst]
  refine BlkRel.row_iff.2 ⟨cn,setRow_heap w b c cn t' _ hc,?_,?_,hcap,?_⟩
  ·rw[← Array.length_toList,hcn,splice_length _ _ _ (by rw[hnn,Array.length_toList,hsz];omega),Array.length_toList,hsz]
  ·rw[splice_length _ _ _ (by rw[List.length_replicate];omega)];exact hl
  ·rw[hcn]
   refine ElemC.later (w:=w) (A:=A) (E.splice hE (by rw[hnn,List.length_replicate]) (by rw[List.length_replicate];omega) ?_) keep (fun _ h=>h)
   show xs.length * inf2.size≤c.size
   rw[hsz];exact Nat.mul_le_mul_right _ hl
end
end Go.AL
end
section
namespace Go.AL
open Go Go.RowKit
def a8 (n:Int):AV:=.v (.int .u8 n)
def bytesOf:List AV→Option (List Int)
 | []=>some []
 | .v (.int .u8 n) :: r=>match bytesOf r with
  | some l=>some (n :: l)
  | none=>none
 | _=>none
theorem bytesOf_map:∀(l:List Int),bytesOf (l.map a8)=some l
 | []=>rfl
 | n :: l=>by
  show (match bytesOf (l.map a8) with|some l=>some (n :: l)|none=>none)=_
  rw[bytesOf_map l]
theorem bytesOf_inv:∀ {ys:List AV} {l:List Int},bytesOf ys=some l→ys=l.map a8
 | [],l,h=>by cases h;rfl
 | y :: ys,l,h=>by
  unfold bytesOf at h
  split at h
  ·rename_i e;cases e
  ·rename_i n r e
   cases e
   split at h
   ·rename_i l' hl
    cases h
    rw[bytesOf_inv hl];rfl
   ·cases h
  ·cases h
def bytesS (l:List Int):ByteArray:=l.foldl (fun r n=>r.push (UInt8.ofNat n.toNat)) ByteArray.empty
def aConvL (P:Program) (L:AHeap) (src dst:TypeId) (x:AV):Option (Prop × AV) :=
 match tinfo P src,tinfo P dst with
 | some ⟨.slice e,_,_,_⟩,some ⟨.str,_,_,_⟩=>match tinfo P e with
  | some ⟨.int .u8,_,_,_⟩=>match srcOf L 1 x with
   | some (c,ys)=>match bytesOf ys with
    | some l=>some (c,.v (.string (bytesS l)))
    | none=>none
   | none=>none
  | _=>none
 | _,_=>aConv P src dst x
section
variable {P:Program} {w:World} {A:Foot} {L:AHeap} {x:AV} {c:Prop}
theorem aConvL_ok {s d:TypeId} {y:AV} {yv:Value} (h:aConvL P L s d y=some (c,x)) (hc:c) (hL:LRel w A L) (hy:Rel w A y yv):∃u,(convert s d yv).run P w = .ok u w∧Rel w A x u:=by
 unfold aConvL at h
 split at h
 ·rename_i e _ _ _ _ _ _ h1 h2
  split at h
  ·rename_i h3
   split at h
   ·rename_i cs ys hsrc
    split at h
    ·rename_i l hb
     cases h
     obtain rfl:=bytesOf_inv hb
     obtain⟨d1,_,_,hd1,_,_,e1⟩:=tinfo_inv h1
     obtain⟨d2,_,_,hd2,_,_,e2⟩:=tinfo_inv h2
     obtain⟨d3,_,_,hd3,_,_,e3⟩:=tinfo_inv h3
     have e1:=tk_slice (TI.mk.inj e1).1.symm
     have e2:=tk_str (TI.mk.inj e2).1.symm
     have e3:=tk_int (TI.mk.inj e3).1.symm
     subst e1 e2 e3
     obtain⟨news,S⟩:=srcOf_ok hsrc hc hL hy (by decide)
     have hn:news=l.map (Value.int .u8):=by
      apply List.ext_getElem?
      intro i
      by_cases hi:i<l.length
      ·have hi2:i<news.length:=by rw[S.len,List.length_map];omega
       have h4:=S.el.rel i (a8 l[i]) 0 (a8 l[i]) news[i] (by rw[List.getElem?_map,List.getElem?_eq_getElem hi];rfl) rfl (by rw[Nat.mul_one,Nat.add_zero];exact List.getElem?_eq_getElem hi2)
       rw[List.getElem?_eq_getElem hi2,List.getElem?_map,List.getElem?_eq_getElem hi]
       exact congrArg some h4.inv_v
      ·rw[List.getElem?_eq_none (by rw[S.len,List.length_map];omega),List.getElem?_eq_none (by rw[List.length_map];omega)]
     subst hn
     refine⟨.string (bytesS l),?_,.v _⟩
     rcases S.shape with ⟨a,cap,rfl,hcell⟩|⟨rfl,hy0,_⟩|⟨a,cap,rfl,hy0,_⟩
     ·rw[run_convert_bytes_string w s d e (some a) _ _ hd1 hd3 hd2]
      have hl:=run_loadCells_list (P:=P) w a (l.map (Value.int .u8)) hcell
      simp only[List.length_map] at hl ⊢
      exact run_bytesToString w a l.length cap l hl
     ·have:l=[]:=List.map_eq_nil_iff.1 hy0
      subst this
      rw[run_convert_bytes_string w s d e none _ _ hd1 hd3 hd2]
      rfl
     ·have:l=[]:=List.map_eq_nil_iff.1 hy0
      subst this
      rw[run_convert_bytes_string w s d e a _ _ hd1 hd3 hd2]
      cases a with
      | none=>rfl
      | some a=>exact run_bytesToString w a 0 cap [] rfl
    ·cases h
   ·cases h
  ·cases h
 ·exact aConv_ok h hy
end
end Go.AL
end
section
namespace Go.AL
open Go Go.RowKit
def eqv1:AV→AV→Option Bool
 | .v (.int k a),.v (.int k' b)=>if k=k' then some (decide (a=b)) else none
 | .v (.bool a),.v (.bool b)=>some (decide (a=b))
 | .v (.string a),.v (.string b)=>some (seqB a b)
 | _,_=>none
def eqvs:List AV→List AV→Option Bool
 | [],[]=>some true
 | x :: xs,y :: ys=>match eqv1 x y,eqvs xs ys with
  | some a,some b=>some (a && b)
  | _,_=>none
 | _,_=>none
inductive SK where|int|bool|str
def SK.fits:SK→AV→Bool
 | .int,.v (.int _ _)=>true
 | .bool,.v (.bool _)=>true
 | .str,.v (.string _)=>true
 | _,_=>false
def fitss:List SK→List AV→Bool
 | [],[]=>true
 | k :: ks,x :: xs=>k.fits x && fitss ks xs
 | _,_=>false
def skOf (P:Program) (t:TypeId):Option SK :=
 match P.underlying t with
 | some (.int _)=>some .int
 | some .bool=>some .bool
 | some .string=>some .str
 | _=>none
def plainFs (P:Program):Nat→List Field→Option (List SK)
 | _,[]=>some []
 | i,f :: fs=>if f.name ≠ "_" ∧ f.offset=i then match skOf P f.type,plainFs P (i+1) fs with
   | some k,some ks=>some (k :: ks)
   | _,_=>none
  else none
def plainSt1 (P:Program) (t:TypeId):Option (List SK) :=
 match P.underlying t with
 | some (.struct fs)=>if P.stoodInHeld t=false∧P.eqGuardType P.depth t=false then plainFs P 0 fs.toList else none
 | _=>none
def subSt (P:Program) (t:TypeId):Option (List SK) :=
 match P.underlying t with
 | some (.struct gs)=>match plainFs P 0 gs.toList with
  | some ks=>if P.stoodInHeld t=false∧(P.info? t).map (·.size)=some ks.length then some ks else none
  | none=>none
 | _=>none
def plainFs2 (P:Program):Nat→List Field→Option (List SK)
 | _,[]=>some []
 | i,f :: fs=>if f.name ≠ "_" ∧ f.offset=i then match skOf P f.type with
   | some k=>match plainFs2 P (i+1) fs with
    | some ks=>some (k :: ks)
    | none=>none
   | none=>match subSt P f.type with
    | some k1=>match plainFs2 P (i+k1.length) fs with
     | some ks=>some (k1 ++ ks)
     | none=>none
    | none=>none
  else none
def plainSt (P:Program) (t:TypeId):Option (List SK) :=
 match P.underlying t with
 | some (.struct fs)=>if P.stoodInHeld t=false∧P.eqGuardType P.depth t=false then plainFs2 P 0 fs.toList else none
 | _=>none
def aEq (P:Program) (op:BinOp) (t:TypeId) (x y:AV):Option (Prop × AV) :=
 match x,y with
 | .agg xs,.agg ys=>match plainSt P t,eqvs xs ys with
  | some ks,some r=>match op with
   | .eql=>some (fitss ks xs=true,ab r)
   | .neq=>some (fitss ks xs=true,ab (!r))
   | _=>none
  | _,_=>none
 | _,_=>aBin P op t x y
section
variable {P:Program} {w:World} {A:Foot}
theorem run_part1 {t:TypeId} {k:SK} (hk:skOf P t=some k) {us:Array Value} {i:Nat} {u:Value} (hu:us[i]?=some u):(part t us i).run P w = .ok u w:=by
 unfold skOf at hk
 have hd:∃d,P.underlying t=some d∧(∀n e,d ≠ .array n e)∧(∀f,d ≠ .struct f)∧∀fs,d ≠ .tuple fs:=by
  split at hk
  ·rename_i h;exact⟨_,h,by simp,by simp,by simp⟩
  ·rename_i h;exact⟨_,h,by simp,by simp,by simp⟩
  ·rename_i h;exact⟨_,h,by simp,by simp,by simp⟩
  ·cases hk
 obtain⟨d,hd,h1,h2,h3⟩:=hd
 have hagg:(isAgg t).run P w = .ok false w:=by
  unfold isAgg
  rw[Sem.run_bind,run_underlying hd,Result.andThen_ok]
  cases d <;> first|rfl|exact absurd rfl (h1 _ _)|exact absurd rfl (h2 _)|exact absurd rfl (h3 _)
 simp [part,hagg,hu]
theorem eqv1_ok {t:TypeId} {k:SK} (hk:skOf P t=some k) {x y:AV} {r:Bool} (h:eqv1 x y=some r) (hf:k.fits x=true) {u v:Value} (hu:Rel w A x u) (hv:Rel w A y v) (d:Nat) :
  (Op.equalIn (d+1) t u v).run P w = .ok r w:=by
 unfold skOf at hk
 unfold eqv1 at h
 split at h
 ·obtain rfl:=hu.inv_v;obtain rfl:=hv.inv_v
  split at h <;> cases h
  rename_i e;subst e
  split at hk <;> cases hk <;> first|(rename_i hd;rw[run_equalIn_int (P:=P) w d t _ _ _ _ hd];simp [BEq.beq])|simp [SK.fits] at hf
 ·obtain rfl:=hu.inv_v;obtain rfl:=hv.inv_v
  cases h
  split at hk <;> cases hk <;> first|(rename_i hd;rw[run_equalIn_bool' (P:=P) w d t _ _ hd];congr 1)|simp [SK.fits] at hf
 ·obtain rfl:=hu.inv_v;obtain rfl:=hv.inv_v
  cases h
  split at hk <;> cases hk <;> first|(rename_i hd;rw[run_equalIn_string (P:=P) w d t _ _ hd];rfl)|simp [SK.fits] at hf
 ·cases h
theorem eqFields_ok (d:Nat) {us vs:Array Value} : ∀(fs:List Field) (ks:List SK) (i:Nat) (xs ys:List AV) (r:Bool),plainFs P i fs=some ks→eqvs xs ys=some r→fitss ks xs=true →
  (∀(j:Nat) x,xs[j]?=some x→∃u,us[i+j]?=some u∧Rel w A x u)→(∀(j:Nat) y,ys[j]?=some y→∃v,vs[i+j]?=some v∧Rel w A y v) →
  (Op.eqFields (d+1) us vs fs).run P w = .ok r w
 | [],ks,i,xs,ys,r,hp,he,hf,hx,hy=>by
  simp only[plainFs] at hp;cases hp
  cases xs with
  | nil=>cases ys with
   | nil=>simp only[eqvs] at he;cases he;rfl
   | cons y ys=>simp [eqvs] at he
  | cons x xs=>simp [fitss] at hf
 | f :: fs,ks,i,xs,ys,r,hp,he,hf,hx,hy=>by
  simp only[plainFs] at hp
  split at hp
  ·rename_i hc
   split at hp
   ·rename_i k ks' hk hks
    cases hp
    cases xs with
    | nil=>simp [fitss] at hf
    | cons x xs=>cases ys with
     | nil=>simp [eqvs] at he
     | cons y ys =>
      simp only[eqvs] at he
      split at he
      ·rename_i a b ha hb
       cases he
       simp only[fitss,Bool.and_eq_true] at hf
       obtain⟨u,hu,hru⟩:=hx 0 x rfl
       obtain⟨v,hv,hrv⟩:=hy 0 y rfl
       have h1:=eqv1_ok hk ha hf.1 hru hrv d
       have h2:=eqFields_ok d fs ks' (i+1) xs ys b hks hb hf.2 (fun j x hj=>by have:=hx (j+1) x (by simpa using hj);simpa [Nat.add_assoc,Nat.add_comm 1 j] using this)
        (fun j x hj=>by have:=hy (j+1) x (by simpa using hj);simpa [Nat.add_assoc,Nat.add_comm 1 j] using this)
       unfold Op.eqFields
       rw[if_pos hc.1]
       have hu':us[f.offset]?=some u:=by rw[hc.2];exact hu
       have hv':vs[f.offset]?=some v:=by rw[hc.2];exact hv
       simp only[Sem.run_bind,run_part1 hk hu',run_part1 hk hv',Result.andThen_ok,h1]
       cases a
       ·simp
       ·simpa using h2
      ·cases he
   ·cases hp
  ·cases hp
theorem fitss_len:∀ {ks:List SK} {xs:List AV},fitss ks xs=true→xs.length=ks.length
 | [],[],_=>rfl
 | [],_ :: _,h=>by simp [fitss] at h
 | _ :: _,[],h=>by simp [fitss] at h
 | k :: ks,x :: xs,h=>by
  simp only[fitss,Bool.and_eq_true] at h
  rw[List.length_cons,List.length_cons,fitss_len h.2]
theorem eqvs_split:∀ {k1 ks:List SK} {xs ys:List AV} {r:Bool},eqvs xs ys=some r→fitss (k1 ++ ks) xs=true →
  ∃xs1 xs2 ys1 ys2 a b,xs=xs1 ++ xs2∧ys=ys1 ++ ys2∧xs1.length=k1.length∧ys1.length=k1.length∧eqvs xs1 ys1=some a∧eqvs xs2 ys2=some b∧r=(a && b)∧fitss k1 xs1=true∧fitss ks xs2=true
 | [],ks,xs,ys,r,he,hf=>⟨[],xs,[],ys,true,r,rfl,rfl,rfl,rfl,rfl,he,rfl,rfl,hf⟩
 | k :: k1,ks,[],ys,r,he,hf=>by simp [fitss] at hf
 | k :: k1,ks,x :: xs,[],r,he,hf=>by simp [eqvs] at he
 | k :: k1,ks,x :: xs,y :: ys,r,he,hf=>by
  simp only[eqvs] at he
  split at he
  ·rename_i a b ha hb
   cases he
   simp only[List.cons_append,fitss,Bool.and_eq_true] at hf
   obtain⟨xs1,xs2,ys1,ys2,a',b',rfl,rfl,h3,h4,h5,h6,rfl,h8,h9⟩:=eqvs_split hb hf.2
   exact⟨x :: xs1,xs2,y :: ys1,ys2,a && a',b',rfl,rfl,by simp [h3],by simp [h4],by simp [eqvs,ha,h5],h6,by rw[Bool.and_assoc],by simp [fitss,hf.1,h8],h9⟩
  ·cases he
theorem subSt_ok {t:TypeId} {k1:List SK} (hk:subSt P t=some k1) (d:Nat) {us vs:Array Value} {i:Nat} {xs ys:List AV} {r:Bool} (he:eqvs xs ys=some r) (hf:fitss k1 xs=true) (hly:ys.length=k1.length)
  (hx:∀(j:Nat) x,xs[j]?=some x→∃u,us[i+j]?=some u∧Rel w A x u) (hy:∀(j:Nat) y,ys[j]?=some y→∃v,vs[i+j]?=some v∧Rel w A y v) :
  ∃u v,(part t us i).run P w = .ok u w∧(part t vs i).run P w = .ok v w∧(Op.equalIn (d+2) t u v).run P w = .ok r w:=by
 unfold subSt at hk
 split at hk
 ·rename_i gs hu
  split at hk
  ·rename_i ks hpl
   split at hk
   ·rename_i hc
    cases hk
    obtain⟨hst,hsz⟩:=hc
    obtain⟨inf,hinf,hszz⟩:∃inf,P.info? t=some inf∧inf.size=k1.length:=by
     cases h:P.info? t with
     | none=>rw[h] at hsz;cases hsz
     | some inf=>rw[h] at hsz;exact⟨inf,rfl,by simpa using hsz⟩
    have hagg:(isAgg t).run P w = .ok true w:=run_isAgg_i hu
    have hsize:(sizeOf t).run P w = .ok k1.length w:=by
     unfold sizeOf typeInfo
     simp [hinf,hszz]
    have hp:∀us:Array Value,(part t us i).run P w = .ok (.agg (us.extract i (i+k1.length))) w:=fun us=>by simp [part,hagg,hsize]
    have hxl:=fitss_len hf
    refine⟨_,_,hp us,hp vs,?_⟩
    have hfs:P.fieldsOf t=gs:=by simp [Program.fieldsOf,hu]
    rw[show d+2=(d+1)+1 from rfl,run_equalIn_struct w (d+1) t _ _ (by rw[hfs];exact hu) hst,hfs]
    refine eqFields_ok (A:=A) d gs.toList k1 0 xs ys r hpl he hf (fun j x hj => ?_) (fun j y hj => ?_)
    ·obtain⟨u,h1,h2⟩:=hx j x hj
     have hlt:j<k1.length:=by have:=(List.getElem?_eq_some_iff.1 hj).1;omega
     refine⟨u,?_,h2⟩
     rw[Nat.zero_add,Array.getElem?_extract]
     have hus:=(Array.getElem?_eq_some_iff.1 h1).1
     rw[if_pos (by omega),h1]
    ·obtain⟨u,h1,h2⟩:=hy j y hj
     have hlt:j<k1.length:=by have:=(List.getElem?_eq_some_iff.1 hj).1;omega
     refine⟨u,?_,h2⟩
     rw[Nat.zero_add,Array.getElem?_extract]
     have hus:=(Array.getElem?_eq_some_iff.1 h1).1
     rw[if_pos (by omega),h1]
   ·cases hk
  ·cases hk
 ·cases hk
theorem eqFields2_ok (d:Nat) {us vs:Array Value} : ∀(fs:List Field) (ks:List SK) (i:Nat) (xs ys:List AV) (r:Bool),plainFs2 P i fs=some ks→eqvs xs ys=some r→fitss ks xs=true →
  (∀(j:Nat) x,xs[j]?=some x→∃u,us[i+j]?=some u∧Rel w A x u)→(∀(j:Nat) y,ys[j]?=some y→∃v,vs[i+j]?=some v∧Rel w A y v) →
  (Op.eqFields (d+2) us vs fs).run P w = .ok r w
 | [],ks,i,xs,ys,r,hp,he,hf,hx,hy=>by
  simp only[plainFs2] at hp;cases hp
  cases xs with
  | nil=>cases ys with
   | nil=>simp only[eqvs] at he;cases he;rfl
   | cons y ys=>simp [eqvs] at he
  | cons x xs=>simp [fitss] at hf
 | f :: fs,ks,i,xs,ys,r,hp,he,hf,hx,hy=>by
  simp only[plainFs2] at hp
  split at hp
  ·rename_i hc
   split at hp
   ·rename_i k hk
    split at hp
    ·rename_i ks' hks
     cases hp
     cases xs with
     | nil=>simp [fitss] at hf
     | cons x xs=>cases ys with
      | nil=>simp [eqvs] at he
      | cons y ys =>
       simp only[eqvs] at he
       split at he
       ·rename_i a b ha hb
        cases he
        simp only[fitss,Bool.and_eq_true] at hf
        obtain⟨u,hu,hru⟩:=hx 0 x rfl
        obtain⟨v,hv,hrv⟩:=hy 0 y rfl
        have h1:=eqv1_ok hk ha hf.1 hru hrv (d+1)
        have h2:=eqFields2_ok d fs ks' (i+1) xs ys b hks hb hf.2 (fun j x hj=>by have:=hx (j+1) x (by simpa using hj);simpa [Nat.add_assoc,Nat.add_comm 1 j] using this)
         (fun j x hj=>by have:=hy (j+1) x (by simpa using hj);simpa [Nat.add_assoc,Nat.add_comm 1 j] using this)
        unfold Op.eqFields
        rw[if_pos hc.1]
        have hu':us[f.offset]?=some u:=by rw[hc.2];exact hu
        have hv':vs[f.offset]?=some v:=by rw[hc.2];exact hv
        simp only[Sem.run_bind,run_part1 hk hu',run_part1 hk hv',Result.andThen_ok,h1]
        cases a
        ·simp
        ·simpa using h2
       ·cases he
    ·cases hp
   ·split at hp
    ·rename_i k1 hk1
     split at hp
     ·rename_i ks' hks
      cases hp
      obtain⟨xs1,xs2,ys1,ys2,a,b,rfl,rfl,l1,l2,e1,e2,rfl,f1,f2⟩:=eqvs_split he hf
      obtain⟨u,v,p1,p2,q⟩:=subSt_ok (us:=us) (vs:=vs) (i:=i) hk1 d e1 f1 l2 (fun j x hj=>hx j x (by rw[List.getElem?_append_left (List.getElem?_eq_some_iff.1 hj).1];exact hj)) (fun j y hj=>hy j y (by rw[List.getElem?_append_left (List.getElem?_eq_some_iff.1 hj).1];exact hj))
      have h2:=eqFields2_ok d fs ks' (i+k1.length) xs2 ys2 b hks e2 f2 (fun j x hj=>by
       have:=hx (k1.length+j) x (by rw[List.getElem?_append_right (by omega),l1,Nat.add_sub_cancel_left];exact hj)
       rwa [← Nat.add_assoc] at this) (fun j y hj=>by
       have:=hy (k1.length+j) y (by rw[List.getElem?_append_right (by omega),l2,Nat.add_sub_cancel_left];exact hj)
       rwa [← Nat.add_assoc] at this)
      unfold Op.eqFields
      rw[if_pos hc.1]
      rw[← hc.2] at p1 p2
      simp only[Sem.run_bind,p1,p2,Result.andThen_ok,q]
      cases a
      ·simp
      ·simpa using h2
     ·cases hp
    ·cases hp
  ·cases hp
theorem aEq_ok (op:BinOp) (t:TypeId) (ox oy:Operand) {y z:AV} {c:Prop} {x:AV} {yv zv:Value} (h:aEq P op t y z=some (c,x)) (hc:c) (hy:Rel w A y yv) (hz:Rel w A z zv) :
  ∃u,(do eqGuard op t ox oy yv zv;binOp op t yv zv:Sem Value).run P w = .ok u w∧Rel w A x u:=by
 unfold aEq at h
 split at h
 ·rename_i xs ys
  split at h
  ·rename_i ks r hpl he
   have hop:(op = .eql∧fitss ks xs=true∧x=ab r)∨(op = .neq∧fitss ks xs=true∧x=ab (!r)):=by
    split at h
    ·cases h;exact .inl ⟨rfl,hc,rfl⟩
    ·cases h;exact .inr ⟨rfl,hc,rfl⟩
    ·cases h
   unfold plainSt at hpl
   split at hpl
   ·rename_i fs hu
    split at hpl
    ·rename_i hcc
     cases hy with|agg _ us hn hh =>
     cases hz with|agg _ vs hn' hh' =>
     have hfs:P.fieldsOf t=fs:=by simp [Program.fieldsOf,hu]
     have hrun:fitss ks xs=true→(Op.equalIn 10000 t (.agg us) (.agg vs)).run P w = .ok r w:=fun hf=>by
      rw[show (10000:Nat)=9999+1 from rfl,run_equalIn_struct w 9999 t us vs (by rw[hfs];exact hu) hcc.1,hfs]
      exact eqFields2_ok (A:=A) 9997 fs.toList ks 0 xs ys r hpl he hf (fun j x hj=>by
       have hlt:j<us.size:=by have:=(List.getElem?_eq_some_iff.1 hj).1;omega
       rw[Nat.zero_add];exact⟨us[j],Array.getElem?_eq_getElem hlt,hh j x _ hj (Array.getElem?_eq_getElem hlt)⟩)
       (fun j x hj=>by
       have hlt:j<vs.size:=by have:=(List.getElem?_eq_some_iff.1 hj).1;omega
       rw[Nat.zero_add];exact⟨vs[j],Array.getElem?_eq_getElem hlt,hh' j x _ hj (Array.getElem?_eq_getElem hlt)⟩)
     rcases hop with ⟨rfl,hf,rfl⟩|⟨rfl,hf,rfl⟩
     ·exact⟨_,by rw[Sem.run_bind,run_eqGuard_agg w _ _ _ _ _ _ hcc.2,Result.andThen_ok,run_eql_struct,hrun hf,Result.andThen_ok],.v _⟩
     ·exact⟨_,by rw[Sem.run_bind,run_eqGuard_agg w _ _ _ _ _ _ hcc.2,Result.andThen_ok,run_neq_struct,hrun hf,Result.andThen_ok],.v _⟩
    ·cases hpl
   ·cases hpl
  ·cases h
 ·exact aBin_ok op t ox oy h hc hy hz
end
end Go.AL
end
section
namespace Go.AL
open Go Go.RowKit
def SK.vfits:SK→Value→Bool
 | .int,.int k _=>decide (k = .i64)
 | .bool,.bool _=>true
 | .str,.string _=>true
 | _,_=>false
def vfitss:List SK→List Value→Bool
 | [],[]=>true
 | k :: ks,x :: xs=>k.vfits x && vfitss ks xs
 | _,_=>false
inductive KK where
 | sc (k:SK)
 | st (ks:List SK)
def plainArr (P:Program) (t:TypeId):Option (List SK) :=
 match P.underlying t with
 | some (.array n e)=>match skOf P e,P.info? e with
  | some k,some i=>if i.size=1∧P.cellsOf e=1 then some (List.replicate n k) else none
  | _,_=>none
 | _=>none
def kkOf (P:Program) (t:TypeId):Option KK :=
 match plainSt1 P t with
 | some ks=>some (.st ks)
 | none=>match plainArr P t with
  | some ks=>some (.st ks)
  | none=>match skOf P t with
   | some k=>some (.sc k)
   | none=>none
def KK.fits:KK→Value→Bool
 | .sc k,v=>k.vfits v
 | .st ks,.agg us=>vfitss ks us.toList
 | _,_=>false
def veq:Value→Value→Bool
 | .int _ a,.int _ b=>decide (a=b)
 | .bool a,.bool b=>decide (a=b)
 | .string a,.string b=>seqB a b
 | _,_=>false
def veqs:List Value→List Value→Bool
 | [],[]=>true
 | x :: xs,y :: ys=>veq x y && veqs xs ys
 | _,_=>false
def keyB:Value→Value→Bool
 | .agg us,.agg vs=>veqs us.toList vs.toList
 | a,b=>veq a b
def mfind (k:Value):List Value→Option Nat
 | []=>none
 | k' :: r=>if keyB k k' then some 0 else match mfind k r with
  | some i=>some (i+1)
  | none=>none
theorem seqB_eq {a b:ByteArray} (h:seqB a b=true):a=b:=by
 unfold seqB at h
 have h1:a.toList=b.toList:=by simpa using h
 rw[ByteArray.toList_eq,ByteArray.toList_eq] at h1
 obtain⟨⟨x⟩⟩:=a
 obtain⟨⟨y⟩⟩:=b
 have h1:x=y:=h1
 rw[h1]
inductive VFits:SK→Value→Prop
 | int (n:Int):VFits .int (.int .i64 n)
 | bool (b:Bool):VFits .bool (.bool b)
 | str (s:ByteArray):VFits .str (.string s)
theorem vfits_inv {k:SK} {a:Value} (h:k.vfits a=true):VFits k a:=by
 unfold SK.vfits at h
 split at h
 ·rename_i kd n;rw[of_decide_eq_true h];exact .int n
 ·exact .bool _
 ·exact .str _
 ·cases h
theorem veq_eq {k:SK} {a b:Value} (ha:k.vfits a=true) (hb:k.vfits b=true) (h:veq a b=true):a=b:=by
 cases vfits_inv ha with
 | int n=>cases vfits_inv hb with|int m=>simp only[veq,decide_eq_true_eq] at h;rw[h]
 | bool n=>cases vfits_inv hb with|bool m=>simp only[veq,decide_eq_true_eq] at h;rw[h]
 | str n=>cases vfits_inv hb with|str m=>simp only[veq] at h;rw[seqB_eq h]
theorem veqs_eq:∀ {ks:List SK} {a b:List Value},vfitss ks a=true→vfitss ks b=true→veqs a b=true→a=b
 | [],[],[],_,_,_=>rfl
 | k :: ks,x :: xs,y :: ys,ha,hb,h=>by
  simp only[vfitss,veqs,Bool.and_eq_true] at ha hb h
  rw[veq_eq ha.1 hb.1 h.1,veqs_eq ha.2 hb.2 h.2]
 | [],[],_ :: _,_,hb,_=>by simp [vfitss] at hb
 | [],_ :: _,_,ha,_,_=>by simp [vfitss] at ha
 | _ :: _,[],_,ha,_,_=>by simp [vfitss] at ha
 | _ :: _,_ :: _,[],_,hb,_=>by simp [vfitss] at hb
theorem fits_st {ks:List SK} {a:Value} (h:(KK.st ks).fits a=true):∃us,a = .agg us∧vfitss ks us.toList=true:=by
 cases a <;> first|exact⟨_,rfl,h⟩|(simp [KK.fits] at h)
theorem keyB_eq {κ:KK} {a b:Value} (ha:κ.fits a=true) (hb:κ.fits b=true) (h:keyB a b=true):a=b:=by
 cases κ with
 | sc k =>
  simp only[KK.fits] at ha hb
  have:keyB a b=veq a b:=by cases vfits_inv ha <;> rfl
  exact veq_eq ha hb (this ▸ h)
 | st ks =>
  obtain⟨us,rfl,h1⟩:=fits_st ha
  obtain⟨vs,rfl,h2⟩:=fits_st hb
  simp only[keyB] at h
  rw[show us=vs from Array.ext' (veqs_eq h1 h2 h)]
theorem sameBits_veq {k:SK} {a:Value} (ha:k.vfits a=true) (n:Nat):Instr.sameBits n a a=true:=by
 cases vfits_inv ha <;> cases n <;> simp [Instr.sameBits,beq_toListBytes]
theorem sameBits_all:∀ {ks:List SK} {a:List Value},vfitss ks a=true→∀n,((a.zip a).all fun (x,y)=>Instr.sameBits n x y)=true
 | [],[],_,_=>rfl
 | k :: ks,x :: xs,ha,n=>by
  simp only[vfitss,Bool.and_eq_true] at ha
  simp only[List.zip_cons_cons,List.all_cons,Bool.and_eq_true]
  exact⟨sameBits_veq ha.1 n,sameBits_all ha.2 n⟩
 | [],_ :: _,ha,_=>by simp [vfitss] at ha
 | _ :: _,[],ha,_=>by simp [vfitss] at ha
theorem sameBits_agg {us:Array Value} {ks:List SK} (h:vfitss ks us.toList=true) (n:Nat):Instr.sameBits (n+1) (.agg us) (.agg us)=true:=by
 simp only[Instr.sameBits,BEq.rfl,Bool.true_and]
 exact sameBits_all h n
theorem sameBits_fits {κ:KK} {a:Value} (ha:κ.fits a=true) (n:Nat):Instr.sameBits (n+1) a a=true:=by
 cases κ with
 | sc k=>exact sameBits_veq ha _
 | st ks=>obtain⟨us,rfl,h⟩:=fits_st ha;exact sameBits_agg h n
section
variable {P:Program} {w:World}
theorem kk_cases {t:TypeId} {κ:KK} (h:kkOf P t=some κ):(∃ks,κ = .st ks∧(plainSt1 P t=some ks∨plainArr P t=some ks))∨∃k,κ = .sc k∧skOf P t=some k:=by
 unfold kkOf at h
 split at h
 ·rename_i ks hp;cases h;exact .inl ⟨ks,rfl,.inl hp⟩
 ·split at h
  ·rename_i ks hp;cases h;exact .inl ⟨ks,rfl,.inr hp⟩
  ·split at h
   ·rename_i k hk;cases h;exact .inr ⟨k,rfl,hk⟩
   ·cases h
theorem plainArr_inv {t:TypeId} {ks:List SK} (h:plainArr P t=some ks):∃n e k i,P.underlying t=some (.array n e)∧skOf P e=some k∧P.info? e=some i∧i.size=1∧P.cellsOf e=1∧ks=List.replicate n k:=by
 unfold plainArr at h
 split at h
 ·rename_i n e hu
  split at h
  ·rename_i k i hk hi
   split at h
   ·rename_i hc;cases h;exact⟨n,e,k,i,hu,hk,hi,hc.1,hc.2,rfl⟩
   ·cases h
  ·cases h
 ·cases h
theorem eqv1_v {k:SK} {a b:Value} (ha:k.vfits a=true) (hb:k.vfits b=true):eqv1 (.v a) (.v b)=some (veq a b)∧k.fits (.v a)=true:=by
 cases vfits_inv ha <;> cases vfits_inv hb <;> exact⟨by simp [eqv1,veq],rfl⟩
theorem eqvs_v:∀ {ks:List SK} {a b:List Value},vfitss ks a=true→vfitss ks b=true→eqvs (a.map .v) (b.map .v)=some (veqs a b)∧fitss ks (a.map .v)=true
 | [],[],[],_,_=>⟨rfl,rfl⟩
 | k :: ks,x :: xs,y :: ys,ha,hb=>by
  simp only[vfitss,Bool.and_eq_true] at ha hb
  obtain⟨h1,h2⟩:=eqv1_v ha.1 hb.1
  obtain⟨h3,h4⟩:=eqvs_v ha.2 hb.2
  exact⟨by simp only[List.map_cons,eqvs,h1,h3,veqs],by simp only[List.map_cons,fitss,h2,h4,Bool.and_self]⟩
 | [],[],_ :: _,_,hb=>by simp [vfitss] at hb
 | [],_ :: _,_,ha,_=>by simp [vfitss] at ha
 | _ :: _,[],_,ha,_=>by simp [vfitss] at ha
 | _ :: _,_ :: _,[],_,hb=>by simp [vfitss] at hb
theorem plainSt1_inv {t:TypeId} {ks:List SK} (h:plainSt1 P t=some ks):∃fs,P.underlying t=some (.struct fs)∧P.stoodInHeld t=false∧P.eqGuardType P.depth t=false∧plainFs P 0 fs.toList=some ks:=by
 unfold plainSt1 at h
 split at h
 ·rename_i fs hu
  split at h
  ·rename_i hc;exact⟨fs,hu,hc.1,hc.2,h⟩
  ·cases h
 ·cases h
theorem key_equalS {t:TypeId} {ks:List SK} (hp:plainSt1 P t=some ks) {us vs:Array Value} (ha:vfitss ks us.toList=true) (hb:vfitss ks vs.toList=true):(Op.equal t (.agg us) (.agg vs)).run P w = .ok (veqs us.toList vs.toList) w:=by
 obtain⟨fs,hu,h1,h2,h3⟩:=plainSt1_inv hp
 obtain⟨h4,h5⟩:=eqvs_v ha hb
 have hfs:P.fieldsOf t=fs:=by simp [Program.fieldsOf,hu]
 unfold Op.equal
 rw[show Op.maxDepth=9999+1 from rfl,run_equalIn_struct w 9999 t us vs (by rw[hfs];exact hu) h1,hfs]
 refine eqFields_ok (A:=fun _=>False) 9998 fs.toList ks 0 _ _ _ h3 h4 h5 (fun j x hj => ?_) (fun j x hj => ?_)
 ·rw[List.getElem?_map] at hj
  cases hu':us.toList[j]? with
  | none=>rw[hu'] at hj;cases hj
  | some u=>rw[hu'] at hj;cases hj;exact⟨u,by simpa using hu',.v _⟩
 ·rw[List.getElem?_map] at hj
  cases hu':vs.toList[j]? with
  | none=>rw[hu'] at hj;cases hj
  | some u=>rw[hu'] at hj;cases hj;exact⟨u,by simpa using hu',.v _⟩
theorem vfitss_rep {k:SK} : ∀ {n:Nat} {a:List Value},vfitss (List.replicate n k) a=true→a.length=n∧∀(j:Nat) (hj:j<a.length),k.vfits a[j]=true
 | 0,[],_=>⟨rfl,fun j hj=>by simp at hj⟩
 | n+1,x :: xs,h=>by
  rw[List.replicate_succ] at h
  simp only[vfitss,Bool.and_eq_true] at h
  obtain⟨h1,h2⟩:=vfitss_rep h.2
  refine⟨by simp [h1],fun j hj => ?_⟩
  cases j with
  | zero=>exact h.1
  | succ j=>exact h2 j (by simpa using hj)
 | 0,_ :: _,h=>by simp [vfitss] at h
 | n+1,[],h=>by rw[List.replicate_succ] at h;simp [vfitss] at h
theorem eqItems_ok {e:TypeId} {k:SK} (hk:skOf P e=some k) (d:Nat) (us vs:Array Value) (h1:∀(j:Nat) (hj:j<us.size),k.vfits us[j]=true) (h2:∀(j:Nat) (hj:j<vs.size),k.vfits vs[j]=true) (hl:vs.size=us.size) :
  ∀(m s:Nat),s+m=us.size→(Op.eqItems (d+1) e 1 us vs (List.range' s m)).run P w = .ok (veqs (us.toList.drop s) (vs.toList.drop s)) w
 | 0,s,h=>by
  rw[List.drop_eq_nil_of_le (by simp;omega),List.drop_eq_nil_of_le (by simp;omega)]
  simp [Op.eqItems,veqs]
 | m+1,s,h=>by
  have hs:s<us.size:=by omega
  have hs':s<vs.size:=by omega
  have ih:=eqItems_ok hk d us vs h1 h2 hl m (s+1) (by omega)
  rw[List.range'_succ,List.drop_eq_getElem_cons (show s<us.toList.length by simpa using hs),List.drop_eq_getElem_cons (show s<vs.toList.length by simpa using hs')]
  obtain⟨q1,q2⟩:=eqv1_v (h1 s hs) (h2 s hs')
  have q3:=eqv1_ok (w:=w) (A:=fun _=>False) hk q1 q2 (.v _) (.v _) d
  simp only[Op.eqItems,Nat.mul_one,Sem.run_bind,run_part1 hk (Array.getElem?_eq_getElem hs),run_part1 hk (Array.getElem?_eq_getElem hs'),Result.andThen_ok,q3,Array.getElem_toList,veqs]
  cases veq us[s] vs[s]
  ·simp
  ·simpa using ih
theorem key_equalA {t:TypeId} {ks:List SK} (hp:plainArr P t=some ks) {us vs:Array Value} (ha:vfitss ks us.toList=true) (hb:vfitss ks vs.toList=true):(Op.equal t (.agg us) (.agg vs)).run P w = .ok (veqs us.toList vs.toList) w:=by
 obtain⟨n,e,k,i,hu,hk,hi,-,hc,rfl⟩:=plainArr_inv hp
 obtain⟨l1,f1⟩:=vfitss_rep ha
 obtain⟨l2,f2⟩:=vfitss_rep hb
 simp only[Array.length_toList] at l1 l2
 unfold Op.equal
 rw[show Op.maxDepth=9999+1 from rfl,run_equalIn_array w 9999 us vs hu hi,hc,List.range_eq_range']
 have:=eqItems_ok (w:=w) hk 9998 us vs (fun j hj=>by have:=f1 j (by simpa using hj);rwa [Array.getElem_toList] at this) (fun j hj=>by have:=f2 j (by simpa using hj);rwa [Array.getElem_toList] at this) (by omega) n 0 (by omega)
 simpa using this
theorem key_equal {t:TypeId} {ks:List SK} (hp:plainSt1 P t=some ks∨plainArr P t=some ks) {us vs:Array Value} (ha:vfitss ks us.toList=true) (hb:vfitss ks vs.toList=true):(Op.equal t (.agg us) (.agg vs)).run P w = .ok (veqs us.toList vs.toList) w :=
 hp.elim (fun h=>key_equalS h ha hb) fun h=>key_equalA h ha hb
theorem key_desc {t:TypeId} {ks:List SK} (hp:plainSt1 P t=some ks∨plainArr P t=some ks):∃d,P.underlying t=some d∧∀us v,Instr.sameNow d (.agg us) v=none:=by
 rcases hp with hp|hp
 ·obtain⟨fs,hu,-⟩:=plainSt1_inv hp
  exact⟨_,hu,fun us v=>by simp [Instr.sameNow]⟩
 ·obtain⟨n,e,k,i,hu,-⟩:=plainArr_inv hp
  exact⟨_,hu,fun us v=>by simp [Instr.sameNow]⟩
theorem sameNow_ok {t:TypeId} {k:SK} (hk:skOf P t=some k) {a b:Value} (ha:k.vfits a=true) (hb:k.vfits b=true):∃d,P.underlying t=some d∧Instr.sameNow d a b=some (keyB a b):=by
 unfold skOf at hk
 split at hk <;> cases hk
 ·rename_i hd
  refine⟨_,hd,?_⟩
  cases vfits_inv ha;cases vfits_inv hb
  simp [Instr.sameNow,keyB,veq,BEq.beq]
 ·rename_i hd
  refine⟨_,hd,?_⟩
  cases vfits_inv ha;cases vfits_inv hb
  simp only[Instr.sameNow,keyB,veq];rfl
 ·rename_i hd
  refine⟨_,hd,?_⟩
  cases vfits_inv ha;cases vfits_inv hb
  simp only[Instr.sameNow,keyB,veq,seqB,beq_toListBytes]
theorem findKey_ok {t:TypeId} {κ:KK} (hκ:kkOf P t=some κ) {a:Value} (ha:κ.fits a=true) (es:List MapEntry) (hes:∀e ∈ es,κ.fits e.key=true) :
  ∃r,(Instr.findKey t a es).run P w = .ok r w∧r.map (·.1)=mfind a (es.map (·.key))∧∀i v,r=some (i,v)→∃e,es[i]?=some e∧v=e.val:=by
 rcases kk_cases hκ with ⟨ks,rfl,hp⟩|⟨k,rfl,hk⟩
 ·obtain⟨fs,hu,hsn⟩:=key_desc hp
  have asking:∀(es:List MapEntry) (i:Nat),(∀e ∈ es,(KK.st ks).fits e.key=true)→∃r,(Instr.findAsking t a es i).run P w = .ok r w∧r.map (·.1)=(mfind a (es.map (·.key))).map (i + ·)∧∀j v,r=some (j,v)→∃m e,j=i+m∧es[m]?=some e∧v=e.val:=by
   intro es
   induction es with
   | nil=>intro i _;exact⟨none,rfl,rfl,fun j v h=>by cases h⟩
   | cons e es ih =>
    intro i hes
    have he:=hes e List.mem_cons_self
    obtain⟨us,hau,ha'⟩:=fits_st ha
    obtain⟨vs,hek,he'⟩:=fits_st he
    have heq:=key_equal (w:=w) hp ha' he'
    have hkb:keyB a e.key=veqs us.toList vs.toList:=by rw[hek,hau];rfl
    simp only[Instr.findAsking,List.map_cons,mfind,hkb]
    rw[hek,hau]
    simp only[Sem.run_bind,heq,Result.andThen_ok]
    rw[← hau]
    cases hv:veqs us.toList vs.toList
    ·simp only[Bool.false_eq_true,if_false]
     obtain⟨r,h3,h4,h5⟩:=ih (i+1) (fun e he=>hes e (List.mem_cons_of_mem _ he))
     refine⟨r,h3,?_,fun j v hr => ?_⟩
     ·rw[h4];cases mfind a (es.map (·.key)) <;> simp;omega
     ·obtain⟨m,e',h6,h7,h8⟩:=h5 j v hr;exact⟨m+1,e',by omega,by simpa using h7,h8⟩
    ·simp only[if_true]
     exact⟨some (i,e.val),rfl,by simp,fun j v hr=>by cases hr;exact⟨0,e,rfl,rfl,rfl⟩⟩
  obtain⟨r,h1,h2,h3⟩:=asking es 0 hes
  have hr0:r.map (·.1)=mfind a (es.map (·.key)):=by rw[h2];cases mfind a (es.map (·.key)) <;> simp
  have h30:∀i v,r=some (i,v)→∃e,es[i]?=some e∧v=e.val:=fun i v hr=>by obtain⟨m,e,h4,h5,h6⟩:=h3 i v hr;exact⟨e,by rw[h4,Nat.zero_add];exact h5,h6⟩
  unfold Instr.findKey
  simp only[Sem.run_bind,run_underlying hu,Result.andThen_ok]
  cases es with
  | nil=>exact⟨none,rfl,rfl,fun i v h=>by cases h⟩
  | cons e es =>
   have:Instr.findNow fs a (e :: es) 0=none:=by
    obtain⟨us,hau,_⟩:=fits_st ha
    simp [Instr.findNow,hau,hsn]
   rw[this]
   exact⟨r,h1,hr0,h30⟩
 ·have hd:∃d,P.underlying t=some d:=by
   unfold skOf at hk;split at hk <;> first|exact⟨_,by assumption⟩|cases hk
  obtain⟨d,hd⟩:=hd
  have now:∀(es:List MapEntry) (i:Nat),(∀e ∈ es,(KK.sc k).fits e.key=true)→∃r,Instr.findNow d a es i=some r∧r.map (·.1)=(mfind a (es.map (·.key))).map (i + ·)∧∀j v,r=some (j,v)→∃m e,j=i+m∧es[m]?=some e∧v=e.val:=by
   intro es
   induction es with
   | nil=>intro i _;exact⟨none,rfl,rfl,fun j v h=>by cases h⟩
   | cons e es ih =>
    intro i hes
    obtain⟨d',hd',hs⟩:=sameNow_ok hk ha (hes e List.mem_cons_self)
    rw[hd] at hd';cases hd'
    simp only[Instr.findNow,hs,List.map_cons,mfind]
    cases hv:keyB a e.key
    ·simp only[Bool.false_eq_true,if_false]
     obtain⟨r,h3,h4,h5⟩:=ih (i+1) (fun e he=>hes e (List.mem_cons_of_mem _ he))
     refine⟨r,h3,?_,fun j v hr => ?_⟩
     ·rw[h4];cases mfind a (es.map (·.key)) <;> simp;omega
     ·obtain⟨m,e',h6,h7,h8⟩:=h5 j v hr;exact⟨m+1,e',by omega,by simpa using h7,h8⟩
    ·simp only[if_true]
     exact⟨some (i,e.val),rfl,by simp,fun j v hr=>by cases hr;exact⟨0,e,rfl,rfl,rfl⟩⟩
  obtain⟨r,h1,h2,h3⟩:=now es 0 hes
  refine⟨r,?_,by rw[h2];cases mfind a (es.map (·.key)) <;> simp,fun i v hr=>by obtain⟨m,e,h4,h5,h6⟩:=h3 i v hr;exact⟨e,by rw[h4,Nat.zero_add];exact h5,h6⟩⟩
  unfold Instr.findKey
  simp only[Sem.run_bind,run_underlying hd,Result.andThen_ok,h1,Sem.run_pure]
theorem checkKey_sc {t:TypeId} {k:SK} (hk:skOf P t=some k) (em:Bool) (n:Nat) (a:Value):(Instr.checkKey em (n+1) t a).run P w = .ok () w:=by
 unfold skOf at hk
 split at hk <;> first|(rename_i hd;simp only[Instr.checkKey,Sem.run_bind,run_underlying hd,Result.andThen_ok];rfl)|cases hk
theorem checkFields_ok (em:Bool) (n:Nat) (us:Array Value):∀(fs:List Field) (ks:List SK) (i:Nat),plainFs P i fs=some ks→i+ks.length=us.size →
  (forIn (m:=Sem) fs PUnit.unit fun f _=>do
   if f.name ≠ "_" then Instr.checkKey em (n+1) f.type (← part f.type us f.offset)
   pure (ForInStep.yield PUnit.unit)).run P w = .ok PUnit.unit w
 | [],ks,i,h,hs=>by simp
 | f :: fs,ks,i,h,hs=>by
  simp only[plainFs] at h
  split at h
  ·rename_i hc
   split at h
   ·rename_i k ks' hk hks
    cases h
    have hlt:f.offset<us.size:=by rw[hc.2];simp at hs;omega
    have hpart:=run_part1 (w:=w) hk (us:=us) (i:=f.offset) (Array.getElem?_eq_getElem hlt)
    have ih:=checkFields_ok em n us fs ks' (i+1) hks (by simp at hs;omega)
    simp only[List.forIn_cons,if_pos hc.1,Sem.run_bind,hpart,Result.andThen_ok,checkKey_sc hk,Sem.run_pure]
    exact ih
   ·cases h
  ·cases h
theorem vfitss_len:∀ {ks:List SK} {a:List Value},vfitss ks a=true→ks.length=a.length
 | [],[],_=>rfl
 | _ :: _,_ :: _,h=>by simp only[vfitss,Bool.and_eq_true] at h;simp [vfitss_len h.2]
 | [],_ :: _,h=>by simp [vfitss] at h
 | _ :: _,[],h=>by simp [vfitss] at h
theorem checkKey_st {t:TypeId} {ks:List SK} (hp:plainSt1 P t=some ks) {us:Array Value} (ha:vfitss ks us.toList=true) (em:Bool) (n:Nat):(Instr.checkKey em (n+1+1) t (.agg us)).run P w = .ok () w:=by
 obtain⟨fs,hu,-,-,h3⟩:=plainSt1_inv hp
 rw[Instr.checkKey]
 simp only[Sem.run_bind,run_underlying hu,Result.andThen_ok]
 rw[← Array.forIn_toList]
 have:=checkFields_ok (P:=P) (w:=w) em n us fs.toList ks 0 h3 (by have:=vfitss_len ha;simp at this;omega)
 simp at this ⊢
 rw[this]
 rfl
theorem checkItems_ok (em:Bool) (n:Nat) {e:TypeId} {k:SK} (hk:skOf P e=some k) {i:TypeInfo} (hi:P.info? e=some i) (hc:P.cellsOf e=1) (us:Array Value):∀(m s:Nat),s+m=us.size →
  (forIn (m:=Sem) (List.range' s m) PUnit.unit fun j _=>do
   Instr.checkKey em (n+1) e (← part e us (j * (← sizeOf e)))
   pure (ForInStep.yield PUnit.unit)).run P w = .ok PUnit.unit w
 | 0,s,_=>by simp
 | m+1,s,h=>by
  have hs:s<us.size:=by omega
  have ih:=checkItems_ok em n hk hi hc us m (s+1) (by omega)
  rw[List.range'_succ]
  simp only[List.forIn_cons,Sem.run_bind,run_sizeOf w hi,hc,Nat.mul_one,run_part1 hk (Array.getElem?_eq_getElem hs),Result.andThen_ok,checkKey_sc hk,Sem.run_pure]
  simpa only [Sem.run_bind,run_sizeOf w hi,hc,Nat.mul_one] using ih
theorem checkKey_ar {t:TypeId} {ks:List SK} (hp:plainArr P t=some ks) {us:Array Value} (ha:vfitss ks us.toList=true) (em:Bool) (n:Nat):(Instr.checkKey em (n+1+1) t (.agg us)).run P w = .ok () w:=by
 obtain⟨m,e,k,i,hu,hk,hi,-,hc,rfl⟩:=plainArr_inv hp
 obtain⟨l1,_⟩:=vfitss_rep ha
 simp only[Array.length_toList] at l1
 rw[Instr.checkKey]
 simp only[Sem.run_bind,run_underlying hu,Result.andThen_ok]
 simp only[Std.Legacy.Range.forIn_eq_forIn_range',Std.Legacy.Range.size,Nat.sub_zero,Nat.add_one_sub_one,Nat.div_one]
 have:=checkItems_ok (w:=w) em n hk hi hc us m 0 (by omega)
 rw[this]
 rfl
theorem checkKey_ok {t:TypeId} {κ:KK} (hκ:kkOf P t=some κ) {a:Value} (ha:κ.fits a=true) (em:Bool) (n:Nat):(Instr.checkKey em (n+1+1) t a).run P w = .ok () w:=by
 rcases kk_cases hκ with ⟨ks,rfl,hp⟩|⟨k,rfl,hk⟩
 ·obtain⟨us,rfl,h⟩:=fits_st ha
  exact hp.elim (fun hp=>checkKey_st hp h em n) fun hp=>checkKey_ar hp h em n
 ·exact checkKey_sc hk em (n+1) a
end
def flatVs:List AV→Option (List Value)
 | []=>some []
 | .v x :: r=>match flatVs r with
  | some l=>some (x :: l)
  | none=>none
 | _=>none
def flatV:AV→Option Value
 | .v x=>some x
 | .agg cs=>match flatVs cs with
  | some l=>some (.agg l.toArray)
  | none=>none
 | _=>none
def mapOf (L:AHeap):AV→Option (List Value × List AV)
 | .lm b=>match lk L b with
  | some (.amap ks vs)=>some (ks,vs)
  | some (.amapE ks vs _ _)=>some (ks,vs)
  | _=>none
 | .rm ks vs=>some (ks,vs)
 | .v (.map none)=>some ([],[])
 | _=>none
def mget (k:Value) (ks:List Value) (vs:List AV) (z:AV):AV :=
 match mfind k ks with
 | some i=>vs.getD i .any
 | none=>z
def aLookup (P:Program) (L:AHeap) (t:TypeId) (ok:Bool) (m k:AV):Option (Prop × AV) :=
 match tinfo P t with
 | some ⟨.map kt et,_,_,_⟩=>match tinfo P et,kkOf P kt,flatV k,mapOf L m with
  | some ei,some κ,some kv,some (ks,vs)=>some (κ.fits kv=true∧ks.all κ.fits=true,if ok then .tup [mget kv ks vs ei.zero,ab (mfind kv ks).isSome] else mget kv ks vs ei.zero)
  | _,_,_,_=>none
 | _=>none
section
variable {P:Program} {w:World} {A:Foot} {L:AHeap}
theorem flatVs_ok:∀ {cs:List AV} {l:List Value},flatVs cs=some l→∀ {us:List Value},Rels w A cs us→us=l
 | [],l,h,us,hr=>by simp only[flatVs] at h;cases h;exact hr.inv_nil
 | c :: cs,l,h,us,hr=>by
  obtain⟨u,us',rfl,h1,h2⟩:=hr.inv_cons
  cases c with
  | v x =>
   simp only[flatVs] at h
   split at h
   ·rename_i l' hl
    cases h
    rw[h1.inv_v,flatVs_ok hl h2]
   ·cases h
  | _=>simp [flatVs] at h
theorem flatV_ok {a:AV} {v:Value} (h:flatV a=some v) {u:Value} (hr:Rel w A a u):u=v:=by
 cases a with
 | v x=>simp only[flatV] at h;cases h;exact hr.inv_v
 | agg cs =>
  simp only[flatV] at h
  split at h
  ·rename_i l hl
   cases h
   cases hr with
   | agg _ us hn hh =>
    have:=flatVs_ok hl (us:=us.toList) ⟨by simpa using hn,fun i a u ha hu=>hh i a u ha (by simpa using hu)⟩
    rw[← this]
  ·cases h
 | _=>simp [flatV] at h
theorem zav_rel0 (z:Value):Rel w A (zav z) z:=by
 cases z with
 | agg cs =>
  refine .agg _ _ (by simp) fun i c u hc hu => ?_
  rw[List.getElem?_map,Array.getElem?_toList,hu] at hc
  cases hc;exact .v _
 | _=>exact .v _
theorem mapOf_ok {m:AV} {ks:List Value} {vs:List AV} (h:mapOf L m=some (ks,vs)) (hL:LRel w A L) {u:Value} (hr:Rel w A m u) :
  ∃es:Array MapEntry,((u = .map none∧es = #[])∨∃r clock,u = .map (some r)∧w.heap[r]?=some (.map es clock))∧es.toList.map (·.key)=ks∧vs.length=ks.length∧∀(i:Nat) x e,vs[i]?=some x→es[i]?=some e→Rel w A x e.val:=by
 unfold mapOf at h
 split at h
 ·rename_i b
  split at h
  ·rename_i ks' vs' hb
   cases h
   obtain⟨es,clock,h1,h2,h3,_,_,h6⟩:=hL.lk hb
   cases hr with
   | lm _=>exact⟨es,.inr ⟨b,clock,rfl,h1⟩,h2,h3,h6⟩
  ·rename_i ks' vs' i st hb
   cases h
   obtain⟨es,clock,h1,h2,h3,_,_,h6,_⟩:=hL.lk hb
   cases hr with
   | lm _=>exact⟨es,.inr ⟨b,clock,rfl,h1⟩,h2,h3,h6⟩
  ·cases h
 ·cases h
  cases hr with
  | rm _ _ b es clock hA hw hk hv hbn hh=>exact⟨es,.inr ⟨b,clock,rfl,hw⟩,hk,hv,hh⟩
 ·cases h
  obtain rfl:=hr.inv_v
  exact⟨#[],.inl ⟨rfl,rfl⟩,rfl,rfl,fun i x e h=>by simp at h⟩
 ·cases h
theorem aLookup_ok {t:TypeId} {ok:Bool} {m k:AV} {c:Prop} {x:AV} {mv kv:Value} (h:aLookup P L t ok m k=some (c,x)) (hc:c) (hL:LRel w A L) (hm:Rel w A m mv) (hk:Rel w A k kv) :
  ∃u,(Instr.lookup t mv kv ok).run P w = .ok u w∧Rel w A x u:=by
 unfold aLookup at h
 split at h
 ·rename_i kt et _ _ _ hti
  split at h
  ·rename_i ei κ kv' ks vs hei hκ hf hmo
   cases h
   obtain⟨hfit,hall⟩:=hc
   have hu:=tinfo_map hti
   obtain⟨d2,inf2,z2,hd2,hinf2,hz2,rfl⟩:=tinfo_inv hei
   obtain rfl:=flatV_ok hf hk
   obtain⟨es,h1,h2,h3,h4⟩:=mapOf_ok hmo hL hm
   have hes:∀e ∈ es.toList,κ.fits e.key=true:=fun e he=>List.all_eq_true.1 hall _ (h2 ▸ List.mem_map_of_mem he)
   obtain⟨r,g1,g2,g3⟩:=findKey_ok (P:=P) (w:=w) hκ hfit es.toList hes
   rw[h2] at g2
   have hcheck:=checkKey_ok (P:=P) (w:=w) hκ hfit es.isEmpty 9998
   have main:∃v:Value,Rel w A (mget kv ks vs (zav z2)) v∧(Instr.lookup t mv kv ok).run P w = .ok (if ok then .tuple #[v,.bool (mfind kv ks).isSome] else v) w:=by
    unfold mget
    rw[← g2]
    have hlook:∀v:Value,∀okb:Bool,(match r with|some (_,v)=>pure (v,true)|none=>do pure (← zeroValue et,false):Sem (Value × Bool)).run P w = .ok (v,okb) w →
      (Instr.lookup t mv kv ok).run P w = .ok (if ok then .tuple #[v,.bool okb] else v) w:=fun v okb hv=>by
     have hc2:(Instr.checkKey es.isEmpty 10000 kt kv).run P w = .ok () w:=hcheck
     rcases h1 with ⟨rfl,rfl⟩|⟨b,clock,rfl,hb⟩
     ·simp only[Instr.lookup,Sem.run_bind,run_underlying hu,Result.andThen_ok,Sem.run_pure]
      rw[hc2]
      simp only[Result.andThen_ok,g1]
      cases r with
      | none=>simp only[Sem.run_bind] at hv ⊢;rw[run_zeroValue_i hinf2 hz2] at hv ⊢;simp at hv ⊢;obtain⟨rfl,rfl⟩:=hv;rfl
      | some p=>simp at hv ⊢;obtain⟨rfl,rfl⟩:=hv;rfl
     ·have hg:(getObj b).run P w = .ok (.map es clock) w:=by simp [getObj,Sem.run,hb]
      simp only[Instr.lookup,Sem.run_bind,run_underlying hu,Result.andThen_ok,Sem.run_pure,hg]
      rw[hc2]
      simp only[Result.andThen_ok,g1]
      cases r with
      | none=>simp only[Sem.run_bind] at hv ⊢;rw[run_zeroValue_i hinf2 hz2] at hv ⊢;simp at hv ⊢;obtain⟨rfl,rfl⟩:=hv;rfl
      | some p=>simp at hv ⊢;obtain⟨rfl,rfl⟩:=hv;rfl
    cases r with
    | none=>exact⟨z2,zav_rel0 z2,hlook z2 false (by simp [run_zeroValue_i hinf2 hz2])⟩
    | some p =>
     obtain⟨i,v⟩:=p
     obtain⟨e,he,rfl⟩:=g3 i v rfl
     have hilt:i<vs.length:=by
      rw[h3,← h2,List.length_map]
      exact(List.getElem?_eq_some_iff.1 he).1
     refine⟨e.val,?_,hlook e.val true rfl⟩
     simp only[Option.map_some]
     refine h4 i _ e ?_ (by simpa using he)
     simp [List.getD_eq_getElem?_getD,hilt]
   obtain⟨v,hv,hrun⟩:=main
   refine⟨_,hrun,?_⟩
   cases ok
   ·exact hv
   ·simp only[if_true]
    refine .tup _ _ (by simp) fun i c u hc hu => ?_
    match i with
    | 0=>simp at hc hu;subst hc;subst hu;exact hv
    | 1=>simp at hc hu;subst hc;subst hu;exact .v _
    | i+2=>simp at hc
  ·cases h
 ·cases h
end
end Go.AL
end
section
namespace Go.AL
open Go Go.RowKit
def Enters (P:Program) (f:FuncId):Prop:=∀args w,(callFunc f args).run P w = .ok (.enter f args) w
theorem enters_of {P:Program} {f:FuncId} {fn:Func} {c:Code} (hf:P.funcs[f]?=some fn) (hname:(fn.name == "runtime.NumGoroutine")=false) (hb:fn.body=some c):Enters P f:=by
 intro args w
 have h1:fn.name ≠ "runtime.NumGoroutine":=by simpa using hname
 simp [callFunc,hf,h1,hb,mark]
def FCall (n:Nat) (P:Program) (gv:Value) (vs:List Value) (w:World) (R:Ending→World→Prop):Prop :=
 match gv with
 | .func (.func f) first cap=>first = #[]∧Enters P f∧CallsIn Fence.wide n P f (vs.toArray ++ cap) w R
 | .func (.yield l) first cap=>first = #[]∧cap = #[]∧∃fn tmps assign body,(Instr.yield l vs.toArray).run P w = .ok (.round l fn tmps assign body) w∧RoundIn Fence.wide n P l fn tmps assign body w R
 | _=>False
def cpost (w:World) (A:Foot) (L:AHeap) (K:AV→AHeap→Prop) (e:Ending) (w':World):Prop :=
 ∃v r L' A',e = .returned v∧K r L'∧Fr w (keysOf L) w'∧(∀b,A' b→A b∨keysOf L b∨w.heap.size≤b)∧LRel w' A' L'∧(∀x ∈ L',keysOf L x.1∨w.heap.size≤x.1)∧Rel w' A' r v
def MVal (P:Program) (g:AV) (args:List AV) (L:AHeap) (K:AV→AHeap→Prop):Prop :=
 ∀n w A gv vs,LRel w A L→Rel w A g gv→Rels w A args vs→FCall n P gv vs w (cpost w A L K)
def MCalls (P:Program) (f:FuncId) (args:List AV) (L:AHeap) (K:AV→AHeap→Prop):Prop :=
 Enters P f∧∀n w A vs,LRel w A L→Rels w A args vs→CallsIn Fence.wide n P f vs.toArray w (cpost w A L K)
theorem cpost.mono {w:World} {A:Foot} {L:AHeap} {K K':AV→AHeap→Prop} (h:∀r L,K r L→K' r L) {e:Ending} {w':World} (hp:cpost w A L K e w'):cpost w A L K' e w' :=
 let ⟨v,r,L',A',h1,h2,h3⟩:=hp
 ⟨v,r,L',A',h1,h _ _ h2,h3⟩
theorem FCall.mono {n:Nat} {P:Program} {gv:Value} {vs:List Value} {w:World} {R R':Ending→World→Prop} (h:FCall n P gv vs w R) (hr:∀e w,R e w→R' e w):FCall n P gv vs w R':=by
 unfold FCall at *
 split at h
 ·exact⟨h.1,h.2.1,h.2.2.mono hr⟩
 ·obtain⟨h1,h2,fn,tmps,assign,body,h3,h4⟩:=h
  exact⟨h1,h2,fn,tmps,assign,body,h3,h4.mono hr⟩
 ·exact h.elim
theorem MVal.mono {P:Program} {g:AV} {args:List AV} {L:AHeap} {K K':AV→AHeap→Prop} (h:MVal P g args L K) (hk:∀r L,K r L→K' r L):MVal P g args L K' :=
 fun n w A gv vs h1 h2 h3=>(h n w A gv vs h1 h2 h3).mono fun _ _=>cpost.mono hk
theorem MCalls.mono {P:Program} {f:FuncId} {args:List AV} {L:AHeap} {K K':AV→AHeap→Prop} (h:MCalls P f args L K) (hk:∀r L,K r L→K' r L):MCalls P f args L K' :=
 ⟨h.1,fun n w A vs h1 h2=>(h.2 n w A vs h1 h2).mono fun _ _=>cpost.mono hk⟩
theorem MCalls.val {P:Program} {f:FuncId} {args:List AV} {L:AHeap} {K:AV→AHeap→Prop} (h:MCalls P f args L K):MVal P (.v (.func (.func f) #[] #[])) args L K :=
 fun n w A gv vs h1 h2 h3=>by
  obtain rfl:=h2.inv_v
  exact⟨rfl,h.1,by have:=h.2 n w A vs h1 h3;simpa using this⟩
theorem MCalls.clo {P:Program} {f:FuncId} {args caps:List AV} {L:AHeap} {K:AV→AHeap→Prop} (h:MCalls P f (args ++ caps) L K):MVal P (.clo f caps) args L K :=
 fun n w A gv vs h1 h2 h3=>by
  cases h2 with
  | clo _ _ us hn hh =>
   refine⟨rfl,h.1,?_⟩
   have:=h.2 n w A (vs ++ us.toList) h1 (Rels.append h3 ⟨by simpa using hn,fun i a u ha hu=>hh i a u ha (by simpa using hu)⟩)
   rwa [show (vs ++ us.toList).toArray=vs.toArray ++ us by simp] at this
def w1 (x:AV) (f:AV→Option (Prop × AV)):Option (Prop × AV) :=
 match f (fo x).2 with
 | some (c,y)=>some ((fo x).1∧c,y)
 | none=>none
def w2 (x y:AV) (f:AV→AV→Option (Prop × AV)):Option (Prop × AV) :=
 match f (fo x).2 (fo y).2 with
 | some (c,z)=>some (((fo x).1∧(fo y).1)∧c,z)
 | none=>none
def fop:Option AV→Prop
 | none=>True
 | some x=>(fo x).1
def wo (p:Prop):Option (Prop × AV)→Option (Prop × AV)
 | some (c,y)=>some (p∧c,y)
 | none=>none
theorem wo_inv {p c:Prop} {r:Option (Prop × AV)} {z:AV} (h:wo p r=some (c,z)) (hc:c):p∧∃c',r=some (c',z)∧c':=by
 unfold wo at h
 split at h
 ·rename_i c' y;cases h;exact⟨hc.1,c',rfl,hc.2⟩
 ·cases h
def fos:List AV→Prop
 | []=>True
 | x :: r=>(fo x).1∧fos r
def aval (P:Program) (ρ:Env) (L:AHeap) (op:Op):Option (Prop × AV) :=
 match op with
 | .move x=>some ((fo (ev ρ x)).1,(fo (ev ρ x)).2)
 | .assign x=>some ((fo (ev ρ x)).1,(fo (ev ρ x)).2)
 | .pick c a b=>match (fo (ev ρ c)).2 with
  | .v (.bool t)=>some ((fo (ev ρ c)).1∧(t=true→(fo (ev ρ a)).1)∧(t=false→(fo (ev ρ b)).1),pickAV t (fo (ev ρ a)).2 (fo (ev ρ b)).2)
  | _=>none
 | .load t x=>w1 (ev ρ x) (aLoad P L t)
 | .fieldAddr t x f=>w1 (ev ρ x) fun p=>aFieldAddr P t p f
 | .field t x f=>w1 (ev ρ x) fun p=>aField P t p f
 | .indexAddr t x i=>w2 (ev ρ x) (ev ρ i) (aIndexAddr P t)
 | .index t x i=>w2 (ev ρ x) (ev ρ i) (aIndex P t)
 | .slice t x lo hi none=>w1 (ev ρ x) fun p=>wo (fop (lo.map (ev ρ))∧fop (hi.map (ev ρ))) (aSlice P t p (lo.map fun y=>(fo (ev ρ y)).2) (hi.map fun y=>(fo (ev ρ y)).2))
 | .binOp op t x y _=>w2 (ev ρ x) (ev ρ y) (aEq P op t)
 | .unOp op _ x=>w1 (ev ρ x) (aUn op)
 | .convert s d x=>w1 (ev ρ x) (aConvL P L s d)
 | .extract x i=>w1 (ev ρ x) fun p=>aExtract p i
 | .nilCheck x=>w1 (ev ρ x) aNil
 | .build t parts =>
  match aBuild P t (parts.toList.map fun p=>(p.1,(fo (ev ρ p.2)).2)) with
  | some (c,x)=>some (fos (parts.toList.map fun p=>ev ρ p.2)∧c,x)
  | none=>none
 | .makeFunc (.func f) first cap=>match first.toList with
  | []=>some (True,.clo f (cap.toList.map (ev ρ)))
  | _=>none
 | .call c=>match c.callee,c.args.toList,c.argTypes.toList with
  | .builtin .len,[x],[t]=>w1 (ev ρ x) (aLen P L t)
  | .builtin .cap,[x],[t]=>w1 (ev ρ x) (aCap P t)
  | .builtin .min,[x,y],_=>w2 (ev ρ x) (ev ρ y) aMin
  | .builtin .max,[x,y],_=>w2 (ev ρ x) (ev ρ y) aMax
  | _,_,_=>none
 | .lookup t m k ok=>w2 (ev ρ m) (ev ρ k) (aLookup P L t ok)
 | _=>none
section
variable {P:Program} {w:World} {A:Foot} {L:AHeap}
theorem w1_inv {x:AV} {f:AV→Option (Prop × AV)} {c:Prop} {z:AV} (h:w1 x f=some (c,z)) (hc:c):(fo x).1∧∃c',f (fo x).2=some (c',z)∧c':=by
 unfold w1 at h
 split at h
 ·rename_i c' y hf;cases h;exact⟨hc.1,c',hf,hc.2⟩
 ·cases h
theorem w2_inv {x y:AV} {f:AV→AV→Option (Prop × AV)} {c:Prop} {z:AV} (h:w2 x y f=some (c,z)) (hc:c):(fo x).1∧(fo y).1∧∃c',f (fo x).2 (fo y).2=some (c',z)∧c':=by
 unfold w2 at h
 split at h
 ·rename_i c' y' hf;cases h;exact⟨hc.1.1,hc.1.2,c',hf,hc.2⟩
 ·cases h
theorem Rels.of_map {ρ:Env} {a:Act} (hρ:∀y,Rel w A (ev ρ y) (a.eval y)) (l:List Operand):Rels w A (l.map (ev ρ)) (l.map a.eval) :=
 ⟨by simp,fun i x u hx hu=>by
  rw[List.getElem?_map] at hx hu
  cases hi:l[i]? with
  | none=>rw[hi] at hx;cases hx
  | some y=>rw[hi] at hx hu;cases hx;cases hu;exact hρ y⟩
theorem fos_ok {ρ:Env} {a:Act} (hρ:∀y,Rel w A (ev ρ y) (a.eval y)) (l:List Operand) (h:fos (l.map (ev ρ))):Rels w A (l.map fun x=>(fo (ev ρ x)).2) (l.map a.eval):=by
 induction l with
 | nil=>exact Rels.nil
 | cons x l ih=>exact Rels.cons (fo_ok (hρ x) h.1) (ih h.2)
theorem arr_one {α:Type} {a:Array α} {x:α} (h:a.toList=[x]):a = #[x]:=Array.ext' h
theorem arr_two {α:Type} {a:Array α} {x y:α} (h:a.toList=[x,y]):a = #[x,y]:=Array.ext' h
theorem orel_fo {ρ:Env} {a:Act} (hρ:∀y,Rel w A (ev ρ y) (a.eval y)) (o:Option Operand) (h:fop (o.map (ev ρ))):ORel w A (o.map fun y=>(fo (ev ρ y)).2) (o.map a.eval):=by
 cases o with
 | none=>trivial
 | some x=>exact fo_ok (hρ x) h
theorem aval_ok {ρ:Env} {o:Oper} {c:Prop} {x:AV} (h:aval P ρ L o.op=some (c,x)) (hc:c) {a:Act} (hρ:∀y,Rel w A (ev ρ y) (a.eval y)) (hL:LRel w A L) :
  ∃u,(execOp a.eval o).run P w = .ok (.value u) w∧Rel w A x u:=by
 unfold aval at h
 unfold execOp
 have lift:∀ {s:Sem Value} {u:Value},s.run P w = .ok u w→(do pure (Next.value (← s)):Sem Next).run P w = .ok (.value u) w:=fun {s u} h=>by simp [h]
 split at h
 case h_1 y hop=>cases h;rw[hop];exact⟨_,rfl,fo_ok (hρ y) hc⟩
 case h_2 y hop=>cases h;rw[hop];exact⟨_,rfl,fo_ok (hρ y) hc⟩
 case h_3 cc a1 b1 hop =>
  rw[hop]
  split at h
  ·rename_i t hcc
   cases h
   obtain⟨hc0,hc⟩:=hc
   have h1:=fo_ok (hρ cc) hc0;rw[hcc] at h1;have h1:=h1.inv_v
   refine⟨if t then a.eval a1 else a.eval b1,by simp [h1,asBool],?_⟩
   rw[pickAV_eq]
   cases t
   ·exact fo_ok (hρ b1) (hc.2 rfl)
   ·exact fo_ok (hρ a1) (hc.1 rfl)
  ·cases h
 case h_4 t y hop =>
  rw[hop]
  obtain⟨h1,c',h2,h3⟩:=w1_inv h hc
  obtain⟨u,hu,hr⟩:=aLoad_ok h2 h3 hL (fo_ok (hρ y) h1)
  exact⟨u,lift hu,hr⟩
 case h_5 t y f hop =>
  rw[hop]
  obtain⟨h1,c',h2,h3⟩:=w1_inv h hc
  obtain⟨u,hu,hr⟩:=aFieldAddr_ok h2 h3 (fo_ok (hρ y) h1)
  exact⟨u,lift hu,hr⟩
 case h_6 t y f hop =>
  rw[hop]
  obtain⟨h1,c',h2,h3⟩:=w1_inv h hc
  obtain⟨u,hu,hr⟩:=aField_ok h2 h3 (fo_ok (hρ y) h1)
  exact⟨u,lift hu,hr⟩
 case h_7 t y i hop =>
  rw[hop]
  obtain⟨h1,h1',c',h2,h3⟩:=w2_inv h hc
  obtain⟨u,hu,hr⟩:=aIndexAddr_ok h2 h3 (fo_ok (hρ y) h1) (fo_ok (hρ i) h1')
  exact⟨u,lift hu,hr⟩
 case h_8 t y i hop =>
  rw[hop]
  obtain⟨h1,h1',c',h2,h3⟩:=w2_inv h hc
  obtain⟨u,hu,hr⟩:=aIndex_ok h2 h3 (fo_ok (hρ y) h1) (fo_ok (hρ i) h1')
  exact⟨u,lift hu,hr⟩
 case h_9 t y lo hi hop =>
  rw[hop]
  obtain⟨h1,c',h2,h3⟩:=w1_inv h hc
  obtain⟨⟨h4,h5⟩,c'',h2,h3⟩:=wo_inv h2 h3
  obtain⟨u,hu,hr⟩:=aSlice_ok h2 h3 (fo_ok (hρ y) h1) (orel_fo hρ lo h4) (orel_fo hρ hi h5)
  exact⟨u,lift hu,hr⟩
 case h_10 op t y z t' hop =>
  rw[hop]
  obtain⟨h1,h1',c',h2,h3⟩:=w2_inv h hc
  obtain⟨u,hu,hr⟩:=aEq_ok op t y z h2 h3 (fo_ok (hρ y) h1) (fo_ok (hρ z) h1')
  exact⟨u,lift hu,hr⟩
 case h_11 op t y hop =>
  rw[hop]
  obtain⟨h1,c',h2,h3⟩:=w1_inv h hc
  obtain⟨u,hu,hr⟩:=aUn_ok h2 h3 (fo_ok (hρ y) h1)
  exact⟨u,lift hu,hr⟩
 case h_12 s d y hop =>
  rw[hop]
  obtain⟨h1,c',h2,h3⟩:=w1_inv h hc
  obtain⟨u,hu,hr⟩:=aConvL_ok h2 h3 hL (fo_ok (hρ y) h1)
  exact⟨u,lift hu,hr⟩
 case h_13 y i hop =>
  rw[hop]
  obtain⟨h1,c',h2,h3⟩:=w1_inv h hc
  obtain⟨u,hu,hr⟩:=aExtract_ok h2 h3 (fo_ok (hρ y) h1)
  exact⟨u,lift hu,hr⟩
 case h_14 y hop =>
  rw[hop]
  obtain⟨h1,c',h2,h3⟩:=w1_inv h hc
  exact aNil_ok h2 (fo_ok (hρ y) h1)
 case h_15 t parts hop =>
  rw[hop]
  split at h
  ·rename_i c' x' hb
   cases h
   have hh:=fos_ok hρ (parts.toList.map (·.2)) (by rw[List.map_map];exact hc.1)
   obtain⟨u,hu,hr⟩:=aBuild_ok (w:=w) (A:=A) (partsV:=parts.map fun p=>(p.1,a.eval p.2)) hb hc.2 (by simp [List.map_map,Function.comp_def]) (by simpa [List.map_map,Function.comp_def] using hh)
   exact⟨u,lift hu,hr⟩
  ·cases h
 case h_16 f first cap hop =>
  rw[hop]
  split at h
  ·rename_i hfst
   cases h
   have:first = #[]:=Array.ext' hfst
   subst this
   have hh:=Rels.of_map (w:=w) (A:=A) hρ cap.toList
   refine⟨.func (.func f) #[] (cap.map a.eval),by simp [Instr.makeFunc],.clo _ _ _ (by simp) (fun i x u hx hu=>hh.2 i x u hx (by simpa using hu))⟩
  ·cases h
 case h_17 cl hop =>
  rw[hop]
  obtain⟨callee,args,argTypes⟩:=cl
  dsimp only at h ⊢
  split at h
  ·rename_i x1 t ha ht
   obtain rfl:=arr_one ha
   obtain rfl:=arr_one ht
   obtain⟨h1,c',h2,h3⟩:=w1_inv h hc
   obtain⟨u,hu,hr⟩:=aLen_ok (ty:=o.type) h2 h3 hL (fo_ok (hρ x1) h1)
   exact⟨u,by simp [resolve,invoke,builtin,hu],hr⟩
  ·rename_i x1 t ha ht
   obtain rfl:=arr_one ha
   obtain rfl:=arr_one ht
   obtain⟨h1,c',h2,h3⟩:=w1_inv h hc
   obtain⟨u,hu,hr⟩:=aCap_ok (ty:=o.type) h2 (fo_ok (hρ x1) h1)
   exact⟨u,by simp [resolve,invoke,builtin,hu],hr⟩
  ·rename_i x1 x2 ha
   obtain rfl:=arr_two ha
   obtain⟨h1,h1',c',h2,h3⟩:=w2_inv h hc
   obtain⟨u,hu,hr⟩:=aMin_ok (P:=P) (as:=argTypes) (ty:=o.type) h2 h3 (fo_ok (hρ x1) h1) (fo_ok (hρ x2) h1')
   exact⟨u,by simp [resolve,invoke,builtin,hu],hr⟩
  ·rename_i x1 x2 ha
   obtain rfl:=arr_two ha
   obtain⟨h1,h1',c',h2,h3⟩:=w2_inv h hc
   obtain⟨u,hu,hr⟩:=aMax_ok (P:=P) (as:=argTypes) (ty:=o.type) h2 h3 (fo_ok (hρ x1) h1) (fo_ok (hρ x2) h1')
   exact⟨u,by simp [resolve,invoke,builtin,hu],hr⟩
  ·cases h
 case h_18 t m k ok hop =>
  rw[hop]
  obtain⟨h1,h1',c',h2,h3⟩:=w2_inv h hc
  obtain⟨u,hu,hr⟩:=aLookup_ok h2 h3 hL (fo_ok (hρ m) h1) (fo_ok (hρ k) h1')
  exact⟨u,lift hu,hr⟩
 case h_19=>cases h
end
end Go.AL
end
