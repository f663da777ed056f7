/- Texts of this claim's proof: WPb, WPe, WPg, WPh, WRf1, WRf2, WRf9, WPj, WPt, WRf3, WDn, WRf4, WRf5, WRf6, WRf7, WPi. No condition. -/
import Derived.Test.YtpcmoecaaphjmaaGreatDoorM6
import Derived.Test.YtpcmoecaaphjmaaGreatDoorM7
import Derived.Test.YtpcmoecaaphjmaaGreatDoorM5
section
namespace Go.AL
open Go Go.RowKit
set_option maxRecDepth 4000
def mn2 (a b:Int):Int:=if b<a then b else a
def mx2 (a b:Int):Int:=if a<b then b else a
def minL:List Int→Int | []=>0|a :: r=>r.foldl mn2 a
def maxL:List Int→Int | []=>0|a :: r=>r.foldl mx2 a
theorem mn2_le (a b:Int):mn2 a b≤a∧mn2 a b≤b:=by unfold mn2;split <;> omega
theorem mx2_le (a b:Int):a≤mx2 a b∧b≤mx2 a b:=by unfold mx2;split <;> omega
theorem minL_snoc {l:List Int} (h:l ≠ []) (y:Int):minL (l ++ [y])=mn2 (minL l) y:=by
 cases l with
 | nil=>exact absurd rfl h
 | cons a r=>simp only[minL,List.cons_append,List.foldl_append,List.foldl_cons,List.foldl_nil]
theorem maxL_snoc {l:List Int} (h:l ≠ []) (y:Int):maxL (l ++ [y])=mx2 (maxL l) y:=by
 cases l with
 | nil=>exact absurd rfl h
 | cons a r=>simp only[maxL,List.cons_append,List.foldl_append,List.foldl_cons,List.foldl_nil]
theorem fold_mn (r:List Int):∀a,r.foldl mn2 a≤a∧∀y ∈ r,r.foldl mn2 a≤y:=by
 induction r with
 | nil=>intro a;exact⟨Int.le_refl _,fun y hy=>by cases hy⟩
 | cons b r ih =>
  intro a
  obtain⟨h1,h2⟩:=ih (mn2 a b)
  have:=mn2_le a b
  simp only[List.foldl_cons]
  refine⟨by omega,fun y hy => ?_⟩
  rcases List.mem_cons.1 hy with rfl|hy
  ·omega
  ·exact h2 y hy
theorem fold_mx (r:List Int):∀a,a≤r.foldl mx2 a∧∀y ∈ r,y≤r.foldl mx2 a:=by
 induction r with
 | nil=>intro a;exact⟨Int.le_refl _,fun y hy=>by cases hy⟩
 | cons b r ih =>
  intro a
  obtain⟨h1,h2⟩:=ih (mx2 a b)
  have:=mx2_le a b
  simp only[List.foldl_cons]
  refine⟨by omega,fun y hy => ?_⟩
  rcases List.mem_cons.1 hy with rfl|hy
  ·omega
  ·exact h2 y hy
theorem minL_le {l:List Int} {y:Int} (h:y ∈ l):minL l≤y:=by
 cases l with
 | nil=>cases h
 | cons a r=>rcases List.mem_cons.1 h with rfl|h;exact(fold_mn r _).1;exact(fold_mn r _).2 _ h
theorem le_maxL {l:List Int} {y:Int} (h:y ∈ l):y≤maxL l:=by
 cases l with
 | nil=>cases h
 | cons a r=>rcases List.mem_cons.1 h with rfl|h;exact(fold_mx r _).1;exact(fold_mx r _).2 _ h
theorem minL_take {l:List Int} {k:Nat} (h0:0<k) (hk:k<l.length):minL (l.take (k+1))=mn2 (minL (l.take k)) l[k]:=by
 rw[List.take_succ_eq_append_getElem hk,minL_snoc]
 intro e;rw[List.take_eq_nil_iff] at e;rcases e with e|e
 ·omega
 ·subst e;simp at hk
theorem maxL_take {l:List Int} {k:Nat} (h0:0<k) (hk:k<l.length):maxL (l.take (k+1))=mx2 (maxL (l.take k)) l[k]:=by
 rw[List.take_succ_eq_append_getElem hk,maxL_snoc]
 intro e;rw[List.take_eq_nil_iff] at e;rcases e with e|e
 ·omega
 ·subst e;simp at hk
def valsF (x:Pr) (v:Nat):List Int:=(List.range (x.evs.length+1)).map fun k=>(stateAt x k).getD v 0
theorem valsF_length (x:Pr) (v:Nat):(valsF x v).length=x.evs.length+1:=by unfold valsF;simp
theorem valsF_get (x:Pr) (v:Nat) {k:Nat} (hk:k<(valsF x v).length):(valsF x v)[k]=(stateAt x k).getD v 0:=by unfold valsF;simp
theorem valsF_mem (x:Pr) (v:Nat) {k:Nat} (hk:k≤x.evs.length):(stateAt x k).getD v 0 ∈ valsF x v:=by
 unfold valsF;rw[List.mem_map];exact⟨k,List.mem_range.2 (by omega),rfl⟩
def varLo (ps:List Pr) (p:Int) (s:ByteArray):Int:=match ps[p.toNat]? with|some x=>minL (valsF x (varIx x.vars s).toNat)|none=>0
def varHi (ps:List Pr) (p:Int) (s:ByteArray):Int:=match ps[p.toNat]? with|some x=>maxL (valsF x (varIx x.vars s).toNat)|none=>0
def evN (ps:List Pr) (p:Int):Int:=match ps[p.toNat]? with|some x=>x.evs.length|none=>0
def sentTo (q:Int) (e:Ev):Bool:=decide (e.kind=2) && decide (e.peer=q)
def msgN (ps:List Pr) (p q:Int):Int:=match ps[p.toNat]? with|some x=>(x.evs.countP (sentTo q):Int)|none=>0
def tooB (a b:Int):Bool:=decide (a < -1125899906842624) || decide (1125899906842624<b)
def absF (a:Int):Int:=mx2 a (-a)
def timesF (a b:Int):Int:=if a=0∨b=0 then 0 else if 1125899906842624 / absF b<absF a then (if (decide (a<0) != decide (b<0))=true then -1125899906842625 else 1125899906842625) else a * b
abbrev Bd:=Int × Int × Bool
def bdL (ps:List Pr) (k n p q:Int) (s:ByteArray):Int × Int:=if k=1 then (n,n) else if k=3 then (0,evN ps p) else if k=4 then (0,msgN ps p q) else (varLo ps p s,varHi ps p s)
def bd2 (k:Int) (a b:Bd):Int × Int:=if k=5 then (-a.2.1,-a.1) else if k=6 then (a.1+b.1,a.2.1+b.2.1) else if k=7 then (a.1 - b.2.1,a.2.1 - b.1) else
 (minL [timesF a.1 b.1,timesF a.1 b.2.1,timesF a.2.1 b.1,timesF a.2.1 b.2.1],maxL [timesF a.1 b.1,timesF a.1 b.2.1,timesF a.2.1 b.1,timesF a.2.1 b.2.1])
def bdG (i:Int × Int):Bd:=(i.1,i.2,!tooB i.1 i.2)
def bdN (ps:List Pr) (k n p q:Int) (s:ByteArray):List Bd→Bd
 | []=>bdG (bdL ps k n p q s)
 | [a]=>if a.2.2=true then bdG (bd2 k a a) else (0,0,false)
 | a :: b :: _=>if a.2.2=true∧b.2.2=true then bdG (bd2 k a b) else (0,0,false)
mutual
def intF (ps:List Pr):Pd→Bd
 | .mk k n p q s l=>bdN ps k n p q s (intL ps l)
def intL (ps:List Pr):List Pd→List Bd
 | []=>[]
 | x :: r=>intF ps x :: intL ps r
end
theorem intL_map (ps:List Pr):∀l,intL ps l=l.map (intF ps)
 | []=>by rw[intL];rfl
 | x :: r=>by rw[intL,intL_map ps r];rfl
theorem intF_mk (ps:List Pr) (k n p q:Int) (s:ByteArray) (l:List Pd):intF ps (.mk k n p q s l)=bdN ps k n p q s (l.map (intF ps)):=by rw[intF,intL_map]
mutual
def fitB (ps:List Pr):Pd→Bool
 | .mk k n p q s l=>if k≤8 then (intF ps (.mk k n p q s l)).2.2 else fitL ps l
def fitL (ps:List Pr):List Pd→Bool
 | []=>true
 | x :: r=>fitB ps x && fitL ps r
end
theorem fitL_all (ps:List Pr):∀l,fitL ps l=l.all (fitB ps)
 | []=>by rw[fitL];rfl
 | x :: r=>by rw[fitL,fitL_all ps r];rfl
theorem fitB_mk (ps:List Pr) (k n p q:Int) (s:ByteArray) (l:List Pd):fitB ps (.mk k n p q s l)=if k≤8 then (intF ps (.mk k n p q s l)).2.2 else l.all (fitB ps):=by rw[fitB,fitL_all]
def okT (ps:List Pr) (t:Pd):Bool:=allB locB t && allB (resB ps) t && allB typB t
theorem allB_sub {f:Pd→Bool} {k n p q:Int} {s:ByteArray} {l:List Pd} (h:allB f (.mk k n p q s l)=true):f (.mk k n p q s l)=true∧∀x ∈ l,allB f x=true:=by
 rw[allB_mk,Bool.and_eq_true,List.all_eq_true] at h;exact h
theorem okT_sub {ps:List Pr} {k n p q:Int} {s:ByteArray} {l:List Pd} (h:okT ps (.mk k n p q s l)=true) :
  locB (.mk k n p q s l)=true∧resB ps (.mk k n p q s l)=true∧typB (.mk k n p q s l)=true∧∀x ∈ l,okT ps x=true∧resF x.kind=needF k:=by
 unfold okT at *
 simp only[Bool.and_eq_true] at h
 obtain⟨⟨h1,h2⟩,h3⟩:=h
 obtain⟨a1,b1⟩:=allB_sub h1
 obtain⟨a2,b2⟩:=allB_sub h2
 obtain⟨a3,b3⟩:=allB_sub h3
 refine⟨a1,a2,a3,fun x hx=>⟨by simp only[Bool.and_eq_true];exact⟨⟨b1 x hx,b2 x hx⟩,b3 x hx⟩,?_⟩⟩
 unfold typB at a3
 have:=List.any_eq_false.1 (Bool.not_eq_true' _ ▸ a3:(l.any fun x=>tyNe k x.kind)=false) x hx
 unfold tyNe at this
 simpa using this
theorem loc_len {k n p q:Int} {s:ByteArray} {l:List Pd} (h:locB (.mk k n p q s l)=true):partsF k=l.length∧numB k n=true:=by
 unfold locB at h
 simp only[Bool.and_eq_true,decide_eq_true_eq] at h
 exact h.1
structure Obs where
 var:Int→ByteArray→Int
 cnt:Int→Int
 chn:Int→Int→Int
def valN (o:Obs) (k n p q:Int) (s:ByteArray):List Int→Int
 | []=>if k=1 then n else if k=2 then o.var p s else if k=3 then o.cnt p else o.chn p q
 | [a] => -a
 | a :: b :: _=>if k=6 then a+b else if k=7 then a - b else a * b
mutual
def valF (o:Obs):Pd→Int
 | .mk k n p q s l=>valN o k n p q s (valL o l)
def valL (o:Obs):List Pd→List Int
 | []=>[]
 | x :: r=>valF o x :: valL o r
end
theorem valL_map (o:Obs):∀l,valL o l=l.map (valF o)
 | []=>by rw[valL];rfl
 | x :: r=>by rw[valL,valL_map o r];rfl
theorem valF_mk (o:Obs) (k n p q:Int) (s:ByteArray) (l:List Pd):valF o (.mk k n p q s l)=valN o k n p q s (l.map (valF o)):=by rw[valF,valL_map]
def obsB (ps:List Pr) (o:Obs):Pd→Prop
 | .mk k _ p q s _=>(k=2→varLo ps p s≤o.var p s∧o.var p s≤varHi ps p s)∧(k=3→0≤o.cnt p∧o.cnt p≤evN ps p)∧(k=4→0≤o.chn p q∧o.chn p q≤msgN ps p q)
mutual
def AllP (f:Pd→Prop):Pd→Prop
 | .mk k n p q s l=>f (.mk k n p q s l)∧AllPL f l
def AllPL (f:Pd→Prop):List Pd→Prop
 | []=>True
 | x :: r=>AllP f x∧AllPL f r
end
theorem AllPL_mem {f:Pd→Prop} : ∀ {l:List Pd},AllPL f l→∀x ∈ l,AllP f x
 | x :: r,h,y,hy=>by
  rw[AllPL] at h
  rcases List.mem_cons.1 hy with rfl|hy
  ·exact h.1
  ·exact AllPL_mem h.2 y hy
theorem AllP_sub {f:Pd→Prop} {k n p q:Int} {s:ByteArray} {l:List Pd} (h:AllP f (.mk k n p q s l)):f (.mk k n p q s l)∧∀x ∈ l,AllP f x:=by
 rw[AllP] at h;exact⟨h.1,AllPL_mem h.2⟩
theorem AllPL_of {f:Pd→Prop} : ∀ {l:List Pd},(∀x ∈ l,AllP f x)→AllPL f l
 | [],_=>by rw[AllPL];trivial
 | x :: r,h=>by rw[AllPL];exact⟨h x List.mem_cons_self,AllPL_of fun y hy=>h y (List.mem_cons_of_mem _ hy)⟩
theorem AllP_mk {f:Pd→Prop} {k n p q:Int} {s:ByteArray} {l:List Pd} (h:f (.mk k n p q s l)) (hs:∀x ∈ l,AllP f x):AllP f (.mk k n p q s l):=by
 rw[AllP];exact⟨h,AllPL_of hs⟩
theorem AllP_of_allB {f:Pd→Bool} {g:Pd→Prop} (h:∀x,f x=true→g x) (t:Pd):allB f t=true→AllP g t:=by
 induction t using Pd.ind with
 | _ k n p q s l ih=>intro ht;obtain⟨a,b⟩:=allB_sub ht;exact AllP_mk (h _ a) fun x hx=>ih x hx (b x hx)
theorem tooB_false {a b:Int} (h:(!tooB a b)=true) : -1125899906842624≤a∧b≤1125899906842624:=by
 unfold tooB at h;simp at h;omega
theorem absF_eq (a:Int):absF a=a.natAbs:=by unfold absF mx2;split <;> omega
theorem timesF_ok {a b:Int} (h1 : -1125899906842624≤timesF a b) (h2:timesF a b≤1125899906842624):timesF a b=a * b:=by
 unfold timesF at *
 split
 ·rename_i h;rcases h with rfl|rfl <;> simp
 ·rename_i h
  rw[if_neg h] at h1 h2
  split
  ·rename_i hh;rw[if_pos hh] at h1 h2
   by_cases hx:(decide (a<0) != decide (b<0))=true
   ·rw[if_pos hx] at h1;omega
   ·rw[if_neg hx] at h2;omega
  ·rfl
theorem mul_ends {a b y:Int} {x:Int} (hx1:a≤x) (hx2:x≤b):(a * y≤x * y∧x * y≤b * y)∨(b * y≤x * y∧x * y≤a * y):=by
 rcases Int.le_total 0 y with h|h
 ·exact .inl ⟨Int.mul_le_mul_of_nonneg_right hx1 h,Int.mul_le_mul_of_nonneg_right hx2 h⟩
 ·exact .inr ⟨Int.mul_le_mul_of_nonpos_right hx2 h,Int.mul_le_mul_of_nonpos_right hx1 h⟩
theorem mul_ends' {a b x y:Int} (hx1:a≤x) (hx2:x≤b):(y * a≤y * x∧y * x≤y * b)∨(y * b≤y * x∧y * x≤y * a):=by
 rw[Int.mul_comm y a,Int.mul_comm y b,Int.mul_comm y x];exact mul_ends hx1 hx2
theorem mul_hull {a b c d x y m M:Int} (hx1:a≤x) (hx2:x≤b) (hy1:c≤y) (hy2:y≤d) (h1:m≤a * c∧a * c≤M) (h2:m≤a * d∧a * d≤M) (h3:m≤b * c∧b * c≤M) (h4:m≤b * d∧b * d≤M) :
  m≤x * y∧x * y≤M:=by
 have e1:=mul_ends (y:=y) hx1 hx2
 have e2:=mul_ends' (y:=a) hy1 hy2
 have e3:=mul_ends' (y:=b) hy1 hy2
 generalize x * y=u at *
 generalize a * y=u1 at *
 generalize b * y=u2 at *
 generalize a * c=v1 at *
 generalize a * d=v2 at *
 generalize b * c=v3 at *
 generalize b * d=v4 at *
 omega
theorem hull4 (a b c d:Int):(minL [a,b,c,d]≤a∧a≤maxL [a,b,c,d])∧(minL [a,b,c,d]≤b∧b≤maxL [a,b,c,d])∧(minL [a,b,c,d]≤c∧c≤maxL [a,b,c,d])∧(minL [a,b,c,d]≤d∧d≤maxL [a,b,c,d]) :=
 ⟨⟨minL_le (by simp),le_maxL (by simp)⟩,⟨minL_le (by simp),le_maxL (by simp)⟩,⟨minL_le (by simp),le_maxL (by simp)⟩,⟨minL_le (by simp),le_maxL (by simp)⟩⟩
theorem parts_cases (k:Int):(partsF k=0∧((1≤k∧k≤4)∨k=13∨k=14))∨(partsF k=1∧(k=5∨k=15∨(18≤k∧k≤21)))∨(partsF k=2∧((6≤k∧k≤12)∨k=16∨k=17))∨partsF k = -1:=by
 unfold partsF
 split
 ·exact .inl ⟨rfl,by omega⟩
 ·split
  ·exact .inr (.inl ⟨rfl,by omega⟩)
  ·split
   ·exact .inr (.inr (.inl ⟨rfl,by omega⟩))
   ·exact .inr (.inr (.inr rfl))
theorem resF_le {k:Int} (h:resF k=1):k≤8:=by unfold resF at h;split at h <;> omega
theorem child_le {ps:List Pr} {k n p q:Int} {s:ByteArray} {l:List Pd} (h:okT ps (.mk k n p q s l)=true) (hk:k≤12):∀x ∈ l,okT ps x=true∧x.kind≤8:=by
 intro x hx
 obtain⟨h1,h2⟩:=(okT_sub h).2.2.2 x hx
 refine⟨h1,resF_le ?_⟩
 rw[h2];unfold needF;rw[if_pos hk]
theorem len0 {α:Type} {l:List α} (h:l.length=0):l=[]:=List.length_eq_zero_iff.1 h
theorem len1 {α:Type} {l:List α} (h:l.length=1):∃a,l=[a]:=List.length_eq_one_iff.1 h
theorem len2 {α:Type} {l:List α} (h:l.length=2):∃a b,l=[a,b]:=by
 match l,h with
 | [a,b],_=>exact⟨a,b,rfl⟩
theorem valF_bounds (ps:List Pr) (o:Obs) (t:Pd):okT ps t=true→t.kind≤8→AllP (obsB ps o) t→(intF ps t).2.2=true →
  (intF ps t).1≤valF o t∧valF o t≤(intF ps t).2.1 ∧ -1125899906842624≤(intF ps t).1∧(intF ps t).2.1≤1125899906842624:=by
 induction t using Pd.ind with
 | _ k n p q s l ih =>
 intro ht hk ho hi
 obtain⟨h1,h2,h3,h4⟩:=okT_sub ht
 obtain⟨hpl,hnu⟩:=loc_len h1
 obtain⟨o1,o2⟩:=AllP_sub ho
 have hch:=child_le ht (show k≤12 by simp only[Pd.kind] at hk;omega)
 simp only[Pd.kind] at hk
 rw[intF_mk] at *
 rw[valF_mk]
 rcases parts_cases k with ⟨e,hc⟩|⟨e,hc⟩|⟨e,hc⟩|e
 ·obtain rfl:=len0 (l:=l) (by omega)
  simp only[List.map_nil,bdN,bdG,valN] at *
  obtain⟨b1,b2⟩:=tooB_false hi
  obtain⟨v2,v3,v4⟩:=o1
  have hk4:k=1∨k=2∨k=3∨k=4:=by omega
  refine⟨?_,?_,b1,b2⟩
  ·rcases hk4 with rfl|rfl|rfl|rfl
   ·simp [bdL]
   ·have:=(v2 rfl).1;simpa [bdL] using this
   ·have:=(v3 rfl).1;simpa [bdL] using this
   ·have:=(v4 rfl).1;simpa [bdL] using this
  ·rcases hk4 with rfl|rfl|rfl|rfl
   ·simp [bdL]
   ·have:=(v2 rfl).2;simpa [bdL] using this
   ·have:=(v3 rfl).2;simpa [bdL] using this
   ·have:=(v4 rfl).2;simpa [bdL] using this
 ·obtain⟨a,rfl⟩:=len1 (l:=l) (by omega)
  simp only[List.map_cons,List.map_nil,bdN,valN] at *
  split at hi
  ·rename_i ha
   rw[if_pos ha]
   obtain⟨c1,c2⟩:=hch a (by simp)
   obtain⟨d1,d2,d3,d4⟩:=ih a (by simp) c1 c2 (o2 a (by simp)) ha
   have k5:k=5:=by omega
   simp only[bdG,bd2,if_pos k5] at *
   omega
  ·cases hi
 ·obtain⟨a,b,rfl⟩:=len2 (l:=l) (by omega)
  simp only[List.map_cons,List.map_nil,bdN,valN] at *
  split at hi
  ·rename_i hab
   obtain⟨ha,hb⟩:=hab
   rw[if_pos ⟨ha,hb⟩]
   obtain⟨c1,c2⟩:=hch a (by simp)
   obtain⟨d1,d2,d3,d4⟩:=ih a (by simp) c1 c2 (o2 a (by simp)) ha
   obtain⟨c3,c4⟩:=hch b (by simp)
   obtain⟨f1,f2,f3,f4⟩:=ih b (by simp) c3 c4 (o2 b (by simp)) hb
   have hbd:=tooB_false hi
   generalize intF ps a=A at *
   generalize intF ps b=B at *
   obtain⟨a1,a2,a3⟩:=A
   obtain⟨b1,b2,b3⟩:=B
   generalize valF o a=x at *
   generalize valF o b=y at *
   simp only at *
   have k5:¬k=5:=by omega
   by_cases k6:k=6
   ·simp only[bdG,bd2,if_neg k5,if_pos k6] at *;omega
   by_cases k7:k=7
   ·simp only[bdG,bd2,if_neg k5,if_neg k6,if_pos k7] at *;omega
   simp only[bdG,bd2,if_neg k5,if_neg k6,if_neg k7] at *
   obtain⟨g1,g2,g3,g4⟩:=hull4 (timesF a1 b1) (timesF a1 b2) (timesF a2 b1) (timesF a2 b2)
   have t1:=timesF_ok (a:=a1) (b:=b1) (by omega) (by omega)
   have t2:=timesF_ok (a:=a1) (b:=b2) (by omega) (by omega)
   have t3:=timesF_ok (a:=a2) (b:=b1) (by omega) (by omega)
   have t4:=timesF_ok (a:=a2) (b:=b2) (by omega) (by omega)
   rw[t1,t2,t3,t4] at hbd ⊢
   obtain⟨g1,g2,g3,g4⟩:=hull4 (a1 * b1) (a1 * b2) (a2 * b1) (a2 * b2)
   obtain⟨r1,r2⟩:=mul_hull d1 d2 f1 f2 g1 g2 g3 g4
   exact⟨r1,r2,hbd.1,hbd.2⟩
  ·cases hi
 ·omega
theorem intF_le (ps:List Pr) (t:Pd):(intF ps t).1≤(intF ps t).2.1:=by
 induction t using Pd.ind with
 | _ k n p q s l ih =>
 rw[intF_mk]
 have hv:∀(v:Nat) (x:Pr),minL (valsF x v)≤maxL (valsF x v):=fun v x=>by
  have h:=valsF_mem x v (Nat.zero_le x.evs.length)
  have:=minL_le h;have:=le_maxL h;omega
 have h4:∀a b c d:Int,minL [a,b,c,d]≤maxL [a,b,c,d]:=fun a b c d=>by have:=(hull4 a b c d).1;omega
 have h2:∀a b:Bd,a.1≤a.2.1→b.1≤b.2.1→(bd2 k a b).1≤(bd2 k a b).2:=fun a b ha hb=>by
  unfold bd2
  split
  ·simp only;omega
  ·split
   ·simp only;omega
   ·split
    ·simp only;omega
    ·exact h4 _ _ _ _
 match l,ih with
 | [],_ =>
  simp only[List.map_nil,bdN,bdG]
  unfold bdL
  split
  ·exact Int.le_refl _
  ·split
   ·simp only[evN];split <;> omega
   ·split
    ·simp only[msgN];split <;> omega
    ·simp only[varLo,varHi];split
     ·exact hv _ _
     ·exact Int.le_refl _
 | [a],ih =>
  simp only[List.map_cons,List.map_nil,bdN]
  split
  ·exact h2 _ _ (ih a (by simp)) (ih a (by simp))
  ·exact Int.le_refl _
 | a :: b :: r,ih =>
  simp only[List.map_cons,bdN]
  split
  ·exact h2 _ _ (ih a (by simp)) (ih b (by simp))
  ·exact Int.le_refl _
theorem intF_ok (ps:List Pr) (t:Pd) (h:(intF ps t).2.2=true):(-1125899906842624≤(intF ps t).1∧(intF ps t).1≤1125899906842624) ∧ -1125899906842624≤(intF ps t).2.1∧(intF ps t).2.1≤1125899906842624:=by
 have hle:=intF_le ps t
 obtain⟨k,n,p,q,s,l⟩:=t
 rw[intF_mk] at *
 have hg:∀i:Int × Int,(bdG i).2.2=true → -1125899906842624≤(bdG i).1∧(bdG i).2.1≤1125899906842624:=fun i hi=>tooB_false hi
 match l with
 | []=>have:=hg _ h;simp only[List.map_nil,bdN] at *;omega
 | [a] =>
  simp only[List.map_cons,List.map_nil,bdN] at *
  split at h
  ·rename_i e;rw[if_pos e] at *;have:=hg _ h;omega
  ·cases h
 | a :: b :: r =>
  simp only[List.map_cons,bdN] at *
  split at h
  ·rename_i e;rw[if_pos e] at *;have:=hg _ h;omega
  ·cases h
def aIv (a b:Int):AV:=.agg [ai a,ai b]
def aBd (x:Bd):AV:=.tup [aIv x.1 x.2.1,ab x.2.2]
theorem quo_eq {a b:Int} (ha:0≤a) (ha':a≤1125899906842624) (hb:0<b):IntKind.i64.wrap (a.tdiv b)=a / b:=by
 rw[Int.tdiv_eq_ediv_of_nonneg ha]
 have h1:0≤a / b:=Int.ediv_nonneg ha (Int.le_of_lt hb)
 have h2:a / b≤a:=Int.ediv_le_self b ha
 exact wrap_i64 (by unfold I64;omega)
theorem mul_small {a b:Int} (hb:b ≠ 0) (h:¬1125899906842624 / absF b<absF a) : -1125899906842624≤a * b∧a * b≤1125899906842624:=by
 rw[absF_eq,absF_eq] at h
 have hb':(0:Int)<(b.natAbs:Int):=by omega
 have h1:(a.natAbs:Int) * (b.natAbs:Int)≤1125899906842624:=(Int.le_ediv_iff_mul_le hb').1 (by omega)
 have h2:((a * b).natAbs:Int)=(a.natAbs:Int) * (b.natAbs:Int):=by rw[Int.natAbs_mul];rfl
 omega
theorem mulW_eq {a b:Int} (h:I64 (a * b)):mulW a b=a * b:=wrap_i64 h
theorem predtype_abs (a:Int) (ha : -1125899906842625≤a∧a≤1125899906842625):PC Proofs.Tryz.prog 267 [ai a] (ai (absF a)):=by
 have hsp:absF a=if a < -a then -a else a:=rfl
 generalize absF a=x at *
 refine PC.enter 7 [.tmp 2] [] Proofs.Tryz.func267 rfl rfl rfl rfl rfl (by simp) (AWp.of ?_);simp only[go_sem]
 refine Wk ?_
 refine ret_eq ?_;simp only[go_sem]
 rw[hsp]
theorem predtype_product (a b:Int) (ha : -1125899906842625≤a∧a≤1125899906842625) (hb : -1125899906842625≤b∧b≤1125899906842625):PC Proofs.Tryz.prog 204 [ai a,ai b] (ai (timesF a b)):=by
 have h1:=predtype_abs a ha
 have h2:=predtype_abs b hb
 have hsp:timesF a b=if a=0∨b=0 then 0 else if 1125899906842624 / absF b<absF a then (if (decide (a<0) != decide (b<0))=true then -1125899906842625 else 1125899906842625) else a * b:=rfl
 have hms:=fun h=>mul_small (a:=a) (b:=b) h
 have hpos:b ≠ 0→0<absF b:=fun h=>by rw[absF_eq];omega
 have hquo:=fun h=>quo_eq (a:=1125899906842624) (b:=absF b) (by decide) (by decide) h
 have hmw:=fun h=>mulW_eq (a:=a) (b:=b) h
 generalize timesF a b=r at *
 generalize absF a=A at *
 generalize absF b=B at *
 refine PC.enter 29 [.tmp 4] [] Proofs.Tryz.func204 rfl rfl rfl rfl rfl (by simp) (AWp.of ?_);simp only[go_sem]
 refine Wk ?_
 refine⟨fun h3 => ?_,fun h3 => ?_⟩
 ·refine Wk ?_
  refine ret_eq ?_;simp only[go_sem]
  rw[hsp,if_pos h3]
 intro h3'
 rw[if_neg (by intro h;rcases h with h|h;exact h3 h;exact h3' h)] at hsp
 have hB:=hpos h3'
 have hq:=hquo hB
 refine Wk ?_
 refine Sd ?_
 refine(h1).val.use ?_;simp only[go_sem]
 refine Wk ?_
 refine Sd ?_
 refine(h2).val.use ?_;simp only[go_sem]
 refine W1 hq ?_
 refine⟨fun h4 => ?_,fun h4 => ?_⟩
 ·rw[if_pos h4] at hsp
  refine Wk ?_
  refine Wk ?_
  refine⟨fun h5 => ?_,fun h5 => ?_⟩
  ·refine Wk ?_
   refine ret_eq ?_;simp only[go_sem]
   rw[hsp,if_pos (by simpa using h5)]
  ·refine Wk ?_
   refine ret_eq ?_;simp only[go_sem]
   rw[hsp,if_neg (by simpa using h5)]
 rw[if_neg h4] at hsp
 have hm:=hms h3' h4
 refine Wk ?_
 refine ret_eq ?_;simp only[go_sem]
 rw[hsp,hmw (by unfold I64;omega)]
theorem ints_minL (l:List Int) (hl:l.length≤2000000) (h0:0<l.length):PC Proofs.Tryz.prog 265 [aInts l] (ai (minL l)):=by
 have hg0:=getD_map (f:=ai) h0
 have hm1:minL (l.take 1)=l[0]:=by cases l with|nil=>simp at h0|cons a r=>rfl
 have hfull:minL (l.take l.length)=minL l:=by rw[List.take_length]
 generalize minL l=res at *
 refine PC.enter 25 [.tmp 2] [] Proofs.Tryz.func265 rfl rfl rfl rfl rfl (by simp) (AWp.of ?_);simp only[go_sem]
 refine Wk ?_
 intro _
 refine W1 hg0 ?_
 refine AWp.block (AWp.loopN [3,4] [0] (fun m vs L=>∃i:Nat,1≤i∧i≤l.length∧m=l.length - i∧L=[]∧vs=[ai (minL (l.take i)),ai i]) (l.length - 1) ⟨1,by omega,by omega,rfl,rfl,by rw[hm1];rfl⟩ ?_)
 rintro m vs L - ⟨i,i1,i2,rfl,rfl,rfl⟩
 simp only[go_sem]
 refine Wk ?_
 refine⟨fun h3 => ?_,fun h3 => ?_⟩
 ·have hil:i<l.length:=by omega
  have hg:=getD_map (f:=ai) hil
  have ht:=minL_take (l:=l) (by omega) hil
  refine W1 hg ?_
  refine⟨_,List.Sublist.refl _,l.length - (i+1),by omega,i+1,by omega,by omega,rfl,rfl,?_⟩
  rw[ht];rfl
 ·refine Wk ?_
  refine ret_eq ?_;simp only[go_sem]
  rw[← hfull,show i=l.length by omega]
theorem ints_maxL (l:List Int) (hl:l.length≤2000000) (h0:0<l.length):PC Proofs.Tryz.prog 266 [aInts l] (ai (maxL l)):=by
 have hg0:=getD_map (f:=ai) h0
 have hm1:maxL (l.take 1)=l[0]:=by cases l with|nil=>simp at h0|cons a r=>rfl
 have hfull:maxL (l.take l.length)=maxL l:=by rw[List.take_length]
 generalize maxL l=res at *
 refine PC.enter 25 [.tmp 2] [] Proofs.Tryz.func266 rfl rfl rfl rfl rfl (by simp) (AWp.of ?_);simp only[go_sem]
 refine Wk ?_
 intro _
 refine W1 hg0 ?_
 refine AWp.block (AWp.loopN [3,4] [0] (fun m vs L=>∃i:Nat,1≤i∧i≤l.length∧m=l.length - i∧L=[]∧vs=[ai (maxL (l.take i)),ai i]) (l.length - 1) ⟨1,by omega,by omega,rfl,rfl,by rw[hm1];rfl⟩ ?_)
 rintro m vs L - ⟨i,i1,i2,rfl,rfl,rfl⟩
 simp only[go_sem]
 refine Wk ?_
 refine⟨fun h3 => ?_,fun h3 => ?_⟩
 ·have hil:i<l.length:=by omega
  have hg:=getD_map (f:=ai) hil
  have ht:=maxL_take (l:=l) (by omega) hil
  refine W1 hg ?_
  refine⟨_,List.Sublist.refl _,l.length - (i+1),by omega,i+1,by omega,by omega,rfl,rfl,?_⟩
  rw[ht];rfl
 ·refine Wk ?_
  refine ret_eq ?_;simp only[go_sem]
  rw[← hfull,show i=l.length by omega]
theorem predtype_hull (l:List Int) (hl:l.length≤2000000) (h0:0<l.length):PC Proofs.Tryz.prog 203 [aInts l] (aIv (minL l) (maxL l)):=by
 have h1:=ints_minL l hl h0
 have h2:=ints_maxL l hl h0
 generalize minL l=a at *
 generalize maxL l=b at *
 refine PC.enter 8 [.cell 2 175] [] Proofs.Tryz.func203 rfl rfl rfl rfl rfl (by simp) (AWp.of ?_);simp only[go_sem]
 refine Wk ?_
 intro b2
 refine Wk ?_
 refine Sd ?_
 refine(h1).val.use ?_;simp only[go_sem]
 refine Wk ?_
 refine Sd ?_
 refine(h2).val.use ?_;simp only[go_sem]
 refine Wk ?_
 refine ret_eq ?_;simp only[go_sem]
 rfl
theorem countP_take {l:List Ev} {f:Ev→Bool} {k:Nat} (hk:k<l.length):((l.take (k+1)).countP f:Int)=(l.take k).countP f+if f l[k]=true then 1 else 0:=by
 rw[List.take_succ_eq_append_getElem hk,List.countP_append,List.countP_cons,List.countP_nil]
 split <;> simp
theorem msgN_get {ps:List Pr} {p:Nat} (hp:p<ps.length) (q:Int):msgN ps p q=(ps[p].evs.countP (sentTo q):Int):=by unfold msgN;simp only[Int.toNat_natCast,List.getElem?_eq_getElem hp]
theorem evN_get {ps:List Pr} {p:Nat} (hp:p<ps.length):evN ps p=ps[p].evs.length:=by unfold evN;simp only[Int.toNat_natCast,List.getElem?_eq_getElem hp]
theorem predtype_messages (ps:List Pr) (hs:Sm ps) (p:Int) (hpb:isPB ps.length p=true) (q:Int):PC Proofs.Tryz.prog 263 [aTr ps,ai p,ai q] (ai (msgN ps p q)):=by
 obtain⟨p,rfl,hp⟩:=isPB_nat hpb
 have hm:=List.getElem_mem hp
 have hel:=hs.evs _ hm
 have hgp:=getD_map (f:=aPr) hp
 rw[msgN_get hp]
 refine PC.enter 34 [.tmp 6] [3,9] Proofs.Tryz.func263 rfl rfl rfl rfl rfl (by simp) (AWp.of ?_);simp only[go_sem]
 refine W1 hgp ?_
 refine AWp.range' ps[p].evs.length [7] [2,15,16] (fun k vs L=>L=[]∧vs=[ai ((ps[p].evs.take k).countP (sentTo q):Int)]) (by omega) rfl rfl rfl ⟨rfl,rfl⟩ ?_ ?_
 ·rintro k vs L' hk - ⟨rfl,rfl⟩
  have hge:=getD_map (f:=aEv) hk
  have hst:=countP_take (f:=sentTo q) hk
  have hcl:(ps[p].evs.take k).countP (sentTo q)≤ps[p].evs.length:=Nat.le_trans List.countP_le_length (by rw[List.length_take];omega)
  have hsp:sentTo q ps[p].evs[k]=(decide (ps[p].evs[k].kind=2) && decide (ps[p].evs[k].peer=q)):=rfl
  generalize ps[p].evs[k]=e at *
  simp only[go_sem]
  refine W1 hge ?_
  intro b9
  refine Wk ?_
  refine⟨fun h1 => ?_,fun h1 => ?_⟩
  ·intro h2
   refine Wk ?_
   refine⟨_,List.Sublist.refl _,rfl,?_⟩
   rw[hst,hsp,decide_eq_true h1,decide_eq_true h2]
   try rfl
  ·refine⟨_,List.Sublist.refl _,rfl,?_⟩
   rw[hst,hsp,if_neg (by simp only[Bool.and_eq_true,decide_eq_true_eq];exact fun h=>h1 h.1 h.2),Int.add_zero]
 ·rintro vs L' - ⟨rfl,rfl⟩
  simp only[go_sem]
  refine Wk ?_
  refine ret_eq ?_;simp only[go_sem]
theorem variable_values (x:Pr) (h1:x.vars.length≤1000000) (h2:x.evs.length≤1000000) (h3:∀e ∈ x.evs,e.asg.length≤1000000) (ha:AsgOk x) (v:Nat) (hv:v<x.vars.length) :
  PC Proofs.Tryz.prog 297 [aPr x,ai v] (aInts (valsF x v)):=by
 have hst:=variable_states x
 have hvl:=valsF_length x v
 refine PC.enter 20 [.tmp 4] [2,3,17] Proofs.Tryz.func297 rfl rfl rfl rfl rfl (by simp) (AWp.of ?_);simp only[go_sem]
 refine Wk ?_
 intro b5
 refine Sd ?_
 refine AWp.of ?_;simp only[go_sem]
 refine Sd ?_
 refine(hst).val.use ?_;simp only[go_sem]
 refine AWp.block (AWp.rangeFunc rfl [3,5] (stArgs x) (fun j L=>∃w Lw,L=Lw ++ [(b5,.row 33 1 [w] 1)]∧AppSt 3 1 (((valsF x v).take j).map ai) w Lw∧∀p ∈ Lw,p.1 ≠ b5) (fun _ _=>False)
  rfl (variable_states1 x h1 h2 h3 ha) (fun y hy=>by obtain⟨j,hj⟩:=List.getElem?_of_mem hy;unfold stArgs at hj;rw[List.getElem?_map,Option.map_eq_some_iff] at hj;obtain⟨_,_,rfl⟩:=hj;rfl) ⟨anil,[],rfl,.nil,by simp⟩ ?_ ?_ ?_)
 ·rintro j y L' l hy ⟨w,Lw,rfl,hA,hne⟩
  have hjl:j≤x.evs.length:=by
   have:=(List.getElem?_eq_some_iff.1 hy).1
   unfold stArgs at this;simp at this;omega
  rw[stArgs_get x j hjl] at hy
  cases hy
  have hvs:v<(stateAt x j).length:=by rw[stateAt_length];exact hv
  have hgs:=getD_map (f:=ai) hvs
  have hjv:j<(valsF x v).length:=by omega
  have hsu:((valsF x v).take (j+1)).map ai=((valsF x v).take j).map ai ++ [ai (stateAt x j)[v]]:=by
   rw[List.take_succ_eq_append_getElem hjv,List.map_append,valsF_get,List.getD_eq_getElem?_getD,List.getElem?_eq_getElem hvs];rfl
  have hyl:(((valsF x v).take j).map ai).length≤1000000:=by rw[List.length_map,List.length_take];omega
  rw[hsu]
  generalize ((valsF x v).take j).map ai=ys at *
  rcases hA.inv with ⟨e1,rfl,rfl⟩|⟨b,cap,rfl,rfl⟩
  ·simp only[go_sem]
   refine Sd ?_
   refine AWp.of ?_;simp only[go_sem]
   refine AWp.block ?_
   repeat(first|(with_reducible refine AWp.seq ?_)|(with_reducible refine AWp.block ?_))
   refine AWp.mix mixed [1,2,3,4] (.step 0 (.step 5 (.step 6 (.step 7 .done .done) .done) .done) (.step 5 (.step 0 (.step 6 (.step 7 .done .done) .done) .done) .done)) (by kernel_rfl) ?_;simp only[go_sem,hgs]
   refine Sd ?_
   intro b' cap' hlt _
   have n5:¬b5=b':=by omega
   simp only[go_sem,n5]
   refine Sd ?_
   refine⟨_,List.Sublist.refl _,_,[(b',.row 3 1 [_] cap')],rfl,?_,?_⟩
   ·rw[e1];exact .row _ [_] _
   ·intro p hp;simp only[List.mem_singleton] at hp;subst hp;exact fun e=>n5 e.symm
  ·have n1:¬b=b5:=hne (b,_) List.mem_cons_self
   have n2:¬b5=b:=fun e=>n1 e.symm
   simp only[go_sem]
   refine Sd ?_
   refine AWp.of ?_;simp only[go_sem,n1,n2]
   refine AWp.block ?_
   repeat(first|(with_reducible refine AWp.seq ?_)|(with_reducible refine AWp.block ?_))
   refine AWp.mix mixed [1,2,3,4] (.step 0 (.step 5 (.step 6 (.step 7 .done .done) .done) .done) (.step 5 (.step 0 (.step 6 (.step 7 .done .done) .done) .done) .done)) (by kernel_rfl) ?_;simp only[go_sem,hgs,n1,n2]
   refine Sd ?_
   intro b' cap' n5 _
   simp only[go_sem,n5]
   refine Sd ?_
   refine⟨_,List.Sublist.refl _,_,[(b',.row 3 1 (ys ++ [_]) cap')],rfl,?_,?_⟩
   ·have:=AppSt.row (t:=3) (k:=1) b' (ys ++ [ai (stateAt x j)[v]]) cap'
    simpa using this
   ·intro p hp;simp only[List.mem_singleton] at hp;subst hp;exact fun e=>n5 e.symm
 ·rintro L' ⟨w,Lw,rfl,hA,hne⟩
  have hl:(stArgs x).length=x.evs.length+1:=by unfold stArgs;simp
  rw[hl,← hvl,List.take_length] at hA
  rcases hA.inv with ⟨e1,rfl,rfl⟩|⟨b,cap,rfl,rfl⟩
  ·exfalso
   have:=congrArg List.length e1
   rw[List.length_map,hvl] at this
   cases this
  ·have n1:¬b=b5:=hne (b,_) List.mem_cons_self
   have n2:¬b5=b:=fun e=>n1 e.symm
   simp only[go_sem]
   refine W2 n1 n2 ?_
   refine ret_view [true] ?_;simp only[go_sem]
   exact Vw.ofLs (if_pos rfl) (by simp)
 ·rintro e L' h
  exact h.elim
theorem variable_index1 (v:ByteArray × Int) (s:ByteArray):PC Proofs.Tryz.prog 331 [aVar v,.rp 1 [astr s] 0 0] (ab (nmB s v)):=by
 generalize hb:nmB s v=b
 refine PC.enter 8 [.tmp 3] [2] Proofs.Tryz.func331 rfl rfl rfl rfl rfl (by simp) (AWp.of ?_);simp only[go_sem]
 refine Wk ?_
 refine ret_eq ?_;simp only[go_sem]
 rw[← hb];rfl
theorem variable_index (x:Pr) (h1:x.vars.length≤1000000) (s:ByteArray):PC Proofs.Tryz.prog 320 [aPr x,astr s] (ai (varIx x.vars s)):=by
 have hfi:PC Proofs.Tryz.prog 262 [aVars x.vars,.clo 331 [.rp 1 [astr s] 0 0]] (ai (varIx x.vars s)) :=
  vars_indexFunc x.vars h1 (.clo 331 [.rp 1 [astr s] 0 0]) rfl (nmB s) fun v _=>(variable_index1 v s).clo
 generalize varIx x.vars s=r at *
 refine PC.enter 9 [.tmp 4] [2,3] Proofs.Tryz.func320 rfl rfl rfl rfl rfl (by simp) (AWp.of ?_);simp only[go_sem]
 refine Wk ?_
 refine Sd ?_
 refine(hfi).val.use ?_;simp only[go_sem]
 refine Wk ?_
 refine ret_eq ?_;simp only[go_sem]
theorem variable_find (ps:List Pr) (hs:Sm ps) (hv:validF ps=true) (p:Nat) (hp:p<ps.length) (s:ByteArray) (hk:¬varIx ps[p].vars s<0):PC Proofs.Tryz.prog 296 [aTr ps,ai p,astr s] (.tup [ai (varIx ps[p].vars s),ai 0]):=by
 have hval:=trace_Valid ps hs
 rw[hv] at hval
 have hm:=List.getElem_mem hp
 have hgp:=getD_map (f:=aPr) hp
 have hix:=variable_index ps[p] (hs.vars _ hm) s
 generalize varIx ps[p].vars s=r at *
 refine PC.enter 33 [.tmp 6,.tmp 7] [3] Proofs.Tryz.func296 rfl rfl rfl rfl rfl (by simp) (AWp.of ?_);simp only[go_sem]
 refine Wk ?_
 refine Sd ?_
 refine(hval).val.use ?_;simp only[go_sem]
 have h2:¬((p:Int)<0):=by omega
 have h3:¬((ps.length:Int)≤p):=by omega
 refine W3 h2 h3 hgp ?_
 refine Sd ?_
 refine(hix).val.use ?_;simp only[go_sem,hgp]
 refine W1 hk ?_
 refine ret_eq ?_;simp only[go_sem]
theorem variable_Range (ps:List Pr) (hs:Sm ps) (hv:validF ps=true) (p:Int) (hpb:isPB ps.length p=true) (s:ByteArray) (hkn:knownB ps p s=true) :
  PC Proofs.Tryz.prog 264 [aTr ps,ai p,astr s] (.tup [ai (varLo ps p s),ai (varHi ps p s),ai 0]):=by
 obtain⟨p,rfl,hp⟩:=isPB_nat hpb
 have hm:=List.getElem_mem hp
 have hgp:=getD_map (f:=aPr) hp
 have hk:ps[p].vars.any (nmB s)=true:=by unfold knownB at hkn;simpa only [Int.toNat_natCast,List.getElem?_eq_getElem hp] using hkn
 have hng:¬varIx ps[p].vars s<0:=fun h=>by rw[(varIx_neg _ _).1 h] at hk;cases hk
 have hfd:=variable_find ps hs hv p hp s hng
 have hlt:(varIx ps[p].vars s).toNat<ps[p].vars.length:=by
  unfold varIx at hng ⊢
  cases hf:ps[p].vars.findIdx? (nmB s) with
  | none=>rw[hf] at hng;exact absurd (by decide) hng
  | some i=>rw[List.findIdx?_eq_some_iff_getElem] at hf;obtain⟨hi,_⟩:=hf;exact hi
 have hvals:=variable_values ps[p] (hs.vars _ hm) (hs.evs _ hm) (hs.asg _ hm) (asg_of_valid hv p hp) _ hlt
 have hvl:=valsF_length ps[p] (varIx ps[p].vars s).toNat
 have hel:=hs.evs _ hm
 have hmn:=ints_minL (valsF ps[p] (varIx ps[p].vars s).toNat) (by omega) (by omega)
 have hmx:=ints_maxL (valsF ps[p] (varIx ps[p].vars s).toNat) (by omega) (by omega)
 have e1:varLo ps p s=minL (valsF ps[p] (varIx ps[p].vars s).toNat):=by unfold varLo;simp only[Int.toNat_natCast,List.getElem?_eq_getElem hp]
 have e2:varHi ps p s=maxL (valsF ps[p] (varIx ps[p].vars s).toNat):=by unfold varHi;simp only[Int.toNat_natCast,List.getElem?_eq_getElem hp]
 rw[e1,e2]
 have hix:((varIx ps[p].vars s).toNat:Int)=varIx ps[p].vars s:=by omega
 rw[hix] at hvals
 generalize minL (valsF ps[p] (varIx ps[p].vars s).toNat)=lo at *
 generalize maxL (valsF ps[p] (varIx ps[p].vars s).toNat)=hi at *
 generalize valsF ps[p] (varIx ps[p].vars s).toNat=vl at *
 generalize varIx ps[p].vars s=ix at *
 refine PC.enter 32 [.tmp 6,.tmp 7,.tmp 8] [3] Proofs.Tryz.func264 rfl rfl rfl rfl rfl (by simp) (AWp.of ?_);simp only[go_sem]
 refine Wk ?_
 refine Sd ?_
 refine(hfd).val.use ?_;simp only[go_sem]
 refine W1 hgp ?_
 refine Sd ?_
 refine(hvals).val.use ?_;simp only[go_sem,hgp]
 refine Wk ?_
 refine Sd ?_
 refine(hmn).val.use ?_;simp only[go_sem]
 refine Wk ?_
 refine Sd ?_
 refine(hmx).val.use ?_;simp only[go_sem]
 refine Wk ?_
 refine ret_eq ?_;simp only[go_sem]
theorem predtype_great (a b:Int):PC Proofs.Tryz.prog 202 [aIv a b] (ab (tooB a b)):=by
 generalize hb:tooB a b=r
 unfold aIv
 refine PC.enter 11 [.tmp 2] [1] Proofs.Tryz.func202 rfl rfl rfl rfl rfl (by simp) (AWp.of ?_);simp only[go_sem]
 refine Wk ?_
 refine ret_eq ?_;simp only[go_sem]
 rw[← hb];rfl
theorem res_leaf {ps:List Pr} {k n p q:Int} {s:ByteArray} {l:List Pd} (h:resB ps (.mk k n p q s l)=true):(k=2→isPB ps.length p=true∧knownB ps p s=true)∧(k=3→isPB ps.length p=true)∧(k=4→isPB ps.length p=true∧isPB ps.length q=true∧p ≠ q):=by
 simp only[resB] at h
 refine⟨fun e => ?_,fun e => ?_,fun e => ?_⟩
 ·rw[if_pos e] at h;simp only[Bool.and_eq_true] at h;exact⟨h.1.1,h.2⟩
 ·rw[if_neg (by omega),if_pos e] at h;simp only[Bool.and_eq_true] at h;exact h.1.1
 ·rw[if_neg (by omega),if_neg (by omega),if_pos e] at h;simp only[Bool.and_eq_true,Bool.not_eq_true',decide_eq_false_iff_not] at h;exact⟨h.1.1.1,h.1.1.2,h.1.2⟩
theorem predtype_leaf (ps:List Pr) (hs:Sm ps) (hv:validF ps=true) (k n p q:Int) (s:ByteArray) (hk:1≤k∧k≤4) (hr:resB ps (.mk k n p q s [])=true) :
  PC Proofs.Tryz.prog 201 [aTr ps,aPd (.mk k n p q s [])] (aIv (bdL ps k n p q s).1 (bdL ps k n p q s).2):=by
 obtain⟨r2,r3,r4⟩:=res_leaf hr
 have hsp:bdL ps k n p q s=if k=1 then (n,n) else if k=3 then (0,evN ps p) else if k=4 then (0,msgN ps p q) else (varLo ps p s,varHi ps p s):=rfl
 have hh:=predtype_hull [n] (by simp) (by simp)
 have hms:=fun h=>predtype_messages ps hs p h q
 have hrg:=fun h1 h2=>variable_Range ps hs hv p h1 s h2
 have e1:minL [n]=n:=rfl
 have e2:maxL [n]=n:=rfl
 rw[e1,e2] at hh
 simp only[aInts,List.map_cons,List.map_nil] at hh
 generalize bdL ps k n p q s=i at *
 unfold aIv at *
 have hk4:k=1∨k=3∨k=4∨k=2:=by omega
 rcases hk4 with h|h|h|h
 ·rw[if_pos h] at hsp
  refine PC.enter 49 [.cell 4 175] [2,3,14] Proofs.Tryz.func201 rfl rfl rfl rfl rfl (by simp) (AWp.of ?_);simp only[go_sem]
  refine Wk ?_
  intro b4
  repeat(first|((with_reducible refine AWp.ofC ?_ ?_);exact rfl;simp only[go_sem,(eq_true h)])|((with_reducible refine an ?_ ?_);exact Au))
  refine Sd ?_
  refine(hh).val.use ?_;simp only[go_sem]
  refine Wk ?_
  refine ret_eq ?_;simp only[go_sem]
  rw[hsp]
 ·have h1:¬k=1:=by omega
  rw[if_neg h1,if_pos h] at hsp
  obtain⟨p,rfl,hp⟩:=isPB_nat (r3 h)
  have hgp:=getD_map (f:=aPr) hp
  rw[evN_get hp] at hsp
  refine PC.enter 49 [.cell 4 175] [2,3,14] Proofs.Tryz.func201 rfl rfl rfl rfl rfl (by simp) (AWp.of ?_);simp only[go_sem]
  refine Wk ?_
  intro b4
  repeat(first|((with_reducible refine AWp.ofC ?_ ?_);exact rfl;simp only[go_sem,(eq_true h),h1,hgp])|((with_reducible refine an ?_ ?_);exact Au))
  refine ret_eq ?_;simp only[go_sem]
  rw[hsp]
 ·have h1:¬k=1:=by omega
  have h3:¬k=3:=by omega
  rw[if_neg h1,if_neg h3,if_pos h] at hsp
  have hms:=hms (r4 h).1
  refine PC.enter 49 [.cell 4 175] [2,3,14] Proofs.Tryz.func201 rfl rfl rfl rfl rfl (by simp) (AWp.of ?_);simp only[go_sem]
  refine Wk ?_
  intro b4
  repeat(first|((with_reducible refine AWp.ofC ?_ ?_);exact rfl;simp only[go_sem,(eq_true h),h1,h3])|((with_reducible refine an ?_ ?_);exact Au))
  refine Sd ?_
  refine(hms).val.use ?_;simp only[go_sem]
  refine Wk ?_
  refine ret_eq ?_;simp only[go_sem]
  rw[hsp]
 ·have h1:¬k=1:=by omega
  have h3:¬k=3:=by omega
  have h4:¬k=4:=by omega
  rw[if_neg h1,if_neg h3,if_neg h4] at hsp
  have hrg:=hrg (r2 h).1 (r2 h).2
  refine PC.enter 49 [.cell 4 175] [2,3,14] Proofs.Tryz.func201 rfl rfl rfl rfl rfl (by simp) (AWp.of ?_);simp only[go_sem]
  refine Wk ?_
  intro b4
  refine W3 h1 h3 h4 ?_
  refine Sd ?_
  refine(hrg).val.use ?_;simp only[go_sem]
  refine Wk ?_
  refine ret_eq ?_;simp only[go_sem]
  rw[hsp]
set_option maxHeartbeats 4000000 in
theorem predtype_bounds (ps:List Pr) (hs:Sm ps) (hv:validF ps=true) (t:Pd):szF t≤1000000→okT ps t=true→t.kind≤8→PC Proofs.Tryz.prog 131 [aTr ps,aPd t] (aBd (intF ps t)):=by
 induction t using Pd.ind with
 | _ k n p q s l ih =>
 intro hz ht hk
 obtain⟨o1,o2,o3,o4⟩:=okT_sub ht
 obtain⟨hpl,_⟩:=loc_len o1
 simp only[Pd.kind] at hk
 have hch:=child_le ht (show k≤12 by omega)
 have hsz:szF (.mk k n p q s l)=szL l+1:=by rw[szF]
 have hll:=szL_len l
 have hsp:=intF_mk ps k n p q s l
 generalize intF ps (.mk k n p q s l)=I at *
 rcases parts_cases k with ⟨e,hc⟩|⟨e,hc⟩|⟨e,hc⟩|e
 ·obtain rfl:=len0 (l:=l) (by omega)
  have hlf:=predtype_leaf ps hs hv k n p q s (by omega) o2
  simp only[List.map_nil,bdN,bdG] at hsp
  have hgr:=predtype_great (bdL ps k n p q s).1 (bdL ps k n p q s).2
  generalize bdL ps k n p q s=i at *
  obtain⟨lo,hi⟩:=i
  unfold aBd aIv at *
  simp only[aPd_mk,List.map_nil] at *
  generalize tooB lo hi=g at *
  refine PC.enter 116 [.cell 4 175,.tmp 5] [2,3,6,7,75] Proofs.Tryz.func131 rfl rfl rfl rfl rfl (by simp) (AWp.of ?_);simp only[go_sem]
  refine Wk ?_
  intro b4
  refine Wk ?_
  refine⟨fun h0 => ?_,fun h0 => ?_⟩
  ·refine Wk ?_
   refine Sd ?_
   refine(hlf).val.use ?_;simp only[go_sem]
   refine Wk ?_
   intro b6 _
   refine AWp.seq ?_
   repeat(first|(with_reducible refine AWp.seq ?_)|(with_reducible refine AWp.block ?_))
   refine AWp.mix mixed [0,1,2,3,5] (.step 4 .done .done) (by kernel_rfl) ?_;simp only[go_sem]
   refine Sd ?_
   refine Gc hgr ?_
   refine Sd ?_
   refine Wk ?_
   refine ret_eq ?_;simp only[go_sem]
   rw[hsp]
  ·exact absurd rfl h0
 ·obtain⟨a,rfl⟩:=len1 (l:=l) (by omega)
  obtain⟨c1,c2⟩:=hch a (by simp)
  have hza:=szL_mem (l:=[a]) (x:=a) (by simp)
  have hca:=ih a (by simp) (by omega) c1 c2
  have hok:=intF_ok ps a
  simp only[List.map_cons,List.map_nil,bdN] at hsp
  generalize intF ps a=A at *
  obtain⟨a1,a2,a3⟩:=A
  obtain⟨ka,na,pa,qa,sa,la⟩:=a
  have k5:k=5:=by omega
  simp only[bd2,if_pos k5,bdG] at hsp
  have hgr:=predtype_great (-a2) (-a1)
  generalize tooB (-a2) (-a1)=g at *
  unfold aBd aIv at *
  simp only[aPd_mk,List.map_cons,List.map_nil] at *
  refine PC.enter 116 [.cell 4 175,.tmp 5] [2,3,6,7,75] Proofs.Tryz.func131 rfl rfl rfl rfl rfl (by simp) (AWp.of ?_);simp only[go_sem]
  refine Wk ?_
  intro b4
  refine Wk ?_
  intro _
  refine AWp.seq ?_
  repeat(first|(with_reducible refine AWp.seq ?_)|(with_reducible refine AWp.block ?_))
  refine AWp.mix mixed [0,1,2,3,4,5,6,7,8,11] (.step 9 (.step 10 .done .done) .done) (by kernel_rfl) ?_;simp only[go_sem]
  refine Sd ?_
  refine Gc hca ?_
  refine Sd ?_
  intro b7 h47
  clear ih o4 hch
  refine Wk ?_
  intro b9 h49
  have n1:¬b4=b9:=by omega
  have n2:¬b9=b4:=by omega
  refine W2 n1 n2 ?_
  intro _
  refine W2 n1 n2 ?_
  refine⟨fun h1 => ?_,fun h1 => ?_⟩
  ·refine W2 n1 n2 ?_
   refine ret_eq ?_;simp only[go_sem]
   simp only[n1,n2,go_sem]
   rw[hsp,if_neg (by rw[h1];decide)]
  rw[if_pos h1] at hsp
  have hok:=hok h1
  refine W2 n1 n2 ?_
  intro b11 m1 m2
  have n3:¬b4=b11:=by omega
  have n4:¬b11=b4:=by omega
  have n5:¬b9=b11:=by omega
  have n6:¬b11=b9:=by omega
  repeat(first|((with_reducible refine AWp.ofC ?_ ?_);exact rfl;simp only[go_sem,(eq_true k5),n1,n2,n3,n4,n5,n6])|((with_reducible refine an ?_ ?_);exact Au))
  refine AWp.view [true] [(11,.rp 2 [.agg [ai (-a2),ai (-a1)]] 0 0)] (LVw.refl _) (fun p hp=>by simp only[List.mem_singleton] at hp;subst hp;exact Vw.ofLp (if_pos rfl)) ?_
  simp only[go_sem]
  refine AWp.seq ?_
  repeat(first|(with_reducible refine AWp.seq ?_)|(with_reducible refine AWp.block ?_))
  refine AWp.mix mixed [0,1,2,3,5] (.step 4 .done .done) (by kernel_rfl) ?_;simp only[go_sem,n1,n2]
  refine Sd ?_
  refine GCall.use (ab g) (fun _=>⟨At,(hgr).val.use ⟨rfl,rfl⟩⟩) ?_;simp only[go_sem,n1,n2]
  refine Sd ?_
  refine W2 n1 n2 ?_
  refine ret_eq ?_;simp only[go_sem]
  simp only[n1,n2,go_sem]
  rw[hsp]
 ·obtain⟨a,b,rfl⟩:=len2 (l:=l) (by omega)
  have k5:¬k=5:=by omega
  obtain⟨c1,c2⟩:=hch a (by simp)
  obtain⟨c3,c4⟩:=hch b (by simp)
  have hza:=szL_mem (l:=[a,b]) (x:=a) (by simp)
  have hzb:=szL_mem (l:=[a,b]) (x:=b) (by simp)
  have hca:=ih a (by simp) (by omega) c1 c2
  have hcc:=ih b (by simp) (by omega) c3 c4
  have hoka:=intF_ok ps a
  have hokb:=intF_ok ps b
  simp only[List.map_cons,List.map_nil,bdN] at hsp
  clear ih o4 hch
  generalize intF ps a=A at *
  generalize intF ps b=B at *
  obtain⟨a1,a2,a3⟩:=A
  obtain⟨e1,e2,e3⟩:=B
  obtain⟨ka,na,pa,qa,sa,la⟩:=a
  obtain⟨kb,nb,pb,qb,sb,lb⟩:=b
  unfold aBd aIv at *
  simp only[aPd_mk,List.map_cons,List.map_nil] at *
  refine PC.enter 116 [.cell 4 175,.tmp 5] [2,3,6,7,75] Proofs.Tryz.func131 rfl rfl rfl rfl rfl (by simp) (AWp.of ?_);simp only[go_sem]
  refine Wk ?_
  intro b4
  refine Wk ?_
  intro _
  refine AWp.seq ?_
  repeat(first|(with_reducible refine AWp.seq ?_)|(with_reducible refine AWp.block ?_))
  refine AWp.mix mixed [0,1,2,3,4,5,6,7,8,11] (.step 9 (.step 10 .done .done) .done) (by kernel_rfl) ?_;simp only[go_sem]
  refine Sd ?_
  refine Gc hca ?_
  refine Sd ?_
  intro b7 h47
  refine Wk ?_
  intro b9 h49
  have n1:¬b4=b9:=by omega
  have n2:¬b9=b4:=by omega
  refine W2 n1 n2 ?_
  refine⟨fun _ => ?_,fun h=>absurd rfl h⟩
  repeat(first|(with_reducible refine AWp.seq ?_)|(with_reducible refine AWp.block ?_))
  refine AWp.mix mixed [0,1,2,3,4,5,6,7,8,10] (.step 9 .done .done) (by kernel_rfl) ?_;simp only[go_sem,n1,n2]
  refine Sd ?_
  refine GCall.use (.tup [.agg [ai e1,ai e2],ab e3]) (fun _=>⟨At,(hcc).val.use ⟨rfl,rfl⟩⟩) ?_;simp only[go_sem,n1,n2]
  refine Sd ?_
  refine W2 n1 n2 ?_
  refine⟨fun h1 => ?_,fun h1 => ?_⟩
  ·refine W2 n1 n2 ?_
   refine ret_eq ?_;simp only[go_sem]
   simp only[n1,n2,go_sem]
   rw[hsp,if_neg (by rintro⟨x1,x2⟩;rw[x1,x2] at h1;simp at h1)]
  intro h2
  rw[if_pos ⟨h1,h2⟩] at hsp
  have hoka:=hoka h1
  have hokb:=hokb h2
  refine W2 n1 n2 ?_
  intro b11 m1 m2
  have n3:¬b4=b11:=by omega
  have n4:¬b11=b4:=by omega
  have n5:¬b9=b11:=by omega
  have n6:¬b11=b9:=by omega
  have fin:∀(lo hi:Int),bd2 k (a1,a2,a3) (e1,e2,e3)=(lo,hi)→I=(lo,hi,!tooB lo hi):=fun lo hi h=>by rw[hsp,h];rfl
  clear hsp
  by_cases k6:k=6
  ·have fin:=fin (a1+e1) (a2+e2) (by unfold bd2;rw[if_neg k5,if_pos k6])
   have hgr:=predtype_great (a1+e1) (a2+e2)
   generalize tooB (a1+e1) (a2+e2)=g at *
   unfold aIv at hgr
   repeat(first|((with_reducible refine AWp.ofC ?_ ?_);exact rfl;simp only[go_sem,(eq_true k6),k5,n1,n2,n3,n4,n5,n6])|((with_reducible refine an ?_ ?_);exact Au))
   refine AWp.view [true] [(11,.rp 2 [.agg [ai (a1+e1),ai (a2+e2)]] 0 0)] (LVw.refl _) (fun p hp=>by simp only[List.mem_singleton] at hp;subst hp;exact Vw.ofLp (if_pos rfl)) ?_
   simp only[go_sem]
   refine AWp.seq ?_
   repeat(first|(with_reducible refine AWp.seq ?_)|(with_reducible refine AWp.block ?_))
   refine AWp.mix mixed [0,1,2,3,5] (.step 4 .done .done) (by kernel_rfl) ?_;simp only[go_sem,n1,n2]
   refine Sd ?_
   refine GCall.use (ab g) (fun _=>⟨At,(hgr).val.use ⟨rfl,rfl⟩⟩) ?_;simp only[go_sem,n1,n2]
   refine Sd ?_
   refine W2 n1 n2 ?_
   refine ret_eq ?_;simp only[go_sem]
   simp only[n1,n2,go_sem]
   rw[fin]
  by_cases k7:k=7
  ·have fin:=fin (a1 - e2) (a2 - e1) (by unfold bd2;rw[if_neg k5,if_neg k6,if_pos k7])
   have hgr:=predtype_great (a1 - e2) (a2 - e1)
   generalize tooB (a1 - e2) (a2 - e1)=g at *
   unfold aIv at hgr
   repeat(first|((with_reducible refine AWp.ofC ?_ ?_);exact rfl;simp only[go_sem,(eq_true k7),k5,k6,n1,n2,n3,n4,n5,n6])|((with_reducible refine an ?_ ?_);exact Au))
   refine AWp.view [true] [(11,.rp 2 [.agg [ai (a1 - e2),ai (a2 - e1)]] 0 0)] (LVw.refl _) (fun p hp=>by simp only[List.mem_singleton] at hp;subst hp;exact Vw.ofLp (if_pos rfl)) ?_
   simp only[go_sem]
   refine AWp.seq ?_
   repeat(first|(with_reducible refine AWp.seq ?_)|(with_reducible refine AWp.block ?_))
   refine AWp.mix mixed [0,1,2,3,5] (.step 4 .done .done) (by kernel_rfl) ?_;simp only[go_sem,n1,n2]
   refine Sd ?_
   refine GCall.use (ab g) (fun _=>⟨At,(hgr).val.use ⟨rfl,rfl⟩⟩) ?_;simp only[go_sem,n1,n2]
   refine Sd ?_
   refine W2 n1 n2 ?_
   refine ret_eq ?_;simp only[go_sem]
   simp only[n1,n2,go_sem]
   rw[fin]
  have hp1:=predtype_product a1 e1 (by omega) (by omega)
  have hp2:=predtype_product a1 e2 (by omega) (by omega)
  have hp3:=predtype_product a2 e1 (by omega) (by omega)
  have hp4:=predtype_product a2 e2 (by omega) (by omega)
  have fin:=fin _ _ (by unfold bd2;rw[if_neg k5,if_neg k6,if_neg k7])
  dsimp only at fin
  generalize timesF a1 e1=t1 at *
  generalize timesF a1 e2=t2 at *
  generalize timesF a2 e1=t3 at *
  generalize timesF a2 e2=t4 at *
  have hh:=predtype_hull [t1,t2,t3,t4] (by simp) (by simp)
  generalize minL [t1,t2,t3,t4]=lo at *
  generalize maxL [t1,t2,t3,t4]=hi at *
  have hgr:=predtype_great lo hi
  generalize tooB lo hi=g at *
  simp only[aInts,List.map_cons,List.map_nil] at hh
  unfold aIv at hgr hh
  repeat(first|((with_reducible refine AWp.ofC ?_ ?_);exact rfl;simp only[go_sem,k5,k6,k7,n1,n2,n3,n4,n5,n6])|((with_reducible refine an ?_ ?_);exact Au))
  refine AWp.view [false,true] [(9,.rp 2 [.agg [ai e1,ai e2]] 0 0)] (LVw.refl _) (fun p hp=>by simp only[List.mem_singleton] at hp;subst hp;exact Vw.ofLp (if_pos rfl)) ?_
  simp only[go_sem]
  repeat(first|(with_reducible refine AWp.seq ?_)|(with_reducible refine AWp.block ?_))
  refine AWp.mix mixed [0,1,2,3,4,5,6,7,8,9,10,11,12,13,14,15,16,17,18,19] (.step 20 (.step 21 (.step 22 .done .done) .done) .done) (by kernel_rfl) ?_;simp only[go_sem,n3,n4]
  refine Sd ?_
  refine GCall.use (ai t1) (fun _=>⟨At,(hp1).val.use ⟨rfl,rfl⟩⟩) ?_;simp only[go_sem,n3,n4]
  refine Sd ?_
  refine GCall.use (ai t2) (fun _=>⟨At,(hp2).val.use ⟨rfl,rfl⟩⟩) ?_;simp only[go_sem,n3,n4]
  refine Sd ?_
  refine GCall.use (ai t3) (fun _=>⟨At,(hp3).val.use ⟨rfl,rfl⟩⟩) ?_;simp only[go_sem,n3,n4]
  refine Sd ?_
  refine GCall.use (ai t4) (fun _=>⟨At,(hp4).val.use ⟨rfl,rfl⟩⟩) ?_;simp only[go_sem,n3,n4]
  refine Sd ?_
  refine Sd ?_
  refine(hh).val.use ?_;simp only[go_sem,n3,n4]
  refine Sd ?_
  refine AWp.view [true] [(11,.rp 2 [.agg [ai lo,ai hi]] 0 0)] (LVw.refl _) (fun p hp=>by simp only[List.mem_singleton] at hp;subst hp;exact Vw.ofLp (if_pos rfl)) ?_
  simp only[go_sem]
  refine AWp.seq ?_
  repeat(first|(with_reducible refine AWp.seq ?_)|(with_reducible refine AWp.block ?_))
  refine AWp.mix mixed [0,1,2,3,5] (.step 4 .done .done) (by kernel_rfl) ?_;simp only[go_sem]
  refine Sd ?_
  refine Gc hgr ?_
  refine Sd ?_
  refine Wk ?_
  refine ret_eq ?_;simp only[go_sem]
  rw[fin]
 ·omega
theorem ref12_Find (ps:List Pr) (hs:Sm ps) (kind m:Int):PC Proofs.Tryz.prog 70 [aTr ps,ai kind,ai m] (aEid (findIn (evIds ps) kind m)):=by
 have hl:=hs.procs
 refine PC.enter 52 [.cell 6 29] [3,9] Proofs.Tryz.func70 rfl rfl rfl rfl rfl (by simp) (AWp.of ?_);simp only[go_sem]
 intro b6
 refine Wk ?_
 refine AWp.block (AWp.count 7 ps.length [] [1,2,3,6] (fun p vs L=>L=[(b6,.row 29 2 [aEid (0,0)] 1)]∧∀(j:Nat) (y:Eid × Ev),j<off ps p→(evIds ps)[j]?=some y→¬(y.2.kind=kind∧y.2.msg=m)) rfl rfl ⟨by simp [aEid],by simp [off]⟩ ?_)
 rintro p vs L hp - ⟨rfl,hI⟩
 simp only[go_sem]
 refine Wk ?_
 refine⟨fun h1 => ?_,fun h1 => ?_⟩
 ·have hpp:p<ps.length:=by omega
  have hel:=hs.evs _ (List.getElem_mem hpp)
  refine Wk ?_
  refine AWp.block (AWp.count 8 ps[p].evs.length [] [1,2,3,6,7] (fun i vs L=>L=[(b6,.row 29 2 [aEid (0,0)] 1)]∧∀(j:Nat) (y:Eid × Ev),j<off ps p+i→(evIds ps)[j]?=some y→¬(y.2.kind=kind∧y.2.msg=m)) rfl rfl ⟨rfl,hI⟩ ?_)
  rintro i vs L hi - ⟨rfl,hJ⟩
  simp only[go_sem]
  repeat(first|((with_reducible refine AWp.ofC ?_ ?_);exact rfl;simp only[go_sem,getD_map hpp])|((with_reducible refine an ?_ ?_);exact Au))
  refine⟨fun h2 => ?_,fun h2 => ?_⟩
  ·have hie:i<ps[p].evs.length:=by omega
   have hev:=evIds_get hpp hie
   refine Sd ?_
   refine AWp.of ?_;simp only[go_sem,getD_map hpp,getD_map hie]
   refine Sd ?_
   intro b9 _
   refine Wk ?_
   refine⟨fun h3 h4 => ?_,fun h3 => ?_⟩
   ·refine Wk ?_
    have hf:=findIn_hit hev hJ ⟨h3,h4⟩
    rw[hf]
    refine ret_eq ?_
    simp only[go_sem]
   ·refine Wk ?_
    refine⟨_,List.Sublist.refl _,rfl,fun j y hj hy => ?_⟩
    by_cases e:j=off ps p+i
    ·subst e;rw[hev] at hy;cases hy;exact fun h=>h3 h.1 h.2
    ·exact hJ j y (by omega) hy
  ·refine Wk ?_
   refine⟨_,List.Sublist.refl _,rfl,fun j y hj hy=>hJ j y ?_ hy⟩
   rw[off_succ hpp] at hj;omega
 ·refine Wk ?_
  have hf:findIn (evIds ps) kind m=(0,0):=findIn_none fun x hx=>by
   obtain⟨j,hj⟩:=List.getElem?_of_mem hx
   refine hI j x ?_ hj
   have h2:=(List.getElem?_eq_some_iff.1 hj).1
   rw[evIds_length] at h2
   have:p=ps.length:=by omega
   rw[this];exact h2
  rw[hf]
  refine ret_eq ?_
  simp only[go_sem]
theorem ref25_Value (ps:List Pr) (hs:Sm ps) (p:Nat) (hp:p<ps.length) (v:Nat) (hv:v<ps[p].vars.length) (k:Nat) (hk:k≤ps[p].evs.length) (ha:AsgOk ps[p]) (hd:AsgDis ps[p]) :
  PC Proofs.Tryz.prog 113 [aTr ps,ai p,ai v,ai k] (ai ((stateAt ps[p] k)[v]'(by rw[stateAt_length];exact hv))):=by
 have hm:=List.getElem_mem hp
 have hel:=hs.evs _ hm
 have hl:=hs.procs
 have hvl:=hs.vars _ hm
 have hgP:=getD_map (f:=aPr) hp
 have hgv:=getD_map (f:=aVar) hv
 have hst:∀j,v<(stateAt ps[p] j).length:=fun j=>by rw[stateAt_length];exact hv
 generalize hR:(stateAt ps[p] k)[v]'(hst k)=R at *
 refine PC.enter 56 [.tmp 8] [4] Proofs.Tryz.func113 rfl rfl rfl rfl rfl (by simp) (AWp.of ?_);simp only[go_sem]
 refine Wk ?_
 refine AWp.block (AWp.loopN [9] [1,2,4] (fun m vs L=>L=[]∧m≤k∧vs=[ai ((m:Int) - 1)]∧(stateAt ps[p] m)[v]'(hst m)=R) k ⟨rfl,by omega,rfl,hR⟩ ?_)
 rintro m vs L - ⟨rfl,hmk,rfl,hmR⟩
 simp only[go_sem]
 refine Wk ?_
 refine⟨fun h1 => ?_,fun h1 => ?_⟩
 ·obtain⟨i,rfl⟩:∃i,m=i+1:=⟨m - 1,by omega⟩
  have hi:i<ps[p].evs.length:=by omega
  have hie:(((i+1:Nat):Int) - 1).toNat=i:=by omega
  have hin:((i+1:Nat):Int) - 1=(i:Int):=by omega
  have hge:=getD_map (f:=aEv) hi
  have hal:=hs.asg _ hm _ (List.getElem_mem hi)
  have hao:∀a ∈ ps[p].evs[i].asg,0≤a.1:=fun a h=>(ha _ (List.getElem_mem hi) a h).1
  have hdi:=hd _ (List.getElem_mem hi)
  have hsu:=stateAt_succ ps[p] i hi
  have hmR':(assignL (stateAt ps[p] i) ps[p].evs[i].asg)[v]?=some R:=by rw[← hsu,List.getElem?_eq_getElem (hst _),hmR]
  have hhit:=assignL_hit (v:=v) ps[p].evs[i].asg (stateAt ps[p] i) (hst i) hao hdi
  have hnone:=assignL_none (v:=v) ps[p].evs[i].asg (stateAt ps[p] i)
  rw[hin]
  refine W2 hgP hge ?_
  refine AWp.block (AWp.count 11 ps[p].evs[i].asg.length [] [1,2,4,9,10] (fun j vs L=>L=[]∧∀b (hb:b<ps[p].evs[i].asg.length),b<j→ps[p].evs[i].asg[b].1 ≠ v) rfl rfl ⟨rfl,by omega⟩ ?_)
  rintro j vs L hj - ⟨rfl,hJ⟩
  simp only[go_sem]
  refine Wk ?_
  refine⟨fun h2 => ?_,fun h2 => ?_⟩
  ·have hjl:j<ps[p].evs[i].asg.length:=by omega
   have hga:=getD_map (f:=aAsg) hjl
   refine W1 hga ?_
   refine⟨fun h3 => ?_,fun h3 => ?_⟩
   ·refine W1 hga ?_
    refine ret_eq ?_;simp only[go_sem]
    have:=hhit j hjl h3
    rw[this] at hmR'
    cases hmR';rfl
   ·refine Wk ?_
    refine⟨_,List.Sublist.refl _,rfl,fun b hb hbj => ?_⟩
    by_cases e:b=j
    ·subst e;exact h3
    ·exact hJ b hb (by omega)
  ·refine Wk ?_
   have hno:=hnone fun a haa=>by
    obtain⟨b,hb,rfl⟩:=List.getElem_of_mem haa
    exact⟨hao _ haa,hJ b hb (by omega)⟩
   rw[hno] at hmR'
   rw[List.getElem?_eq_getElem (hst i)] at hmR'
   refine⟨_,List.Sublist.refl _,i,by omega,rfl,by omega,rfl,by simpa using hmR'⟩
 ·have e:m=0:=by omega
  subst e
  have h0:(stateAt ps[p] 0)[v]'(hst 0)=ps[p].vars[v].2:=by simp [stateAt]
  rw[h0] at hmR
  refine W2 hgP hgv ?_
  refine ret_eq ?_;simp only[go_sem]
  rw[← hmR]
def truN (k:Int) (v:List Int) (b:List Bool):Bool :=
 if k=9 then decide (v.getD 0 0=v.getD 1 0) else if k=10 then !decide (v.getD 0 0=v.getD 1 0) else if k=11 then decide (v.getD 0 0<v.getD 1 0) else if k=12 then decide (v.getD 0 0≤v.getD 1 0) else
 if k=13 then true else if k=14 then false else if k=15 then !b.getD 0 false else if k=16 then b.getD 0 false && b.getD 1 false else b.getD 0 false || b.getD 1 false
mutual
def truF (o:Obs):Pd→Bool
 | .mk k _ _ _ _ l=>truN k (valL o l) (truL o l)
def truL (o:Obs):List Pd→List Bool
 | []=>[]
 | x :: r=>truF o x :: truL o r
end
theorem truL_map (o:Obs):∀l,truL o l=l.map (truF o)
 | []=>by rw[truL];rfl
 | x :: r=>by rw[truL,truL_map o r];rfl
theorem truF_mk (o:Obs) (k n p q:Int) (s:ByteArray) (l:List Pd):truF o (.mk k n p q s l)=truN k (l.map (valF o)) (l.map (truF o)):=by rw[truF,truL_map,valL_map]
def agrB (o o':Obs):Pd→Prop
 | .mk k _ p q s _=>(k=2→o.var p s=o'.var p s)∧(k=3→o.cnt p=o'.cnt p)∧(k=4→o.chn p q=o'.chn p q)
theorem valF_congr {ps:List Pr} {o o':Obs} (t:Pd):okT ps t=true→t.kind≤8→AllP (agrB o o') t→valF o t=valF o' t:=by
 induction t using Pd.ind with
 | _ k n p q s l ih =>
 intro ht hk ha
 obtain⟨⟨a2,a3,a4⟩,hs⟩:=AllP_sub ha
 have hch:=child_le ht (show k≤12 by simp only[Pd.kind] at hk;omega)
 obtain⟨h1,_⟩:=okT_sub ht
 obtain⟨hpl,_⟩:=loc_len h1
 rw[valF_mk,valF_mk]
 have e:l.map (valF o)=l.map (valF o'):=List.map_congr_left fun x hx=>ih x hx (hch x hx).1 (hch x hx).2 (hs x hx)
 rw[e]
 cases l with
 | nil =>
  simp only[Pd.kind] at hk
  simp only[List.map_nil,valN]
  have:1≤k∧k≤4:=by rcases parts_cases k with ⟨_,hc⟩|⟨e,hc⟩|⟨e,hc⟩|e <;> simp at hpl <;> omega
  by_cases k1:k=1
  ·rw[if_pos k1,if_pos k1]
  by_cases k2:k=2
  ·rw[if_neg k1,if_pos k2,if_neg k1,if_pos k2,a2 k2]
  by_cases k3:k=3
  ·rw[if_neg k1,if_neg k2,if_pos k3,if_neg k1,if_neg k2,if_pos k3,a3 k3]
  ·rw[if_neg k1,if_neg k2,if_neg k3,if_neg k1,if_neg k2,if_neg k3,a4 (by omega)]
 | cons a r=>cases r <;> rfl
theorem child_bool {ps:List Pr} {k n p q:Int} {s:ByteArray} {l:List Pd} (h:okT ps (.mk k n p q s l)=true) (hk:13≤k):∀x ∈ l,okT ps x=true∧9≤x.kind:=by
 intro x hx
 obtain⟨h1,h2⟩:=(okT_sub h).2.2.2 x hx
 refine⟨h1,?_⟩
 unfold needF at h2
 rw[if_neg (by omega)] at h2
 unfold resF at h2
 split at h2 <;> omega
def tempB:Pd→Bool | .mk k _ _ _ _ _=>decide (18≤k∧k≤21)
def ntmB (x:Pd):Bool:=!tempB x
theorem truF_congr {ps:List Pr} {o o':Obs} (t:Pd):okT ps t=true→9≤t.kind→AllP (agrB o o') t→truF o t=truF o' t:=by
 induction t using Pd.ind with
 | _ k n p q s l ih =>
 intro ht hk ha
 obtain⟨_,hs⟩:=AllP_sub ha
 simp only[Pd.kind] at hk
 rw[truF_mk,truF_mk]
 by_cases h12:k≤12
 ·have hch:=child_le ht h12
  have e:l.map (valF o)=l.map (valF o'):=List.map_congr_left fun x hx=>valF_congr x (hch x hx).1 (hch x hx).2 (hs x hx)
  rw[e]
  unfold truN
  by_cases k1:k=9
  ·rw[if_pos k1,if_pos k1]
  by_cases k2:k=10
  ·rw[if_neg k1,if_pos k2,if_neg k1,if_pos k2]
  by_cases k3:k=11
  ·rw[if_neg k1,if_neg k2,if_pos k3,if_neg k1,if_neg k2,if_pos k3]
  ·have k4:k=12:=by omega
   rw[if_neg k1,if_neg k2,if_neg k3,if_pos k4,if_neg k1,if_neg k2,if_neg k3,if_pos k4]
 ·have hch:=child_bool ht (by omega)
  have e:l.map (truF o)=l.map (truF o'):=List.map_congr_left fun x hx=>ih x hx (hch x hx).1 (hch x hx).2 (hs x hx)
  rw[e]
  unfold truN
  rw[if_neg (show ¬k=9 by omega),if_neg (show ¬k=10 by omega),if_neg (show ¬k=11 by omega),if_neg (show ¬k=12 by omega),if_neg (show ¬k=9 by omega),if_neg (show ¬k=10 by omega),if_neg (show ¬k=11 by omega),if_neg (show ¬k=12 by omega)]
noncomputable def checkF (ps:List Pr) (t:Pd):Int:=if (validF ps && formedB t)=false then 1 else if allB (resB ps) t=false then 13 else if typedB t=false then 14 else if fitB ps t=false then 9 else 0
theorem checkF_zero {ps:List Pr} {t:Pd} (h:checkF ps t=0):validF ps=true∧formedB t=true∧okT ps t=true∧fitB ps t=true:=by
 unfold checkF at h
 split at h
 ·cases h
 ·rename_i h1
  split at h
  ·cases h
  ·rename_i h2
   split at h
   ·cases h
   ·rename_i h3
    split at h
    ·cases h
    ·rename_i h4
     have h1:(validF ps && formedB t)=true:=by simpa using h1
     rw[Bool.and_eq_true] at h1
     refine⟨h1.1,h1.2,?_,by simpa using h4⟩
     unfold okT
     have h5:=h1.2
     unfold formedB at h5
     simp only[Bool.and_eq_true] at h5 ⊢
     exact⟨⟨h5.2,by simpa using h2⟩,by unfold typedB at h3;simpa using h3⟩
def lclB (pr:Int):Pd→Bool
 | .mk k _ p _ _ _=>if k=4∨(18≤k∧k≤21) then false else if k=2∨k=3 then decide (p=pr) else true
noncomputable def lclF (ps:List Pr) (pr k:Int) (t:Pd):Int :=
 if checkF ps t ≠ 0 then checkF ps t else if ¬(0≤pr∧pr<ps.length∧0≤k∧k≤evN ps pr) then 2 else if t.kind≤8 then 14 else if allB (lclB pr) t=false then 15 else 0
def cutO (ps:List Pr) (c:List Int) (ch:Int→Int→Int):Obs:=⟨fun p s=>match ps[p.toNat]? with|some x=>(stateAt x (c.getD p.toNat 0).toNat).getD (varIx x.vars s).toNat 0|none=>0,fun p=>c.getD p.toNat 0,ch⟩
def stC (n p:Nat) (k:Int):List Int:=(List.replicate n 0).set p k
end Go.AL
end
section
namespace Go.AL
open Go Go.RowKit
end Go.AL
end
section
namespace Go.AL
open Go Go.RowKit
set_option maxRecDepth 4000
structure Psr (ps:List Pr) (x:Eid) (seen q:List Eid):Prop where
 sv:∀y ∈ seen,VEv ps y∧Reach ps y x
 qv:∀y ∈ q,VEv ps y∧Reach ps y x
 nodup:seen.Nodup
 c1:∀z,VEv ps z→Nx ps z x→z ∈ seen∨z ∈ q
 c2:∀y ∈ seen,∀z,VEv ps z→Nx ps z y→z ∈ seen∨z ∈ q
 size:q.length≤2 * (seen.length+1)
theorem dirL_length (ps:List Pr) (p i:Nat):(dirL ps p i).length≤2:=by
 unfold dirL
 rw[List.length_append]
 have h1:(if 0<i then [((p:Int),(i:Int))] else []).length≤1:=by split <;> simp
 have h2:(if (evq ps p i).kind=3 then [sndr ps (evq ps p i).msg] else []).length≤1:=by split <;> simp
 omega
theorem Psr.start {ps:List Pr} (hm:msgF ps=none) {p:Nat} (hp:p<ps.length) {i:Nat} (hi:i<ps[p].evs.length):Psr ps ((p:Int),(i:Int)+1) [] (dirL ps p i) :=
 ⟨fun y h=>(by cases h),fun y h=>let ⟨a,b⟩:=(dirL_iff hm hp hi y).1 h;⟨a,.single b⟩,.nil,fun z h1 h2 => .inr ((dirL_iff hm hp hi z).2 ⟨h1,h2⟩),fun y h=>(by cases h),(by have:=dirL_length ps p i;simp only[List.length_nil];omega)⟩
theorem Psr.skip {ps:List Pr} {x y:Eid} {seen q:List Eid} (h:Psr ps x seen (y :: q)) (hy:y ∈ seen):Psr ps x seen q:=by
 have hc:∀z,z ∈ seen∨z ∈ y :: q→z ∈ seen∨z ∈ q:=fun z hz=>by
  rcases hz with hz|hz
  ·exact .inl hz
  ·rcases List.mem_cons.1 hz with rfl|hz
   ·exact .inl hy
   ·exact .inr hz
 exact⟨h.sv,fun z hz=>h.qv z (List.mem_cons_of_mem _ hz),h.nodup,fun z h1 h2=>hc z (h.c1 z h1 h2),fun w hw z h1 h2=>hc z (h.c2 w hw z h1 h2),by have:=h.size;simp at this;omega⟩
theorem Reach.head {ps:List Pr} {a b y:Eid} (hr:Reach ps b y) (hn:Nx ps a b):Reach ps a y:=by
 induction hr with
 | single h=>exact .tail (.single hn) h
 | tail _ h ih=>exact .tail ih h
theorem Psr.mark {ps:List Pr} (hm:msgF ps=none) {x:Eid} {seen q:List Eid} {p:Nat} (hp:p<ps.length) {i:Nat} (hi:i<ps[p].evs.length) (h:Psr ps x seen (((p:Int),(i:Int)+1) :: q)) (hy:((p:Int),(i:Int)+1) ∉ seen) :
  Psr ps x (((p:Int),(i:Int)+1) :: seen) (q ++ dirL ps p i):=by
 have hyx:=h.qv _ List.mem_cons_self
 have hc:∀z,z ∈ seen∨z ∈ ((p:Int),(i:Int)+1) :: q→z ∈ ((p:Int),(i:Int)+1) :: seen∨z ∈ q ++ dirL ps p i:=fun z hz=>by
  rcases hz with hz|hz
  ·exact .inl (List.mem_cons_of_mem _ hz)
  ·rcases List.mem_cons.1 hz with rfl|hz
   ·exact .inl List.mem_cons_self
   ·exact .inr (List.mem_append_left _ hz)
 refine⟨fun z hz => ?_,fun z hz => ?_,List.nodup_cons.2 ⟨hy,h.nodup⟩,fun z h1 h2=>hc z (h.c1 z h1 h2),fun w hw z h1 h2 => ?_,?_⟩
 ·rcases List.mem_cons.1 hz with rfl|hz
  ·exact hyx
  ·exact h.sv z hz
 ·rcases List.mem_append.1 hz with hz|hz
  ·exact h.qv z (List.mem_cons_of_mem _ hz)
  ·obtain⟨a,b⟩:=(dirL_iff hm hp hi z).1 hz
   exact⟨a,hyx.2.head b⟩
 ·rcases List.mem_cons.1 hw with rfl|hw
  ·exact .inr (List.mem_append_right _ ((dirL_iff hm hp hi z).2 ⟨h1,h2⟩))
  ·exact hc z (h.c2 w hw z h1 h2)
 ·have h1:=h.size
  have h2:=dirL_length ps p i
  simp only[List.length_cons,List.length_append] at h1 ⊢
  omega
theorem Psr.done {ps:List Pr} {x:Eid} {seen:List Eid} (h:Psr ps x seen []) {z:Eid} (hz:VEv ps z):z ∈ seen↔Reach ps z x:=by
 refine⟨fun hs=>(h.sv z hs).2,fun hr => ?_⟩
 have key:∀c,Reach ps z c→(c=x∨c ∈ seen)→z ∈ seen:=fun c hc=>by
  induction hc with
  | single hn =>
   rintro(rfl|hc)
   ·exact(h.c1 z hz hn).resolve_right (by simp)
   ·exact(h.c2 _ hc z hz hn).resolve_right (by simp)
  | @tail b c hb hn ih =>
   have hbv:VEv ps b:=Reach.valid hb hz
   rintro(rfl|hc)
   ·exact ih (.inr ((h.c1 b hbv hn).resolve_right (by simp)))
   ·exact ih (.inr ((h.c2 _ hc b hbv hn).resolve_right (by simp)))
 exact key x hr (.inl rfl)
theorem Psr.small {ps:List Pr} {x:Eid} {seen q:List Eid} (h:Psr ps x seen q):seen.length≤(evIds ps).length:=by
 have:=List.Nodup.length_le_of_subset h.nodup (l₂:=(evIds ps).map (·.1)) (fun y hy=>(h.sv y hy).1.mem)
 simpa using this
open Classical in
noncomputable def pastA (ps:List Pr) (x:Eid):AV:=.sl 1 ((List.range ps.length).map fun (p:Nat) => .sl 1 ((List.range (nev ps p+1)).map fun (k:Nat)=>ab (decide (VEv ps ((p:Int),(k:Int))∧Reach ps ((p:Int),(k:Int)) x))))
end Go.AL
end
section
namespace Go.AL
open Go Go.RowKit
set_option maxRecDepth 4000
def RSt (n bo cap:Nat) (Y:Nat→List AV) (L:AHeap):Prop :=
 ∃(V:Nat→AV) (Ls:Nat→AHeap),L.Perm ((bo,.row 126 1 ((List.range n).map V) cap) :: famL n Ls)∧∀p,p<n→AppSt 4 1 (Y p) (V p) (Ls p)
theorem RSt.perm {n bo cap:Nat} {Y:Nat→List AV} {L L':AHeap} (hp:L'.Perm L) (h:RSt n bo cap Y L):RSt n bo cap Y L' :=
 let ⟨V,Ls,h1,h2⟩:=h
 ⟨V,Ls,hp.trans h1,h2⟩
theorem RSt.open {n bo cap:Nat} {Y:Nat→List AV} {L:AHeap} (h:RSt n bo cap Y L) {p:Nat} (hp:p<n) (hY:0<(Y p).length) :
  ∃(V:Nat→AV) (b cp:Nat) (X:AHeap),L.Perm ((bo,.row 126 1 ((List.range n).map V) cap) :: (b,.row 4 1 (Y p) cp) :: X)∧V p = .ls b 1 0 (Y p).length cp ∧
   ∀(Y':Nat→List AV) (L':AHeap),(∀q,q ≠ p→Y' q=Y q)→(Y' p).length=(Y p).length→L'.Perm ((bo,.row 126 1 ((List.range n).map V) cap) :: (b,.row 4 1 (Y' p) cp) :: X)→RSt n bo cap Y' L':=by
 obtain⟨V,Ls,h1,h2⟩:=h
 rcases (h2 p hp).inv with ⟨e,_,_⟩|⟨b,cp,e1,e2⟩
 ·rw[e] at hY;simp at hY
 ·have hsp:=fam_split hp Ls
  rw[e2] at hsp
  refine⟨V,b,cp,famR n p Ls,h1.trans (hsp.cons _),e1,fun Y' L' hq hl hL => ?_⟩
  refine⟨V,fun q=>if q=p then [(b,.row 4 1 (Y' p) cp)] else Ls q,?_,fun q hqn => ?_⟩
  ·refine hL.trans (List.Perm.cons _ ?_)
   have hsp:=fam_split hp (fun q=>if q=p then [(b,ABlk.row 4 1 (Y' p) cp)] else Ls q)
   rw[if_pos rfl,famR_congr (Ls:=Ls) (fun q hq=>if_neg hq)] at hsp
   exact hsp.symm
  ·by_cases e:q=p
   ·subst e;dsimp only;rw[if_pos rfl,e1,← hl];exact .row _ _ _
   ·dsimp only;rw[if_neg e,hq q e];exact h2 q hqn
def QSt (q:List Eid) (v:AV) (L:AHeap):Prop :=
 (q=[]∧v=anil∧L=[])∨∃b off cap capb xs,v = .ls b 2 off q.length cap∧L=[(b,.row 29 2 xs capb)]∧(xs.drop off).take q.length=q.map aEid∧off+q.length≤xs.length∧q.length≤cap∧off+cap=capb
theorem QSt.of {q:List Eid} {v:AV} {L:AHeap} (h:AppSt 29 2 (q.map aEid) v L) (hc:∀b cap,L=[(b,.row 29 2 (q.map aEid) cap)]→q.length≤cap):QSt q v L:=by
 rcases h.inv with ⟨e1,e2,e3⟩|⟨b,cap,e1,e2⟩
 ·exact .inl ⟨by simpa using e1,e2,e3⟩
 ·refine .inr ⟨b,0,cap,cap,q.map aEid,by rw[e1,List.length_map],e2,?_,by simp,hc b cap e2,by omega⟩
  rw[List.drop_zero,List.take_of_length_le (by simp)]
def Ahead (ps:List Pr) (f:Nat→Nat→Prop) (p i:Nat):Prop:=(∀q (hq:q<ps.length) j,q<p→j<ps[q].evs.length→f q j)∧∀j,j<i→f p j
theorem Ahead.next {ps:List Pr} {f:Nat→Nat→Prop} {p i:Nat} (h:Ahead ps f p i) (hf:f p i):Ahead ps f p (i+1) :=
 ⟨h.1,fun j hj=>by
  by_cases e:j=i
  ·rw[e];exact hf
  ·exact h.2 j (by omega)⟩
theorem Ahead.row {ps:List Pr} {f:Nat→Nat→Prop} {p:Nat} (hp:p<ps.length) (h:Ahead ps f p ps[p].evs.length):Ahead ps f (p+1) 0 :=
 ⟨fun q hq j hqp hj=>by
  by_cases e:q=p
  ·subst e;exact h.2 j hj
  ·exact h.1 q hq j (by omega) hj,fun j hj=>by omega⟩
open Classical in
noncomputable def pastR (ps:List Pr) (x:Eid) (p:Nat):List AV:=(List.range (nev ps p+1)).map fun (k:Nat)=>ab (decide (VEv ps ((p:Int),(k:Int))∧Reach ps ((p:Int),(k:Int)) x))
end Go.AL
end
section
namespace Go.AL
open Go Go.RowKit
set_option maxRecDepth 4000
theorem predtype_small (ps:List Pr) (hs:Sm ps) (hv:validF ps=true) (t:Pd):szF t≤1000000→okT ps t=true→PC Proofs.Tryz.prog 86 [aTr ps,aPd t] (ab (fitB ps t)):=by
 induction t using Pd.ind with
 | _ k n p q s l ih =>
 intro hz ht
 have hsz:szF (.mk k n p q s l)=szL l+1:=by rw[szF]
 have hll:=szL_len l
 have hsp:=fitB_mk ps k n p q s l
 have hr:=predtype_result k
 have hbd:=fun h=>predtype_bounds ps hs hv (.mk k n p q s l) hz ht h
 have h1:∀x ∈ l,PV Proofs.Tryz.prog (.clo 132 [.rp 1 [aTr ps] 0 0]) [aPd x] (ab (!fitB ps x)):=by
  intro x hx
  have hxi:=szL_mem hx
  have hch:=ih x hx (by omega) ((okT_sub ht).2.2.2 x hx).1
  generalize fitB ps x=b at *
  obtain⟨k2,n2,p2,q2,s2,l2⟩:=x
  refine PC.clo ?_
  simp only[aPd_mk] at *
  refine PC.enter 8 [.tmp 3] [2] Proofs.Tryz.func132 rfl rfl rfl rfl rfl (by simp) (AWp.of ?_);simp only[go_sem]
  refine Wk ?_
  refine Sd ?_
  refine(hch).val.use ?_;simp only[go_sem]
  refine Wk ?_
  refine ret_eq ?_;simp only[go_sem]
 have hc:=preds_containsFunc l (by omega) _ rfl (fun x => !fitB ps x) h1
 have hall:l.all (fitB ps) = !l.any fun x => !fitB ps x:=by rw[List.all_eq_not_any_not]
 rw[hall] at hsp
 generalize (l.any fun x => !fitB ps x)=c at *
 generalize fitB ps (.mk k n p q s l)=F at *
 simp only[Pd.kind] at hbd
 have hrk:resF k=1↔k≤8:=by unfold resF;split <;> omega
 generalize resF k=r at *
 generalize intF ps (.mk k n p q s l)=I at *
 unfold aBd aIv at hbd
 simp only[aPd_mk] at *
 refine PC.enter 23 [.tmp 4] [2,3,5] Proofs.Tryz.func86 rfl rfl rfl rfl rfl (by simp) (AWp.of ?_);simp only[go_sem]
 refine Wk ?_
 refine Sd ?_
 refine(hr).val.use ?_;simp only[go_sem]
 refine Wk ?_
 refine⟨fun h2 => ?_,fun h2 => ?_⟩
 ·have hk:=hrk.1 h2
  rw[if_pos hk] at hsp
  have hbd:=hbd hk
  refine Wk ?_
  refine Sd ?_
  refine(hbd).val.use ?_;simp only[go_sem]
  refine Wk ?_
  intro b5
  refine Wk ?_
  refine ret_eq ?_;simp only[go_sem]
  rw[hsp]
 ·rw[if_neg (fun h=>h2 (hrk.2 h))] at hsp
  refine Wk ?_
  refine Sd ?_
  refine(hc).val.use ?_;simp only[go_sem]
  refine Wk ?_
  refine ret_eq ?_;simp only[go_sem]
  rw[hsp]
theorem predtype_Check (ps:List Pr) (hs:Sm ps) (t:Pd) (hz:szF t≤1000000):PC Proofs.Tryz.prog 48 [aTr ps,aPd t] (ai (checkF ps t)):=by
 have h1:=trace_Valid ps hs
 have h2:=predtype_formed t hz
 have h3:=predtype_resolved ps hs t hz
 have h4:=predtype_typed t hz
 have h5:=fun h1 h2=>predtype_small ps hs h1 t hz h2
 have hsp:checkF ps t=if (validF ps && formedB t)=false then 1 else if allB (resB ps) t=false then 13 else if typedB t=false then 14 else if fitB ps t=false then 9 else 0:=rfl
 have hok:formedB t=true→allB (resB ps) t=true→typedB t=true→okT ps t=true:=fun a b c=>by
  unfold okT;unfold formedB at a;unfold typedB at c
  simp only[Bool.and_eq_true] at a ⊢
  exact⟨⟨a.2,b⟩,c⟩
 generalize checkF ps t=r at *
 generalize okT ps t=O at *
 generalize validF ps=V at *
 generalize formedB t=F at *
 generalize allB (resB ps) t=R at *
 generalize typedB t=T at *
 generalize fitB ps t=S at *
 obtain⟨k,n,p,q,s,l⟩:=t
 simp only[aPd_mk] at *
 refine PC.enter 28 [.tmp 4] [2,3] Proofs.Tryz.func48 rfl rfl rfl rfl rfl (by simp) (AWp.of ?_);simp only[go_sem]
 refine Wk ?_
 refine Sd ?_
 refine(h1).val.use ?_;simp only[go_sem]
 refine Sd ?_
 refine Gc h2 ?_
 refine Sd ?_
 refine Wk ?_
 refine⟨fun h6 => ?_,fun h6 => ?_⟩
 ·refine Wk ?_
  refine ret_eq ?_;simp only[go_sem]
  rw[hsp,if_pos (by cases V <;> simp_all)]
 intro h7
 rw[if_neg (by rw[h6,h7];decide)] at hsp
 refine Wk ?_
 refine Sd ?_
 refine(h3).val.use ?_;simp only[go_sem]
 refine Wk ?_
 refine⟨fun h8 => ?_,fun h8 => ?_⟩
 ·refine Wk ?_
  refine ret_eq ?_;simp only[go_sem]
  rw[hsp,if_pos h8]
 rw[if_neg (by rw[h8];decide)] at hsp
 refine Wk ?_
 refine Sd ?_
 refine(h4).val.use ?_;simp only[go_sem]
 refine Wk ?_
 refine⟨fun h9 => ?_,fun h9 => ?_⟩
 ·refine Wk ?_
  refine ret_eq ?_;simp only[go_sem]
  rw[hsp,if_pos h9]
 rw[if_neg (by rw[h9];decide)] at hsp
 have h5:=h5 h6 (hok h7 h8 h9)
 refine Wk ?_
 refine Sd ?_
 refine(h5).val.use ?_;simp only[go_sem]
 refine Wk ?_
 refine⟨fun h10 => ?_,fun h10 => ?_⟩
 ·refine Wk ?_
  refine ret_eq ?_;simp only[go_sem]
  rw[hsp,if_pos h10]
 rw[if_neg (by rw[h10];decide)] at hsp
 refine Wk ?_
 refine ret_eq ?_;simp only[go_sem]
 rw[hsp]
end Go.AL
end
