/- Texts of this claim's proof: WI8, WI9, WI10, WI11, WI12, WI13. No condition. -/
import Derived.Test.YtpcmoecaaphjmaaGreatDoorM15
import Derived.Shelf.SlMaps.Clone
import Derived.Test.YtpcmoecaaphjmaaGreatDoorM10
import Derived.Test.YtpcmoecaaphjmaaGreatDoorM13
import Derived.Test.YtpcmoecaaphjmaaGreatDoorM14
import Derived.Test.YtpcmoecaaphjmaaGreatDoorM8
section
namespace Go.AL
open Go Go.RowKit Go.Shelf Go.Proofs
set_option maxRecDepth 4000
def cloneRen:Go.Shelf.Ren:=⟨fun|5=>300|7=>321|n=>n,fun|4=>4|20=>20|23=>247|25=>253|3=>3|n=>n,fun|n=>n⟩
theorem cloneLay:Go.Proofs.SlLaysW.n5 Proofs.Tryz.prog cloneRen where
 mixed:=by kernel_rfl
 f5:=⟨"maps.Clone[map[antecede/classify.atom]int,antecede/classify.atom,int]",by decide,Proofs.Tryz.func300.trans (congrArg some (by kernel_rfl))⟩
 f7:=Proofs.Tryz.func321.trans (congrArg some (by kernel_rfl))
 t4:=Proofs.Tryz.underlying4
 a4:=Proofs.Tryz.isAgg4
 z4:=Proofs.Tryz.sizeOf4
 v4:=Proofs.Tryz.zeroValue4
 t20:=Proofs.Tryz.underlying20
 a20:=Proofs.Tryz.isAgg20
 z20:=Proofs.Tryz.sizeOf20
 v20:=Proofs.Tryz.zeroValue20
 t23:=Proofs.Tryz.underlying247
 a23:=Proofs.Tryz.isAgg247
 z23:=Proofs.Tryz.sizeOf247
 v23:=Proofs.Tryz.zeroValue247
theorem maps_Clone (ks:List Value) (vs:List AV):MCalls Proofs.Tryz.prog 300 [.rm ks vs] [] fun r L=>∃b,r = .lm b∧L=[(b,.amap ks vs)]:=by
 refine⟨cloneLay.f5.enters rfl,fun n w A us hL hr=>callsIn_wide.2 ?_⟩
 obtain⟨u,us',rfl,h1,h2⟩:=hr.inv_cons
 obtain rfl:=h2.inv_nil
 cases h1 with
 | rm _ _ bm es clock hA hw hk hv hbn hh =>
 refine(AnyW.maps_Clone cloneLay bm es clock w hw).mono ?_
 rintro e w' ⟨rfl,rfl⟩
 have keep:∀b,A b→(w.alloc (.map es clock)).heap[b]?=w.heap[b]?:=fun b hb=>Below.heap_alloc w _ b (hL.abnd b hb)
 have hB:BlkRel (w.alloc (.map es clock)) A w.heap.size (.amap ks vs):=⟨es,clock,World.alloc_heap_new w _,hk,hv,hbn.1,hbn.2,fun i x e hx he=>(hh i x e hx he).later keep fun _ h=>h⟩
 refine⟨_,.lm w.heap.size,[(w.heap.size,.amap ks vs)],A,rfl,⟨_,rfl,rfl⟩,Fr.alloc w _ _,fun b hb => .inl hb,hL.alloc hB,fun x hx => ?_,.lm _⟩
 obtain rfl:=List.mem_singleton.1 hx
 exact .inr (Nat.le_refl _)
def NumB (n:Int):Prop:=-1125899906842624≤n∧n≤1125899906842624
instance (n:Int):Decidable (NumB n):=inferInstanceAs (Decidable (_∧_))
theorem number_is (n:Int):PC Proofs.Tryz.prog 322 [ai n] (ab (decide (NumB n))):=by
 generalize hb:decide (NumB n)=b
 refine PC.enter 9 [.tmp 2] [] Proofs.Tryz.func322 rfl rfl rfl rfl rfl (by simp) (AWp.of ?_);simp only[go_sem]
 refine Wk ?_
 refine ret_eq ?_;simp only[go_sem]
 rw[← hb]
 congr 2
 rw[Bool.eq_iff_iff]
 simp [NumB]
 exact decide_eq_true_iff.symm
theorem number_limited (n:Int):PC Proofs.Tryz.prog 324 [ai n] (.tup [ai (if NumB n then n else 0),ai (if NumB n then 0 else 9)]):=by
 have h:=number_is n
 by_cases hb:NumB n
 ·rw[decide_eq_true hb] at h
  rw[if_pos hb,if_pos hb]
  refine PC.enter 8 [.tmp 2,.tmp 3] [] Proofs.Tryz.func324 rfl rfl rfl rfl rfl (by simp) (AWp.of ?_);simp only[go_sem]
  refine Wk ?_
  refine Sd ?_
  refine(h).val.use ?_;simp only[go_sem]
  refine Wk ?_
  refine ret_eq ?_;simp only[go_sem]
 ·rw[decide_eq_false hb] at h
  rw[if_neg hb,if_neg hb]
  refine PC.enter 8 [.tmp 2,.tmp 3] [] Proofs.Tryz.func324 rfl rfl rfl rfl rfl (by simp) (AWp.of ?_);simp only[go_sem]
  refine Wk ?_
  refine Sd ?_
  refine(h).val.use ?_;simp only[go_sem]
  refine Wk ?_
  refine ret_eq ?_;simp only[go_sem]
theorem number_Add (x y:Int) (hx:NumB x) (hy:NumB y):PC Proofs.Tryz.prog 303 [ai x,ai y] (.tup [ai (if NumB (x+y) then x+y else 0),ai (if NumB (x+y) then 0 else 9)]):=by
 have h1:=number_is x
 have h2:=number_is y
 have h3:=number_limited (x+y)
 rw[decide_eq_true hx] at h1
 rw[decide_eq_true hy] at h2
 generalize (if NumB (x+y) then x+y else 0)=A at *
 generalize (if NumB (x+y) then (0:Int) else 9)=B at *
 unfold NumB at hx hy
 refine PC.enter 20 [.tmp 4,.tmp 5] [] Proofs.Tryz.func303 rfl rfl rfl rfl rfl (by simp) (AWp.of ?_);simp only[go_sem]
 refine Wk ?_
 refine Sd ?_
 refine(h1).val.use ?_;simp only[go_sem]
 refine Sd ?_
 refine Gc h2 ?_
 refine Sd ?_
 refine Wk ?_
 refine Sd ?_
 refine(h3).val.use ?_;simp only[go_sem]
 refine Wk ?_
 refine ret_eq ?_;simp only[go_sem]
theorem number_abs (a:Int) (ha : -1125899906842625≤a∧a≤1125899906842625):PC Proofs.Tryz.prog 323 [ai a] (ai (absF a)):=by
 have hA:absF a=if a < -a then -a else a:=rfl
 rw[hA]
 refine PC.enter 7 [.tmp 2] [] Proofs.Tryz.func323 rfl rfl rfl rfl rfl (by simp) (AWp.of ?_);simp only[go_sem]
 refine Wk ?_
 refine ret_eq ?_;simp only[go_sem]
def mulF (a b:Int):Int × Int:=if a=0∨b=0 then (0,0) else if 1125899906842624 / absF b<absF a then (0,9) else (a * b,0)
theorem number_Mul (a b:Int) (ha:NumB a) (hb:NumB b):PC Proofs.Tryz.prog 302 [ai a,ai b] (.tup [ai (mulF a b).1,ai (mulF a b).2]):=by
 have i1:=number_is a
 have i2:=number_is b
 rw[decide_eq_true ha] at i1
 rw[decide_eq_true hb] at i2
 unfold NumB at ha hb
 have h1:=number_abs a (by omega)
 have h2:=number_abs b (by omega)
 have hsp:mulF a b=if a=0∨b=0 then (0,0) else if 1125899906842624 / absF b<absF a then (0,9) else (a * b,0):=rfl
 have hms:=fun h=>mul_small (a:=a) (b:=b) h
 have hpos:b ≠ 0→0<absF b:=fun h=>by rw[absF_eq];omega
 have hquo:=fun h=>quo_eq (a:=1125899906842624) (b:=absF b) (by decide) (by decide) h
 have hmw:=fun h=>mulW_eq (a:=a) (b:=b) h
 generalize mulF a b=r at *
 generalize absF a=A at *
 generalize absF b=B at *
 refine PC.enter 32 [.tmp 4,.tmp 5] [] Proofs.Tryz.func302 rfl rfl rfl rfl rfl (by simp) (AWp.of ?_);simp only[go_sem]
 refine Wk ?_
 refine Sd ?_
 refine(i1).val.use ?_;simp only[go_sem]
 refine Sd ?_
 refine Gc i2 ?_
 refine Sd ?_
 refine Wk ?_
 refine Wk ?_
 refine⟨fun h3 => ?_,fun h3 => ?_⟩
 ·refine Wk ?_
  refine ret_eq ?_;simp only[go_sem]
  rw[hsp,if_pos h3]
 intro h3'
 rw[if_neg (by intro h;rcases h with h|h;exact h3 h;exact h3' h)] at hsp
 have hB:=hpos h3'
 have hq:=hquo hB
 refine Wk ?_
 refine Sd ?_
 refine(h1).val.use ?_;simp only[go_sem]
 refine Wk ?_
 refine Sd ?_
 refine(h2).val.use ?_;simp only[go_sem]
 refine W1 hq ?_
 refine⟨fun h4 => ?_,fun h4 => ?_⟩
 ·rw[if_pos h4] at hsp
  refine Wk ?_
  refine ret_eq ?_;simp only[go_sem]
  rw[hsp]
 rw[if_neg h4] at hsp
 have hm:=hms h3' h4
 refine Wk ?_
 refine ret_eq ?_;simp only[go_sem]
 rw[hsp,hmw (by unfold I64;omega)]
theorem mulF_InB {a b:Int} : NumB (mulF a b).1:=by
 unfold mulF
 split
 ·unfold NumB;decide
 ·rename_i h0
  split
  ·unfold NumB;decide
  ·rename_i h1
   have:=mul_small (a:=a) (b:=b) (fun h=>h0 (.inr h)) h1
   unfold NumB
   show _≤a * b∧a * b≤_
   omega
def sumF (k x y:Int):Int × Bool:=if (mulF k y).2 ≠ 0 then (0,false) else (if NumB (x+(mulF k y).1) then x+(mulF k y).1 else 0,decide (NumB (x+(mulF k y).1)))
theorem classify_add1 (k x y:Int) (hk:NumB k) (hx:NumB x) (hy:NumB y):PC Proofs.Tryz.prog 301 [ai x,ai y,.rp 1 [ai k] 0 0] (.tup [ai (sumF k x y).1,ab (sumF k x y).2]):=by
 have h1:=number_Mul k y hk hy
 have h2:=number_Add x (mulF k y).1 hx mulF_InB
 have hsp:sumF k x y=if (mulF k y).2 ≠ 0 then (0,false) else (if NumB (x+(mulF k y).1) then x+(mulF k y).1 else 0,decide (NumB (x+(mulF k y).1))):=rfl
 generalize sumF k x y=R at *
 generalize mulF k y=M at *
 obtain⟨m,e⟩:=M
 by_cases he:e=0
 ·rw[if_neg (not_not_intro he)] at hsp
  subst hsp
  by_cases hb:NumB (x+m)
  ·rw[if_pos hb,if_pos hb] at h2
   rw[if_pos hb,decide_eq_true hb]
   refine PC.enter 27 [.tmp 5,.tmp 6] [] Proofs.Tryz.func301 rfl rfl rfl rfl rfl (by simp) (AWp.of ?_);simp only[go_sem]
   refine Wk ?_
   refine Sd ?_
   refine(h1).val.use ?_;simp only[go_sem]
   refine W1 he ?_
   refine Sd ?_
   refine(h2).val.use ?_;simp only[go_sem]
   repeat(first|((with_reducible refine AWp.ofC ?_ ?_);exact rfl;simp only[go_sem,Int.reduceEq])|((with_reducible refine an ?_ ?_);exact Au))
   refine ret_eq ?_;simp only[go_sem]
  ·rw[if_neg hb,if_neg hb] at h2
   rw[if_neg hb,decide_eq_false hb]
   refine PC.enter 27 [.tmp 5,.tmp 6] [] Proofs.Tryz.func301 rfl rfl rfl rfl rfl (by simp) (AWp.of ?_);simp only[go_sem]
   refine Wk ?_
   refine Sd ?_
   refine(h1).val.use ?_;simp only[go_sem]
   refine W1 he ?_
   refine Sd ?_
   refine(h2).val.use ?_;simp only[go_sem]
   repeat(first|((with_reducible refine AWp.ofC ?_ ?_);exact rfl;simp only[go_sem,Int.reduceEq])|((with_reducible refine an ?_ ?_);exact Au))
   refine ret_eq ?_;simp only[go_sem]
 ·rw[if_pos he] at hsp
  subst hsp
  refine PC.enter 27 [.tmp 5,.tmp 6] [] Proofs.Tryz.func301 rfl rfl rfl rfl rfl (by simp) (AWp.of ?_);simp only[go_sem]
  refine Wk ?_
  refine Sd ?_
  refine(h1).val.use ?_;simp only[go_sem]
  refine W1 he ?_
  refine ret_eq ?_;simp only[go_sem]
end Go.AL
end
section
namespace Go.AL
open Go Go.RowKit
set_option maxRecDepth 4000
abbrev Atm:=Int × Int × Int × ByteArray
def atmV (x:Atm):Value:=.agg #[.int .i64 x.1,.int .i64 x.2.1,.int .i64 x.2.2.1,.string x.2.2.2]
theorem atmV_fits (x:Atm):(KK.st [.int,.int,.int,.str]).fits (atmV x)=true:=rfl
theorem zav_atmV (x:Atm):zav (atmV x) = .agg [ai x.1,ai x.2.1,ai x.2.2.1,astr x.2.2.2]:=rfl
theorem tinfo_atoms:tinfo Proofs.Tryz.prog 247=some ⟨.map 253 3,1,8,.v (.map none)⟩:=by simp only[go_sem]
theorem atm_key (x:Atm):Value.agg #[.int .i64 x.1,.int .i64 x.2.1,.int .i64 x.2.2.1,.string x.2.2.2]=atmV x:=rfl
theorem mput_nil (k:Value) (x:AV):mput k x [] [] = .amap [k] [x]:=rfl
theorem classify_zero:MCalls Proofs.Tryz.prog 299 [] [] fun r L=>∃b,r = .agg [ai 0,.lm b]∧L=[(b,.amap [] [])]:=by
 refine MCalls.enter' 3 [.cell 0 249] [] Proofs.Tryz.func299 rfl rfl rfl rfl rfl (by simp) (AWp.of ?_);simp only[go_sem]
 intro b0
 refine Wk ?_
 intro b1 g1
 have n1:¬b0=b1:=by omega
 have n2:¬b1=b0:=by omega
 simp only[go_sem,n1,n2]
 refine Sd ?_
 refine W2 n1 n2 ?_
 refine ret_sub [(b1,.amap [] [])] (List.Sublist.cons_cons _ (List.nil_sublist _)) ?_
 simp only[go_sem,n1,n2]
 exact⟨b1,rfl,rfl⟩
theorem classify_comparison (t:Pd):PC Proofs.Tryz.prog 271 [aPd t] (ab (decide (9≤t.kind∧t.kind≤12))):=by
 obtain⟨k,n,p,q,s,l⟩:=t
 show PC _ _ _ (ab (decide (9≤k∧k≤12)))
 generalize hb:decide (9≤k∧k≤12)=b
 simp only[aPd_mk]
 refine PC.enter 11 [.tmp 2] [1] Proofs.Tryz.func271 rfl rfl rfl rfl rfl (by simp) (AWp.of ?_);simp only[go_sem]
 refine Wk ?_
 refine ret_eq ?_;simp only[go_sem]
 rw[← hb]
 congr 2
 rw[Bool.eq_iff_iff];simp
theorem classify_comparedN (t:Pd) (h:¬(9≤t.kind∧t.kind≤12)):PC Proofs.Tryz.prog 208 [aPd t] (.tup [.agg [ai 0,.v (.map none)],ab false]):=by
 have h1:=classify_comparison t
 rw[decide_eq_false h] at h1
 obtain⟨k,n,p,q,s,l⟩:=t
 simp only[aPd_mk] at *
 refine PC.enter 40 [.cell 2 249,.tmp 3] [1,4,6] Proofs.Tryz.func208 rfl rfl rfl rfl rfl (by simp) (AWp.of ?_);simp only[go_sem]
 intro b2
 refine Wk ?_
 refine Sd ?_
 refine(h1).val.use ?_;simp only[go_sem]
 refine Wk ?_
 refine ret_eq ?_;simp only[go_sem]
theorem classify_set (b8:Nat) (B bit:Int) (h:Bool) (X1 X2 X3 X4:AV) (Lr:AHeap):MVal Proofs.Tryz.prog (.clo 134 [.lp b8 5 0 0]) [ai bit,ab h] ((b8,.row 133 5 [.agg [ai B,X1,X2,X3,X4]] 1) :: Lr)
  fun _ L=>L=(b8,.row 133 5 [.agg [ai (if h then orK .i64 B bit else B),X1,X2,X3,X4]] 1) :: Lr:=by
 have main:MCalls Proofs.Tryz.prog 134 [ai bit,ab h,.lp b8 5 0 0] [(b8,.row 133 5 [.agg [ai B,X1,X2,X3,X4]] 1)]
   fun _ L=>L=[(b8,.row 133 5 [.agg [ai (if h then orK .i64 B bit else B),X1,X2,X3,X4]] 1)]:=by
  cases h with
  | true =>
   simp only[if_true]
   refine MCalls.enter' 11 [] [] Proofs.Tryz.func134 rfl rfl rfl rfl rfl (by simp) (AWp.of ?_);simp only[go_sem]
   refine Wk ?_
   refine ret_own ?_
   simp only[go_sem]
  | false =>
   simp only[Bool.false_eq_true,if_false]
   refine MCalls.enter' 11 [] [] Proofs.Tryz.func134 rfl rfl rfl rfl rfl (by simp) (AWp.of ?_);simp only[go_sem]
   refine Wk ?_
   refine ret_own ?_
   simp only[go_sem]
 refine(MVal.frame (Lm:=[(b8,.row 133 5 [.agg [ai B,X1,X2,X3,X4]] 1)]) (Lr:=Lr) (MCalls.clo (args:=[_,_]) (caps:=[_]) main)).mono ?_
 rintro r L ⟨L1,rfl,rfl⟩
 rfl
def IntOk (t:Pd):Prop:=allB locB t=true∧allB typB t=true∧t.kind≤8
def PredOk (t:Pd):Prop:=allB locB t=true∧allB typB t=true∧9≤t.kind
def nd (k:Int) (l:List Pd):Pd:=.mk k 0 0 0 ByteArray.empty l
theorem res_int {k:Int} (h:resF k=1):k≤8:=by unfold resF at h;split at h <;> omega
theorem PredOk.ind {P:Pd→Prop} (leaf:∀k,k=13∨k=14→P (nd k [])) (cmp:∀k x y,k=9∨k=10∨k=11∨k=12→IntOk x→IntOk y→P (nd k [x,y])) (not:∀x,PredOk x→P x→P (nd 15 [x]))
  (bin:∀k x y,k=16∨k=17→PredOk x→PredOk y→P x→P y→P (nd k [x,y])) (tmp:∀k x,k=18∨k=19∨k=20∨k=21→PredOk x→P x→P (nd k [x])) (t:Pd):PredOk t→P t:=by
 induction t using Pd.ind with
 | _ k n p q s l ih =>
 rintro⟨h1,h2,h9⟩
 have h9:9≤k:=h9
 rw[allB_mk,Bool.and_eq_true,List.all_eq_true] at h1 h2
 have hpl:=locB_len h1.1
 obtain⟨h21,rfl,rfl,rfl,rfl⟩:=loc_plain h1.1 h9
 have hty:=fun x (hx:x ∈ l)=>typ_parts h2.1 hx
 have hsub:=fun x (hx:x ∈ l)=>And.intro (h1.2 x hx) (h2.2 x hx)
 have hk:(k=13∨k=14)∨(k=9∨k=10∨k=11∨k=12)∨k=15∨(k=16∨k=17)∨(k=18∨k=19∨k=20∨k=21):=by omega
 rcases hk with hk|hk|hk|hk|hk
 ·have h0:partsF k=0:=by rcases hk with rfl|rfl <;> decide
  obtain rfl:l=[]:=List.length_eq_zero_iff.1 (by omega)
  exact leaf k hk
 ·have h0:partsF k=2:=by rcases hk with rfl|rfl|rfl|rfl <;> decide
  have hn:needF k=1:=by rcases hk with rfl|rfl|rfl|rfl <;> decide
  obtain⟨x,y,rfl⟩:=len_two (l:=l) (by omega)
  have hx:=hsub x (by simp)
  have hy:=hsub y (by simp)
  exact cmp k x y hk ⟨hx.1,hx.2,res_int ((hty x (by simp)).trans hn)⟩ ⟨hy.1,hy.2,res_int ((hty y (by simp)).trans hn)⟩
 ·have h0:partsF k=1:=by rw[hk];decide
  have hn:needF k=2:=by rw[hk];decide
  obtain⟨x,rfl⟩:=len_one (l:=l) (by omega)
  have hx:=hsub x (by simp)
  have hp:PredOk x:=⟨hx.1,hx.2,res_bool ((hty x (by simp)).trans hn)⟩
  subst hk
  exact not x hp (ih x (by simp) hp)
 ·have h0:partsF k=2:=by rcases hk with rfl|rfl <;> decide
  have hn:needF k=2:=by rcases hk with rfl|rfl <;> decide
  obtain⟨x,y,rfl⟩:=len_two (l:=l) (by omega)
  have hx:=hsub x (by simp)
  have hy:=hsub y (by simp)
  have hpx:PredOk x:=⟨hx.1,hx.2,res_bool ((hty x (by simp)).trans hn)⟩
  have hpy:PredOk y:=⟨hy.1,hy.2,res_bool ((hty y (by simp)).trans hn)⟩
  exact bin k x y hk hpx hpy (ih x (by simp) hpx) (ih y (by simp) hpy)
 ·have h0:partsF k=1:=by rcases hk with rfl|rfl|rfl|rfl <;> decide
  have hn:needF k=2:=by rcases hk with rfl|rfl|rfl|rfl <;> decide
  obtain⟨x,rfl⟩:=len_one (l:=l) (by omega)
  have hx:=hsub x (by simp)
  have hp:PredOk x:=⟨hx.1,hx.2,res_bool ((hty x (by simp)).trans hn)⟩
  exact tmp k x hk hp (ih x (by simp) hp)
theorem prd_ok {t:Pd} (h:prdF t=0):PredOk t:=by
 obtain⟨h1,h2,h3⟩:=prdF_zero h
 exact⟨formed_loc h1,h2,h3⟩
theorem norm_leaf (k:Int) (hk:k=13∨k=14) (b:Bool):normF (nd k []) b=nd (if b then oppF k else k) []:=by
 unfold nd
 rw[normF_mk]
 rcases hk with rfl|rfl <;> (cases b <;> rfl)
theorem norm_cmp (k:Int) (hk:k=9∨k=10∨k=11∨k=12) (x y:Pd) (b:Bool):normF (nd k [x,y]) b=nd (if b then oppF k else k) (if b=true∧(k=11∨k=12) then [y,x] else [x,y]):=by
 unfold nd
 rw[normF_mk]
 rcases hk with rfl|rfl|rfl|rfl <;> (cases b <;> rfl)
theorem norm_not (x:Pd) (b:Bool):normF (nd 15 [x]) b=normF x (!b):=by
 unfold nd
 rw[normF_mk,if_pos rfl,hdN_one]
theorem norm_bin (k:Int) (hk:k=16∨k=17) (x y:Pd) (b:Bool):normF (nd k [x,y]) b=nd (if b then oppF k else k) [normF x b,normF y b]:=by
 unfold nd
 rw[normF_mk]
 rcases hk with rfl|rfl <;> (cases b <;> rfl)
theorem norm_tmp (k:Int) (hk:k=18∨k=19∨k=20∨k=21) (x:Pd) (b:Bool):normF (nd k [x]) b=nd (if b then oppF k else k) [normF x b]:=by
 unfold nd
 rw[normF_mk]
 rcases hk with rfl|rfl|rfl|rfl <;> (cases b <;> rfl)
theorem norm_norm (t:Pd) (h:PredOk t):∀a b,normF (normF t a) b=normF t (a != b):=by
 refine PredOk.ind (P:=fun t=>∀a b,normF (normF t a) b=normF t (a != b)) ?_ ?_ ?_ ?_ ?_ t h
 ·intro k hk a b
  rcases hk with rfl|rfl <;> (cases a <;> cases b <;> rfl)
 ·intro k x y hk _ _ a b
  rw[norm_cmp k hk,norm_cmp k hk]
  rcases hk with rfl|rfl|rfl|rfl <;> (cases a <;> cases b <;> rfl)
 ·intro x _ ih a b
  rw[norm_not,norm_not,ih]
  cases a <;> cases b <;> rfl
 ·intro k x y hk _ _ ih1 ih2 a b
  rw[norm_bin k hk,norm_bin k hk,norm_bin (if a then oppF k else k) (by rcases hk with rfl|rfl <;> (cases a <;> decide)),ih1,ih2]
  rcases hk with rfl|rfl <;> (cases a <;> cases b <;> rfl)
 ·intro k x hk _ ih a b
  rw[norm_tmp k hk,norm_tmp k hk,norm_tmp (if a then oppF k else k) (by rcases hk with rfl|rfl|rfl|rfl <;> (cases a <;> decide)),ih]
  rcases hk with rfl|rfl|rfl|rfl <;> (cases a <;> cases b <;> rfl)
theorem int_nng (t:Pd):IntOk t→allB nngB t=true:=by
 induction t using Pd.ind with
 | _ k n p q s l ih =>
 rintro⟨h1,h2,h8⟩
 have h8:k≤8:=h8
 rw[allB_mk,Bool.and_eq_true,List.all_eq_true] at h1 h2
 rw[allB_mk,Bool.and_eq_true,List.all_eq_true]
 refine⟨decide_eq_true (by omega),fun x hx=>ih x hx ⟨h1.2 x hx,h2.2 x hx,res_int ((typ_parts h2.1 hx).trans ?_)⟩⟩
 unfold needF
 rw[if_pos (by omega)]
theorem loc_nd {k:Int} {l:List Pd} (hk:9≤k) (h:partsF k=l.length):locB (nd k l)=true:=by
 show (decide (partsF k=(l.length:Int)) && (if k=1 then decide ((0:Int)≤0∧(0:Int)≤1125899906842624) else decide ((0:Int)=0)) && (decide (2≤k∧k≤4) || decide ((0:Int)=0∧(0:Int)=0∧ByteArray.empty=ByteArray.empty)))=true
 rw[if_neg (by omega)]
 simp [h]
theorem typ_nd {k:Int} {l:List Pd} (h:∀x ∈ l,resF x.kind=needF k):typB (nd k l)=true:=by
 show (!l.any fun x=>tyNe k x.kind)=true
 rw[Bool.not_eq_true']
 refine List.any_eq_false.2 fun x hx => ?_
 unfold tyNe
 simp [h x hx]
theorem res_of_int {k:Int} (h:k≤8):resF k=1:=by unfold resF;rw[if_pos h]
theorem res_of_bool {k:Int} (h:9≤k):resF k=2:=by unfold resF;rw[if_neg (by omega)]
structure NrmOk (t u:Pd):Prop where
 ok:PredOk u
 nng:allB nngB u=true
 sz:szF u≤szF t
 dp:dpF u≤dpF t
theorem nd_szF (k:Int) (l:List Pd):szF (nd k l)=szL l+1:=by unfold nd;rw[szF]
theorem nd_dpF (k:Int) (l:List Pd):dpF (nd k l)=dpL l+1:=by unfold nd;rw[dpF]
theorem nd_allB (f:Pd→Bool) (k:Int) (l:List Pd):allB f (nd k l)=(f (nd k l) && l.all (allB f)):=by unfold nd;rw[allB_mk]
theorem nng_nd {k:Int} (l:List Pd) (h:¬k=15):nngB (nd k l)=true:=decide_eq_true h
theorem norm_ok (t:Pd) (h:PredOk t):∀b,NrmOk t (normF t b):=by
 refine PredOk.ind (P:=fun t=>∀b,NrmOk t (normF t b)) ?_ ?_ ?_ ?_ ?_ t h
 ·intro k hk b
  rw[norm_leaf k hk]
  have hj:(if b then oppF k else k)=13∨(if b then oppF k else k)=14:=by rcases hk with rfl|rfl <;> (cases b <;> decide)
  generalize (if b then oppF k else k)=j at *
  refine⟨⟨?_,?_,?_⟩,?_,by rw[nd_szF,nd_szF];exact Nat.le_refl _,by rw[nd_dpF,nd_dpF];exact Nat.le_refl _⟩
  ·rw[nd_allB,loc_nd (by omega) (by rcases hj with rfl|rfl <;> decide)];rfl
  ·rw[nd_allB,typ_nd (by simp)];rfl
  ·show 9≤j;omega
  ·rw[nd_allB,nng_nd _ (by omega)];rfl
 ·intro k x y hk hx hy b
  rw[norm_cmp k hk]
  have hj:(if b then oppF k else k)=9∨(if b then oppF k else k)=10∨(if b then oppF k else k)=11∨(if b then oppF k else k)=12:=by rcases hk with rfl|rfl|rfl|rfl <;> (cases b <;> decide)
  generalize (if b then oppF k else k)=j at *
  have hp:partsF j=2:=by rcases hj with rfl|rfl|rfl|rfl <;> decide
  have hn:needF j=1:=by rcases hj with rfl|rfl|rfl|rfl <;> decide
  have hxr:=res_of_int hx.2.2
  have hyr:=res_of_int hy.2.2
  have main:∀u v,IntOk u→IntOk v→szF u+szF v=szF x+szF y→max (dpF u) (dpF v)=max (dpF x) (dpF y)→NrmOk (nd k [x,y]) (nd j [u,v]):=fun u v hu hv hs hd=>by
   have hur:=res_of_int hu.2.2
   have hvr:=res_of_int hv.2.2
   refine⟨⟨?_,?_,?_⟩,?_,?_,?_⟩
   ·rw[nd_allB,loc_nd (by omega) hp]
    simp [hu.1,hv.1]
   ·rw[nd_allB,typ_nd (by intro z hz;simp at hz;rcases hz with rfl|rfl <;> omega)]
    simp [hu.2.1,hv.2.1]
   ·show 9≤j;omega
   ·rw[nd_allB,nng_nd _ (by omega)]
    simp [int_nng u hu,int_nng v hv]
   ·rw[nd_szF,nd_szF];simp only[szL];omega
   ·rw[nd_dpF,nd_dpF];simp only[dpL];omega
  split
  ·exact main y x hy hx (by omega) (by omega)
  ·exact main x y hx hy rfl rfl
 ·intro x hx ih b
  rw[norm_not]
  have h:=ih (!b)
  exact⟨h.ok,h.nng,Nat.le_trans h.sz (by rw[nd_szF];simp only[szL];omega),Nat.le_trans h.dp (by rw[nd_dpF];simp only[dpL];omega)⟩
 ·intro k x y hk hx hy ih1 ih2 b
  rw[norm_bin k hk]
  have hj:(if b then oppF k else k)=16∨(if b then oppF k else k)=17:=by rcases hk with rfl|rfl <;> (cases b <;> decide)
  generalize (if b then oppF k else k)=j at *
  have hp:partsF j=2:=by rcases hj with rfl|rfl <;> decide
  have hn:needF j=2:=by rcases hj with rfl|rfl <;> decide
  have h1:=ih1 b
  have h2:=ih2 b
  have r1:=res_of_bool h1.ok.2.2
  have r2:=res_of_bool h2.ok.2.2
  have z1:=h1.sz
  have z2:=h2.sz
  have d1:=h1.dp
  have d2:=h2.dp
  refine⟨⟨?_,?_,?_⟩,?_,?_,?_⟩
  ·rw[nd_allB,loc_nd (by omega) hp]
   simp [h1.ok.1,h2.ok.1]
  ·rw[nd_allB,typ_nd (by intro z hz;simp at hz;rcases hz with rfl|rfl <;> omega)]
   simp [h1.ok.2.1,h2.ok.2.1]
  ·show 9≤j;omega
  ·rw[nd_allB,nng_nd _ (by omega)]
   simp [h1.nng,h2.nng]
  ·rw[nd_szF,nd_szF];simp only[szL];omega
  ·rw[nd_dpF,nd_dpF];simp only[dpL];omega
 ·intro k x hk hx ih b
  rw[norm_tmp k hk]
  have hj:(if b then oppF k else k)=18∨(if b then oppF k else k)=19∨(if b then oppF k else k)=20∨(if b then oppF k else k)=21:=by rcases hk with rfl|rfl|rfl|rfl <;> (cases b <;> decide)
  generalize (if b then oppF k else k)=j at *
  have hp:partsF j=1:=by rcases hj with rfl|rfl|rfl|rfl <;> decide
  have hn:needF j=2:=by rcases hj with rfl|rfl|rfl|rfl <;> decide
  have h1:=ih b
  have r1:=res_of_bool h1.ok.2.2
  have z1:=h1.sz
  have d1:=h1.dp
  refine⟨⟨?_,?_,?_⟩,?_,?_,?_⟩
  ·rw[nd_allB,loc_nd (by omega) hp]
   simp [h1.ok.1]
  ·rw[nd_allB,typ_nd (by intro z hz;simp at hz;rcases hz with rfl;omega)]
   simp [h1.ok.2.1]
  ·show 9≤j;omega
  ·rw[nd_allB,nng_nd _ (by omega)]
   simp [h1.nng]
  ·rw[nd_szF,nd_szF];simp only[szL];omega
  ·rw[nd_dpF,nd_dpF];simp only[dpL];omega
theorem norm_prd {t:Pd} (h:prdF t=0) (b:Bool):prdF (normF t b)=0∧formedB (normF t b)=true:=by
 have hn:=norm_ok t (prd_ok h) b
 have hf:=(prdF_zero h).1
 have hF:formedB (normF t b)=true:=by
  unfold formedB at hf ⊢
  simp only[Bool.and_eq_true,decide_eq_true_eq] at hf ⊢
  have:=hn.sz
  have:=hn.dp
  exact⟨⟨by omega,by omega⟩,hn.ok.1⟩
 refine⟨?_,hF⟩
 unfold prdF
 rw[hF,show typedB (normF t b)=true from hn.ok.2.1,res_of_bool hn.ok.2.2]
 rfl
theorem norm_res (ps:List Pr) (t:Pd) (h:PredOk t):allB (resB ps) t=true→∀b,allB (resB ps) (normF t b)=true:=by
 have hr:∀(j:Int) (l:List Pd),9≤j→resB ps (nd j l)=true:=fun j l hj=>by
  show (if j=2 then isPB ps.length 0 && decide ((0:Int)=0) && knownB ps 0 ByteArray.empty else if j=3 then isPB ps.length 0 && decide ((0:Int)=0) && decide (ByteArray.empty=ByteArray.empty) else if j=4 then isPB ps.length 0 && isPB ps.length 0 && !decide ((0:Int)=0) && decide (ByteArray.empty=ByteArray.empty) else true)=true
  rw[if_neg (by omega),if_neg (by omega),if_neg (by omega)]
 refine PredOk.ind (P:=fun t=>allB (resB ps) t=true→∀b,allB (resB ps) (normF t b)=true) ?_ ?_ ?_ ?_ ?_ t h
 ·intro k hk _ b
  rw[norm_leaf k hk,nd_allB,hr _ _ (by rcases hk with rfl|rfl <;> (cases b <;> decide))];rfl
 ·intro k x y hk _ _ h b
  rw[nd_allB] at h
  simp only[Bool.and_eq_true,List.all_cons,List.all_nil,Bool.and_true] at h
  rw[norm_cmp k hk,nd_allB,hr _ _ (by rcases hk with rfl|rfl|rfl|rfl <;> (cases b <;> decide))]
  split <;> simp [h.2.1,h.2.2]
 ·intro x _ ih h b
  rw[nd_allB] at h
  simp only[Bool.and_eq_true,List.all_cons,List.all_nil,Bool.and_true] at h
  rw[norm_not]
  exact ih h.2 _
 ·intro k x y hk _ _ ih1 ih2 h b
  rw[nd_allB] at h
  simp only[Bool.and_eq_true,List.all_cons,List.all_nil,Bool.and_true] at h
  rw[norm_bin k hk,nd_allB,hr _ _ (by rcases hk with rfl|rfl <;> (cases b <;> decide))]
  simp [ih1 h.2.1 b,ih2 h.2.2 b]
 ·intro k x hk _ ih h b
  rw[nd_allB] at h
  simp only[Bool.and_eq_true,List.all_cons,List.all_nil,Bool.and_true] at h
  rw[norm_tmp k hk,nd_allB,hr _ _ (by rcases hk with rfl|rfl|rfl|rfl <;> (cases b <;> decide))]
  simp [ih h.2 b]
theorem fit_nd (ps:List Pr) {k:Int} (hk:9≤k) (l:List Pd):fitB ps (nd k l)=l.all (fitB ps):=by
 unfold nd
 rw[fitB_mk,if_neg (by omega)]
theorem norm_fit (ps:List Pr) (t:Pd) (h:PredOk t):fitB ps t=true→∀b,fitB ps (normF t b)=true:=by
 refine PredOk.ind (P:=fun t=>fitB ps t=true→∀b,fitB ps (normF t b)=true) ?_ ?_ ?_ ?_ ?_ t h
 ·intro k hk _ b
  rw[norm_leaf k hk,fit_nd ps (by rcases hk with rfl|rfl <;> (cases b <;> decide))];rfl
 ·intro k x y hk _ _ h b
  rw[fit_nd ps (by omega)] at h
  simp only[Bool.and_eq_true,List.all_cons,List.all_nil,Bool.and_true] at h
  rw[norm_cmp k hk,fit_nd ps (by rcases hk with rfl|rfl|rfl|rfl <;> (cases b <;> decide))]
  split <;> simp [h.1,h.2]
 ·intro x _ ih h b
  rw[fit_nd ps (by decide)] at h
  simp only[Bool.and_eq_true,List.all_cons,List.all_nil,Bool.and_true] at h
  rw[norm_not]
  exact ih h _
 ·intro k x y hk _ _ ih1 ih2 h b
  rw[fit_nd ps (by omega)] at h
  simp only[Bool.and_eq_true,List.all_cons,List.all_nil,Bool.and_true] at h
  rw[norm_bin k hk,fit_nd ps (by rcases hk with rfl|rfl <;> (cases b <;> decide))]
  simp [ih1 h.1 b,ih2 h.2 b]
 ·intro k x hk _ ih h b
  rw[fit_nd ps (by omega)] at h
  simp only[Bool.and_eq_true,List.all_cons,List.all_nil,Bool.and_true] at h
  rw[norm_tmp k hk,fit_nd ps (by rcases hk with rfl|rfl|rfl|rfl <;> (cases b <;> decide))]
  simp [ih h b]
theorem ntm_nd {k:Int} (l:List Pd):ntmB (nd k l) = !decide (18≤k∧k≤21):=rfl
theorem norm_tru (o:Obs) (t:Pd) (h:PredOk t):allB ntmB t=true→∀b,truF o (normF t b)=(truF o t != b):=by
 have hT:∀(k:Int) (l:List Pd),truF o (nd k l)=truN k (l.map (valF o)) (l.map (truF o)):=fun k l=>by unfold nd;rw[truF_mk]
 refine PredOk.ind (P:=fun t=>allB ntmB t=true→∀b,truF o (normF t b)=(truF o t != b)) ?_ ?_ ?_ ?_ ?_ t h
 ·intro k hk _ b
  rw[norm_leaf k hk,hT,hT]
  rcases hk with rfl|rfl <;> (cases b <;> rfl)
 ·intro k x y hk _ _ h b
  rw[norm_cmp k hk,hT,hT]
  generalize hx:valF o x=u
  generalize hy:valF o y=v
  rcases hk with rfl|rfl|rfl|rfl
  ·cases b
   ·show truN 9 [valF o x,valF o y] _=(truN 9 [valF o x,valF o y] _ != false)
    rw[hx,hy];simp [truN]
   ·show truN 10 [valF o x,valF o y] _=(truN 9 [valF o x,valF o y] _ != true)
    rw[hx,hy];simp [truN]
  ·cases b
   ·show truN 10 [valF o x,valF o y] _=(truN 10 [valF o x,valF o y] _ != false)
    rw[hx,hy];simp [truN]
   ·show truN 9 [valF o x,valF o y] _=(truN 10 [valF o x,valF o y] _ != true)
    rw[hx,hy];simp [truN]
  ·cases b
   ·show truN 11 [valF o x,valF o y] _=(truN 11 [valF o x,valF o y] _ != false)
    rw[hx,hy];simp [truN]
   ·show truN 12 [valF o y,valF o x] _=(truN 11 [valF o x,valF o y] _ != true)
    rw[hx,hy]
    by_cases e:u<v
    ·simp [truN,e]
    ·simp [truN,e,show v≤u by omega]
  ·cases b
   ·show truN 12 [valF o x,valF o y] _=(truN 12 [valF o x,valF o y] _ != false)
    rw[hx,hy];simp [truN]
   ·show truN 11 [valF o y,valF o x] _=(truN 12 [valF o x,valF o y] _ != true)
    rw[hx,hy]
    by_cases e:u≤v
    ·simp [truN,e,show ¬v<u by omega]
    ·simp [truN,e,show v<u by omega]
 ·intro x _ ih h b
  rw[nd_allB] at h
  simp only[Bool.and_eq_true,List.all_cons,List.all_nil,Bool.and_true] at h
  rw[norm_not,ih h.2,hT]
  show _=(truN 15 [valF o x] [truF o x] != b)
  generalize truF o x=w
  cases w <;> cases b <;> rfl
 ·intro k x y hk _ _ ih1 ih2 h b
  rw[nd_allB] at h
  simp only[Bool.and_eq_true,List.all_cons,List.all_nil,Bool.and_true] at h
  rw[norm_bin k hk,hT,hT]
  simp only[List.map_cons,List.map_nil,ih1 h.2.1 b,ih2 h.2.2 b]
  generalize truF o x=w
  generalize truF o y=z
  rcases hk with rfl|rfl <;> (cases b <;> cases w <;> cases z <;> rfl)
 ·intro k x hk _ ih h b
  rw[nd_allB,ntm_nd,Bool.and_eq_true] at h
  have h1:=h.1
  rw[decide_eq_true (by omega)] at h1
  cases h1
theorem aPd_shape (t:Pd):∃k n p q s X,aPd t = .agg [ai k,ai n,ai p,ai q,astr s,.sl 6 X]:=by
 obtain⟨k,n,p,q,s,l⟩:=t
 exact⟨k,n,p,q,s,_,aPd_mk ..⟩
end Go.AL
end
