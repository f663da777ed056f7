/- Texts of this claim's proof: WI8, WI9, WI10. No condition. -/
import Derived.Test.YteiafajligfbnaaGreatDoorM15
import Derived.Shelf.SlMaps.Clone
import Derived.Test.YteiafajligfbnaaGreatDoorM11
section
namespace Go.AL
open Go Go.RowKit Go.Shelf Go.Proofs
set_option maxRecDepth 4000
def cloneRen:Go.Shelf.Ren:=⟨fun|5=>137|7=>170|n=>n,fun|4=>4|20=>20|23=>95|25=>101|3=>3|n=>n,fun|n=>n⟩
theorem cloneLay:Go.Proofs.SlLaysW.n5 Proofs.Tryz.prog cloneRen where
 mixed:=by kernel_rfl
 f5:=⟨"maps.Clone[map[antecede/classify.atom]int,antecede/classify.atom,int]",by decide,Proofs.Tryz.func137.trans (congrArg some (by kernel_rfl))⟩
 f7:=Proofs.Tryz.func170.trans (congrArg some (by kernel_rfl))
 t4:=Proofs.Tryz.underlying4
 a4:=Proofs.Tryz.isAgg4
 z4:=Proofs.Tryz.sizeOf4
 v4:=Proofs.Tryz.zeroValue4
 t20:=Proofs.Tryz.underlying20
 a20:=Proofs.Tryz.isAgg20
 z20:=Proofs.Tryz.sizeOf20
 v20:=Proofs.Tryz.zeroValue20
 t23:=Proofs.Tryz.underlying95
 a23:=Proofs.Tryz.isAgg95
 z23:=Proofs.Tryz.sizeOf95
 v23:=Proofs.Tryz.zeroValue95
theorem maps_Clone (ks:List Value) (vs:List AV):MCalls Proofs.Tryz.prog 137 [.rm ks vs] [] fun r L=>∃b,r = .lm b∧L=[(b,.amap ks vs)]:=by
 refine⟨cloneLay.f5.enters rfl,fun n w A us hL hr=>callsIn_wide.2 ?_⟩
 obtain⟨u,us',rfl,h1,h2⟩:=hr.inv_cons
 obtain rfl:=h2.inv_nil
 cases h1 with
 | rm _ _ bm es clock hA hw hk hv hbn hh =>
 refine(AnyW.maps_Clone cloneLay bm es clock w hw).mono ?_
 rintro e w' ⟨rfl,rfl⟩
 have keep:∀b,A b→(w.alloc (.map es clock)).heap[b]?=w.heap[b]?:=fun b hb=>Below.heap_alloc w _ b (hL.abnd b hb)
 have hB:BlkRel (w.alloc (.map es clock)) A w.heap.size (.amap ks vs):=⟨es,clock,World.alloc_heap_new w _,hk,hv,hbn.1,hbn.2,fun i x e hx he=>(hh i x e hx he).later keep fun _ h=>h⟩
 refine⟨_,.lm w.heap.size,[(w.heap.size,.amap ks vs)],A,rfl,⟨_,rfl,rfl⟩,Fr.alloc w _ _,fun b hb => .inl hb,hL.alloc hB,fun x hx => ?_,.lm _⟩
 obtain rfl:=List.mem_singleton.1 hx
 exact .inr (Nat.le_refl _)
def NumB (n:Int):Prop:=-1125899906842624≤n∧n≤1125899906842624
instance (n:Int):Decidable (NumB n):=inferInstanceAs (Decidable (_∧_))
theorem number_is (n:Int):PC Proofs.Tryz.prog 171 [ai n] (ab (decide (NumB n))):=by
 generalize hb:decide (NumB n)=b
 refine PC.enter 9 [.tmp 2] [] Proofs.Tryz.func171 rfl rfl rfl rfl rfl (by simp) (AWp.of ?_);simp only[go_sem]
 refine Wk ?_
 refine ret_eq ?_;simp only[go_sem]
 rw[← hb]
 congr 2
 rw[Bool.eq_iff_iff]
 simp [NumB]
 exact decide_eq_true_iff.symm
theorem number_limited (n:Int):PC Proofs.Tryz.prog 173 [ai n] (.tup [ai (if NumB n then n else 0),ai (if NumB n then 0 else 9)]):=by
 have h:=number_is n
 by_cases hb:NumB n
 ·rw[decide_eq_true hb] at h
  rw[if_pos hb,if_pos hb]
  refine PC.enter 8 [.tmp 2,.tmp 3] [] Proofs.Tryz.func173 rfl rfl rfl rfl rfl (by simp) (AWp.of ?_);simp only[go_sem]
  refine Wk ?_
  refine Sd ?_
  refine(h).val.use ?_;simp only[go_sem]
  refine Wk ?_
  refine ret_eq ?_;simp only[go_sem]
 ·rw[decide_eq_false hb] at h
  rw[if_neg hb,if_neg hb]
  refine PC.enter 8 [.tmp 2,.tmp 3] [] Proofs.Tryz.func173 rfl rfl rfl rfl rfl (by simp) (AWp.of ?_);simp only[go_sem]
  refine Wk ?_
  refine Sd ?_
  refine(h).val.use ?_;simp only[go_sem]
  refine Wk ?_
  refine ret_eq ?_;simp only[go_sem]
theorem number_Add (x y:Int) (hx:NumB x) (hy:NumB y):PC Proofs.Tryz.prog 140 [ai x,ai y] (.tup [ai (if NumB (x+y) then x+y else 0),ai (if NumB (x+y) then 0 else 9)]):=by
 have h1:=number_is x
 have h2:=number_is y
 have h3:=number_limited (x+y)
 rw[decide_eq_true hx] at h1
 rw[decide_eq_true hy] at h2
 generalize (if NumB (x+y) then x+y else 0)=A at *
 generalize (if NumB (x+y) then (0:Int) else 9)=B at *
 unfold NumB at hx hy
 refine PC.enter 20 [.tmp 4,.tmp 5] [] Proofs.Tryz.func140 rfl rfl rfl rfl rfl (by simp) (AWp.of ?_);simp only[go_sem]
 refine Wk ?_
 refine Sd ?_
 refine(h1).val.use ?_;simp only[go_sem]
 refine Sd ?_
 refine Gc h2 ?_
 refine Sd ?_
 refine Wk ?_
 refine Sd ?_
 refine(h3).val.use ?_;simp only[go_sem]
 refine Wk ?_
 refine ret_eq ?_;simp only[go_sem]
theorem number_abs (a:Int) (ha : -1125899906842625≤a∧a≤1125899906842625):PC Proofs.Tryz.prog 172 [ai a] (ai (absF a)):=by
 have hA:absF a=if a < -a then -a else a:=rfl
 rw[hA]
 refine PC.enter 7 [.tmp 2] [] Proofs.Tryz.func172 rfl rfl rfl rfl rfl (by simp) (AWp.of ?_);simp only[go_sem]
 refine Wk ?_
 refine ret_eq ?_;simp only[go_sem]
def mulF (a b:Int):Int × Int:=if a=0∨b=0 then (0,0) else if 1125899906842624 / absF b<absF a then (0,9) else (a * b,0)
theorem number_Mul (a b:Int) (ha:NumB a) (hb:NumB b):PC Proofs.Tryz.prog 139 [ai a,ai b] (.tup [ai (mulF a b).1,ai (mulF a b).2]):=by
 have i1:=number_is a
 have i2:=number_is b
 rw[decide_eq_true ha] at i1
 rw[decide_eq_true hb] at i2
 unfold NumB at ha hb
 have h1:=number_abs a (by omega)
 have h2:=number_abs b (by omega)
 have hsp:mulF a b=if a=0∨b=0 then (0,0) else if 1125899906842624 / absF b<absF a then (0,9) else (a * b,0):=rfl
 have hms:=fun h=>mul_small (a:=a) (b:=b) h
 have hpos:b ≠ 0→0<absF b:=fun h=>by rw[absF_eq];omega
 have hquo:=fun h=>quo_eq (a:=1125899906842624) (b:=absF b) (by decide) (by decide) h
 have hmw:=fun h=>mulW_eq (a:=a) (b:=b) h
 generalize mulF a b=r at *
 generalize absF a=A at *
 generalize absF b=B at *
 refine PC.enter 32 [.tmp 4,.tmp 5] [] Proofs.Tryz.func139 rfl rfl rfl rfl rfl (by simp) (AWp.of ?_);simp only[go_sem]
 refine Wk ?_
 refine Sd ?_
 refine(i1).val.use ?_;simp only[go_sem]
 refine Sd ?_
 refine Gc i2 ?_
 refine Sd ?_
 refine Wk ?_
 refine Wk ?_
 refine⟨fun h3 => ?_,fun h3 => ?_⟩
 ·refine Wk ?_
  refine ret_eq ?_;simp only[go_sem]
  rw[hsp,if_pos h3]
 intro h3'
 rw[if_neg (by intro h;rcases h with h|h;exact h3 h;exact h3' h)] at hsp
 have hB:=hpos h3'
 have hq:=hquo hB
 refine Wk ?_
 refine Sd ?_
 refine(h1).val.use ?_;simp only[go_sem]
 refine Wk ?_
 refine Sd ?_
 refine(h2).val.use ?_;simp only[go_sem]
 refine W1 hq ?_
 refine⟨fun h4 => ?_,fun h4 => ?_⟩
 ·rw[if_pos h4] at hsp
  refine Wk ?_
  refine ret_eq ?_;simp only[go_sem]
  rw[hsp]
 rw[if_neg h4] at hsp
 have hm:=hms h3' h4
 refine Wk ?_
 refine ret_eq ?_;simp only[go_sem]
 rw[hsp,hmw (by unfold I64;omega)]
theorem mulF_InB {a b:Int} : NumB (mulF a b).1:=by
 unfold mulF
 split
 ·unfold NumB;decide
 ·rename_i h0
  split
  ·unfold NumB;decide
  ·rename_i h1
   have:=mul_small (a:=a) (b:=b) (fun h=>h0 (.inr h)) h1
   unfold NumB
   show _≤a * b∧a * b≤_
   omega
def sumF (k x y:Int):Int × Bool:=if (mulF k y).2 ≠ 0 then (0,false) else (if NumB (x+(mulF k y).1) then x+(mulF k y).1 else 0,decide (NumB (x+(mulF k y).1)))
theorem classify_add1 (k x y:Int) (hk:NumB k) (hx:NumB x) (hy:NumB y):PC Proofs.Tryz.prog 138 [ai x,ai y,.rp 1 [ai k] 0 0] (.tup [ai (sumF k x y).1,ab (sumF k x y).2]):=by
 have h1:=number_Mul k y hk hy
 have h2:=number_Add x (mulF k y).1 hx mulF_InB
 have hsp:sumF k x y=if (mulF k y).2 ≠ 0 then (0,false) else (if NumB (x+(mulF k y).1) then x+(mulF k y).1 else 0,decide (NumB (x+(mulF k y).1))):=rfl
 generalize sumF k x y=R at *
 generalize mulF k y=M at *
 obtain⟨m,e⟩:=M
 by_cases he:e=0
 ·rw[if_neg (not_not_intro he)] at hsp
  subst hsp
  by_cases hb:NumB (x+m)
  ·rw[if_pos hb,if_pos hb] at h2
   rw[if_pos hb,decide_eq_true hb]
   refine PC.enter 27 [.tmp 5,.tmp 6] [] Proofs.Tryz.func138 rfl rfl rfl rfl rfl (by simp) (AWp.of ?_);simp only[go_sem]
   refine Wk ?_
   refine Sd ?_
   refine(h1).val.use ?_;simp only[go_sem]
   refine W1 he ?_
   refine Sd ?_
   refine(h2).val.use ?_;simp only[go_sem]
   repeat(first|((with_reducible refine AWp.ofC ?_ ?_);exact rfl;simp only[go_sem,Int.reduceEq])|((with_reducible refine an ?_ ?_);exact Au))
   refine ret_eq ?_;simp only[go_sem]
  ·rw[if_neg hb,if_neg hb] at h2
   rw[if_neg hb,decide_eq_false hb]
   refine PC.enter 27 [.tmp 5,.tmp 6] [] Proofs.Tryz.func138 rfl rfl rfl rfl rfl (by simp) (AWp.of ?_);simp only[go_sem]
   refine Wk ?_
   refine Sd ?_
   refine(h1).val.use ?_;simp only[go_sem]
   refine W1 he ?_
   refine Sd ?_
   refine(h2).val.use ?_;simp only[go_sem]
   repeat(first|((with_reducible refine AWp.ofC ?_ ?_);exact rfl;simp only[go_sem,Int.reduceEq])|((with_reducible refine an ?_ ?_);exact Au))
   refine ret_eq ?_;simp only[go_sem]
 ·rw[if_pos he] at hsp
  subst hsp
  refine PC.enter 27 [.tmp 5,.tmp 6] [] Proofs.Tryz.func138 rfl rfl rfl rfl rfl (by simp) (AWp.of ?_);simp only[go_sem]
  refine Wk ?_
  refine Sd ?_
  refine(h1).val.use ?_;simp only[go_sem]
  refine W1 he ?_
  refine ret_eq ?_;simp only[go_sem]
end Go.AL
end
section
namespace Go.AL
open Go Go.RowKit
set_option maxRecDepth 4000
abbrev Atm:=Int × Int × Int × ByteArray
def atmV (x:Atm):Value:=.agg #[.int .i64 x.1,.int .i64 x.2.1,.int .i64 x.2.2.1,.string x.2.2.2]
theorem atmV_fits (x:Atm):(KK.st [.int,.int,.int,.str]).fits (atmV x)=true:=rfl
theorem zav_atmV (x:Atm):zav (atmV x) = .agg [ai x.1,ai x.2.1,ai x.2.2.1,astr x.2.2.2]:=rfl
theorem tinfo_atoms:tinfo Proofs.Tryz.prog 95=some ⟨.map 101 3,1,8,.v (.map none)⟩:=by simp only[go_sem]
theorem atm_key (x:Atm):Value.agg #[.int .i64 x.1,.int .i64 x.2.1,.int .i64 x.2.2.1,.string x.2.2.2]=atmV x:=rfl
theorem mget_nil (k:Value) (z:AV):mget k [] [] z=z:=rfl
theorem mput_nil (k:Value) (x:AV):mput k x [] [] = .amap [k] [x]:=rfl
theorem classify_zero:MCalls Proofs.Tryz.prog 136 [] [] fun r L=>∃b,r = .agg [ai 0,.lm b]∧L=[(b,.amap [] [])]:=by
 refine MCalls.enter' 3 [.cell 0 97] [] Proofs.Tryz.func136 rfl rfl rfl rfl rfl (by simp) (AWp.of ?_);simp only[go_sem]
 intro b0
 refine Wk ?_
 intro b1 g1
 have n1:¬b0=b1:=by omega
 have n2:¬b1=b0:=by omega
 simp only[go_sem,n1,n2]
 refine Sd ?_
 refine W2 n1 n2 ?_
 refine ret_sub [(b1,.amap [] [])] (List.Sublist.cons_cons _ (List.nil_sublist _)) ?_
 simp only[go_sem,n1,n2]
 exact⟨b1,rfl,rfl⟩
theorem classify_addX (c:Int) (x:Atm) (hc:NumB c):PC Proofs.Tryz.prog 93 [.agg [ai c,.rm [] []],.agg [ai 0,.rm [atmV x] [ai 1]],ai (-1)] (.tup [.agg [ai c,.rm [atmV x] [ai (-1)]],ab true]):=by
 have hcl:=maps_Clone [] []
 have h0:=classify_add1 (-1) c 0 (by decide) hc (by decide)
 have h1:=classify_add1 (-1) 0 1 (by decide) (by decide) (by decide)
 have e0:sumF (-1) c 0=(c,true):=by
  have:mulF (-1) 0=(0,0):=by decide
  unfold sumF
  rw[this]
  simp [hc]
 have e1:sumF (-1) 0 1=(-1,true):=by decide
 rw[e0] at h0
 rw[e1] at h1
 refine PC.enter 63 [.cell 6 97,.tmp 7] [3,4,5,11] Proofs.Tryz.func93 rfl rfl rfl rfl rfl (by simp) (AWp.of ?_);simp only[go_sem]
 intro b6
 refine Wk ?_
 refine(MVal.nd (MVal.frame (Lm:=[]) (Lr:=_) hcl.val)).mono ?_
 rintro r L ⟨hnd,L1,rfl,bm,rfl,rfl⟩
 simp only[go_sem]
 intro b8 g1 g2
 have hm6:¬bm=b6:=by simp at hnd;exact hnd
 have n1:¬b6=bm:=fun e=>hm6 e.symm
 have n2:¬b8=bm:=by omega
 have n3:¬bm=b8:=by omega
 have n4:¬b8=b6:=by omega
 have n5:¬b6=b8:=by omega
 have h0:=PC.clo (args:=[_,_]) (caps:=[_]) h0
 have h1:=PC.clo (args:=[_,_]) (caps:=[_]) h1
 refine Sd ?_
 refine W6 hm6 n1 n2 n3 n4 n5 ?_
 refine Sd ?_
 refine(h0).use ?_;simp only[go_sem,hm6,n1,n2,n3,n4,n5]
 refine W6 hm6 n1 n2 n3 n4 n5 ?_
 refine AOp.rangeMap (kt:=101) (et:=3) rfl (tinfo_atoms) (fun i hi=>by cases hi;decide) rfl ?_
 intro bi g3
 simp only[go_sem] at g3 ⊢
 have m1:¬bi=b8:=by omega
 have m2:¬b8=bi:=by omega
 have m3:¬bi=bm:=by omega
 have m4:¬bm=bi:=by omega
 have m5:¬bi=b6:=by omega
 have m6:¬b6=bi:=by omega
 refine W6 hm6 n1 n2 n3 n4 n5 ?_
 refine AWp.block (AWp.loopN [10] [6,8,9,32] (fun m vs L=>(m=1∧vs=[ab true]∧L=[(bi,.iter [atmV x] [ai 1] []),(b8,.row 97 2 [.agg [ai c,.lm bm]] 1),(bm,.amap [] []),(b6,.row 97 2 [.agg [ai 0,.v (.map none)]] 1)]) ∨
  (m=0∧vs=[ab true]∧L=[(bi,.iter [atmV x] [ai 1] [0]),(b8,.row 97 2 [.agg [ai c,.lm bm]] 1),(bm,.amap [atmV x] [ai (-1)]),(b6,.row 97 2 [.agg [ai 0,.v (.map none)]] 1)])) 1 (.inl ⟨rfl,rfl,rfl⟩) ?_)
 rintro m vs L - (⟨rfl,rfl,rfl⟩|⟨rfl,rfl,rfl⟩)
 ·simp only[go_sem]
  refine Sd ?_
  refine AWp.of ?_;simp only[go_sem,m1,m2,m3,m4,m5,m6]
  refine AOp.nextMap (ks:=[atmV x]) (vs:=[ai 1]) (vis:=[]) (b:=bi) rfl ?_ rfl (by simp only[go_sem]) (fun h=>absurd (h 0 (by simp)) (by simp)) ?_
  ·intro i hi;cases hi;decide
  intro i hi hn
  have:i=0:=by simp at hi;exact hi
  subst this
  simp only[go_sem]
  refine W6 m1 m2 m3 m4 m5 m6 ?_
  refine AOp.entryMap (ks:=[atmV x]) (vs:=[ai 1]) (vis:=[]) (i:=0) (b:=bi) rfl ?_ rfl (if_pos rfl) ?_
  ·intro i hi;cases hi;decide
  simp only[go_sem,List.getD_cons_zero,zav_atmV]
  intro b11 g4 g5 g6 g7
  have q1:¬bi=b11:=by omega
  have q2:¬b11=bi:=by omega
  have q3:¬b8=b11:=by omega
  have q4:¬b11=b8:=by omega
  have q5:¬bm=b11:=by omega
  have q6:¬b11=bm:=by omega
  have q7:¬b6=b11:=by omega
  have q8:¬b11=b6:=by omega
  refine Sd ?_
  repeat(first|((with_reducible refine AWp.ofC ?_ ?_);exact rfl;simp only[go_sem,atm_key,atmV_fits,mget_nil,m1,m2,m3,m4,m5,m6,hm6,n1,n2,n3,n4,n5,q1,q2,q3,q4,q5,q6,q7,q8])|((with_reducible refine an ?_ ?_);exact Au))
  refine Sd ?_
  refine(h1).use ?_;simp only[go_sem,atm_key,atmV_fits,mget_nil,m1,m2,m3,m4,m5,m6,hm6,n1,n2,n3,n4,n5,q1,q2,q3,q4,q5,q6,q7,q8]
  repeat(first|((with_reducible refine AWp.ofC ?_ ?_);exact rfl;simp only[go_sem,atm_key,atmV_fits,mget_nil,mput_nil,m1,m2,m3,m4,m5,m6,hm6,n1,n2,n3,n4,n5,q1,q2,q3,q4,q5,q6,q7,q8])|((with_reducible refine an ?_ ?_);exact Au))
  exact⟨_,List.Sublist.refl _,0,by decide,.inr ⟨rfl,rfl⟩⟩
 ·simp only[go_sem]
  refine Sd ?_
  refine AWp.of ?_;simp only[go_sem,m1,m2,m3,m4,m5,m6]
  refine AOp.nextMap (ks:=[atmV x]) (vs:=[ai 1]) (vis:=[0]) (b:=bi) rfl ?_ rfl (if_pos rfl) (fun h => ?_) (fun i hi hn=>absurd hi (by simp at hn ⊢;omega))
  ·intro i hi;cases hi;decide
  simp only[go_sem]
  repeat(first|((with_reducible refine AWp.ofC ?_ ?_);exact rfl;simp only[go_sem,m1,m2,m3,m4,m5,m6,hm6,n1,n2,n3,n4,n5])|((with_reducible refine an ?_ ?_);exact Au))
  refine ret_view [false,false,true,false] ?_;simp only[go_sem,m1,m2,m3,m4,m5,m6,hm6,n1,n2,n3,n4,n5]
  exact .mkTup (Vws.cons (.mkAgg (Vws.cons (.refl _) (Vws.cons (.lm (if_pos rfl) rfl (Vws.refl _).2) .nil))) (Vws.refl _))
theorem classify_linN (n p q:Int) (s:ByteArray):PC Proofs.Tryz.prog 92 [aPd (.mk 1 n p q s [])] (.tup [.agg [ai n,.rm [] []],ab true]):=by
 have hz:=classify_zero
 simp only[aPd_mk,List.map_nil]
 refine PC.enter 114 [.cell 2 97,.tmp 3] [1] Proofs.Tryz.func92 rfl rfl rfl rfl rfl (by simp) (AWp.of ?_);simp only[go_sem]
 intro b2
 refine Wk ?_
 refine AWp.range' 0 [4] [1,2,14,15] (fun i vs L=>vs=[anil]∧L=[(b2,.row 97 2 [.agg [ai 0,.v (.map none)]] 1)]) (by omega) rfl rfl rfl ⟨rfl,rfl⟩ ?_ ?_
 ·rintro i vs L hi;omega
 ·rintro vs L - ⟨rfl,rfl⟩
  simp only[go_sem]
  repeat(first|((with_reducible refine AWp.ofC ?_ ?_);exact rfl;simp only[go_sem,Int.reduceEq])|((with_reducible refine an ?_ ?_);exact Au))
  refine(MVal.nd (MVal.frame (Lm:=[]) (Lr:=_) hz.val)).mono ?_
  rintro r L ⟨hnd,L1,rfl,bm,rfl,rfl⟩
  have h1:¬bm=b2:=by simp at hnd;exact hnd
  have h2:¬b2=bm:=fun e=>h1 e.symm
  simp only[go_sem]
  intro b9 g1 g2
  have n1:¬b2=b9:=by omega
  have n2:¬b9=b2:=by omega
  have n3:¬bm=b9:=by omega
  have n4:¬b9=bm:=by omega
  refine Sd ?_
  refine W6 h1 h2 n1 n2 n3 n4 ?_
  refine ret_view [false,true,false] ?_;simp only[go_sem,h1,h2,n1,n2,n3,n4]
  exact .mkTup (Vws.cons (.mkAgg (Vws.cons (.refl _) (Vws.cons (.lm (if_pos rfl) rfl (Vws.refl _).2) .nil))) (Vws.refl _))
theorem classify_linV (n p q:Int) (s:ByteArray):PC Proofs.Tryz.prog 92 [aPd (.mk 2 n p q s [])] (.tup [.agg [ai 0,.rm [atmV (2,p,q,s)] [ai 1]],ab true]):=by
 have hz:=classify_zero
 have hkey:Value.agg #[.int .i64 2,.int .i64 p,.int .i64 q,.string s]=atmV (2,p,q,s):=rfl
 have hfit:=atmV_fits (2,p,q,s)
 simp only[aPd_mk,List.map_nil]
 generalize atmV (2,p,q,s)=kv at *
 refine PC.enter 114 [.cell 2 97,.tmp 3] [1] Proofs.Tryz.func92 rfl rfl rfl rfl rfl (by simp) (AWp.of ?_);simp only[go_sem]
 intro b2
 refine Wk ?_
 refine AWp.range' 0 [4] [1,2,14,15] (fun i vs L=>vs=[anil]∧L=[(b2,.row 97 2 [.agg [ai 0,.v (.map none)]] 1)]) (by omega) rfl rfl rfl ⟨rfl,rfl⟩ ?_ ?_
 ·rintro i vs L hi;omega
 ·rintro vs L - ⟨rfl,rfl⟩
  simp only[go_sem]
  repeat(first|((with_reducible refine AWp.ofC ?_ ?_);exact rfl;simp only[go_sem,Int.reduceEq])|((with_reducible refine an ?_ ?_);exact Au))
  refine(MVal.nd (MVal.frame (Lm:=[]) (Lr:=_) hz.val)).mono ?_
  rintro r L ⟨hnd,L1,rfl,bm,rfl,rfl⟩
  have h1:¬bm=b2:=by simp at hnd;exact hnd
  have h2:¬b2=bm:=fun e=>h1 e.symm
  simp only[go_sem]
  intro b9 g1 g2
  have n1:¬b2=b9:=by omega
  have n2:¬b9=b2:=by omega
  have n3:¬bm=b9:=by omega
  have n4:¬b9=bm:=by omega
  refine Sd ?_
  repeat(first|((with_reducible refine AWp.ofC ?_ ?_);exact rfl;simp only[go_sem,h1,h2,n1,n2,n3,n4,hkey,hfit,mput_nil])|((with_reducible refine an ?_ ?_);exact Au))
  refine ret_view [false,true,false] ?_;simp only[go_sem,h1,h2,n1,n2,n3,n4]
  exact .mkTup (Vws.cons (.mkAgg (Vws.cons (.refl _) (Vws.cons (.lm (if_pos rfl) rfl (Vws.refl _).2) .nil))) (Vws.refl _))
theorem classify_comparison (t:Pd):PC Proofs.Tryz.prog 91 [aPd t] (ab (decide (9≤t.kind∧t.kind≤12))):=by
 obtain⟨k,n,p,q,s,l⟩:=t
 show PC _ _ _ (ab (decide (9≤k∧k≤12)))
 generalize hb:decide (9≤k∧k≤12)=b
 simp only[aPd_mk]
 refine PC.enter 11 [.tmp 2] [1] Proofs.Tryz.func91 rfl rfl rfl rfl rfl (by simp) (AWp.of ?_);simp only[go_sem]
 refine Wk ?_
 refine ret_eq ?_;simp only[go_sem]
 rw[← hb]
 congr 2
 rw[Bool.eq_iff_iff];simp
theorem classify_comparedN (t:Pd) (h:¬(9≤t.kind∧t.kind≤12)):PC Proofs.Tryz.prog 53 [aPd t] (.tup [.agg [ai 0,.v (.map none)],ab false]):=by
 have h1:=classify_comparison t
 rw[decide_eq_false h] at h1
 obtain⟨k,n,p,q,s,l⟩:=t
 simp only[aPd_mk] at *
 refine PC.enter 40 [.cell 2 97,.tmp 3] [1,4,6] Proofs.Tryz.func53 rfl rfl rfl rfl rfl (by simp) (AWp.of ?_);simp only[go_sem]
 intro b2
 refine Wk ?_
 refine Sd ?_
 refine(h1).val.use ?_;simp only[go_sem]
 refine Wk ?_
 refine ret_eq ?_;simp only[go_sem]
def cmpX (m:Int) (p:Int) (s:ByteArray):Pd:=.mk 12 0 0 0 ByteArray.empty [.mk 1 m 0 0 ByteArray.empty [],.mk 2 0 p 0 s []]
theorem classify_comparedX (m p:Int) (s:ByteArray) (hm:NumB m):PC Proofs.Tryz.prog 53 [aPd (cmpX m p s)] (.tup [.agg [ai m,.rm [atmV (2,p,0,s)] [ai (-1)]],ab true]):=by
 have h1:=classify_comparison (cmpX m p s)
 rw[decide_eq_true (show 9≤(cmpX m p s).kind∧(cmpX m p s).kind≤12 from ⟨(by decide:(9:Int)≤12),(by decide:(12:Int)≤12)⟩)] at h1
 have h2:=classify_linN m 0 0 ByteArray.empty
 have h3:=classify_linV 0 p 0 s
 have h4:=classify_addX m (2,p,0,s) hm
 unfold cmpX at *
 simp only[aPd_mk,List.map_cons,List.map_nil] at *
 generalize atmV (2,p,0,s)=kv at *
 refine PC.enter 40 [.cell 2 97,.tmp 3] [1,4,6] Proofs.Tryz.func53 rfl rfl rfl rfl rfl (by simp) (AWp.of ?_);simp only[go_sem]
 intro b2
 refine Wk ?_
 refine Sd ?_
 refine(h1).val.use ?_;simp only[go_sem]
 refine Wk ?_
 refine Sd ?_
 refine(h2).val.use ?_;simp only[go_sem]
 refine Wk ?_
 intro b4 g4
 have n1:¬b2=b4:=by omega
 have n2:¬b4=b2:=by omega
 try simp only[go_sem,n1,n2]
 refine Sd ?_
 refine W2 n1 n2 ?_
 refine Sd ?_
 refine(h3).val.use ?_;simp only[go_sem]
 refine W2 n1 n2 ?_
 intro b6 g6
 have n3:¬b2=b6:=by omega
 have n4:¬b6=b2:=by omega
 try simp only[go_sem,n3,n4]
 refine Sd ?_
 refine W2 n3 n4 ?_
 refine Sd ?_
 refine(h4).val.use ?_;simp only[go_sem]
 refine Wk ?_
 refine ret_eq ?_;simp only[go_sem]
theorem classify_countsX (m p:Int) (s:ByteArray) (sg:Int):PC Proofs.Tryz.prog 109 [.agg [ai m,.rm [atmV (2,p,0,s)] [ai (-1)]],ai sg] (ab false):=by
 have hzv:=zav_atmV (2,p,0,s)
 generalize hkv:atmV (2,p,0,s)=kv at *
 refine PC.enter 24 [.tmp 4] [2,5] Proofs.Tryz.func109 rfl rfl rfl rfl rfl (by simp) (AWp.of ?_);simp only[go_sem]
 refine Wk ?_
 refine AOp.rangeMap (kt:=101) (et:=3) rfl tinfo_atoms (fun i hi=>by cases hi;decide) rfl ?_
 intro bi g3
 simp only[go_sem] at g3 ⊢
 refine Wk ?_
 refine AWp.block (AWp.loopN [] [1,9] (fun m vs L=>m=1∧vs=[]∧L=[(bi,.iter [kv] [ai (-1)] [])]) 1 ⟨rfl,rfl,rfl⟩ ?_)
 rintro m vs L - ⟨rfl,rfl,rfl⟩
 simp only[go_sem]
 refine Sd ?_
 refine AWp.of ?_;simp only[go_sem]
 refine AOp.nextMap (ks:=[kv]) (vs:=[ai (-1)]) (vis:=[]) (b:=bi) rfl ?_ rfl (if_pos rfl) (fun h=>absurd (h 0 (by simp)) (by simp)) ?_
 ·intro i hi;cases hi;decide
 intro i hi hn
 have:i=0:=by simp at hi;exact hi
 subst this
 simp only[go_sem]
 refine Wk ?_
 refine AOp.entryMap (ks:=[kv]) (vs:=[ai (-1)]) (vis:=[]) (i:=0) (b:=bi) rfl ?_ rfl (if_pos rfl) ?_
 ·intro i hi;cases hi;decide
 simp only[go_sem,List.getD_cons_zero,hzv]
 intro b5 g4
 have n1:¬bi=b5:=by omega
 have n2:¬b5=bi:=by omega
 refine Sd ?_
 repeat(first|((with_reducible refine AWp.ofC ?_ ?_);exact rfl;simp only[go_sem,n1,n2,Int.reduceEq])|((with_reducible refine an ?_ ?_);exact Au))
 refine ret_eq ?_;simp only[go_sem]
theorem classify_boundedN (t:Pd) (h:¬(9≤t.kind∧t.kind≤12)) (sg:Int):PC Proofs.Tryz.prog 67 [aPd t,ai sg] (ab false):=by
 have h1:=classify_comparedN t h
 obtain⟨k,n,p,q,s,l⟩:=t
 simp only[aPd_mk] at *
 refine PC.enter 30 [.tmp 4] [2,5,19] Proofs.Tryz.func67 rfl rfl rfl rfl rfl (by simp) (AWp.of ?_);simp only[go_sem]
 refine Wk ?_
 refine Sd ?_
 refine(h1).val.use ?_;simp only[go_sem]
 refine Wk ?_
 intro b5
 refine Sd ?_
 repeat(first|(with_reducible refine AWp.seq ?_)|(with_reducible refine AWp.block ?_))
 refine AWp.mix mixed [0,1,2,3,4,5,6,7,8,9,10,11,12,13,14,15,16,17,18] .done (by kernel_rfl) ?_;simp only[go_sem]
 refine GCall.use .any (fun h=>h.elim) ?_
 simp only[go_sem]
 refine GCall.use (ab false) (fun h=>h.elim) ?_
 simp only[go_sem]
 refine GCall.use (ab false) (fun h=>False.elim (by simp at h)) ?_
 simp only[go_sem]
 refine Wk ?_
 refine ret_eq ?_;simp only[go_sem]
theorem classify_boundedX (m p:Int) (s:ByteArray) (hm:NumB m) (sg:Int):PC Proofs.Tryz.prog 67 [aPd (cmpX m p s),ai sg] (ab false):=by
 have h1:=classify_comparedX m p s hm
 have h2:=classify_is [11,12]
 have h3:=classify_is1 [11,12] (by decide) (cmpX m p s)
 have h4:=classify_countsX m p s sg
 have hk:([11,12]:List Int).any (fun x=>decide ((cmpX m p s).kind=x))=true:=by
  show ([11,12]:List Int).any (fun x=>decide ((12:Int)=x))=true
  decide
 rw[hk] at h3
 have h3:=PC.clo (args:=[_]) (caps:=[_]) h3
 unfold cmpX at *
 simp only[aPd_mk,List.map_cons,List.map_nil] at *
 generalize atmV (2,p,0,s)=kv at *
 refine PC.enter 30 [.tmp 4] [2,5,19] Proofs.Tryz.func67 rfl rfl rfl rfl rfl (by simp) (AWp.of ?_);simp only[go_sem]
 refine Wk ?_
 refine Sd ?_
 refine(h1).val.use ?_;simp only[go_sem]
 refine Wk ?_
 intro b5
 refine Sd ?_
 have e1:¬((1:Nat):Int)=0:=by decide
 repeat(first|(with_reducible refine AWp.seq ?_)|(with_reducible refine AWp.block ?_))
 refine AWp.mix mixed [0,1,2,3,4,5,6,7,8,9,10,11,12,13,14,15,16,17,18] .done (by kernel_rfl) ?_;simp only[go_sem,e1]
 refine Sd ?_
 refine GCall.use (.clo 107 [.rp 1 [.sl 1 [ai 11,ai 12]] 0 0]) (fun _=>⟨At,(h2).val.use ⟨rfl,rfl⟩⟩) ?_;simp only[go_sem,e1]
 refine Sd ?_
 refine GCall.use (ab true) (fun _=>⟨At,h3.use ⟨rfl,rfl⟩⟩) ?_
 simp only[go_sem,e1]
 refine Sd ?_
 refine Sd ?_
 refine GCall.use (ab false) (fun _=>⟨At,(h4).val.use ⟨rfl,rfl⟩⟩) ?_;simp only[go_sem,e1]
 refine Sd ?_
 refine W1 e1 ?_
 refine ret_eq ?_;simp only[go_sem]
def sX:ByteArray:=⟨#[120]⟩
def sY:ByteArray:=⟨#[121]⟩
def vX:Pd:=.mk 2 0 0 0 sX []
def vY:Pd:=.mk 2 0 1 0 sY []
def nm3:Pd:=.mk 1 3 0 0 ByteArray.empty []
def nm1:Pd:=.mk 1 1 0 0 ByteArray.empty []
def cmpA:Pd:=cmpX 3 0 sX
def cmpB:Pd:=.mk 10 0 0 0 ByteArray.empty [vY,nm1]
def exN:Pd:=.mk 16 0 0 0 ByteArray.empty [cmpA,cmpB]
def exP:Pd:=.mk 15 0 0 0 ByteArray.empty [.mk 17 0 0 0 ByteArray.empty [.mk 11 0 0 0 ByteArray.empty [vX,nm3],.mk 9 0 0 0 ByteArray.empty [vY,nm1]]]
def exT:List Pr:=[⟨⟨#[112]⟩,[(sX,0)],[]⟩,⟨⟨#[113]⟩,[(sY,0)],[]⟩]
theorem exN_normal:normF exP false=exN:=by rfl
theorem loc_A:locR cmpA=(0,true):=by rfl
theorem loc_B:locR cmpB=(1,true):=by rfl
theorem loc_N:(locR exN).2=false:=by rfl
theorem prt_N16:prtF 16 exN=([cmpA,cmpB],true):=by rfl
theorem prt_N17:prtF 17 exN=([],false):=by rfl
theorem jn_N:jnL 2 16 13 exN=[cmpA,cmpB]:=by rfl
theorem exN_loc:allB locB exN=true:=by decide
theorem exT_valid:validF exT=true:=by
 unfold validF faultF
 rw[if_neg (by decide),show procFirst exT=none from rfl,show evFirst exT=none from rfl,show msgF exT=none from rfl,cycF_rank (fun x=>x.2) (by decide)]
 rfl
theorem exT_sm:Sm exT:=⟨by decide,by decide,by decide,by decide⟩
theorem exP_formed:formedB exP=true:=by decide
theorem exP_typed:typedB exP=true:=by decide
theorem exP_prd:prdF exP=0:=by
 unfold prdF
 rw[exP_formed,exP_typed]
 rfl
theorem exP_check:checkF exT exP=0:=by
 unfold checkF
 rw[exT_valid,exP_formed,exP_typed,show allB (resB exT) exP=true from by decide,show fitB exT exP=true from by rfl]
 rfl
theorem szA:szF cmpA≤1000000:=by decide
theorem szB:szF cmpB≤1000000:=by decide
theorem szN:szF exN≤1000000:=by decide
theorem notcmpN:¬(9≤exN.kind∧exN.kind≤12):=by decide
theorem classify_stableA:PC Proofs.Tryz.prog 36 [aPd cmpA] (ab false):=by
 have h1:=classify_boundedX 3 0 sX (by decide) (-1)
 show PC _ _ [aPd (cmpX 3 0 sX)] _
 unfold cmpX at *
 simp only[aPd_mk] at *
 refine PC.enter 26 [.tmp 2] [1] Proofs.Tryz.func36 rfl rfl rfl rfl rfl (by simp) (AWp.of ?_);simp only[go_sem]
 repeat(first|((with_reducible refine AWp.ofC ?_ ?_);exact rfl;simp only[go_sem,Int.reduceEq])|((with_reducible refine an ?_ ?_);exact Au))
 refine Sd ?_
 refine(h1).val.use ?_;simp only[go_sem]
 refine Wk ?_
 refine ret_eq ?_;simp only[go_sem]
theorem classify_stableN:PC Proofs.Tryz.prog 36 [aPd exN] (ab false):=by
 have h1:=classify_stableA
 have hA:aPd cmpA = .agg [ai 12,ai 0,ai 0,ai 0,astr ByteArray.empty,.sl 6 ([.mk 1 3 0 0 ByteArray.empty [],.mk 2 0 0 0 sX []].map aPd)]:=by unfold cmpA cmpX;rw[aPd_mk]
 have hN:aPd exN = .agg [ai 16,ai 0,ai 0,ai 0,astr ByteArray.empty,.sl 6 [aPd cmpA,aPd cmpB]]:=by unfold exN;rw[aPd_mk];rfl
 rw[hN]
 generalize aPd cmpB=B at *
 rw[hA] at h1 ⊢
 generalize AV.sl 6 ([.mk 1 3 0 0 ByteArray.empty [],.mk 2 0 0 0 sX []].map aPd)=X at *
 refine PC.enter 26 [.tmp 2] [1] Proofs.Tryz.func36 rfl rfl rfl rfl rfl (by simp) (AWp.of ?_);simp only[go_sem]
 repeat(first|((with_reducible refine AWp.ofC ?_ ?_);exact rfl;simp only[go_sem,Int.reduceEq])|((with_reducible refine an ?_ ?_);exact Au))
 refine Sd ?_
 refine(h1).val.use ?_;simp only[go_sem]
 refine GCall.use .any (fun h=>absurd h (by simp)) ?_
 simp only[go_sem]
 refine Wk ?_
 refine ret_eq ?_;simp only[go_sem]
theorem classify_bothN (t:Pd) (h:¬(9≤t.kind∧t.kind≤12)):PC Proofs.Tryz.prog 68 [aPd t] (ab false):=by
 have h1:=classify_comparedN t h
 obtain⟨k,n,p,q,s,l⟩:=t
 simp only[aPd_mk] at *
 refine PC.enter 74 [.tmp 2] [1,3,8] Proofs.Tryz.func68 rfl rfl rfl rfl rfl (by simp) (AWp.of ?_);simp only[go_sem]
 refine Wk ?_
 refine Sd ?_
 refine(h1).val.use ?_;simp only[go_sem]
 refine Wk ?_
 intro b3
 refine Sd ?_
 refine Wk ?_
 refine ret_eq ?_;simp only[go_sem]
theorem classify_sumN (t:Pd) (h:¬(9≤t.kind∧t.kind≤12)):PC Proofs.Tryz.prog 27 [aPd t] (.tup [anil,ai 0,ai 0,ab false]):=by
 have h1:=classify_comparedN t h
 obtain⟨k,n,p,q,s,l⟩:=t
 simp only[aPd_mk] at *
 refine PC.enter 52 [.tmp 2,.tmp 3,.tmp 4,.tmp 5] [1,6,9,42] Proofs.Tryz.func27 rfl rfl rfl rfl rfl (by simp) (AWp.of ?_);simp only[go_sem]
 refine Wk ?_
 refine Sd ?_
 refine(h1).val.use ?_;simp only[go_sem]
 refine Wk ?_
 intro b3
 refine Sd ?_
 refine Wk ?_
 refine ret_eq ?_;simp only[go_sem]
theorem classify_meetsL (t:Pd) (hz:szF t≤1000000) (h:(locR t).2=true):PC Proofs.Tryz.prog 34 [aPd t] (ab true):=by
 have h1:=classify_local t hz
 rw[h] at h1
 generalize (locR t).1=pr at *
 obtain⟨k,n,p,q,s,l⟩:=t
 simp only[aPd_mk] at *
 refine PC.enter 43 [.tmp 2] [1] Proofs.Tryz.func34 rfl rfl rfl rfl rfl (by simp) (AWp.of ?_);simp only[go_sem]
 refine Wk ?_
 refine Sd ?_
 refine(h1).val.use ?_;simp only[go_sem]
 refine Wk ?_
 repeat(refine GCall.use (ab false) (fun h=>absurd h (by simp)) ?_;simp only[go_sem])
 refine Wk ?_
 refine ret_eq ?_;simp only[go_sem]
theorem classify_joinsL (t:Pd) (hz:szF t≤1000000) (h:(locR t).2=true):PC Proofs.Tryz.prog 35 [aPd t] (ab true):=by
 have h1:=classify_local t hz
 rw[h] at h1
 generalize (locR t).1=pr at *
 obtain⟨k,n,p,q,s,l⟩:=t
 simp only[aPd_mk] at *
 refine PC.enter 38 [.tmp 2] [1] Proofs.Tryz.func35 rfl rfl rfl rfl rfl (by simp) (AWp.of ?_);simp only[go_sem]
 refine Wk ?_
 refine Sd ?_
 refine(h1).val.use ?_;simp only[go_sem]
 refine Wk ?_
 repeat(refine GCall.use (ab false) (fun h=>absurd h (by simp)) ?_;simp only[go_sem])
 refine Wk ?_
 refine ret_eq ?_;simp only[go_sem]
theorem aPd_ag (k n p q:Int) (s:ByteArray) (l:List Pd):∃X,aPd (.mk k n p q s l) = .agg [ai k,ai n,ai p,ai q,astr s,X]:=⟨_,aPd_mk ..⟩
theorem classify_meetsN:PC Proofs.Tryz.prog 34 [aPd exN] (ab true):=by
 have h1:=classify_local exN szN
 rw[loc_N] at h1
 have h2:=classify_boundedN exN notcmpN 1
 have h3:=classify_bothN exN notcmpN
 have h4:=classify_meetsL cmpA szA (by rw[loc_A])
 have h5:=classify_meetsL cmpB szB (by rw[loc_B])
 have hN:aPd exN = .agg [ai 16,ai 0,ai 0,ai 0,astr ByteArray.empty,.sl 6 [aPd cmpA,aPd cmpB]]:=by unfold exN;rw[aPd_mk];rfl
 rw[hN] at h1 h2 h3 ⊢
 generalize (locR exN).1=pr at *
 obtain⟨XA,hA⟩:∃X,aPd cmpA = .agg [ai 12,ai 0,ai 0,ai 0,astr ByteArray.empty,X]:=aPd_ag ..
 obtain⟨XB,hB⟩:∃X,aPd cmpB = .agg [ai 10,ai 0,ai 0,ai 0,astr ByteArray.empty,X]:=aPd_ag ..
 rw[hA,hB] at h1 h2 h3
 rw[hA] at h4
 rw[hB] at h5
 rw[hA,hB]
 refine PC.enter 43 [.tmp 2] [1] Proofs.Tryz.func34 rfl rfl rfl rfl rfl (by simp) (AWp.of ?_);simp only[go_sem]
 refine Wk ?_
 refine Sd ?_
 refine(h1).val.use ?_;simp only[go_sem]
 refine Wk ?_
 refine Sd ?_
 refine Gc h2 ?_
 refine Sd ?_
 refine Sd ?_
 refine Gc h3 ?_
 refine Sd ?_
 refine Sd ?_
 refine GCall.use (ab true) (fun _=>⟨At,(h4).val.use ⟨rfl,rfl⟩⟩) ?_;simp only[go_sem,Int.reduceEq]
 refine Sd ?_
 refine Sd ?_
 refine GCall.use (ab true) (fun _=>⟨At,(h5).val.use ⟨rfl,rfl⟩⟩) ?_;simp only[go_sem,Int.reduceEq]
 refine Sd ?_
 repeat(first|((with_reducible refine AWp.ofC ?_ ?_);exact rfl;simp only[go_sem,Int.reduceEq])|((with_reducible refine an ?_ ?_);exact Au))
 refine ret_eq ?_;simp only[go_sem]
theorem classify_joinsN:PC Proofs.Tryz.prog 35 [aPd exN] (ab true):=by
 have h1:=classify_local exN szN
 rw[loc_N] at h1
 have h2:=classify_stableN
 have h3:=classify_bothN exN notcmpN
 have h4:=classify_joinsL cmpA szA (by rw[loc_A])
 have h5:=classify_joinsL cmpB szB (by rw[loc_B])
 have hN:aPd exN = .agg [ai 16,ai 0,ai 0,ai 0,astr ByteArray.empty,.sl 6 [aPd cmpA,aPd cmpB]]:=by unfold exN;rw[aPd_mk];rfl
 rw[hN] at h1 h2 h3 ⊢
 generalize (locR exN).1=pr at *
 obtain⟨XA,hA⟩:∃X,aPd cmpA = .agg [ai 12,ai 0,ai 0,ai 0,astr ByteArray.empty,X]:=aPd_ag ..
 obtain⟨XB,hB⟩:∃X,aPd cmpB = .agg [ai 10,ai 0,ai 0,ai 0,astr ByteArray.empty,X]:=aPd_ag ..
 rw[hA,hB] at h1 h2 h3
 rw[hA] at h4
 rw[hB] at h5
 rw[hA,hB]
 refine PC.enter 38 [.tmp 2] [1] Proofs.Tryz.func35 rfl rfl rfl rfl rfl (by simp) (AWp.of ?_);simp only[go_sem]
 refine Wk ?_
 refine Sd ?_
 refine(h1).val.use ?_;simp only[go_sem]
 refine Wk ?_
 refine Sd ?_
 refine Gc h2 ?_
 refine Sd ?_
 refine Sd ?_
 refine Gc h3 ?_
 refine Sd ?_
 refine Sd ?_
 refine GCall.use (ab true) (fun _=>⟨At,(h4).val.use ⟨rfl,rfl⟩⟩) ?_;simp only[go_sem,Int.reduceEq]
 refine Sd ?_
 refine Sd ?_
 refine GCall.use (ab true) (fun _=>⟨At,(h5).val.use ⟨rfl,rfl⟩⟩) ?_;simp only[go_sem,Int.reduceEq]
 refine Sd ?_
 repeat(first|((with_reducible refine AWp.ofC ?_ ?_);exact rfl;simp only[go_sem,Int.reduceEq])|((with_reducible refine an ?_ ?_);exact Au))
 refine ret_eq ?_;simp only[go_sem]
end Go.AL
end
