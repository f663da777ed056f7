/- Texts of this claim's proof: WI9, WI10, WI11, WI12, WI13, WI16, WI17, WRt, WRt2. No condition. -/
import Derived.Test.YtbdofbhocjfbfaaGreatDoorM9
import Derived.Test.YtbdofbhocjfbfaaGreatDoorM7
import Derived.Test.YtbdofbhocjfbfaaGreatDoorM8
import Derived.Test.YtbdofbhocjfbfaaGreatDoorM4
section
namespace Go.AL
open Go Go.RowKit
set_option maxRecDepth 4000
abbrev Atm:=Int × Int × Int × ByteArray
def atmV (x:Atm):Value:=.agg #[.int .i64 x.1,.int .i64 x.2.1,.int .i64 x.2.2.1,.string x.2.2.2]
theorem atmV_fits (x:Atm):(KK.st [.int,.int,.int,.str]).fits (atmV x)=true:=rfl
theorem zav_atmV (x:Atm):zav (atmV x) = .agg [ai x.1,ai x.2.1,ai x.2.2.1,astr x.2.2.2]:=rfl
theorem tinfo_atoms:tinfo Proofs.Tryz.prog 115=some ⟨.map 121 3,1,8,.v (.map none)⟩:=by simp only[go_sem]
theorem atm_key (x:Atm):Value.agg #[.int .i64 x.1,.int .i64 x.2.1,.int .i64 x.2.2.1,.string x.2.2.2]=atmV x:=rfl
theorem mget_nil (k:Value) (z:AV):mget k [] [] z=z:=rfl
theorem mput_nil (k:Value) (x:AV):mput k x [] [] = .amap [k] [x]:=rfl
theorem classify_zero:MCalls Proofs.Tryz.prog 156 [] [] fun r L=>∃b,r = .agg [ai 0,.lm b]∧L=[(b,.amap [] [])]:=by
 refine MCalls.enter' 3 [.cell 0 117] [] Proofs.Tryz.func156 rfl rfl rfl rfl rfl (by simp) (AWp.of ?_);simp only[go_sem]
 intro b0
 refine Wk ?_
 intro b1 g1
 have n1:¬b0=b1:=by omega
 have n2:¬b1=b0:=by omega
 simp only[go_sem,n1,n2]
 refine Sd ?_
 refine W2 n1 n2 ?_
 refine ret_sub [(b1,.amap [] [])] (List.Sublist.cons_cons _ (List.nil_sublist _)) ?_
 simp only[go_sem,n1,n2]
 exact⟨b1,rfl,rfl⟩
theorem classify_addX (c:Int) (x:Atm) (hc:NumB c):PC Proofs.Tryz.prog 125 [.agg [ai c,.rm [] []],.agg [ai 0,.rm [atmV x] [ai 1]],ai (-1)] (.tup [.agg [ai c,.rm [atmV x] [ai (-1)]],ab true]):=by
 have hcl:=maps_Clone [] []
 have h0:=classify_add1 (-1) c 0 (by decide) hc (by decide)
 have h1:=classify_add1 (-1) 0 1 (by decide) (by decide) (by decide)
 have e0:sumF (-1) c 0=(c,true):=by
  have:mulF (-1) 0=(0,0):=by decide
  unfold sumF
  rw[this]
  simp [hc]
 have e1:sumF (-1) 0 1=(-1,true):=by decide
 rw[e0] at h0
 rw[e1] at h1
 refine PC.enter 63 [.cell 6 117,.tmp 7] [3,4,5,11] Proofs.Tryz.func125 rfl rfl rfl rfl rfl (by simp) (AWp.of ?_);simp only[go_sem]
 intro b6
 refine Wk ?_
 refine(MVal.nd (MVal.frame (Lm:=[]) (Lr:=_) hcl.val)).mono ?_
 rintro r L ⟨hnd,L1,rfl,bm,rfl,rfl⟩
 simp only[go_sem]
 intro b8 g1 g2
 have hm6:¬bm=b6:=by simp at hnd;exact hnd
 have n1:¬b6=bm:=fun e=>hm6 e.symm
 have n2:¬b8=bm:=by omega
 have n3:¬bm=b8:=by omega
 have n4:¬b8=b6:=by omega
 have n5:¬b6=b8:=by omega
 have h0:=PC.clo (args:=[_,_]) (caps:=[_]) h0
 have h1:=PC.clo (args:=[_,_]) (caps:=[_]) h1
 refine Sd ?_
 refine W6 hm6 n1 n2 n3 n4 n5 ?_
 refine Sd ?_
 refine(h0).use ?_;simp only[go_sem,hm6,n1,n2,n3,n4,n5]
 refine W6 hm6 n1 n2 n3 n4 n5 ?_
 refine AOp.rangeMap (kt:=121) (et:=3) rfl (tinfo_atoms) (fun i hi=>by cases hi;decide) rfl ?_
 intro bi g3
 simp only[go_sem] at g3 ⊢
 have m1:¬bi=b8:=by omega
 have m2:¬b8=bi:=by omega
 have m3:¬bi=bm:=by omega
 have m4:¬bm=bi:=by omega
 have m5:¬bi=b6:=by omega
 have m6:¬b6=bi:=by omega
 refine W6 hm6 n1 n2 n3 n4 n5 ?_
 refine AWp.block (AWp.loopN [10] [6,8,9,32] (fun m vs L=>(m=1∧vs=[ab true]∧L=[(bi,.iter [atmV x] [ai 1] []),(b8,.row 117 2 [.agg [ai c,.lm bm]] 1),(bm,.amap [] []),(b6,.row 117 2 [.agg [ai 0,.v (.map none)]] 1)]) ∨
  (m=0∧vs=[ab true]∧L=[(bi,.iter [atmV x] [ai 1] [0]),(b8,.row 117 2 [.agg [ai c,.lm bm]] 1),(bm,.amap [atmV x] [ai (-1)]),(b6,.row 117 2 [.agg [ai 0,.v (.map none)]] 1)])) 1 (.inl ⟨rfl,rfl,rfl⟩) ?_)
 rintro m vs L - (⟨rfl,rfl,rfl⟩|⟨rfl,rfl,rfl⟩)
 ·simp only[go_sem]
  refine Sd ?_
  refine AWp.of ?_;simp only[go_sem,m1,m2,m3,m4,m5,m6]
  refine AOp.nextMap (ks:=[atmV x]) (vs:=[ai 1]) (vis:=[]) (b:=bi) rfl ?_ rfl (by simp only[go_sem]) (fun h=>absurd (h 0 (by simp)) (by simp)) ?_
  ·intro i hi;cases hi;decide
  intro i hi hn
  have:i=0:=by simp at hi;exact hi
  subst this
  simp only[go_sem]
  refine W6 m1 m2 m3 m4 m5 m6 ?_
  refine AOp.entryMap (ks:=[atmV x]) (vs:=[ai 1]) (vis:=[]) (i:=0) (b:=bi) rfl ?_ rfl (if_pos rfl) ?_
  ·intro i hi;cases hi;decide
  simp only[go_sem,List.getD_cons_zero,zav_atmV]
  intro b11 g4 g5 g6 g7
  have q1:¬bi=b11:=by omega
  have q2:¬b11=bi:=by omega
  have q3:¬b8=b11:=by omega
  have q4:¬b11=b8:=by omega
  have q5:¬bm=b11:=by omega
  have q6:¬b11=bm:=by omega
  have q7:¬b6=b11:=by omega
  have q8:¬b11=b6:=by omega
  refine Sd ?_
  repeat(first|((with_reducible refine AWp.ofC ?_ ?_);exact rfl;simp only[go_sem,atm_key,atmV_fits,mget_nil,m1,m2,m3,m4,m5,m6,hm6,n1,n2,n3,n4,n5,q1,q2,q3,q4,q5,q6,q7,q8])|((with_reducible refine an ?_ ?_);exact Au))
  refine Sd ?_
  refine(h1).use ?_;simp only[go_sem,atm_key,atmV_fits,mget_nil,m1,m2,m3,m4,m5,m6,hm6,n1,n2,n3,n4,n5,q1,q2,q3,q4,q5,q6,q7,q8]
  repeat(first|((with_reducible refine AWp.ofC ?_ ?_);exact rfl;simp only[go_sem,atm_key,atmV_fits,mget_nil,mput_nil,m1,m2,m3,m4,m5,m6,hm6,n1,n2,n3,n4,n5,q1,q2,q3,q4,q5,q6,q7,q8])|((with_reducible refine an ?_ ?_);exact Au))
  exact⟨_,List.Sublist.refl _,0,by decide,.inr ⟨rfl,rfl⟩⟩
 ·simp only[go_sem]
  refine Sd ?_
  refine AWp.of ?_;simp only[go_sem,m1,m2,m3,m4,m5,m6]
  refine AOp.nextMap (ks:=[atmV x]) (vs:=[ai 1]) (vis:=[0]) (b:=bi) rfl ?_ rfl (if_pos rfl) (fun h => ?_) (fun i hi hn=>absurd hi (by simp at hn ⊢;omega))
  ·intro i hi;cases hi;decide
  simp only[go_sem]
  repeat(first|((with_reducible refine AWp.ofC ?_ ?_);exact rfl;simp only[go_sem,m1,m2,m3,m4,m5,m6,hm6,n1,n2,n3,n4,n5])|((with_reducible refine an ?_ ?_);exact Au))
  refine ret_view [false,false,true,false] ?_;simp only[go_sem,m1,m2,m3,m4,m5,m6,hm6,n1,n2,n3,n4,n5]
  exact .mkTup (Vws.cons (.mkAgg (Vws.cons (.refl _) (Vws.cons (.lm (if_pos rfl) rfl (Vws.refl _).2) .nil))) (Vws.refl _))
theorem classify_linN (n p q:Int) (s:ByteArray):PC Proofs.Tryz.prog 124 [aPd (.mk 1 n p q s [])] (.tup [.agg [ai n,.rm [] []],ab true]):=by
 have hz:=classify_zero
 simp only[aPd_mk,List.map_nil]
 refine PC.enter 114 [.cell 2 117,.tmp 3] [1] Proofs.Tryz.func124 rfl rfl rfl rfl rfl (by simp) (AWp.of ?_);simp only[go_sem]
 intro b2
 refine Wk ?_
 refine AWp.range' 0 [4] [1,2,14,15] (fun i vs L=>vs=[anil]∧L=[(b2,.row 117 2 [.agg [ai 0,.v (.map none)]] 1)]) (by omega) rfl rfl rfl ⟨rfl,rfl⟩ ?_ ?_
 ·rintro i vs L hi;omega
 ·rintro vs L - ⟨rfl,rfl⟩
  simp only[go_sem]
  repeat(first|((with_reducible refine AWp.ofC ?_ ?_);exact rfl;simp only[go_sem,Int.reduceEq])|((with_reducible refine an ?_ ?_);exact Au))
  refine(MVal.nd (MVal.frame (Lm:=[]) (Lr:=_) hz.val)).mono ?_
  rintro r L ⟨hnd,L1,rfl,bm,rfl,rfl⟩
  have h1:¬bm=b2:=by simp at hnd;exact hnd
  have h2:¬b2=bm:=fun e=>h1 e.symm
  simp only[go_sem]
  intro b9 g1 g2
  have n1:¬b2=b9:=by omega
  have n2:¬b9=b2:=by omega
  have n3:¬bm=b9:=by omega
  have n4:¬b9=bm:=by omega
  refine Sd ?_
  refine W6 h1 h2 n1 n2 n3 n4 ?_
  refine ret_view [false,true,false] ?_;simp only[go_sem,h1,h2,n1,n2,n3,n4]
  exact .mkTup (Vws.cons (.mkAgg (Vws.cons (.refl _) (Vws.cons (.lm (if_pos rfl) rfl (Vws.refl _).2) .nil))) (Vws.refl _))
theorem classify_linV (n p q:Int) (s:ByteArray):PC Proofs.Tryz.prog 124 [aPd (.mk 2 n p q s [])] (.tup [.agg [ai 0,.rm [atmV (2,p,q,s)] [ai 1]],ab true]):=by
 have hz:=classify_zero
 have hkey:Value.agg #[.int .i64 2,.int .i64 p,.int .i64 q,.string s]=atmV (2,p,q,s):=rfl
 have hfit:=atmV_fits (2,p,q,s)
 simp only[aPd_mk,List.map_nil]
 generalize atmV (2,p,q,s)=kv at *
 refine PC.enter 114 [.cell 2 117,.tmp 3] [1] Proofs.Tryz.func124 rfl rfl rfl rfl rfl (by simp) (AWp.of ?_);simp only[go_sem]
 intro b2
 refine Wk ?_
 refine AWp.range' 0 [4] [1,2,14,15] (fun i vs L=>vs=[anil]∧L=[(b2,.row 117 2 [.agg [ai 0,.v (.map none)]] 1)]) (by omega) rfl rfl rfl ⟨rfl,rfl⟩ ?_ ?_
 ·rintro i vs L hi;omega
 ·rintro vs L - ⟨rfl,rfl⟩
  simp only[go_sem]
  repeat(first|((with_reducible refine AWp.ofC ?_ ?_);exact rfl;simp only[go_sem,Int.reduceEq])|((with_reducible refine an ?_ ?_);exact Au))
  refine(MVal.nd (MVal.frame (Lm:=[]) (Lr:=_) hz.val)).mono ?_
  rintro r L ⟨hnd,L1,rfl,bm,rfl,rfl⟩
  have h1:¬bm=b2:=by simp at hnd;exact hnd
  have h2:¬b2=bm:=fun e=>h1 e.symm
  simp only[go_sem]
  intro b9 g1 g2
  have n1:¬b2=b9:=by omega
  have n2:¬b9=b2:=by omega
  have n3:¬bm=b9:=by omega
  have n4:¬b9=bm:=by omega
  refine Sd ?_
  repeat(first|((with_reducible refine AWp.ofC ?_ ?_);exact rfl;simp only[go_sem,h1,h2,n1,n2,n3,n4,hkey,hfit,mput_nil])|((with_reducible refine an ?_ ?_);exact Au))
  refine ret_view [false,true,false] ?_;simp only[go_sem,h1,h2,n1,n2,n3,n4]
  exact .mkTup (Vws.cons (.mkAgg (Vws.cons (.refl _) (Vws.cons (.lm (if_pos rfl) rfl (Vws.refl _).2) .nil))) (Vws.refl _))
theorem classify_comparison (t:Pd):PC Proofs.Tryz.prog 123 [aPd t] (ab (decide (9≤t.kind∧t.kind≤12))):=by
 obtain⟨k,n,p,q,s,l⟩:=t
 show PC _ _ _ (ab (decide (9≤k∧k≤12)))
 generalize hb:decide (9≤k∧k≤12)=b
 simp only[aPd_mk]
 refine PC.enter 11 [.tmp 2] [1] Proofs.Tryz.func123 rfl rfl rfl rfl rfl (by simp) (AWp.of ?_);simp only[go_sem]
 refine Wk ?_
 refine ret_eq ?_;simp only[go_sem]
 rw[← hb]
 congr 2
 rw[Bool.eq_iff_iff];simp
theorem classify_comparedN (t:Pd) (h:¬(9≤t.kind∧t.kind≤12)):PC Proofs.Tryz.prog 87 [aPd t] (.tup [.agg [ai 0,.v (.map none)],ab false]):=by
 have h1:=classify_comparison t
 rw[decide_eq_false h] at h1
 obtain⟨k,n,p,q,s,l⟩:=t
 simp only[aPd_mk] at *
 refine PC.enter 40 [.cell 2 117,.tmp 3] [1,4,6] Proofs.Tryz.func87 rfl rfl rfl rfl rfl (by simp) (AWp.of ?_);simp only[go_sem]
 intro b2
 refine Wk ?_
 refine Sd ?_
 refine(h1).val.use ?_;simp only[go_sem]
 refine Wk ?_
 refine ret_eq ?_;simp only[go_sem]
def cmpX (m:Int) (p:Int) (s:ByteArray):Pd:=.mk 12 0 0 0 ByteArray.empty [.mk 1 m 0 0 ByteArray.empty [],.mk 2 0 p 0 s []]
theorem classify_comparedX (m p:Int) (s:ByteArray) (hm:NumB m):PC Proofs.Tryz.prog 87 [aPd (cmpX m p s)] (.tup [.agg [ai m,.rm [atmV (2,p,0,s)] [ai (-1)]],ab true]):=by
 have h1:=classify_comparison (cmpX m p s)
 rw[decide_eq_true (show 9≤(cmpX m p s).kind∧(cmpX m p s).kind≤12 from ⟨(by decide:(9:Int)≤12),(by decide:(12:Int)≤12)⟩)] at h1
 have h2:=classify_linN m 0 0 ByteArray.empty
 have h3:=classify_linV 0 p 0 s
 have h4:=classify_addX m (2,p,0,s) hm
 unfold cmpX at *
 simp only[aPd_mk,List.map_cons,List.map_nil] at *
 generalize atmV (2,p,0,s)=kv at *
 refine PC.enter 40 [.cell 2 117,.tmp 3] [1,4,6] Proofs.Tryz.func87 rfl rfl rfl rfl rfl (by simp) (AWp.of ?_);simp only[go_sem]
 intro b2
 refine Wk ?_
 refine Sd ?_
 refine(h1).val.use ?_;simp only[go_sem]
 refine Wk ?_
 refine Sd ?_
 refine(h2).val.use ?_;simp only[go_sem]
 refine Wk ?_
 intro b4 g4
 have n1:¬b2=b4:=by omega
 have n2:¬b4=b2:=by omega
 try simp only[go_sem,n1,n2]
 refine Sd ?_
 refine W2 n1 n2 ?_
 refine Sd ?_
 refine(h3).val.use ?_;simp only[go_sem]
 refine W2 n1 n2 ?_
 intro b6 g6
 have n3:¬b2=b6:=by omega
 have n4:¬b6=b2:=by omega
 try simp only[go_sem,n3,n4]
 refine Sd ?_
 refine W2 n3 n4 ?_
 refine Sd ?_
 refine(h4).val.use ?_;simp only[go_sem]
 refine Wk ?_
 refine ret_eq ?_;simp only[go_sem]
theorem classify_countsX (m p:Int) (s:ByteArray) (sg:Int):PC Proofs.Tryz.prog 130 [.agg [ai m,.rm [atmV (2,p,0,s)] [ai (-1)]],ai sg] (ab false):=by
 have hzv:=zav_atmV (2,p,0,s)
 generalize hkv:atmV (2,p,0,s)=kv at *
 refine PC.enter 24 [.tmp 4] [2,5] Proofs.Tryz.func130 rfl rfl rfl rfl rfl (by simp) (AWp.of ?_);simp only[go_sem]
 refine Wk ?_
 refine AOp.rangeMap (kt:=121) (et:=3) rfl tinfo_atoms (fun i hi=>by cases hi;decide) rfl ?_
 intro bi g3
 simp only[go_sem] at g3 ⊢
 refine Wk ?_
 refine AWp.block (AWp.loopN [] [1,9] (fun m vs L=>m=1∧vs=[]∧L=[(bi,.iter [kv] [ai (-1)] [])]) 1 ⟨rfl,rfl,rfl⟩ ?_)
 rintro m vs L - ⟨rfl,rfl,rfl⟩
 simp only[go_sem]
 refine Sd ?_
 refine AWp.of ?_;simp only[go_sem]
 refine AOp.nextMap (ks:=[kv]) (vs:=[ai (-1)]) (vis:=[]) (b:=bi) rfl ?_ rfl (if_pos rfl) (fun h=>absurd (h 0 (by simp)) (by simp)) ?_
 ·intro i hi;cases hi;decide
 intro i hi hn
 have:i=0:=by simp at hi;exact hi
 subst this
 simp only[go_sem]
 refine Wk ?_
 refine AOp.entryMap (ks:=[kv]) (vs:=[ai (-1)]) (vis:=[]) (i:=0) (b:=bi) rfl ?_ rfl (if_pos rfl) ?_
 ·intro i hi;cases hi;decide
 simp only[go_sem,List.getD_cons_zero,hzv]
 intro b5 g4
 have n1:¬bi=b5:=by omega
 have n2:¬b5=bi:=by omega
 refine Sd ?_
 repeat(first|((with_reducible refine AWp.ofC ?_ ?_);exact rfl;simp only[go_sem,n1,n2,Int.reduceEq])|((with_reducible refine an ?_ ?_);exact Au))
 refine ret_eq ?_;simp only[go_sem]
theorem classify_boundedN (t:Pd) (h:¬(9≤t.kind∧t.kind≤12)) (sg:Int):PC Proofs.Tryz.prog 93 [aPd t,ai sg] (ab false):=by
 have h1:=classify_comparedN t h
 obtain⟨k,n,p,q,s,l⟩:=t
 simp only[aPd_mk] at *
 refine PC.enter 30 [.tmp 4] [2,5,19] Proofs.Tryz.func93 rfl rfl rfl rfl rfl (by simp) (AWp.of ?_);simp only[go_sem]
 refine Wk ?_
 refine Sd ?_
 refine(h1).val.use ?_;simp only[go_sem]
 refine Wk ?_
 intro b5
 refine Sd ?_
 repeat(first|(with_reducible refine AWp.seq ?_)|(with_reducible refine AWp.block ?_))
 refine AWp.mix mixed [0,1,2,3,4,5,6,7,8,9,10,11,12,13,14,15,16,17,18] .done (by kernel_rfl) ?_;simp only[go_sem]
 refine GCall.use .any (fun h=>h.elim) ?_
 simp only[go_sem]
 refine GCall.use (ab false) (fun h=>h.elim) ?_
 simp only[go_sem]
 refine GCall.use (ab false) (fun h=>False.elim (by simp at h)) ?_
 simp only[go_sem]
 refine Wk ?_
 refine ret_eq ?_;simp only[go_sem]
theorem classify_boundedX (m p:Int) (s:ByteArray) (hm:NumB m) (sg:Int):PC Proofs.Tryz.prog 93 [aPd (cmpX m p s),ai sg] (ab false):=by
 have h1:=classify_comparedX m p s hm
 have h2:=classify_is [11,12]
 have h3:=classify_is1 [11,12] (by decide) (cmpX m p s)
 have h4:=classify_countsX m p s sg
 have hk:([11,12]:List Int).any (fun x=>decide ((cmpX m p s).kind=x))=true:=by
  show ([11,12]:List Int).any (fun x=>decide ((12:Int)=x))=true
  decide
 rw[hk] at h3
 have h3:=PC.clo (args:=[_]) (caps:=[_]) h3
 unfold cmpX at *
 simp only[aPd_mk,List.map_cons,List.map_nil] at *
 generalize atmV (2,p,0,s)=kv at *
 refine PC.enter 30 [.tmp 4] [2,5,19] Proofs.Tryz.func93 rfl rfl rfl rfl rfl (by simp) (AWp.of ?_);simp only[go_sem]
 refine Wk ?_
 refine Sd ?_
 refine(h1).val.use ?_;simp only[go_sem]
 refine Wk ?_
 intro b5
 refine Sd ?_
 have e1:¬((1:Nat):Int)=0:=by decide
 repeat(first|(with_reducible refine AWp.seq ?_)|(with_reducible refine AWp.block ?_))
 refine AWp.mix mixed [0,1,2,3,4,5,6,7,8,9,10,11,12,13,14,15,16,17,18] .done (by kernel_rfl) ?_;simp only[go_sem,e1]
 refine Sd ?_
 refine GCall.use (.clo 121 [.rp 1 [.sl 1 [ai 11,ai 12]] 0 0]) (fun _=>⟨At,(h2).val.use ⟨rfl,rfl⟩⟩) ?_;simp only[go_sem,e1]
 refine Sd ?_
 refine GCall.use (ab true) (fun _=>⟨At,h3.use ⟨rfl,rfl⟩⟩) ?_
 simp only[go_sem,e1]
 refine Sd ?_
 refine Sd ?_
 refine GCall.use (ab false) (fun _=>⟨At,(h4).val.use ⟨rfl,rfl⟩⟩) ?_;simp only[go_sem,e1]
 refine Sd ?_
 refine W1 e1 ?_
 refine ret_eq ?_;simp only[go_sem]
def sX:ByteArray:=⟨#[120]⟩
def sY:ByteArray:=⟨#[121]⟩
def vX:Pd:=.mk 2 0 0 0 sX []
def vY:Pd:=.mk 2 0 1 0 sY []
def nm3:Pd:=.mk 1 3 0 0 ByteArray.empty []
def nm1:Pd:=.mk 1 1 0 0 ByteArray.empty []
def cmpA:Pd:=cmpX 3 0 sX
def cmpB:Pd:=.mk 10 0 0 0 ByteArray.empty [vY,nm1]
def exN:Pd:=.mk 16 0 0 0 ByteArray.empty [cmpA,cmpB]
def exP:Pd:=.mk 15 0 0 0 ByteArray.empty [.mk 17 0 0 0 ByteArray.empty [.mk 11 0 0 0 ByteArray.empty [vX,nm3],.mk 9 0 0 0 ByteArray.empty [vY,nm1]]]
def exT:List Pr:=[⟨⟨#[112]⟩,[(sX,0)],[]⟩,⟨⟨#[113]⟩,[(sY,0)],[]⟩]
theorem exN_normal:normF exP false=exN:=by rfl
theorem loc_A:locR cmpA=(0,true):=by rfl
theorem loc_B:locR cmpB=(1,true):=by rfl
theorem loc_N:(locR exN).2=false:=by rfl
theorem prt_N16:prtF 16 exN=([cmpA,cmpB],true):=by rfl
theorem prt_N17:prtF 17 exN=([],false):=by rfl
theorem jn_N:jnL 2 16 13 exN=[cmpA,cmpB]:=by rfl
theorem exN_loc:allB locB exN=true:=by decide
theorem exT_valid:validF exT=true:=by
 unfold validF faultF
 rw[if_neg (by decide),show procFirst exT=none from rfl,show evFirst exT=none from rfl,show msgF exT=none from rfl,cycF_rank (fun x=>x.2) (by decide)]
 rfl
theorem exT_sm:Sm exT:=⟨by decide,by decide,by decide,by decide⟩
theorem exP_formed:formedB exP=true:=by decide
theorem exP_typed:typedB exP=true:=by decide
theorem exP_prd:prdF exP=0:=by
 unfold prdF
 rw[exP_formed,exP_typed]
 rfl
theorem exP_check:checkF exT exP=0:=by
 unfold checkF
 rw[exT_valid,exP_formed,exP_typed,show allB (resB exT) exP=true from by decide,show fitB exT exP=true from by rfl]
 rfl
theorem szA:szF cmpA≤1000000:=by decide
theorem szB:szF cmpB≤1000000:=by decide
theorem szN:szF exN≤1000000:=by decide
theorem notcmpN:¬(9≤exN.kind∧exN.kind≤12):=by decide
theorem classify_stableA:PC Proofs.Tryz.prog 56 [aPd cmpA] (ab false):=by
 have h1:=classify_boundedX 3 0 sX (by decide) (-1)
 show PC _ _ [aPd (cmpX 3 0 sX)] _
 unfold cmpX at *
 simp only[aPd_mk] at *
 refine PC.enter 26 [.tmp 2] [1] Proofs.Tryz.func56 rfl rfl rfl rfl rfl (by simp) (AWp.of ?_);simp only[go_sem]
 repeat(first|((with_reducible refine AWp.ofC ?_ ?_);exact rfl;simp only[go_sem,Int.reduceEq])|((with_reducible refine an ?_ ?_);exact Au))
 refine Sd ?_
 refine(h1).val.use ?_;simp only[go_sem]
 refine Wk ?_
 refine ret_eq ?_;simp only[go_sem]
theorem classify_stableN:PC Proofs.Tryz.prog 56 [aPd exN] (ab false):=by
 have h1:=classify_stableA
 have hA:aPd cmpA = .agg [ai 12,ai 0,ai 0,ai 0,astr ByteArray.empty,.sl 6 ([.mk 1 3 0 0 ByteArray.empty [],.mk 2 0 0 0 sX []].map aPd)]:=by unfold cmpA cmpX;rw[aPd_mk]
 have hN:aPd exN = .agg [ai 16,ai 0,ai 0,ai 0,astr ByteArray.empty,.sl 6 [aPd cmpA,aPd cmpB]]:=by unfold exN;rw[aPd_mk];rfl
 rw[hN]
 generalize aPd cmpB=B at *
 rw[hA] at h1 ⊢
 generalize AV.sl 6 ([.mk 1 3 0 0 ByteArray.empty [],.mk 2 0 0 0 sX []].map aPd)=X at *
 refine PC.enter 26 [.tmp 2] [1] Proofs.Tryz.func56 rfl rfl rfl rfl rfl (by simp) (AWp.of ?_);simp only[go_sem]
 repeat(first|((with_reducible refine AWp.ofC ?_ ?_);exact rfl;simp only[go_sem,Int.reduceEq])|((with_reducible refine an ?_ ?_);exact Au))
 refine Sd ?_
 refine(h1).val.use ?_;simp only[go_sem]
 refine GCall.use .any (fun h=>absurd h (by simp)) ?_
 simp only[go_sem]
 refine Wk ?_
 refine ret_eq ?_;simp only[go_sem]
theorem classify_bothN (t:Pd) (h:¬(9≤t.kind∧t.kind≤12)):PC Proofs.Tryz.prog 94 [aPd t] (ab false):=by
 have h1:=classify_comparedN t h
 obtain⟨k,n,p,q,s,l⟩:=t
 simp only[aPd_mk] at *
 refine PC.enter 74 [.tmp 2] [1,3,8] Proofs.Tryz.func94 rfl rfl rfl rfl rfl (by simp) (AWp.of ?_);simp only[go_sem]
 refine Wk ?_
 refine Sd ?_
 refine(h1).val.use ?_;simp only[go_sem]
 refine Wk ?_
 intro b3
 refine Sd ?_
 refine Wk ?_
 refine ret_eq ?_;simp only[go_sem]
theorem classify_sumN (t:Pd) (h:¬(9≤t.kind∧t.kind≤12)):PC Proofs.Tryz.prog 53 [aPd t] (.tup [anil,ai 0,ai 0,ab false]):=by
 have h1:=classify_comparedN t h
 obtain⟨k,n,p,q,s,l⟩:=t
 simp only[aPd_mk] at *
 refine PC.enter 52 [.tmp 2,.tmp 3,.tmp 4,.tmp 5] [1,6,9,42] Proofs.Tryz.func53 rfl rfl rfl rfl rfl (by simp) (AWp.of ?_);simp only[go_sem]
 refine Wk ?_
 refine Sd ?_
 refine(h1).val.use ?_;simp only[go_sem]
 refine Wk ?_
 intro b3
 refine Sd ?_
 refine Wk ?_
 refine ret_eq ?_;simp only[go_sem]
theorem classify_meetsL (t:Pd) (hz:szF t≤1000000) (h:(locR t).2=true):PC Proofs.Tryz.prog 54 [aPd t] (ab true):=by
 have h1:=classify_local t hz
 rw[h] at h1
 generalize (locR t).1=pr at *
 obtain⟨k,n,p,q,s,l⟩:=t
 simp only[aPd_mk] at *
 refine PC.enter 43 [.tmp 2] [1] Proofs.Tryz.func54 rfl rfl rfl rfl rfl (by simp) (AWp.of ?_);simp only[go_sem]
 refine Wk ?_
 refine Sd ?_
 refine(h1).val.use ?_;simp only[go_sem]
 refine Wk ?_
 repeat(refine GCall.use (ab false) (fun h=>absurd h (by simp)) ?_;simp only[go_sem])
 refine Wk ?_
 refine ret_eq ?_;simp only[go_sem]
theorem classify_joinsL (t:Pd) (hz:szF t≤1000000) (h:(locR t).2=true):PC Proofs.Tryz.prog 55 [aPd t] (ab true):=by
 have h1:=classify_local t hz
 rw[h] at h1
 generalize (locR t).1=pr at *
 obtain⟨k,n,p,q,s,l⟩:=t
 simp only[aPd_mk] at *
 refine PC.enter 38 [.tmp 2] [1] Proofs.Tryz.func55 rfl rfl rfl rfl rfl (by simp) (AWp.of ?_);simp only[go_sem]
 refine Wk ?_
 refine Sd ?_
 refine(h1).val.use ?_;simp only[go_sem]
 refine Wk ?_
 repeat(refine GCall.use (ab false) (fun h=>absurd h (by simp)) ?_;simp only[go_sem])
 refine Wk ?_
 refine ret_eq ?_;simp only[go_sem]
theorem aPd_ag (k n p q:Int) (s:ByteArray) (l:List Pd):∃X,aPd (.mk k n p q s l) = .agg [ai k,ai n,ai p,ai q,astr s,X]:=⟨_,aPd_mk ..⟩
theorem classify_meetsN:PC Proofs.Tryz.prog 54 [aPd exN] (ab true):=by
 have h1:=classify_local exN szN
 rw[loc_N] at h1
 have h2:=classify_boundedN exN notcmpN 1
 have h3:=classify_bothN exN notcmpN
 have h4:=classify_meetsL cmpA szA (by rw[loc_A])
 have h5:=classify_meetsL cmpB szB (by rw[loc_B])
 have hN:aPd exN = .agg [ai 16,ai 0,ai 0,ai 0,astr ByteArray.empty,.sl 6 [aPd cmpA,aPd cmpB]]:=by unfold exN;rw[aPd_mk];rfl
 rw[hN] at h1 h2 h3 ⊢
 generalize (locR exN).1=pr at *
 obtain⟨XA,hA⟩:∃X,aPd cmpA = .agg [ai 12,ai 0,ai 0,ai 0,astr ByteArray.empty,X]:=aPd_ag ..
 obtain⟨XB,hB⟩:∃X,aPd cmpB = .agg [ai 10,ai 0,ai 0,ai 0,astr ByteArray.empty,X]:=aPd_ag ..
 rw[hA,hB] at h1 h2 h3
 rw[hA] at h4
 rw[hB] at h5
 rw[hA,hB]
 refine PC.enter 43 [.tmp 2] [1] Proofs.Tryz.func54 rfl rfl rfl rfl rfl (by simp) (AWp.of ?_);simp only[go_sem]
 refine Wk ?_
 refine Sd ?_
 refine(h1).val.use ?_;simp only[go_sem]
 refine Wk ?_
 refine Sd ?_
 refine Gc h2 ?_
 refine Sd ?_
 refine Sd ?_
 refine Gc h3 ?_
 refine Sd ?_
 refine Sd ?_
 refine GCall.use (ab true) (fun _=>⟨At,(h4).val.use ⟨rfl,rfl⟩⟩) ?_;simp only[go_sem,Int.reduceEq]
 refine Sd ?_
 refine Sd ?_
 refine GCall.use (ab true) (fun _=>⟨At,(h5).val.use ⟨rfl,rfl⟩⟩) ?_;simp only[go_sem,Int.reduceEq]
 refine Sd ?_
 repeat(first|((with_reducible refine AWp.ofC ?_ ?_);exact rfl;simp only[go_sem,Int.reduceEq])|((with_reducible refine an ?_ ?_);exact Au))
 refine ret_eq ?_;simp only[go_sem]
theorem classify_joinsN:PC Proofs.Tryz.prog 55 [aPd exN] (ab true):=by
 have h1:=classify_local exN szN
 rw[loc_N] at h1
 have h2:=classify_stableN
 have h3:=classify_bothN exN notcmpN
 have h4:=classify_joinsL cmpA szA (by rw[loc_A])
 have h5:=classify_joinsL cmpB szB (by rw[loc_B])
 have hN:aPd exN = .agg [ai 16,ai 0,ai 0,ai 0,astr ByteArray.empty,.sl 6 [aPd cmpA,aPd cmpB]]:=by unfold exN;rw[aPd_mk];rfl
 rw[hN] at h1 h2 h3 ⊢
 generalize (locR exN).1=pr at *
 obtain⟨XA,hA⟩:∃X,aPd cmpA = .agg [ai 12,ai 0,ai 0,ai 0,astr ByteArray.empty,X]:=aPd_ag ..
 obtain⟨XB,hB⟩:∃X,aPd cmpB = .agg [ai 10,ai 0,ai 0,ai 0,astr ByteArray.empty,X]:=aPd_ag ..
 rw[hA,hB] at h1 h2 h3
 rw[hA] at h4
 rw[hB] at h5
 rw[hA,hB]
 refine PC.enter 38 [.tmp 2] [1] Proofs.Tryz.func55 rfl rfl rfl rfl rfl (by simp) (AWp.of ?_);simp only[go_sem]
 refine Wk ?_
 refine Sd ?_
 refine(h1).val.use ?_;simp only[go_sem]
 refine Wk ?_
 refine Sd ?_
 refine Gc h2 ?_
 refine Sd ?_
 refine Sd ?_
 refine Gc h3 ?_
 refine Sd ?_
 refine Sd ?_
 refine GCall.use (ab true) (fun _=>⟨At,(h4).val.use ⟨rfl,rfl⟩⟩) ?_;simp only[go_sem,Int.reduceEq]
 refine Sd ?_
 refine Sd ?_
 refine GCall.use (ab true) (fun _=>⟨At,(h5).val.use ⟨rfl,rfl⟩⟩) ?_;simp only[go_sem,Int.reduceEq]
 refine Sd ?_
 repeat(first|((with_reducible refine AWp.ofC ?_ ?_);exact rfl;simp only[go_sem,Int.reduceEq])|((with_reducible refine an ?_ ?_);exact Au))
 refine ret_eq ?_;simp only[go_sem]
theorem aPd_ag2 (k n p q:Int) (s:ByteArray) (l:List Pd):∃X,aPd (.mk k n p q s l) = .agg [ai k,ai n,ai p,ai q,astr s,.sl 6 X]:=⟨_,aPd_mk ..⟩
theorem classify_set (b8:Nat) (B bit:Int) (h:Bool) (X1 X2 X3 X4:AV) (Lr:AHeap):MVal Proofs.Tryz.prog (.clo 50 [.lp b8 5 0 0]) [ai bit,ab h] ((b8,.row 59 5 [.agg [ai B,X1,X2,X3,X4]] 1) :: Lr)
  fun _ L=>L=(b8,.row 59 5 [.agg [ai (if h then orK .i64 B bit else B),X1,X2,X3,X4]] 1) :: Lr:=by
 have main:MCalls Proofs.Tryz.prog 50 [ai bit,ab h,.lp b8 5 0 0] [(b8,.row 59 5 [.agg [ai B,X1,X2,X3,X4]] 1)]
   fun _ L=>L=[(b8,.row 59 5 [.agg [ai (if h then orK .i64 B bit else B),X1,X2,X3,X4]] 1)]:=by
  cases h with
  | true =>
   simp only[if_true]
   refine MCalls.enter' 11 [] [] Proofs.Tryz.func50 rfl rfl rfl rfl rfl (by simp) (AWp.of ?_);simp only[go_sem]
   refine Wk ?_
   refine ret_own ?_
   simp only[go_sem]
  | false =>
   simp only[Bool.false_eq_true,if_false]
   refine MCalls.enter' 11 [] [] Proofs.Tryz.func50 rfl rfl rfl rfl rfl (by simp) (AWp.of ?_);simp only[go_sem]
   refine Wk ?_
   refine ret_own ?_
   simp only[go_sem]
 refine(MVal.frame (Lm:=[(b8,.row 59 5 [.agg [ai B,X1,X2,X3,X4]] 1)]) (Lr:=Lr) (MCalls.clo (args:=[_,_]) (caps:=[_]) main)).mono ?_
 rintro r L ⟨L1,rfl,rfl⟩
 rfl
theorem classify_checkedX:PC Proofs.Tryz.prog 49 [aTr exT,aPd exP] (.tup [aPd exN,ai 0]):=by
 have h1:=predtype_Check exT exT_sm exP (by decide)
 have h2:=classify_Normal exP (by decide)
 rw[exP_check] at h1
 rw[show nrmF exP false=exN from by unfold nrmF;rw[exP_prd,if_pos rfl,exN_normal],exP_prd] at h2
 obtain⟨XP,hP⟩:∃X,aPd exP = .agg [ai 15,ai 0,ai 0,ai 0,astr ByteArray.empty,.sl 6 X]:=aPd_ag2 ..
 obtain⟨XN,hN⟩:∃X,aPd exN = .agg [ai 16,ai 0,ai 0,ai 0,astr ByteArray.empty,.sl 6 X]:=aPd_ag2 ..
 have hT:aTr exT = .agg [.sl 3 (exT.map aPr)]:=rfl
 rw[hP,hT] at h1
 rw[hP,hN] at h2
 rw[hP,hN,hT]
 generalize exT.map aPr=T at *
 refine PC.enter 18 [.cell 4 24,.tmp 5] [2,3] Proofs.Tryz.func49 rfl rfl rfl rfl rfl (by simp) (AWp.of ?_);simp only[go_sem]
 intro b4
 refine Wk ?_
 refine Sd ?_
 refine(h1).val.use ?_;simp only[go_sem]
 refine Wk ?_
 refine Sd ?_
 refine(h2).val.use ?_;simp only[go_sem]
 refine Wk ?_
 refine ret_eq ?_;simp only[go_sem]
set_option maxHeartbeats 1000000 in
theorem classify_ClassX:PC Proofs.Tryz.prog 26 [aTr exT,aPd exP] (.tup [.agg [ai 58,.sl 6 [aPd cmpA,aPd cmpB],.sl 3 [],ai 0,ai 0],ai 0]):=by
 have h1:=classify_checkedX
 have h2:=classify_parts 16 (.inl rfl) exN szN exN_loc
 have h3:=classify_parts 17 (.inr rfl) exN szN exN_loc
 have h4:=classify_local exN szN
 have h5:=classify_sumN exN notcmpN
 have h6:=classify_meetsN
 have h7:=classify_joinsN
 have h8:=classify_stableN
 have h9:=classify_hasC exN szN
 have h10:=classify_hasT exN szN
 have h11:=classify_joined exT exT_sm 16 13 (.inl rfl) exN szN exN_loc (by rw[prt_N16])
 rw[show allB nchB exN=true from by decide] at h9
 rw[show allB ntmB exN=true from by decide] at h10
 rw[prt_N16] at h2
 rw[prt_N17] at h3
 rw[loc_N] at h4
 rw[show jnL exT.length 16 13 exN=[cmpA,cmpB] from jn_N] at h11
 have hAB:aPds [cmpA,cmpB] = .sl 6 [aPd cmpA,aPd cmpB]:=rfl
 have h0:aPds [] = .sl 6 []:=rfl
 simp only[hAB,h0,Bool.not_true] at h2 h3 h9 h10 h11
 obtain⟨XP,hP⟩:∃X,aPd exP = .agg [ai 15,ai 0,ai 0,ai 0,astr ByteArray.empty,.sl 6 X]:=aPd_ag2 ..
 obtain⟨XN,hN⟩:∃X,aPd exN = .agg [ai 16,ai 0,ai 0,ai 0,astr ByteArray.empty,.sl 6 X]:=aPd_ag2 ..
 have hT:aTr exT = .agg [.sl 3 (exT.map aPr)]:=rfl
 rw[hP,hN,hT] at h1
 rw[hN,hT] at h11
 rw[hN] at h2 h3 h4 h5 h6 h7 h8 h9 h10
 rw[hP,hT]
 generalize exT.map aPr=T at *
 generalize (locR exN).1=pr at *
 generalize [aPd cmpA,aPd cmpB]=LA at *
 have e1:orK .i64 0 2=2:=by decide
 have e2:orK .i64 2 8=10:=by decide
 have e3:orK .i64 10 16=26:=by decide
 have e4:orK .i64 26 32=58:=by decide
 refine PC.enter 113 [.cell 4 59,.tmp 5] [2,3,6] Proofs.Tryz.func26 rfl rfl rfl rfl rfl (by simp) (AWp.of ?_);simp only[go_sem]
 intro b4
 refine Wk ?_
 refine Sd ?_
 refine(h1).val.use ?_;simp only[go_sem]
 refine Wk ?_
 intro b6 g6
 have n1:¬b4=b6:=by omega
 have n2:¬b6=b4:=by omega
 try simp only[go_sem,n1,n2]
 refine Sd ?_
 refine W2 n1 n2 ?_
 intro b8 g8
 have n3:¬b4=b8:=by omega
 have n4:¬b8=b4:=by omega
 refine Sd ?_
 refine W2 n3 n4 ?_
 refine Sd ?_
 refine(h2).val.use ?_;simp only[go_sem]
 refine Wk ?_
 refine Sd ?_
 refine(h3).val.use ?_;simp only[go_sem]
 refine Wk ?_
 refine Sd ?_
 refine(h4).val.use ?_;simp only[go_sem]
 refine Wk ?_
 refine Sd ?_
 refine(h5).val.use ?_;simp only[go_sem]
 refine W2 n3 n4 ?_
 refine(classify_set _ _ _ _ _ _ _ _ _).mono ?_
 rintro r L rfl
 simp only[go_sem,e1,e2,e3,e4]
 refine W2 n3 n4 ?_
 refine(classify_set _ _ _ _ _ _ _ _ _).mono ?_
 rintro r L rfl
 simp only[go_sem,e1,e2,e3,e4]
 refine W2 n3 n4 ?_
 refine(classify_set _ _ _ _ _ _ _ _ _).mono ?_
 rintro r L rfl
 simp only[go_sem,e1,e2,e3,e4]
 refine W2 n3 n4 ?_
 refine Sd ?_
 refine(h6).val.use ?_;simp only[go_sem]
 refine W2 n3 n4 ?_
 refine(classify_set _ _ _ _ _ _ _ _ _).mono ?_
 rintro r L rfl
 simp only[go_sem,e1,e2,e3,e4]
 refine W2 n3 n4 ?_
 refine Sd ?_
 refine(h7).val.use ?_;simp only[go_sem]
 refine W2 n3 n4 ?_
 refine(classify_set _ _ _ _ _ _ _ _ _).mono ?_
 rintro r L rfl
 simp only[go_sem,e1,e2,e3,e4]
 refine W2 n3 n4 ?_
 refine Sd ?_
 refine(h6).val.use ?_;simp only[go_sem]
 refine Sd ?_
 refine Gc h7 ?_
 refine Sd ?_
 refine W2 n3 n4 ?_
 refine(classify_set _ _ _ _ _ _ _ _ _).mono ?_
 rintro r L rfl
 simp only[go_sem,e1,e2,e3,e4]
 refine W2 n3 n4 ?_
 refine Sd ?_
 refine(h8).val.use ?_;simp only[go_sem]
 refine W2 n3 n4 ?_
 refine(classify_set _ _ _ _ _ _ _ _ _).mono ?_
 rintro r L rfl
 simp only[go_sem,e1,e2,e3,e4]
 refine W2 n3 n4 ?_
 refine(classify_set _ _ _ _ _ _ _ _ _).mono ?_
 rintro r L rfl
 simp only[go_sem,e1,e2,e3,e4]
 refine W2 n3 n4 ?_
 refine Sd ?_
 refine(h9).val.use ?_;simp only[go_sem]
 refine W2 n3 n4 ?_
 refine(classify_set _ _ _ _ _ _ _ _ _).mono ?_
 rintro r L rfl
 simp only[go_sem,e1,e2,e3,e4]
 refine W2 n3 n4 ?_
 refine Sd ?_
 refine(h10).val.use ?_;simp only[go_sem]
 refine W2 n3 n4 ?_
 refine(classify_set _ _ _ _ _ _ _ _ _).mono ?_
 rintro r L rfl
 simp only[go_sem,e1,e2,e3,e4]
 refine W2 n3 n4 ?_
 refine Sd ?_
 refine(h11).val.use ?_;simp only[go_sem]
 refine W2 n3 n4 ?_
 refine ret_view [] ?_;simp only[go_sem,n3,n4]
 exact .mkTup (Vws.cons (.mkAgg (Vws.cons (.refl _) (Vws.cons (.refl _) (Vws.cons (.nil 3) (Vws.refl _))))) (Vws.refl _))
theorem law30_node (k:Int) (xs:List AV):PC Proofs.Tryz.prog 25 [ai k,.sl 6 xs] (.agg [ai k,ai 0,ai 0,ai 0,astr ByteArray.empty,.sl 6 xs]):=by
 refine PC.enter 8 [.cell 4 24] [] Proofs.Tryz.func25 rfl rfl rfl rfl rfl (by simp) (AWp.of ?_);simp only[go_sem]
 intro b
 refine Wk ?_
 refine ret_eq ?_;simp only[go_sem]
 rfl
abbrev rawX:AV:=.agg [ai 2,ai 0,ai 0,ai 0,astr ⟨#[120]⟩,anil]
abbrev rawY:AV:=.agg [ai 2,ai 0,ai 1,ai 0,astr ⟨#[121]⟩,anil]
abbrev raw3:AV:=.agg [ai 1,ai 3,ai 0,ai 0,astr ByteArray.empty,anil]
abbrev raw1:AV:=.agg [ai 1,ai 1,ai 0,ai 0,astr ByteArray.empty,anil]
abbrev rawN (k:Int) (xs:List AV):AV:=.agg [ai k,ai 0,ai 0,ai 0,astr ByteArray.empty,.sl 6 xs]
theorem raw_leaf (k n p:Int) (s:ByteArray) (L:AHeap):Vw L (.agg [ai k,ai n,ai p,ai 0,astr s,anil]) (aPd (.mk k n p 0 s [])):=by
 rw[aPd_mk]
 exact .mkAgg (Vws.cons (.refl _) (Vws.cons (.refl _) (Vws.cons (.refl _) (Vws.cons (.refl _) (Vws.cons (.refl _) (Vws.cons (.nil 6) .nil))))))
theorem raw_vX (L:AHeap):Vw L rawX (aPd vX):=raw_leaf ..
theorem raw_vY (L:AHeap):Vw L rawY (aPd vY):=raw_leaf ..
theorem raw_v3 (L:AHeap):Vw L raw3 (aPd nm3):=raw_leaf ..
theorem raw_v1 (L:AHeap):Vw L raw1 (aPd nm1):=raw_leaf ..
theorem ref30_SameAll (l:List Pd) (hz:∀x ∈ l,szF x≤1000000) (hl:l.length≤1000000):PC Proofs.Tryz.prog 27 [.sl 6 (l.map aPd),.sl 6 (l.map aPd)] (ab true):=by
 have hlm:(l.map aPd).length=l.length:=List.length_map _
 refine PC.enter 27 [.tmp 4] [] Proofs.Tryz.func27 rfl rfl rfl rfl rfl (by simp) (AWp.of ?_);simp only[go_sem]
 refine W1 hlm ?_
 refine AWp.block (AWp.count 5 l.length [] [0,1] (fun i vs L=>L=[]) rfl rfl rfl ?_)
 rintro i vs L hi - rfl
 simp only[go_sem]
 refine W1 hlm ?_
 refine⟨fun h4 => ?_,fun h4 => ?_⟩
 ·have hil:i<l.length:=by omega
  have hgi:=getD_map (f:=aPd) hil
  have hch:=ref28_Same l[i] (hz _ (List.getElem_mem hil))
  generalize l[i]=x at *
  obtain⟨k2,n2,p2,q2,s2,l2⟩:=x
  simp only[aPd_mk] at hgi hch
  repeat(first|(with_reducible refine AWp.seq ?_)|(with_reducible refine AWp.block ?_))
  refine AWp.mix mixed [0,1,2,3,4,5,6,7,8,9] .done (by kernel_rfl) ?_;simp only[go_sem,hgi,hlm]
  refine Sd ?_
  refine GCall.use (ab true) (fun _=>⟨At,(hch).val.use ⟨rfl,rfl⟩⟩) ?_;simp only[go_sem,hgi,hlm]
  refine Sd ?_
  refine Wk ?_
  exact⟨_,List.Sublist.refl _,rfl⟩
 ·refine Wk ?_
  refine ret_eq ?_;simp only[go_sem]
set_option maxHeartbeats 8000000 in
theorem law30_awake:PC Proofs.Tryz.prog 6 [] (ab true):=by
 have h1:=classify_ClassX
 have hSA:=ref30_SameAll [cmpA,cmpB] (by decide) (by decide)
 have hAB:[cmpA,cmpB].map aPd=[aPd cmpA,aPd cmpB]:=rfl
 rw[hAB] at hSA
 refine PC.enter 68 [.tmp 0] [1,2,3,4,5,6,7,11,14,16,24,28,30,32,42,46,48] Proofs.Tryz.func6 rfl rfl rfl rfl rfl (by simp) (AWp.of ?_);simp only[go_sem]
 refine Wk ?_
 intro b1
 have hnd:=fun (k:Int) (xs:List AV)=>law30_node k xs
 refine Sd ?_
 refine AWp.view [] [(1,.rp 1 [aTr exT] 0 0)] (LVw.refl _) ?_ ?_
 ·intro p hp
  simp only[List.mem_singleton] at hp
  subst hp
  show Vw [] _ (.rp 1 [aTr exT] 0 0)
  simp only[go_sem]
  refine Vw.mkRp ?_
  repeat(first|exact Vw.refl _|exact Vws.nil|exact Vw.nil _|refine Vws.cons ?_ ?_|refine Vw.mkAgg ?_|refine Vw.mkSl ?_)
 have hT:aTr exT = .agg [.sl 3 (exT.map aPr)]:=rfl
 rw[hT] at h1 ⊢
 generalize exT.map aPr=T at *
 refine AWp.only [0,1] ?_
 simp only[go_sem]
 refine Wk ?_
 intro b2 b3 g3
 have n1:¬b2=b3:=by omega
 have n2:¬b3=b2:=by omega
 simp only[go_sem,n1,n2]
 refine Sd ?_
 refine W2 n1 n2 ?_
 intro b4 b5 g5
 have n3:¬b4=b5:=by omega
 have n4:¬b5=b4:=by omega
 simp only[go_sem,n3,n4]
 refine Sd ?_
 refine W2 n3 n4 ?_
 refine AWp.cut [1,2,3,4,5,6] (fun vs L=>L=[]∧vs=[.rp 1 [.agg [.sl 3 T]] 0 0,.rp 6 [rawX] 0 0,.rp 6 [rawY] 0 0,.rp 6 [raw3] 0 0,.rp 6 [raw1] 0 0,
  .rp 6 [rawN 15 [rawN 17 [rawN 11 [rawX,raw3],rawN 9 [rawY,raw1]]]] 0 0]) ?_ ?_
 ·repeat(first|(with_reducible refine AWp.seq ?_)|(with_reducible refine AWp.block ?_))
  refine AWp.mix mixed [0,1,4,5] (.step 2 (.step 3 (.step 6 (.step 7 (.step 8 (.step 9 (.step 10 (.step 11 (.step 12 (.step 13 .done .done) .done) (.step 12 (.step 11 (.step 13 .done .done) .done) .done)) (.step 12 (.step 10 (.step 11 (.step 13 .done .done) .done) .done) .done)) (.step 12 (.step 9 (.step 10 (.step 11 (.step 13 .done .done) .done) .done) .done) .done)) (.step 12 (.step 8 (.step 9 (.step 10 (.step 11 (.step 13 .done .done) .done) .done) .done) .done) .done)) (.step 12 (.step 7 (.step 8 (.step 9 (.step 10 (.step 11 (.step 13 .done .done) .done) .done) .done) .done) .done) .done)) (.step 12 (.step 6 (.step 7 (.step 8 (.step 9 (.step 10 (.step 11 (.step 13 .done .done) .done) .done) .done) .done) .done) .done) .done)) (.step 6 (.step 3 (.step 7 (.step 8 (.step 9 (.step 10 (.step 11 (.step 12 (.step 13 .done .done) .done) (.step 12 (.step 11 (.step 13 .done .done) .done) .done)) (.step 12 (.step 10 (.step 11 (.step 13 .done .done) .done) .done) .done)) (.step 12 (.step 9 (.step 10 (.step 11 (.step 13 .done .done) .done) .done) .done) .done)) (.step 12 (.step 8 (.step 9 (.step 10 (.step 11 (.step 13 .done .done) .done) .done) .done) .done) .done)) (.step 12 (.step 7 (.step 8 (.step 9 (.step 10 (.step 11 (.step 13 .done .done) .done) .done) .done) .done) .done) .done)) (.step 12 (.step 3 (.step 7 (.step 8 (.step 9 (.step 10 (.step 11 (.step 13 .done .done) .done) .done) .done) .done) .done) .done) .done)) (.step 12 (.step 3 (.step 6 (.step 7 (.step 8 (.step 9 (.step 10 (.step 11 (.step 13 .done .done) .done) .done) .done) .done) .done) .done) (.step 6 (.step 3 (.step 7 (.step 8 (.step 9 (.step 10 (.step 11 (.step 13 .done .done) .done) .done) .done) .done) .done) .done) .done)) .done))) (.step 6 (.step 2 (.step 3 (.step 7 (.step 8 (.step 9 (.step 10 (.step 11 (.step 12 (.step 13 .done .done) .done) (.step 12 (.step 11 (.step 13 .done .done) .done) .done)) (.step 12 (.step 10 (.step 11 (.step 13 .done .done) .done) .done) .done)) (.step 12 (.step 9 (.step 10 (.step 11 (.step 13 .done .done) .done) .done) .done) .done)) (.step 12 (.step 8 (.step 9 (.step 10 (.step 11 (.step 13 .done .done) .done) .done) .done) .done) .done)) (.step 12 (.step 7 (.step 8 (.step 9 (.step 10 (.step 11 (.step 13 .done .done) .done) .done) .done) .done) .done) .done)) (.step 12 (.step 3 (.step 7 (.step 8 (.step 9 (.step 10 (.step 11 (.step 13 .done .done) .done) .done) .done) .done) .done) .done) .done)) (.step 12 (.step 2 (.step 3 (.step 7 (.step 8 (.step 9 (.step 10 (.step 11 (.step 13 .done .done) .done) .done) .done) .done) .done) .done) .done) .done)) (.step 12 (.step 2 (.step 3 (.step 6 (.step 7 (.step 8 (.step 9 (.step 10 (.step 11 (.step 13 .done .done) .done) .done) .done) .done) .done) .done) (.step 6 (.step 3 (.step 7 (.step 8 (.step 9 (.step 10 (.step 11 (.step 13 .done .done) .done) .done) .done) .done) .done) .done) .done)) (.step 6 (.step 2 (.step 3 (.step 7 (.step 8 (.step 9 (.step 10 (.step 11 (.step 13 .done .done) .done) .done) .done) .done) .done) .done) .done) .done)) .done))) (by kernel_rfl) ?_;simp only[go_sem]
  repeat' (first|(with_reducible refine And.intro ?_ ?_)|((with_reducible refine(hnd _ _).val.use ?_);simp only[go_sem])|(with_reducible intro _))
  all_goals exact⟨_,List.Sublist.refl _,rfl,rfl⟩
 rintro vs L - ⟨rfl,rfl⟩
 simp only[go_sem]
 refine AWp.view [] [(6,.rp 6 [aPd exP] 0 0)] (LVw.refl _) ?_ ?_
 ·intro p hp
  simp only[List.mem_singleton] at hp
  subst hp
  show Vw [] _ (.rp 6 [aPd exP] 0 0)
  simp only[go_sem]
  have hP:aPd exP = .agg [ai 15,ai 0,ai 0,ai 0,astr ByteArray.empty,.sl 6 [.agg [ai 17,ai 0,ai 0,ai 0,astr ByteArray.empty,.sl 6 [
   .agg [ai 11,ai 0,ai 0,ai 0,astr ByteArray.empty,.sl 6 [aPd vX,aPd nm3]],.agg [ai 9,ai 0,ai 0,ai 0,astr ByteArray.empty,.sl 6 [aPd vY,aPd nm1]]]]]]:=by
   unfold exP
   simp only[aPd_mk,List.map_cons,List.map_nil]
  rw[hP]
  refine Vw.mkRp ?_
  unfold rawN
  repeat(first|exact Vw.refl _|exact Vws.nil|exact raw_vX _|exact raw_vY _|exact raw_v3 _|exact raw_v1 _|refine Vws.cons ?_ ?_|refine Vw.mkAgg ?_|refine Vw.mkSl ?_)
 obtain⟨XP,hP⟩:∃X,aPd exP = .agg [ai 15,ai 0,ai 0,ai 0,astr ByteArray.empty,.sl 6 X]:=aPd_ag2 ..
 rw[hP] at h1 ⊢
 refine AWp.only [1,2,3,4,5,6] ?_
 simp only[go_sem]
 refine Wk ?_
 refine Sd ?_
 refine(h1).val.use ?_;simp only[go_sem]
 refine Wk ?_
 intro b7
 refine AWp.cut [7,8,9] (fun vs L=>L=[]∧vs=[.rp 5 [.agg [ai 58,.sl 6 [aPd cmpA,aPd cmpB],.sl 3 [],ai 0,ai 0]] 0 0,ai 0,.sl 6 [rawN 12 [raw3,rawX],rawN 10 [rawY,raw1]]]) ?_ ?_
 ·repeat(first|(with_reducible refine AWp.seq ?_)|(with_reducible refine AWp.block ?_))
  refine AWp.mix mixed [0,1,4,5] (.step 2 (.step 3 (.step 6 (.step 7 (.step 8 (.step 9 .done .done) .done) .done) .done) (.step 6 (.step 3 (.step 7 (.step 8 (.step 9 .done .done) .done) .done) .done) .done)) (.step 6 (.step 2 (.step 3 (.step 7 (.step 8 (.step 9 .done .done) .done) .done) .done) .done) .done)) (by kernel_rfl) ?_;simp only[go_sem]
  repeat' (first|(with_reducible refine And.intro ?_ ?_)|((with_reducible refine(hnd _ _).val.use ?_);simp only[go_sem])|(with_reducible intro _))
  all_goals exact⟨_,List.Sublist.refl _,rfl⟩
 rintro vs L - ⟨rfl,rfl⟩
 simp only[go_sem]
 refine AWp.view [] [(9,.sl 6 [aPd cmpA,aPd cmpB])] (LVw.refl _) ?_ ?_
 ·intro p hp
  simp only[List.mem_singleton] at hp
  subst hp
  show Vw [] _ (.sl 6 [aPd cmpA,aPd cmpB])
  simp only[go_sem]
  have hA:aPd cmpA = .agg [ai 12,ai 0,ai 0,ai 0,astr ByteArray.empty,.sl 6 [aPd nm3,aPd vX]]:=by
   unfold cmpA cmpX
   rw[aPd_mk];rfl
  have hB:aPd cmpB = .agg [ai 10,ai 0,ai 0,ai 0,astr ByteArray.empty,.sl 6 [aPd vY,aPd nm1]]:=by
   unfold cmpB
   rw[aPd_mk];rfl
  rw[hA,hB]
  unfold rawN
  repeat(first|exact Vw.refl _|exact Vws.nil|exact raw_vX _|exact raw_vY _|exact raw_v3 _|exact raw_v1 _|refine Vws.cons ?_ ?_|refine Vw.mkAgg ?_|refine Vw.mkSl ?_)
 refine AWp.only [7,8,9] ?_
 simp only[go_sem]
 refine Wk ?_
 refine Sd ?_
 refine Gc hSA ?_
 refine Sd ?_
 refine Wk ?_
 refine ret_eq ?_;simp only[go_sem]
 rfl
def IntOk (t:Pd):Prop:=allB locB t=true∧allB typB t=true∧t.kind≤8
def PredOk (t:Pd):Prop:=allB locB t=true∧allB typB t=true∧9≤t.kind
def nd (k:Int) (l:List Pd):Pd:=.mk k 0 0 0 ByteArray.empty l
theorem res_int {k:Int} (h:resF k=1):k≤8:=by unfold resF at h;split at h <;> omega
theorem PredOk.ind {P:Pd→Prop} (leaf:∀k,k=13∨k=14→P (nd k [])) (cmp:∀k x y,k=9∨k=10∨k=11∨k=12→IntOk x→IntOk y→P (nd k [x,y])) (not:∀x,PredOk x→P x→P (nd 15 [x]))
  (bin:∀k x y,k=16∨k=17→PredOk x→PredOk y→P x→P y→P (nd k [x,y])) (tmp:∀k x,k=18∨k=19∨k=20∨k=21→PredOk x→P x→P (nd k [x])) (t:Pd):PredOk t→P t:=by
 induction t using Pd.ind with
 | _ k n p q s l ih =>
 rintro⟨h1,h2,h9⟩
 have h9:9≤k:=h9
 rw[allB_mk,Bool.and_eq_true,List.all_eq_true] at h1 h2
 have hpl:=locB_len h1.1
 obtain⟨h21,rfl,rfl,rfl,rfl⟩:=loc_plain h1.1 h9
 have hty:=fun x (hx:x ∈ l)=>typ_parts h2.1 hx
 have hsub:=fun x (hx:x ∈ l)=>And.intro (h1.2 x hx) (h2.2 x hx)
 have hk:(k=13∨k=14)∨(k=9∨k=10∨k=11∨k=12)∨k=15∨(k=16∨k=17)∨(k=18∨k=19∨k=20∨k=21):=by omega
 rcases hk with hk|hk|hk|hk|hk
 ·have h0:partsF k=0:=by rcases hk with rfl|rfl <;> decide
  obtain rfl:l=[]:=List.length_eq_zero_iff.1 (by omega)
  exact leaf k hk
 ·have h0:partsF k=2:=by rcases hk with rfl|rfl|rfl|rfl <;> decide
  have hn:needF k=1:=by rcases hk with rfl|rfl|rfl|rfl <;> decide
  obtain⟨x,y,rfl⟩:=len_two (l:=l) (by omega)
  have hx:=hsub x (by simp)
  have hy:=hsub y (by simp)
  exact cmp k x y hk ⟨hx.1,hx.2,res_int ((hty x (by simp)).trans hn)⟩ ⟨hy.1,hy.2,res_int ((hty y (by simp)).trans hn)⟩
 ·have h0:partsF k=1:=by rw[hk];decide
  have hn:needF k=2:=by rw[hk];decide
  obtain⟨x,rfl⟩:=len_one (l:=l) (by omega)
  have hx:=hsub x (by simp)
  have hp:PredOk x:=⟨hx.1,hx.2,res_bool ((hty x (by simp)).trans hn)⟩
  subst hk
  exact not x hp (ih x (by simp) hp)
 ·have h0:partsF k=2:=by rcases hk with rfl|rfl <;> decide
  have hn:needF k=2:=by rcases hk with rfl|rfl <;> decide
  obtain⟨x,y,rfl⟩:=len_two (l:=l) (by omega)
  have hx:=hsub x (by simp)
  have hy:=hsub y (by simp)
  have hpx:PredOk x:=⟨hx.1,hx.2,res_bool ((hty x (by simp)).trans hn)⟩
  have hpy:PredOk y:=⟨hy.1,hy.2,res_bool ((hty y (by simp)).trans hn)⟩
  exact bin k x y hk hpx hpy (ih x (by simp) hpx) (ih y (by simp) hpy)
 ·have h0:partsF k=1:=by rcases hk with rfl|rfl|rfl|rfl <;> decide
  have hn:needF k=2:=by rcases hk with rfl|rfl|rfl|rfl <;> decide
  obtain⟨x,rfl⟩:=len_one (l:=l) (by omega)
  have hx:=hsub x (by simp)
  have hp:PredOk x:=⟨hx.1,hx.2,res_bool ((hty x (by simp)).trans hn)⟩
  exact tmp k x hk hp (ih x (by simp) hp)
theorem prd_ok {t:Pd} (h:prdF t=0):PredOk t:=by
 obtain⟨h1,h2,h3⟩:=prdF_zero h
 exact⟨formed_loc h1,h2,h3⟩
theorem norm_leaf (k:Int) (hk:k=13∨k=14) (b:Bool):normF (nd k []) b=nd (if b then oppF k else k) []:=by
 unfold nd
 rw[normF_mk]
 rcases hk with rfl|rfl <;> (cases b <;> rfl)
theorem norm_cmp (k:Int) (hk:k=9∨k=10∨k=11∨k=12) (x y:Pd) (b:Bool):normF (nd k [x,y]) b=nd (if b then oppF k else k) (if b=true∧(k=11∨k=12) then [y,x] else [x,y]):=by
 unfold nd
 rw[normF_mk]
 rcases hk with rfl|rfl|rfl|rfl <;> (cases b <;> rfl)
theorem norm_not (x:Pd) (b:Bool):normF (nd 15 [x]) b=normF x (!b):=by
 unfold nd
 rw[normF_mk,if_pos rfl,hdN_one]
theorem norm_bin (k:Int) (hk:k=16∨k=17) (x y:Pd) (b:Bool):normF (nd k [x,y]) b=nd (if b then oppF k else k) [normF x b,normF y b]:=by
 unfold nd
 rw[normF_mk]
 rcases hk with rfl|rfl <;> (cases b <;> rfl)
theorem norm_tmp (k:Int) (hk:k=18∨k=19∨k=20∨k=21) (x:Pd) (b:Bool):normF (nd k [x]) b=nd (if b then oppF k else k) [normF x b]:=by
 unfold nd
 rw[normF_mk]
 rcases hk with rfl|rfl|rfl|rfl <;> (cases b <;> rfl)
theorem int_nng (t:Pd):IntOk t→allB nngB t=true:=by
 induction t using Pd.ind with
 | _ k n p q s l ih =>
 rintro⟨h1,h2,h8⟩
 have h8:k≤8:=h8
 rw[allB_mk,Bool.and_eq_true,List.all_eq_true] at h1 h2
 rw[allB_mk,Bool.and_eq_true,List.all_eq_true]
 refine⟨decide_eq_true (by omega),fun x hx=>ih x hx ⟨h1.2 x hx,h2.2 x hx,res_int ((typ_parts h2.1 hx).trans ?_)⟩⟩
 unfold needF
 rw[if_pos (by omega)]
theorem loc_nd {k:Int} {l:List Pd} (hk:9≤k) (h:partsF k=l.length):locB (nd k l)=true:=by
 show (decide (partsF k=(l.length:Int)) && (if k=1 then decide ((0:Int)≤0∧(0:Int)≤1125899906842624) else decide ((0:Int)=0)) && (decide (2≤k∧k≤4) || decide ((0:Int)=0∧(0:Int)=0∧ByteArray.empty=ByteArray.empty)))=true
 rw[if_neg (by omega)]
 simp [h]
theorem typ_nd {k:Int} {l:List Pd} (h:∀x ∈ l,resF x.kind=needF k):typB (nd k l)=true:=by
 show (!l.any fun x=>tyNe k x.kind)=true
 rw[Bool.not_eq_true']
 refine List.any_eq_false.2 fun x hx => ?_
 unfold tyNe
 simp [h x hx]
theorem res_of_int {k:Int} (h:k≤8):resF k=1:=by unfold resF;rw[if_pos h]
theorem res_of_bool {k:Int} (h:9≤k):resF k=2:=by unfold resF;rw[if_neg (by omega)]
structure NrmOk (t u:Pd):Prop where
 ok:PredOk u
 nng:allB nngB u=true
 sz:szF u≤szF t
 dp:dpF u≤dpF t
theorem nd_szF (k:Int) (l:List Pd):szF (nd k l)=szL l+1:=by unfold nd;rw[szF]
theorem nd_dpF (k:Int) (l:List Pd):dpF (nd k l)=dpL l+1:=by unfold nd;rw[dpF]
theorem nd_allB (f:Pd→Bool) (k:Int) (l:List Pd):allB f (nd k l)=(f (nd k l) && l.all (allB f)):=by unfold nd;rw[allB_mk]
theorem nng_nd {k:Int} (l:List Pd) (h:¬k=15):nngB (nd k l)=true:=decide_eq_true h
theorem norm_ok (t:Pd) (h:PredOk t):∀b,NrmOk t (normF t b):=by
 refine PredOk.ind (P:=fun t=>∀b,NrmOk t (normF t b)) ?_ ?_ ?_ ?_ ?_ t h
 ·intro k hk b
  rw[norm_leaf k hk]
  have hj:(if b then oppF k else k)=13∨(if b then oppF k else k)=14:=by rcases hk with rfl|rfl <;> (cases b <;> decide)
  generalize (if b then oppF k else k)=j at *
  refine⟨⟨?_,?_,?_⟩,?_,by rw[nd_szF,nd_szF];exact Nat.le_refl _,by rw[nd_dpF,nd_dpF];exact Nat.le_refl _⟩
  ·rw[nd_allB,loc_nd (by omega) (by rcases hj with rfl|rfl <;> decide)];rfl
  ·rw[nd_allB,typ_nd (by simp)];rfl
  ·show 9≤j;omega
  ·rw[nd_allB,nng_nd _ (by omega)];rfl
 ·intro k x y hk hx hy b
  rw[norm_cmp k hk]
  have hj:(if b then oppF k else k)=9∨(if b then oppF k else k)=10∨(if b then oppF k else k)=11∨(if b then oppF k else k)=12:=by rcases hk with rfl|rfl|rfl|rfl <;> (cases b <;> decide)
  generalize (if b then oppF k else k)=j at *
  have hp:partsF j=2:=by rcases hj with rfl|rfl|rfl|rfl <;> decide
  have hn:needF j=1:=by rcases hj with rfl|rfl|rfl|rfl <;> decide
  have hxr:=res_of_int hx.2.2
  have hyr:=res_of_int hy.2.2
  have main:∀u v,IntOk u→IntOk v→szF u+szF v=szF x+szF y→max (dpF u) (dpF v)=max (dpF x) (dpF y)→NrmOk (nd k [x,y]) (nd j [u,v]):=fun u v hu hv hs hd=>by
   have hur:=res_of_int hu.2.2
   have hvr:=res_of_int hv.2.2
   refine⟨⟨?_,?_,?_⟩,?_,?_,?_⟩
   ·rw[nd_allB,loc_nd (by omega) hp]
    simp [hu.1,hv.1]
   ·rw[nd_allB,typ_nd (by intro z hz;simp at hz;rcases hz with rfl|rfl <;> omega)]
    simp [hu.2.1,hv.2.1]
   ·show 9≤j;omega
   ·rw[nd_allB,nng_nd _ (by omega)]
    simp [int_nng u hu,int_nng v hv]
   ·rw[nd_szF,nd_szF];simp only[szL];omega
   ·rw[nd_dpF,nd_dpF];simp only[dpL];omega
  split
  ·exact main y x hy hx (by omega) (by omega)
  ·exact main x y hx hy rfl rfl
 ·intro x hx ih b
  rw[norm_not]
  have h:=ih (!b)
  exact⟨h.ok,h.nng,Nat.le_trans h.sz (by rw[nd_szF];simp only[szL];omega),Nat.le_trans h.dp (by rw[nd_dpF];simp only[dpL];omega)⟩
 ·intro k x y hk hx hy ih1 ih2 b
  rw[norm_bin k hk]
  have hj:(if b then oppF k else k)=16∨(if b then oppF k else k)=17:=by rcases hk with rfl|rfl <;> (cases b <;> decide)
  generalize (if b then oppF k else k)=j at *
  have hp:partsF j=2:=by rcases hj with rfl|rfl <;> decide
  have hn:needF j=2:=by rcases hj with rfl|rfl <;> decide
  have h1:=ih1 b
  have h2:=ih2 b
  have r1:=res_of_bool h1.ok.2.2
  have r2:=res_of_bool h2.ok.2.2
  have z1:=h1.sz
  have z2:=h2.sz
  have d1:=h1.dp
  have d2:=h2.dp
  refine⟨⟨?_,?_,?_⟩,?_,?_,?_⟩
  ·rw[nd_allB,loc_nd (by omega) hp]
   simp [h1.ok.1,h2.ok.1]
  ·rw[nd_allB,typ_nd (by intro z hz;simp at hz;rcases hz with rfl|rfl <;> omega)]
   simp [h1.ok.2.1,h2.ok.2.1]
  ·show 9≤j;omega
  ·rw[nd_allB,nng_nd _ (by omega)]
   simp [h1.nng,h2.nng]
  ·rw[nd_szF,nd_szF];simp only[szL];omega
  ·rw[nd_dpF,nd_dpF];simp only[dpL];omega
 ·intro k x hk hx ih b
  rw[norm_tmp k hk]
  have hj:(if b then oppF k else k)=18∨(if b then oppF k else k)=19∨(if b then oppF k else k)=20∨(if b then oppF k else k)=21:=by rcases hk with rfl|rfl|rfl|rfl <;> (cases b <;> decide)
  generalize (if b then oppF k else k)=j at *
  have hp:partsF j=1:=by rcases hj with rfl|rfl|rfl|rfl <;> decide
  have hn:needF j=2:=by rcases hj with rfl|rfl|rfl|rfl <;> decide
  have h1:=ih b
  have r1:=res_of_bool h1.ok.2.2
  have z1:=h1.sz
  have d1:=h1.dp
  refine⟨⟨?_,?_,?_⟩,?_,?_,?_⟩
  ·rw[nd_allB,loc_nd (by omega) hp]
   simp [h1.ok.1]
  ·rw[nd_allB,typ_nd (by intro z hz;simp at hz;rcases hz with rfl;omega)]
   simp [h1.ok.2.1]
  ·show 9≤j;omega
  ·rw[nd_allB,nng_nd _ (by omega)]
   simp [h1.nng]
  ·rw[nd_szF,nd_szF];simp only[szL];omega
  ·rw[nd_dpF,nd_dpF];simp only[dpL];omega
theorem aPd_shape (t:Pd):∃k n p q s X,aPd t = .agg [ai k,ai n,ai p,ai q,astr s,.sl 6 X]:=by
 obtain⟨k,n,p,q,s,l⟩:=t
 exact⟨k,n,p,q,s,_,aPd_mk ..⟩
theorem sml_norm {t:Pd} (h:prdF t=0) (hs:smlB t=true) (b:Bool):smlB (normF t b)=true:=by
 have hn:=norm_ok t (prd_ok h) b
 have:=hn.sz
 have:=hn.dp
 unfold smlB at *
 simp only[Bool.and_eq_true,decide_eq_true_eq] at *
 omega
def nmTx:List ByteArray:=[⟨#[108,111,99,97,108]⟩,⟨#[99,111,110,106,117,110,99,116,105,118,101]⟩,⟨#[100,105,115,106,117,110,99,116,105,118,101]⟩,⟨#[108,105,110,101,97,114]⟩,⟨#[112,111,115,116,45,108,105,110,101,97,114]⟩,⟨#[114,101,103,117,108,97,114]⟩,⟨#[115,116,97,98,108,101]⟩,⟨#[115,117,109]⟩,⟨#[99,104,97,110,110,101,108]⟩,⟨#[116,101,109,112,111,114,97,108]⟩]
def bitP (n:Int) (k:Nat):Prop:=andK .i64 (shrK .i64 n k) 1=1
instance (n:Int) (k:Nat):Decidable (bitP n k):=inferInstanceAs (Decidable (_=_))
def nmL (n:Int):Nat→List ByteArray
 | 0=>[]
 | k+1=>if bitP n k then nmL n k ++ [nmTx.getD k ByteArray.empty] else nmL n k
theorem nmL_len (n:Int) (k:Nat):(nmL n k).length≤k:=by
 induction k with
 | zero=>exact Nat.le_refl _
 | succ k ih =>
  rw[nmL]
  split
  ·rw[List.length_append,List.length_singleton];omega
  ·omega
theorem nmL_succ (n:Int) {k:Nat} (hk:k<nmTx.length):(nmL n (k+1)).map astr=if bitP n k then (nmL n k).map astr ++ [astr nmTx[k]] else (nmL n k).map astr:=by
 rw[nmL,List.getD_eq_getElem?_getD,List.getElem?_eq_getElem hk,Option.getD_some]
 split
 ·rw[List.map_append];rfl
 ·rfl
theorem nmTx_len:(nmTx.map astr).length=10:=rfl
theorem ref30_Names:PC Proofs.Tryz.prog 15 [] (.sl 1 (nmTx.map astr)):=by
 refine PC.enter 2 [.tmp 0] [] Proofs.Tryz.func15 rfl rfl rfl rfl rfl (by simp) (AWp.of ?_);simp only[go_sem]
 refine Wk ?_
 intro b
 refine AWp.viewA (L:=[]) (AppSt.row b (nmTx.map astr) 10) (j:=0) rfl ?_
 refine Wk ?_
 refine ret_eq ?_;simp only[go_sem]
theorem texts_equal (a b:List ByteArray) (ha:a.length≤1000000):PC Proofs.Tryz.prog 16 [.sl 1 (a.map astr),.sl 1 (b.map astr)] (ab (decide (a=b))):=by
 refine PC.enter 26 [.tmp 4] [] Proofs.Tryz.func16 rfl rfl rfl rfl rfl (by simp) (AWp.of ?_);simp only[go_sem]
 refine Wk ?_
 refine⟨fun h1 => ?_,fun h1 => ?_⟩
 ·refine Wk ?_
  refine ret_eq ?_;simp only[go_sem]
  congr 2;symm;apply decide_eq_false;rintro rfl;exact h1 rfl
 ·have hab:a.length=b.length:=by omega
  refine Sd ?_
  refine AWp.of ?_;simp only[go_sem]
  refine AWp.range' a.length [] [0,1,12] (fun k vs L=>L=[]∧∀(i:Nat) (hi:i<a.length),i<k→a[i]=b[i]) (by omega) rfl rfl rfl ⟨rfl,by omega⟩ ?_ ?_
  ·rintro k vs L' hk - ⟨rfl,hI⟩
   have hkb:k<b.length:=by omega
   simp only[go_sem]
   refine Wk ?_
   refine AWp.seq ?_
   refine AWp.drawn mixed 9 (by kernel_rfl) ?_;simp only[go_sem,getD_map hk,getD_map hkb]
   refine Sd ?_
   refine Wk ?_
   refine⟨fun h2 => ?_,fun h2 => ?_⟩
   ·refine Wk ?_
    refine ret_eq ?_;simp only[go_sem]
    congr 2;symm;apply decide_eq_false;rintro rfl;exact h2 rfl
   ·refine⟨_,List.Sublist.refl _,rfl,fun i hi hik => ?_⟩
    by_cases e:i=k
    ·subst e;exact h2
    ·exact hI i hi (by omega)
  ·rintro vs L' - ⟨rfl,hI⟩
   simp only[go_sem]
   refine Wk ?_
   refine ret_eq ?_;simp only[go_sem]
   congr 2;symm;apply decide_eq_true
   exact List.ext_getElem hab (fun i h1 h2=>hI i h1 h1)
theorem shl10:shlK IntKind.i64 1 ((10:Nat):Int)=1024:=by decide
theorem classify_NamesE (n:Int) (h:n<0∨1023<n):PC Proofs.Tryz.prog 14 [ai n] (.tup [anil,ai 2]):=by
 have hl:=nmTx_len
 have hs:=shl10
 refine PC.enter 36 [.tmp 2,.tmp 3] [32] Proofs.Tryz.func14 rfl rfl rfl rfl rfl (by simp) (AWp.of ?_);simp only[go_sem]
 refine Wk ?_
 intro b
 refine AWp.viewA (L:=[]) (AppSt.row b (nmTx.map astr) 10) (j:=4) rfl ?_
 refine W1 hl ?_
 refine⟨fun h1 => ?_,fun h1 h2 => ?_⟩
 ·refine Wk ?_
  refine ret_eq ?_;simp only[go_sem]
 ·rw[hs] at h2
  omega
theorem classify_Names (n:Int) (h0:0≤n) (h9:n≤1023):PC Proofs.Tryz.prog 14 [ai n] (.tup [.sl 1 ((nmL n 10).map astr),ai 0]):=by
 have hl:=nmTx_len
 have hs:=shl10
 refine PC.enter 36 [.tmp 2,.tmp 3] [32] Proofs.Tryz.func14 rfl rfl rfl rfl rfl (by simp) (AWp.of ?_);simp only[go_sem]
 refine Wk ?_
 intro b
 refine AWp.viewA (L:=[]) (AppSt.row b (nmTx.map astr) 10) (j:=4) rfl ?_
 have e1:¬n<0:=by omega
 have e2:¬1024≤n:=by omega
 refine W4 hl hs e1 e2 ?_
 refine AWp.range1' 10 [5] [0,18,19] (fun k vs L=>∃v,vs=[v]∧AppSt 9 1 ((nmL n k).map astr) v L) (by decide) rfl (by simp only[go_sem,hl]) rfl ⟨anil,rfl,.nil⟩ ?_ ?_
 ·rintro k vs L hk - ⟨v,rfl,hA⟩
  have hkn:k<nmTx.length:=hk
  have hg:=getD_map (f:=astr) hkn
  have hsu:=nmL_succ n hkn
  have hle:((nmL n k).map astr).length≤k:=by rw[List.length_map];exact nmL_len n k
  generalize (nmL n (k+1)).map astr=zs at *
  generalize (nmL n k).map astr=ys at *
  generalize nmTx[k]=x at *
  rcases hA.inv with ⟨rfl,rfl,rfl⟩|⟨bq,cq,rfl,rfl⟩
  ·simp only[go_sem]
   refine W1 hg ?_
   refine⟨fun h => ?_,fun h => ?_⟩
   ·rw[if_pos (show bitP n k from h)] at hsu
    intros
    refine Wk ?_
    exact⟨_,List.Sublist.refl _,_,rfl,by rw[hsu];exact .row _ _ _⟩
   ·rw[if_neg (show ¬bitP n k from h)] at hsu
    intros
    refine Wk ?_
    exact⟨_,List.Sublist.refl _,_,rfl,by rw[hsu];exact .nil⟩
  ·simp only[go_sem]
   refine W1 hg ?_
   refine⟨fun h => ?_,fun h => ?_⟩
   ·rw[if_pos (show bitP n k from h)] at hsu
    refine Sd ?_
    intro b' cap' g8
    intros
    refine Wk ?_
    exact⟨_,List.Sublist.refl _,_,rfl,by rw[hsu];exact AppSt.snoc _ _ _ rfl⟩
   ·rw[if_neg (show ¬bitP n k from h)] at hsu
    intros
    refine Wk ?_
    exact⟨_,List.Sublist.refl _,_,rfl,by rw[hsu];exact hA⟩
 ·rintro vs L - ⟨v,rfl,hA⟩
  have e3:=hA.inv
  refine AWp.viewA (L:=[]) hA (j:=5) rfl ?_
  simp only[go_sem]
  refine Wk ?_
  refine ret_eq ?_;simp only[go_sem]
structure NmV (t:Pd) (e:Int) (N M:Pd):Prop where
 bare:PC Proofs.Tryz.prog 8 [aPd t] (ai e)
 nrm:PC Proofs.Tryz.prog 9 [aPd t] (.tup [aPd N,ai e])
 not:PC Proofs.Tryz.prog 10 [aPd t] (.tup [aPd M,ai e])
 bad:¬e=0→PC Proofs.Tryz.prog 17 [aPd N] (ab true)∧PC Proofs.Tryz.prog 17 [aPd M] (ab true)
 ok:e=0→PC Proofs.Tryz.prog 18 [aPd t,ab false] (aPd N)∧PC Proofs.Tryz.prog 18 [aPd t,ab true] (aPd M)∧PC Proofs.Tryz.prog 13 [aPd N,aPd N] (ab true)∧PC Proofs.Tryz.prog 13 [aPd M,aPd M] (ab true)
theorem nmv_of (t:Pd) (h:smlB t=true):∃e N M,NmV t e N M:=by
 have hz:=sml_size h
 refine⟨prdF t,nrmF t false,nrmF t true,ref30_Bare t hz,classify_Normal t hz,classify_Not t hz,fun h0 => ?_,fun h0 => ?_⟩
 ·unfold nrmF
  rw[if_neg h0,if_neg h0]
  exact⟨law30_empty0,law30_empty0⟩
 ·unfold nrmF
  rw[if_pos h0,if_pos h0]
  obtain⟨h1,h2,h3⟩:=prd_ok h0
  exact⟨ref30_Normal t hz h1 h2 h3 false,ref30_Normal t hz h1 h2 h3 true,ref28_Same _ (sml_size (sml_norm h0 h false)),ref28_Same _ (sml_size (sml_norm h0 h true))⟩
set_option maxHeartbeats 2000000 in
theorem law30_ClassifyNormals (t:Pd) (n:Int):PC Proofs.Tryz.prog 4 [aPd t,ai n] (ab true):=by
 have hA:=law30_awake
 have hS:=law30_small t
 by_cases hsm:smlB t=true
 rotate_left
 ·obtain⟨k,o,p,q,s,XT,hT⟩:=aPd_shape t
  rw[show smlB t=false by simpa using hsm] at hS
  rw[hT] at hS ⊢
  refine PC.enter 114 [.tmp 4] [2,5,7,65] Proofs.Tryz.func4 rfl rfl rfl rfl rfl (by simp) (AWp.of ?_);simp only[go_sem]
  refine Wk ?_
  refine Sd ?_
  refine(hA).val.use ?_;simp only[go_sem]
  refine Sd ?_
  refine Gc hS ?_
  refine Sd ?_
  refine Wk ?_
  refine Sd ?_
  refine(hA).val.use ?_;simp only[go_sem]
  refine Wk ?_
  refine ret_eq ?_;simp only[go_sem]
 rw[hsm] at hS
 obtain⟨e,N,M,hB,hn,hm,hbad,hok⟩:=nmv_of t hsm
 obtain⟨k,o,p,q,s,XT,hT⟩:=aPd_shape t
 obtain⟨kn,nn,pn,qn,sn,XN,hN⟩:=aPd_shape N
 obtain⟨km,nm,pm,qm,sm,XM,hM⟩:=aPd_shape M
 rw[hT] at hS hB hn hm hok ⊢
 rw[hN] at hn hbad hok
 rw[hM] at hm hbad hok
 clear hT hN hM
 by_cases hr:n<0∨1023<n
 ·have hNm:=classify_NamesE n hr
  refine PC.enter 114 [.tmp 4] [2,5,7,65] Proofs.Tryz.func4 rfl rfl rfl rfl rfl (by simp) (AWp.of ?_);simp only[go_sem]
  refine Wk ?_
  refine Sd ?_
  refine(hA).val.use ?_;simp only[go_sem]
  refine Sd ?_
  refine Gc hS ?_
  refine Sd ?_
  refine Wk ?_
  refine Sd ?_
  refine(hn).val.use ?_;simp only[go_sem]
  refine Wk ?_
  intro b5
  refine Sd ?_
  refine Wk ?_
  refine Sd ?_
  refine(hm).val.use ?_;simp only[go_sem]
  refine Wk ?_
  intro b7
  refine Sd ?_
  refine Wk ?_
  refine Sd ?_
  refine(hNm).val.use ?_;simp only[go_sem]
  refine Wk ?_
  refine⟨fun _ => ?_,fun h1 h2=>by omega⟩
  refine Wk ?_
  intro _
  refine Wk ?_
  by_cases he:e=0
  ·subst he
   obtain⟨r1,r2,s1,s2⟩:=hok rfl
   refine Sd ?_
   refine(hB).val.use ?_;simp only[go_sem]
   refine Wk ?_
   repeat(first|(with_reducible refine AWp.seq ?_)|(with_reducible refine AWp.block ?_))
   refine AWp.mix mixed [0,1,2,3,4,5,6,7,8,9,10,11,12,13,14,15,16,17,18] .done (by kernel_rfl) ?_;simp only[go_sem]
   refine Sd ?_
   refine Gc r1 ?_
   refine Sd ?_
   refine Sd ?_
   refine Gc s1 ?_
   refine Sd ?_
   refine Sd ?_
   refine Gc r2 ?_
   refine Sd ?_
   refine Sd ?_
   refine Gc s2 ?_
   refine Sd ?_
   refine Wk ?_
   refine ret_eq ?_;simp only[go_sem]
  ·obtain⟨g1,g2⟩:=hbad he
   refine Sd ?_
   refine(hB).val.use ?_;simp only[go_sem]
   refine W1 he ?_
   refine Sd ?_
   refine(g1).val.use ?_;simp only[go_sem]
   refine Wk ?_
   refine Sd ?_
   refine Gc g2 ?_
   refine Sd ?_
   refine Wk ?_
   refine ret_eq ?_;simp only[go_sem]
 ·have hl:=nmTx_len
  have hNm:=classify_Names n (by omega) (by omega)
  refine PC.enter 114 [.tmp 4] [2,5,7,65] Proofs.Tryz.func4 rfl rfl rfl rfl rfl (by simp) (AWp.of ?_);simp only[go_sem]
  refine Wk ?_
  refine Sd ?_
  refine(hA).val.use ?_;simp only[go_sem]
  refine Sd ?_
  refine Gc hS ?_
  refine Sd ?_
  refine Wk ?_
  refine Sd ?_
  refine(hn).val.use ?_;simp only[go_sem]
  refine Wk ?_
  intro b5
  refine Sd ?_
  refine Wk ?_
  refine Sd ?_
  refine(hm).val.use ?_;simp only[go_sem]
  refine Wk ?_
  intro b7
  refine Sd ?_
  refine Wk ?_
  refine Sd ?_
  refine(hNm).val.use ?_;simp only[go_sem]
  refine Wk ?_
  intro h1 h2
  refine Wk ?_
  refine Sd ?_
  refine(ref30_Names).val.use ?_;simp only[go_sem]
  refine W1 hl ?_
  refine AWp.range1' 10 [11] [1,2,5,6,7,8,9,10,51,52] (fun k vs L=>∃v,vs=[v]∧AppSt 9 1 ((nmL n k).map astr) v L) (by decide) rfl (by simp only[go_sem];rfl) rfl ⟨anil,rfl,.nil⟩ ?_ ?_
  ·rintro i vs L hk - ⟨v,rfl,hA⟩
   have hkn:i<nmTx.length:=hk
   have hg:=getD_map (f:=astr) hkn
   have hsu:=nmL_succ n hkn
   have hle:((nmL n i).map astr).length≤i:=by rw[List.length_map];exact nmL_len n i
   generalize (nmL n (i+1)).map astr=zs at *
   generalize (nmL n i).map astr=ys at *
   generalize nmTx[i]=x at *
   rcases hA.inv with ⟨rfl,rfl,rfl⟩|⟨bq,cq,rfl,rfl⟩
   ·simp only[go_sem]
    refine W1 hg ?_
    refine⟨fun h => ?_,fun h => ?_⟩
    ·rw[if_pos (show bitP n i from h)] at hsu
     intros
     refine Wk ?_
     exact⟨_,List.Sublist.refl _,_,rfl,by rw[hsu];exact .row _ _ _⟩
    ·rw[if_neg (show ¬bitP n i from h)] at hsu
     intros
     refine Wk ?_
     exact⟨_,List.Sublist.refl _,_,rfl,by rw[hsu];exact .nil⟩
   ·simp only[go_sem]
    refine W1 hg ?_
    refine⟨fun h => ?_,fun h => ?_⟩
    ·rw[if_pos (show bitP n i from h)] at hsu
     refine Sd ?_
     intro b' cap' g8
     intros
     refine Wk ?_
     exact⟨_,List.Sublist.refl _,_,rfl,by rw[hsu];exact AppSt.snoc _ _ _ rfl⟩
    ·rw[if_neg (show ¬bitP n i from h)] at hsu
     intros
     refine Wk ?_
     exact⟨_,List.Sublist.refl _,_,rfl,by rw[hsu];exact hA⟩
  rintro vs L - ⟨v,rfl,hA⟩
  refine AWp.viewA (L:=[]) hA (j:=11) rfl ?_
  have hEq:=texts_equal (nmL n 10) (nmL n 10) (Nat.le_trans (nmL_len n 10) (by decide))
  rw[decide_eq_true rfl] at hEq
  simp only[go_sem]
  refine Wk ?_
  refine Sd ?_
  refine(hEq).val.use ?_;simp only[go_sem]
  refine Wk ?_
  by_cases he:e=0
  ·subst he
   obtain⟨r1,r2,s1,s2⟩:=hok rfl
   refine Sd ?_
   refine(hB).val.use ?_;simp only[go_sem]
   refine Wk ?_
   repeat(first|(with_reducible refine AWp.seq ?_)|(with_reducible refine AWp.block ?_))
   refine AWp.mix mixed [0,1,2,3,4,5,6,7,8,9,10,11,12,13,14,15,16,17,18] .done (by kernel_rfl) ?_;simp only[go_sem]
   refine Sd ?_
   refine Gc r1 ?_
   refine Sd ?_
   refine Sd ?_
   refine Gc s1 ?_
   refine Sd ?_
   refine Sd ?_
   refine Gc r2 ?_
   refine Sd ?_
   refine Sd ?_
   refine Gc s2 ?_
   refine Sd ?_
   refine Wk ?_
   refine ret_eq ?_;simp only[go_sem]
  ·obtain⟨g1,g2⟩:=hbad he
   refine Sd ?_
   refine(hB).val.use ?_;simp only[go_sem]
   refine W1 he ?_
   refine Sd ?_
   refine(g1).val.use ?_;simp only[go_sem]
   refine Wk ?_
   refine Sd ?_
   refine Gc g2 ?_
   refine Sd ?_
   refine Wk ?_
   refine ret_eq ?_;simp only[go_sem]
end Go.AL
end
section
namespace Go.AL
open Go Go.RowKit
set_option maxRecDepth 100000
section
variable {H:Type} {enc:TypeId × Value→H} {W:World}
theorem rdInt:Rd enc Proofs.Tryz.prog W 3 1 ai (fun _=>True):=(Rd.int Proofs.Tryz.underlying3).map id (fun _=>rfl) (fun _ _=>trivial)
end
end Go.AL
end
section
namespace Go.AL
open Go Go.RowKit
set_option maxRecDepth 100000
def aPdC:Pd→List AV | .mk k n p q s l=>[ai k,ai n,ai p,ai q,astr s,.sl 6 (l.map aPd)]
theorem aPd_agg:∀y,aPd y = .agg (aPdC y):=fun ⟨k,n,p,q,s,l⟩=>by rw[aPd_mk];rfl
section
variable {H:Type} {enc:TypeId × Value→H} {W:World}
theorem rdPredN:∀N,RdF enc Proofs.Tryz.prog W N 24 6 aPd (fun _=>True)
 | 0 => .zero
 | N+1 =>
  (RdF.struct (ts:=[3,3,3,3,9,22]) Proofs.Tryz.underlying24 rfl rfl (by kernel_rfl) (by kernel_rfl)
   (.cons ((Rd.int Proofs.Tryz.underlying3).bounded N) (fun _=>⟨rfl,rfl⟩) (.cons ((Rd.int Proofs.Tryz.underlying3).bounded N) (fun _=>⟨rfl,rfl⟩) (.cons ((Rd.int Proofs.Tryz.underlying3).bounded N) (fun _=>⟨rfl,rfl⟩)
    (.cons ((Rd.int Proofs.Tryz.underlying3).bounded N) (fun _=>⟨rfl,rfl⟩) (.cons ((Rd.str Proofs.Tryz.underlying9).bounded N) (fun _=>⟨rfl,rfl⟩)
     (.cons ((RdF.slice Proofs.Tryz.underlying22 (by kernel_rfl:Program.cellsOf Proofs.Tryz.prog 24=6) (by decide) (rdPredN N)).mono (Nat.le_succ N)) (fun _=>⟨rfl,rfl⟩) .nil))))))).map
   (fun (y:Int × Int × Int × Int × ByteArray × List Pd × Unit)=>Pd.mk y.1 y.2.1 y.2.2.1 y.2.2.2.1 y.2.2.2.2.1 y.2.2.2.2.2.1) (fun _=>(aPd_mk _ _ _ _ _ _).symm) (fun _ _=>trivial)
theorem rdPred:Rd enc Proofs.Tryz.prog W 24 6 aPd (fun _=>True):=RdF.all rdPredN
end
end Go.AL
end
