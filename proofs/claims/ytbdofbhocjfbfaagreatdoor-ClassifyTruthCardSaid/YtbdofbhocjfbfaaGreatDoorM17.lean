/- Texts of this claim's proof: WI9, WI10. No condition. -/
import Derived.Test.YtbdofbhocjfbfaaGreatDoorM16
import Derived.Test.YtbdofbhocjfbfaaGreatDoorM12
section
namespace Go.AL
open Go Go.RowKit
set_option maxRecDepth 4000
abbrev Atm:=Int × Int × Int × ByteArray
def atmV (x:Atm):Value:=.agg #[.int .i64 x.1,.int .i64 x.2.1,.int .i64 x.2.2.1,.string x.2.2.2]
theorem atmV_fits (x:Atm):(KK.st [.int,.int,.int,.str]).fits (atmV x)=true:=rfl
theorem zav_atmV (x:Atm):zav (atmV x) = .agg [ai x.1,ai x.2.1,ai x.2.2.1,astr x.2.2.2]:=rfl
theorem tinfo_atoms:tinfo Proofs.Tryz.prog 115=some ⟨.map 121 3,1,8,.v (.map none)⟩:=by simp only[go_sem]
theorem atm_key (x:Atm):Value.agg #[.int .i64 x.1,.int .i64 x.2.1,.int .i64 x.2.2.1,.string x.2.2.2]=atmV x:=rfl
theorem mget_nil (k:Value) (z:AV):mget k [] [] z=z:=rfl
theorem mput_nil (k:Value) (x:AV):mput k x [] [] = .amap [k] [x]:=rfl
theorem classify_zero:MCalls Proofs.Tryz.prog 156 [] [] fun r L=>∃b,r = .agg [ai 0,.lm b]∧L=[(b,.amap [] [])]:=by
 refine MCalls.enter' 3 [.cell 0 117] [] Proofs.Tryz.func156 rfl rfl rfl rfl rfl (by simp) (AWp.of ?_);simp only[go_sem]
 intro b0
 refine Wk ?_
 intro b1 g1
 have n1:¬b0=b1:=by omega
 have n2:¬b1=b0:=by omega
 simp only[go_sem,n1,n2]
 refine Sd ?_
 refine W2 n1 n2 ?_
 refine ret_sub [(b1,.amap [] [])] (List.Sublist.cons_cons _ (List.nil_sublist _)) ?_
 simp only[go_sem,n1,n2]
 exact⟨b1,rfl,rfl⟩
theorem classify_addX (c:Int) (x:Atm) (hc:NumB c):PC Proofs.Tryz.prog 125 [.agg [ai c,.rm [] []],.agg [ai 0,.rm [atmV x] [ai 1]],ai (-1)] (.tup [.agg [ai c,.rm [atmV x] [ai (-1)]],ab true]):=by
 have hcl:=maps_Clone [] []
 have h0:=classify_add1 (-1) c 0 (by decide) hc (by decide)
 have h1:=classify_add1 (-1) 0 1 (by decide) (by decide) (by decide)
 have e0:sumF (-1) c 0=(c,true):=by
  have:mulF (-1) 0=(0,0):=by decide
  unfold sumF
  rw[this]
  simp [hc]
 have e1:sumF (-1) 0 1=(-1,true):=by decide
 rw[e0] at h0
 rw[e1] at h1
 refine PC.enter 63 [.cell 6 117,.tmp 7] [3,4,5,11] Proofs.Tryz.func125 rfl rfl rfl rfl rfl (by simp) (AWp.of ?_);simp only[go_sem]
 intro b6
 refine Wk ?_
 refine(MVal.nd (MVal.frame (Lm:=[]) (Lr:=_) hcl.val)).mono ?_
 rintro r L ⟨hnd,L1,rfl,bm,rfl,rfl⟩
 simp only[go_sem]
 intro b8 g1 g2
 have hm6:¬bm=b6:=by simp at hnd;exact hnd
 have n1:¬b6=bm:=fun e=>hm6 e.symm
 have n2:¬b8=bm:=by omega
 have n3:¬bm=b8:=by omega
 have n4:¬b8=b6:=by omega
 have n5:¬b6=b8:=by omega
 have h0:=PC.clo (args:=[_,_]) (caps:=[_]) h0
 have h1:=PC.clo (args:=[_,_]) (caps:=[_]) h1
 refine Sd ?_
 refine W6 hm6 n1 n2 n3 n4 n5 ?_
 refine Sd ?_
 refine(h0).use ?_;simp only[go_sem,hm6,n1,n2,n3,n4,n5]
 refine W6 hm6 n1 n2 n3 n4 n5 ?_
 refine AOp.rangeMap (kt:=121) (et:=3) rfl (tinfo_atoms) (fun i hi=>by cases hi;decide) rfl ?_
 intro bi g3
 simp only[go_sem] at g3 ⊢
 have m1:¬bi=b8:=by omega
 have m2:¬b8=bi:=by omega
 have m3:¬bi=bm:=by omega
 have m4:¬bm=bi:=by omega
 have m5:¬bi=b6:=by omega
 have m6:¬b6=bi:=by omega
 refine W6 hm6 n1 n2 n3 n4 n5 ?_
 refine AWp.block (AWp.loopN [10] [6,8,9,32] (fun m vs L=>(m=1∧vs=[ab true]∧L=[(bi,.iter [atmV x] [ai 1] []),(b8,.row 117 2 [.agg [ai c,.lm bm]] 1),(bm,.amap [] []),(b6,.row 117 2 [.agg [ai 0,.v (.map none)]] 1)]) ∨
  (m=0∧vs=[ab true]∧L=[(bi,.iter [atmV x] [ai 1] [0]),(b8,.row 117 2 [.agg [ai c,.lm bm]] 1),(bm,.amap [atmV x] [ai (-1)]),(b6,.row 117 2 [.agg [ai 0,.v (.map none)]] 1)])) 1 (.inl ⟨rfl,rfl,rfl⟩) ?_)
 rintro m vs L - (⟨rfl,rfl,rfl⟩|⟨rfl,rfl,rfl⟩)
 ·simp only[go_sem]
  refine Sd ?_
  refine AWp.of ?_;simp only[go_sem,m1,m2,m3,m4,m5,m6]
  refine AOp.nextMap (ks:=[atmV x]) (vs:=[ai 1]) (vis:=[]) (b:=bi) rfl ?_ rfl (by simp only[go_sem]) (fun h=>absurd (h 0 (by simp)) (by simp)) ?_
  ·intro i hi;cases hi;decide
  intro i hi hn
  have:i=0:=by simp at hi;exact hi
  subst this
  simp only[go_sem]
  refine W6 m1 m2 m3 m4 m5 m6 ?_
  refine AOp.entryMap (ks:=[atmV x]) (vs:=[ai 1]) (vis:=[]) (i:=0) (b:=bi) rfl ?_ rfl (if_pos rfl) ?_
  ·intro i hi;cases hi;decide
  simp only[go_sem,List.getD_cons_zero,zav_atmV]
  intro b11 g4 g5 g6 g7
  have q1:¬bi=b11:=by omega
  have q2:¬b11=bi:=by omega
  have q3:¬b8=b11:=by omega
  have q4:¬b11=b8:=by omega
  have q5:¬bm=b11:=by omega
  have q6:¬b11=bm:=by omega
  have q7:¬b6=b11:=by omega
  have q8:¬b11=b6:=by omega
  refine Sd ?_
  repeat(first|((with_reducible refine AWp.ofC ?_ ?_);exact rfl;simp only[go_sem,atm_key,atmV_fits,mget_nil,m1,m2,m3,m4,m5,m6,hm6,n1,n2,n3,n4,n5,q1,q2,q3,q4,q5,q6,q7,q8])|((with_reducible refine an ?_ ?_);exact Au))
  refine Sd ?_
  refine(h1).use ?_;simp only[go_sem,atm_key,atmV_fits,mget_nil,m1,m2,m3,m4,m5,m6,hm6,n1,n2,n3,n4,n5,q1,q2,q3,q4,q5,q6,q7,q8]
  repeat(first|((with_reducible refine AWp.ofC ?_ ?_);exact rfl;simp only[go_sem,atm_key,atmV_fits,mget_nil,mput_nil,m1,m2,m3,m4,m5,m6,hm6,n1,n2,n3,n4,n5,q1,q2,q3,q4,q5,q6,q7,q8])|((with_reducible refine an ?_ ?_);exact Au))
  exact⟨_,List.Sublist.refl _,0,by decide,.inr ⟨rfl,rfl⟩⟩
 ·simp only[go_sem]
  refine Sd ?_
  refine AWp.of ?_;simp only[go_sem,m1,m2,m3,m4,m5,m6]
  refine AOp.nextMap (ks:=[atmV x]) (vs:=[ai 1]) (vis:=[0]) (b:=bi) rfl ?_ rfl (if_pos rfl) (fun h => ?_) (fun i hi hn=>absurd hi (by simp at hn ⊢;omega))
  ·intro i hi;cases hi;decide
  simp only[go_sem]
  repeat(first|((with_reducible refine AWp.ofC ?_ ?_);exact rfl;simp only[go_sem,m1,m2,m3,m4,m5,m6,hm6,n1,n2,n3,n4,n5])|((with_reducible refine an ?_ ?_);exact Au))
  refine ret_view [false,false,true,false] ?_;simp only[go_sem,m1,m2,m3,m4,m5,m6,hm6,n1,n2,n3,n4,n5]
  exact .mkTup (Vws.cons (.mkAgg (Vws.cons (.refl _) (Vws.cons (.lm (if_pos rfl) rfl (Vws.refl _).2) .nil))) (Vws.refl _))
theorem classify_linN (n p q:Int) (s:ByteArray):PC Proofs.Tryz.prog 124 [aPd (.mk 1 n p q s [])] (.tup [.agg [ai n,.rm [] []],ab true]):=by
 have hz:=classify_zero
 simp only[aPd_mk,List.map_nil]
 refine PC.enter 114 [.cell 2 117,.tmp 3] [1] Proofs.Tryz.func124 rfl rfl rfl rfl rfl (by simp) (AWp.of ?_);simp only[go_sem]
 intro b2
 refine Wk ?_
 refine AWp.range' 0 [4] [1,2,14,15] (fun i vs L=>vs=[anil]∧L=[(b2,.row 117 2 [.agg [ai 0,.v (.map none)]] 1)]) (by omega) rfl rfl rfl ⟨rfl,rfl⟩ ?_ ?_
 ·rintro i vs L hi;omega
 ·rintro vs L - ⟨rfl,rfl⟩
  simp only[go_sem]
  repeat(first|((with_reducible refine AWp.ofC ?_ ?_);exact rfl;simp only[go_sem,Int.reduceEq])|((with_reducible refine an ?_ ?_);exact Au))
  refine(MVal.nd (MVal.frame (Lm:=[]) (Lr:=_) hz.val)).mono ?_
  rintro r L ⟨hnd,L1,rfl,bm,rfl,rfl⟩
  have h1:¬bm=b2:=by simp at hnd;exact hnd
  have h2:¬b2=bm:=fun e=>h1 e.symm
  simp only[go_sem]
  intro b9 g1 g2
  have n1:¬b2=b9:=by omega
  have n2:¬b9=b2:=by omega
  have n3:¬bm=b9:=by omega
  have n4:¬b9=bm:=by omega
  refine Sd ?_
  refine W6 h1 h2 n1 n2 n3 n4 ?_
  refine ret_view [false,true,false] ?_;simp only[go_sem,h1,h2,n1,n2,n3,n4]
  exact .mkTup (Vws.cons (.mkAgg (Vws.cons (.refl _) (Vws.cons (.lm (if_pos rfl) rfl (Vws.refl _).2) .nil))) (Vws.refl _))
theorem classify_linV (n p q:Int) (s:ByteArray):PC Proofs.Tryz.prog 124 [aPd (.mk 2 n p q s [])] (.tup [.agg [ai 0,.rm [atmV (2,p,q,s)] [ai 1]],ab true]):=by
 have hz:=classify_zero
 have hkey:Value.agg #[.int .i64 2,.int .i64 p,.int .i64 q,.string s]=atmV (2,p,q,s):=rfl
 have hfit:=atmV_fits (2,p,q,s)
 simp only[aPd_mk,List.map_nil]
 generalize atmV (2,p,q,s)=kv at *
 refine PC.enter 114 [.cell 2 117,.tmp 3] [1] Proofs.Tryz.func124 rfl rfl rfl rfl rfl (by simp) (AWp.of ?_);simp only[go_sem]
 intro b2
 refine Wk ?_
 refine AWp.range' 0 [4] [1,2,14,15] (fun i vs L=>vs=[anil]∧L=[(b2,.row 117 2 [.agg [ai 0,.v (.map none)]] 1)]) (by omega) rfl rfl rfl ⟨rfl,rfl⟩ ?_ ?_
 ·rintro i vs L hi;omega
 ·rintro vs L - ⟨rfl,rfl⟩
  simp only[go_sem]
  repeat(first|((with_reducible refine AWp.ofC ?_ ?_);exact rfl;simp only[go_sem,Int.reduceEq])|((with_reducible refine an ?_ ?_);exact Au))
  refine(MVal.nd (MVal.frame (Lm:=[]) (Lr:=_) hz.val)).mono ?_
  rintro r L ⟨hnd,L1,rfl,bm,rfl,rfl⟩
  have h1:¬bm=b2:=by simp at hnd;exact hnd
  have h2:¬b2=bm:=fun e=>h1 e.symm
  simp only[go_sem]
  intro b9 g1 g2
  have n1:¬b2=b9:=by omega
  have n2:¬b9=b2:=by omega
  have n3:¬bm=b9:=by omega
  have n4:¬b9=bm:=by omega
  refine Sd ?_
  repeat(first|((with_reducible refine AWp.ofC ?_ ?_);exact rfl;simp only[go_sem,h1,h2,n1,n2,n3,n4,hkey,hfit,mput_nil])|((with_reducible refine an ?_ ?_);exact Au))
  refine ret_view [false,true,false] ?_;simp only[go_sem,h1,h2,n1,n2,n3,n4]
  exact .mkTup (Vws.cons (.mkAgg (Vws.cons (.refl _) (Vws.cons (.lm (if_pos rfl) rfl (Vws.refl _).2) .nil))) (Vws.refl _))
theorem classify_comparison (t:Pd):PC Proofs.Tryz.prog 123 [aPd t] (ab (decide (9≤t.kind∧t.kind≤12))):=by
 obtain⟨k,n,p,q,s,l⟩:=t
 show PC _ _ _ (ab (decide (9≤k∧k≤12)))
 generalize hb:decide (9≤k∧k≤12)=b
 simp only[aPd_mk]
 refine PC.enter 11 [.tmp 2] [1] Proofs.Tryz.func123 rfl rfl rfl rfl rfl (by simp) (AWp.of ?_);simp only[go_sem]
 refine Wk ?_
 refine ret_eq ?_;simp only[go_sem]
 rw[← hb]
 congr 2
 rw[Bool.eq_iff_iff];simp
theorem classify_comparedN (t:Pd) (h:¬(9≤t.kind∧t.kind≤12)):PC Proofs.Tryz.prog 87 [aPd t] (.tup [.agg [ai 0,.v (.map none)],ab false]):=by
 have h1:=classify_comparison t
 rw[decide_eq_false h] at h1
 obtain⟨k,n,p,q,s,l⟩:=t
 simp only[aPd_mk] at *
 refine PC.enter 40 [.cell 2 117,.tmp 3] [1,4,6] Proofs.Tryz.func87 rfl rfl rfl rfl rfl (by simp) (AWp.of ?_);simp only[go_sem]
 intro b2
 refine Wk ?_
 refine Sd ?_
 refine(h1).val.use ?_;simp only[go_sem]
 refine Wk ?_
 refine ret_eq ?_;simp only[go_sem]
def cmpX (m:Int) (p:Int) (s:ByteArray):Pd:=.mk 12 0 0 0 ByteArray.empty [.mk 1 m 0 0 ByteArray.empty [],.mk 2 0 p 0 s []]
theorem classify_comparedX (m p:Int) (s:ByteArray) (hm:NumB m):PC Proofs.Tryz.prog 87 [aPd (cmpX m p s)] (.tup [.agg [ai m,.rm [atmV (2,p,0,s)] [ai (-1)]],ab true]):=by
 have h1:=classify_comparison (cmpX m p s)
 rw[decide_eq_true (show 9≤(cmpX m p s).kind∧(cmpX m p s).kind≤12 from ⟨(by decide:(9:Int)≤12),(by decide:(12:Int)≤12)⟩)] at h1
 have h2:=classify_linN m 0 0 ByteArray.empty
 have h3:=classify_linV 0 p 0 s
 have h4:=classify_addX m (2,p,0,s) hm
 unfold cmpX at *
 simp only[aPd_mk,List.map_cons,List.map_nil] at *
 generalize atmV (2,p,0,s)=kv at *
 refine PC.enter 40 [.cell 2 117,.tmp 3] [1,4,6] Proofs.Tryz.func87 rfl rfl rfl rfl rfl (by simp) (AWp.of ?_);simp only[go_sem]
 intro b2
 refine Wk ?_
 refine Sd ?_
 refine(h1).val.use ?_;simp only[go_sem]
 refine Wk ?_
 refine Sd ?_
 refine(h2).val.use ?_;simp only[go_sem]
 refine Wk ?_
 intro b4 g4
 have n1:¬b2=b4:=by omega
 have n2:¬b4=b2:=by omega
 try simp only[go_sem,n1,n2]
 refine Sd ?_
 refine W2 n1 n2 ?_
 refine Sd ?_
 refine(h3).val.use ?_;simp only[go_sem]
 refine W2 n1 n2 ?_
 intro b6 g6
 have n3:¬b2=b6:=by omega
 have n4:¬b6=b2:=by omega
 try simp only[go_sem,n3,n4]
 refine Sd ?_
 refine W2 n3 n4 ?_
 refine Sd ?_
 refine(h4).val.use ?_;simp only[go_sem]
 refine Wk ?_
 refine ret_eq ?_;simp only[go_sem]
theorem classify_countsX (m p:Int) (s:ByteArray) (sg:Int):PC Proofs.Tryz.prog 130 [.agg [ai m,.rm [atmV (2,p,0,s)] [ai (-1)]],ai sg] (ab false):=by
 have hzv:=zav_atmV (2,p,0,s)
 generalize hkv:atmV (2,p,0,s)=kv at *
 refine PC.enter 24 [.tmp 4] [2,5] Proofs.Tryz.func130 rfl rfl rfl rfl rfl (by simp) (AWp.of ?_);simp only[go_sem]
 refine Wk ?_
 refine AOp.rangeMap (kt:=121) (et:=3) rfl tinfo_atoms (fun i hi=>by cases hi;decide) rfl ?_
 intro bi g3
 simp only[go_sem] at g3 ⊢
 refine Wk ?_
 refine AWp.block (AWp.loopN [] [1,9] (fun m vs L=>m=1∧vs=[]∧L=[(bi,.iter [kv] [ai (-1)] [])]) 1 ⟨rfl,rfl,rfl⟩ ?_)
 rintro m vs L - ⟨rfl,rfl,rfl⟩
 simp only[go_sem]
 refine Sd ?_
 refine AWp.of ?_;simp only[go_sem]
 refine AOp.nextMap (ks:=[kv]) (vs:=[ai (-1)]) (vis:=[]) (b:=bi) rfl ?_ rfl (if_pos rfl) (fun h=>absurd (h 0 (by simp)) (by simp)) ?_
 ·intro i hi;cases hi;decide
 intro i hi hn
 have:i=0:=by simp at hi;exact hi
 subst this
 simp only[go_sem]
 refine Wk ?_
 refine AOp.entryMap (ks:=[kv]) (vs:=[ai (-1)]) (vis:=[]) (i:=0) (b:=bi) rfl ?_ rfl (if_pos rfl) ?_
 ·intro i hi;cases hi;decide
 simp only[go_sem,List.getD_cons_zero,hzv]
 intro b5 g4
 have n1:¬bi=b5:=by omega
 have n2:¬b5=bi:=by omega
 refine Sd ?_
 repeat(first|((with_reducible refine AWp.ofC ?_ ?_);exact rfl;simp only[go_sem,n1,n2,Int.reduceEq])|((with_reducible refine an ?_ ?_);exact Au))
 refine ret_eq ?_;simp only[go_sem]
theorem classify_boundedN (t:Pd) (h:¬(9≤t.kind∧t.kind≤12)) (sg:Int):PC Proofs.Tryz.prog 93 [aPd t,ai sg] (ab false):=by
 have h1:=classify_comparedN t h
 obtain⟨k,n,p,q,s,l⟩:=t
 simp only[aPd_mk] at *
 refine PC.enter 30 [.tmp 4] [2,5,19] Proofs.Tryz.func93 rfl rfl rfl rfl rfl (by simp) (AWp.of ?_);simp only[go_sem]
 refine Wk ?_
 refine Sd ?_
 refine(h1).val.use ?_;simp only[go_sem]
 refine Wk ?_
 intro b5
 refine Sd ?_
 repeat(first|(with_reducible refine AWp.seq ?_)|(with_reducible refine AWp.block ?_))
 refine AWp.mix mixed [0,1,2,3,4,5,6,7,8,9,10,11,12,13,14,15,16,17,18] .done (by kernel_rfl) ?_;simp only[go_sem]
 refine GCall.use .any (fun h=>h.elim) ?_
 simp only[go_sem]
 refine GCall.use (ab false) (fun h=>h.elim) ?_
 simp only[go_sem]
 refine GCall.use (ab false) (fun h=>False.elim (by simp at h)) ?_
 simp only[go_sem]
 refine Wk ?_
 refine ret_eq ?_;simp only[go_sem]
theorem classify_boundedX (m p:Int) (s:ByteArray) (hm:NumB m) (sg:Int):PC Proofs.Tryz.prog 93 [aPd (cmpX m p s),ai sg] (ab false):=by
 have h1:=classify_comparedX m p s hm
 have h2:=classify_is [11,12]
 have h3:=classify_is1 [11,12] (by decide) (cmpX m p s)
 have h4:=classify_countsX m p s sg
 have hk:([11,12]:List Int).any (fun x=>decide ((cmpX m p s).kind=x))=true:=by
  show ([11,12]:List Int).any (fun x=>decide ((12:Int)=x))=true
  decide
 rw[hk] at h3
 have h3:=PC.clo (args:=[_]) (caps:=[_]) h3
 unfold cmpX at *
 simp only[aPd_mk,List.map_cons,List.map_nil] at *
 generalize atmV (2,p,0,s)=kv at *
 refine PC.enter 30 [.tmp 4] [2,5,19] Proofs.Tryz.func93 rfl rfl rfl rfl rfl (by simp) (AWp.of ?_);simp only[go_sem]
 refine Wk ?_
 refine Sd ?_
 refine(h1).val.use ?_;simp only[go_sem]
 refine Wk ?_
 intro b5
 refine Sd ?_
 have e1:¬((1:Nat):Int)=0:=by decide
 repeat(first|(with_reducible refine AWp.seq ?_)|(with_reducible refine AWp.block ?_))
 refine AWp.mix mixed [0,1,2,3,4,5,6,7,8,9,10,11,12,13,14,15,16,17,18] .done (by kernel_rfl) ?_;simp only[go_sem,e1]
 refine Sd ?_
 refine GCall.use (.clo 121 [.rp 1 [.sl 1 [ai 11,ai 12]] 0 0]) (fun _=>⟨At,(h2).val.use ⟨rfl,rfl⟩⟩) ?_;simp only[go_sem,e1]
 refine Sd ?_
 refine GCall.use (ab true) (fun _=>⟨At,h3.use ⟨rfl,rfl⟩⟩) ?_
 simp only[go_sem,e1]
 refine Sd ?_
 refine Sd ?_
 refine GCall.use (ab false) (fun _=>⟨At,(h4).val.use ⟨rfl,rfl⟩⟩) ?_;simp only[go_sem,e1]
 refine Sd ?_
 refine W1 e1 ?_
 refine ret_eq ?_;simp only[go_sem]
def sX:ByteArray:=⟨#[120]⟩
def sY:ByteArray:=⟨#[121]⟩
def vX:Pd:=.mk 2 0 0 0 sX []
def vY:Pd:=.mk 2 0 1 0 sY []
def nm3:Pd:=.mk 1 3 0 0 ByteArray.empty []
def nm1:Pd:=.mk 1 1 0 0 ByteArray.empty []
def cmpA:Pd:=cmpX 3 0 sX
def cmpB:Pd:=.mk 10 0 0 0 ByteArray.empty [vY,nm1]
def exN:Pd:=.mk 16 0 0 0 ByteArray.empty [cmpA,cmpB]
def exP:Pd:=.mk 15 0 0 0 ByteArray.empty [.mk 17 0 0 0 ByteArray.empty [.mk 11 0 0 0 ByteArray.empty [vX,nm3],.mk 9 0 0 0 ByteArray.empty [vY,nm1]]]
def exT:List Pr:=[⟨⟨#[112]⟩,[(sX,0)],[]⟩,⟨⟨#[113]⟩,[(sY,0)],[]⟩]
theorem exN_normal:normF exP false=exN:=by rfl
theorem loc_A:locR cmpA=(0,true):=by rfl
theorem loc_B:locR cmpB=(1,true):=by rfl
theorem loc_N:(locR exN).2=false:=by rfl
theorem prt_N16:prtF 16 exN=([cmpA,cmpB],true):=by rfl
theorem prt_N17:prtF 17 exN=([],false):=by rfl
theorem jn_N:jnL 2 16 13 exN=[cmpA,cmpB]:=by rfl
theorem exN_loc:allB locB exN=true:=by decide
theorem exT_valid:validF exT=true:=by
 unfold validF faultF
 rw[if_neg (by decide),show procFirst exT=none from rfl,show evFirst exT=none from rfl,show msgF exT=none from rfl,cycF_rank (fun x=>x.2) (by decide)]
 rfl
theorem exT_sm:Sm exT:=⟨by decide,by decide,by decide,by decide⟩
theorem exP_formed:formedB exP=true:=by decide
theorem exP_typed:typedB exP=true:=by decide
theorem exP_prd:prdF exP=0:=by
 unfold prdF
 rw[exP_formed,exP_typed]
 rfl
theorem exP_check:checkF exT exP=0:=by
 unfold checkF
 rw[exT_valid,exP_formed,exP_typed,show allB (resB exT) exP=true from by decide,show fitB exT exP=true from by rfl]
 rfl
theorem szA:szF cmpA≤1000000:=by decide
theorem szB:szF cmpB≤1000000:=by decide
theorem szN:szF exN≤1000000:=by decide
theorem notcmpN:¬(9≤exN.kind∧exN.kind≤12):=by decide
theorem classify_stableA:PC Proofs.Tryz.prog 56 [aPd cmpA] (ab false):=by
 have h1:=classify_boundedX 3 0 sX (by decide) (-1)
 show PC _ _ [aPd (cmpX 3 0 sX)] _
 unfold cmpX at *
 simp only[aPd_mk] at *
 refine PC.enter 26 [.tmp 2] [1] Proofs.Tryz.func56 rfl rfl rfl rfl rfl (by simp) (AWp.of ?_);simp only[go_sem]
 repeat(first|((with_reducible refine AWp.ofC ?_ ?_);exact rfl;simp only[go_sem,Int.reduceEq])|((with_reducible refine an ?_ ?_);exact Au))
 refine Sd ?_
 refine(h1).val.use ?_;simp only[go_sem]
 refine Wk ?_
 refine ret_eq ?_;simp only[go_sem]
theorem classify_stableN:PC Proofs.Tryz.prog 56 [aPd exN] (ab false):=by
 have h1:=classify_stableA
 have hA:aPd cmpA = .agg [ai 12,ai 0,ai 0,ai 0,astr ByteArray.empty,.sl 6 ([.mk 1 3 0 0 ByteArray.empty [],.mk 2 0 0 0 sX []].map aPd)]:=by unfold cmpA cmpX;rw[aPd_mk]
 have hN:aPd exN = .agg [ai 16,ai 0,ai 0,ai 0,astr ByteArray.empty,.sl 6 [aPd cmpA,aPd cmpB]]:=by unfold exN;rw[aPd_mk];rfl
 rw[hN]
 generalize aPd cmpB=B at *
 rw[hA] at h1 ⊢
 generalize AV.sl 6 ([.mk 1 3 0 0 ByteArray.empty [],.mk 2 0 0 0 sX []].map aPd)=X at *
 refine PC.enter 26 [.tmp 2] [1] Proofs.Tryz.func56 rfl rfl rfl rfl rfl (by simp) (AWp.of ?_);simp only[go_sem]
 repeat(first|((with_reducible refine AWp.ofC ?_ ?_);exact rfl;simp only[go_sem,Int.reduceEq])|((with_reducible refine an ?_ ?_);exact Au))
 refine Sd ?_
 refine(h1).val.use ?_;simp only[go_sem]
 refine GCall.use .any (fun h=>absurd h (by simp)) ?_
 simp only[go_sem]
 refine Wk ?_
 refine ret_eq ?_;simp only[go_sem]
theorem classify_bothN (t:Pd) (h:¬(9≤t.kind∧t.kind≤12)):PC Proofs.Tryz.prog 94 [aPd t] (ab false):=by
 have h1:=classify_comparedN t h
 obtain⟨k,n,p,q,s,l⟩:=t
 simp only[aPd_mk] at *
 refine PC.enter 74 [.tmp 2] [1,3,8] Proofs.Tryz.func94 rfl rfl rfl rfl rfl (by simp) (AWp.of ?_);simp only[go_sem]
 refine Wk ?_
 refine Sd ?_
 refine(h1).val.use ?_;simp only[go_sem]
 refine Wk ?_
 intro b3
 refine Sd ?_
 refine Wk ?_
 refine ret_eq ?_;simp only[go_sem]
theorem classify_sumN (t:Pd) (h:¬(9≤t.kind∧t.kind≤12)):PC Proofs.Tryz.prog 53 [aPd t] (.tup [anil,ai 0,ai 0,ab false]):=by
 have h1:=classify_comparedN t h
 obtain⟨k,n,p,q,s,l⟩:=t
 simp only[aPd_mk] at *
 refine PC.enter 52 [.tmp 2,.tmp 3,.tmp 4,.tmp 5] [1,6,9,42] Proofs.Tryz.func53 rfl rfl rfl rfl rfl (by simp) (AWp.of ?_);simp only[go_sem]
 refine Wk ?_
 refine Sd ?_
 refine(h1).val.use ?_;simp only[go_sem]
 refine Wk ?_
 intro b3
 refine Sd ?_
 refine Wk ?_
 refine ret_eq ?_;simp only[go_sem]
theorem classify_meetsL (t:Pd) (hz:szF t≤1000000) (h:(locR t).2=true):PC Proofs.Tryz.prog 54 [aPd t] (ab true):=by
 have h1:=classify_local t hz
 rw[h] at h1
 generalize (locR t).1=pr at *
 obtain⟨k,n,p,q,s,l⟩:=t
 simp only[aPd_mk] at *
 refine PC.enter 43 [.tmp 2] [1] Proofs.Tryz.func54 rfl rfl rfl rfl rfl (by simp) (AWp.of ?_);simp only[go_sem]
 refine Wk ?_
 refine Sd ?_
 refine(h1).val.use ?_;simp only[go_sem]
 refine Wk ?_
 repeat(refine GCall.use (ab false) (fun h=>absurd h (by simp)) ?_;simp only[go_sem])
 refine Wk ?_
 refine ret_eq ?_;simp only[go_sem]
theorem classify_joinsL (t:Pd) (hz:szF t≤1000000) (h:(locR t).2=true):PC Proofs.Tryz.prog 55 [aPd t] (ab true):=by
 have h1:=classify_local t hz
 rw[h] at h1
 generalize (locR t).1=pr at *
 obtain⟨k,n,p,q,s,l⟩:=t
 simp only[aPd_mk] at *
 refine PC.enter 38 [.tmp 2] [1] Proofs.Tryz.func55 rfl rfl rfl rfl rfl (by simp) (AWp.of ?_);simp only[go_sem]
 refine Wk ?_
 refine Sd ?_
 refine(h1).val.use ?_;simp only[go_sem]
 refine Wk ?_
 repeat(refine GCall.use (ab false) (fun h=>absurd h (by simp)) ?_;simp only[go_sem])
 refine Wk ?_
 refine ret_eq ?_;simp only[go_sem]
theorem aPd_ag (k n p q:Int) (s:ByteArray) (l:List Pd):∃X,aPd (.mk k n p q s l) = .agg [ai k,ai n,ai p,ai q,astr s,X]:=⟨_,aPd_mk ..⟩
theorem classify_meetsN:PC Proofs.Tryz.prog 54 [aPd exN] (ab true):=by
 have h1:=classify_local exN szN
 rw[loc_N] at h1
 have h2:=classify_boundedN exN notcmpN 1
 have h3:=classify_bothN exN notcmpN
 have h4:=classify_meetsL cmpA szA (by rw[loc_A])
 have h5:=classify_meetsL cmpB szB (by rw[loc_B])
 have hN:aPd exN = .agg [ai 16,ai 0,ai 0,ai 0,astr ByteArray.empty,.sl 6 [aPd cmpA,aPd cmpB]]:=by unfold exN;rw[aPd_mk];rfl
 rw[hN] at h1 h2 h3 ⊢
 generalize (locR exN).1=pr at *
 obtain⟨XA,hA⟩:∃X,aPd cmpA = .agg [ai 12,ai 0,ai 0,ai 0,astr ByteArray.empty,X]:=aPd_ag ..
 obtain⟨XB,hB⟩:∃X,aPd cmpB = .agg [ai 10,ai 0,ai 0,ai 0,astr ByteArray.empty,X]:=aPd_ag ..
 rw[hA,hB] at h1 h2 h3
 rw[hA] at h4
 rw[hB] at h5
 rw[hA,hB]
 refine PC.enter 43 [.tmp 2] [1] Proofs.Tryz.func54 rfl rfl rfl rfl rfl (by simp) (AWp.of ?_);simp only[go_sem]
 refine Wk ?_
 refine Sd ?_
 refine(h1).val.use ?_;simp only[go_sem]
 refine Wk ?_
 refine Sd ?_
 refine Gc h2 ?_
 refine Sd ?_
 refine Sd ?_
 refine Gc h3 ?_
 refine Sd ?_
 refine Sd ?_
 refine GCall.use (ab true) (fun _=>⟨At,(h4).val.use ⟨rfl,rfl⟩⟩) ?_;simp only[go_sem,Int.reduceEq]
 refine Sd ?_
 refine Sd ?_
 refine GCall.use (ab true) (fun _=>⟨At,(h5).val.use ⟨rfl,rfl⟩⟩) ?_;simp only[go_sem,Int.reduceEq]
 refine Sd ?_
 repeat(first|((with_reducible refine AWp.ofC ?_ ?_);exact rfl;simp only[go_sem,Int.reduceEq])|((with_reducible refine an ?_ ?_);exact Au))
 refine ret_eq ?_;simp only[go_sem]
theorem classify_joinsN:PC Proofs.Tryz.prog 55 [aPd exN] (ab true):=by
 have h1:=classify_local exN szN
 rw[loc_N] at h1
 have h2:=classify_stableN
 have h3:=classify_bothN exN notcmpN
 have h4:=classify_joinsL cmpA szA (by rw[loc_A])
 have h5:=classify_joinsL cmpB szB (by rw[loc_B])
 have hN:aPd exN = .agg [ai 16,ai 0,ai 0,ai 0,astr ByteArray.empty,.sl 6 [aPd cmpA,aPd cmpB]]:=by unfold exN;rw[aPd_mk];rfl
 rw[hN] at h1 h2 h3 ⊢
 generalize (locR exN).1=pr at *
 obtain⟨XA,hA⟩:∃X,aPd cmpA = .agg [ai 12,ai 0,ai 0,ai 0,astr ByteArray.empty,X]:=aPd_ag ..
 obtain⟨XB,hB⟩:∃X,aPd cmpB = .agg [ai 10,ai 0,ai 0,ai 0,astr ByteArray.empty,X]:=aPd_ag ..
 rw[hA,hB] at h1 h2 h3
 rw[hA] at h4
 rw[hB] at h5
 rw[hA,hB]
 refine PC.enter 38 [.tmp 2] [1] Proofs.Tryz.func55 rfl rfl rfl rfl rfl (by simp) (AWp.of ?_);simp only[go_sem]
 refine Wk ?_
 refine Sd ?_
 refine(h1).val.use ?_;simp only[go_sem]
 refine Wk ?_
 refine Sd ?_
 refine Gc h2 ?_
 refine Sd ?_
 refine Sd ?_
 refine Gc h3 ?_
 refine Sd ?_
 refine Sd ?_
 refine GCall.use (ab true) (fun _=>⟨At,(h4).val.use ⟨rfl,rfl⟩⟩) ?_;simp only[go_sem,Int.reduceEq]
 refine Sd ?_
 refine Sd ?_
 refine GCall.use (ab true) (fun _=>⟨At,(h5).val.use ⟨rfl,rfl⟩⟩) ?_;simp only[go_sem,Int.reduceEq]
 refine Sd ?_
 repeat(first|((with_reducible refine AWp.ofC ?_ ?_);exact rfl;simp only[go_sem,Int.reduceEq])|((with_reducible refine an ?_ ?_);exact Au))
 refine ret_eq ?_;simp only[go_sem]
end Go.AL
end
