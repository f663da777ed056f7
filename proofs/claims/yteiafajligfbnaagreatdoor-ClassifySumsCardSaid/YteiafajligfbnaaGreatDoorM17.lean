/- Texts of this claim's proof: WI11, WI12, WI13. No condition. -/
import Derived.Test.YteiafajligfbnaaGreatDoorM16
import Derived.Test.YteiafajligfbnaaGreatDoorM12
import Derived.Test.YteiafajligfbnaaGreatDoorM14
import Derived.Test.YteiafajligfbnaaGreatDoorM9
section
namespace Go.AL
open Go Go.RowKit
set_option maxRecDepth 4000
theorem aPd_ag2 (k n p q:Int) (s:ByteArray) (l:List Pd):∃X,aPd (.mk k n p q s l) = .agg [ai k,ai n,ai p,ai q,astr s,.sl 6 X]:=⟨_,aPd_mk ..⟩
theorem classify_set (b8:Nat) (B bit:Int) (h:Bool) (X1 X2 X3 X4:AV) (Lr:AHeap):MVal Proofs.Tryz.prog (.clo 31 [.lp b8 5 0 0]) [ai bit,ab h] ((b8,.row 53 5 [.agg [ai B,X1,X2,X3,X4]] 1) :: Lr)
  fun _ L=>L=(b8,.row 53 5 [.agg [ai (if h then orK .i64 B bit else B),X1,X2,X3,X4]] 1) :: Lr:=by
 have main:MCalls Proofs.Tryz.prog 31 [ai bit,ab h,.lp b8 5 0 0] [(b8,.row 53 5 [.agg [ai B,X1,X2,X3,X4]] 1)]
   fun _ L=>L=[(b8,.row 53 5 [.agg [ai (if h then orK .i64 B bit else B),X1,X2,X3,X4]] 1)]:=by
  cases h with
  | true =>
   simp only[if_true]
   refine MCalls.enter' 11 [] [] Proofs.Tryz.func31 rfl rfl rfl rfl rfl (by simp) (AWp.of ?_);simp only[go_sem]
   refine Wk ?_
   refine ret_own ?_
   simp only[go_sem]
  | false =>
   simp only[Bool.false_eq_true,if_false]
   refine MCalls.enter' 11 [] [] Proofs.Tryz.func31 rfl rfl rfl rfl rfl (by simp) (AWp.of ?_);simp only[go_sem]
   refine Wk ?_
   refine ret_own ?_
   simp only[go_sem]
 refine(MVal.frame (Lm:=[(b8,.row 53 5 [.agg [ai B,X1,X2,X3,X4]] 1)]) (Lr:=Lr) (MCalls.clo (args:=[_,_]) (caps:=[_]) main)).mono ?_
 rintro r L ⟨L1,rfl,rfl⟩
 rfl
theorem classify_checkedX:PC Proofs.Tryz.prog 26 [aTr exT,aPd exP] (.tup [aPd exN,ai 0]):=by
 have h1:=predtype_Check exT exT_sm exP (by decide)
 have h2:=classify_Normal exP (by decide)
 rw[exP_check] at h1
 rw[show nrmF exP false=exN from by unfold nrmF;rw[exP_prd,if_pos rfl,exN_normal],exP_prd] at h2
 obtain⟨XP,hP⟩:∃X,aPd exP = .agg [ai 15,ai 0,ai 0,ai 0,astr ByteArray.empty,.sl 6 X]:=aPd_ag2 ..
 obtain⟨XN,hN⟩:∃X,aPd exN = .agg [ai 16,ai 0,ai 0,ai 0,astr ByteArray.empty,.sl 6 X]:=aPd_ag2 ..
 have hT:aTr exT = .agg [.sl 3 (exT.map aPr)]:=rfl
 rw[hP,hT] at h1
 rw[hP,hN] at h2
 rw[hP,hN,hT]
 generalize exT.map aPr=T at *
 refine PC.enter 18 [.cell 4 27,.tmp 5] [2,3] Proofs.Tryz.func26 rfl rfl rfl rfl rfl (by simp) (AWp.of ?_);simp only[go_sem]
 intro b4
 refine Wk ?_
 refine Sd ?_
 refine(h1).val.use ?_;simp only[go_sem]
 refine Wk ?_
 refine Sd ?_
 refine(h2).val.use ?_;simp only[go_sem]
 refine Wk ?_
 refine ret_eq ?_;simp only[go_sem]
set_option maxHeartbeats 1000000 in
theorem classify_ClassX:PC Proofs.Tryz.prog 13 [aTr exT,aPd exP] (.tup [.agg [ai 58,.sl 6 [aPd cmpA,aPd cmpB],.sl 3 [],ai 0,ai 0],ai 0]):=by
 have h1:=classify_checkedX
 have h2:=classify_parts 16 (.inl rfl) exN szN exN_loc
 have h3:=classify_parts 17 (.inr rfl) exN szN exN_loc
 have h4:=classify_local exN szN
 have h5:=classify_sumN exN notcmpN
 have h6:=classify_meetsN
 have h7:=classify_joinsN
 have h8:=classify_stableN
 have h9:=classify_hasC exN szN
 have h10:=classify_hasT exN szN
 have h11:=classify_joined exT exT_sm 16 13 (.inl rfl) exN szN exN_loc (by rw[prt_N16])
 rw[show allB nchB exN=true from by decide] at h9
 rw[show allB ntmB exN=true from by decide] at h10
 rw[prt_N16] at h2
 rw[prt_N17] at h3
 rw[loc_N] at h4
 rw[show jnL exT.length 16 13 exN=[cmpA,cmpB] from jn_N] at h11
 have hAB:aPds [cmpA,cmpB] = .sl 6 [aPd cmpA,aPd cmpB]:=rfl
 have h0:aPds [] = .sl 6 []:=rfl
 simp only[hAB,h0,Bool.not_true] at h2 h3 h9 h10 h11
 obtain⟨XP,hP⟩:∃X,aPd exP = .agg [ai 15,ai 0,ai 0,ai 0,astr ByteArray.empty,.sl 6 X]:=aPd_ag2 ..
 obtain⟨XN,hN⟩:∃X,aPd exN = .agg [ai 16,ai 0,ai 0,ai 0,astr ByteArray.empty,.sl 6 X]:=aPd_ag2 ..
 have hT:aTr exT = .agg [.sl 3 (exT.map aPr)]:=rfl
 rw[hP,hN,hT] at h1
 rw[hN,hT] at h11
 rw[hN] at h2 h3 h4 h5 h6 h7 h8 h9 h10
 rw[hP,hT]
 generalize exT.map aPr=T at *
 generalize (locR exN).1=pr at *
 generalize [aPd cmpA,aPd cmpB]=LA at *
 have e1:orK .i64 0 2=2:=by decide
 have e2:orK .i64 2 8=10:=by decide
 have e3:orK .i64 10 16=26:=by decide
 have e4:orK .i64 26 32=58:=by decide
 refine PC.enter 113 [.cell 4 53,.tmp 5] [2,3,6] Proofs.Tryz.func13 rfl rfl rfl rfl rfl (by simp) (AWp.of ?_);simp only[go_sem]
 intro b4
 refine Wk ?_
 refine Sd ?_
 refine(h1).val.use ?_;simp only[go_sem]
 refine Wk ?_
 intro b6 g6
 have n1:¬b4=b6:=by omega
 have n2:¬b6=b4:=by omega
 try simp only[go_sem,n1,n2]
 refine Sd ?_
 refine W2 n1 n2 ?_
 intro b8 g8
 have n3:¬b4=b8:=by omega
 have n4:¬b8=b4:=by omega
 refine Sd ?_
 refine W2 n3 n4 ?_
 refine Sd ?_
 refine(h2).val.use ?_;simp only[go_sem]
 refine Wk ?_
 refine Sd ?_
 refine(h3).val.use ?_;simp only[go_sem]
 refine Wk ?_
 refine Sd ?_
 refine(h4).val.use ?_;simp only[go_sem]
 refine Wk ?_
 refine Sd ?_
 refine(h5).val.use ?_;simp only[go_sem]
 refine W2 n3 n4 ?_
 refine(classify_set _ _ _ _ _ _ _ _ _).mono ?_
 rintro r L rfl
 simp only[go_sem,e1,e2,e3,e4]
 refine W2 n3 n4 ?_
 refine(classify_set _ _ _ _ _ _ _ _ _).mono ?_
 rintro r L rfl
 simp only[go_sem,e1,e2,e3,e4]
 refine W2 n3 n4 ?_
 refine(classify_set _ _ _ _ _ _ _ _ _).mono ?_
 rintro r L rfl
 simp only[go_sem,e1,e2,e3,e4]
 refine W2 n3 n4 ?_
 refine Sd ?_
 refine(h6).val.use ?_;simp only[go_sem]
 refine W2 n3 n4 ?_
 refine(classify_set _ _ _ _ _ _ _ _ _).mono ?_
 rintro r L rfl
 simp only[go_sem,e1,e2,e3,e4]
 refine W2 n3 n4 ?_
 refine Sd ?_
 refine(h7).val.use ?_;simp only[go_sem]
 refine W2 n3 n4 ?_
 refine(classify_set _ _ _ _ _ _ _ _ _).mono ?_
 rintro r L rfl
 simp only[go_sem,e1,e2,e3,e4]
 refine W2 n3 n4 ?_
 refine Sd ?_
 refine(h6).val.use ?_;simp only[go_sem]
 refine Sd ?_
 refine Gc h7 ?_
 refine Sd ?_
 refine W2 n3 n4 ?_
 refine(classify_set _ _ _ _ _ _ _ _ _).mono ?_
 rintro r L rfl
 simp only[go_sem,e1,e2,e3,e4]
 refine W2 n3 n4 ?_
 refine Sd ?_
 refine(h8).val.use ?_;simp only[go_sem]
 refine W2 n3 n4 ?_
 refine(classify_set _ _ _ _ _ _ _ _ _).mono ?_
 rintro r L rfl
 simp only[go_sem,e1,e2,e3,e4]
 refine W2 n3 n4 ?_
 refine(classify_set _ _ _ _ _ _ _ _ _).mono ?_
 rintro r L rfl
 simp only[go_sem,e1,e2,e3,e4]
 refine W2 n3 n4 ?_
 refine Sd ?_
 refine(h9).val.use ?_;simp only[go_sem]
 refine W2 n3 n4 ?_
 refine(classify_set _ _ _ _ _ _ _ _ _).mono ?_
 rintro r L rfl
 simp only[go_sem,e1,e2,e3,e4]
 refine W2 n3 n4 ?_
 refine Sd ?_
 refine(h10).val.use ?_;simp only[go_sem]
 refine W2 n3 n4 ?_
 refine(classify_set _ _ _ _ _ _ _ _ _).mono ?_
 rintro r L rfl
 simp only[go_sem,e1,e2,e3,e4]
 refine W2 n3 n4 ?_
 refine Sd ?_
 refine(h11).val.use ?_;simp only[go_sem]
 refine W2 n3 n4 ?_
 refine ret_view [] ?_;simp only[go_sem,n3,n4]
 exact .mkTup (Vws.cons (.mkAgg (Vws.cons (.refl _) (Vws.cons (.refl _) (Vws.cons (.nil 3) (Vws.refl _))))) (Vws.refl _))
theorem law30_node (k:Int) (xs:List AV):PC Proofs.Tryz.prog 12 [ai k,.sl 6 xs] (.agg [ai k,ai 0,ai 0,ai 0,astr ByteArray.empty,.sl 6 xs]):=by
 refine PC.enter 8 [.cell 4 27] [] Proofs.Tryz.func12 rfl rfl rfl rfl rfl (by simp) (AWp.of ?_);simp only[go_sem]
 intro b
 refine Wk ?_
 refine ret_eq ?_;simp only[go_sem]
 rfl
abbrev rawX:AV:=.agg [ai 2,ai 0,ai 0,ai 0,astr ⟨#[120]⟩,anil]
abbrev rawY:AV:=.agg [ai 2,ai 0,ai 1,ai 0,astr ⟨#[121]⟩,anil]
abbrev raw3:AV:=.agg [ai 1,ai 3,ai 0,ai 0,astr ByteArray.empty,anil]
abbrev raw1:AV:=.agg [ai 1,ai 1,ai 0,ai 0,astr ByteArray.empty,anil]
abbrev rawN (k:Int) (xs:List AV):AV:=.agg [ai k,ai 0,ai 0,ai 0,astr ByteArray.empty,.sl 6 xs]
theorem raw_leaf (k n p:Int) (s:ByteArray) (L:AHeap):Vw L (.agg [ai k,ai n,ai p,ai 0,astr s,anil]) (aPd (.mk k n p 0 s [])):=by
 rw[aPd_mk]
 exact .mkAgg (Vws.cons (.refl _) (Vws.cons (.refl _) (Vws.cons (.refl _) (Vws.cons (.refl _) (Vws.cons (.refl _) (Vws.cons (.nil 6) .nil))))))
theorem raw_vX (L:AHeap):Vw L rawX (aPd vX):=raw_leaf ..
theorem raw_vY (L:AHeap):Vw L rawY (aPd vY):=raw_leaf ..
theorem raw_v3 (L:AHeap):Vw L raw3 (aPd nm3):=raw_leaf ..
theorem raw_v1 (L:AHeap):Vw L raw1 (aPd nm1):=raw_leaf ..
theorem ref30_SameAll (l:List Pd) (hz:∀x ∈ l,szF x≤1000000) (hl:l.length≤1000000):PC Proofs.Tryz.prog 14 [.sl 6 (l.map aPd),.sl 6 (l.map aPd)] (ab true):=by
 have hlm:(l.map aPd).length=l.length:=List.length_map _
 refine PC.enter 27 [.tmp 4] [] Proofs.Tryz.func14 rfl rfl rfl rfl rfl (by simp) (AWp.of ?_);simp only[go_sem]
 refine W1 hlm ?_
 refine AWp.block (AWp.count 5 l.length [] [0,1] (fun i vs L=>L=[]) rfl rfl rfl ?_)
 rintro i vs L hi - rfl
 simp only[go_sem]
 refine W1 hlm ?_
 refine⟨fun h4 => ?_,fun h4 => ?_⟩
 ·have hil:i<l.length:=by omega
  have hgi:=getD_map (f:=aPd) hil
  have hch:=ref28_Same l[i] (hz _ (List.getElem_mem hil))
  generalize l[i]=x at *
  obtain⟨k2,n2,p2,q2,s2,l2⟩:=x
  simp only[aPd_mk] at hgi hch
  repeat(first|(with_reducible refine AWp.seq ?_)|(with_reducible refine AWp.block ?_))
  refine AWp.mix mixed [0,1,2,3,4,5,6,7,8,9] .done (by kernel_rfl) ?_;simp only[go_sem,hgi,hlm]
  refine Sd ?_
  refine GCall.use (ab true) (fun _=>⟨At,(hch).val.use ⟨rfl,rfl⟩⟩) ?_;simp only[go_sem,hgi,hlm]
  refine Sd ?_
  refine Wk ?_
  exact⟨_,List.Sublist.refl _,rfl⟩
 ·refine Wk ?_
  refine ret_eq ?_;simp only[go_sem]
set_option maxHeartbeats 8000000 in
theorem law30_awake:PC Proofs.Tryz.prog 4 [] (ab true):=by
 have h1:=classify_ClassX
 have hSA:=ref30_SameAll [cmpA,cmpB] (by decide) (by decide)
 have hAB:[cmpA,cmpB].map aPd=[aPd cmpA,aPd cmpB]:=rfl
 rw[hAB] at hSA
 refine PC.enter 68 [.tmp 0] [1,2,3,4,5,6,7,11,14,16,24,28,30,32,42,46,48] Proofs.Tryz.func4 rfl rfl rfl rfl rfl (by simp) (AWp.of ?_);simp only[go_sem]
 refine Wk ?_
 intro b1
 have hnd:=fun (k:Int) (xs:List AV)=>law30_node k xs
 refine Sd ?_
 refine AWp.view [] [(1,.rp 1 [aTr exT] 0 0)] (LVw.refl _) ?_ ?_
 ·intro p hp
  simp only[List.mem_singleton] at hp
  subst hp
  show Vw [] _ (.rp 1 [aTr exT] 0 0)
  simp only[go_sem]
  refine Vw.mkRp ?_
  repeat(first|exact Vw.refl _|exact Vws.nil|exact Vw.nil _|refine Vws.cons ?_ ?_|refine Vw.mkAgg ?_|refine Vw.mkSl ?_)
 have hT:aTr exT = .agg [.sl 3 (exT.map aPr)]:=rfl
 rw[hT] at h1 ⊢
 generalize exT.map aPr=T at *
 refine AWp.only [0,1] ?_
 simp only[go_sem]
 refine Wk ?_
 intro b2 b3 g3
 have n1:¬b2=b3:=by omega
 have n2:¬b3=b2:=by omega
 simp only[go_sem,n1,n2]
 refine Sd ?_
 refine W2 n1 n2 ?_
 intro b4 b5 g5
 have n3:¬b4=b5:=by omega
 have n4:¬b5=b4:=by omega
 simp only[go_sem,n3,n4]
 refine Sd ?_
 refine W2 n3 n4 ?_
 refine AWp.cut [1,2,3,4,5,6] (fun vs L=>L=[]∧vs=[.rp 1 [.agg [.sl 3 T]] 0 0,.rp 6 [rawX] 0 0,.rp 6 [rawY] 0 0,.rp 6 [raw3] 0 0,.rp 6 [raw1] 0 0,
  .rp 6 [rawN 15 [rawN 17 [rawN 11 [rawX,raw3],rawN 9 [rawY,raw1]]]] 0 0]) ?_ ?_
 ·repeat(first|(with_reducible refine AWp.seq ?_)|(with_reducible refine AWp.block ?_))
  refine AWp.mix mixed [0,1,4,5] (.step 2 (.step 3 (.step 6 (.step 7 (.step 8 (.step 9 (.step 10 (.step 11 (.step 12 (.step 13 .done .done) .done) (.step 12 (.step 11 (.step 13 .done .done) .done) .done)) (.step 12 (.step 10 (.step 11 (.step 13 .done .done) .done) .done) .done)) (.step 12 (.step 9 (.step 10 (.step 11 (.step 13 .done .done) .done) .done) .done) .done)) (.step 12 (.step 8 (.step 9 (.step 10 (.step 11 (.step 13 .done .done) .done) .done) .done) .done) .done)) (.step 12 (.step 7 (.step 8 (.step 9 (.step 10 (.step 11 (.step 13 .done .done) .done) .done) .done) .done) .done) .done)) (.step 12 (.step 6 (.step 7 (.step 8 (.step 9 (.step 10 (.step 11 (.step 13 .done .done) .done) .done) .done) .done) .done) .done) .done)) (.step 6 (.step 3 (.step 7 (.step 8 (.step 9 (.step 10 (.step 11 (.step 12 (.step 13 .done .done) .done) (.step 12 (.step 11 (.step 13 .done .done) .done) .done)) (.step 12 (.step 10 (.step 11 (.step 13 .done .done) .done) .done) .done)) (.step 12 (.step 9 (.step 10 (.step 11 (.step 13 .done .done) .done) .done) .done) .done)) (.step 12 (.step 8 (.step 9 (.step 10 (.step 11 (.step 13 .done .done) .done) .done) .done) .done) .done)) (.step 12 (.step 7 (.step 8 (.step 9 (.step 10 (.step 11 (.step 13 .done .done) .done) .done) .done) .done) .done) .done)) (.step 12 (.step 3 (.step 7 (.step 8 (.step 9 (.step 10 (.step 11 (.step 13 .done .done) .done) .done) .done) .done) .done) .done) .done)) (.step 12 (.step 3 (.step 6 (.step 7 (.step 8 (.step 9 (.step 10 (.step 11 (.step 13 .done .done) .done) .done) .done) .done) .done) .done) (.step 6 (.step 3 (.step 7 (.step 8 (.step 9 (.step 10 (.step 11 (.step 13 .done .done) .done) .done) .done) .done) .done) .done) .done)) .done))) (.step 6 (.step 2 (.step 3 (.step 7 (.step 8 (.step 9 (.step 10 (.step 11 (.step 12 (.step 13 .done .done) .done) (.step 12 (.step 11 (.step 13 .done .done) .done) .done)) (.step 12 (.step 10 (.step 11 (.step 13 .done .done) .done) .done) .done)) (.step 12 (.step 9 (.step 10 (.step 11 (.step 13 .done .done) .done) .done) .done) .done)) (.step 12 (.step 8 (.step 9 (.step 10 (.step 11 (.step 13 .done .done) .done) .done) .done) .done) .done)) (.step 12 (.step 7 (.step 8 (.step 9 (.step 10 (.step 11 (.step 13 .done .done) .done) .done) .done) .done) .done) .done)) (.step 12 (.step 3 (.step 7 (.step 8 (.step 9 (.step 10 (.step 11 (.step 13 .done .done) .done) .done) .done) .done) .done) .done) .done)) (.step 12 (.step 2 (.step 3 (.step 7 (.step 8 (.step 9 (.step 10 (.step 11 (.step 13 .done .done) .done) .done) .done) .done) .done) .done) .done) .done)) (.step 12 (.step 2 (.step 3 (.step 6 (.step 7 (.step 8 (.step 9 (.step 10 (.step 11 (.step 13 .done .done) .done) .done) .done) .done) .done) .done) (.step 6 (.step 3 (.step 7 (.step 8 (.step 9 (.step 10 (.step 11 (.step 13 .done .done) .done) .done) .done) .done) .done) .done) .done)) (.step 6 (.step 2 (.step 3 (.step 7 (.step 8 (.step 9 (.step 10 (.step 11 (.step 13 .done .done) .done) .done) .done) .done) .done) .done) .done) .done)) .done))) (by kernel_rfl) ?_;simp only[go_sem]
  repeat' (first|(with_reducible refine And.intro ?_ ?_)|((with_reducible refine(hnd _ _).val.use ?_);simp only[go_sem])|(with_reducible intro _))
  all_goals exact⟨_,List.Sublist.refl _,rfl,rfl⟩
 rintro vs L - ⟨rfl,rfl⟩
 simp only[go_sem]
 refine AWp.view [] [(6,.rp 6 [aPd exP] 0 0)] (LVw.refl _) ?_ ?_
 ·intro p hp
  simp only[List.mem_singleton] at hp
  subst hp
  show Vw [] _ (.rp 6 [aPd exP] 0 0)
  simp only[go_sem]
  have hP:aPd exP = .agg [ai 15,ai 0,ai 0,ai 0,astr ByteArray.empty,.sl 6 [.agg [ai 17,ai 0,ai 0,ai 0,astr ByteArray.empty,.sl 6 [
   .agg [ai 11,ai 0,ai 0,ai 0,astr ByteArray.empty,.sl 6 [aPd vX,aPd nm3]],.agg [ai 9,ai 0,ai 0,ai 0,astr ByteArray.empty,.sl 6 [aPd vY,aPd nm1]]]]]]:=by
   unfold exP
   simp only[aPd_mk,List.map_cons,List.map_nil]
  rw[hP]
  refine Vw.mkRp ?_
  unfold rawN
  repeat(first|exact Vw.refl _|exact Vws.nil|exact raw_vX _|exact raw_vY _|exact raw_v3 _|exact raw_v1 _|refine Vws.cons ?_ ?_|refine Vw.mkAgg ?_|refine Vw.mkSl ?_)
 obtain⟨XP,hP⟩:∃X,aPd exP = .agg [ai 15,ai 0,ai 0,ai 0,astr ByteArray.empty,.sl 6 X]:=aPd_ag2 ..
 rw[hP] at h1 ⊢
 refine AWp.only [1,2,3,4,5,6] ?_
 simp only[go_sem]
 refine Wk ?_
 refine Sd ?_
 refine(h1).val.use ?_;simp only[go_sem]
 refine Wk ?_
 intro b7
 refine AWp.cut [7,8,9] (fun vs L=>L=[]∧vs=[.rp 5 [.agg [ai 58,.sl 6 [aPd cmpA,aPd cmpB],.sl 3 [],ai 0,ai 0]] 0 0,ai 0,.sl 6 [rawN 12 [raw3,rawX],rawN 10 [rawY,raw1]]]) ?_ ?_
 ·repeat(first|(with_reducible refine AWp.seq ?_)|(with_reducible refine AWp.block ?_))
  refine AWp.mix mixed [0,1,4,5] (.step 2 (.step 3 (.step 6 (.step 7 (.step 8 (.step 9 .done .done) .done) .done) .done) (.step 6 (.step 3 (.step 7 (.step 8 (.step 9 .done .done) .done) .done) .done) .done)) (.step 6 (.step 2 (.step 3 (.step 7 (.step 8 (.step 9 .done .done) .done) .done) .done) .done) .done)) (by kernel_rfl) ?_;simp only[go_sem]
  repeat' (first|(with_reducible refine And.intro ?_ ?_)|((with_reducible refine(hnd _ _).val.use ?_);simp only[go_sem])|(with_reducible intro _))
  all_goals exact⟨_,List.Sublist.refl _,rfl⟩
 rintro vs L - ⟨rfl,rfl⟩
 simp only[go_sem]
 refine AWp.view [] [(9,.sl 6 [aPd cmpA,aPd cmpB])] (LVw.refl _) ?_ ?_
 ·intro p hp
  simp only[List.mem_singleton] at hp
  subst hp
  show Vw [] _ (.sl 6 [aPd cmpA,aPd cmpB])
  simp only[go_sem]
  have hA:aPd cmpA = .agg [ai 12,ai 0,ai 0,ai 0,astr ByteArray.empty,.sl 6 [aPd nm3,aPd vX]]:=by
   unfold cmpA cmpX
   rw[aPd_mk];rfl
  have hB:aPd cmpB = .agg [ai 10,ai 0,ai 0,ai 0,astr ByteArray.empty,.sl 6 [aPd vY,aPd nm1]]:=by
   unfold cmpB
   rw[aPd_mk];rfl
  rw[hA,hB]
  unfold rawN
  repeat(first|exact Vw.refl _|exact Vws.nil|exact raw_vX _|exact raw_vY _|exact raw_v3 _|exact raw_v1 _|refine Vws.cons ?_ ?_|refine Vw.mkAgg ?_|refine Vw.mkSl ?_)
 refine AWp.only [7,8,9] ?_
 simp only[go_sem]
 refine Wk ?_
 refine Sd ?_
 refine Gc hSA ?_
 refine Sd ?_
 refine Wk ?_
 refine ret_eq ?_;simp only[go_sem]
 rfl
def IntOk (t:Pd):Prop:=allB locB t=true∧allB typB t=true∧t.kind≤8
def PredOk (t:Pd):Prop:=allB locB t=true∧allB typB t=true∧9≤t.kind
def nd (k:Int) (l:List Pd):Pd:=.mk k 0 0 0 ByteArray.empty l
theorem res_int {k:Int} (h:resF k=1):k≤8:=by unfold resF at h;split at h <;> omega
theorem PredOk.ind {P:Pd→Prop} (leaf:∀k,k=13∨k=14→P (nd k [])) (cmp:∀k x y,k=9∨k=10∨k=11∨k=12→IntOk x→IntOk y→P (nd k [x,y])) (not:∀x,PredOk x→P x→P (nd 15 [x]))
  (bin:∀k x y,k=16∨k=17→PredOk x→PredOk y→P x→P y→P (nd k [x,y])) (tmp:∀k x,k=18∨k=19∨k=20∨k=21→PredOk x→P x→P (nd k [x])) (t:Pd):PredOk t→P t:=by
 induction t using Pd.ind with
 | _ k n p q s l ih =>
 rintro⟨h1,h2,h9⟩
 have h9:9≤k:=h9
 rw[allB_mk,Bool.and_eq_true,List.all_eq_true] at h1 h2
 have hpl:=locB_len h1.1
 obtain⟨h21,rfl,rfl,rfl,rfl⟩:=loc_plain h1.1 h9
 have hty:=fun x (hx:x ∈ l)=>typ_parts h2.1 hx
 have hsub:=fun x (hx:x ∈ l)=>And.intro (h1.2 x hx) (h2.2 x hx)
 have hk:(k=13∨k=14)∨(k=9∨k=10∨k=11∨k=12)∨k=15∨(k=16∨k=17)∨(k=18∨k=19∨k=20∨k=21):=by omega
 rcases hk with hk|hk|hk|hk|hk
 ·have h0:partsF k=0:=by rcases hk with rfl|rfl <;> decide
  obtain rfl:l=[]:=List.length_eq_zero_iff.1 (by omega)
  exact leaf k hk
 ·have h0:partsF k=2:=by rcases hk with rfl|rfl|rfl|rfl <;> decide
  have hn:needF k=1:=by rcases hk with rfl|rfl|rfl|rfl <;> decide
  obtain⟨x,y,rfl⟩:=len_two (l:=l) (by omega)
  have hx:=hsub x (by simp)
  have hy:=hsub y (by simp)
  exact cmp k x y hk ⟨hx.1,hx.2,res_int ((hty x (by simp)).trans hn)⟩ ⟨hy.1,hy.2,res_int ((hty y (by simp)).trans hn)⟩
 ·have h0:partsF k=1:=by rw[hk];decide
  have hn:needF k=2:=by rw[hk];decide
  obtain⟨x,rfl⟩:=len_one (l:=l) (by omega)
  have hx:=hsub x (by simp)
  have hp:PredOk x:=⟨hx.1,hx.2,res_bool ((hty x (by simp)).trans hn)⟩
  subst hk
  exact not x hp (ih x (by simp) hp)
 ·have h0:partsF k=2:=by rcases hk with rfl|rfl <;> decide
  have hn:needF k=2:=by rcases hk with rfl|rfl <;> decide
  obtain⟨x,y,rfl⟩:=len_two (l:=l) (by omega)
  have hx:=hsub x (by simp)
  have hy:=hsub y (by simp)
  have hpx:PredOk x:=⟨hx.1,hx.2,res_bool ((hty x (by simp)).trans hn)⟩
  have hpy:PredOk y:=⟨hy.1,hy.2,res_bool ((hty y (by simp)).trans hn)⟩
  exact bin k x y hk hpx hpy (ih x (by simp) hpx) (ih y (by simp) hpy)
 ·have h0:partsF k=1:=by rcases hk with rfl|rfl|rfl|rfl <;> decide
  have hn:needF k=2:=by rcases hk with rfl|rfl|rfl|rfl <;> decide
  obtain⟨x,rfl⟩:=len_one (l:=l) (by omega)
  have hx:=hsub x (by simp)
  have hp:PredOk x:=⟨hx.1,hx.2,res_bool ((hty x (by simp)).trans hn)⟩
  exact tmp k x hk hp (ih x (by simp) hp)
theorem prd_ok {t:Pd} (h:prdF t=0):PredOk t:=by
 obtain⟨h1,h2,h3⟩:=prdF_zero h
 exact⟨formed_loc h1,h2,h3⟩
theorem norm_leaf (k:Int) (hk:k=13∨k=14) (b:Bool):normF (nd k []) b=nd (if b then oppF k else k) []:=by
 unfold nd
 rw[normF_mk]
 rcases hk with rfl|rfl <;> (cases b <;> rfl)
theorem norm_cmp (k:Int) (hk:k=9∨k=10∨k=11∨k=12) (x y:Pd) (b:Bool):normF (nd k [x,y]) b=nd (if b then oppF k else k) (if b=true∧(k=11∨k=12) then [y,x] else [x,y]):=by
 unfold nd
 rw[normF_mk]
 rcases hk with rfl|rfl|rfl|rfl <;> (cases b <;> rfl)
theorem norm_not (x:Pd) (b:Bool):normF (nd 15 [x]) b=normF x (!b):=by
 unfold nd
 rw[normF_mk,if_pos rfl,hdN_one]
theorem norm_bin (k:Int) (hk:k=16∨k=17) (x y:Pd) (b:Bool):normF (nd k [x,y]) b=nd (if b then oppF k else k) [normF x b,normF y b]:=by
 unfold nd
 rw[normF_mk]
 rcases hk with rfl|rfl <;> (cases b <;> rfl)
theorem norm_tmp (k:Int) (hk:k=18∨k=19∨k=20∨k=21) (x:Pd) (b:Bool):normF (nd k [x]) b=nd (if b then oppF k else k) [normF x b]:=by
 unfold nd
 rw[normF_mk]
 rcases hk with rfl|rfl|rfl|rfl <;> (cases b <;> rfl)
theorem int_nng (t:Pd):IntOk t→allB nngB t=true:=by
 induction t using Pd.ind with
 | _ k n p q s l ih =>
 rintro⟨h1,h2,h8⟩
 have h8:k≤8:=h8
 rw[allB_mk,Bool.and_eq_true,List.all_eq_true] at h1 h2
 rw[allB_mk,Bool.and_eq_true,List.all_eq_true]
 refine⟨decide_eq_true (by omega),fun x hx=>ih x hx ⟨h1.2 x hx,h2.2 x hx,res_int ((typ_parts h2.1 hx).trans ?_)⟩⟩
 unfold needF
 rw[if_pos (by omega)]
theorem loc_nd {k:Int} {l:List Pd} (hk:9≤k) (h:partsF k=l.length):locB (nd k l)=true:=by
 show (decide (partsF k=(l.length:Int)) && (if k=1 then decide ((0:Int)≤0∧(0:Int)≤1125899906842624) else decide ((0:Int)=0)) && (decide (2≤k∧k≤4) || decide ((0:Int)=0∧(0:Int)=0∧ByteArray.empty=ByteArray.empty)))=true
 rw[if_neg (by omega)]
 simp [h]
theorem typ_nd {k:Int} {l:List Pd} (h:∀x ∈ l,resF x.kind=needF k):typB (nd k l)=true:=by
 show (!l.any fun x=>tyNe k x.kind)=true
 rw[Bool.not_eq_true']
 refine List.any_eq_false.2 fun x hx => ?_
 unfold tyNe
 simp [h x hx]
theorem res_of_int {k:Int} (h:k≤8):resF k=1:=by unfold resF;rw[if_pos h]
theorem res_of_bool {k:Int} (h:9≤k):resF k=2:=by unfold resF;rw[if_neg (by omega)]
structure NrmOk (t u:Pd):Prop where
 ok:PredOk u
 nng:allB nngB u=true
 sz:szF u≤szF t
 dp:dpF u≤dpF t
theorem nd_szF (k:Int) (l:List Pd):szF (nd k l)=szL l+1:=by unfold nd;rw[szF]
theorem nd_dpF (k:Int) (l:List Pd):dpF (nd k l)=dpL l+1:=by unfold nd;rw[dpF]
theorem nd_allB (f:Pd→Bool) (k:Int) (l:List Pd):allB f (nd k l)=(f (nd k l) && l.all (allB f)):=by unfold nd;rw[allB_mk]
theorem nng_nd {k:Int} (l:List Pd) (h:¬k=15):nngB (nd k l)=true:=decide_eq_true h
theorem norm_ok (t:Pd) (h:PredOk t):∀b,NrmOk t (normF t b):=by
 refine PredOk.ind (P:=fun t=>∀b,NrmOk t (normF t b)) ?_ ?_ ?_ ?_ ?_ t h
 ·intro k hk b
  rw[norm_leaf k hk]
  have hj:(if b then oppF k else k)=13∨(if b then oppF k else k)=14:=by rcases hk with rfl|rfl <;> (cases b <;> decide)
  generalize (if b then oppF k else k)=j at *
  refine⟨⟨?_,?_,?_⟩,?_,by rw[nd_szF,nd_szF];exact Nat.le_refl _,by rw[nd_dpF,nd_dpF];exact Nat.le_refl _⟩
  ·rw[nd_allB,loc_nd (by omega) (by rcases hj with rfl|rfl <;> decide)];rfl
  ·rw[nd_allB,typ_nd (by simp)];rfl
  ·show 9≤j;omega
  ·rw[nd_allB,nng_nd _ (by omega)];rfl
 ·intro k x y hk hx hy b
  rw[norm_cmp k hk]
  have hj:(if b then oppF k else k)=9∨(if b then oppF k else k)=10∨(if b then oppF k else k)=11∨(if b then oppF k else k)=12:=by rcases hk with rfl|rfl|rfl|rfl <;> (cases b <;> decide)
  generalize (if b then oppF k else k)=j at *
  have hp:partsF j=2:=by rcases hj with rfl|rfl|rfl|rfl <;> decide
  have hn:needF j=1:=by rcases hj with rfl|rfl|rfl|rfl <;> decide
  have hxr:=res_of_int hx.2.2
  have hyr:=res_of_int hy.2.2
  have main:∀u v,IntOk u→IntOk v→szF u+szF v=szF x+szF y→max (dpF u) (dpF v)=max (dpF x) (dpF y)→NrmOk (nd k [x,y]) (nd j [u,v]):=fun u v hu hv hs hd=>by
   have hur:=res_of_int hu.2.2
   have hvr:=res_of_int hv.2.2
   refine⟨⟨?_,?_,?_⟩,?_,?_,?_⟩
   ·rw[nd_allB,loc_nd (by omega) hp]
    simp [hu.1,hv.1]
   ·rw[nd_allB,typ_nd (by intro z hz;simp at hz;rcases hz with rfl|rfl <;> omega)]
    simp [hu.2.1,hv.2.1]
   ·show 9≤j;omega
   ·rw[nd_allB,nng_nd _ (by omega)]
    simp [int_nng u hu,int_nng v hv]
   ·rw[nd_szF,nd_szF];simp only[szL];omega
   ·rw[nd_dpF,nd_dpF];simp only[dpL];omega
  split
  ·exact main y x hy hx (by omega) (by omega)
  ·exact main x y hx hy rfl rfl
 ·intro x hx ih b
  rw[norm_not]
  have h:=ih (!b)
  exact⟨h.ok,h.nng,Nat.le_trans h.sz (by rw[nd_szF];simp only[szL];omega),Nat.le_trans h.dp (by rw[nd_dpF];simp only[dpL];omega)⟩
 ·intro k x y hk hx hy ih1 ih2 b
  rw[norm_bin k hk]
  have hj:(if b then oppF k else k)=16∨(if b then oppF k else k)=17:=by rcases hk with rfl|rfl <;> (cases b <;> decide)
  generalize (if b then oppF k else k)=j at *
  have hp:partsF j=2:=by rcases hj with rfl|rfl <;> decide
  have hn:needF j=2:=by rcases hj with rfl|rfl <;> decide
  have h1:=ih1 b
  have h2:=ih2 b
  have r1:=res_of_bool h1.ok.2.2
  have r2:=res_of_bool h2.ok.2.2
  have z1:=h1.sz
  have z2:=h2.sz
  have d1:=h1.dp
  have d2:=h2.dp
  refine⟨⟨?_,?_,?_⟩,?_,?_,?_⟩
  ·rw[nd_allB,loc_nd (by omega) hp]
   simp [h1.ok.1,h2.ok.1]
  ·rw[nd_allB,typ_nd (by intro z hz;simp at hz;rcases hz with rfl|rfl <;> omega)]
   simp [h1.ok.2.1,h2.ok.2.1]
  ·show 9≤j;omega
  ·rw[nd_allB,nng_nd _ (by omega)]
   simp [h1.nng,h2.nng]
  ·rw[nd_szF,nd_szF];simp only[szL];omega
  ·rw[nd_dpF,nd_dpF];simp only[dpL];omega
 ·intro k x hk hx ih b
  rw[norm_tmp k hk]
  have hj:(if b then oppF k else k)=18∨(if b then oppF k else k)=19∨(if b then oppF k else k)=20∨(if b then oppF k else k)=21:=by rcases hk with rfl|rfl|rfl|rfl <;> (cases b <;> decide)
  generalize (if b then oppF k else k)=j at *
  have hp:partsF j=1:=by rcases hj with rfl|rfl|rfl|rfl <;> decide
  have hn:needF j=2:=by rcases hj with rfl|rfl|rfl|rfl <;> decide
  have h1:=ih b
  have r1:=res_of_bool h1.ok.2.2
  have z1:=h1.sz
  have d1:=h1.dp
  refine⟨⟨?_,?_,?_⟩,?_,?_,?_⟩
  ·rw[nd_allB,loc_nd (by omega) hp]
   simp [h1.ok.1]
  ·rw[nd_allB,typ_nd (by intro z hz;simp at hz;rcases hz with rfl;omega)]
   simp [h1.ok.2.1]
  ·show 9≤j;omega
  ·rw[nd_allB,nng_nd _ (by omega)]
   simp [h1.nng]
  ·rw[nd_szF,nd_szF];simp only[szL];omega
  ·rw[nd_dpF,nd_dpF];simp only[dpL];omega
theorem norm_res (ps:List Pr) (t:Pd) (h:PredOk t):allB (resB ps) t=true→∀b,allB (resB ps) (normF t b)=true:=by
 have hr:∀(j:Int) (l:List Pd),9≤j→resB ps (nd j l)=true:=fun j l hj=>by
  show (if j=2 then isPB ps.length 0 && decide ((0:Int)=0) && knownB ps 0 ByteArray.empty else if j=3 then isPB ps.length 0 && decide ((0:Int)=0) && decide (ByteArray.empty=ByteArray.empty) else if j=4 then isPB ps.length 0 && isPB ps.length 0 && !decide ((0:Int)=0) && decide (ByteArray.empty=ByteArray.empty) else true)=true
  rw[if_neg (by omega),if_neg (by omega),if_neg (by omega)]
 refine PredOk.ind (P:=fun t=>allB (resB ps) t=true→∀b,allB (resB ps) (normF t b)=true) ?_ ?_ ?_ ?_ ?_ t h
 ·intro k hk _ b
  rw[norm_leaf k hk,nd_allB,hr _ _ (by rcases hk with rfl|rfl <;> (cases b <;> decide))];rfl
 ·intro k x y hk _ _ h b
  rw[nd_allB] at h
  simp only[Bool.and_eq_true,List.all_cons,List.all_nil,Bool.and_true] at h
  rw[norm_cmp k hk,nd_allB,hr _ _ (by rcases hk with rfl|rfl|rfl|rfl <;> (cases b <;> decide))]
  split <;> simp [h.2.1,h.2.2]
 ·intro x _ ih h b
  rw[nd_allB] at h
  simp only[Bool.and_eq_true,List.all_cons,List.all_nil,Bool.and_true] at h
  rw[norm_not]
  exact ih h.2 _
 ·intro k x y hk _ _ ih1 ih2 h b
  rw[nd_allB] at h
  simp only[Bool.and_eq_true,List.all_cons,List.all_nil,Bool.and_true] at h
  rw[norm_bin k hk,nd_allB,hr _ _ (by rcases hk with rfl|rfl <;> (cases b <;> decide))]
  simp [ih1 h.2.1 b,ih2 h.2.2 b]
 ·intro k x hk _ ih h b
  rw[nd_allB] at h
  simp only[Bool.and_eq_true,List.all_cons,List.all_nil,Bool.and_true] at h
  rw[norm_tmp k hk,nd_allB,hr _ _ (by rcases hk with rfl|rfl|rfl|rfl <;> (cases b <;> decide))]
  simp [ih h.2 b]
theorem fit_nd (ps:List Pr) {k:Int} (hk:9≤k) (l:List Pd):fitB ps (nd k l)=l.all (fitB ps):=by
 unfold nd
 rw[fitB_mk,if_neg (by omega)]
theorem norm_fit (ps:List Pr) (t:Pd) (h:PredOk t):fitB ps t=true→∀b,fitB ps (normF t b)=true:=by
 refine PredOk.ind (P:=fun t=>fitB ps t=true→∀b,fitB ps (normF t b)=true) ?_ ?_ ?_ ?_ ?_ t h
 ·intro k hk _ b
  rw[norm_leaf k hk,fit_nd ps (by rcases hk with rfl|rfl <;> (cases b <;> decide))];rfl
 ·intro k x y hk _ _ h b
  rw[fit_nd ps (by omega)] at h
  simp only[Bool.and_eq_true,List.all_cons,List.all_nil,Bool.and_true] at h
  rw[norm_cmp k hk,fit_nd ps (by rcases hk with rfl|rfl|rfl|rfl <;> (cases b <;> decide))]
  split <;> simp [h.1,h.2]
 ·intro x _ ih h b
  rw[fit_nd ps (by decide)] at h
  simp only[Bool.and_eq_true,List.all_cons,List.all_nil,Bool.and_true] at h
  rw[norm_not]
  exact ih h _
 ·intro k x y hk _ _ ih1 ih2 h b
  rw[fit_nd ps (by omega)] at h
  simp only[Bool.and_eq_true,List.all_cons,List.all_nil,Bool.and_true] at h
  rw[norm_bin k hk,fit_nd ps (by rcases hk with rfl|rfl <;> (cases b <;> decide))]
  simp [ih1 h.1 b,ih2 h.2 b]
 ·intro k x hk _ ih h b
  rw[fit_nd ps (by omega)] at h
  simp only[Bool.and_eq_true,List.all_cons,List.all_nil,Bool.and_true] at h
  rw[norm_tmp k hk,fit_nd ps (by rcases hk with rfl|rfl|rfl|rfl <;> (cases b <;> decide))]
  simp [ih h b]
theorem ntm_nd {k:Int} (l:List Pd):ntmB (nd k l) = !decide (18≤k∧k≤21):=rfl
theorem norm_tru (o:Obs) (t:Pd) (h:PredOk t):allB ntmB t=true→∀b,truF o (normF t b)=(truF o t != b):=by
 have hT:∀(k:Int) (l:List Pd),truF o (nd k l)=truN k (l.map (valF o)) (l.map (truF o)):=fun k l=>by unfold nd;rw[truF_mk]
 refine PredOk.ind (P:=fun t=>allB ntmB t=true→∀b,truF o (normF t b)=(truF o t != b)) ?_ ?_ ?_ ?_ ?_ t h
 ·intro k hk _ b
  rw[norm_leaf k hk,hT,hT]
  rcases hk with rfl|rfl <;> (cases b <;> rfl)
 ·intro k x y hk _ _ h b
  rw[norm_cmp k hk,hT,hT]
  generalize hx:valF o x=u
  generalize hy:valF o y=v
  rcases hk with rfl|rfl|rfl|rfl
  ·cases b
   ·show truN 9 [valF o x,valF o y] _=(truN 9 [valF o x,valF o y] _ != false)
    rw[hx,hy];simp [truN]
   ·show truN 10 [valF o x,valF o y] _=(truN 9 [valF o x,valF o y] _ != true)
    rw[hx,hy];simp [truN]
  ·cases b
   ·show truN 10 [valF o x,valF o y] _=(truN 10 [valF o x,valF o y] _ != false)
    rw[hx,hy];simp [truN]
   ·show truN 9 [valF o x,valF o y] _=(truN 10 [valF o x,valF o y] _ != true)
    rw[hx,hy];simp [truN]
  ·cases b
   ·show truN 11 [valF o x,valF o y] _=(truN 11 [valF o x,valF o y] _ != false)
    rw[hx,hy];simp [truN]
   ·show truN 12 [valF o y,valF o x] _=(truN 11 [valF o x,valF o y] _ != true)
    rw[hx,hy]
    by_cases e:u<v
    ·simp [truN,e]
    ·simp [truN,e,show v≤u by omega]
  ·cases b
   ·show truN 12 [valF o x,valF o y] _=(truN 12 [valF o x,valF o y] _ != false)
    rw[hx,hy];simp [truN]
   ·show truN 11 [valF o y,valF o x] _=(truN 12 [valF o x,valF o y] _ != true)
    rw[hx,hy]
    by_cases e:u≤v
    ·simp [truN,e,show ¬v<u by omega]
    ·simp [truN,e,show v<u by omega]
 ·intro x _ ih h b
  rw[nd_allB] at h
  simp only[Bool.and_eq_true,List.all_cons,List.all_nil,Bool.and_true] at h
  rw[norm_not,ih h.2,hT]
  show _=(truN 15 [valF o x] [truF o x] != b)
  generalize truF o x=w
  cases w <;> cases b <;> rfl
 ·intro k x y hk _ _ ih1 ih2 h b
  rw[nd_allB] at h
  simp only[Bool.and_eq_true,List.all_cons,List.all_nil,Bool.and_true] at h
  rw[norm_bin k hk,hT,hT]
  simp only[List.map_cons,List.map_nil,ih1 h.2.1 b,ih2 h.2.2 b]
  generalize truF o x=w
  generalize truF o y=z
  rcases hk with rfl|rfl <;> (cases b <;> cases w <;> cases z <;> rfl)
 ·intro k x hk _ ih h b
  rw[nd_allB,ntm_nd,Bool.and_eq_true] at h
  have h1:=h.1
  rw[decide_eq_true (by omega)] at h1
  cases h1
theorem aPd_shape (t:Pd):∃k n p q s X,aPd t = .agg [ai k,ai n,ai p,ai q,astr s,.sl 6 X]:=by
 obtain⟨k,n,p,q,s,l⟩:=t
 exact⟨k,n,p,q,s,_,aPd_mk ..⟩
end Go.AL
end
