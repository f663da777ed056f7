/- Texts of this claim's proof: WK16. No condition. -/
import Derived.Test.YtbbcigpnpbiojaaGreatDoorM25
import Derived.Test.YtbbcigpnpbiojaaGreatDoorM12
import Derived.Test.YtbbcigpnpbiojaaGreatDoorM10
section
namespace Go.AL
open Go Go.RowKit
set_option maxRecDepth 4000
def aHuge3 (bn bw:Nat):AV:=.clo 18 [.lp bn 1 0 0,.lp bw 1 0 0]
def LhPd3 (bn bw:Nat) (c:Int):AHeap:=[(bw,.row 57 1 [aHuge3 bn bw] 1),(bn,.row 3 1 [ai c] 1)]
theorem law33_huge1 (bn bw:Nat) (hb:¬bn=bw) (t:Pd):∀d c:Int,0≤d→d≤41→0≤c→c≤300 →
  MCalls Proofs.Tryz.prog 18 [aPd t,ai d,.lp bn 1 0 0,.lp bw 1 0 0] (LhPd3 bn bw c) fun r L=>r = .tup []∧L=LhPd3 bn bw (hugeF t d c):=by
 induction t using Pd.ind with
 | _ k n p q s l ih =>
 intro d c d0 d1 c0 c1
 have hb':¬bw=bn:=fun e=>hb e.symm
 have hsp:hugeF (.mk k n p q s l) d c=hugeL l (d+1) (if 40<d then 1000 else c+1):=by rw[hugeF]
 unfold LhPd3 aHuge3 at *
 refine MCalls.enter' 31 [] [4] Proofs.Tryz.func18 rfl rfl rfl rfl rfl (by simp) (AWp.of ?_);simp only[go_sem]
 generalize hugeF (.mk k n p q s l) d c=z at *
 refine Sd ?_
 refine AWp.of ?_;simp only[go_sem,hb]
 refine Sd ?_
 refine AWp.cut [1,2,3,4] (fun vs L=>vs=[ai d,.lp bn 1 0 0,.lp bw 1 0 0,.rp 6 [aPd (.mk k n p q s l)] 0 0]∧L=[(bw,ABlk.row 57 1 [.clo 18 [.lp bn 1 0 0,.lp bw 1 0 0]] 1),(bn,ABlk.row 3 1 [ai (if 40<d then 1000 else c+1)] 1)]) ?_ ?_
 ·refine W1 hb ?_
  refine⟨fun h1 => ?_,fun h1 => ?_⟩
  ·refine Wk ?_
   exact⟨_,List.Sublist.refl _,by rw[if_pos h1]⟩
  ·exact⟨_,List.Sublist.refl _,by rw[if_neg h1]⟩
 rintro vs L - ⟨rfl,rfl⟩
 have hd40:(if 40<d then 1000 else c+1)≤300→d≤40:=by split <;> omega
 have hC:0≤(if 40<d then 1000 else c+1)∧(if 40<d then 1000 else c+1)≤1000:=by split <;> omega
 generalize (if 40<d then 1000 else c+1)=C at *
 simp only[go_sem]
 refine Wk ?_
 refine AWp.block (AWp.count 6 l.length [] [1,2,3,4] (fun i vs L=>(i:Int)≤hugeL (l.take i) (d+1) C∧C≤hugeL (l.take i) (d+1) C∧hugeL (l.take i) (d+1) C≤1000∧L=[(bw,ABlk.row 57 1 [.clo 18 [.lp bn 1 0 0,.lp bw 1 0 0]] 1),(bn,ABlk.row 3 1 [ai (hugeL (l.take i) (d+1) C)] 1)]) rfl rfl (by rw[List.take_zero,hugeL_nil];exact⟨by omega,by omega,by omega,rfl⟩) ?_)
 rintro i vs L hi - ⟨hi1,hi2,hi3,rfl⟩
 have hfull:=fun h=>hugeL_full (l:=l) (d:=d+1) (c:=C) (i:=i) h
 have htk:=fun (h:i<l.length)=>hugeL_take (l:=l) (d:=d+1) (c:=C) h
 have hend:i=l.length→hugeL (l.take i) (d+1) C=hugeL l (d+1) C:=fun h=>by rw[h,List.take_length]
 generalize hugeL (l.take i) (d+1) C=ci at *
 simp only[go_sem]
 refine W1 hb ?_
 refine⟨fun h4 h5 => ?_,fun h4 => ?_⟩
 ·have hil:i<l.length:=by omega
  have hgi:=getD_map (f:=aPd) hil
  have hch:=ih l[i] (List.getElem_mem hil) (d+1) ci (by omega) (by omega) (by omega) h5
  have htk:=htk hil
  rw[if_pos h5] at htk
  obtain⟨g1,g2,_⟩:=hugeF_spec l[i] (d+1) ci (by omega) h5
  generalize hugeF l[i] (d+1) ci=cn at *
  generalize l[i]=x at *
  obtain⟨k2,n2,p2,q2,s2,l2⟩:=x
  simp only[aPd_mk] at hgi hch
  refine AWp.seq (AWp.block ?_)
  repeat(first|(with_reducible refine AWp.seq ?_)|(with_reducible refine AWp.block ?_))
  refine AWp.mix mixed [1,2,3,4,5,6,7] (.step 0 (.step 8 .done .done) .done) (by kernel_rfl) ?_;simp only[go_sem,hgi,hb']
  refine Sd ?_
  refine(MCalls.clo hch).mono ?_
  rintro r L ⟨rfl,rfl⟩
  simp only[go_sem]
  refine Wk ?_
  exact⟨_,List.Sublist.refl _,by rw[htk];omega,by rw[htk];omega,by rw[htk];exact g2,by rw[htk]⟩
 ·refine Wk ?_
  have hz:z=ci:=by
   rw[hsp]
   by_cases e:ci≤300
   ·have:¬(i:Int)<l.length:=fun h=>h4 h e
    rw[hend (by omega)]
   ·exact hfull e
  refine ret_own ?_
  simp only[go_sem]
  rw[hz]
theorem law33_huge (t:Pd):PC Proofs.Tryz.prog 6 [aPd t] (ab (decide (300<hugeF t 0 0))):=by
 have hw:=fun bn bw hb=>law33_huge1 bn bw hb t 0 0 (by decide) (by decide) (by decide) (by decide)
 unfold LhPd3 aHuge3 at hw
 generalize hugeF t 0 0=w at *
 obtain⟨k,n,p,q,s,l⟩:=t
 simp only[aPd_mk] at *
 refine PC.enter 11 [.tmp 2] [1] Proofs.Tryz.func6 rfl rfl rfl rfl rfl (by simp) (AWp.of ?_);simp only[go_sem]
 refine Wk ?_
 intro bn
 refine Wk ?_
 intro bw hlt
 have hb:¬bw=bn:=by omega
 have hb':¬bn=bw:=by omega
 refine W1 hb ?_
 refine Sd ?_
 refine(MCalls.clo (hw bn bw hb')).mono ?_
 rintro r L ⟨rfl,rfl⟩
 simp only[go_sem]
 refine W1 hb' ?_
 refine ret_eq ?_;simp only[go_sem]
def bg3P (x:Pr):Bool:=decide (40<(x.evs.length:Int)) || (decide (20<(x.vars.length:Int)) || x.evs.any asg20)
def bg3F (ps:List Pr):Bool:=decide (40<smW ps ps.length) || (decide (10<(ps.length:Int)) || ps.any bg3P)
theorem bg3_sm {ps:List Pr} (h:bg3F ps=false):Sm ps∧ps.length≤10∧∀p ∈ ps,p.evs.length≤40:=by
 simp only[bg3F,Bool.or_eq_false_iff,decide_eq_false_iff_not,List.any_eq_false,bg3P,asg20,Bool.or_eq_true,decide_eq_true_eq,not_or,Bool.not_eq_true] at h
 obtain⟨h0,h1,h2⟩:=h
 exact⟨⟨by omega,fun p hp=>by have:=(h2 p hp).1;omega,fun p hp=>by have:=(h2 p hp).2.1;omega,fun p hp e he=>by have:=(h2 p hp).2.2 e he;omega⟩,by omega,fun p hp=>by have:=(h2 p hp).1;omega⟩
theorem law33_big11 (e:Ev):PC Proofs.Tryz.prog 17 [aEv e] (ab (asg20 e)):=by
 refine PC.enter 7 [.tmp 2] [1] Proofs.Tryz.func17 rfl rfl rfl rfl rfl (by simp) (AWp.of ?_);simp only[go_sem]
 refine Wk ?_
 refine ret_eq ?_;simp only[go_sem]
 rfl
theorem law33_big1 (x:Pr):PC Proofs.Tryz.prog 15 [aPr x] (ab (bg3P x)):=by
 refine PC.enter 18 [.tmp 2] [1] Proofs.Tryz.func15 rfl rfl rfl rfl rfl (by simp) (AWp.of ?_);simp only[go_sem]
 refine Wk ?_
 refine GCall.use (ab (x.evs.any asg20)) (fun hg=>⟨by have:=hg;simp at this ⊢;omega,(events_containsFunc x.evs (by have:=hg;simp at this;omega) _ rfl asg20 fun e _=>(law33_big11 e).val).val.use ⟨rfl,rfl⟩⟩) ?_;simp only[go_sem]
 refine Wk ?_
 refine ret_eq ?_;simp only[go_sem]
 unfold bg3P;rw[Bool.or_assoc]
theorem law33_big (ps:List Pr) (hpl:ps.length≤9223372036854775807) (hev:∀p ∈ ps,p.evs.length≤9223372036854775807):PC Proofs.Tryz.prog 5 [aTr ps] (ab (bg3F ps)):=by
 have h1:=ref13_EventsW ps hpl hev
 have hb:bg3F ps=(decide (40<smW ps ps.length) || (decide (10<(ps.length:Int)) || ps.any bg3P)):=rfl
 rw[hb]
 generalize smW ps ps.length=E at *
 have hT:aTr ps = .agg [.sl 3 (ps.map aPr)]:=rfl
 rw[hT] at h1 ⊢
 refine PC.enter 17 [.tmp 2] [1] Proofs.Tryz.func5 rfl rfl rfl rfl rfl (by simp) (AWp.of ?_);simp only[go_sem]
 refine Wk ?_
 refine Sd ?_
 refine(h1).val.use ?_;simp only[go_sem]
 refine Wk ?_
 refine GCall.use (ab (ps.any bg3P)) (fun hg=>⟨by have:=hg;simp at this ⊢;omega,(procs_containsFunc ps (by have:=hg;simp at this;omega) _ rfl bg3P fun e _=>(law33_big1 e).val).val.use ⟨rfl,rfl⟩⟩) ?_;simp only[go_sem]
 refine Wk ?_
 refine ret_eq ?_;simp only[go_sem]
 rw[Bool.or_assoc]
theorem PC.vw0 {P:Program} {f:FuncId} {args args':List AV} {r:AV} (hv:Vws [] args args') (h:PC P f args' r):PC P f args r:=⟨h.1,fun n w A vs hL hr=>h.2 n w A vs hL ⟨hr.1.trans hv.1.symm,fun i a u ha hu=>by
 have hi:i<args.length:=by
  have h1:=(List.getElem?_eq_some_iff.1 ha).1
  have h2:=hv.1
  omega
 exact Rel.view (hv.2 i _ a (List.getElem?_eq_getElem hi) ha) (fun b x h=>by cases h) (fun _ h=>h) (hr.2 i _ u (List.getElem?_eq_getElem hi) hu)⟩⟩
set_option maxHeartbeats 1000000 in
theorem law33_awake:PC Proofs.Tryz.prog 4 [] (ab true):=by
 have h1:=irr_List psI psI_sm tI (by decide)
 have h2:=irr_List psI psI_sm tY (by decide)
 have h3:=irr_Least psI psI_sm tI (by decide) (0,1)
 have e1:mdE psI tI 32=0:=by unfold mdE;rw[if_neg (fun h=>h tI_check),tI_mad 32 (.inr rfl)]
 have e2:mdE psI tY 32=0:=by unfold mdE;rw[if_neg (fun h=>h (tY_check psI_valid)),tY_mad 32 (.inr rfl)]
 rw[tI_list,e1] at h1
 rw[tY_list,e2] at h2
 rw[tI_least.1,tI_least.2] at h3
 have h4:=ref24_Same [[1,1]] [[1,1]] (by decide) (by decide)
 have h5:=ref24_Same [[0,1],[1,0]] [[0,1],[1,0]] (by decide) (by decide)
 have h6:=ints_equal [1,1] [1,1] (by decide)
 rw[decide_eq_true rfl] at h4 h5 h6
 have hT:aTr psI = .agg [.sl 3 [.agg [astr ⟨#[112]⟩,.sl 2 [],.sl 5 [.agg [ai 1,ai 0,ai 0,ai 0,.sl 2 []]]],.agg [astr ⟨#[113]⟩,.sl 2 [],.sl 5 [.agg [ai 1,ai 0,ai 0,ai 0,.sl 2 []]]]]]:=rfl
 have hI:aPd tI = .agg [ai 9,ai 0,ai 0,ai 0,astr ByteArray.empty,.sl 6 [.agg [ai 3,ai 0,ai 0,ai 0,astr ByteArray.empty,.sl 6 []],.agg [ai 3,ai 0,ai 1,ai 0,astr ByteArray.empty,.sl 6 []]]]:=by
  unfold tI nd cntI
  rw[aPd_mk,List.map_cons,List.map_cons,List.map_nil,aPd_mk,aPd_mk];rfl
 have hY:aPd tY = .agg [ai 13,ai 0,ai 0,ai 0,astr ByteArray.empty,.sl 6 []]:=by unfold tY nd;rw[aPd_mk];rfl
 rw[hT,hI] at h1 h3
 rw[hT,hY] at h2
 refine PC.enter 68 [.tmp 0] [1,2,10,13,15,19,44,45,54,55,56,65] Proofs.Tryz.func4 rfl rfl rfl rfl rfl (by simp) (AWp.of ?_);simp only[go_sem]
 refine Wk ?_
 intro b1
 refine Sd ?_
 refine AWp.view [] [(1,.rp 1 [aTr psI] 0 0)] (LVw.refl _) ?_ ?_
 ·intro p hp
  simp only[List.mem_singleton] at hp
  subst hp
  show Vw [] _ (.rp 1 [aTr psI] 0 0)
  rw[hT]
  simp only[go_sem]
  refine Vw.mkRp ?_
  repeat(first|exact Vw.refl _|exact Vws.nil|exact Vw.nil _|refine Vws.cons ?_ ?_|refine Vw.mkAgg ?_|refine Vw.mkSl ?_)
 rw[hT]
 generalize [AV.agg [astr ⟨#[112]⟩,.sl 2 [],.sl 5 [.agg [ai 1,ai 0,ai 0,ai 0,.sl 2 []]]],.agg [astr ⟨#[113]⟩,.sl 2 [],.sl 5 [.agg [ai 1,ai 0,ai 0,ai 0,.sl 2 []]]]]=T at *
 refine AWp.only [0,1] ?_
 simp only[go_sem]
 refine Wk ?_
 intro b2
 refine Sd ?_
 refine AWp.view [] [(2,.rp 6 [aPd tI] 0 0)] (LVw.refl _) ?_ ?_
 ·intro p hp
  simp only[List.mem_singleton] at hp
  subst hp
  show Vw [] _ (.rp 6 [aPd tI] 0 0)
  rw[hI]
  simp only[go_sem]
  refine Vw.mkRp ?_
  repeat(first|exact Vw.refl _|exact Vws.nil|exact Vw.nil _|refine Vws.cons ?_ ?_|refine Vw.mkAgg ?_|refine Vw.mkSl ?_)
 rw[hI]
 have h2:PC Proofs.Tryz.prog 10 [.agg [.sl 3 T],.agg [ai 13,ai 0,ai 0,ai 0,astr ByteArray.empty,anil]] (.tup [aRows [[0,1],[1,0]],ai 0]):=PC.vw0 (Vws.cons (.refl _) (Vws.cons (.mkAgg (by repeat(first|exact Vw.refl _|exact Vws.nil|exact Vw.nil _|refine Vws.cons ?_ ?_))) .nil)) h2
 generalize [AV.agg [ai 3,ai 0,ai 0,ai 0,astr ByteArray.empty,.sl 6 []],.agg [ai 3,ai 0,ai 1,ai 0,astr ByteArray.empty,.sl 6 []]]=X at *
 refine AWp.only [0,1,2] ?_
 simp only[go_sem]
 refine Wk ?_
 refine Sd ?_
 refine(h1).val.use ?_;simp only[go_sem]
 refine Wk ?_
 refine Sd ?_
 refine(h2).val.use ?_;simp only[go_sem]
 refine Wk ?_
 refine Sd ?_
 refine(h3).val.use ?_;simp only[go_sem]
 simp only[aOpt]
 refine Wk ?_
 refine Sd ?_
 refine Gc h4 ?_
 refine Sd ?_
 refine Sd ?_
 refine Gc h5 ?_
 refine Sd ?_
 refine Sd ?_
 refine Gc h6 ?_
 refine Sd ?_
 refine Wk ?_
 refine ret_eq ?_;simp only[go_sem]
end Go.AL
end
