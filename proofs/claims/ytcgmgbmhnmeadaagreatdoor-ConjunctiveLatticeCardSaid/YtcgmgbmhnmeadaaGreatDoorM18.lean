/- Texts of this claim's proof: WHu, WXl, WGs, WXf, WCs, WV39. No condition. -/
import Derived.Test.YtcgmgbmhnmeadaaGreatDoorM16
import Derived.Test.YtcgmgbmhnmeadaaGreatDoorM14
import Derived.Test.YtcgmgbmhnmeadaaGreatDoorM17
import Derived.Test.YtcgmgbmhnmeadaaGreatDoorM15
import Derived.Test.YtcgmgbmhnmeadaaGreatDoorM10
import Derived.Test.YtcgmgbmhnmeadaaGreatDoorM7
section
namespace Go.AL
open Go Go.RowKit
set_option maxRecDepth 4000
theorem law37_big11 (e:Ev):PC Proofs.Tryz.prog 22 [aEv e] (ab (asg20 e)):=by
 refine PC.enter 7 [.tmp 2] [1] Proofs.Tryz.func22 rfl rfl rfl rfl rfl (by simp) (AWp.of ?_);simp only[go_sem]
 refine Wk ?_
 refine ret_eq ?_;simp only[go_sem]
 rfl
theorem law37_big1 (x:Pr):PC Proofs.Tryz.prog 20 [aPr x] (ab (bigP x)):=by
 refine PC.enter 18 [.tmp 2] [1] Proofs.Tryz.func20 rfl rfl rfl rfl rfl (by simp) (AWp.of ?_);simp only[go_sem]
 refine Wk ?_
 refine GCall.use (ab (x.evs.any asg20)) (fun hg=>⟨by have:=hg;simp at this ⊢;omega,(events_containsFunc x.evs (by have:=hg;simp at this;omega) _ rfl asg20 fun e _=>(law37_big11 e).val).val.use ⟨rfl,rfl⟩⟩) ?_;simp only[go_sem]
 refine Wk ?_
 refine ret_eq ?_;simp only[go_sem]
 unfold bigP;rw[Bool.or_assoc]
theorem law37_big (ps:List Pr):PC Proofs.Tryz.prog 5 [aTr ps] (ab (bigF ps)):=by
 refine PC.enter 12 [.tmp 2] [1] Proofs.Tryz.func5 rfl rfl rfl rfl rfl (by simp) (AWp.of ?_);simp only[go_sem]
 refine Wk ?_
 refine GCall.use (ab (ps.any bigP)) (fun hg=>⟨by have:=hg;simp at this ⊢;omega,(procs_containsFunc ps (by have:=hg;simp at this;omega) _ rfl bigP fun e _=>(law37_big1 e).val).val.use ⟨rfl,rfl⟩⟩) ?_;simp only[go_sem]
 refine Wk ?_
 refine ret_eq ?_;simp only[go_sem]
 rfl
theorem law37_size (ps:List Pr) (hs:Sm ps):PC Proofs.Tryz.prog 7 [aTr ps] (ai (off ps ps.length)):=by
 have hl:=hs.procs
 have hof:=off_small hs
 refine PC.enter 20 [.tmp 2] [1,5] Proofs.Tryz.func7 rfl rfl rfl rfl rfl (by simp) (AWp.of ?_);simp only[go_sem]
 refine Wk ?_
 refine AWp.range' ps.length [3] [7,8] (fun k vs L=>L=[]∧vs=[ai (off ps k)]) (by omega) rfl rfl rfl ⟨rfl,by simp [off];rfl⟩ ?_ ?_
 ·rintro k vs L' hk - ⟨rfl,rfl⟩
  have h1:=hof k (by omega)
  have h2:=hs.evs _ (List.getElem_mem hk)
  simp only[go_sem]
  refine Sd ?_
  refine AWp.of ?_;simp only[go_sem,getD_map hk]
  refine Sd ?_
  intros
  refine AWp.of ?_;simp only[go_sem]
  refine Sd ?_
  exact⟨_,List.Sublist.refl _,rfl,by rw[off_succ hk];simp⟩
 ·rintro vs L' - ⟨rfl,rfl⟩
  simp only[go_sem]
  refine Wk ?_
  refine ret_eq ?_;simp only[go_sem]
def aHugeC (bn bw:Nat):AV:=.clo 23 [.lp bn 1 0 0,.lp bw 1 0 0]
def LhPdC (bn bw:Nat) (c:Int):AHeap:=[(bw,.row 66 1 [aHugeC bn bw] 1),(bn,.row 3 1 [ai c] 1)]
theorem law37_huge1 (bn bw:Nat) (hb:¬bn=bw) (t:Pd):∀d c:Int,0≤d→d≤41→0≤c→c≤300 →
  MCalls Proofs.Tryz.prog 23 [aPd t,ai d,.lp bn 1 0 0,.lp bw 1 0 0] (LhPdC bn bw c) fun r L=>r = .tup []∧L=LhPdC bn bw (hugeF t d c):=by
 induction t using Pd.ind with
 | _ k n p q s l ih =>
 intro d c d0 d1 c0 c1
 have hb':¬bw=bn:=fun e=>hb e.symm
 have hsp:hugeF (.mk k n p q s l) d c=hugeL l (d+1) (if 40<d then 1000 else c+1):=by rw[hugeF]
 unfold LhPdC aHugeC at *
 refine MCalls.enter' 31 [] [4] Proofs.Tryz.func23 rfl rfl rfl rfl rfl (by simp) (AWp.of ?_);simp only[go_sem]
 generalize hugeF (.mk k n p q s l) d c=z at *
 refine Sd ?_
 refine AWp.of ?_;simp only[go_sem,hb]
 refine Sd ?_
 refine AWp.cut [1,2,3,4] (fun vs L=>vs=[ai d,.lp bn 1 0 0,.lp bw 1 0 0,.rp 6 [aPd (.mk k n p q s l)] 0 0]∧L=[(bw,ABlk.row 66 1 [.clo 23 [.lp bn 1 0 0,.lp bw 1 0 0]] 1),(bn,ABlk.row 3 1 [ai (if 40<d then 1000 else c+1)] 1)]) ?_ ?_
 ·refine W1 hb ?_
  refine⟨fun h1 => ?_,fun h1 => ?_⟩
  ·refine Wk ?_
   exact⟨_,List.Sublist.refl _,by rw[if_pos h1]⟩
  ·exact⟨_,List.Sublist.refl _,by rw[if_neg h1]⟩
 rintro vs L - ⟨rfl,rfl⟩
 have hd40:(if 40<d then 1000 else c+1)≤300→d≤40:=by split <;> omega
 have hC:0≤(if 40<d then 1000 else c+1)∧(if 40<d then 1000 else c+1)≤1000:=by split <;> omega
 generalize (if 40<d then 1000 else c+1)=C at *
 simp only[go_sem]
 refine Wk ?_
 refine AWp.block (AWp.count 6 l.length [] [1,2,3,4] (fun i vs L=>(i:Int)≤hugeL (l.take i) (d+1) C∧C≤hugeL (l.take i) (d+1) C∧hugeL (l.take i) (d+1) C≤1000∧L=[(bw,ABlk.row 66 1 [.clo 23 [.lp bn 1 0 0,.lp bw 1 0 0]] 1),(bn,ABlk.row 3 1 [ai (hugeL (l.take i) (d+1) C)] 1)]) rfl rfl (by rw[List.take_zero,hugeL_nil];exact⟨by omega,by omega,by omega,rfl⟩) ?_)
 rintro i vs L hi - ⟨hi1,hi2,hi3,rfl⟩
 have hfull:=fun h=>hugeL_full (l:=l) (d:=d+1) (c:=C) (i:=i) h
 have htk:=fun (h:i<l.length)=>hugeL_take (l:=l) (d:=d+1) (c:=C) h
 have hend:i=l.length→hugeL (l.take i) (d+1) C=hugeL l (d+1) C:=fun h=>by rw[h,List.take_length]
 generalize hugeL (l.take i) (d+1) C=ci at *
 simp only[go_sem]
 refine W1 hb ?_
 refine⟨fun h4 h5 => ?_,fun h4 => ?_⟩
 ·have hil:i<l.length:=by omega
  have hgi:=getD_map (f:=aPd) hil
  have hch:=ih l[i] (List.getElem_mem hil) (d+1) ci (by omega) (by omega) (by omega) h5
  have htk:=htk hil
  rw[if_pos h5] at htk
  obtain⟨g1,g2,_⟩:=hugeF_spec l[i] (d+1) ci (by omega) h5
  generalize hugeF l[i] (d+1) ci=cn at *
  generalize l[i]=x at *
  obtain⟨k2,n2,p2,q2,s2,l2⟩:=x
  simp only[aPd_mk] at hgi hch
  refine AWp.seq (AWp.block ?_)
  repeat(first|(with_reducible refine AWp.seq ?_)|(with_reducible refine AWp.block ?_))
  refine AWp.mix mixed [1,2,3,4,5,6,7] (.step 0 (.step 8 .done .done) .done) (by kernel_rfl) ?_;simp only[go_sem,hgi,hb']
  refine Sd ?_
  refine(MCalls.clo hch).mono ?_
  rintro r L ⟨rfl,rfl⟩
  simp only[go_sem]
  refine Wk ?_
  exact⟨_,List.Sublist.refl _,by rw[htk];omega,by rw[htk];omega,by rw[htk];exact g2,by rw[htk]⟩
 ·refine Wk ?_
  have hz:z=ci:=by
   rw[hsp]
   by_cases e:ci≤300
   ·have:¬(i:Int)<l.length:=fun h=>h4 h e
    rw[hend (by omega)]
   ·exact hfull e
  refine ret_own ?_
  simp only[go_sem]
  rw[hz]
def manyF (ts:List Pd):Bool:=ts.any (fun t=>decide (300<hugeF t 0 0)) || decide (10<ts.length)
theorem many_size {ts:List Pd} (h:manyF ts=false):ts.length≤10∧∀t ∈ ts,szF t≤300:=by
 unfold manyF at h
 simp only[Bool.or_eq_false_iff,List.any_eq_false,decide_eq_true_eq,decide_eq_false_iff_not] at h
 exact⟨by omega,fun t ht=>not_huge (h.1 t ht)⟩
theorem law37_huge (ts:List Pd) (htl:ts.length≤9223372036854775807):PC Proofs.Tryz.prog 6 [.sl 6 (ts.map aPd)] (ab (manyF ts)):=by
 have hw:=fun (t:Pd) bn bw (hb:¬bn=bw)=>law37_huge1 bn bw hb t 0 0 (by decide) (by decide) (by decide) (by decide)
 have h1:∀i (hi:i<ts.length),300<hugeF ts[i] 0 0→manyF ts=true:=fun i hi h=>by
  unfold manyF;rw[List.any_eq_true.2 ⟨_,List.getElem_mem hi,decide_eq_true h⟩];rfl
 have h0:(∀i (hi:i<ts.length),¬300<hugeF ts[i] 0 0)→manyF ts=decide (10<(ts.length:Int)):=fun h=>by
  unfold manyF
  rw[List.any_eq_false.2 fun t ht=>by obtain⟨i,hi,rfl⟩:=List.getElem_of_mem ht;simpa using h i hi]
  rw[Bool.false_or,decide_eq_decide];omega
 generalize manyF ts=B at *
 unfold LhPdC aHugeC at hw
 refine PC.enter 23 [.tmp 2] [6] Proofs.Tryz.func6 rfl rfl rfl rfl rfl (by simp) (AWp.of ?_);simp only[go_sem]
 refine Wk ?_
 intro bn
 refine Wk ?_
 intro bw hlt
 have hb:¬bw=bn:=by omega
 have hb':¬bn=bw:=by omega
 refine W1 hb ?_
 refine Sd ?_
 refine W2 hb hb' ?_
 refine AWp.range1' ts.length [] [0,3,4,8,9] (fun k vs L=>(∃c,L=[(bw,ABlk.row 66 1 [.clo 23 [.lp bn 1 0 0,.lp bw 1 0 0]] 1),(bn,ABlk.row 3 1 [ai c] 1)])∧∀j (hj:j<ts.length),j<k→¬300<hugeF ts[j] 0 0) (by omega) rfl rfl rfl ⟨⟨0,rfl⟩,fun j hj h=>by omega⟩ ?_ ?_
 ·rintro k vs L hk - ⟨⟨c,rfl⟩,hJ⟩
  have hgt:=getD_map (f:=aPd) hk
  have hw:=hw ts[k]
  have h1:=h1 k hk
  have hJ2:¬300<hugeF ts[k] 0 0→∀j (hj:j<ts.length),j<k+1→¬300<hugeF ts[j] 0 0:=fun e j hj h=>by
   by_cases ej:j=k
   ·subst ej;exact e
   ·exact hJ j hj (by omega)
  generalize hugeF ts[k] 0 0=z at *
  generalize ts[k]=t at *
  obtain⟨k0,n,p,q,s,l⟩:=t
  simp only[aPd_mk] at *
  simp only[go_sem]
  refine W3 hgt hb hb' ?_
  intro b6 _ _
  refine W2 hb hb' ?_
  refine(MCalls.clo (hw bn bw hb')).mono ?_
  rintro r L ⟨rfl,rfl⟩
  simp only[go_sem]
  refine W2 hb hb' ?_
  refine⟨fun h4 => ?_,fun h4 => ?_⟩
  ·refine Wk ?_
   refine ret_eq ?_;simp only[go_sem]
   rw[h1 h4]
  ·exact⟨_,List.Sublist.refl _,⟨_,rfl⟩,hJ2 (by omega)⟩
 ·rintro vs L - ⟨⟨c,rfl⟩,hJ⟩
  simp only[go_sem]
  refine Wk ?_
  refine ret_eq ?_;simp only[go_sem]
  rw[h0 fun j hj=>hJ j hj hj]
def aNone0:AV:=.agg [ai 0,ab false,ai 0,anil,anil,anil,anil,ai 0]
theorem ref15_SameList0:PC Proofs.Tryz.prog 47 [.sl 1 [],anil] (ab true):=by
 refine PC.enter 26 [.tmp 4] [] Proofs.Tryz.func47 rfl rfl rfl rfl rfl (by simp) (AWp.of ?_);simp only[go_sem]
 refine Wk ?_
 refine AWp.block (AWp.count 5 0 [] [0,1] (fun i vs L=>L=[]) rfl rfl rfl ?_)
 rintro i vs L hi - rfl
 have:i=0:=by omega
 subst this
 simp only[go_sem]
 have hh:¬((0:Nat):Int)<((0:Nat):Int):=by omega
 refine W1 hh ?_
 refine ret_eq ?_;simp only[go_sem]
theorem ref15_SameRows0:PC Proofs.Tryz.prog 48 [.sl 1 [],anil] (ab true):=by
 refine PC.enter 27 [.tmp 4] [] Proofs.Tryz.func48 rfl rfl rfl rfl rfl (by simp) (AWp.of ?_);simp only[go_sem]
 refine Wk ?_
 refine AWp.block (AWp.count 5 0 [] [0,1] (fun i vs L=>L=[]) rfl rfl rfl ?_)
 rintro i vs L hi - rfl
 have:i=0:=by omega
 subst this
 simp only[go_sem]
 have hh:¬((0:Nat):Int)<((0:Nat):Int):=by omega
 refine W1 hh ?_
 refine ret_eq ?_;simp only[go_sem]
theorem ref39_SameAnswer0:PC Proofs.Tryz.prog 29 [aAns noAns,aNone0] (ab true):=by
 have h1:=ref15_SameList0
 have h2:=ref15_SameRows0
 unfold aAns aSps noAns aNone0 aRows aInts
 simp only[List.map_nil]
 refine PC.enter 78 [.tmp 4] [2,3] Proofs.Tryz.func29 rfl rfl rfl rfl rfl (by simp) (AWp.of ?_);simp only[go_sem]
 refine Wk ?_
 refine AWp.block (AWp.count 5 0 [] [2,3] (fun i vs L=>L=[]) rfl rfl rfl ?_)
 rintro i vs L hi - rfl
 have:i=0:=by omega
 subst this
 simp only[go_sem]
 have hh:¬((0:Nat):Int)<((0:Nat):Int):=by omega
 refine W1 hh ?_
 refine Sd ?_
 refine(h1).val.use ?_;simp only[go_sem]
 refine Sd ?_
 refine Gc h2 ?_
 refine Sd ?_
 refine Sd ?_
 refine Gc h2 ?_
 refine Sd ?_
 refine Wk ?_
 refine ret_eq ?_;simp only[go_sem]
theorem law37_none0:PC Proofs.Tryz.prog 10 [aAns noAns] (ab true):=by
 have h1:=ref39_SameAnswer0
 unfold aNone0 at h1
 unfold aAns aSps noAns aRows aInts at *
 simp only[List.map_nil] at *
 refine PC.enter 12 [.tmp 2] [1] Proofs.Tryz.func10 rfl rfl rfl rfl rfl (by simp) (AWp.of ?_);simp only[go_sem]
 refine Wk ?_
 refine Sd ?_
 refine(h1).val.use ?_;simp only[go_sem]
 refine Wk ?_
 refine ret_eq ?_;simp only[go_sem]
 rfl
theorem ref22_Fits (ps:List Pr) (hs:Sm ps) (c:List Int):PC Proofs.Tryz.prog 57 [aTr ps,aInts c] (ab (decide (c.length=ps.length))):=by
 have hl:=hs.procs
 refine PC.enter 11 [.tmp 4] [2] Proofs.Tryz.func57 rfl rfl rfl rfl rfl (by simp) (AWp.of ?_);simp only[go_sem]
 refine Wk ?_
 refine ret_eq ?_;simp only[go_sem]
 congr 2
 simp only[decide_eq_decide];omega
theorem ref22_Range (ps:List Pr) (hs:Sm ps) (c:List Int) (hc:c.length=ps.length):PC Proofs.Tryz.prog 58 [aTr ps,aInts c] (ab (inRangeF ps c)):=by
 have hl:=hs.procs
 refine PC.enter 31 [.tmp 4] [2] Proofs.Tryz.func58 rfl rfl rfl rfl rfl (by simp) (AWp.of ?_);simp only[go_sem]
 refine Wk ?_
 refine AWp.block (AWp.count 5 c.length [] [1,2] (fun p vs L=>L=[]∧∀q,q<p→cntOk ps c q=true) rfl rfl ⟨rfl,by omega⟩ ?_)
 rintro p vs L hp - ⟨rfl,hI⟩
 simp only[go_sem]
 refine Wk ?_
 refine⟨fun h2 => ?_,fun h2 => ?_⟩
 ·have hpc:p<c.length:=by omega
  have hpp:p<ps.length:=by omega
  have hco:=cntOk_get hpp hpc
  have hgP:=getD_map (f:=aPr) hpp
  have hgc:=getD_map (f:=ai) hpc
  refine AWp.seq (AWp.block (AWp.seq ?_))
  refine AWp.drawn mixed 19 (by kernel_rfl) ?_;simp only[go_sem,hgP,hgc]
  refine Sd ?_
  refine Wk ?_
  refine⟨fun h3 => ?_,fun h3 => ?_⟩
  ·refine Wk ?_
   refine ret_eq ?_;simp only[go_sem]
   have:inRangeF ps c=false:=by
    unfold inRangeF
    rw[List.all_eq_false]
    refine⟨p,List.mem_range.2 hpc,?_⟩
    rw[hco]
    simp only[Bool.and_eq_true,decide_eq_true_eq]
    omega
   rw[this]
  ·intro h4
   refine Wk ?_
   refine⟨_,List.Sublist.refl _,rfl,fun q hq => ?_⟩
   by_cases e:q=p
   ·subst e;rw[hco];simp only[Bool.and_eq_true,decide_eq_true_eq];omega
   ·exact hI q (by omega)
 ·refine Wk ?_
  refine ret_eq ?_;simp only[go_sem]
  have:inRangeF ps c=true:=by
   unfold inRangeF
   rw[List.all_eq_true]
   exact fun q hq=>hI q (by have:=List.mem_range.1 hq;omega)
  rw[this]
theorem ref22_closed (ps:List Pr) (hs:Sm ps) (hv:validF ps=true) (c:List Int) (hc:c.length=ps.length) (hr:inRangeF ps c=true):PC Proofs.Tryz.prog 59 [aTr ps,aInts c] (ab (closedF ps c)):=by
 obtain⟨hl1,hl8⟩:=valid_len hv
 have hl:=hs.procs
 refine PC.enter 27 [.tmp 4] [2] Proofs.Tryz.func59 rfl rfl rfl rfl rfl (by simp) (AWp.of ?_);simp only[go_sem]
 refine Wk ?_
 refine AWp.block (AWp.count 5 c.length [] [1,2] (fun p vs L=>L=[]∧Ahead ps (fun q j=>badEv ps c (((q:Int),(j:Int)+1),evq ps q j)=false) p 0) rfl rfl ⟨rfl,fun _ _ _ h=>by omega,fun j hj=>by omega⟩ ?_)
 rintro p vs L hp - ⟨rfl,hA⟩
 simp only[go_sem]
 refine Wk ?_
 refine⟨fun h1 => ?_,fun h1 => ?_⟩
 ·have hpc:p<c.length:=by omega
  have hpp:p<ps.length:=by omega
  have hgc:=getD_map (f:=ai) hpc
  have hel:=hs.evs _ (List.getElem_mem hpp)
  obtain⟨hr1,hr2⟩:=inRangeF_get hr hc hpp
  refine Wk ?_
  refine AWp.block (AWp.count 6 c[p].toNat [] [1,2,5] (fun i vs L=>L=[]∧Ahead ps (fun q j=>badEv ps c (((q:Int),(j:Int)+1),evq ps q j)=false) p i) rfl rfl ⟨rfl,hA⟩ ?_)
  rintro i vs L hi - ⟨rfl,hB⟩
  simp only[go_sem]
  refine W1 hgc ?_
  refine⟨fun h2 => ?_,fun h2 => ?_⟩
  ·have hie:i<ps[p].evs.length:=by omega
   have hsn:=ref22_Sent ps hs hv c hc p hpp i hie (by rw[cAt_nat hpc];omega)
   have hev:=evIds_get hpp hie
   have hq0:=evq_get hpp hie
   rw[← hq0] at hsn hev
   refine Wk ?_
   refine Sd ?_
   refine(hsn).val.use ?_;simp only[go_sem]
   cases hb:badEv ps c (((p:Int),(i:Int)+1),evq ps p i) with
   | true =>
    refine Wk ?_
    refine ret_eq ?_;simp only[go_sem]
    unfold closedF
    have:(evIds ps).any (badEv ps c)=true:=List.any_eq_true.2 ⟨_,List.mem_of_getElem? hev,hb⟩
    rw[this];rfl
   | false =>
    refine Wk ?_
    exact⟨_,List.Sublist.refl _,rfl,hB.next hb⟩
  ·refine Wk ?_
   refine⟨_,List.Sublist.refl _,rfl,Ahead.row hpp ⟨hB.1,fun j hj => ?_⟩⟩
   by_cases e:j<i
   ·exact hB.2 j e
   ·simp only[badEv,cAt_nat hpc,decide_eq_false (show ¬(j:Int)+1≤c[p] by omega),Bool.and_false,Bool.false_and]
 ·refine Wk ?_
  refine ret_eq ?_;simp only[go_sem]
  unfold closedF
  have:(evIds ps).any (badEv ps c)=false:=by
   rw[List.any_eq_false]
   intro x hx
   obtain⟨k,hk⟩:=List.getElem?_of_mem hx
   obtain⟨q,hq,j,hj,_,rfl⟩:=evIds_inv hk
   have:=hA.1 q hq j (by omega) hj
   dsimp only at this
   rw[evq_get hq hj] at this
   rw[this];decide
  rw[this];rfl
theorem ref22_Consistent (ps:List Pr) (hs:Sm ps) (hv:validF ps=true) (c:List Int):PC Proofs.Tryz.prog 34 [aTr ps,aInts c] (ab (isF ps c)):=by
 have h0:=ref12_Valid ps hs
 have h1:=ref22_Fits ps hs c
 have h2:=fun h=>ref22_Range ps hs c h
 have h3:=fun h1 h2=>ref22_closed ps hs hv c h1 h2
 rw[hv] at h0
 unfold isF
 generalize closedF ps c=B at *
 refine PC.enter 22 [.tmp 4] [2] Proofs.Tryz.func34 rfl rfl rfl rfl rfl (by simp) (AWp.of ?_);simp only[go_sem]
 refine Wk ?_
 refine Sd ?_
 refine(h0).val.use ?_;simp only[go_sem]
 refine Sd ?_
 refine GCall.use (ab (decide (c.length=ps.length))) (fun _=>⟨At,(h1).val.use ⟨rfl,rfl⟩⟩) ?_;simp only[go_sem]
 refine Sd ?_
 refine GCall.use (ab (inRangeF ps c)) ?_ ?_
 ·intro g;exact⟨At,(h2 (by simpa using g)).val.use ⟨rfl,rfl⟩⟩
 simp only[go_sem]
 refine Sd ?_
 refine GCall.use (ab B) ?_ ?_
 ·intro g;exact⟨At,(h3 (by simpa using g.1) (by simpa using g.2)).val.use ⟨rfl,rfl⟩⟩
 simp only[go_sem]
 refine Wk ?_
 refine ret_eq ?_;simp only[go_sem]
theorem ref37_Satisfies (ps:List Pr) (hs:Sm ps) (ts:List Pd) (hz:∀t ∈ ts,szF t≤1000000) (htl:ts.length≤1000000) (hf:conF ps ts=0) (c:List Int):PC Proofs.Tryz.prog 16 [aTr ps,.sl 6 (ts.map aPd),aInts c] (ab (satG ps (elimOf ps ts) c)):=by
 obtain⟨hv,htn,hlc⟩:=conF_inv hf
 have hps:=hs.procs
 have h1:=ref22_Consistent ps hs hv c
 have hloc:∀p (hp:p<ps.length) (hpt:p<ts.length) k,k≤ps[p].evs.length→PC Proofs.Tryz.prog 35 [aTr ps,ai p,ai (k:Nat),aPd ts[p]] (ab ((elimOf ps ts).ok p k)):=fun p hp hpt k hk=>by
  obtain⟨c1,_,_,_,c5,c6⟩:=lcl_ok (hlc p hpt)
  have h:=ref29_Local ps hs p k hp hk ts[p] (hz _ (List.getElem_mem hpt)) c1 c5 c6
  have hok:(elimOf ps ts).ok p k=lclT ps p ts[p] k:=by show (match ts[p]? with|some t=>lclT ps p t k|none=>true)=_;rw[List.getElem?_eq_getElem hpt]
  rw[hok];exact h
 generalize elimOf ps ts=E at *
 cases h:isF ps c with
 | false =>
  have hsf:satG ps E c=false:=by unfold satG;rw[h];rfl
  rw[h] at h1
  rw[hsf]
  by_cases hl:(c.length:Int)=ps.length
  ·refine PC.enter 38 [.tmp 6] [3] Proofs.Tryz.func16 rfl rfl rfl rfl rfl (by simp) (AWp.of ?_);simp only[go_sem]
   refine W1 hl ?_
   refine Sd ?_
   refine Gc h1 ?_
   refine Sd ?_
   refine Wk ?_
   refine ret_eq ?_;simp only[go_sem]
  ·refine PC.enter 38 [.tmp 6] [3] Proofs.Tryz.func16 rfl rfl rfl rfl rfl (by simp) (AWp.of ?_);simp only[go_sem]
   refine W1 hl ?_
   refine Sd ?_
   refine Gc h1 ?_
   refine Sd ?_
   refine Wk ?_
   refine ret_eq ?_;simp only[go_sem]
 | true =>
  obtain⟨hl,hr,_⟩:=isF_iff.1 h
  have hli:(c.length:Int)=ps.length:=by omega
  have hrr:=(inRange_iff hl).1 hr
  have hno:∀p,p<c.length→E.ok p (cAt c p).toNat=false→satG ps E c=false:=fun p hp he=>by
   unfold satG;rw[h,Bool.true_and]
   exact List.all_eq_false.2 ⟨p,List.mem_range.2 hp,by rw[he];decide⟩
  have hyes:(∀p,p<c.length→E.ok p (cAt c p).toNat=true)→satG ps E c=true:=fun he=>by
   unfold satG;rw[h,Bool.true_and,List.all_eq_true]
   exact fun p hp=>he p (List.mem_range.1 hp)
  rw[h] at h1
  generalize satG ps E c=S at *
  refine PC.enter 38 [.tmp 6] [3] Proofs.Tryz.func16 rfl rfl rfl rfl rfl (by simp) (AWp.of ?_);simp only[go_sem]
  refine W1 hli ?_
  refine Sd ?_
  refine Gc h1 ?_
  refine Sd ?_
  refine Wk ?_
  refine AWp.block (AWp.count 7 c.length [] [1,2,3] (fun k vs L=>L=[]∧∀p,p<k→E.ok p (cAt c p).toNat=true) rfl rfl ⟨rfl,fun p hp=>by omega⟩ ?_)
  rintro k vs L hk - ⟨rfl,hJ⟩
  simp only[go_sem]
  refine Wk ?_
  refine⟨fun h3 => ?_,fun h3 => ?_⟩
  ·have hkc:k<c.length:=by omega
   have hkt:k<ts.length:=by omega
   have hkp:k<ps.length:=by omega
   have gc:=getD_map (f:=ai) hkc
   have gt:=getD_map (f:=aPd) hkt
   have hca:cAt c k=c[k]:=cAt_nat hkc
   have hrk:=hrr k hkp
   rw[hca] at hrk
   have hnk:=hno k hkc
   rw[hca] at hnk
   have hlk:=hloc k hkp hkt c[k].toNat (by omega)
   have hck:((c[k].toNat:Nat):Int)=c[k]:=by omega
   rw[hck] at hlk
   generalize c[k]=z at *
   generalize ts[k]=t at *
   obtain⟨k0,n0,p0,q0,s0,l0⟩:=t
   simp only[aPd_mk] at *
   refine AWp.seq (AWp.block (AWp.seq ?_))
   repeat(first|(with_reducible refine AWp.seq ?_)|(with_reducible refine AWp.block ?_))
   refine AWp.mix mixed [0,1,2,3,4,5,6,7,8,9,10,11] .done (by kernel_rfl) ?_;simp only[go_sem,gc,gt]
   refine Sd ?_
   refine GCall.use (ab (E.ok k z.toNat)) ?_ ?_
   ·intro _;exact⟨At,hlk.val.use ⟨rfl,rfl⟩⟩
   simp only[go_sem]
   refine Sd ?_
   cases he:E.ok k z.toNat with
   | false =>
    refine Wk ?_
    refine ret_eq ?_;simp only[go_sem]
    rw[hnk he]
   | true =>
    refine Wk ?_
    refine⟨_,List.Sublist.refl _,rfl,fun p hp => ?_⟩
    by_cases e:p=k
    ·subst e;rw[hca];exact he
    ·exact hJ p (by omega)
  ·refine Wk ?_
   refine ret_eq ?_;simp only[go_sem]
   rw[hyes fun p hp=>hJ p (by omega)]
theorem pd_form (x:Pd):∃(k n p q:Int) (s:ByteArray) (l:List AV),aPd x = .agg [ai k,ai n,ai p,ai q,astr s,.sl 6 l]:=by
 obtain⟨k,n,p,q,s,l⟩:=x
 exact⟨_,_,_,_,_,_,aPd_mk _ _ _ _ _ _⟩
theorem law37_conjunction (t:Pd) (r:List Pd) (hl:r.length≤1000000):PC Proofs.Tryz.prog 12 [.sl 6 ((t :: r).map aPd)] (aPd (conjR t r)):=by
 have hx:=pd_form
 have hcj:∀x y:Pd,aPd (conj2 x y) = .agg [ai 16,ai 0,ai 0,ai 0,astr ByteArray.empty,.sl 6 [aPd x,aPd y]]:=fun x y=>by unfold conj2;rw[aPd_mk];rfl
 rw[List.map_cons]
 obtain⟨a0,a1,a2,a3,a4,a5,ht⟩:=hx t
 rw[ht]
 refine PC.enter 22 [.cell 2 44] [5,18] Proofs.Tryz.func12 rfl rfl rfl rfl rfl (by simp) (AWp.of ?_);simp only[go_sem]
 intro b2
 refine Wk ?_
 intro b3 g3
 have n1:¬b3=b2:=by omega
 have n2:¬b2=b3:=by omega
 refine W2 n1 n2 ?_
 refine AWp.range' r.length [] [2,3,10,11] (fun k vs L=>vs=[]∧L=[(b3,.row 44 6 [aPd (conjR t (r.take k))] 1),(b2,.row 44 6 [.agg [ai 0,ai 0,ai 0,ai 0,astr ByteArray.empty,anil]] 1)]) (by omega) rfl rfl rfl ⟨rfl,by rw[List.take_zero,show aPd (conjR t [])=_ from ht];rfl⟩ ?_ ?_
 ·rintro k vs L hk - ⟨rfl,rfl⟩
  have hg:=getD_map (f:=aPd) hk
  have hst:conjR t (r.take (k+1))=conj2 (conjR t (r.take k)) r[k]:=by
   unfold conjR
   rw[List.take_succ_eq_append_getElem hk,List.foldl_append];rfl
  rw[hst,hcj]
  generalize conjR t (r.take k)=X at *
  generalize r[k]=Y at *
  obtain⟨x0,x1,x2,x3,x4,x5,hX⟩:=hx X
  obtain⟨y0,y1,y2,y3,y4,y5,hY⟩:=hx Y
  rw[hY] at hg
  rw[hX,hY]
  simp only[go_sem]
  refine W3 hg n1 n2 ?_
  intros
  refine W3 hg n1 n2 ?_
  exact⟨_,List.Sublist.refl _,rfl⟩
 ·rintro vs L - ⟨rfl,rfl⟩
  rw[List.take_length]
  obtain⟨x0,x1,x2,x3,x4,x5,hX⟩:=hx (conjR t r)
  rw[hX]
  simp only[go_sem]
  refine W2 n1 n2 ?_
  refine ret_eq ?_;simp only[go_sem]
  rw[if_neg n2]
  exact⟨⟨⟨rfl,Nat.one_pos⟩,trivial⟩,rfl⟩
theorem meet_pc {ps:List Pr} (hs:Sm ps) {E:Elim} {a b:List Int} (hv:validF ps=true) (ha:SatD ps E a) (hb:SatD ps E b):PC Proofs.Tryz.prog 13 [aTr ps,aInts a,aInts b] (.tup [aInts (meetL a b),ai 0]):=by
 have h:=cut_Meet ps hs a b
 unfold aComb at h
 rw[if_neg (by rw[given1 ((isF_given hv).2 ha.is) ((isF_given hv).2 hb.is)];decide)] at h
 exact h
theorem join_pc {ps:List Pr} (hs:Sm ps) {E:Elim} {a b:List Int} (hv:validF ps=true) (ha:SatD ps E a) (hb:SatD ps E b):PC Proofs.Tryz.prog 14 [aTr ps,aInts a,aInts b] (.tup [aInts (joinL a b),ai 0]):=by
 have h:=cut_Join ps hs a b
 unfold aComb at h
 rw[if_neg (by rw[given1 ((isF_given hv).2 ha.is) ((isF_given hv).2 hb.is)];decide)] at h
 exact h
set_option maxHeartbeats 1000000 in
theorem law37_ConjunctiveLattice (ps:List Pr) (ts:List Pd) (htl:ts.length≤9223372036854775807):PC Proofs.Tryz.prog 3 [aTr ps,.sl 6 (ts.map aPd)] (ab true):=by
 have haw:=law37_awake
 have hbig:=law37_big ps
 have hhu:=law37_huge ts htl
 have hsm:=@bigF_sm ps
 have hsize:=fun h=>law37_size ps h
 have hmz:manyF ts=false→ts.length≤10∧∀t ∈ ts,szF t≤300:=fun h=>many_size h
 have haR:∀x:List (List Int),aRows x = .sl 1 (x.map aInts):=fun _=>rfl
 refine PC.enter 148 [.tmp 4] [2,5] Proofs.Tryz.func3 rfl rfl rfl rfl rfl (by simp) (AWp.of ?_);simp only[go_sem]
 refine Wk ?_
 refine Sd ?_
 refine(haw).val.use ?_;simp only[go_sem]
 refine Wk ?_
 refine Sd ?_
 refine(hbig).val.use ?_;simp only[go_sem]
 refine Sd ?_
 refine Gc hhu ?_
 refine Sd ?_
 refine GCall.use (ai (off ps ps.length)) ?_ ?_
 ·intro g;exact⟨At,(hsize (hsm g.1)).val.use ⟨rfl,rfl⟩⟩
 simp only[go_sem]
 refine Sd ?_
 refine Wk ?_
 refine⟨fun h1 => ?_,fun h1 => ?_⟩
 ·refine Wk ?_
  refine ret_eq ?_;simp only[go_sem]
 intro h2 h3
 have hs:=hsm h1
 obtain⟨hl10,hz3⟩:=hmz h2
 have hz:∀t ∈ ts,szF t≤1000000:=fun t ht=>by have:=hz3 t ht;omega
 have hP:=conj_Possibly ps hs ts hz (by omega)
 have hG:=conj_Greatest ps hs ts hz (by omega)
 have hnone:=law37_none0
 unfold aPossR at hP
 unfold aGreat at hG
 clear haw hbig hhu hsm hsize hmz
 by_cases hf:conF ps ts=0
 ·have hsat:=ref37_Satisfies ps hs ts hz (by omega) hf
  obtain⟨hv,hlen,hlc⟩:=conF_inv hf
  have hn1:=valid_len hv
  have hN:=elim_need ps ts
  rw[if_pos hf] at hP
  rw[if_neg (by simpa using hf)] at hG
  cases ts with
  | nil=>simp at hlen;omega
  | cons t r =>
   have hcj:=law37_conjunction t r (by simp at hl10;omega)
   have hzc:szF (conjR t r)≤1000000:=by
    have h4:=szF_conjR (m:=300) r t fun x hx=>hz3 x (List.mem_cons_of_mem _ hx)
    have h5:=hz3 t (by simp)
    have h6:r.length≤10:=by simp at hl10;omega
    have h7:r.length * (300+1)≤10 * 301:=Nat.mul_le_mul_right _ h6
    omega
   have hnc:∀x ∈ t :: r,allB nchB x=true:=fun x hx=>by
    obtain⟨p,hp,rfl⟩:=List.getElem_of_mem hx
    exact lcl_nch _ (lcl_ok (hlc p hp)).2.2.2.2.2
   have hnch:=allB_conjR (f:=nchB) (fun a b=>rfl) r t (hnc t (by simp)) fun x hx=>hnc x (List.mem_cons_of_mem _ hx)
   have hlb:¬((r.length+1:Nat):Int)=0:=by omega
   have hwb:=evaluate_Where_bad ps hs (conjR t r) hzc
   have hwg:=evaluate_Where ps hs (conjR t r) hzc hnch
   rw[wh_sat hf] at hwg
   have hcon:=fun E (c d:List Int) hc hd=>meet_pc hs (E:=E) (a:=c) (b:=d) hv hc hd
   have hcoj:=fun E (c d:List Int) hc hd=>join_pc hs (E:=E) (a:=c) (b:=d) hv hc hd
   clear hnc hnch hzc hlc hz hz3
   have z0:((0:Nat):Int)=0:=rfl
   by_cases hE:whE ps (conjR t r)=0
   ·have hw1:=hwg hE
    clear hwb hwg
    obtain⟨u0,u1,u2,u3,u4,u5,hcr⟩:=pd_form (conjR t r)
    rw[hcr] at hcj hw1
    cases hgs:(cutsF ps).filter (satG ps (elimOf ps (t :: r))) with
    | nil =>
     rw[hgs] at hw1
     obtain⟨g1,g2⟩:=latS_none hv hN hgs
     unfold ansOf at hP
     rw[g1,if_pos rfl] at hP
     rw[g2] at hG
     simp only at hG
     unfold aAns aSps at hP
     simp only at hP
     refine W1 hlb ?_
     refine Sd ?_
     refine(hP).val.use ?_;simp only[go_sem]
     intros
     refine Wk ?_
     refine Sd ?_
     refine(hG).val.use ?_;simp only[go_sem]
     refine W1 hlb ?_
     repeat(first|(with_reducible refine AWp.seq ?_)|(with_reducible refine AWp.block ?_))
     refine AWp.read mixed [0,1,2,3,4,5,6,7,8] (by kernel_rfl) ?_;simp only[go_sem]
     refine Sd ?_
     refine Gc hcj ?_
     refine Sd ?_
     refine Gc hw1 ?_
     repeat(first|((with_reducible refine AWp.ofC ?_ ?_);exact rfl;simp only[go_sem,z0])|((with_reducible refine an ?_ ?_);exact Au))
     refine ret_eq ?_;simp only[go_sem]
    | cons c0 q =>
     rw[hgs] at hw1
     obtain⟨m,M,hL⟩:=latS_of hv hN hgs
     obtain⟨q1,q2,q0,q3,q4,q5,q6,q7⟩:=hL
     have hEn:(elimOf ps (t :: r)).n=ps.length:=rfl
     unfold ansOf at hP
     rw[q5,if_neg (by decide),hEn,q6] at hP
     rw[q7] at hG
     simp only at hG
     unfold aAns aSps at hP
     simp only at hP
     have hSm:=q1 q.length (Nat.le_refl _)
     have hSM:=q2 q.length (Nat.le_refl _)
     rw[List.take_length,q3] at hSm
     rw[List.take_length,q4] at hSM
     have hs1:=hsat m
     have hs2:=hsat M
     rw[satG_iff.2 hSm] at hs1
     rw[satG_iff.2 hSM] at hs2
     have he1:=ints_equal m m (by have:=hSm.len;omega)
     have he2:=ints_equal M M (by have:=hSM.len;omega)
     rw[decide_eq_true rfl] at he1 he2
     have hql:q.length≤5000:=by
      have h5:=(lst_zero.1 (whE_zero hE).2.2.2).2
      have:(c0 :: q).length≤(cutsF ps).length:=by rw[← hgs];exact List.length_filter_le _ _
      simp only[List.length_cons] at this
      omega
     have hq0:¬((q.length+1:Nat):Int)=0:=by omega
     have hgc:((c0 :: q).map aInts).getD 0 .any=aInts c0:=rfl
     have hdc:((c0 :: q).map aInts).drop 1=q.map aInts:=rfl
     clear hgs hs hsat hN hE
     generalize elimOf ps (t :: r)=E at *
     refine W1 hlb ?_
     refine Sd ?_
     refine(hP).val.use ?_;simp only[go_sem]
     intros
     refine Wk ?_
     refine Sd ?_
     refine(hG).val.use ?_;simp only[go_sem]
     refine W1 hlb ?_
     repeat(first|(with_reducible refine AWp.seq ?_)|(with_reducible refine AWp.block ?_))
     refine AWp.read mixed [0,1,2,3,4,5,6,7,8] (by kernel_rfl) ?_;simp only[go_sem]
     refine Sd ?_
     refine Gc hcj ?_
     refine Sd ?_
     refine Gc hw1 ?_
     refine W3 hq0 hgc hdc ?_
     repeat(first|(with_reducible refine AWp.seq ?_)|(with_reducible refine AWp.block ?_))
     refine AWp.read mixed [0,1,2,3,4,5,6,7] (by kernel_rfl) ?_;simp only[go_sem]
     refine W2 hgc hdc ?_
     refine AWp.range' q.length [11,12] [1,2,5,7,8,92,93] (fun k vs L=>L=[]∧vs=[aInts ((q.take k).foldl meetL c0),aInts ((q.take k).foldl joinL c0)]) (by omega) rfl rfl rfl ⟨rfl,rfl⟩ ?_ ?_
     ·rintro k vs L hk - ⟨rfl,rfl⟩
      have hg:=getD_map (f:=aInts) hk
      have hm1:=hcon E _ q[k] (q1 k (by omega)) (q0 _ (List.getElem_mem hk))
      have hm2:=hcoj E _ q[k] (q2 k (by omega)) (q0 _ (List.getElem_mem hk))
      have st1:(q.take (k+1)).foldl meetL c0=meetL ((q.take k).foldl meetL c0) q[k]:=by rw[List.take_succ_eq_append_getElem hk,List.foldl_append];rfl
      have st2:(q.take (k+1)).foldl joinL c0=joinL ((q.take k).foldl joinL c0) q[k]:=by rw[List.take_succ_eq_append_getElem hk,List.foldl_append];rfl
      rw[st1,st2]
      generalize meetL ((q.take k).foldl meetL c0) q[k]=y1 at *
      generalize joinL ((q.take k).foldl joinL c0) q[k]=y2 at *
      generalize (q.take k).foldl meetL c0=x1 at *
      generalize (q.take k).foldl joinL c0=x2 at *
      generalize q[k]=z at *
      simp only[go_sem]
      refine W1 hg ?_
      refine Sd ?_
      refine(hm1).val.use ?_;simp only[go_sem]
      refine W1 hg ?_
      refine Sd ?_
      refine(hm2).val.use ?_;simp only[go_sem]
      refine W1 hg ?_
      exact⟨_,List.Sublist.refl _,rfl⟩
     ·rintro vs L - ⟨rfl,rfl⟩
      rw[List.take_length,q3,q4]
      simp only[go_sem]
      refine Wk ?_
      refine Sd ?_
      refine Gc he1 ?_
      refine Sd ?_
      refine Sd ?_
      refine Gc he2 ?_
      refine Sd ?_
      refine Sd ?_
      refine Gc hs1 ?_
      refine Sd ?_
      refine Sd ?_
      refine Gc hs2 ?_
      refine Sd ?_
      refine Wk ?_
      refine ret_eq ?_;simp only[go_sem]
   ·have hw1:=hwb hE
    clear hwb hwg
    obtain⟨u0,u1,u2,u3,u4,u5,hcr⟩:=pd_form (conjR t r)
    rw[hcr] at hcj hw1
    generalize ansOf (elimOf ps (t :: r))=A at *
    obtain⟨m0,m1,m2,m3,m4,m5,m6,m7⟩:=A
    unfold aAns aSps at hP
    simp only at hP
    generalize whE ps (conjR t r)=e at *
    cases hgo:greatO ps (elimOf ps (t :: r)) with
    | none =>
     rw[hgo] at hG
     simp only at hG
     refine W1 hlb ?_
     refine Sd ?_
     refine(hP).val.use ?_;simp only[go_sem]
     intros
     refine Wk ?_
     refine Sd ?_
     refine(hG).val.use ?_;simp only[go_sem]
     refine W1 hlb ?_
     repeat(first|(with_reducible refine AWp.seq ?_)|(with_reducible refine AWp.block ?_))
     refine AWp.read mixed [0,1,2,3,4,5,6,7,8] (by kernel_rfl) ?_;simp only[go_sem]
     refine Sd ?_
     refine Gc hcj ?_
     refine Sd ?_
     refine Gc hw1 ?_
     refine W1 hE ?_
     refine ret_eq ?_;simp only[go_sem]
    | some c =>
     rw[hgo] at hG
     simp only at hG
     refine W1 hlb ?_
     refine Sd ?_
     refine(hP).val.use ?_;simp only[go_sem]
     intros
     refine Wk ?_
     refine Sd ?_
     refine(hG).val.use ?_;simp only[go_sem]
     refine W1 hlb ?_
     repeat(first|(with_reducible refine AWp.seq ?_)|(with_reducible refine AWp.block ?_))
     refine AWp.read mixed [0,1,2,3,4,5,6,7,8] (by kernel_rfl) ?_;simp only[go_sem]
     refine Sd ?_
     refine Gc hcj ?_
     refine Sd ?_
     refine Gc hw1 ?_
     refine W1 hE ?_
     refine ret_eq ?_;simp only[go_sem]
 ·rw[if_neg hf] at hP
  rw[if_pos hf] at hG
  unfold aAns aSps noAns at hP hnone
  simp only at hP hnone
  generalize conF ps ts=C at *
  refine Wk ?_
  refine Sd ?_
  refine(hP).val.use ?_;simp only[go_sem]
  intros
  refine Wk ?_
  refine Sd ?_
  refine(hG).val.use ?_;simp only[go_sem]
  refine W1 hf ?_
  refine Sd ?_
  refine(hnone).val.use ?_;simp only[go_sem]
  refine Wk ?_
  refine ret_eq ?_;simp only[go_sem]
  all_goals rfl
end Go.AL
end
