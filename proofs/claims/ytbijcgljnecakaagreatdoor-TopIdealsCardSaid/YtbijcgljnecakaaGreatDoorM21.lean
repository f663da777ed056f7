/- Texts of this claim's proof: WJ10, WRt, WRt7. No condition. -/
import Derived.Test.YtbijcgljnecakaaGreatDoorM20
import Derived.Test.YtbijcgljnecakaaGreatDoorM4
import Derived.Test.YtbijcgljnecakaaGreatDoorM5
section
namespace Go.AL
open Go Go.RowKit
set_option maxRecDepth 4000
structure IdD (c d:List Int) (N:Nat) (PP W V:List AV) (X Y A B:List AV):Prop where
 jn:PC Proofs.Tryz.prog 27 [.agg [.sl 3 PP],aInts c,aInts d] (.tup [.sl 1 X,ai 0])
 mt:PC Proofs.Tryz.prog 28 [.agg [.sl 3 PP],aInts c,aInts d] (.tup [.sl 1 Y,ai 0])
 un:PC Proofs.Tryz.prog 29 [.agg [ai N,.sl 1 W],.agg [ai N,.sl 1 V]] (.tup [.agg [ai N,.sl 1 A],ai 0])
 it:PC Proofs.Tryz.prog 30 [.agg [ai N,.sl 1 W],.agg [ai N,.sl 1 V]] (.tup [.agg [ai N,.sl 1 B],ai 0])
 sx:PC Proofs.Tryz.prog 9 [.agg [.sl 3 PP],.sl 1 X] (.tup [.agg [ai N,.sl 1 A],ab true])
 sy:PC Proofs.Tryz.prog 9 [.agg [.sl 3 PP],.sl 1 Y] (.tup [.agg [ai N,.sl 1 B],ab true])
 ea:PC Proofs.Tryz.prog 26 [.sl 1 A,.sl 1 A] (ab true)
 eb:PC Proofs.Tryz.prog 26 [.sl 1 B,.sl 1 B] (ab true)
theorem idd_of (ps:List Pr) (hs:Sm ps) (hv:validF ps=true) (c d:List Int) (hc:isF ps c=true) (hd:isF ps d=true) :
  ∃X Y A B,IdD c d (off ps ps.length) (ps.map aPr) (wdV (off ps ps.length) (setC ps c)) (wdV (off ps ps.length) (setC ps d)) X Y A B:=by
 have hN:=valid_off hv
 obtain⟨cl,cr,cc⟩:=isF_iff.1 hc
 obtain⟨dl,dr,dc⟩:=isF_iff.1 hd
 have hj0:givenF ps [c,d] []=0:=givenL.2 ⟨⟨hv,by simp [cl,dl]⟩,by simp [cr,dr],by simp [cc,dc]⟩
 have h1:=cut_Join ps hs c d
 have h2:=cut_Meet ps hs c d
 unfold aComb at h1 h2
 rw[if_neg (by rw[hj0];decide)] at h1 h2
 change PC _ _ _ (.tup [aInts (joinL c d),ai 0]) at h1
 change PC _ _ _ (.tup [aInts (meetL c d),ai 0]) at h2
 have h3:=bits_Union _ hN (setC ps c) (setC ps d)
 have h4:=bits_Inter _ hN (setC ps c) (setC ps d)
 rw[aNs_wd,aNs_wd,aNs_wd] at h3 h4
 have ju:wdV (off ps ps.length) (fun i=>setC ps c i || setC ps d i)=wdV (off ps ps.length) (setC ps (joinL c d)):=wdV_congr fun j hj=>(set_join cl dl hj).symm
 have mu:wdV (off ps ps.length) (fun i=>setC ps c i && setC ps d i)=wdV (off ps ps.length) (setC ps (meetL c d)):=wdV_congr fun j hj=>(set_meet cl dl hj).symm
 rw[ju] at h3
 rw[mu] at h4
 obtain⟨jl,jr,_⟩:=isF_iff.1 ((isF_given hv).1 (join_given ((isF_given hv).2 hc) ((isF_given hv).2 hd)))
 obtain⟨ml,mr,_⟩:=isF_iff.1 (meet_is hv hc hd)
 exact⟨_,_,_,_,h1,h2,h3,h4,top_Set ps hs hv _ jl jr,top_Set ps hs hv _ ml mr,wds_self _ hN _,wds_self _ hN _⟩
structure IdA (c d:List Int) (N:Nat) (PP R W V:List AV) (bc bd:Bool):Prop where
 or:PC Proofs.Tryz.prog 8 [.agg [.sl 3 PP]] (.tup [.agg [.sl 2 R],ai 0])
 sc:PC Proofs.Tryz.prog 9 [.agg [.sl 3 PP],aInts c] (.tup [.agg [ai N,.sl 1 W],ab true])
 sd:PC Proofs.Tryz.prog 9 [.agg [.sl 3 PP],aInts d] (.tup [.agg [ai N,.sl 1 V],ab true])
 pv:PC Proofs.Tryz.prog 10 [.agg [.sl 2 R]] (ab true)
 cc:PC Proofs.Tryz.prog 11 [.agg [.sl 3 PP],aInts c] (ab bc)
 cd:PC Proofs.Tryz.prog 11 [.agg [.sl 3 PP],aInts d] (ab bd)
 ic:PC Proofs.Tryz.prog 12 [.agg [.sl 2 R],.agg [ai N,.sl 1 W]] (ab bc)
 id:PC Proofs.Tryz.prog 12 [.agg [.sl 2 R],.agg [ai N,.sl 1 V]] (ab bd)
theorem ida_of (ps:List Pr) (hs:Sm ps) (hv:validF ps=true) (c d:List Int) (cl:c.length=ps.length) (cr:inRangeF ps c=true) (dl:d.length=ps.length) (dr:inRangeF ps d=true) :
  IdA c d (off ps ps.length) (ps.map aPr) ((List.range (off ps ps.length)).map fun i=>aNs (off ps ps.length) (ordZ ps i)) (wdV (off ps ps.length) (setC ps c)) (wdV (off ps ps.length) (setC ps d)) (isF ps c) (isF ps d):=by
 have hN:=valid_off hv
 have hi:∀i,i<off ps ps.length→ordZ ps i i=false:=fun i _=>ord_irr i
 have ht:∀i j k,i<off ps ps.length→j<off ps ps.length→k<off ps ps.length→ordZ ps i j=true→ordZ ps j k=true→ordZ ps i k=true:=fun i j k hi hj hk h1 h2=>ord_trans hv (synOk_nil ps) (nil_whl hv) hi hj hk h1 h2
 have h1:=causality_Order ps hs hv
 rw[relX_N] at h1
 have hcc:=fun c:List Int=>cut_Consistent ps hs c
 have hce:∀c:List Int,decide (givenF ps [c] []=0)=isF ps c:=fun c=>by rw[Bool.eq_iff_iff,decide_eq_true_iff,isF_given hv]
 have h7:=ideal_Is _ hN (ordZ ps) hi ht (setC ps c)
 have h8:=ideal_Is _ hN (ordZ ps) hi ht (setC ps d)
 rw[idl_is hv cl cr] at h7
 rw[idl_is hv dl dr] at h8
 exact⟨h1,top_Set ps hs hv c cl cr,top_Set ps hs hv d dl dr,poset_Valid _ hN _ hi ht,by have:=hcc c;rwa [hce] at this,by have:=hcc d;rwa [hce] at this,h7,h8⟩
set_option maxHeartbeats 4000000 in
theorem top_Ideals (ps:List Pr) (c d:List Int) (hpl:ps.length≤9223372036854775807) (hev:∀p ∈ ps,p.evs.length≤9223372036854775807):PC Proofs.Tryz.prog 3 [aTr ps,aInts c,aInts d] (ab true):=by
 have hA:=top_awake
 have hG:=top_Great ps 60 hpl hev
 have hTr:aTr ps = .agg [.sl 3 (ps.map aPr)]:=rfl
 cases hg:grF ps 60 with
 | true =>
  rw[hg,hTr] at hG
  rw[hTr]
  generalize ps.map aPr=PP at *
  refine PC.enter 332 [.tmp 6] [3,7,9,11,14,26,35,37,41,42,43,44,195] Proofs.Tryz.func3 rfl rfl rfl rfl rfl (by simp) (AWp.of ?_);simp only[go_sem]
  refine Wk ?_
  refine Sd ?_
  refine(hA).val.use ?_;simp only[go_sem]
  refine Wk ?_
  refine Sd ?_
  refine(hG).val.use ?_;simp only[go_sem]
  refine GCall.use (ab false) (fun h=>absurd h (by simp)) ?_
  simp only[go_sem]
  refine GCall.use (ab false) (fun h=>absurd h (by simp)) ?_
  simp only[go_sem]
  refine GCall.use (ab false) (fun h=>absurd h (by simp)) ?_
  simp only[go_sem]
  refine Wk ?_
  refine ret_eq ?_;simp only[go_sem]
 | false =>
 rw[hg] at hG
 have hvd:=gr_vd hg
 have hV:=hvd.rval
 cases hv:validF ps with
 | false =>
  rw[hv,hTr] at hV
  rw[hTr] at hG ⊢
  generalize ps.map aPr=PP at *
  refine PC.enter 332 [.tmp 6] [3,7,9,11,14,26,35,37,41,42,43,44,195] Proofs.Tryz.func3 rfl rfl rfl rfl rfl (by simp) (AWp.of ?_);simp only[go_sem]
  refine Wk ?_
  refine Sd ?_
  refine(hA).val.use ?_;simp only[go_sem]
  refine Wk ?_
  refine Sd ?_
  refine(hG).val.use ?_;simp only[go_sem]
  refine Sd ?_
  refine Gc hV ?_
  refine Sd ?_
  refine GCall.use (ab false) (fun h=>absurd h (by simp)) ?_
  simp only[go_sem]
  refine GCall.use (ab false) (fun h=>absurd h (by simp)) ?_
  simp only[go_sem]
  refine Wk ?_
  refine ret_eq ?_;simp only[go_sem]
 | true =>
 have hs:=hvd.sm hv
 have hC:=ref12_Cut ps hs c
 have hD:=ref12_Cut ps hs d
 rw[hv] at hV
 cases hcr:(decide (c.length=ps.length) && inRangeF ps c) with
 | false =>
  rw[hcr,hTr] at hC
  rw[hTr] at hG hV ⊢
  generalize ps.map aPr=PP at *
  refine PC.enter 332 [.tmp 6] [3,7,9,11,14,26,35,37,41,42,43,44,195] Proofs.Tryz.func3 rfl rfl rfl rfl rfl (by simp) (AWp.of ?_);simp only[go_sem]
  refine Wk ?_
  refine Sd ?_
  refine(hA).val.use ?_;simp only[go_sem]
  refine Wk ?_
  refine Sd ?_
  refine(hG).val.use ?_;simp only[go_sem]
  refine Sd ?_
  refine Gc hV ?_
  refine Sd ?_
  refine Sd ?_
  refine Gc hC ?_
  refine Sd ?_
  refine GCall.use (ab false) (fun h=>absurd h (by simp)) ?_
  simp only[go_sem]
  refine Wk ?_
  refine ret_eq ?_;simp only[go_sem]
 | true =>
 rw[hcr] at hC
 cases hdr:(decide (d.length=ps.length) && inRangeF ps d) with
 | false =>
  rw[hdr,hTr] at hD
  rw[hTr] at hG hV hC ⊢
  generalize ps.map aPr=PP at *
  refine PC.enter 332 [.tmp 6] [3,7,9,11,14,26,35,37,41,42,43,44,195] Proofs.Tryz.func3 rfl rfl rfl rfl rfl (by simp) (AWp.of ?_);simp only[go_sem]
  refine Wk ?_
  refine Sd ?_
  refine(hA).val.use ?_;simp only[go_sem]
  refine Wk ?_
  refine Sd ?_
  refine(hG).val.use ?_;simp only[go_sem]
  refine Sd ?_
  refine Gc hV ?_
  refine Sd ?_
  refine Sd ?_
  refine Gc hC ?_
  refine Sd ?_
  refine Sd ?_
  refine Gc hD ?_
  refine Sd ?_
  refine Wk ?_
  refine ret_eq ?_;simp only[go_sem]
 | true =>
 rw[hdr] at hD
 rw[Bool.and_eq_true,decide_eq_true_eq] at hcr hdr
 have hI:=ida_of ps hs hv c d hcr.1 hcr.2 hdr.1 hdr.2
 have hK:=fun h=>idc_of ps hs hv c h
 have hL:=fun h g=>idd_of ps hs hv c d h g
 rw[hTr] at hG hV hC hD ⊢
 generalize isF ps c=bc at *
 generalize isF ps d=bd at *
 generalize wdV (off ps ps.length) (setC ps c)=W at *
 generalize wdV (off ps ps.length) (setC ps d)=V at *
 generalize (List.range (off ps ps.length)).map (fun i=>aNs (off ps ps.length) (ordZ ps i))=R at *
 generalize off ps ps.length=N at *
 generalize ps.map aPr=PP at *
 clear hs hvd
 have hcI:∃CC,aInts c = .sl 1 CC:=⟨_,rfl⟩
 have hdI:∃DD,aInts d = .sl 1 DD:=⟨_,rfl⟩
 cases bc with
 | false =>
  refine PC.enter 332 [.tmp 6] [3,7,9,11,14,26,35,37,41,42,43,44,195] Proofs.Tryz.func3 rfl rfl rfl rfl rfl (by simp) (AWp.of ?_);simp only[go_sem]
  refine Wk ?_
  refine Sd ?_
  refine(hA).val.use ?_;simp only[go_sem]
  refine Wk ?_
  refine Sd ?_
  refine(hG).val.use ?_;simp only[go_sem]
  refine Sd ?_
  refine Gc hV ?_
  refine Sd ?_
  refine Sd ?_
  refine Gc hC ?_
  refine Sd ?_
  refine Sd ?_
  refine Gc hD ?_
  refine Sd ?_
  refine Wk ?_
  refine Sd ?_
  refine(hI.or).val.use ?_;simp only[go_sem]
  intros
  refine Wk ?_
  refine Sd ?_
  refine(hI.sc).val.use ?_;simp only[go_sem]
  intros
  refine Wk ?_
  refine Sd ?_
  refine(hI.sd).val.use ?_;simp only[go_sem]
  intros
  refine Wk ?_
  refine Sd ?_
  refine GCall.use (ab true) (fun _=>⟨At,(hI.pv).val.use ⟨rfl,rfl⟩⟩) ?_;simp only[go_sem]
  refine Sd ?_
  refine Wk ?_
  refine Sd ?_
  refine(hI.cc).val.use ?_;simp only[go_sem]
  refine Wk ?_
  repeat(first|(with_reducible refine AWp.seq ?_)|(with_reducible refine AWp.block ?_))
  refine AWp.mix mixed [0,1,2,3,4,5,6,7,8,9,10,11,12,13] .done (by kernel_rfl) ?_;simp only[go_sem]
  refine Sd ?_
  refine GCall.use (ab false) (fun _=>⟨At,(hI.ic).val.use ⟨rfl,rfl⟩⟩) ?_;simp only[go_sem]
  refine Sd ?_
  refine GCall.use (ab bd) (fun _=>⟨At,(hI.cd).val.use ⟨rfl,rfl⟩⟩) ?_;simp only[go_sem]
  refine Sd ?_
  refine Sd ?_
  refine GCall.use (ab bd) (fun _=>⟨At,(hI.id).val.use ⟨rfl,rfl⟩⟩) ?_;simp only[go_sem]
  refine Sd ?_
  cases bd
  all_goals
   refine Wk ?_
   refine ret_eq ?_;simp only[go_sem]
 | true =>
 obtain⟨WF,NX,EN,NUM,M,m,FE,ir,hK⟩:=hK rfl
 have hfl:=hK.fl
 have hfel:=hK.fel
 have hml:=hK.ml
 have hnxl:=hK.nxl
 have henl:=hK.enl
 refine PC.enter 332 [.tmp 6] [3,7,9,11,14,26,35,37,41,42,43,44,195] Proofs.Tryz.func3 rfl rfl rfl rfl rfl (by simp) (AWp.of ?_);simp only[go_sem]
 refine Wk ?_
 refine Sd ?_
 refine(hA).val.use ?_;simp only[go_sem]
 refine Wk ?_
 refine Sd ?_
 refine(hG).val.use ?_;simp only[go_sem]
 refine Sd ?_
 refine Gc hV ?_
 refine Sd ?_
 refine Sd ?_
 refine Gc hC ?_
 refine Sd ?_
 refine Sd ?_
 refine Gc hD ?_
 refine Sd ?_
 refine Wk ?_
 refine Sd ?_
 refine(hI.or).val.use ?_;simp only[go_sem]
 intros
 refine Wk ?_
 refine Sd ?_
 refine(hI.sc).val.use ?_;simp only[go_sem]
 intros
 refine Wk ?_
 refine Sd ?_
 refine(hI.sd).val.use ?_;simp only[go_sem]
 intros
 refine Wk ?_
 refine Sd ?_
 refine GCall.use (ab true) (fun _=>⟨At,(hI.pv).val.use ⟨rfl,rfl⟩⟩) ?_;simp only[go_sem]
 refine Sd ?_
 refine Wk ?_
 refine Sd ?_
 refine(hI.cc).val.use ?_;simp only[go_sem]
 refine Wk ?_
 repeat(first|(with_reducible refine AWp.seq ?_)|(with_reducible refine AWp.block ?_))
 refine AWp.mix mixed [0,1,2,3,4,5,6,7,8,9,10,11,12,13] .done (by kernel_rfl) ?_;simp only[go_sem]
 refine Sd ?_
 refine GCall.use (ab true) (fun _=>⟨At,(hI.ic).val.use ⟨rfl,rfl⟩⟩) ?_;simp only[go_sem]
 refine Sd ?_
 refine GCall.use (ab bd) (fun _=>⟨At,(hI.cd).val.use ⟨rfl,rfl⟩⟩) ?_;simp only[go_sem]
 refine Sd ?_
 refine Sd ?_
 refine GCall.use (ab bd) (fun _=>⟨At,(hI.id).val.use ⟨rfl,rfl⟩⟩) ?_;simp only[go_sem]
 refine Sd ?_
 have hbd:(!decide (bd=bd))=false:=by simp
 refine W1 hbd ?_
 refine Sd ?_
 refine(hK.fr).val.use ?_;simp only[go_sem]
 intros
 refine Wk ?_
 refine Sd ?_
 refine(hK.nx).val.use ?_;simp only[go_sem]
 refine Wk ?_
 refine Sd ?_
 refine(hK.en).val.use ?_;simp only[go_sem]
 refine Wk ?_
 refine Sd ?_
 refine(hK.ir1).val.use ?_;simp only[go_sem]
 refine Wk ?_
 refine Sd ?_
 refine(hK.ft).val.use ?_;simp only[go_sem]
 refine Wk ?_
 have hir:(!decide (ir=ir))=false:=by simp
 refine Sd ?_
 refine GCall.use (ab ir) (fun _=>⟨At,(hK.ir2).val.use ⟨rfl,rfl⟩⟩) ?_;simp only[go_sem,hir,hnxl,henl]
 refine Sd ?_
 refine W3 hir hnxl henl ?_
 intro b24
 refine Wk ?_
 refine AWp.range' FE.length [] [1,2,3,9,11,14,16,18,24,179,180] (fun k vs L=>vs=[]∧∃v Ln,L=Ln ++ [(b24,.row 25 1 [v] 1)]∧AppSt 3 1 (NUM.take k) v Ln) (by omega) rfl rfl rfl ⟨rfl,anil,[],rfl,by rw[List.take_zero];exact .nil⟩ ?_ ?_
 ·rintro k vs L hk - ⟨rfl,v,Ln,rfl,hAp⟩
  obtain⟨p,i,z,hfe,htk,hnum⟩:=hK.num k hk
  have hyl:(NUM.take k).length≤k:=by rw[List.length_take];omega
  rw[htk]
  clear htk
  generalize NUM.take k=ys at *
  refine AWp.nodup fun hnd => ?_
  rcases hAp.inv with ⟨e1,rfl,rfl⟩|⟨bq,cq,rfl,rfl⟩
  ·simp only[go_sem,List.nil_append]
   refine W1 hfe ?_
   intros
   refine W1 hfe ?_
   refine Sd ?_
   refine(hnum).val.use ?_;simp only[go_sem]
   refine Wk ?_
   intro b' cap'
   intros
   have k1:¬b24=b':=by omega
   simp only[go_sem,k1]
   refine Sd ?_
   exact⟨_,List.Sublist.refl _,_,[(b',_)],rfl,by rw[e1];exact .row _ [_] _⟩
  ·have n1:¬bq=b24:=by simpa using hnd
   have n2:¬b24=bq:=fun e=>n1 e.symm
   simp only[go_sem,List.cons_append,List.nil_append,n1,n2]
   refine W3 hfe n1 n2 ?_
   intros
   refine W3 hfe n1 n2 ?_
   refine Sd ?_
   refine(hnum).val.use ?_;simp only[go_sem,n1,n2]
   refine W2 n1 n2 ?_
   refine Sd ?_
   intro b' cap'
   intros
   have k1:¬b24=b':=by omega
   simp only[go_sem,k1,n1,n2]
   refine Sd ?_
   exact⟨_,List.Sublist.refl _,_,[(b',_)],rfl,AppSt.snoc _ _ _ rfl⟩
 ·rintro vs L - ⟨rfl,v,Ln,rfl,hAp⟩
  rw[hfl,List.take_length] at hAp
  have hvw:Vw (Ln ++ [(b24,.row 25 1 [v] 1)]) v (.sl 1 NUM):=hAp.vw [(b24,.row 25 1 [v] 1)]
  refine AWp.nodup fun hnd => ?_
  refine AWp.viewP (Lf:=Ln ++ [(b24,.row 25 1 [v] 1)]) (Lk:=[]) (L':=[]) (by rw[List.append_nil]) (LVw.refl _) [(24,.rp 1 [.sl 1 NUM] 0 0)] (fun q hq => ?_) ?_
  ·obtain rfl:=List.mem_singleton.1 hq
   simp only[go_sem]
   exact .lp (lk_of_mem hnd (List.mem_append_right _ (List.mem_singleton_self _))) rfl (Vws.cons hvw .nil).2
  simp only[go_sem]
  refine Wk ?_
  refine Sd ?_
  refine(hK.mem).val.use ?_;simp only[go_sem]
  refine Wk ?_
  refine Sd ?_
  refine GCall.use (ab false) (fun _=>⟨At,(hK.cf).val.use ⟨rfl,rfl⟩⟩) ?_;simp only[go_sem]
  refine Sd ?_
  refine W1 henl ?_
  refine AWp.range' m [] [1,2,3,9,11,16,210,211] (fun k vs L=>vs=[]∧L=[]) (by omega) rfl rfl rfl ⟨rfl,rfl⟩ ?_ ?_
  ·rintro k vs L hk - ⟨rfl,rfl⟩
   obtain⟨q,z,X,Y,h1,h2,h3,h4,h5,h6⟩:=hK.st k hk
   simp only[go_sem]
   refine W2 h1 henl ?_
   refine Sd ?_
   refine(h3).val.use ?_;simp only[go_sem]
   refine Wk ?_
   refine Sd ?_
   refine(h4).val.use ?_;simp only[go_sem]
   intros
   refine Wk ?_
   repeat(first|(with_reducible refine AWp.seq ?_)|(with_reducible refine AWp.block ?_))
   refine AWp.mix mixed [0,1,2,3,4,5,6,7,8,11] (.step 9 (.step 10 .done .done) .done) (by kernel_rfl) ?_;simp only[go_sem,h2,hnxl]
   refine Sd ?_
   refine GCall.use (.tup [.agg [ai N,.sl 1 Y],ai 0]) (fun _=>⟨At,(h5).val.use ⟨rfl,rfl⟩⟩) ?_;simp only[go_sem,h2,hnxl]
   refine Sd ?_
   intros
   refine Wk ?_
   refine Sd ?_
   refine Gc h6 ?_
   refine Sd ?_
   refine Wk ?_
   exact⟨_,List.Sublist.refl _,rfl⟩
  ·rintro vs L - ⟨rfl,rfl⟩
   simp only[go_sem]
   refine Wk ?_
   refine Sd ?_
   refine(hI.cd).val.use ?_;simp only[go_sem]
   cases bd with
   | false =>
    refine Wk ?_
    refine ret_eq ?_;simp only[go_sem]
   | true =>
    obtain⟨X,Y,A,B,hL⟩:=hL rfl rfl
    refine Wk ?_
    refine Sd ?_
    refine(hL.jn).val.use ?_;simp only[go_sem]
    refine Wk ?_
    refine Sd ?_
    refine(hL.mt).val.use ?_;simp only[go_sem]
    refine Wk ?_
    refine Sd ?_
    refine(hL.un).val.use ?_;simp only[go_sem]
    intros
    refine Wk ?_
    refine Sd ?_
    refine(hL.it).val.use ?_;simp only[go_sem]
    intros
    refine Wk ?_
    refine Sd ?_
    refine(hL.sx).val.use ?_;simp only[go_sem]
    intros
    refine Wk ?_
    refine Sd ?_
    refine(hL.sy).val.use ?_;simp only[go_sem]
    intros
    refine Wk ?_
    refine Sd ?_
    refine GCall.use (ab true) (fun _=>⟨At,(hL.ea).val.use ⟨rfl,rfl⟩⟩) ?_;simp only[go_sem]
    refine Sd ?_
    refine Sd ?_
    refine GCall.use (ab true) (fun _=>⟨At,(hL.eb).val.use ⟨rfl,rfl⟩⟩) ?_;simp only[go_sem]
    refine Sd ?_
    refine Wk ?_
    refine ret_eq ?_;simp only[go_sem]
end Go.AL
end
section
namespace Go.AL
open Go Go.RowKit
set_option maxRecDepth 100000
section
variable {H:Type} {enc:TypeId × Value→H} {W:World}
theorem rdInts:Rd enc Proofs.Tryz.prog W 25 1 aInts (fun l=>l.length≤maxLen) :=
 (Rd.slice Proofs.Tryz.underlying25 (by kernel_rfl:Program.cellsOf Proofs.Tryz.prog 3=1) (by decide) (Rd.int Proofs.Tryz.underlying3)).map id (fun _=>rfl) (fun _ h=>h.1)
theorem rdAsg:Rd enc Proofs.Tryz.prog W 150 2 aAsg (fun _=>True) :=
 (Rd.struct (ts:=[3,3]) Proofs.Tryz.underlying150 rfl rfl (by kernel_rfl) (by kernel_rfl)
  (.cons (Rd.int Proofs.Tryz.underlying3) (fun _=>⟨rfl,rfl⟩) (.cons (Rd.int Proofs.Tryz.underlying3) (fun _=>⟨rfl,rfl⟩) .nil))).map (fun (y:Int × Int × Unit)=>(y.1,y.2.1)) (fun _=>rfl) (fun _ _=>trivial)
theorem rdAsgs:Rd enc Proofs.Tryz.prog W 83 1 aAsgs (fun _=>True) :=
 (Rd.slice Proofs.Tryz.underlying83 (by kernel_rfl:Program.cellsOf Proofs.Tryz.prog 150=2) (by decide) rdAsg).map id (fun _=>rfl) (fun _ _=>trivial)
theorem rdVar:Rd enc Proofs.Tryz.prog W 148 2 aVar (fun _=>True) :=
 (Rd.struct (ts:=[9,3]) Proofs.Tryz.underlying148 rfl rfl (by kernel_rfl) (by kernel_rfl)
  (.cons (Rd.str Proofs.Tryz.underlying9) (fun _=>⟨rfl,rfl⟩) (.cons (Rd.int Proofs.Tryz.underlying3) (fun _=>⟨rfl,rfl⟩) .nil))).map (fun (y:ByteArray × Int × Unit)=>(y.1,y.2.1)) (fun _=>rfl) (fun _ _=>trivial)
theorem rdVars:Rd enc Proofs.Tryz.prog W 78 1 aVars (fun _=>True) :=
 (Rd.slice Proofs.Tryz.underlying78 (by kernel_rfl:Program.cellsOf Proofs.Tryz.prog 148=2) (by decide) rdVar).map id (fun _=>rfl) (fun _ _=>trivial)
theorem rdEv:Rd enc Proofs.Tryz.prog W 85 5 aEv (fun _=>True) :=
 (Rd.struct (ts:=[3,3,3,3,83]) Proofs.Tryz.underlying85 rfl rfl (by kernel_rfl) (by kernel_rfl)
  (.cons (Rd.int Proofs.Tryz.underlying3) (fun _=>⟨rfl,rfl⟩) (.cons (Rd.int Proofs.Tryz.underlying3) (fun _=>⟨rfl,rfl⟩) (.cons (Rd.int Proofs.Tryz.underlying3) (fun _=>⟨rfl,rfl⟩)
   (.cons (Rd.int Proofs.Tryz.underlying3) (fun _=>⟨rfl,rfl⟩) (.cons rdAsgs (fun _=>⟨rfl,rfl⟩) .nil)))))).map (fun (y:Int × Int × Int × Int × List (Int × Int) × Unit)=>⟨y.1,y.2.1,y.2.2.1,y.2.2.2.1,y.2.2.2.2.1⟩) (fun _=>rfl) (fun _ _=>trivial)
end
end Go.AL
end
section
namespace Go.AL
open Go Go.RowKit
set_option maxRecDepth 100000
section
variable {H:Type} {enc:TypeId × Value→H} {W:World}
theorem rdEvsM:Rd enc Proofs.Tryz.prog W 79 1 aEvs (fun l=>l.length≤maxLen) :=
 (Rd.slice Proofs.Tryz.underlying79 (by kernel_rfl:Program.cellsOf Proofs.Tryz.prog 85=5) (by decide) rdEv).map id (fun _=>rfl) (fun _ h=>h.1)
theorem rdPrM:Rd enc Proofs.Tryz.prog W 81 3 aPr (fun p=>p.evs.length≤maxLen) :=
 (Rd.struct (ts:=[9,78,79]) Proofs.Tryz.underlying81 rfl rfl (by kernel_rfl) (by kernel_rfl)
  (.cons (Rd.str Proofs.Tryz.underlying9) (fun _=>⟨rfl,rfl⟩) (.cons rdVars (fun _=>⟨rfl,rfl⟩) (.cons rdEvsM (fun _=>⟨rfl,rfl⟩) .nil)))).map (fun (y:ByteArray × List (ByteArray × Int) × List Ev × Unit)=>⟨y.1,y.2.1,y.2.2.1⟩) (fun _=>rfl) (fun _ h=>h.2.2.1)
theorem rdPrsM:Rd enc Proofs.Tryz.prog W 22 1 aPrs (fun l=>l.length≤maxLen∧∀p ∈ l,p.evs.length≤9223372036854775807) :=
 (Rd.slice Proofs.Tryz.underlying22 (by kernel_rfl:Program.cellsOf Proofs.Tryz.prog 81=3) (by decide) rdPrM).map id (fun _=>rfl) (fun _ h=>h)
theorem rdTrM:Rd enc Proofs.Tryz.prog W 24 1 aTr (fun l=>l.length≤maxLen∧∀p ∈ l,p.evs.length≤9223372036854775807) :=
 (Rd.struct (ts:=[22]) Proofs.Tryz.underlying24 rfl rfl (by kernel_rfl) (by kernel_rfl) (.cons rdPrsM (fun _=>⟨rfl,rfl⟩) .nil)).map (fun (y:List Pr × Unit)=>y.1) (fun _=>rfl) (fun _ h=>h.1)
end
end Go.AL
end
