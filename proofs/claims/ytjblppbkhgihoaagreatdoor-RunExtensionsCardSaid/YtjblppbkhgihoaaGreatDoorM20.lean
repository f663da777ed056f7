/- Texts of this claim's proof: WJ15, WRt, WRt7. No condition. -/
import Derived.Test.YtjblppbkhgihoaaGreatDoorM19
import Derived.Test.YtjblppbkhgihoaaGreatDoorM15
import Derived.Test.YtjblppbkhgihoaaGreatDoorM17
import Derived.Test.YtjblppbkhgihoaaGreatDoorM4
import Derived.Test.YtjblppbkhgihoaaGreatDoorM5
section
namespace Go.AL
open Go Go.RowKit
set_option maxRecDepth 4000
theorem tabX_ok {ps:List Pr} {r:AV} {L:AHeap} (h:TabR ps r L) (hv:validF ps=true):(cnE ps=16∧cnN ps=0∧r = .tup [.v (.map none),ai 16]∧L=[]) ∨
  (∃b ks vs f,r = .tup [.lm b,ai 0]∧L=[(b,.amap ks vs)]∧MpS ks vs (ai 0) f∧f (txC ps (zeroC ps))=ai (satV (wayV ps (zeroC ps)))∧((1125899906842624<satV (wayV ps (zeroC ps))∧cnE ps=9∧cnN ps=0)∨(¬1125899906842624<satV (wayV ps (zeroC ps))∧cnE ps=0∧cnN ps=satV (wayV ps (zeroC ps))))):=by
 rcases h with ⟨h1,rfl,rfl⟩|⟨h1,b,ks,vs,f,rfl,rfl,h2,h3⟩
 ·have hl:lstE ps=16:=by
   unfold lstE
   rw[hv,if_pos rfl]
   split <;> first|rfl|omega
  have hc:cnE ps=16:=by unfold cnE;rw[hl,if_pos (by decide)]
  exact .inl ⟨hc,by unfold cnN;rw[hc,if_neg (by decide)],rfl,rfl⟩
 ·have hl:lstE ps=0:=lst_zero.2 ⟨hv,h1⟩
  refine .inr ⟨b,ks,vs,f,rfl,rfl,h2,h3,?_⟩
  have hc:cnE ps=if 1125899906842624<wayV ps (zeroC ps) then 9 else 0:=by unfold cnE;rw[hl,if_neg (by decide)]
  by_cases hb:1125899906842624<wayV ps (zeroC ps)
  ·rw[if_pos hb] at hc
   exact .inl ⟨by unfold satV;split <;> omega,hc,by unfold cnN;rw[hc,if_neg (by decide)]⟩
  ·rw[if_neg hb] at hc
   have hs:satV (wayV ps (zeroC ps))=(wayV ps (zeroC ps):Int):=by unfold satV;rw[if_pos (by omega)]
   exact .inr ⟨by rw[hs];omega,hc,by unfold cnN;rw[hc,if_pos rfl,hs]⟩
set_option maxHeartbeats 1000000 in
theorem ext_counted (ps:List Pr) (hs:Sm ps) (hv:validF ps=true):MCalls Proofs.Tryz.prog 29 [aRelN (off ps ps.length) (ordZ ps)] [] fun r L=>(r = .tup [.v (.map none),ai (cnN ps),ai (cnE ps)]∧L=[])∨∃b ks us,r = .tup [.lm b,ai (cnN ps),ai (cnE ps)]∧L=[(b,.amap ks us)]:=by
 have hN:=valid_off hv
 have h1:=ext_table ps hs hv
 have h2:=ext_open _ hN (ordZ ps)
 have hkey:=ext_key _ hN (bloL (off ps ps.length) (ordZ ps)) (fun _=>false)
 have hz:txN (off ps ps.length) (fun _=>false)=txC ps (zeroC ps):=txN_congr fun j hj=>by
  obtain⟨p,i,hp,hi,rfl⟩:=num_form ps.length (Nat.le_refl _) hj
  have hz:cAt (zeroC ps) p=0:=by unfold zeroC cAt;rw[getD_zeros]
  rw[setC_at hp hi,decide_eq_false (by omega)]
 rw[hz] at hkey
 have hT:=fun r L (h:TabR ps r L)=>tabX_ok h hv
 rw[aRelN_eq] at *
 generalize (List.range (off ps ps.length)).map (fun i=>aNs (off ps ps.length) (ordZ ps i))=R at *
 generalize bloL (off ps ps.length) (ordZ ps)=B at *
 generalize off ps ps.length=N at *
 generalize hzz:satV (wayV ps (zeroC ps))=w at *
 generalize txC ps (zeroC ps)=tz at *
 generalize cnE ps=ce at *
 generalize cnN ps=cn at *
 refine MCalls.enter' 22 [.tmp 2,.tmp 3,.tmp 4] [1] Proofs.Tryz.func29 rfl rfl rfl rfl rfl (by simp) (AWp.of ?_);simp only[go_sem]
 refine Wk ?_
 refine(MVal.frame (Lm:=[]) (Lr:=[]) h1.val).mono ?_
 rintro r L ⟨L1,rfl,hR⟩
 rcases hT _ _ hR with ⟨rfl,rfl,rfl,rfl⟩|⟨b,ks,us,f,rfl,rfl,hMp,hf,hc⟩
 ·simp only[go_sem]
  repeat(first|((with_reducible refine AWp.ofC ?_ ?_);exact rfl;simp only[go_sem,Int.reduceEq])|((with_reducible refine an ?_ ?_);exact Au))
  refine ret_sub [] (List.Sublist.refl _) ?_
  simp only[go_sem]
 ·have hget:=hMp.get tz
  rw[hf] at hget
  have hfit:=hMp.fits
  simp only[go_sem]
  refine Wk ?_
  refine(MVal.nd (MVal.frame (Lm:=[]) (Lr:=[(b,.amap ks us)]) h2.val)).mono ?_
  rintro r L ⟨hnd,L1,rfl,bd,rfl,rfl⟩
  have n1:¬bd=b:=by simpa using hnd
  have n2:¬b=bd:=fun e=>n1 e.symm
  have hxo:fo (xsP N B bd N)=(True,xsP N B bd N):=rfl
  simp only[go_sem,List.cons_append,List.nil_append,hxo]
  refine(PC.view (Vws.cons (xsP_vw N B bd N (fun _=>false) [(bd,.row 4 1 (bRow N fun _=>false) N),(b,.amap ks us)] (if_pos rfl)) .nil) hkey (Own.v _) ?_).val
  simp only[go_sem,hget,hfit,n1,n2]
  refine Sd ?_
  rcases hc with ⟨c1,rfl,rfl⟩|⟨c1,rfl,rfl⟩
  ·refine W1 c1 ?_
   refine ret_sub [] (List.nil_sublist _) ?_
   simp only[go_sem]
  ·refine W1 c1 ?_
   refine ret_sub [(b,.amap ks us)] (.cons _ (List.Sublist.refl _)) ?_
   simp only[go_sem]
   exact⟨_,_,_,rfl,rfl⟩
theorem ext_Count (ps:List Pr) (hs:Sm ps) (hv:validF ps=true):PC Proofs.Tryz.prog 9 [aRelN (off ps ps.length) (ordZ ps)] (.tup [ai (cnN ps),ai (cnE ps)]):=by
 have h1:=ext_counted ps hs hv
 refine MCalls.pc (K:=fun r L=>r = .tup [ai (cnN ps),ai (cnE ps)]∧L=[]) ?_ (fun r L h=>by rw[h.1];exact .refl _)
 rw[aRelN_eq] at *
 generalize (List.range (off ps ps.length)).map (fun i=>aNs (off ps ps.length) (ordZ ps i))=R at *
 generalize cnE ps=ce at *
 generalize cnN ps=cn at *
 refine MCalls.enter' 15 [.tmp 2,.tmp 3] [1] Proofs.Tryz.func9 rfl rfl rfl rfl rfl (by simp) (AWp.of ?_);simp only[go_sem]
 refine Wk ?_
 refine(MVal.frame (Lm:=[]) (Lr:=[]) h1.val).mono ?_
 rintro r L ⟨L1,rfl,hR⟩
 rcases hR with ⟨rfl,rfl⟩|⟨b,ks,us,rfl,rfl⟩
 all_goals
  simp only[go_sem]
  refine Wk ?_
  refine ret_sub [] (List.nil_sublist _) ?_
  simp only[go_sem]
theorem law24_RunExtensions (ps:List Pr) (hev:∀p ∈ ps,p.evs.length≤9223372036854775807):PC Proofs.Tryz.prog 3 [aTr ps] (ab true):=by
 have haw:=law24_awake
 have hsm:=law24_small ps hev 30
 have hTr:aTr ps = .agg [.sl 3 (ps.map aPr)]:=rfl
 cases hsf:smF ps 30 with
 | false =>
  rw[hsf,hTr] at hsm
  rw[hTr]
  refine PC.enter 44 [.tmp 2] [1,5] Proofs.Tryz.func3 rfl rfl rfl rfl rfl (by simp) (AWp.of ?_);simp only[go_sem]
  refine Wk ?_
  refine Sd ?_
  refine(haw).val.use ?_;simp only[go_sem]
  refine Wk ?_
  refine Sd ?_
  refine(hsm).val.use ?_;simp only[go_sem]
  refine GCall.use (ab false) (fun h=>absurd h (by simp)) ?_
  simp only[go_sem]
  refine Wk ?_
  refine ret_eq ?_;simp only[go_sem]
 | true =>
  rw[hsf] at hsm
  have hvd:=vd_of hsf
  have hrv:=hvd.rval
  cases hv:validF ps with
  | false =>
   rw[hv,hTr] at hrv
   rw[hTr] at hsm ⊢
   refine PC.enter 44 [.tmp 2] [1,5] Proofs.Tryz.func3 rfl rfl rfl rfl rfl (by simp) (AWp.of ?_);simp only[go_sem]
   refine Wk ?_
   refine Sd ?_
   refine(haw).val.use ?_;simp only[go_sem]
   refine Wk ?_
   refine Sd ?_
   refine(hsm).val.use ?_;simp only[go_sem]
   refine Sd ?_
   refine Gc hrv ?_
   refine Sd ?_
   refine Wk ?_
   refine ret_eq ?_;simp only[go_sem]
  | true =>
   have hs:=hvd.sm hv
   rw[hv] at hrv
   have h1:=run_Count ps hs
   have h2:=causality_Order ps hs hv
   rw[relX_N] at h2
   have h3:=ext_Count ps hs hv
   rw[aRelN_eq] at h2
   change PC _ _ [aRelN (off ps ps.length) (ordX ps (exF ps []))] _ at h3
   rw[aRelN_eq] at h3
   rw[hTr] at hsm hrv h1 h2 ⊢
   generalize (List.range (off ps ps.length)).map (fun i=>aNs (off ps ps.length) (ordX ps (exF ps []) i))=R at *
   generalize cnE ps=ce at *
   generalize cnN ps=cn at *
   refine PC.enter 44 [.tmp 2] [1,5] Proofs.Tryz.func3 rfl rfl rfl rfl rfl (by simp) (AWp.of ?_);simp only[go_sem]
   refine Wk ?_
   refine Sd ?_
   refine(haw).val.use ?_;simp only[go_sem]
   refine Wk ?_
   refine Sd ?_
   refine(hsm).val.use ?_;simp only[go_sem]
   refine Sd ?_
   refine Gc hrv ?_
   refine Sd ?_
   refine Wk ?_
   refine Sd ?_
   refine(h1).val.use ?_;simp only[go_sem]
   refine Wk ?_
   refine Sd ?_
   refine(h2).val.use ?_;simp only[go_sem]
   intros
   refine Wk ?_
   refine Sd ?_
   refine(h3).val.use ?_;simp only[go_sem]
   refine Wk ?_
   refine ret_eq ?_;simp only[go_sem]
end Go.AL
end
section
namespace Go.AL
open Go Go.RowKit
set_option maxRecDepth 100000
section
variable {H:Type} {enc:TypeId × Value→H} {W:World}
theorem rdAsg:Rd enc Proofs.Tryz.prog W 119 2 aAsg (fun _=>True) :=
 (Rd.struct (ts:=[3,3]) Proofs.Tryz.underlying119 rfl rfl (by kernel_rfl) (by kernel_rfl)
  (.cons (Rd.int Proofs.Tryz.underlying3) (fun _=>⟨rfl,rfl⟩) (.cons (Rd.int Proofs.Tryz.underlying3) (fun _=>⟨rfl,rfl⟩) .nil))).map (fun (y:Int × Int × Unit)=>(y.1,y.2.1)) (fun _=>rfl) (fun _ _=>trivial)
theorem rdAsgs:Rd enc Proofs.Tryz.prog W 37 1 aAsgs (fun _=>True) :=
 (Rd.slice Proofs.Tryz.underlying37 (by kernel_rfl:Program.cellsOf Proofs.Tryz.prog 119=2) (by decide) rdAsg).map id (fun _=>rfl) (fun _ _=>trivial)
theorem rdVar:Rd enc Proofs.Tryz.prog W 116 2 aVar (fun _=>True) :=
 (Rd.struct (ts:=[9,3]) Proofs.Tryz.underlying116 rfl rfl (by kernel_rfl) (by kernel_rfl)
  (.cons (Rd.str Proofs.Tryz.underlying9) (fun _=>⟨rfl,rfl⟩) (.cons (Rd.int Proofs.Tryz.underlying3) (fun _=>⟨rfl,rfl⟩) .nil))).map (fun (y:ByteArray × Int × Unit)=>(y.1,y.2.1)) (fun _=>rfl) (fun _ _=>trivial)
theorem rdVars:Rd enc Proofs.Tryz.prog W 41 1 aVars (fun _=>True) :=
 (Rd.slice Proofs.Tryz.underlying41 (by kernel_rfl:Program.cellsOf Proofs.Tryz.prog 116=2) (by decide) rdVar).map id (fun _=>rfl) (fun _ _=>trivial)
theorem rdEv:Rd enc Proofs.Tryz.prog W 39 5 aEv (fun _=>True) :=
 (Rd.struct (ts:=[3,3,3,3,37]) Proofs.Tryz.underlying39 rfl rfl (by kernel_rfl) (by kernel_rfl)
  (.cons (Rd.int Proofs.Tryz.underlying3) (fun _=>⟨rfl,rfl⟩) (.cons (Rd.int Proofs.Tryz.underlying3) (fun _=>⟨rfl,rfl⟩) (.cons (Rd.int Proofs.Tryz.underlying3) (fun _=>⟨rfl,rfl⟩)
   (.cons (Rd.int Proofs.Tryz.underlying3) (fun _=>⟨rfl,rfl⟩) (.cons rdAsgs (fun _=>⟨rfl,rfl⟩) .nil)))))).map (fun (y:Int × Int × Int × Int × List (Int × Int) × Unit)=>⟨y.1,y.2.1,y.2.2.1,y.2.2.2.1,y.2.2.2.2.1⟩) (fun _=>rfl) (fun _ _=>trivial)
end
end Go.AL
end
section
namespace Go.AL
open Go Go.RowKit
set_option maxRecDepth 100000
section
variable {H:Type} {enc:TypeId × Value→H} {W:World}
theorem rdEvsM:Rd enc Proofs.Tryz.prog W 40 1 aEvs (fun l=>l.length≤maxLen) :=
 (Rd.slice Proofs.Tryz.underlying40 (by kernel_rfl:Program.cellsOf Proofs.Tryz.prog 39=5) (by decide) rdEv).map id (fun _=>rfl) (fun _ h=>h.1)
theorem rdPrM:Rd enc Proofs.Tryz.prog W 43 3 aPr (fun p=>p.evs.length≤maxLen) :=
 (Rd.struct (ts:=[9,41,40]) Proofs.Tryz.underlying43 rfl rfl (by kernel_rfl) (by kernel_rfl)
  (.cons (Rd.str Proofs.Tryz.underlying9) (fun _=>⟨rfl,rfl⟩) (.cons rdVars (fun _=>⟨rfl,rfl⟩) (.cons rdEvsM (fun _=>⟨rfl,rfl⟩) .nil)))).map (fun (y:ByteArray × List (ByteArray × Int) × List Ev × Unit)=>⟨y.1,y.2.1,y.2.2.1⟩) (fun _=>rfl) (fun _ h=>h.2.2.1)
theorem rdPrsM:Rd enc Proofs.Tryz.prog W 22 1 aPrs (fun l=>l.length≤maxLen∧∀p ∈ l,p.evs.length≤9223372036854775807) :=
 (Rd.slice Proofs.Tryz.underlying22 (by kernel_rfl:Program.cellsOf Proofs.Tryz.prog 43=3) (by decide) rdPrM).map id (fun _=>rfl) (fun _ h=>h)
theorem rdTrM:Rd enc Proofs.Tryz.prog W 24 1 aTr (fun l=>l.length≤maxLen∧∀p ∈ l,p.evs.length≤9223372036854775807) :=
 (Rd.struct (ts:=[22]) Proofs.Tryz.underlying24 rfl rfl (by kernel_rfl) (by kernel_rfl) (.cons rdPrsM (fun _=>⟨rfl,rfl⟩) .nil)).map (fun (y:List Pr × Unit)=>y.1) (fun _=>rfl) (fun _ h=>h.1)
end
end Go.AL
end
