/- Texts of this claim's proof: WV34, WRt, WRt7, WRt2. No condition. -/
import Derived.Test.YtnpagaiphamfaaaGreatDoorM27
import Derived.Test.YtnpagaiphamfaaaGreatDoorM16
import Derived.Test.YtnpagaiphamfaaaGreatDoorM26
import Derived.Test.YtnpagaiphamfaaaGreatDoorM10
import Derived.Test.YtnpagaiphamfaaaGreatDoorM4
import Derived.Test.YtnpagaiphamfaaaGreatDoorM8
section
namespace Go.AL
open Go Go.RowKit
set_option maxRecDepth 4000
theorem guardN {ps:List Pr} {ts:List Pd} {m:Int} (hf:fw38 ps m=true) (hsb:sm38 ts=true):∃e:Int,PC Proofs.Tryz.prog 15 [aTr ps,.sl 6 (ts.map aPd)] (ai e)∧(e=0→Sm ps∧conF ps ts=0):=by
 have hvd:=vd38 hf
 obtain⟨htl12,hz⟩:=sm38_spec hsb
 cases hv:validF ps with
 | false =>
  have hrv:=hvd.rval
  rw[hv] at hrv
  exact⟨1,ref37_Fault_bad hrv ts (by omega),fun h=>by cases h⟩
 | true=>exact⟨_,ref37_Fault ps (hvd.sm hv) ts hz (by omega),fun h=>⟨hvd.sm hv,h⟩⟩
theorem possN {ps:List Pr} (hs:Sm ps) (ts:List Pd) (hz:∀t ∈ ts,szF t≤1000000) (htl:ts.length≤1000000) (hC:conF ps ts=0):∃(kd:Int) (c:List Int) (sp:List AV),
  PC Proofs.Tryz.prog 23 [aTr ps,.sl 6 (ts.map aPd)] (.tup [.agg [ai 1,ab (!lostF (elimOf ps ts)),ai kd,.sl 1 (c.map ai),.sl 1 [],.sl 1 [],.sl 3 sp,ai 0],ai 0]):=by
 have h1:=conj_Possibly ps hs ts hz htl
 unfold aPossR ansOf at h1
 rw[if_pos hC] at h1
 cases hl:lostF (elimOf ps ts) with
 | true =>
  rw[hl,if_pos rfl] at h1
  exact⟨4,[],_,h1⟩
 | false =>
  rw[hl,if_neg (by decide)] at h1
  exact⟨1,_,[],h1⟩
theorem good_blocked {ps:List Pr} (hs:Sm ps) (ts:List Pd) (hv:validF ps=true) (h5:(cutsF ps).length≤5000):PC Proofs.Tryz.prog 21 [aTr ps,aRows (goodF ps ts)] (.tup [ab (!opnV ps (badB (goodF ps ts)) (zeroC ps)),ai 0]):=by
 have h:=run_Blocked ps hs (goodF ps ts)
 have h0:lstE ps=0:=lst_zero.2 ⟨hv,h5⟩
 have hl:(goodF ps ts).length≤5000:=by
  have:(goodF ps ts).length≤(cutsF ps).length:=List.length_filter_le _ _
  omega
 have e1:avE ps (goodF ps ts)=0:=by
  unfold avE
  rw[hv,if_pos rfl,if_neg (by omega),if_neg (by rw[good_is hv];decide),h0]
 have e2:blkB ps (goodF ps ts) = !opnV ps (badB (goodF ps ts)) (zeroC ps):=by unfold blkB;rw[decide_eq_true e1,Bool.true_and]
 rw[e1,e2] at h
 exact h
theorem dfn_tight {ps:List Pr} (hs:Sm ps) (ts:List Pd) (hz:∀t ∈ ts,szF t≤1000000) (htl:ts.length≤1000000) (hC:conF ps ts=0) {a:Nat→Nat} (ha:LeastS ps (rowsOf ps ts) a) :
  PC Proofs.Tryz.prog 16 [aTr ps,.sl 6 (ts.map aPd)] (.tup [aAns ⟨2,true,4,[],[],[],(chcL ps.length (rowsOf ps ts) a).map stpI,0⟩,ai 0]):=by
 refine(strong_Definitely ps hs ts hz htl).mono fun r L ⟨e,h⟩=>⟨?_,e⟩
 rcases h with ⟨h,_⟩|⟨_,a',h1,h2⟩|⟨_,h,_⟩
 ·exact absurd hC h
 ·rw[h2,chcL_congr fun p hp=>least_unique h1 ha hp]
 ·exact absurd ⟨a,ha.1⟩ h
theorem dfn_none {ps:List Pr} (hs:Sm ps) (ts:List Pd) (hz:∀t ∈ ts,szF t≤1000000) (htl:ts.length≤1000000) (hC:conF ps ts=0) (hT:¬ ∃t,TgtS ps (rowsOf ps ts) t) :
  MCalls Proofs.Tryz.prog 16 [aTr ps,.sl 6 (ts.map aPd)] [] (fun r L=>L=[]∧∃O,(DodgeR ps (elimOf ps ts).ok O∧O.length≤513)∧r = .tup [aAns ⟨2,false,3,[],[],O,[],0⟩,ai 0]):=by
 refine(strong_Definitely ps hs ts hz htl).mono fun r L ⟨e,h⟩=>⟨e,?_⟩
 rcases h with ⟨h,_⟩|⟨_,a',h1,_⟩|⟨_,_,O,h1,h2,h3⟩
 ·exact absurd hC h
 ·exact absurd ⟨a',h1.1⟩ hT
 ·exact⟨O,⟨h1,h2⟩,h3⟩
theorem lat_def {ps:List Pr} (hs:Sm ps) (ts:List Pd) (hz:∀t ∈ ts,szF t≤1000000) (htl:ts.length≤1000000) (hC:conF ps ts=0) :
  MCalls Proofs.Tryz.prog 16 [aTr ps,.sl 6 (ts.map aPd)] [] fun r L=>L=[]∧∃(kd:Int) (R:List AV) (sp:List AV),r = .tup [.agg [ai 2,ab (!opnV ps (badB (goodF ps ts)) (zeroC ps)),ai kd,.sl 1 [],.sl 1 [],.sl 1 R,.sl 3 sp,ai 0],ai 0]∧(opnV ps (badB (goodF ps ts)) (zeroC ps)=false→lostF (elimOf ps ts)=false):=by
 have hv:=(conF_inv hC).1
 by_cases hT:∃t,TgtS ps (rowsOf ps ts) t
 ·obtain⟨a,ha⟩:=least_ex (rowsOf_ok (ps:=ps) (ts:=ts) (conF_inv hC).2.1) hT
  refine MCalls.mono (dfn_tight hs ts hz htl hC ha) fun r L ⟨e,eL⟩=>⟨eL,4,[],((chcL ps.length (rowsOf ps ts) a).map stpI).map aSp,?_,fun _ => ?_⟩
  ·rw[lat_tight hC ha.1,e];rfl
  ·obtain⟨d,hd,hI⟩:=low_ex hv (tgb_of hC ha.1)
   exact(lost_iff hv (elim_need ps ts)).2 ⟨d,satG_iff.1 (box_sat hC ha.1 hd hI)⟩
 ·refine(dfn_none hs ts hz htl hC hT).mono fun r L ⟨e,O,⟨hO,_⟩,h⟩=>⟨e,3,O.map aInts,[],?_,?_⟩
  ·rw[lat_dodge hC hO,h];rfl
  ·rw[lat_dodge hC hO];exact fun h=>by cases h
set_option maxHeartbeats 1000000 in
theorem law38_LatticeG (ps:List Pr) (ts:List Pd) (hs:Sm ps) (hz:∀t ∈ ts,szF t≤1000000) (htl:ts.length≤1000000) (hC:conF ps ts=0) (hfew:PC Proofs.Tryz.prog 7 [aTr ps,ai 14] (ab true)) (hsm:PC Proofs.Tryz.prog 14 [.sl 6 (ts.map aPd)] (ab true))
  (hft:PC Proofs.Tryz.prog 15 [aTr ps,.sl 6 (ts.map aPd)] (ai 0)):PC Proofs.Tryz.prog 5 [aTr ps,.sl 6 (ts.map aPd)] (ab true):=by
 have haw:=law38_awake
 have hv:=(conF_inv hC).1
 have h4:=ref23_List ps hs hv
 have haR:∀x:List (List Int),aRows x = .sl 1 (x.map aInts):=fun _=>rfl
 by_cases h5:5000<(cutsF ps).length
 ·rw[if_pos h5] at h4
  refine PC.enter 113 [.tmp 4] [2,10,14,59] Proofs.Tryz.func5 rfl rfl rfl rfl rfl (by simp) (AWp.of ?_);simp only[go_sem]
  refine Wk ?_
  refine Sd ?_
  refine(haw).val.use ?_;simp only[go_sem]
  refine Sd ?_
  refine Gc hfew ?_
  refine Sd ?_
  refine Sd ?_
  refine Gc hsm ?_
  refine Sd ?_
  refine Sd ?_
  refine Gc hft ?_
  refine Sd ?_
  refine Wk ?_
  refine Sd ?_
  refine(h4).val.use ?_;simp only[go_sem]
  refine Wk ?_
  refine ret_eq ?_;simp only[go_sem]
 rw[if_neg h5] at h4
 by_cases h1:1000<(cutsF ps).length
 ·have i1:(1000:Int)<(cutsF ps).length:=by omega
  generalize cutsF ps=cs at *
  rw[haR] at h4
  refine PC.enter 113 [.tmp 4] [2,10,14,59] Proofs.Tryz.func5 rfl rfl rfl rfl rfl (by simp) (AWp.of ?_);simp only[go_sem]
  refine Wk ?_
  refine Sd ?_
  refine(haw).val.use ?_;simp only[go_sem]
  refine Sd ?_
  refine Gc hfew ?_
  refine Sd ?_
  refine Sd ?_
  refine Gc hsm ?_
  refine Sd ?_
  refine Sd ?_
  refine Gc hft ?_
  refine Sd ?_
  refine Wk ?_
  refine Sd ?_
  refine(h4).val.use ?_;simp only[go_sem]
  refine W1 i1 ?_
  refine ret_eq ?_;simp only[go_sem]
 have i1:¬(1000:Int)<(cutsF ps).length:=by omega
 have hsat:=ref37_Satisfies ps hs ts hz htl hC
 have hbl:=good_blocked hs ts hv (by omega)
 have hdef:=lat_def hs ts hz htl hC
 obtain⟨kd,pc,psp,hpo⟩:=possN hs ts hz htl hC
 have hpos:=good_pos hC
 have hgo:goodF ps ts=(cutsF ps).filter (satG ps (elimOf ps ts)):=rfl
 rw[hgo] at hbl hdef hpos
 clear hgo
 generalize hcs:cutsF ps=cs at *
 simp only[haR] at h4 hbl
 refine PC.enter 113 [.tmp 4] [2,10,14,59] Proofs.Tryz.func5 rfl rfl rfl rfl rfl (by simp) (AWp.of ?_);simp only[go_sem]
 refine Wk ?_
 refine Sd ?_
 refine(haw).val.use ?_;simp only[go_sem]
 refine Sd ?_
 refine Gc hfew ?_
 refine Sd ?_
 refine Sd ?_
 refine Gc hsm ?_
 refine Sd ?_
 refine Sd ?_
 refine Gc hft ?_
 refine Sd ?_
 refine Wk ?_
 refine Sd ?_
 refine(h4).val.use ?_;simp only[go_sem]
 refine W1 i1 ?_
 refine AWp.range' cs.length [7] [1,2,47,48] (fun k vs L=>∃v,vs=[v]∧AppSt 42 1 (((cs.take k).filter (satG ps (elimOf ps ts))).map aInts) v L) (by omega) rfl rfl rfl ⟨anil,rfl,.nil⟩ ?_ ?_
 ·rintro k vs L hk - ⟨v,rfl,hA⟩
  have hg:=getD_map (f:=aInts) hk
  have hsk:=hsat cs[k]
  have hst:(cs.take (k+1)).filter (satG ps (elimOf ps ts))=(cs.take k).filter (satG ps (elimOf ps ts)) ++ if satG ps (elimOf ps ts) cs[k]=true then [cs[k]] else []:=by
   rw[List.take_succ_eq_append_getElem hk,List.filter_append]
   cases hb:satG ps (elimOf ps ts) cs[k] <;> simp [hb]
  have hfl:((cs.take k).filter (satG ps (elimOf ps ts))).length≤k:=Nat.le_trans (List.length_filter_le _ _) (by rw[List.length_take];omega)
  rw[hst]
  clear hbl hdef hpos
  generalize (cs.take k).filter (satG ps (elimOf ps ts))=fs at *
  generalize satG ps (elimOf ps ts) cs[k]=B at *
  generalize cs[k]=x at *
  rcases hA.inv with ⟨e1,rfl,rfl⟩|⟨bq,cap,rfl,rfl⟩
  ·cases B with
   | true =>
    simp only[go_sem]
    refine W1 hg ?_
    refine Sd ?_
    refine(hsk).val.use ?_;simp only[go_sem]
    refine W1 hg ?_
    refine Sd ?_
    intro b' cap' g8
    exact⟨_,List.Sublist.refl _,_,rfl,by (first|rw[if_pos rfl,List.map_append,e1]|rw[List.map_append,e1]);exact .row _ _ _⟩
   | false =>
    simp only[go_sem]
    refine W1 hg ?_
    refine Sd ?_
    refine(hsk).val.use ?_;simp only[go_sem]
    refine W1 hg ?_
    exact⟨_,List.Sublist.refl _,_,rfl,by (try rw[if_neg (by decide),List.append_nil]);simpa using hA⟩
  ·cases B with
   | true =>
    simp only[go_sem]
    refine W1 hg ?_
    refine Sd ?_
    refine(hsk).val.use ?_;simp only[go_sem]
    refine W1 hg ?_
    refine Sd ?_
    intro b' cap' g8
    exact⟨_,List.Sublist.refl _,_,rfl,by (first|rw[if_pos rfl,List.map_append]|rw[List.map_append]);exact AppSt.snoc b' cap' _ (by simp)⟩
   | false =>
    simp only[go_sem]
    refine W1 hg ?_
    refine Sd ?_
    refine(hsk).val.use ?_;simp only[go_sem]
    refine W1 hg ?_
    exact⟨_,List.Sublist.refl _,_,rfl,by (try rw[if_neg (by decide),List.append_nil]);simpa using hA⟩
 ·rintro vs L - ⟨v,rfl,hA⟩
  rw[List.take_length] at hA
  refine AWp.viewA (j:=7) (L:=[]) hA rfl ?_
  clear hA
  generalize cs.filter (satG ps (elimOf ps ts))=gs at *
  generalize opnV ps (badB gs) (zeroC ps)=o at *
  generalize lostF (elimOf ps ts)=lo at *
  simp only[go_sem]
  refine Wk ?_
  refine hdef.val.mono ?_
  rintro r L ⟨rfl,dk,R,sp,rfl,hol⟩
  simp only[go_sem]
  intros
  refine Wk ?_
  refine Sd ?_
  refine(hbl).val.use ?_;simp only[go_sem]
  refine Wk ?_
  refine Sd ?_
  refine(hpo).val.use ?_;simp only[go_sem]
  intros
  refine W1 hpos ?_
  refine ret_eq ?_;simp only[go_sem]
  cases o <;> cases lo <;> simp_all
theorem law38_StrongLattice (ps:List Pr) (ts:List Pd) (hpl:ps.length≤9223372036854775807) (hev:∀p ∈ ps,p.evs.length≤9223372036854775807):PC Proofs.Tryz.prog 5 [aTr ps,.sl 6 (ts.map aPd)] (ab true):=by
 have haw:=law38_awake
 have hfew:=law38_few ps hpl hev 14
 have hsm:=law38_small ts
 have main:fw38 ps 14=true→sm38 ts=true→∃e:Int,PC Proofs.Tryz.prog 15 [aTr ps,.sl 6 (ts.map aPd)] (ai e)∧(e=0→PC Proofs.Tryz.prog 5 [aTr ps,.sl 6 (ts.map aPd)] (ab true)):=fun hf hsb=>by
  rw[hf] at hfew
  rw[hsb] at hsm
  obtain⟨e,h1,h2⟩:=guardN hf hsb
  refine⟨e,h1,fun h0 => ?_⟩
  subst h0
  obtain⟨hs,hC⟩:=h2 rfl
  obtain⟨htl12,hz⟩:=sm38_spec hsb
  exact law38_LatticeG ps ts hs hz (by omega) hC hfew hsm h1
 generalize fw38 ps 14=F at *
 generalize sm38 ts=S at *
 by_cases hall:F=true∧S=true
 ·obtain⟨rfl,rfl⟩:=hall
  obtain⟨e,h1,h2⟩:=main rfl rfl
  by_cases h0:e=0
  ·exact h2 h0
  ·refine PC.enter 113 [.tmp 4] [2,10,14,59] Proofs.Tryz.func5 rfl rfl rfl rfl rfl (by simp) (AWp.of ?_);simp only[go_sem]
   refine Wk ?_
   refine Sd ?_
   refine(haw).val.use ?_;simp only[go_sem]
   refine Sd ?_
   refine Gc hfew ?_
   refine Sd ?_
   refine Sd ?_
   refine Gc hsm ?_
   refine Sd ?_
   refine Sd ?_
   refine Gc h1 ?_
   refine Sd ?_
   refine Wk ?_
   refine⟨fun q => ?_,fun q => ?_⟩
   ·refine Wk ?_
    refine Sd ?_
    refine(haw).val.use ?_;simp only[go_sem]
    refine Wk ?_
    refine ret_eq ?_;simp only[go_sem]
   ·exact absurd q h0
 ·refine PC.enter 113 [.tmp 4] [2,10,14,59] Proofs.Tryz.func5 rfl rfl rfl rfl rfl (by simp) (AWp.of ?_);simp only[go_sem]
  refine Wk ?_
  refine Sd ?_
  refine(haw).val.use ?_;simp only[go_sem]
  refine Sd ?_
  refine Gc hfew ?_
  refine Sd ?_
  refine Sd ?_
  refine Gc hsm ?_
  refine Sd ?_
  refine GCall.use (ai 1) (fun hg=>absurd (by simpa using hg) hall) ?_
  simp only[go_sem]
  refine Wk ?_
  refine⟨fun q => ?_,fun q1 q2 q3 => ?_⟩
  ·refine Wk ?_
   refine Sd ?_
   refine(haw).val.use ?_;simp only[go_sem]
   refine Wk ?_
   refine ret_eq ?_;simp only[go_sem]
  ·exact absurd ⟨q1,q2⟩ hall
end Go.AL
end
section
namespace Go.AL
open Go Go.RowKit
set_option maxRecDepth 100000
section
variable {H:Type} {enc:TypeId × Value→H} {W:World}
theorem rdAsg:Rd enc Proofs.Tryz.prog W 122 2 aAsg (fun _=>True) :=
 (Rd.struct (ts:=[3,3]) Proofs.Tryz.underlying122 rfl rfl (by kernel_rfl) (by kernel_rfl)
  (.cons (Rd.int Proofs.Tryz.underlying3) (fun _=>⟨rfl,rfl⟩) (.cons (Rd.int Proofs.Tryz.underlying3) (fun _=>⟨rfl,rfl⟩) .nil))).map (fun (y:Int × Int × Unit)=>(y.1,y.2.1)) (fun _=>rfl) (fun _ _=>trivial)
theorem rdAsgs:Rd enc Proofs.Tryz.prog W 68 1 aAsgs (fun _=>True) :=
 (Rd.slice Proofs.Tryz.underlying68 (by kernel_rfl:Program.cellsOf Proofs.Tryz.prog 122=2) (by decide) rdAsg).map id (fun _=>rfl) (fun _ _=>trivial)
theorem rdVar:Rd enc Proofs.Tryz.prog W 74 2 aVar (fun _=>True) :=
 (Rd.struct (ts:=[9,3]) Proofs.Tryz.underlying74 rfl rfl (by kernel_rfl) (by kernel_rfl)
  (.cons (Rd.str Proofs.Tryz.underlying9) (fun _=>⟨rfl,rfl⟩) (.cons (Rd.int Proofs.Tryz.underlying3) (fun _=>⟨rfl,rfl⟩) .nil))).map (fun (y:ByteArray × Int × Unit)=>(y.1,y.2.1)) (fun _=>rfl) (fun _ _=>trivial)
theorem rdVars:Rd enc Proofs.Tryz.prog W 63 1 aVars (fun _=>True) :=
 (Rd.slice Proofs.Tryz.underlying63 (by kernel_rfl:Program.cellsOf Proofs.Tryz.prog 74=2) (by decide) rdVar).map id (fun _=>rfl) (fun _ _=>trivial)
theorem rdEv:Rd enc Proofs.Tryz.prog W 70 5 aEv (fun _=>True) :=
 (Rd.struct (ts:=[3,3,3,3,68]) Proofs.Tryz.underlying70 rfl rfl (by kernel_rfl) (by kernel_rfl)
  (.cons (Rd.int Proofs.Tryz.underlying3) (fun _=>⟨rfl,rfl⟩) (.cons (Rd.int Proofs.Tryz.underlying3) (fun _=>⟨rfl,rfl⟩) (.cons (Rd.int Proofs.Tryz.underlying3) (fun _=>⟨rfl,rfl⟩)
   (.cons (Rd.int Proofs.Tryz.underlying3) (fun _=>⟨rfl,rfl⟩) (.cons rdAsgs (fun _=>⟨rfl,rfl⟩) .nil)))))).map (fun (y:Int × Int × Int × Int × List (Int × Int) × Unit)=>⟨y.1,y.2.1,y.2.2.1,y.2.2.2.1,y.2.2.2.2.1⟩) (fun _=>rfl) (fun _ _=>trivial)
end
end Go.AL
end
section
namespace Go.AL
open Go Go.RowKit
set_option maxRecDepth 100000
section
variable {H:Type} {enc:TypeId × Value→H} {W:World}
theorem rdEvsM:Rd enc Proofs.Tryz.prog W 64 1 aEvs (fun l=>l.length≤maxLen) :=
 (Rd.slice Proofs.Tryz.underlying64 (by kernel_rfl:Program.cellsOf Proofs.Tryz.prog 70=5) (by decide) rdEv).map id (fun _=>rfl) (fun _ h=>h.1)
theorem rdPrM:Rd enc Proofs.Tryz.prog W 66 3 aPr (fun p=>p.evs.length≤maxLen) :=
 (Rd.struct (ts:=[9,63,64]) Proofs.Tryz.underlying66 rfl rfl (by kernel_rfl) (by kernel_rfl)
  (.cons (Rd.str Proofs.Tryz.underlying9) (fun _=>⟨rfl,rfl⟩) (.cons rdVars (fun _=>⟨rfl,rfl⟩) (.cons rdEvsM (fun _=>⟨rfl,rfl⟩) .nil)))).map (fun (y:ByteArray × List (ByteArray × Int) × List Ev × Unit)=>⟨y.1,y.2.1,y.2.2.1⟩) (fun _=>rfl) (fun _ h=>h.2.2.1)
theorem rdPrsM:Rd enc Proofs.Tryz.prog W 22 1 aPrs (fun l=>l.length≤maxLen∧∀p ∈ l,p.evs.length≤9223372036854775807) :=
 (Rd.slice Proofs.Tryz.underlying22 (by kernel_rfl:Program.cellsOf Proofs.Tryz.prog 66=3) (by decide) rdPrM).map id (fun _=>rfl) (fun _ h=>h)
theorem rdTrM:Rd enc Proofs.Tryz.prog W 24 1 aTr (fun l=>l.length≤maxLen∧∀p ∈ l,p.evs.length≤9223372036854775807) :=
 (Rd.struct (ts:=[22]) Proofs.Tryz.underlying24 rfl rfl (by kernel_rfl) (by kernel_rfl) (.cons rdPrsM (fun _=>⟨rfl,rfl⟩) .nil)).map (fun (y:List Pr × Unit)=>y.1) (fun _=>rfl) (fun _ h=>h.1)
end
end Go.AL
end
section
namespace Go.AL
open Go Go.RowKit
set_option maxRecDepth 100000
section
variable {H:Type} {enc:TypeId × Value→H} {W:World}
theorem rdPredN:∀N,RdF enc Proofs.Tryz.prog W N 59 6 aPd (fun _=>True)
 | 0 => .zero
 | N+1 =>
  (RdF.struct (ts:=[3,3,3,3,9,39]) Proofs.Tryz.underlying59 rfl rfl (by kernel_rfl) (by kernel_rfl)
   (.cons ((Rd.int Proofs.Tryz.underlying3).bounded N) (fun _=>⟨rfl,rfl⟩) (.cons ((Rd.int Proofs.Tryz.underlying3).bounded N) (fun _=>⟨rfl,rfl⟩) (.cons ((Rd.int Proofs.Tryz.underlying3).bounded N) (fun _=>⟨rfl,rfl⟩)
    (.cons ((Rd.int Proofs.Tryz.underlying3).bounded N) (fun _=>⟨rfl,rfl⟩) (.cons ((Rd.str Proofs.Tryz.underlying9).bounded N) (fun _=>⟨rfl,rfl⟩)
     (.cons ((RdF.slice Proofs.Tryz.underlying39 (by kernel_rfl:Program.cellsOf Proofs.Tryz.prog 59=6) (by decide) (rdPredN N)).mono (Nat.le_succ N)) (fun _=>⟨rfl,rfl⟩) .nil))))))).map
   (fun (y:Int × Int × Int × Int × ByteArray × List Pd × Unit)=>Pd.mk y.1 y.2.1 y.2.2.1 y.2.2.2.1 y.2.2.2.2.1 y.2.2.2.2.2.1) (fun _=>(aPd_mk _ _ _ _ _ _).symm) (fun _ _=>trivial)
theorem rdPreds:Rd enc Proofs.Tryz.prog W 39 1 (fun l:List Pd => .sl 6 (l.map aPd)) (fun l=>l.length≤maxLen) :=
 (Rd.slice Proofs.Tryz.underlying39 (by kernel_rfl:Program.cellsOf Proofs.Tryz.prog 59=6) (by decide) (RdF.all rdPredN)).map id (fun _=>rfl) (fun _ h=>h.1)
end
end Go.AL
end
