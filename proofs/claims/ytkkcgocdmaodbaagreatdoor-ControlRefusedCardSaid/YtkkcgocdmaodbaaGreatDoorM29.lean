/- Texts of this claim's proof: WZ12, WRt, WRt7, WRt2, WRt4, WRt6, WRt8. No condition. -/
import Derived.Test.YtkkcgocdmaodbaaGreatDoorM26
import Derived.Test.YtkkcgocdmaodbaaGreatDoorM28
import Derived.Test.YtkkcgocdmaodbaaGreatDoorM10
import Derived.Test.YtkkcgocdmaodbaaGreatDoorM4
import Derived.Test.YtkkcgocdmaodbaaGreatDoorM8
import Derived.Test.YtkkcgocdmaodbaaGreatDoorM27
import Derived.ChangeSame
section
namespace Go.AL
open Go Go.RowKit
set_option maxRecDepth 4000
theorem dj_whE {ps:List Pr} {t:Pd} (hv:validF ps=true) (h5:(cutsF ps).length≤5000) (h:DjOk ps t) (h1:szF t≤200) (h2:dpF t≤20):whE ps t=0:=by
 have hf:formedB t=true:=by
  unfold formedB
  rw[decide_eq_true h1,decide_eq_true h2,h.loc];rfl
 have hc:checkF ps t=0:=by
  have ht:typedB t=true:=h.typ
  unfold checkF
  rw[hv,hf,h.res,ht,h.fit];rfl
 have hr:resF t.kind=2:=by
  have:=h.knd;have:=h.knd2
  unfold resF;split <;> omega
 unfold whE
 rw[if_neg (by rw[hc];decide),if_neg (by rw[hr];decide),if_neg (by rw[h.ntm];decide)]
 exact lst_zero.2 ⟨hv,h5⟩
theorem ref_chk {ps:List Pr} {t:Pd} {r:List Pd} (hC:conF ps (t :: r)=0) {a:Nat→Nat} (ha:TgtS ps (rowsX ps (t :: r)) a) {l:List Syn} (hE:syE ps l=0) :
  chkX l (cutsF ps) ((cutsF ps).map fun c=>truF (cutO ps c fun _ _=>0) (disjR t r))=false:=by
 obtain⟨hv,_,_⟩:=conF_inv hC
 obtain⟨_,hok,h0⟩:=syE_zero hE
 have hW:=(lft_whl (exF_gen ps l)).1 h0
 obtain⟨c,hc,hclo,hb⟩:=ref_hold hv hok hW (rowsX_ok ps (t :: r)) ha
 obtain⟨i,hi,hci⟩:=List.getElem_of_mem ((mem_cutsF hv).2 hc)
 unfold chkX
 rw[List.all_eq_false]
 refine⟨i,List.mem_range.2 hi,?_⟩
 have e1:(cutsF ps).getD i []=c:=by rw[List.getD_eq_getElem?_getD,List.getElem?_eq_getElem hi];exact hci
 have e2:((cutsF ps).map fun c=>truF (cutO ps c fun _ _=>0) (disjR t r)).getD i false=false:=by
  rw[List.getD_eq_getElem?_getD,List.getElem?_map,List.getElem?_eq_getElem hi]
  show truF (cutO ps (cutsF ps)[i] fun _ _=>0) (disjR t r)=false
  rw[hci,disj_bad hC hc,hb];rfl
 have e3:(l.any fun s=>brkB c s)=false:=by
  rw[List.any_eq_false]
  intro s hs
  obtain⟨⟨a1,a2,a3,a4⟩,b1,b2,b3,b4⟩:=hok s hs
  have hg:∀n:Nat,cAt c (n:Nat)=c.getD n 0:=fun n=>by unfold cAt;rw[Int.toNat_natCast]
  unfold brkB
  by_cases h:s.2.2≤cAt c s.2.1.toNat
  ·have hd:s.1 ∈ dirX ps l s.2.1.toNat (s.2.2.toNat - 1):=by
    unfold dirX
    refine List.mem_append_right _ (List.mem_map.2 ⟨s,List.mem_filter.2 ⟨hs,decide_eq_true ?_⟩,rfl⟩)
    obtain⟨_,b,j⟩:=s
    have b1:0≤b:=b1
    have b3:1≤j:=b3
    show (b,j)=(((b.toNat:Nat):Int),((j.toNat - 1:Nat):Int)+1)
    rw[Prod.mk.injEq];omega
   have h2:=hclo s.2.1.toNat (by omega) (s.2.2.toNat - 1) (by omega) (by show ((s.2.2.toNat - 1:Nat):Int)+1≤c.getD s.2.1.toNat 0;rw[← hg];omega) s.1 hd
   have h2:s.1.2≤c.getD s.1.1.toNat 0:=h2
   rw[← hg] at h2
   rw[decide_eq_false (show ¬cAt c s.1.1.toNat<s.1.2 by omega),Bool.and_false];decide
  ·rw[decide_eq_false h,Bool.false_and];decide
 rw[e1,e2,e3];decide
set_option maxHeartbeats 2000000 in
theorem law44_ControlRefused (ps:List Pr) (ts:List Pd) (l:List Syn) (hpl:ps.length≤9223372036854775807) (hev:∀p ∈ ps,p.evs.length≤9223372036854775807) (hll:l.length≤9223372036854775807):PC Proofs.Tryz.prog 4 [aTr ps,.sl 6 (ts.map aPd),aSyns l] (ab true):=by
 have haw:=law44_awake
 have hfw:=law44_few ts
 have hR:aSyns l = .sl 4 (l.map aSyn):=rfl
 have hlm:(l.map aSyn).length=l.length:=List.length_map _
 rw[hR]
 clear hR
 rcases law44_latticeG ps hpl hev with ⟨xs,hla⟩|⟨hs,hv,h250,hla⟩
 ·generalize ts.map aPd=TL at *
  generalize l.map aSyn=SL at *
  refine PC.enter 100 [.tmp 6] [3,13] Proofs.Tryz.func4 rfl rfl rfl rfl rfl (by simp) (AWp.of ?_);simp only[go_sem]
  refine Wk ?_
  refine Sd ?_
  refine(haw).val.use ?_;simp only[go_sem]
  refine Wk ?_
  refine Sd ?_
  refine(hla).val.use ?_;simp only[go_sem]
  refine W1 hlm ?_
  refine GCall.use .any (fun h=>absurd h (by simp)) ?_
  simp only[go_sem]
  refine W1 hlm ?_
  refine ret_eq ?_;simp only[go_sem]
 have haR:aRows (cutsF ps) = .sl 1 ((cutsF ps).map aInts):=rfl
 rw[haR] at hla
 cases hf:fwT ts with
 | false =>
  rw[hf] at hfw
  generalize ts.map aPd=TL at *
  generalize l.map aSyn=SL at *
  generalize (cutsF ps).map aInts=CC at *
  refine PC.enter 100 [.tmp 6] [3,13] Proofs.Tryz.func4 rfl rfl rfl rfl rfl (by simp) (AWp.of ?_);simp only[go_sem]
  refine Wk ?_
  refine Sd ?_
  refine(haw).val.use ?_;simp only[go_sem]
  refine Wk ?_
  refine Sd ?_
  refine(hla).val.use ?_;simp only[go_sem]
  refine W1 hlm ?_
  refine Sd ?_
  refine GCall.use (ab false) (fun _=>⟨At,(hfw).val.use ⟨rfl,rfl⟩⟩) ?_;simp only[go_sem,hlm]
  refine Sd ?_
  refine W1 hlm ?_
  refine ret_eq ?_;simp only[go_sem]
 | true =>
 rw[hf] at hfw
 obtain⟨f1,f2⟩:=fwT_spec hf
 by_cases h40:(40:Int)<l.length
 ·generalize ts.map aPd=TL at *
  generalize l.map aSyn=SL at *
  generalize (cutsF ps).map aInts=CC at *
  refine PC.enter 100 [.tmp 6] [3,13] Proofs.Tryz.func4 rfl rfl rfl rfl rfl (by simp) (AWp.of ?_);simp only[go_sem]
  refine Wk ?_
  refine Sd ?_
  refine(haw).val.use ?_;simp only[go_sem]
  refine Wk ?_
  refine Sd ?_
  refine(hla).val.use ?_;simp only[go_sem]
  refine W2 hlm h40 ?_
  refine Sd ?_
  refine GCall.use (ab true) (fun _=>⟨At,(hfw).val.use ⟨rfl,rfl⟩⟩) ?_;simp only[go_sem,hlm,h40]
  refine Sd ?_
  refine W2 hlm h40 ?_
  refine ret_eq ?_;simp only[go_sem]
 have hz:∀t ∈ ts,szF t≤1000000:=fun t ht=>Nat.le_trans (f2 t ht) (by decide)
 have htl:ts.length≤1000000:=by omega
 have g1:=control_Refuse ps hs ts hz htl
 by_cases hT:conF ps ts=0∧∃t,TgtS ps (rowsX ps ts) t
 ·obtain⟨hC,hT⟩:=hT
  obtain⟨_,hlen,h0⟩:=conF_inv hC
  obtain⟨a,ha⟩:=least_ex (rowsX_ok ps ts) hT
  rw[aRfs_some hC ha] at g1
  have g2:=control_Refused ps hs ts hz htl ((chcL ps.length (rowsX ps ts) a).map stpI) (by rw[List.length_map,chcL_len];have:=hs.procs;omega)
  rw[ref_ok hC ha] at g2
  have eS:aSps ((chcL ps.length (rowsX ps ts) a).map stpI) = .sl 3 ((chcL ps.length (rowsX ps ts) a).map aStp):=by unfold aSps;rw[List.map_map];rfl
  rw[eS] at g2
  clear eS
  have hpos:=(valid_len hv).1
  obtain⟨t0,r,rfl⟩:∃t0 r,ts=t0 :: r:=by
   cases ts with
   | nil=>simp at hlen;omega
   | cons t0 r=>exact⟨t0,r,rfl⟩
  have hdj:DjOk ps (disjR t0 r):=by
   have hd:∀x ∈ t0 :: r,DjOk ps x:=fun x hx=>by
    obtain⟨q,hq,rfl⟩:=List.getElem_of_mem hx
    have h1:=h0 q hq
    refine dj_lcl h1 (loc_kind ?_)
    have:=(checkF_zero (lcl_ok h1).1).2.2.1
    unfold okT at this
    simp only[Bool.and_eq_true] at this
    exact this.1.1
   exact DjOk.all (hd t0 (by simp)) fun x hx=>hd x (List.mem_cons_of_mem _ hx)
  have hzd:szF (disjR t0 r)≤1000000:=by
   have h1:=szF_disjR (m:=300) r t0 fun x hx=>f2 x (List.mem_cons_of_mem _ hx)
   have h2:=f2 t0 (by simp)
   have h3:r.length≤12:=by simp at f1;omega
   have h4:r.length * (300+1)≤12 * 301:=Nat.mul_le_mul_right _ h3
   omega
  have g3:=ref28_Size (disjR t0 r)
  have g4:=ref28_Depth (disjR t0 r) 40 hzd (by decide) (by decide)
  have e3:200<cntF (szF (disjR t0 r)) 200↔¬szF (disjR t0 r)≤200:=by unfold cntF;split <;> omega
  have e4:20<capF (dpF (disjR t0 r)) 40↔¬dpF (disjR t0 r)≤20:=by unfold capF;split <;> omega
  have g5:szF (disjR t0 r)≤200→dpF (disjR t0 r)≤20→∃E:Int,(E=0∨E=2∨E=10)∧PC Proofs.Tryz.prog 20 [aTr ps,aPd (disjR t0 r),.sl 4 (l.map aSyn)] (.tup [ab false,ai E]):=fun h1 h2=>by
   have hE:=dj_whE hv (by omega) hdj h1 h2
   have k1:=evaluate_all ps hs (disjR t0 r) hzd hdj.nch hE
   have k2:(cutsF ps).map (fun c=>ab (truF (cutO ps c fun _ _=>0) (disjR t0 r)))=((cutsF ps).map fun c=>truF (cutO ps c fun _ _=>0) (disjR t0 r)).map ab:=by rw[List.map_map];rfl
   have k3:=evaluate_TableH k1
   rw[k2] at k3
   have k4:=control_CheckH ps hs hv (by omega) (disjR t0 r) _ (by rw[List.length_map]) l (by omega) k3
   have k5:(decide (syE ps l=0) && chkX l (cutsF ps) ((cutsF ps).map fun c=>truF (cutO ps c fun _ _=>0) (disjR t0 r)))=false:=by
    by_cases h:syE ps l=0
    ·rw[ref_chk hC ha.1 h,Bool.and_false]
    ·rw[decide_eq_false h,Bool.false_and]
   rw[k5] at k4
   refine⟨_,?_,k4⟩
   unfold syE
   rw[if_neg (by omega)]
   split
   ·exact .inr (.inl rfl)
   ·split
    ·exact .inl rfl
    ·exact .inr (.inr rfl)
  have hx:=pd_form
  have hcj:∀x y:Pd,aPd (disj2 x y) = .agg [ai 17,ai 0,ai 0,ai 0,astr ByteArray.empty,.sl 6 [aPd x,aPd y]]:=fun x y=>by unfold disj2;rw[aPd_mk];rfl
  have htm:((t0 :: r).map aPd).length=r.length+1:=by simp
  have hg0:((t0 :: r).map aPd).getD 0 .any=aPd t0:=rfl
  have hdr:((t0 :: r).map aPd).drop 1=r.map aPd:=rfl
  generalize (chcL ps.length (rowsX ps (t0 :: r)) a).map aStp=XX at *
  generalize (cutsF ps).map aInts=CC at *
  generalize hTL:(t0 :: r).map aPd=TL at *
  generalize l.map aSyn=SL at *
  obtain⟨a0,a1,a2,a3,a4,a5,ht0⟩:=hx t0
  rw[ht0] at hg0
  refine PC.enter 100 [.tmp 6] [3,13,68] Proofs.Tryz.func4 rfl rfl rfl rfl rfl (by simp) (AWp.of ?_);simp only[go_sem]
  refine Wk ?_
  refine Sd ?_
  refine(haw).val.use ?_;simp only[go_sem]
  refine Wk ?_
  refine Sd ?_
  refine(hla).val.use ?_;simp only[go_sem]
  refine W2 hlm h40 ?_
  refine Sd ?_
  refine GCall.use (ab true) (fun _=>⟨At,(hfw).val.use ⟨rfl,rfl⟩⟩) ?_;simp only[go_sem,hlm,h40]
  refine Sd ?_
  refine W2 hlm h40 ?_
  refine Sd ?_
  refine(g1).val.use ?_;simp only[go_sem]
  refine Wk ?_
  refine Sd ?_
  refine(g2).val.use ?_;simp only[go_sem]
  refine W2 htm hg0 ?_
  intro _
  refine W2 htm hg0 ?_
  intro b11
  have hrl:(r.map aPd).length=r.length:=List.length_map _
  have hmin:(1:Int).toNat=1:=rfl
  have htl1:(TL.length:Int).toNat=r.length+1:=by omega
  have hsub1:r.length+1 - 1=r.length:=by omega
  have hd2:(TL.take (r.length+1)).drop 1=r.map aPd:=by rw[List.take_of_length_le (by omega),hdr]
  refine W5 htm hdr hrl hd2 hsub1 ?_
  rw[← ht0]
  refine AWp.range' r.length [] [2,3,11,60,61] (fun k vs L=>vs=[]∧L=[(b11,.row 37 6 [aPd (disjR t0 (r.take k))] 1)]) (by simp at f1;omega) rfl rfl rfl ⟨rfl,rfl⟩ ?_ ?_
  ·rintro k vs L hk - ⟨rfl,rfl⟩
   have hg:=getD_map (f:=aPd) hk
   have hst:disjR t0 (r.take (k+1))=disj2 (disjR t0 (r.take k)) r[k]:=by
    unfold disjR
    rw[List.take_succ_eq_append_getElem hk,List.foldl_append];rfl
   rw[hst,hcj]
   clear hst
   generalize disjR t0 (r.take k)=X at *
   generalize r[k]=Y at *
   obtain⟨x0,x1,x2,x3,x4,x5,hX⟩:=hx X
   obtain⟨y0,y1,y2,y3,y4,y5,hY⟩:=hx Y
   rw[hY] at hg
   rw[hX,hY]
   simp only[go_sem]
   refine W1 hg ?_
   intros
   refine W1 hg ?_
   exact⟨_,List.Sublist.refl _,rfl⟩
  ·rintro vs L - ⟨rfl,rfl⟩
   rw[List.take_length]
   obtain⟨x0,x1,x2,x3,x4,x5,hX⟩:=hx (disjR t0 r)
   rw[hX] at g3 g4 g5 ⊢
   generalize cntF (szF (disjR t0 r)) 200=N at *
   generalize capF (dpF (disjR t0 r)) 40=D at *
   simp only[go_sem]
   refine Wk ?_
   refine Sd ?_
   refine(g3).val.use ?_;simp only[go_sem]
   by_cases hN:200<N
   ·refine GCall.use .any (fun h=>absurd h (by simp [hN])) ?_
    simp only[go_sem,hN]
    refine Sd ?_
    refine W1 hN ?_
    refine ret_eq ?_;simp only[go_sem]
   ·refine Sd ?_
    refine GCall.use (ai D) (fun _=>⟨At,(g4).val.use ⟨rfl,rfl⟩⟩) ?_;simp only[go_sem,hN]
    refine Sd ?_
    by_cases hD:20<D
    ·refine W2 hN hD ?_
     refine ret_eq ?_;simp only[go_sem]
    ·obtain⟨E,hE,hck⟩:=g5 (Classical.not_not.1 fun h=>hN (e3.2 h)) (Classical.not_not.1 fun h=>hD (e4.2 h))
     refine W2 hN hD ?_
     refine Sd ?_
     refine(hck).val.use ?_;simp only[go_sem]
     rcases hE with rfl|rfl|rfl
     ·refine Wk ?_
      refine ret_eq ?_;simp only[go_sem]
     ·refine Wk ?_
      refine ret_eq ?_;simp only[go_sem]
     ·refine Wk ?_
      refine ret_eq ?_;simp only[go_sem]
      simp
 ·have g2:∃c:Int,c ≠ 0∧aRfs ps ts = .tup [.sl 3 [],ai c]:=by
   by_cases hC:conF ps ts=0
   ·exact⟨7,by decide,aRfs_none hC fun h=>hT ⟨hC,h⟩⟩
   ·exact⟨_,hC,by unfold aRfs;rw[if_neg hC]⟩
  obtain⟨c,hc,e⟩:=g2
  rw[e] at g1
  generalize ts.map aPd=TL at *
  generalize l.map aSyn=SL at *
  generalize (cutsF ps).map aInts=CC at *
  refine PC.enter 100 [.tmp 6] [3,13] Proofs.Tryz.func4 rfl rfl rfl rfl rfl (by simp) (AWp.of ?_);simp only[go_sem]
  refine Wk ?_
  refine Sd ?_
  refine(haw).val.use ?_;simp only[go_sem]
  refine Wk ?_
  refine Sd ?_
  refine(hla).val.use ?_;simp only[go_sem]
  refine W2 hlm h40 ?_
  refine Sd ?_
  refine GCall.use (ab true) (fun _=>⟨At,(hfw).val.use ⟨rfl,rfl⟩⟩) ?_;simp only[go_sem,hlm,h40]
  refine Sd ?_
  refine W2 hlm h40 ?_
  refine Sd ?_
  refine(g1).val.use ?_;simp only[go_sem]
  refine W1 hc ?_
  refine ret_eq ?_;simp only[go_sem]
  all_goals rfl
end Go.AL
end
section
namespace Go.AL
open Go Go.RowKit
set_option maxRecDepth 100000
section
variable {H:Type} {enc:TypeId × Value→H} {W:World}
theorem rdAsg:Rd enc Proofs.Tryz.prog W 184 2 aAsg (fun _=>True) :=
 (Rd.struct (ts:=[3,3]) Proofs.Tryz.underlying184 rfl rfl (by kernel_rfl) (by kernel_rfl)
  (.cons (Rd.int Proofs.Tryz.underlying3) (fun _=>⟨rfl,rfl⟩) (.cons (Rd.int Proofs.Tryz.underlying3) (fun _=>⟨rfl,rfl⟩) .nil))).map (fun (y:Int × Int × Unit)=>(y.1,y.2.1)) (fun _=>rfl) (fun _ _=>trivial)
theorem rdAsgs:Rd enc Proofs.Tryz.prog W 63 1 aAsgs (fun _=>True) :=
 (Rd.slice Proofs.Tryz.underlying63 (by kernel_rfl:Program.cellsOf Proofs.Tryz.prog 184=2) (by decide) rdAsg).map id (fun _=>rfl) (fun _ _=>trivial)
theorem rdVar:Rd enc Proofs.Tryz.prog W 181 2 aVar (fun _=>True) :=
 (Rd.struct (ts:=[9,3]) Proofs.Tryz.underlying181 rfl rfl (by kernel_rfl) (by kernel_rfl)
  (.cons (Rd.str Proofs.Tryz.underlying9) (fun _=>⟨rfl,rfl⟩) (.cons (Rd.int Proofs.Tryz.underlying3) (fun _=>⟨rfl,rfl⟩) .nil))).map (fun (y:ByteArray × Int × Unit)=>(y.1,y.2.1)) (fun _=>rfl) (fun _ _=>trivial)
theorem rdVars:Rd enc Proofs.Tryz.prog W 67 1 aVars (fun _=>True) :=
 (Rd.slice Proofs.Tryz.underlying67 (by kernel_rfl:Program.cellsOf Proofs.Tryz.prog 181=2) (by decide) rdVar).map id (fun _=>rfl) (fun _ _=>trivial)
theorem rdEv:Rd enc Proofs.Tryz.prog W 65 5 aEv (fun _=>True) :=
 (Rd.struct (ts:=[3,3,3,3,63]) Proofs.Tryz.underlying65 rfl rfl (by kernel_rfl) (by kernel_rfl)
  (.cons (Rd.int Proofs.Tryz.underlying3) (fun _=>⟨rfl,rfl⟩) (.cons (Rd.int Proofs.Tryz.underlying3) (fun _=>⟨rfl,rfl⟩) (.cons (Rd.int Proofs.Tryz.underlying3) (fun _=>⟨rfl,rfl⟩)
   (.cons (Rd.int Proofs.Tryz.underlying3) (fun _=>⟨rfl,rfl⟩) (.cons rdAsgs (fun _=>⟨rfl,rfl⟩) .nil)))))).map (fun (y:Int × Int × Int × Int × List (Int × Int) × Unit)=>⟨y.1,y.2.1,y.2.2.1,y.2.2.2.1,y.2.2.2.2.1⟩) (fun _=>rfl) (fun _ _=>trivial)
end
end Go.AL
end
section
namespace Go.AL
open Go Go.RowKit
set_option maxRecDepth 100000
section
variable {H:Type} {enc:TypeId × Value→H} {W:World}
theorem rdEvsM:Rd enc Proofs.Tryz.prog W 66 1 aEvs (fun l=>l.length≤maxLen) :=
 (Rd.slice Proofs.Tryz.underlying66 (by kernel_rfl:Program.cellsOf Proofs.Tryz.prog 65=5) (by decide) rdEv).map id (fun _=>rfl) (fun _ h=>h.1)
theorem rdPrM:Rd enc Proofs.Tryz.prog W 69 3 aPr (fun p=>p.evs.length≤maxLen) :=
 (Rd.struct (ts:=[9,67,66]) Proofs.Tryz.underlying69 rfl rfl (by kernel_rfl) (by kernel_rfl)
  (.cons (Rd.str Proofs.Tryz.underlying9) (fun _=>⟨rfl,rfl⟩) (.cons rdVars (fun _=>⟨rfl,rfl⟩) (.cons rdEvsM (fun _=>⟨rfl,rfl⟩) .nil)))).map (fun (y:ByteArray × List (ByteArray × Int) × List Ev × Unit)=>⟨y.1,y.2.1,y.2.2.1⟩) (fun _=>rfl) (fun _ h=>h.2.2.1)
theorem rdPrsM:Rd enc Proofs.Tryz.prog W 22 1 aPrs (fun l=>l.length≤maxLen∧∀p ∈ l,p.evs.length≤9223372036854775807) :=
 (Rd.slice Proofs.Tryz.underlying22 (by kernel_rfl:Program.cellsOf Proofs.Tryz.prog 69=3) (by decide) rdPrM).map id (fun _=>rfl) (fun _ h=>h)
theorem rdTrM:Rd enc Proofs.Tryz.prog W 24 1 aTr (fun l=>l.length≤maxLen∧∀p ∈ l,p.evs.length≤9223372036854775807) :=
 (Rd.struct (ts:=[22]) Proofs.Tryz.underlying24 rfl rfl (by kernel_rfl) (by kernel_rfl) (.cons rdPrsM (fun _=>⟨rfl,rfl⟩) .nil)).map (fun (y:List Pr × Unit)=>y.1) (fun _=>rfl) (fun _ h=>h.1)
end
end Go.AL
end
section
namespace Go.AL
open Go Go.RowKit
set_option maxRecDepth 100000
section
variable {H:Type} {enc:TypeId × Value→H} {W:World}
theorem rdPredN:∀N,RdF enc Proofs.Tryz.prog W N 37 6 aPd (fun _=>True)
 | 0 => .zero
 | N+1 =>
  (RdF.struct (ts:=[3,3,3,3,9,25]) Proofs.Tryz.underlying37 rfl rfl (by kernel_rfl) (by kernel_rfl)
   (.cons ((Rd.int Proofs.Tryz.underlying3).bounded N) (fun _=>⟨rfl,rfl⟩) (.cons ((Rd.int Proofs.Tryz.underlying3).bounded N) (fun _=>⟨rfl,rfl⟩) (.cons ((Rd.int Proofs.Tryz.underlying3).bounded N) (fun _=>⟨rfl,rfl⟩)
    (.cons ((Rd.int Proofs.Tryz.underlying3).bounded N) (fun _=>⟨rfl,rfl⟩) (.cons ((Rd.str Proofs.Tryz.underlying9).bounded N) (fun _=>⟨rfl,rfl⟩)
     (.cons ((RdF.slice Proofs.Tryz.underlying25 (by kernel_rfl:Program.cellsOf Proofs.Tryz.prog 37=6) (by decide) (rdPredN N)).mono (Nat.le_succ N)) (fun _=>⟨rfl,rfl⟩) .nil))))))).map
   (fun (y:Int × Int × Int × Int × ByteArray × List Pd × Unit)=>Pd.mk y.1 y.2.1 y.2.2.1 y.2.2.2.1 y.2.2.2.2.1 y.2.2.2.2.2.1) (fun _=>(aPd_mk _ _ _ _ _ _).symm) (fun _ _=>trivial)
theorem rdPreds:Rd enc Proofs.Tryz.prog W 25 1 (fun l:List Pd => .sl 6 (l.map aPd)) (fun l=>l.length≤maxLen) :=
 (Rd.slice Proofs.Tryz.underlying25 (by kernel_rfl:Program.cellsOf Proofs.Tryz.prog 37=6) (by decide) (RdF.all rdPredN)).map id (fun _=>rfl) (fun _ h=>h.1)
end
end Go.AL
end
section
namespace Go.AL
open Go Go.RowKit
set_option maxRecDepth 100000
section
variable {H:Type} {enc:TypeId × Value→H} {W:World}
end
end Go.AL
end
section
namespace Go.AL
open Go Go.RowKit
set_option maxRecDepth 100000
section
variable {H:Type} {enc:TypeId × Value→H} {W:World}
theorem rdEid:Rd enc Proofs.Tryz.prog W 72 2 aEid (fun _=>True) :=
 (Rd.struct (ts:=[3,3]) Proofs.Tryz.underlying72 rfl rfl (by kernel_rfl) (by kernel_rfl)
  (.cons (Rd.int Proofs.Tryz.underlying3) (fun _=>⟨rfl,rfl⟩) (.cons (Rd.int Proofs.Tryz.underlying3) (fun _=>⟨rfl,rfl⟩) .nil))).map (fun (y:Int × Int × Unit)=>(y.1,y.2.1)) (fun _=>rfl) (fun _ _=>trivial)
end
end Go.AL
end
section
namespace Go.AL
open Go Go.RowKit
set_option maxRecDepth 100000
section
variable {H:Type} {enc:TypeId × Value→H} {W:World}
theorem rd_two {P:Program} {t t1 t2:TypeId} {f0 f1:Field} {k1 k2:Nat} {α β:Type} {F1:α→List AV} {F2:β→List AV} {ok1:α→Prop} {ok2:β→Prop} (ht:P.underlying t=some (.struct #[f0,f1])) (h1t:f0.type=t1) (h2t:f1.type=t2)
  (o1:f0.offset=0) (o2:f1.offset=k1) (c1:P.cellsOf t1=k1) (c2:P.cellsOf t2=k2) (c:P.cellsOf t=k1+k2) (h1:Rd enc P W t1 k1 (fun y => .agg (F1 y)) ok1) (h2:Rd enc P W t2 k2 (fun y => .agg (F2 y)) ok2) :
  Rd enc P W t (k1+k2) (fun y:α × β => .agg (F1 y.1 ++ F2 y.2)) (fun y=>ok1 y.1∧ok2 y.2):=by
 intro fuel cs x hx
 obtain⟨xs,n,_,_,hl,hlen,hf⟩:=DataW.trod_struct ht hx
 have g1:=hf 0 f0 rfl
 have g2:=hf 1 f1 rfl
 rw[h1t,o1,c1,List.drop_zero] at g1
 rw[h2t,o2,c2] at g2
 have hx0:∃x0 x1,xs=[x0,x1]:=by
  match xs,hlen with
  | [x0,x1],_=>exact⟨x0,x1,rfl⟩
 obtain⟨x0,x1,rfl⟩:=hx0
 obtain⟨a,a1,a2,a3,a4⟩:=h1 _ _ _ g1
 obtain⟨b,b1,b2,b3,b4⟩:=h2 _ _ _ g2
 have al:(F1 a).length=k1:=a2.1
 have bl:(F2 b).length=k2:=b2.1
 have ao:(F1 a).all one=true:=a2.2
 have bo:(F2 b).all one=true:=b2.2
 have a4:∀(i:Nat) c u,(F1 a)[i]?=some c→(cs.take k1)[i]?=some u→Rel W (fun b=>b<W.heap.size) c u:=a4
 have b4:∀(i:Nat) c u,(F2 b)[i]?=some c→((cs.drop k1).take k2)[i]?=some u→Rel W (fun b=>b<W.heap.size) c u:=b4
 refine⟨(a,b),⟨a1,b1⟩,⟨?_,?_⟩,by omega,fun i cc u hc hu => ?_⟩
 ·show (F1 a ++ F2 b).length=_
  rw[List.length_append];omega
 ·show (F1 a ++ F2 b).all one=true
  rw[List.all_append,ao,bo];rfl
 ·have hc:(F1 a ++ F2 b)[i]?=some cc:=hc
  by_cases hi:i<k1
  ·refine a4 i cc u ?_ ?_
   ·rwa [List.getElem?_append_left (by omega)] at hc
   ·rw[List.getElem?_take,if_pos hi];exact hu
  ·rw[List.getElem?_append_right (by omega)] at hc
   refine b4 (i - k1) cc u (by rw[← al];exact hc) ?_
   have hi2:i - (F1 a).length<(F2 b).length:=(List.getElem?_eq_some_iff.1 hc).1
   rw[List.getElem?_take,if_pos (by omega),List.getElem?_drop,show k1+(i - k1)=i by omega];exact hu
theorem rdSyn:Rd enc Proofs.Tryz.prog W 77 4 aSyn (fun _=>True) :=
 (rd_two (t1:=72) (t2:=72) Proofs.Tryz.underlying77 rfl rfl rfl rfl (by kernel_rfl) (by kernel_rfl) (by kernel_rfl) (F1:=fun x:Eid=>[ai x.1,ai x.2]) (F2:=fun x:Eid=>[ai x.1,ai x.2]) rdEid rdEid).map (fun y:Eid × Eid=>y) (fun _=>rfl) (fun _ _=>trivial)
theorem rdSyns:Rd enc Proofs.Tryz.prog W 31 1 aSyns (fun l=>l.length≤maxLen) :=
 (Rd.slice Proofs.Tryz.underlying31 (by kernel_rfl:Program.cellsOf Proofs.Tryz.prog 77=4) (by decide) rdSyn).map id (fun _=>rfl) (fun _ h=>h.1)
end
end Go.AL
end
