/- Texts of this claim's proof: WY41, WRt, WRt7, WRt2. No condition. -/
import Derived.Test.YtkkcgocdmaodbaaGreatDoorM23
import Derived.Test.YtkkcgocdmaodbaaGreatDoorM9
import Derived.Test.YtkkcgocdmaodbaaGreatDoorM4
import Derived.Test.YtkkcgocdmaodbaaGreatDoorM10
import Derived.Test.YtkkcgocdmaodbaaGreatDoorM7
section
namespace Go.AL
open Go Go.RowKit
set_option maxRecDepth 4000
theorem law44_runs1 (x d:List Int) (hx:x.length≤1000000):PC Proofs.Tryz.prog 14 [aInts x,.rp 1 [aInts d] 0 0] (ab (decide (x=d))):=by
 have h1:=ints_equal x d hx
 refine PC.enter 7 [.tmp 3] [] Proofs.Tryz.func14 rfl rfl rfl rfl rfl (by simp) (AWp.of ?_);simp only[go_sem]
 refine Wk ?_
 refine Sd ?_
 refine(h1).val.use ?_;simp only[go_sem]
 refine Wk ?_
 refine ret_eq ?_;simp only[go_sem]
noncomputable def trhL (ps:List Pr) (ts:List Pd) (p:Nat):List AV:=(List.range (nev ps p+1)).map fun k=>ab (!badX ps ts p k)
theorem truths_ok {ps:List Pr} (hs:Sm ps) {ts:List Pd} (hz:∀t ∈ ts,szF t≤1000000) (hC:conF ps ts=0) {p:Nat} (hp:p<ts.length):PC Proofs.Tryz.prog 10 [aTr ps,ai p,aPd ts[p]] (.tup [.sl 1 (trhL ps ts p),ai 0]):=by
 obtain⟨hv,hlen,h0⟩:=conF_inv hC
 have h1:=evaluate_Truths ps hs p ts[p] (hz _ (List.getElem_mem hp))
 unfold aTruths at h1
 rw[if_pos (h0 p hp),Int.toNat_natCast,truthsF_nat (by omega),List.map_map] at h1
 have:(List.range (ps[p].evs.length+1)).map (ab ∘ fun (k:Nat)=>lclT ps p ts[p] k)=trhL ps ts p:=by
  unfold trhL
  rw[nev_get (by omega)]
  exact List.map_congr_left fun k _=>by rw[badX_get hp,Bool.not_not];rfl
 rwa [this] at h1
set_option maxHeartbeats 4000000 in
theorem law44_ControlRuns (ps:List Pr) (ts:List Pd) (hpl:ps.length≤9223372036854775807) (hev:∀p ∈ ps,p.evs.length≤9223372036854775807):PC Proofs.Tryz.prog 3 [aTr ps,.sl 6 (ts.map aPd)] (ab true):=by
 have haw:=law44_awake
 have hfw:=law44_few ts
 rcases law44_latticeG ps hpl hev with ⟨xs,hla⟩|⟨hs,hv,h250,hla⟩
 ·generalize ts.map aPd=TL at *
  refine PC.enter 198 [.tmp 4] [2,11,25,74,162] Proofs.Tryz.func3 rfl rfl rfl rfl rfl (by simp) (AWp.of ?_);simp only[go_sem]
  refine Wk ?_
  refine Sd ?_
  refine(haw).val.use ?_;simp only[go_sem]
  refine Wk ?_
  refine Sd ?_
  refine(hla).val.use ?_;simp only[go_sem]
  refine Wk ?_
  refine GCall.use .any (fun h=>absurd h (by simp)) ?_
  simp only[go_sem]
  refine Wk ?_
  refine ret_eq ?_;simp only[go_sem]
 have haR:aRows (cutsF ps) = .sl 1 ((cutsF ps).map aInts):=rfl
 rw[haR] at hla
 cases hf:fwT ts with
 | false =>
  rw[hf] at hfw
  generalize ts.map aPd=TL at *
  generalize (cutsF ps).map aInts=CC at *
  refine PC.enter 198 [.tmp 4] [2,11,25,74,162] Proofs.Tryz.func3 rfl rfl rfl rfl rfl (by simp) (AWp.of ?_);simp only[go_sem]
  refine Wk ?_
  refine Sd ?_
  refine(haw).val.use ?_;simp only[go_sem]
  refine Wk ?_
  refine Sd ?_
  refine(hla).val.use ?_;simp only[go_sem]
  refine Wk ?_
  refine Sd ?_
  refine Gc hfw ?_
  refine Sd ?_
  refine Wk ?_
  refine ret_eq ?_;simp only[go_sem]
 | true =>
 rw[hf] at hfw
 obtain⟨f1,f2⟩:=fwT_spec hf
 have hz:∀t ∈ ts,szF t≤1000000:=fun t ht=>Nat.le_trans (f2 t ht) (by decide)
 have htl:ts.length≤1000000:=by omega
 have g1:=control_Control ps hs ts hz htl
 have h7:=conF_ne7 ps ts
 have hps:=hs.procs
 have htm:(ts.map aPd).length=ts.length:=List.length_map _
 have hgT:∀k (h:k<ts.length),(ts.map aPd).getD k .any=aPd ts[k]:=fun k h=>getD_map h
 have hcm:((cutsF ps).map aInts).length=(cutsF ps).length:=List.length_map _
 have hgC:∀k (h:k<(cutsF ps).length),((cutsF ps).map aInts).getD k .any = .sl 1 ((cutsF ps)[k].map ai):=fun k h=>getD_map h
 have hcl:=cuts_List ps hs
 have hL0:lstE ps=0:=lst_zero.2 ⟨hv,by omega⟩
 have haL:aLst ps = .tup [.sl 1 ((cutsF ps).map aInts),ai 0]:=by unfold aLst lstF;rw[if_pos hL0,hL0];rfl
 rw[haL] at hcl
 clear haL hL0 haR
 generalize hTL:ts.map aPd=TL at *
 generalize hCC:(cutsF ps).map aInts=CC at *
 refine PC.enter 198 [.tmp 4] [2,11,25,74,162] Proofs.Tryz.func3 rfl rfl rfl rfl rfl (by simp) (AWp.of ?_);simp only[go_sem]
 refine Wk ?_
 refine Sd ?_
 refine(haw).val.use ?_;simp only[go_sem]
 refine Wk ?_
 refine Sd ?_
 refine(hla).val.use ?_;simp only[go_sem]
 refine Wk ?_
 refine Sd ?_
 refine Gc hfw ?_
 refine Sd ?_
 refine Wk ?_
 refine g1.val.mono ?_
 rintro r L ⟨rfl,hr⟩
 rcases ctl_runs hr with ⟨hC,rfl⟩|⟨hC,l,e,rfl,hll,he,hE,hL⟩
 ·simp only[go_sem]
  refine W2 hC h7 ?_
  refine ret_eq ?_;simp only[go_sem]
  all_goals rfl
 have hlm:(l.map aSyn).length=l.length:=List.length_map _
 obtain⟨_,hlen,h0⟩:=conF_inv hC
 have htr:=fun p (hp:p<ts.length)=>truths_ok hs hz hC hp
 obtain⟨SL,hSL⟩:∃SL,l.map aSyn=SL:=⟨_,rfl⟩
 rw[hSL] at hlm ⊢
 simp only[go_sem]
 refine Wk ?_
 intro h
 refine W1 htm ?_
 refine AWp.range' ts.length [9] [2,7,8,56,57] (fun p vs L=>∃v,vs=[v]∧AppSt 38 1 ((List.range p).map fun p => .sl 1 (trhL ps ts p)) v L) (by omega) rfl rfl rfl ⟨anil,rfl,.nil⟩ ?_ ?_
 ·rintro p vs L hp - ⟨v,rfl,hA⟩
  have hg:=hgT p hp
  have h2:=htr p hp
  have hfo:=hA.fo
  have hys:((List.range (p+1)).map fun p=>AV.sl 1 (trhL ps ts p))=((List.range p).map fun p=>AV.sl 1 (trhL ps ts p)) ++ [.sl 1 (trhL ps ts p)]:=by rw[List.range_succ,List.map_append];rfl
  have hyl:((List.range p).map fun p=>AV.sl 1 (trhL ps ts p)).length=p:=by simp
  rw[hys]
  clear hys hcl hgC hCC hTL hgT htr
  generalize (List.range p).map (fun p=>AV.sl 1 (trhL ps ts p))=ys at *
  generalize trhL ps ts p=row at *
  generalize ts[p]=t at *
  obtain⟨k0,n,pp,q,s,tl⟩:=t
  simp only[aPd_mk] at hg h2
  rcases hA.inv with ⟨e1,rfl,rfl⟩|⟨bq,cq,rfl,rfl⟩
  ·simp only[go_sem]
   refine W1 hg ?_
   intros
   refine W1 hg ?_
   refine Sd ?_
   refine(h2).val.use ?_;simp only[go_sem]
   refine Wk ?_
   intro b' cap' g8
   exact⟨_,List.Sublist.refl _,_,rfl,by rw[e1];exact .row _ _ _⟩
  ·simp only[go_sem]
   refine W1 hg ?_
   intros
   refine W1 hg ?_
   refine Sd ?_
   refine(h2).val.use ?_;simp only[go_sem]
   refine Wk ?_
   refine Sd ?_
   intro b' cap' g8
   exact⟨_,List.Sublist.refl _,_,rfl,AppSt.snoc _ _ _ rfl⟩
 rintro vs L - ⟨v,rfl,hA⟩
 rw[hlen] at hA
 refine AWp.viewA (L:=[]) (j:=9) hA rfl ?_
 have hTL2:((List.range ps.length).map fun p=>AV.sl 1 (trhL ps ts p)).length=ps.length:=by simp
 have hTg:∀p,p<ps.length→((List.range ps.length).map fun p=>AV.sl 1 (trhL ps ts p)).getD p .any = .sl 1 (trhL ps ts p):=fun p hp=>map_range_getD hp _
 generalize (List.range ps.length).map (fun p=>AV.sl 1 (trhL ps ts p))=TT at *
 simp only[go_sem]
 refine Wk ?_
 refine Sd ?_
 refine(hcl).val.use ?_;simp only[go_sem]
 refine W2 hTL2 hcm ?_
 have hbad:∀c,bdA ps (badX ps ts) c = !((List.range ps.length).any fun p => !badX ps ts p (cAt c p).toNat):=fun c=>by
  unfold bdA
  rw[List.not_any_eq_all_not]
  simp
 have hre:=fun i (hi:i<(cutsF ps).length)=>fwd_reach (bad:=bdA ps (badX ps ts)) hv hi
 have hos:=fun i (hi:i<(cutsF ps).length)=>opn_succ (ps:=ps) (bad:=bdA ps (badX ps ts)) hi
 have hos1:=fun c=>opn_yes (ps:=ps) (bad:=bdA ps (badX ps ts)) (c:=c)
 have hos2:=fun c=>opn_no (ps:=ps) (bad:=bdA ps (badX ps ts)) (c:=c)
 have hfb:=fun c=>fwd_bad (ps:=ps) (bad:=bdA ps (badX ps ts)) (c:=c)
 have hend:=opn_end (ps:=ps) (bad:=bdA ps (badX ps ts)) hv
 have hcis:=fun i (hi:i<(cutsF ps).length)=>(mem_cutsF hv).1 (List.getElem_mem hi)
 have hola:∀i,(opnL ps (bdA ps (badX ps ts)) ((cutsF ps).take i)).length≤250:=fun i=>by
  unfold opnL
  have h1:=List.length_filter_le (fun c => @decide _ (Classical.propDecidable (FwdX ps (bdA ps (badX ps ts)) c))) ((cutsF ps).take i)
  rw[List.length_take] at h1
  exact Nat.le_trans h1 (by omega)
 have hok0:opnL ps (bdA ps (badX ps ts)) ((cutsF ps).take 0)=[]:=rfl
 refine Wk ?_
 refine AWp.range' (cutsF ps).length [16,17] [7,8,9,14,92,93] (fun i vs L=>∃v,vs=[v,ab (((cutsF ps).take i).all fun c => !bdA ps (badX ps ts) c)]∧AppSt 43 1 ((opnL ps (bdA ps (badX ps ts)) ((cutsF ps).take i)).map aInts) v L) (by omega) rfl rfl rfl ⟨anil,rfl,.nil⟩ ?_ ?_
 ·rintro i vs L hi - ⟨v,rfl,hA⟩
  have hg:=hgC i hi
  have hc:=hcis i hi
  have hrei:=hre i hi
  have hosi:=hos i hi
  have hol:=hola i
  have hO1:∀x ∈ opnL ps (bdA ps (badX ps ts)) ((cutsF ps).take i),x.length≤1000000:=fun x hx=>by
   rw[(isF_iff.1 (fwd_is (mem_opn.1 hx).2)).1];exact hps
  have hnn:((cutsF ps).take (i+1)).all (fun c => !bdA ps (badX ps ts) c)=(((cutsF ps).take i).all (fun c => !bdA ps (badX ps ts) c) && !bdA ps (badX ps ts) (cutsF ps)[i]):=by
   rw[List.take_succ_eq_append_getElem hi,List.all_append];simp
  clear hre hos hola hcis hend hgC
  rw[hnn,hosi]
  clear hnn hosi
  generalize (cutsF ps)[i]=c at *
  generalize opnL ps (bdA ps (badX ps ts)) ((cutsF ps).take i)=O at *
  generalize ((cutsF ps).take i).all (fun c => !bdA ps (badX ps ts) c)=nn at *
  have hcln:c.length=ps.length:=(isF_iff.1 hc).1
  have hcml:(c.map ai).length=ps.length:=by rw[List.length_map,hcln]
  have hcr:=fun p (hp:p<ps.length)=>cut_at hc hp
  have hcg:∀p,p<ps.length→(c.map ai).getD p .any=ai (cAt c p):=fun p hp=>by rw[getD_map (by omega),cAt_nat (by omega)]
  have hbc:=hbad c
  have hfo:=hA.fo
  have hOl:(O.map aInts).length=O.length:=List.length_map _
  simp only[go_sem]
  refine W4 hg hcml hTL2 hfo ?_
  refine AWp.range' ps.length [20] [7,8,9,14,16,17,18,19,92,93,94,104,105] (fun p vs L'=>vs=[ab ((List.range p).any fun q => !badX ps ts q (cAt c q).toNat)]∧L=L') (by omega) rfl rfl rfl ⟨rfl,rfl⟩ ?_ ?_
  ·rintro p vs L' hp - ⟨rfl,rfl⟩
   have hz:=hcr p hp
   have hgp:=hcg p hp
   have hTp:=hTg p hp
   have htl:(trhL ps ts p).length=nev ps p+1:=by simp [trhL]
   have htg:(trhL ps ts p).getD (cAt c p).toNat .any=ab (!badX ps ts p (cAt c p).toNat):=map_range_getD (by omega) _
   have hs:((List.range (p+1)).any fun q => !badX ps ts q (cAt c q).toNat)=(((List.range p).any fun q => !badX ps ts q (cAt c q).toNat) || !badX ps ts p (cAt c p).toNat):=by
    rw[List.range_succ,List.any_append];simp
   rw[hs]
   generalize ((List.range p).any fun q => !badX ps ts q (cAt c q).toNat)=x at *
   generalize (!badX ps ts p (cAt c p).toNat)=y at *
   generalize trhL ps ts p=row at *
   generalize cAt c p=z at *
   have hz0:0≤z:=hz.1
   have hz1:z<(row.length:Int):=by omega
   cases x with
   | true =>
    simp only[go_sem]
    refine W3 hgp hTp htg ?_
    exact⟨_,List.Sublist.refl _,rfl,rfl⟩
   | false =>
    simp only[go_sem]
    refine W5 hgp hTp htg hz0 hz1 ?_
    exact⟨_,List.Sublist.refl _,rfl,rfl⟩
  rintro vs L' - ⟨rfl,rfl⟩
  have hx:((List.range ps.length).any fun q => !badX ps ts q (cAt c q).toNat) = !bdA ps (badX ps ts) c:=by rw[hbc,Bool.not_not]
  rw[hx]
  cases hB:bdA ps (badX ps ts) c with
  | true =>
   have hno:¬FwdX ps (bdA ps (badX ps ts)) c:=fun h=>by rw[hfb c h] at hB;cases hB
   rw[hos2 c hno,List.append_nil]
   simp only[go_sem]
   refine W1 hfo ?_
   exact⟨_,List.Sublist.refl _,_,by first|rfl|(rw[Bool.not_true,Bool.and_false];rfl),hA⟩
  | false =>
  have hrei:=hrei hB
  obtain⟨z0,hz0⟩:∃b:Bool,decide ((i:Int)=0)=b:=⟨_,rfl⟩
  simp only[go_sem]
  refine W3 hcml hfo hz0 ?_
  refine AWp.range' ps.length [23] [7,8,9,14,16,17,19,92,93,94,140] (fun p vs L'=>vs=[ab (z0 || (List.range p).any fun q=>O.any fun x=>decide (x=preC c q))]∧L=L') (by omega) rfl rfl rfl ⟨by simp only[List.range_zero,List.any_nil,Bool.or_false];rfl,rfl⟩ ?_ ?_
  ·rintro p vs L' hp - ⟨rfl,rfl⟩
   have hgp:=hcg p hp
   have hz:=hcr p hp
   have hzn:nev ps p≤1000000:=by rw[nev_get hp];exact hs.evs _ (List.getElem_mem hp)
   have hst:(c.map ai).set p (ai (cAt c p - 1))=(preC c p).map ai:=by rw[← List.map_set];rfl
   have hpl2:((preC c p).map ai).length=ps.length:=by rw[List.length_map];unfold preC;rw[List.length_set,hcln]
   have hs:((List.range (p+1)).any fun q=>O.any fun x=>decide (x=preC c q))=(((List.range p).any fun q=>O.any fun x=>decide (x=preC c q)) || O.any fun x=>decide (x=preC c p)):=by
    rw[List.range_succ,List.any_append];simp
   have hcf:PC Proofs.Tryz.prog 13 [.sl 1 (O.map aInts),.clo 14 [.rp 1 [.sl 1 ((preC c p).map ai)] 0 0]] (ab (O.any fun x=>decide (x=preC c p))) :=
    rows_containsFunc O (by omega) _ rfl (fun x=>decide (x=preC c p)) fun x hx=>(law44_runs1 x (preC c p) (hO1 x hx)).clo
   rw[hs,← Bool.or_assoc]
   generalize (z0 || (List.range p).any fun q=>O.any fun x=>decide (x=preC c q))=rr at *
   generalize (O.any fun x=>decide (x=preC c p))=S at *
   simp only[go_sem]
   refine W1 hfo ?_
   refine(MVal.frame (Lm:=[]) (Lr:=L) (ints_cloneO c (by omega)).val).mono ?_
   rintro r L2 ⟨L1,rfl,hB2⟩
   rcases hB2.inv with ⟨e1,_,_⟩|⟨bo,capo,rfl,rfl⟩
   ·have:c.length=0:=by simpa using congrArg List.length e1
    omega
   simp only[go_sem,List.cons_append,List.nil_append]
   refine W1 hfo ?_
   intros
   refine Sd ?_
   refine AWp.of ?_;simp only[go_sem,hgp,hcml,hst]
   refine Sd ?_
   refine AWp.viewP (Lf:=[(bo,.row 3 1 ((preC c p).map ai) capo)]) (Lk:=L) (L':=L) (List.Perm.refl _) (LVw.refl _) [(25,.rp 1 [.sl 1 ((preC c p).map ai)] 0 0)] (fun q hq => ?_) ?_
   ·obtain rfl:=List.mem_singleton.1 hq
    simp only[go_sem]
    exact Vw.mkRp (Vws.cons (Vw.ofLs (t:=3) (cap:=capo) (if_pos rfl) (by rw[hpl2,hcln])) .nil)
   have hvw:Vws L [v,.clo 14 [.rp 1 [.sl 1 ((preC c p).map ai)] 0 0]] [.sl 1 (O.map aInts),.clo 14 [.rp 1 [.sl 1 ((preC c p).map ai)] 0 0]]:=Vws.cons (by have:=hA.vw [];rwa [List.append_nil] at this) (Vws.refl _)
   clear hst hpl2 hs
   generalize (preC c p).map ai=dd at *
   simp only[go_sem]
   refine W1 hfo ?_
   refine GCall.use (ab S) (fun _=>⟨At,(PC.view hvw hcf (Own.v _) ⟨rfl,rfl⟩).val⟩) ?_
   simp only[go_sem]
   refine W1 hfo ?_
   exact⟨_,List.Sublist.refl _,rfl⟩
  rintro vs L' - ⟨rfl,rfl⟩
  have hR:(z0 || (List.range ps.length).any fun q=>O.any fun x=>decide (x=preC c q))=true↔FwdX ps (bdA ps (badX ps ts)) c:=by
   rw[hrei,Bool.or_eq_true,← hz0,decide_eq_true_iff,List.any_eq_true]
   refine or_congr (by omega) ⟨?_,?_⟩
   ·rintro⟨q,hq,h⟩
    obtain⟨x,hx,he⟩:=List.any_eq_true.1 h
    exact⟨q,List.mem_range.1 hq,by rw[← of_decide_eq_true he];exact hx⟩
   ·rintro⟨q,hq,h⟩
    exact⟨q,List.mem_range.2 hq,List.any_eq_true.2 ⟨_,h,decide_eq_true rfl⟩⟩
  generalize (z0 || (List.range ps.length).any fun q=>O.any fun x=>decide (x=preC c q))=R at *
  cases R with
  | false =>
   rw[hos2 c (fun h=>by have:=hR.2 h;cases this),List.append_nil]
   simp only[go_sem]
   refine W1 hfo ?_
   exact⟨_,List.Sublist.refl _,_,rfl,hA⟩
  | true =>
   rw[hos1 c (hR.1 rfl),List.map_append]
   have ea:[c].map aInts=[.sl 1 (c.map ai)]:=rfl
   rw[ea]
   generalize c.map ai=cc at *
   generalize O.map aInts=ys at *
   rcases hA.inv with ⟨e1,rfl,rfl⟩|⟨bq,cq,rfl,rfl⟩
   ·simp only[go_sem]
    refine Wk ?_
    intro b' cap' g8
    refine Wk ?_
    exact⟨_,List.Sublist.refl _,_,rfl,by rw[e1];exact .row _ _ _⟩
   ·simp only[go_sem]
    refine Wk ?_
    refine Sd ?_
    intro b' cap' g8
    refine Wk ?_
    exact⟨_,List.Sublist.refl _,_,rfl,AppSt.snoc _ _ _ rfl⟩
 ·rintro vs L - ⟨v,rfl,hA⟩
  rw[List.take_length] at hA ⊢
  refine AWp.viewA (L:=[]) (j:=16) hA rfl ?_
  have hnn:((cutsF ps).all fun c => !bdA ps (badX ps ts) c)=true↔∀c ∈ cutsF ps,bdA ps (badX ps ts) c=false:=by
   rw[List.all_eq_true]
   exact⟨fun h c hc=>by have:=h c hc;simpa using this,fun h c hc=>by rw[h c hc];rfl⟩
  have hcl1:0<(cutsF ps).length:=by
   obtain⟨r,hr⟩:=cuts_zero (ps:=ps)
   rw[hr];simp
  have hclast:CC.getD ((cutsF ps).length - 1) .any = .sl 1 ((fullC ps).map ai):=by
   obtain⟨r,hr⟩:=cuts_last hv
   rw[hgC _ (by omega)]
   congr 2
   have:(cutsF ps)[(cutsF ps).length - 1]'(by omega)=fullC ps:=by
    simp only[hr];simp
   rw[this]
  have hcli:(((cutsF ps).length:Int) - 1).toNat=(cutsF ps).length - 1:=by omega
  have holF:=hola (cutsF ps).length
  rw[List.take_length] at holF
  have hOx:∀x ∈ opnL ps (bdA ps (badX ps ts)) (cutsF ps),x.length≤1000000:=fun x hx=>by
   rw[(isF_iff.1 (fwd_is (mem_opn.1 hx).2)).1];exact hps
  rw[← hend] at hE hL
  rw[← hnn] at hL
  clear hnn hre hos hola hend hcis hgC
  generalize ((cutsF ps).all fun c => !bdA ps (badX ps ts) c)=nn at *
  generalize opnL ps (bdA ps (badX ps ts)) (cutsF ps)=O at *
  generalize (cutsF ps).length=cl at *
  have hOl:(O.map aInts).length=O.length:=List.length_map _
  by_cases hO:O.length=0
  ·have hO':O=[]:=List.eq_nil_of_length_eq_zero hO
   subst hO'
   have hE0:¬e=0:=fun h=>by have:=hE.1 h;cases this
   have hLt:l.length=0:=hL.2 (.inr (by simp))
   have z00:¬(0:Int)<((0:Nat):Int):=by decide
   have hlm0:((l.length:Nat):Int)=0:=by omega
   simp only[go_sem]
   repeat(first|(with_reducible refine AWp.seq ?_)|(with_reducible refine AWp.block ?_))
   refine AWp.mix mixed [0,1,2,3,4,5,6,7,8,9,10,11,12,13,14,15,16,17,18] .done (by kernel_rfl) ?_;simp only[go_sem,hcm,hcli,hclast,z00]
   refine Sd ?_
   refine GCall.use .any (fun h=>absurd h (by simp)) ?_
   simp only[go_sem]
   refine Sd ?_
   refine W4 hlm hE0 hlm0 z00 ?_
   refine ret_eq ?_;simp only[go_sem]
   cases nn <;> rfl
  ·obtain⟨x,hx⟩:∃x,O.getLast?=some x:=by
    cases hO2:O.getLast? with
    | none=>rw[List.getLast?_eq_none_iff] at hO2;rw[hO2] at hO;exact absurd rfl hO
    | some x=>exact⟨x,rfl⟩
   have hxl:=hOx x (List.mem_of_getLast? hx)
   have g1:(O.map aInts).getD (O.length - 1) .any = .sl 1 (x.map ai):=by
    rw[List.getLast?_eq_getElem?] at hx
    rw[List.getD_eq_getElem?_getD,List.getElem?_map,hx];rfl
   have hOi:((O.length:Int) - 1).toNat=O.length - 1:=by omega
   have hO1:(0:Int)<O.length:=by omega
   have heq:=ints_equal x (fullC ps) hxl
   have hLx:decide (x=fullC ps)=decide (e=0):=by
    rw[decide_eq_decide,hE,hx]
    exact⟨fun h=>by rw[h],fun h=>Option.some.inj h⟩
   rw[hLx] at heq
   have hL2:decide (((l.length:Nat):Int)=0)=(nn || !decide (e=0)):=by
    rw[Bool.eq_iff_iff,decide_eq_true_iff,Bool.or_eq_true,Bool.not_eq_true',decide_eq_false_iff_not,hE]
    rw[← hL];omega
   change PC _ _ [.sl 1 (x.map ai),.sl 1 ((fullC ps).map ai)] _ at heq
   generalize x.map ai=xx at *
   generalize (fullC ps).map ai=ff at *
   generalize O.map aInts=OO at *
   generalize hee:decide (e=0)=ee at *
   simp only[go_sem]
   repeat(first|(with_reducible refine AWp.seq ?_)|(with_reducible refine AWp.block ?_))
   refine AWp.mix mixed [0,1,2,3,4,5,6,7,8,9,10,11,12,13,14,15,16,17,18] .done (by kernel_rfl) ?_;simp only[go_sem,hcm,hcli,hclast,hOl,hOi,hO1,g1]
   refine Sd ?_
   refine Sd ?_
   refine Gc heq ?_
   refine Sd ?_
   have hself:decide (ee=ee)=true:=decide_eq_true rfl
   repeat(first|((with_reducible refine AWp.ofC ?_ ?_);exact rfl;simp only[go_sem,hlm,hL2,hee])|((with_reducible refine an ?_ ?_);exact Au))
   refine ret_eq ?_;simp only[go_sem]
end Go.AL
end
section
namespace Go.AL
open Go Go.RowKit
set_option maxRecDepth 100000
section
variable {H:Type} {enc:TypeId × Value→H} {W:World}
theorem rdAsg:Rd enc Proofs.Tryz.prog W 184 2 aAsg (fun _=>True) :=
 (Rd.struct (ts:=[3,3]) Proofs.Tryz.underlying184 rfl rfl (by kernel_rfl) (by kernel_rfl)
  (.cons (Rd.int Proofs.Tryz.underlying3) (fun _=>⟨rfl,rfl⟩) (.cons (Rd.int Proofs.Tryz.underlying3) (fun _=>⟨rfl,rfl⟩) .nil))).map (fun (y:Int × Int × Unit)=>(y.1,y.2.1)) (fun _=>rfl) (fun _ _=>trivial)
theorem rdAsgs:Rd enc Proofs.Tryz.prog W 63 1 aAsgs (fun _=>True) :=
 (Rd.slice Proofs.Tryz.underlying63 (by kernel_rfl:Program.cellsOf Proofs.Tryz.prog 184=2) (by decide) rdAsg).map id (fun _=>rfl) (fun _ _=>trivial)
theorem rdVar:Rd enc Proofs.Tryz.prog W 181 2 aVar (fun _=>True) :=
 (Rd.struct (ts:=[9,3]) Proofs.Tryz.underlying181 rfl rfl (by kernel_rfl) (by kernel_rfl)
  (.cons (Rd.str Proofs.Tryz.underlying9) (fun _=>⟨rfl,rfl⟩) (.cons (Rd.int Proofs.Tryz.underlying3) (fun _=>⟨rfl,rfl⟩) .nil))).map (fun (y:ByteArray × Int × Unit)=>(y.1,y.2.1)) (fun _=>rfl) (fun _ _=>trivial)
theorem rdVars:Rd enc Proofs.Tryz.prog W 67 1 aVars (fun _=>True) :=
 (Rd.slice Proofs.Tryz.underlying67 (by kernel_rfl:Program.cellsOf Proofs.Tryz.prog 181=2) (by decide) rdVar).map id (fun _=>rfl) (fun _ _=>trivial)
theorem rdEv:Rd enc Proofs.Tryz.prog W 65 5 aEv (fun _=>True) :=
 (Rd.struct (ts:=[3,3,3,3,63]) Proofs.Tryz.underlying65 rfl rfl (by kernel_rfl) (by kernel_rfl)
  (.cons (Rd.int Proofs.Tryz.underlying3) (fun _=>⟨rfl,rfl⟩) (.cons (Rd.int Proofs.Tryz.underlying3) (fun _=>⟨rfl,rfl⟩) (.cons (Rd.int Proofs.Tryz.underlying3) (fun _=>⟨rfl,rfl⟩)
   (.cons (Rd.int Proofs.Tryz.underlying3) (fun _=>⟨rfl,rfl⟩) (.cons rdAsgs (fun _=>⟨rfl,rfl⟩) .nil)))))).map (fun (y:Int × Int × Int × Int × List (Int × Int) × Unit)=>⟨y.1,y.2.1,y.2.2.1,y.2.2.2.1,y.2.2.2.2.1⟩) (fun _=>rfl) (fun _ _=>trivial)
end
end Go.AL
end
section
namespace Go.AL
open Go Go.RowKit
set_option maxRecDepth 100000
section
variable {H:Type} {enc:TypeId × Value→H} {W:World}
theorem rdEvsM:Rd enc Proofs.Tryz.prog W 66 1 aEvs (fun l=>l.length≤maxLen) :=
 (Rd.slice Proofs.Tryz.underlying66 (by kernel_rfl:Program.cellsOf Proofs.Tryz.prog 65=5) (by decide) rdEv).map id (fun _=>rfl) (fun _ h=>h.1)
theorem rdPrM:Rd enc Proofs.Tryz.prog W 69 3 aPr (fun p=>p.evs.length≤maxLen) :=
 (Rd.struct (ts:=[9,67,66]) Proofs.Tryz.underlying69 rfl rfl (by kernel_rfl) (by kernel_rfl)
  (.cons (Rd.str Proofs.Tryz.underlying9) (fun _=>⟨rfl,rfl⟩) (.cons rdVars (fun _=>⟨rfl,rfl⟩) (.cons rdEvsM (fun _=>⟨rfl,rfl⟩) .nil)))).map (fun (y:ByteArray × List (ByteArray × Int) × List Ev × Unit)=>⟨y.1,y.2.1,y.2.2.1⟩) (fun _=>rfl) (fun _ h=>h.2.2.1)
theorem rdPrsM:Rd enc Proofs.Tryz.prog W 22 1 aPrs (fun l=>l.length≤maxLen∧∀p ∈ l,p.evs.length≤9223372036854775807) :=
 (Rd.slice Proofs.Tryz.underlying22 (by kernel_rfl:Program.cellsOf Proofs.Tryz.prog 69=3) (by decide) rdPrM).map id (fun _=>rfl) (fun _ h=>h)
theorem rdTrM:Rd enc Proofs.Tryz.prog W 24 1 aTr (fun l=>l.length≤maxLen∧∀p ∈ l,p.evs.length≤9223372036854775807) :=
 (Rd.struct (ts:=[22]) Proofs.Tryz.underlying24 rfl rfl (by kernel_rfl) (by kernel_rfl) (.cons rdPrsM (fun _=>⟨rfl,rfl⟩) .nil)).map (fun (y:List Pr × Unit)=>y.1) (fun _=>rfl) (fun _ h=>h.1)
end
end Go.AL
end
section
namespace Go.AL
open Go Go.RowKit
set_option maxRecDepth 100000
section
variable {H:Type} {enc:TypeId × Value→H} {W:World}
theorem rdPredN:∀N,RdF enc Proofs.Tryz.prog W N 37 6 aPd (fun _=>True)
 | 0 => .zero
 | N+1 =>
  (RdF.struct (ts:=[3,3,3,3,9,25]) Proofs.Tryz.underlying37 rfl rfl (by kernel_rfl) (by kernel_rfl)
   (.cons ((Rd.int Proofs.Tryz.underlying3).bounded N) (fun _=>⟨rfl,rfl⟩) (.cons ((Rd.int Proofs.Tryz.underlying3).bounded N) (fun _=>⟨rfl,rfl⟩) (.cons ((Rd.int Proofs.Tryz.underlying3).bounded N) (fun _=>⟨rfl,rfl⟩)
    (.cons ((Rd.int Proofs.Tryz.underlying3).bounded N) (fun _=>⟨rfl,rfl⟩) (.cons ((Rd.str Proofs.Tryz.underlying9).bounded N) (fun _=>⟨rfl,rfl⟩)
     (.cons ((RdF.slice Proofs.Tryz.underlying25 (by kernel_rfl:Program.cellsOf Proofs.Tryz.prog 37=6) (by decide) (rdPredN N)).mono (Nat.le_succ N)) (fun _=>⟨rfl,rfl⟩) .nil))))))).map
   (fun (y:Int × Int × Int × Int × ByteArray × List Pd × Unit)=>Pd.mk y.1 y.2.1 y.2.2.1 y.2.2.2.1 y.2.2.2.2.1 y.2.2.2.2.2.1) (fun _=>(aPd_mk _ _ _ _ _ _).symm) (fun _ _=>trivial)
theorem rdPreds:Rd enc Proofs.Tryz.prog W 25 1 (fun l:List Pd => .sl 6 (l.map aPd)) (fun l=>l.length≤maxLen) :=
 (Rd.slice Proofs.Tryz.underlying25 (by kernel_rfl:Program.cellsOf Proofs.Tryz.prog 37=6) (by decide) (RdF.all rdPredN)).map id (fun _=>rfl) (fun _ h=>h.1)
end
end Go.AL
end
