/- Texts of this claim's proof: WZ13, WRt, WRt7, WRt4, WRt6, WRt8. No condition. -/
import Derived.Test.YtbegiibjiidkmaaGreatDoorM22
import Derived.Test.YtbegiibjiidkmaaGreatDoorM23
import Derived.Test.YtbegiibjiidkmaaGreatDoorM9
import Derived.Test.YtbegiibjiidkmaaGreatDoorM4
import Derived.Test.YtbegiibjiidkmaaGreatDoorM16
import Derived.ChangeSame
section
namespace Go.AL
open Go Go.RowKit Proofs.Tryz
set_option maxRecDepth 4000
theorem causality_number (ps:List Pr)(hs:Sm ps)(p i:Nat)(hp:p<ps.length)(hi:i<nev ps p):PC prog 52 [aTr ps,aEid ((p:Int),(i:Int)+1)] (ai (off ps p+i:Nat)):=by
 have hps:=hs.procs
 have hn:=nev_get hp
 have hel:=hs.evs _ (List.getElem_mem hp)
 have e1:aEid ((p:Int),(i:Int)+1) = .agg [ai p,ai ((i:Int)+1)]:=rfl
 have e2:((p:Int)).toNat=p:=rfl
 have e3:(i:Int)+1 - 1=i:=by omega
 have e4:(ps.take p).length=p:=by rw[List.length_take];omega
 rw[e1]
 have hinit:[ai (i:Int)]=[ai ((off ps 0+i:Nat):Int)]:=by rw[show off ps 0+i=i by simp [off]]
 refine PE 28 [.tmp 4] [2,3,7] func52 ?_;simp only[go_sem]
 refine W2 e3 e4 ?_
 refine AWp.range' p [5] [15,16] (fun k vs L=>L=[]/\vs=[ai ((off ps k+i:Nat):Int)]) (by omega) rfl rfl rfl ⟨rfl,hinit⟩ ?_ ?_
 ·rintro k vs L hk - ⟨rfl,rfl⟩
  have hkp:k<ps.length:=by omega
  have hg:((ps.take p).map aPr).getD k .any=aPr ps[k]:=by
   rw[getD_map (by rw[e4];exact hk),List.getElem_take]
  have hof:=off_succ hkp
  have hos:=off_small hs k (by omega)
  have hek:=hs.evs _ (List.getElem_mem hkp)
  have hip:i<=1000000:=by omega
  simp only[go_sem]
  refine W2 hg e4 ?_
  intros
  refine W2 hg e4 ?_
  exact⟨_,.refl _,rfl,by rw[hof,show ((off ps k+ps[k].evs.length+i:Nat):Int)=((off ps k+i:Nat):Int)+(ps[k].evs.length:Int) by omega]⟩
 ·rintro vs L - ⟨rfl,rfl⟩
  simp only[go_sem]
  refine Wk ?_
  exact Rz
theorem causality_Number (ps:List Pr)(hs:Sm ps)(hv:validF ps=true)(p i:Nat)(hp:p<ps.length)(hi:i<nev ps p):PC prog 18 [aTr ps,aEid ((p:Int),(i:Int)+1)] (.tup [ai (off ps p+i:Nat),ai 0]):=by
 have hi':i<ps[p].evs.length:=by rw[<- nev_get hp];exact hi
 have h1:=causality_checkOk ps hs hv [((p:Int),(i:Int)+1)] (by simp) (fun x hx=>by
  rw[List.mem_singleton] at hx
  subst hx
  exact eidOk_iff.2 ⟨p,hp,i,hi',rfl⟩)
 have h2:=causality_number ps hs p i hp hi
 change PC _ _ [_,.sl 2 [.agg [ai p,ai ((i:Int)+1)]]] _ at h1
 change PC _ _ [_,.agg [ai p,ai ((i:Int)+1)]] _ at h2
 change PC _ _ [_,.agg [ai p,ai ((i:Int)+1)]] _
 refine PE 17 [.tmp 4,.tmp 5] [2,3,9] func18 ?_;simp only[go_sem]
 refine Wk ?_
 refine Sd ?_
 refine Vu h1 ?_
 refine Wk ?_
 refine Sd ?_
 refine Vu h2 ?_
 refine Wk ?_
 exact Rz
theorem relX_N (ps:List Pr)(l:List Syn):aRelR (off ps ps.length) (relX ps (exF ps l))=aRelN (off ps ps.length) (ordX ps (exF ps l)):=aRelN_R _ _
set_option maxHeartbeats 2000000 in
theorem law44_ControlExtends (ps:List Pr)(l:List Syn)(hpl:ps.length<=9223372036854775807)(hev:∀p ∈ ps,p.evs.length<=9223372036854775807)(hll:l.length<=9223372036854775807):PC prog 4 [aTr ps,aSyns l] (ab true):=by
 have haw:=law44_awake
 have hsz:=law44_size ps hpl hev
 have hR:aSyns l = .sl 4 (l.map aSyn):=rfl
 have hlm:(l.map aSyn).length=l.length:=List.length_map _
 rw[hR]
 clear hR
 by_cases hS:24<szW ps
 ·generalize l.map aSyn=SL at *
  generalize szW ps=z at *
  refine PE 141 [.tmp 4] [2,5,7,9,14] func4 ?_;simp only[go_sem]
  refine Wk ?_
  refine Sd ?_
  refine Vu haw ?_
  refine Wk ?_
  refine Sd ?_
  refine(hsz).val.use ?_;simp only[go_sem,hS,hlm]
  refine GCall.use .any (fun h=>absurd h (by simp)) ?_
  simp only[go_sem]
  refine W2 hS hlm ?_
  exact Rz
 have hvd:Vd ps:=vd_of (szW_sm (m:=24) (by decide) (by omega))
 by_cases h100:(100:Int)<l.length
 ·generalize l.map aSyn=SL at *
  generalize szW ps=z at *
  refine PE 141 [.tmp 4] [2,5,7,9,14] func4 ?_;simp only[go_sem]
  refine Wk ?_
  refine Sd ?_
  refine Vu haw ?_
  refine Wk ?_
  refine Sd ?_
  refine(hsz).val.use ?_;simp only[go_sem,hS,hlm,h100]
  refine GCall.use .any (fun h=>absurd h (by simp)) ?_
  simp only[go_sem]
  repeat(first|((with_reducible refine AWp.ofC ?_ ?_);exact rfl;simp only[go_sem,hS,hlm,h100])|((with_reducible refine an ?_ ?_);exact Au))
  exact Rz
 cases hv:validF ps with
 | false =>
  have h1:=hvd.rval
  rw[hv] at h1
  generalize l.map aSyn=SL at *
  generalize szW ps=z at *
  refine PE 141 [.tmp 4] [2,5,7,9,14] func4 ?_;simp only[go_sem]
  refine Wk ?_
  refine Sd ?_
  refine Vu haw ?_
  refine Wk ?_
  refine Sd ?_
  refine(hsz).val.use ?_;simp only[go_sem,hS,hlm,h100]
  refine Sd ?_
  refine GCall.use (ab false) (fun _=>⟨At,(h1).val.use ⟨rfl,rfl⟩⟩) ?_;simp only[go_sem,hS,hlm,h100]
  refine Sd ?_
  repeat(first|((with_reducible refine AWp.ofC ?_ ?_);exact rfl;simp only[go_sem,hS,hlm,h100])|((with_reducible refine an ?_ ?_);exact Au))
  exact Rz
 | true =>
 have hs:=hvd.sm hv
 have h1:=ref12_Valid ps hs
 rw[hv] at h1
 have g1:=control_Order ps hs l (by omega)
 rw[aOrdA_ok hv] at g1
 by_cases hE:syE ps l=0
 ·rw[if_pos hE,hE,relX_N] at g1
  obtain⟨_,hok,h0⟩:=syE_zero hE
  have hW:=(lft_whl (exF_gen ps l)).1 h0
  have hW0:=nil_whl hv
  have hE0:syE ps []=0:=by
   unfold syE
   rw[if_neg (by simp),if_neg (by simp),if_pos ((lft_whl (exF_gen ps [])).2 hW0)]
  have g2:=causality_Order ps hs hv
  rw[relX_N] at g2
  have g3:PC prog 13 [aTr ps,anil] (.tup [aRelN (off ps ps.length) (ordX ps (exF ps [])),ai 0]):=by
   have h:=control_Order ps hs [] (by simp)
   rw[aOrdA_ok hv,if_pos hE0,hE0,relX_N] at h
   exact PC.nilB (k:=4) h
  have hN:=valid_off hv
  have g4:=ref44_Same (off ps ps.length) (relX ps (exF ps [])) (by simp [relX];omega) (fun r hr=>by
   unfold relX at hr
   obtain⟨i,_,rfl⟩:=List.mem_map.1 hr
   rw[words_len];unfold nW;omega)
  rw[relX_N] at g4
  have g5:=poset_Valid (off ps ps.length) hN (ordX ps (exF ps l)) (fun i _=>ord_irr i) (fun i j k hi hj hk=>ord_trans hv hok hW hi hj hk)
  have g6:=poset_Less (off ps ps.length) hN (ordX ps (exF ps [])) (fun i _=>ord_irr i) (fun i j k hi hj hk=>ord_trans hv (synOk_nil ps) hW0 hi hj hk)
  have g7:=poset_Less (off ps ps.length) hN (ordX ps (exF ps l)) (fun i _=>ord_irr i) (fun i j k hi hj hk=>ord_trans hv hok hW hi hj hk)
  have hmo:=fun i j hi hj h=>ord_mono hv hok hW hW0 (i:=i) (j:=j) hi hj h
  have hsy:=fun s hs' i j hi hj ei ej=>ord_sync hv hok hW (s:=s) hs' (i:=i) (j:=j) hi hj ei ej
  have hnu:=fun p i hp hi=>causality_Number ps hs hv p i hp hi
  have hgS:∀k (h:k<l.length),(l.map aSyn).getD k .any=aSyn l[k]:=fun k h=>getD_map h
  have hok':=fun k (h:k<l.length)=>hok l[k] (List.getElem_mem h)
  have hmem:=fun k (h:k<l.length)=>List.getElem_mem h
  have hl1:((List.range (off ps ps.length)).map fun i=>aNs (off ps ps.length) (ordX ps (exF ps []) i)).length=off ps ps.length:=by simp
  have hl2:((List.range (off ps ps.length)).map fun i=>aNs (off ps ps.length) (ordX ps (exF ps l) i)).length=off ps ps.length:=by simp
  unfold aRelN at *
  generalize (List.range (off ps ps.length)).map (fun i=>aNs (off ps ps.length) (ordX ps (exF ps []) i))=R0 at *
  generalize (List.range (off ps ps.length)).map (fun i=>aNs (off ps ps.length) (ordX ps (exF ps l) i))=R1 at *
  generalize l.map aSyn=SL at *
  generalize szW ps=z at *
  refine PE 141 [.tmp 4] [2,5,7,9,14] func4 ?_;simp only[go_sem]
  refine Wk ?_
  refine Sd ?_
  refine Vu haw ?_
  refine Wk ?_
  refine Sd ?_
  refine(hsz).val.use ?_;simp only[go_sem,hS,hlm,h100]
  refine Sd ?_
  refine GCall.use (ab true) (fun _=>⟨At,(h1).val.use ⟨rfl,rfl⟩⟩) ?_;simp only[go_sem,hS,hlm,h100]
  refine Sd ?_
  repeat(first|((with_reducible refine AWp.ofC ?_ ?_);exact rfl;simp only[go_sem,hS,hlm,h100])|((with_reducible refine an ?_ ?_);exact Au))
  refine Sd ?_
  refine Vu g1 ?_
  intros
  refine W2 hl1 hl2 ?_
  refine Sd ?_
  refine Vu g2 ?_
  intros
  refine W2 hl1 hl2 ?_
  refine Sd ?_
  refine Vu g3 ?_
  intros
  refine W2 hl1 hl2 ?_
  refine Sd ?_
  refine GCall.use (ab true) (fun _=>⟨At,(g4).val.use ⟨rfl,rfl⟩⟩) ?_;simp only[go_sem,hl1,hl2]
  refine Sd ?_
  refine GCall.use (ab true) (fun _=>⟨At,(g5).val.use ⟨rfl,rfl⟩⟩) ?_;simp only[go_sem,hl1,hl2]
  refine Sd ?_
  refine W2 hl1 hl2 ?_
  refine AWp.range' (off ps ps.length) [] [1,2,5,7,84] (fun i vs L=>vs=[]/\L=[]) (by omega) rfl rfl rfl ⟨rfl,rfl⟩ ?_ ?_
  ·rintro i vs L hi - ⟨rfl,rfl⟩
   simp only[go_sem]
   refine W2 hl1 hl2 ?_
   refine AWp.range' (off ps ps.length) [] [1,2,5,7,11,84,85,90] (fun j vs L=>vs=[]/\L=[]) (by omega) rfl rfl rfl ⟨rfl,rfl⟩ ?_ ?_
   ·rintro j vs L hj - ⟨rfl,rfl⟩
    have k1:=g6 i j hi hj
    have k2:=g7 i j hi hj
    have k3:=hmo i j hi hj
    generalize ordX ps (exF ps []) i j=x at *
    generalize ordX ps (exF ps l) i j=y at *
    simp only[go_sem]
    refine Wk ?_
    refine Sd ?_
    refine Vu k1 ?_
    cases x with
    | false =>
     refine GCall.use .any (fun h=>absurd h (by simp)) ?_
     simp only[go_sem]
     refine Sd ?_
     refine Wk ?_
     exact⟨_,.refl _,rfl⟩
    | true =>
     rw[k3 rfl] at k2
     refine Sd ?_
     refine Gc k2 ?_
     refine Sd ?_
     refine Wk ?_
     exact⟨_,.refl _,rfl⟩
   ·rintro vs L - ⟨rfl,rfl⟩
    simp only[go_sem]
    refine Wk ?_
    exact⟨_,.refl _,rfl⟩
  ·rintro vs L - ⟨rfl,rfl⟩
   simp only[go_sem]
   refine W1 hlm ?_
   refine AWp.range' l.length [] [2,5,107,108] (fun i vs L=>vs=[]/\L=[]) (by omega) rfl rfl rfl ⟨rfl,rfl⟩ ?_ ?_
   ·rintro k vs L hk - ⟨rfl,rfl⟩
    have hgk:=hgS k hk
    have hsk:=hsy l[k] (hmem k hk)
    have hox:=hok' k hk
    generalize l[k]=s at *
    obtain⟨⟨a,i⟩,b,j⟩:=s
    obtain⟨⟨a1,a2,a3,a4⟩,b1,b2,b3,b4⟩:=hox
    have a1:0<=a:=a1
    have a2:a<ps.length:=a2
    have a3:1<=i:=a3
    have a4:i<=nev ps a.toNat:=a4
    have b1:0<=b:=b1
    have b2:b<ps.length:=b2
    have b3:1<=j:=b3
    have b4:j<=nev ps b.toNat:=b4
    obtain⟨p,rfl⟩:∃p:Nat,a=p:=⟨a.toNat,by omega⟩
    obtain⟨q,rfl⟩:∃q:Nat,b=q:=⟨b.toNat,by omega⟩
    obtain⟨i',rfl⟩:∃i':Nat,i=(i':Int)+1:=⟨i.toNat - 1,by omega⟩
    obtain⟨j',rfl⟩:∃j':Nat,j=(j':Int)+1:=⟨j.toNat - 1,by omega⟩
    have hp:p<ps.length:=by omega
    have hq:q<ps.length:=by omega
    have hi':i'<nev ps p:=by
     have h:(i':Int)+1<=nev ps ((p:Int)).toNat:=a4
     rw[Int.toNat_natCast] at h;omega
    have hj':j'<nev ps q:=by
     have h:(j':Int)+1<=nev ps ((q:Int)).toNat:=b4
     rw[Int.toNat_natCast] at h;omega
    have m1:=hnu p i' hp hi'
    have m2:=hnu q j' hq hj'
    have hio:off ps p+i'<off ps ps.length:=by
     have h1:=(List.getElem?_eq_some_iff.1 (evIds_get hp (by rw[<- nev_get hp];exact hi'))).1
     rw[evIds_length] at h1;exact h1
    have hjo:off ps q+j'<off ps ps.length:=by
     have h1:=(List.getElem?_eq_some_iff.1 (evIds_get hq (by rw[<- nev_get hq];exact hj'))).1
     rw[evIds_length] at h1;exact h1
    have k2:=g7 _ _ hio hjo
    rw[hsk _ _ hio hjo (evE_at hp (by rw[<- nev_get hp];exact hi')) (evE_at hq (by rw[<- nev_get hq];exact hj'))] at k2
    have es:aSyn (((p:Int),(i':Int)+1),(q:Int),(j':Int)+1) = .agg [ai p,ai ((i':Int)+1),ai q,ai ((j':Int)+1)]:=rfl
    rw[es] at hgk
    change PC _ _ [_,.agg [ai p,ai ((i':Int)+1)]] _ at m1
    change PC _ _ [_,.agg [ai q,ai ((j':Int)+1)]] _ at m2
    generalize off ps p+i'=x at *
    generalize off ps q+j'=y at *
    simp only[go_sem]
    refine W1 hgk ?_
    intros
    refine W1 hgk ?_
    refine Sd ?_
    refine Vu m1 ?_
    refine Wk ?_
    refine Sd ?_
    refine Vu m2 ?_
    refine Wk ?_
    refine Sd ?_
    refine Gc k2 ?_
    refine Sd ?_
    refine Wk ?_
    exact⟨_,.refl _,rfl⟩
   ·rintro vs L - ⟨rfl,rfl⟩
    simp only[go_sem]
    refine Wk ?_
    exact Rz
 ·rw[if_neg hE] at g1
  have e0:aRelR (off ps ps.length) [] = .agg [.sl 2 []]:=rfl
  rw[e0] at g1
  generalize l.map aSyn=SL at *
  generalize szW ps=z at *
  generalize syE ps l=E at *
  refine PE 141 [.tmp 4] [2,5,7,9,14] func4 ?_;simp only[go_sem]
  refine Wk ?_
  refine Sd ?_
  refine Vu haw ?_
  refine Wk ?_
  refine Sd ?_
  refine(hsz).val.use ?_;simp only[go_sem,hS,hlm,h100]
  refine Sd ?_
  refine GCall.use (ab true) (fun _=>⟨At,(h1).val.use ⟨rfl,rfl⟩⟩) ?_;simp only[go_sem,hS,hlm,h100]
  refine Sd ?_
  repeat(first|((with_reducible refine AWp.ofC ?_ ?_);exact rfl;simp only[go_sem,hS,hlm,h100])|((with_reducible refine an ?_ ?_);exact Au))
  refine Sd ?_
  refine Vu g1 ?_
  intros
  refine W1 hE ?_
  refine Rq ?_
  all_goals rfl
end Go.AL
end
section
namespace Go.AL
open Go Go.RowKit Proofs.Tryz
set_option maxRecDepth 100000
section
variable {H:Type} {enc:TypeId × Value->H} {W:World}
theorem rdAsg:Rd enc prog W 181 2 aAsg (fun _=>True) :=
 (Rd.struct (ts:=[3,3]) underlying181 rfl rfl (by kernel_rfl) (by kernel_rfl)
  (.cons (Rd.int underlying3) (fun _=>⟨rfl,rfl⟩) (.cons (Rd.int underlying3) (fun _=>⟨rfl,rfl⟩) .nil))).map (fun (y:Int × Int × Unit)=>(y.1,y.2.1)) (fun _=>rfl) (fun _ _=>trivial)
theorem rdAsgs:Rd enc prog W 59 1 aAsgs (fun _=>True) :=
 (Rd.slice underlying59 (by kernel_rfl:Program.cellsOf prog 181=2) (by decide) rdAsg).map id (fun _=>rfl) (fun _ _=>trivial)
theorem rdVar:Rd enc prog W 178 2 aVar (fun _=>True) :=
 (Rd.struct (ts:=[9,3]) underlying178 rfl rfl (by kernel_rfl) (by kernel_rfl)
  (.cons (Rd.str underlying9) (fun _=>⟨rfl,rfl⟩) (.cons (Rd.int underlying3) (fun _=>⟨rfl,rfl⟩) .nil))).map (fun (y:ByteArray × Int × Unit)=>(y.1,y.2.1)) (fun _=>rfl) (fun _ _=>trivial)
theorem rdVars:Rd enc prog W 63 1 aVars (fun _=>True) :=
 (Rd.slice underlying63 (by kernel_rfl:Program.cellsOf prog 178=2) (by decide) rdVar).map id (fun _=>rfl) (fun _ _=>trivial)
theorem rdEv:Rd enc prog W 61 5 aEv (fun _=>True) :=
 (Rd.struct (ts:=[3,3,3,3,59]) underlying61 rfl rfl (by kernel_rfl) (by kernel_rfl)
  (.cons (Rd.int underlying3) (fun _=>⟨rfl,rfl⟩) (.cons (Rd.int underlying3) (fun _=>⟨rfl,rfl⟩) (.cons (Rd.int underlying3) (fun _=>⟨rfl,rfl⟩)
   (.cons (Rd.int underlying3) (fun _=>⟨rfl,rfl⟩) (.cons rdAsgs (fun _=>⟨rfl,rfl⟩) .nil)))))).map (fun (y:Int × Int × Int × Int × List (Int × Int) × Unit)=>⟨y.1,y.2.1,y.2.2.1,y.2.2.2.1,y.2.2.2.2.1⟩) (fun _=>rfl) (fun _ _=>trivial)
end
end Go.AL
end
section
namespace Go.AL
open Go Go.RowKit Proofs.Tryz
set_option maxRecDepth 100000
section
variable {H:Type} {enc:TypeId × Value->H} {W:World}
theorem rdEvsM:Rd enc prog W 62 1 aEvs (fun l=>l.length<=maxLen) :=
 (Rd.slice underlying62 (by kernel_rfl:Program.cellsOf prog 61=5) (by decide) rdEv).map id (fun _=>rfl) (fun _ h=>h.1)
theorem rdPrM:Rd enc prog W 65 3 aPr (fun p=>p.evs.length<=maxLen) :=
 (Rd.struct (ts:=[9,63,62]) underlying65 rfl rfl (by kernel_rfl) (by kernel_rfl)
  (.cons (Rd.str underlying9) (fun _=>⟨rfl,rfl⟩) (.cons rdVars (fun _=>⟨rfl,rfl⟩) (.cons rdEvsM (fun _=>⟨rfl,rfl⟩) .nil)))).map (fun (y:ByteArray × List (ByteArray × Int) × List Ev × Unit)=>⟨y.1,y.2.1,y.2.2.1⟩) (fun _=>rfl) (fun _ h=>h.2.2.1)
theorem rdPrsM:Rd enc prog W 22 1 aPrs (fun l=>l.length<=maxLen/\∀p ∈ l,p.evs.length<=9223372036854775807) :=
 (Rd.slice underlying22 (by kernel_rfl:Program.cellsOf prog 65=3) (by decide) rdPrM).map id (fun _=>rfl) (fun _ h=>h)
theorem rdTrM:Rd enc prog W 24 1 aTr (fun l=>l.length<=maxLen/\∀p ∈ l,p.evs.length<=9223372036854775807) :=
 (Rd.struct (ts:=[22]) underlying24 rfl rfl (by kernel_rfl) (by kernel_rfl) (.cons rdPrsM (fun _=>⟨rfl,rfl⟩) .nil)).map (fun (y:List Pr × Unit)=>y.1) (fun _=>rfl) (fun _ h=>h.1)
end
end Go.AL
end
section
namespace Go.AL
open Go Go.RowKit Proofs.Tryz
set_option maxRecDepth 100000
section
variable {H:Type} {enc:TypeId × Value->H} {W:World}
end
end Go.AL
end
section
namespace Go.AL
open Go Go.RowKit Proofs.Tryz
set_option maxRecDepth 100000
section
variable {H:Type} {enc:TypeId × Value->H} {W:World}
theorem rdEid:Rd enc prog W 53 2 aEid (fun _=>True) :=
 (Rd.struct (ts:=[3,3]) underlying53 rfl rfl (by kernel_rfl) (by kernel_rfl)
  (.cons (Rd.int underlying3) (fun _=>⟨rfl,rfl⟩) (.cons (Rd.int underlying3) (fun _=>⟨rfl,rfl⟩) .nil))).map (fun (y:Int × Int × Unit)=>(y.1,y.2.1)) (fun _=>rfl) (fun _ _=>trivial)
end
end Go.AL
end
section
namespace Go.AL
open Go Go.RowKit Proofs.Tryz
set_option maxRecDepth 100000
section
variable {H:Type} {enc:TypeId × Value->H} {W:World}
theorem rd_two {P:Program}{t t1 t2:TypeId}{f0 f1:Field}{k1 k2:Nat}{α β:Type}{F1:α->List AV}{F2:β->List AV}{ok1:α->Prop}{ok2:β->Prop}(ht:P.underlying t=some (.struct #[f0,f1]))(h1t:f0.type=t1)(h2t:f1.type=t2)
  (o1:f0.offset=0) (o2:f1.offset=k1) (c1:P.cellsOf t1=k1) (c2:P.cellsOf t2=k2) (c:P.cellsOf t=k1+k2) (h1:Rd enc P W t1 k1 (fun y=>.agg (F1 y)) ok1) (h2:Rd enc P W t2 k2 (fun y=>.agg (F2 y)) ok2) :
  Rd enc P W t (k1+k2) (fun y:α × β=>.agg (F1 y.1 ++ F2 y.2)) (fun y=>ok1 y.1/\ok2 y.2):=by
 intro fuel cs x hx
 obtain⟨xs,n,_,_,hl,hlen,hf⟩:=DataW.trod_struct ht hx
 have g1:=hf 0 f0 rfl
 have g2:=hf 1 f1 rfl
 rw[h1t,o1,c1,List.drop_zero] at g1
 rw[h2t,o2,c2] at g2
 have hx0:∃x0 x1,xs=[x0,x1]:=by
  match xs,hlen with
  | [x0,x1],_=>exact⟨x0,x1,rfl⟩
 obtain⟨x0,x1,rfl⟩:=hx0
 obtain⟨a,a1,a2,a3,a4⟩:=h1 _ _ _ g1
 obtain⟨b,b1,b2,b3,b4⟩:=h2 _ _ _ g2
 have al:(F1 a).length=k1:=a2.1
 have bl:(F2 b).length=k2:=b2.1
 have ao:(F1 a).all one=true:=a2.2
 have bo:(F2 b).all one=true:=b2.2
 have a4:∀(i:Nat) c u,(F1 a)[i]?=some c->(cs.take k1)[i]?=some u->Rel W (fun b=>b<W.heap.size) c u:=a4
 have b4:∀(i:Nat) c u,(F2 b)[i]?=some c->((cs.drop k1).take k2)[i]?=some u->Rel W (fun b=>b<W.heap.size) c u:=b4
 refine⟨(a,b),⟨a1,b1⟩,⟨?_,?_⟩,by omega,fun i cc u hc hu=>?_⟩
 ·show (F1 a ++ F2 b).length=_
  rw[List.length_append];omega
 ·show (F1 a ++ F2 b).all one=true
  rw[List.all_append,ao,bo];rfl
 ·have hc:(F1 a ++ F2 b)[i]?=some cc:=hc
  by_cases hi:i<k1
  ·refine a4 i cc u ?_ ?_
   ·rwa [List.getElem?_append_left (by omega)] at hc
   ·rw[List.getElem?_take,if_pos hi];exact hu
  ·rw[List.getElem?_append_right (by omega)] at hc
   refine b4 (i - k1) cc u (by rw[<- al];exact hc) ?_
   have hi2:i - (F1 a).length<(F2 b).length:=(List.getElem?_eq_some_iff.1 hc).1
   rw[List.getElem?_take,if_pos (by omega),List.getElem?_drop,show k1+(i - k1)=i by omega];exact hu
theorem rdSyn:Rd enc prog W 55 4 aSyn (fun _=>True) :=
 (rd_two (t1:=53) (t2:=53) underlying55 rfl rfl rfl rfl (by kernel_rfl) (by kernel_rfl) (by kernel_rfl) (F1:=fun x:Eid=>[ai x.1,ai x.2]) (F2:=fun x:Eid=>[ai x.1,ai x.2]) rdEid rdEid).map (fun y:Eid × Eid=>y) (fun _=>rfl) (fun _ _=>trivial)
theorem rdSyns:Rd enc prog W 28 1 aSyns (fun l=>l.length<=maxLen) :=
 (Rd.slice underlying28 (by kernel_rfl:Program.cellsOf prog 55=4) (by decide) rdSyn).map id (fun _=>rfl) (fun _ h=>h.1)
end
end Go.AL
end
