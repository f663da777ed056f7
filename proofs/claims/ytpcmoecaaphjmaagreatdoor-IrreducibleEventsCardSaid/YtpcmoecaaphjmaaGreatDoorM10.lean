/- Texts of this claim's proof: WVb, WJn, WPw2, WTl, WEf, WEl, WBd, WCl, WRe, WLo, WLp, WLq, WNd, WBs, WSb, WAw, WSr, WOf, WWl, WCt, WLv, WSn, WMk, WMr, WMn, WCu, WBig, WMl, WMc, WMd, WMe, AlWrp, AlRng, AlGrd, WMf, WU1, WSs, WSp, WCp, WCk, WEx, WRr, WEy, WPq, WNa, WNb, WTm. No condition. -/
import Derived.Test.YtpcmoecaaphjmaaGreatDoorM9
import Derived.Test.YtpcmoecaaphjmaaGreatDoorM7
import Derived.Test.YtpcmoecaaphjmaaGreatDoorM5
import Derived.Test.YtpcmoecaaphjmaaGreatDoorM8
import Derived.Test.YtpcmoecaaphjmaaGreatDoorM4
section
namespace Go.AL
open Go Go.RowKit
set_option maxRecDepth 4000
theorem evaluate_typed (t:Pd) (hz:szF t≤1000000) (h1:formedB t=true) (h2:typedB t=true) (w:Int):PC Proofs.Tryz.prog 223 [aPd t,ai w] (ai (if resF t.kind=w then 0 else 14)):=by
 have ht:=predtype_TypeX t hz
 rw[h1,h2] at ht
 rw[if_neg (by decide),if_neg (by decide),if_neg (by decide),if_neg (by decide)] at ht
 generalize resF t.kind=r at *
 obtain⟨k,n,p,q,s,l⟩:=t
 simp only[aPd_mk] at *
 refine PC.enter 19 [.tmp 4] [2] Proofs.Tryz.func223 rfl rfl rfl rfl rfl (by simp) (AWp.of ?_);simp only[go_sem]
 refine Wk ?_
 refine Sd ?_
 refine(ht).val.use ?_;simp only[go_sem]
 refine Wk ?_
 refine⟨fun h3 => ?_,fun h3 => ?_⟩
 ·refine Wk ?_
  refine ret_eq ?_;simp only[go_sem]
  rw[if_neg h3]
 ·refine Wk ?_
  refine ret_eq ?_;simp only[go_sem]
  rw[if_pos h3]
theorem predtype_temporal (k:Int):PC Proofs.Tryz.prog 280 [ai k] (ab (decide (18≤k∧k≤21))):=by
 generalize hb:decide (18≤k∧k≤21)=b
 refine PC.enter 9 [.tmp 2] [] Proofs.Tryz.func280 rfl rfl rfl rfl rfl (by simp) (AWp.of ?_);simp only[go_sem]
 refine Wk ?_
 refine ret_eq ?_;simp only[go_sem]
 rw[← hb]
 congr 2
 rw[Bool.eq_iff_iff];simp
theorem predtype_Temporal1 (x:Pd):PC Proofs.Tryz.prog 279 [aPd x] (ab (ntmB x)):=by
 obtain⟨k,n,p,q,s,l⟩:=x
 have h:=predtype_temporal k
 have hsp:ntmB (.mk k n p q s l) = !decide (18≤k∧k≤21):=rfl
 rw[hsp]
 generalize decide (18≤k∧k≤21)=b at *
 refine PC.enter 7 [.tmp 2] [1] Proofs.Tryz.func279 rfl rfl rfl rfl rfl (by simp) (AWp.of ?_);simp only[go_sem]
 refine Wk ?_
 refine Sd ?_
 refine(h).val.use ?_;simp only[go_sem]
 refine Wk ?_
 refine ret_eq ?_;simp only[go_sem]
theorem predtype_Temporal (t:Pd) (hz:szF t≤1000000):PC Proofs.Tryz.prog 224 [aPd t] (ab (formedB t && !allB ntmB t)):=by
 have hf:=predtype_formed t hz
 have he:=predtype_eachV ntmB 279 (fun x hx=>(predtype_Temporal1 x).val) t hz
 generalize formedB t=f at *
 generalize allB ntmB t=a at *
 obtain⟨k,n,p,q,s,l⟩:=t
 simp only[aPd_mk] at *
 refine PC.enter 10 [.tmp 2] [1] Proofs.Tryz.func224 rfl rfl rfl rfl rfl (by simp) (AWp.of ?_);simp only[go_sem]
 refine Wk ?_
 refine Sd ?_
 refine(hf).val.use ?_;simp only[go_sem]
 refine Sd ?_
 refine Gc he ?_
 refine Sd ?_
 refine Wk ?_
 refine ret_eq ?_;simp only[go_sem]
noncomputable def atE (ps:List Pr) (c:List Int) (t:Pd) (w:Int):Int :=
 if c.length ≠ ps.length then 1 else if checkF ps t ≠ 0 then checkF ps t else if givenF ps [c] [] ≠ 0 then givenF ps [c] [] else if resF t.kind ≠ w then 14 else if allB ntmB t=false then 15 else 0
open Classical in
noncomputable def atV (ps:List Pr) (c:List Int) (t:Pd):AV:=if c.length ≠ ps.length∨checkF ps t ≠ 0∨givenF ps [c] [] ≠ 0 then aView [] [] [] else aView ps c (valuesAt ps c)
theorem vw_view0 (L:AHeap):Vw L (.agg [anil,anil,anil]) (aView [] [] []):=.mkAgg (Vws.cons (.nil 3) (Vws.cons (.nil 1) (Vws.cons (.nil 1) .nil)))
theorem evaluate_at (ps:List Pr) (hs:Sm ps) (c:List Int) (hcl:c.length≤1000000) (t:Pd) (hz:szF t≤1000000) (w:Int):PC Proofs.Tryz.prog 147 [aTr ps,aInts c,aPd t,ai w] (.tup [atV ps c t,ai (atE ps c t w)]):=by
 have h1:=predtype_Check ps hs t hz
 have h2:=variable_At ps hs c hcl
 have h3:=fun a b=>evaluate_typed t hz a b w
 have h3':checkF ps t=0→typedB t=true:=fun h=>by
  have:=(checkF_zero h).2.2.1
  unfold okT at this;simp only[Bool.and_eq_true] at this;exact this.2
 have h4:=predtype_Temporal t hz
 have h4':checkF ps t=0→formedB t=true:=fun h=>(checkF_zero h).2.1
 have hE:atE ps c t w=if c.length ≠ ps.length then 1 else if checkF ps t ≠ 0 then checkF ps t else if givenF ps [c] [] ≠ 0 then givenF ps [c] [] else if resF t.kind ≠ w then 14 else if allB ntmB t=false then 15 else 0:=rfl
 have hV1:(c.length ≠ ps.length∨checkF ps t ≠ 0∨givenF ps [c] [] ≠ 0)→atV ps c t=aView [] [] []:=fun h=>by unfold atV;rw[if_pos h]
 have hV2:¬(c.length ≠ ps.length∨checkF ps t ≠ 0∨givenF ps [c] [] ≠ 0)→atV ps c t=aView ps c (valuesAt ps c):=fun h=>by unfold atV;rw[if_neg h]
 unfold aAt at h2
 generalize atE ps c t w=E at *
 generalize atV ps c t=V at *
 generalize checkF ps t=e at *
 generalize givenF ps [c] []=gv at *
 generalize formedB t=f at *
 generalize typedB t=y at *
 generalize resF t.kind=r at *
 generalize allB ntmB t=a at *
 have hl:=hs.procs
 obtain⟨k,n,p,q,s,l⟩:=t
 simp only[aPd_mk] at *
 by_cases hc:c.length=ps.length
 ·have hci:(c.length:Int)=ps.length:=by omega
  by_cases he:e=0
  ·subst he
   rw[if_neg (by simpa using hc),if_neg (by decide)] at hE
   have h3:=h3 (h4' rfl) (h3' rfl)
   rw[h4' rfl,Bool.true_and] at h4
   by_cases hg:gv=0
   ·subst hg
    rw[if_neg (by decide)] at hE
    rw[if_neg (by decide)] at h2
    have hV:=hV2 (by rintro(h|h|h);exact h hc;exact h rfl;exact h rfl)
    unfold aView at hV
    by_cases hr:r=w
    ·rw[if_neg (by simpa using hr)] at hE
     rw[if_pos hr] at h3
     refine PC.enter 53 [.cell 8 190,.tmp 9] [4,6] Proofs.Tryz.func147 rfl rfl rfl rfl rfl (by simp) (AWp.of ?_);simp only[go_sem]
     refine Wk ?_
     intro b8
     refine Wk ?_
     refine Sd ?_
     refine(h1).val.use ?_;simp only[go_sem,hci]
     refine W1 hci ?_
     refine Sd ?_
     refine(h2).val.use ?_;simp only[go_sem]
     refine Wk ?_
     refine Sd ?_
     refine(h3).val.use ?_;simp only[go_sem]
     refine Wk ?_
     refine Sd ?_
     refine Gc h4 ?_
     refine Sd ?_
     refine Wk ?_
     refine⟨fun h5 => ?_,fun h5 => ?_⟩
     ·rw[if_pos h5] at hE
      refine Wk ?_
      refine ret_eq ?_;simp only[go_sem]
      rw[hV,hE];rfl
     ·rw[if_neg (by rw[h5];decide)] at hE
      refine Wk ?_
      refine ret_eq ?_;simp only[go_sem]
      rw[hV,hE];rfl
    ·rw[if_pos hr] at hE
     rw[if_neg hr] at h3
     refine PC.enter 53 [.cell 8 190,.tmp 9] [4,6] Proofs.Tryz.func147 rfl rfl rfl rfl rfl (by simp) (AWp.of ?_);simp only[go_sem]
     refine Wk ?_
     intro b8
     refine Wk ?_
     refine Sd ?_
     refine(h1).val.use ?_;simp only[go_sem,hci]
     refine W1 hci ?_
     refine Sd ?_
     refine(h2).val.use ?_;simp only[go_sem]
     refine Wk ?_
     refine Sd ?_
     refine(h3).val.use ?_;simp only[go_sem]
     refine Wk ?_
     refine Sd ?_
     refine GCall.use (ab (!a)) (fun _=>⟨At,(h4).val.use ⟨rfl,rfl⟩⟩) ?_;simp only[go_sem,Int.reduceEq]
     refine Sd ?_
     refine Wk ?_
     refine ret_eq ?_;simp only[go_sem]
     rw[hV,hE];rfl
   ·rw[if_pos hg] at hE
    rw[if_pos hg] at h2
    have hV:=hV1 (.inr (.inr hg))
    refine PC.enter 53 [.cell 8 190,.tmp 9] [4,6] Proofs.Tryz.func147 rfl rfl rfl rfl rfl (by simp) (AWp.of ?_);simp only[go_sem]
    refine Wk ?_
    intro b8
    refine Wk ?_
    refine Sd ?_
    refine(h1).val.use ?_;simp only[go_sem,hci]
    refine W1 hci ?_
    refine Sd ?_
    refine(h2).val.use ?_;simp only[go_sem]
    refine W1 hg ?_
    refine ret_view [] ?_;simp only[go_sem]
    rw[hV,hE]
    exact .mkTup (Vws.cons (vw_view0 _) (Vws.refl _))
  ·rw[if_neg (by simpa using hc),if_pos he] at hE
   have hV:=hV1 (.inr (.inl he))
   refine PC.enter 53 [.cell 8 190,.tmp 9] [4,6] Proofs.Tryz.func147 rfl rfl rfl rfl rfl (by simp) (AWp.of ?_);simp only[go_sem]
   refine Wk ?_
   intro b8
   refine Wk ?_
   refine Sd ?_
   refine(h1).val.use ?_;simp only[go_sem]
   refine AWp.cut [8,10] (fun vs L=>L=[(b8,.row 190 3 [.agg [anil,anil,anil]] 1)]∧vs=[.lp b8 3 0 0,ai e]) ?_ ?_
   ·refine W1 hci ?_
    exact⟨_,List.Sublist.refl _,rfl⟩
   rintro vs L - ⟨rfl,rfl⟩
   simp only[go_sem]
   refine W1 he ?_
   refine ret_view [] ?_;simp only[go_sem]
   rw[hV,hE]
   exact .mkTup (Vws.cons (vw_view0 _) (Vws.refl _))
 ·have hci:¬(c.length:Int)=ps.length:=by omega
  rw[if_pos hc] at hE
  have hV:=hV1 (.inl hc)
  refine PC.enter 53 [.cell 8 190,.tmp 9] [4,6] Proofs.Tryz.func147 rfl rfl rfl rfl rfl (by simp) (AWp.of ?_);simp only[go_sem]
  refine Wk ?_
  intro b8
  refine Wk ?_
  refine Sd ?_
  refine(h1).val.use ?_;simp only[go_sem]
  refine AWp.cut [8,10] (fun vs L=>L=[(b8,.row 190 3 [.agg [anil,anil,anil]] 1)]∧vs=[.lp b8 3 0 0,ai 1]) ?_ ?_
  ·refine W1 hci ?_
   refine⟨fun h6 => ?_,fun h6 => ?_⟩
   ·refine Wk ?_
    exact⟨_,List.Sublist.refl _,rfl⟩
   ·exact⟨_,List.Sublist.refl _,by rw[h6];exact⟨rfl,rfl⟩⟩
  rintro vs L - ⟨rfl,rfl⟩
  simp only[go_sem]
  repeat(first|((with_reducible refine AWp.ofC ?_ ?_);exact rfl;simp only[go_sem,Int.reduceEq])|((with_reducible refine an ?_ ?_);exact Au))
  refine ret_view [] ?_;simp only[go_sem]
  rw[hV,hE]
  exact .mkTup (Vws.cons (vw_view0 _) (Vws.refl _))
def nchB:Pd→Bool | .mk k _ _ _ _ _=>decide (k ≠ 4)
theorem atE_zero {ps:List Pr} {c:List Int} {t:Pd} (h:atE ps c t 2=0):checkF ps t=0∧givenF ps [c] []=0∧9≤t.kind∧allB ntmB t=true∧c.length=ps.length:=by
 unfold atE at h
 split at h
 ·cases h
 ·rename_i h1
  split at h
  ·rename_i h2;exact absurd h h2
  ·rename_i h2
   split at h
   ·rename_i h3;exact absurd h h3
   ·rename_i h3
    split at h
    ·cases h
    ·rename_i h4
     split at h
     ·cases h
     ·rename_i h5
      refine⟨by simpa using h2,by simpa using h3,?_,by simpa using h5,by simpa using h1⟩
      have:resF t.kind=2:=by simpa using h4
      unfold resF at this
      split at this <;> omega
end Go.AL
end
section
namespace Go.AL
open Go Go.RowKit
set_option maxRecDepth 4000
def two (l a b:List Int) (g:Int→Int→Int):List Int:=List.zipWith g a b
theorem givenL {ps:List Pr} {l:List (List Int)} : givenF ps l []=0↔(validF ps=true∧∀c ∈ l,c.length=ps.length)∧(∀c ∈ l,inRangeF ps c=true)∧∀c ∈ l,closedF ps c=true:=by
 have h1:sizedF ps l=true↔validF ps=true∧∀c ∈ l,c.length=ps.length:=by
  refine⟨sizedF_inv,fun h => ?_⟩
  unfold sizedF
  rw[h.1,Bool.true_and,Bool.not_eq_true',List.any_eq_false]
  intro c hc
  rw[decide_eq_true (h.2 c hc)];decide
 have h2:=List.all_eq_true (l:=l) (p:=inRangeF ps)
 have h3:=List.all_eq_true (l:=l) (p:=closedF ps)
 rw[← h1,← h2,← h3]
 unfold givenF
 cases sizedF ps l <;> cases l.all (inRangeF ps) <;> cases l.all (closedF ps) <;> simp
def pd0:Pd:=.mk 0 0 0 0 ByteArray.empty []
theorem closed_iff {ps:List Pr} {c:List Int} : closedF ps c=true↔∀(p:Nat) (hp:p<ps.length) (i:Nat) (hi:i<ps[p].evs.length),ps[p].evs[i].kind=3→(i:Int)+1≤cAt c p→(sndr ps ps[p].evs[i].msg).2≤cAt c (sndr ps ps[p].evs[i].msg).1:=by
 unfold closedF
 rw[Bool.not_eq_true',List.any_eq_false]
 constructor
 ·intro h p hp i hi hk hc
  have:=h _ (List.mem_of_getElem? (evIds_get hp hi))
  unfold badEv at this
  simp only[Bool.and_eq_true,decide_eq_true_eq,not_and] at this
  have:=this ⟨hk,hc⟩
  unfold sndr
  omega
 ·intro h x hx
  obtain⟨k,hk⟩:=List.getElem?_of_mem hx
  obtain⟨p,hp,i,hi,_,rfl⟩:=evIds_inv hk
  unfold badEv
  simp only[Bool.and_eq_true,decide_eq_true_eq,not_and]
  rintro⟨h1,h2⟩
  have:=h p hp i hi h1 h2
  unfold sndr at this
  omega
theorem inRange_iff {ps:List Pr} {c:List Int} (hc:c.length=ps.length):inRangeF ps c=true↔∀(p:Nat) (hp:p<ps.length),0≤cAt c p∧cAt c p≤ps[p].evs.length:=by
 constructor
 ·intro h p hp
  obtain⟨h1,h2⟩:=inRangeF_get h hc hp
  rw[cAt_nat (show p<c.length by omega)]
  exact⟨h1,h2⟩
 ·intro h
  unfold inRangeF
  rw[List.all_eq_true]
  intro p hp
  have hpc:=List.mem_range.1 hp
  have hpp:p<ps.length:=by omega
  have:=h p hpp
  rw[cAt_nat hpc] at this
  unfold cntOk
  simp only[List.getElem?_eq_getElem hpc,List.getElem?_eq_getElem hpp,Bool.and_eq_true,decide_eq_true_eq]
  exact this
def joinL (c d:List Int):List Int:=List.zipWith (fun x y=>if x<y then y else x) c d
theorem zw_cAt {c d:List Int} {g:Int→Int→Int} (h:c.length=d.length) {p:Nat} (hp:p<c.length):cAt (List.zipWith g c d) p=g (cAt c p) (cAt d p):=by
 rw[cAt_nat (show p<(List.zipWith g c d).length by rw[List.length_zipWith];omega),cAt_nat hp,cAt_nat (show p<d.length by omega),List.getElem_zipWith]
theorem join_cAt {c d:List Int} (h:c.length=d.length) {p:Nat} (hp:p<c.length):cAt (joinL c d) p=if cAt c p<cAt d p then cAt d p else cAt c p:=zw_cAt h hp
theorem join_len {c d:List Int} (h:c.length=d.length):(joinL c d).length=c.length:=by unfold joinL;rw[List.length_zipWith];omega
section
variable {ps:List Pr} {c j:List Int}
end
def closeN (ps:List Pr):Nat→List Int→List Int
 | 0,c=>c
 | n+1,c=>match missF ps c with
  | none=>c
  | some x=>closeN ps n (c.set x.1.1.toNat x.1.2)
def closeF (ps:List Pr) (c:List Int):List Int:=closeN ps (off ps ps.length) c
theorem sumN_set:∀(l:List Nat) (i x:Nat) (h:i<l.length),(l.set i x).sum+l[i]=l.sum+x
 | a :: r,0,x,_=>by simp only[List.set_cons_zero,List.sum_cons,List.getElem_cons_zero];omega
 | a :: r,i+1,x,h=>by
  have:=sumN_set r i x (by simpa using h)
  simp only[List.set_cons_succ,List.sum_cons,List.getElem_cons_succ];omega
def totC (c:List Int):Nat:=(c.map Int.toNat).sum
theorem totC_set {c:List Int} {q:Nat} {x:Int} (hq:q<c.length):totC (c.set q x)+(c[q]).toNat=totC c+x.toNat:=by
 unfold totC
 rw[List.map_set]
 have:=sumN_set (c.map Int.toNat) q x.toNat (by simpa using hq)
 simpa using this
theorem totC_le0:∀(l:List Pr) (c:List Int),c.length=l.length→(∀p (hp:p<l.length),c.getD p 0≤l[p].evs.length)→totC c≤(l.map fun x=>x.evs.length).sum
 | [],[],_,_=>Nat.le_refl _
 | x :: l,a :: c,hl,h=>by
  have h0:=h 0 (by simp)
  have ht:=totC_le0 l c (by simpa using hl) fun p hp=>by
   have:=h (p+1) (by simpa using hp)
   simpa using this
  simp only[List.getElem_cons_zero,List.getD_cons_zero] at h0
  unfold totC at *
  simp only[List.map_cons,List.sum_cons]
  omega
theorem totC_le {ps:List Pr} {c:List Int} (hc:c.length=ps.length) (hr:inRangeF ps c=true):totC c≤off ps ps.length:=by
 unfold off
 rw[List.take_length]
 refine totC_le0 ps c hc fun p hp => ?_
 have:=((inRange_iff hc).1 hr p hp).2
 unfold cAt at this
 simpa using this
theorem miss_inv {ps:List Pr} (hv:validF ps=true) {c:List Int} (hc:c.length=ps.length) {x:Eid × Eid} (h:missF ps c=some x) :
  ∃(p:Nat) (_:p<ps.length) (i:Nat) (_:i<ps[p].evs.length) (q:Nat) (_:q<ps.length) (j:Nat) (_:j<ps[q].evs.length),ps[p].evs[i].kind=3∧(i:Int)+1≤cAt c p∧sndr ps ps[p].evs[i].msg=((q:Int),(j:Int)+1)∧x=(((q:Int),(j:Int)+1),((p:Int),(i:Int)+1))∧cAt c q<(j:Int)+1:=by
 unfold missF at h
 rw[Option.map_eq_some_iff] at h
 obtain⟨y,hy,rfl⟩:=h
 have hb:=List.find?_some hy
 obtain⟨k,hk⟩:=List.getElem?_of_mem (List.mem_of_find?_eq_some hy)
 obtain⟨p,hp,i,hi,_,rfl⟩:=evIds_inv hk
 unfold badEv at hb
 simp only[Bool.and_eq_true,decide_eq_true_eq] at hb
 obtain⟨⟨h1,h2⟩,h3⟩:=hb
 obtain⟨hq,j,hj,e,_,_⟩:=recv_peer (valid_parts hv).2.2 hp hi h1
 have e':findIn (evIds ps) 2 ps[p].evs[i].msg=((ps[p].evs[i].peer.toNat:Int),(j:Int)+1):=e
 rw[e'] at h3
 exact⟨p,hp,i,hi,_,hq,j,hj,h1,h2,e,by rw[e'],h3⟩
theorem miss_next {ps:List Pr} (hv:validF ps=true) {c:List Int} (hc:c.length=ps.length) (hr:inRangeF ps c=true) {x:Eid × Eid} (h:missF ps c=some x) :
  (c.set x.1.1.toNat x.1.2).length=ps.length∧inRangeF ps (c.set x.1.1.toNat x.1.2)=true∧totC c<totC (c.set x.1.1.toNat x.1.2):=by
 obtain⟨p,hp,i,hi,q,hq,j,hj,_,_,_,rfl,h1⟩:=miss_inv hv hc h
 have hl:(c.set q ((j:Int)+1)).length=ps.length:=by rw[List.length_set];exact hc
 refine⟨hl,?_,?_⟩
 ·rw[Int.toNat_natCast,inRange_iff hl]
  intro r hr'
  rw[cAt_nat (show r<(c.set q ((j:Int)+1)).length by omega),List.getElem_set]
  split
  ·rename_i e;subst e;omega
  ·have:=(inRange_iff hc).1 hr r hr'
   rw[cAt_nat (show r<c.length by omega)] at this
   exact this
 ·have:=totC_set (c:=c) (q:=q) (x:=(j:Int)+1) (by omega)
  rw[cAt_nat (show q<c.length by omega)] at h1
  have h0:=((inRange_iff hc).1 hr q hq).1
  rw[cAt_nat (show q<c.length by omega)] at h0
  simp only[Int.toNat_natCast]
  have h3:((j:Int)+1).toNat=j+1:=by omega
  rw[h3] at this
  omega
theorem closeN_more {ps:List Pr} (hv:validF ps=true):∀(n:Nat) (c:List Int),c.length=ps.length→inRangeF ps c=true→off ps ps.length≤totC c+n→closeN ps (n+1) c=closeN ps n c
 | 0,c,hc,hr,hn=>by
  unfold closeN
  cases h:missF ps c with
  | none=>rfl
  | some x =>
   obtain⟨a1,a2,a3⟩:=miss_next hv hc hr h
   have:=totC_le a1 a2
   omega
 | n+1,c,hc,hr,hn=>by
  rw[closeN]
  conv=>rhs;rw[closeN]
  cases h:missF ps c with
  | none=>rfl
  | some x =>
   obtain⟨a1,a2,a3⟩:=miss_next hv hc hr h
   exact closeN_more hv n _ a1 a2 (by omega)
theorem closeN_of {ps:List Pr} (hv:validF ps=true) {c:List Int} (hc:c.length=ps.length) (hr:inRangeF ps c=true) {n:Nat} (h:off ps ps.length≤totC c+n):∀k,closeN ps (n+k) c=closeN ps n c
 | 0=>rfl
 | k+1=>by rw[← Nat.add_assoc,closeN_more hv (n+k) c hc hr (by omega),closeN_of hv hc hr h k]
theorem closeF_step {ps:List Pr} (hv:validF ps=true) {c:List Int} (hc:c.length=ps.length) (hr:inRangeF ps c=true) {x:Eid × Eid} (h:missF ps c=some x):closeF ps c=closeF ps (c.set x.1.1.toNat x.1.2):=by
 obtain⟨a1,a2,a3⟩:=miss_next hv hc hr h
 have hle:=totC_le a1 a2
 unfold closeF
 obtain⟨m,hm⟩:∃m,off ps ps.length=m+1:=⟨off ps ps.length - 1,by omega⟩
 rw[hm]
 conv=>lhs;rw[closeN]
 rw[h]
 exact(closeN_of hv a1 a2 (n:=m) (by omega) 1).symm
theorem closeF_none {ps:List Pr} {c:List Int} (h:missF ps c=none):closeF ps c=c:=by
 unfold closeF
 cases off ps ps.length with
 | zero=>rfl
 | succ n=>rw[closeN,h]
theorem miss_ind {ps:List Pr} (hv:validF ps=true) {M:List Int→Prop} (h0:∀c,c.length=ps.length→inRangeF ps c=true→missF ps c=none→M c)
  (h1:∀c,c.length=ps.length→inRangeF ps c=true→∀x,missF ps c=some x→M (c.set x.1.1.toNat x.1.2)→M c):∀c,c.length=ps.length→inRangeF ps c=true→M c:=by
 suffices H:∀n c,c.length=ps.length→inRangeF ps c=true→off ps ps.length - totC c=n→M c from fun c hc hr=>H _ c hc hr rfl
 intro n
 induction n using Nat.strongRecOn with
 | _ n ih =>
  intro c hc hr hn
  cases h:missF ps c with
  | none=>exact h0 c hc hr h
  | some x =>
   obtain⟨a1,a2,a3⟩:=miss_next hv hc hr h
   have:=totC_le a1 a2
   exact h1 c hc hr x h (ih _ (by omega) _ a1 a2 rfl)
theorem closeF_ok {ps:List Pr} (hv:validF ps=true) {c:List Int} (hc:c.length=ps.length) (hr:inRangeF ps c=true):(closeF ps c).length=ps.length∧inRangeF ps (closeF ps c)=true∧missF ps (closeF ps c)=none:=by
 refine miss_ind hv (M:=fun c=>(closeF ps c).length=ps.length∧inRangeF ps (closeF ps c)=true∧missF ps (closeF ps c)=none) (fun c hc hr h => ?_) (fun c hc hr x h hm => ?_) c hc hr
 ·rw[closeF_none h];exact⟨hc,hr,h⟩
 ·rw[closeF_step hv hc hr h];exact hm
theorem closeF_ge {ps:List Pr} (hv:validF ps=true) {c:List Int} (hc:c.length=ps.length) (hr:inRangeF ps c=true):∀p,p<ps.length→cAt c p≤cAt (closeF ps c) p:=by
 refine miss_ind hv (M:=fun c=>∀p,p<ps.length→cAt c p≤cAt (closeF ps c) p) (fun c hc hr h p hp => ?_) (fun c hc hr x h hm p hp => ?_) c hc hr
 ·rw[closeF_none h];exact Int.le_refl _
 ·rw[closeF_step hv hc hr h]
  refine Int.le_trans ?_ (hm p hp)
  obtain⟨_,_,_,_,q,hq,j,hj,_,_,_,rfl,h1⟩:=miss_inv hv hc h
  rw[Int.toNat_natCast,cAt_nat (show p<(c.set q ((j:Int)+1)).length by rw[List.length_set];omega),List.getElem_set]
  split
  ·rename_i e;subst e;omega
  ·rw[cAt_nat (show p<c.length by omega)];exact Int.le_refl _
theorem closeF_least {ps:List Pr} (hv:validF ps=true) {d:List Int} (hd:d.length=ps.length) (hcl:closedF ps d=true) {c:List Int} (hc:c.length=ps.length) (hr:inRangeF ps c=true) :
  (∀p,p<ps.length→cAt c p≤cAt d p)→∀p,p<ps.length→cAt (closeF ps c) p≤cAt d p:=by
 refine miss_ind hv (M:=fun c=>(∀p,p<ps.length→cAt c p≤cAt d p)→∀p,p<ps.length→cAt (closeF ps c) p≤cAt d p) (fun c hc hr h hle => ?_) (fun c hc hr x h hm hle => ?_) c hc hr
 ·rw[closeF_none h];exact hle
 ·rw[closeF_step hv hc hr h]
  refine hm fun p hp => ?_
  obtain⟨a,ha,i,hi,q,hq,j,hj,g1,g2,g3,rfl,h1⟩:=miss_inv hv hc h
  rw[Int.toNat_natCast,cAt_nat (show p<(c.set q ((j:Int)+1)).length by rw[List.length_set];omega),List.getElem_set]
  split
  ·rename_i e;subst e
   have:=closed_iff.1 hcl a ha i hi g1 (Int.le_trans g2 (hle a ha))
   rw[g3] at this
   exact this
  ·have:=hle p hp
   rw[cAt_nat (show p<c.length by omega)] at this
   exact this
theorem closeF_closed {ps:List Pr} (hv:validF ps=true) {c:List Int} (hc:c.length=ps.length) (hr:inRangeF ps c=true):closedF ps (closeF ps c)=true:=by
 rw[closedF_iff,(closeF_ok hv hc hr).2.2];rfl
structure Elim where
 n:Nat
 top:Nat→Nat
 ok:Nat→Nat→Bool
 need:Nat→Nat→Nat→Int
def exB (E:Elim) (now:Nat→Nat) (p k:Nat):Bool:=!E.ok p k || (List.range E.n).any fun q=>decide (q ≠ p) && decide ((k:Int)<E.need q (now q) p)
def nextF (ex:Nat→Bool) (top:Nat):Nat→Nat→Nat
 | 0,k=>k
 | m+1,k=>if k≤top∧ex k=true then nextF ex top m (k+1) else k
def nextK (ex:Nat→Bool) (top k:Nat):Nat:=nextF ex top (top+1 - k) k
section
variable {ex:Nat→Bool} {top k:Nat}
theorem nextK_hit (h:k≤top) (he:ex k=true):nextK ex top k=nextK ex top (k+1):=by
 unfold nextK
 obtain⟨m,hm⟩:∃m,top+1 - k=m+1:=⟨top - k,by omega⟩
 rw[hm,nextF,if_pos ⟨h,he⟩,show top+1 - (k+1)=m by omega]
theorem nextK_stop (h:¬(k≤top∧ex k=true)):nextK ex top k=k:=by
 unfold nextK
 cases top+1 - k with
 | zero=>rfl
 | succ m=>rw[nextF,if_neg h]
theorem nextK_spec:∀(m k:Nat),top+1 - k=m→k≤top+1→k≤nextK ex top k∧nextK ex top k≤top+1∧(∀j,k≤j→j<nextK ex top k→ex j=true)∧(nextK ex top k≤top→ex (nextK ex top k)=false)
 | 0,k,hm,hk=>by
  rw[nextK_stop (by omega)]
  exact⟨Nat.le_refl _,hk,fun j _ _=>by omega,fun h=>by omega⟩
 | m+1,k,hm,hk=>by
  by_cases he:ex k=true
  ·rw[nextK_hit (by omega) he]
   obtain⟨a1,a2,a3,a4⟩:=nextK_spec m (k+1) (by omega) (by omega)
   refine⟨by omega,a2,fun j h1 h2 => ?_,a4⟩
   by_cases e:j=k
   ·subst e;exact he
   ·exact a3 j (by omega) h2
  ·rw[nextK_stop (fun h=>he h.2)]
   exact⟨Nat.le_refl _,hk,fun j _ _=>by omega,fun _=>by simpa using he⟩
end
def stepP (E:Elim) (now:Nat→Nat):Option Nat:=(List.range E.n).find? fun p=>exB E now p (now p)
def goF (E:Elim) (now:Nat→Nat) (p:Nat):Nat:=nextK (exB E now p) (E.top p) (now p)
def updN (f:Nat→Nat) (p x:Nat):Nat→Nat:=fun q=>if q=p then x else f q
theorem updN_self (f:Nat→Nat) (p x:Nat):updN f p x p=x:=if_pos rfl
theorem updN_ne {f:Nat→Nat} {p x q:Nat} (h:q ≠ p):updN f p x q=f q:=if_neg h
theorem find_range {n:Nat} {f:Nat→Bool} {p:Nat} (h:(List.range n).find? f=some p):p<n∧f p=true∧∀q,q<p→f q=false:=by
 rw[List.find?_eq_some_iff_getElem] at h
 obtain⟨h1,i,hi,e,h2⟩:=h
 rw[List.getElem_range] at e
 subst e
 refine⟨by simpa using hi,h1,fun q hq => ?_⟩
 have:=h2 q hq
 rw[List.getElem_range] at this
 simpa using this
abbrev Stp:=Nat × Nat × Nat
inductive RunR (E:Elim):(Nat→Nat)→List Stp→(Nat→Nat)→Bool→Prop
 | stop {now:Nat→Nat} (h:stepP E now=none):RunR E now [] now false
 | lost {now:Nat→Nat} {p:Nat} (h:stepP E now=some p) (hl:E.top p<goF E now p):RunR E now [(p,now p,goF E now p - 1)] (updN now p (goF E now p)) true
 | go {now fin:Nat→Nat} {p:Nat} {st:List Stp} {l:Bool} (h:stepP E now=some p) (hl:goF E now p≤E.top p) (hr:RunR E (updN now p (goF E now p)) st fin l):RunR E now ((p,now p,goF E now p - 1) :: st) fin l
def InE (E:Elim) (now:Nat→Nat):Prop:=∀q,q<E.n→now q≤E.top q
def roomE (E:Elim) (now:Nat→Nat):Nat:=totS E.n fun q=>E.top q+1 - now q
theorem totS_lt {c c':Nat→Nat} {p:Nat} (h:∀q,q ≠ p→c' q=c q) (hp:c' p<c p):∀n,totS n c'+(if p<n then 1 else 0)≤totS n c
 | 0=>by simp [totS]
 | n+1=>by
  have:=totS_lt h hp n
  rw[totS_succ,totS_succ]
  by_cases e:n=p
  ·subst e
   rw[if_neg (by omega)] at this
   rw[if_pos (by omega)];omega
  ·rw[h n e]
   by_cases e2:p<n
   ·rw[if_pos e2] at this;rw[if_pos (by omega)];omega
   ·rw[if_neg e2] at this;rw[if_neg (by omega)];omega
theorem step_inv {E:Elim} {now:Nat→Nat} (hI:InE E now) {p:Nat} (h:stepP E now=some p) :
  p<E.n∧exB E now p (now p)=true∧(∀q,q<p→exB E now q (now q)=false)∧now p<goF E now p∧goF E now p≤E.top p+1∧(∀j,now p≤j→j<goF E now p→exB E now p j=true)∧roomE E (updN now p (goF E now p))<roomE E now:=by
 obtain⟨h1,h2,h3⟩:=find_range h
 have hle:=hI p h1
 obtain⟨a1,a2,a3,a4⟩:=nextK_spec (ex:=exB E now p) (top:=E.top p) _ (now p) rfl (by omega)
 have hlt:now p<goF E now p:=by
  unfold goF
  rw[nextK_hit hle h2]
  obtain⟨b1,_⟩:=nextK_spec (ex:=exB E now p) (top:=E.top p) _ (now p+1) rfl (by omega)
  omega
 refine⟨h1,h2,h3,hlt,a2,a3,?_⟩
 unfold roomE
 have:=totS_lt (c:=fun q=>E.top q+1 - now q) (c':=fun q=>E.top q+1 - updN now p (goF E now p) q) (p:=p) (fun q hq=>by rw[updN_ne hq]) (by rw[updN_self];omega) E.n
 rw[if_pos h1] at this
 omega
theorem inE_step {E:Elim} {now:Nat→Nat} (hI:InE E now) {p:Nat} (hl:goF E now p≤E.top p):InE E (updN now p (goF E now p)):=fun q hq=>by
 by_cases e:q=p
 ·subst e;rw[updN_self];exact hl
 ·rw[updN_ne e];exact hI q hq
theorem run_ex (E:Elim):∀(m:Nat) (now:Nat→Nat),InE E now→roomE E now≤m→∃st fin l,RunR E now st fin l:=by
 intro m
 induction m with
 | zero =>
  intro now hI hm
  cases h:stepP E now with
  | none=>exact⟨_,_,_,.stop h⟩
  | some p=>have:=(step_inv hI h).2.2.2.2.2.2;omega
 | succ m ih =>
  intro now hI hm
  cases h:stepP E now with
  | none=>exact⟨_,_,_,.stop h⟩
  | some p =>
   have h7:=(step_inv hI h).2.2.2.2.2.2
   by_cases hl:goF E now p≤E.top p
   ·obtain⟨st,fin,l,hr⟩:=ih _ (inE_step hI hl) (by omega)
    exact⟨_,_,_,.go h hl hr⟩
   ·exact⟨_,_,_,.lost h (by omega)⟩
theorem inE_zero (E:Elim):InE E fun _=>0:=fun _ _=>Nat.zero_le _
open Classical in
noncomputable def stepsF (E:Elim):List Stp:=Classical.choose (run_ex E _ _ (inE_zero E) (Nat.le_refl _))
open Classical in
noncomputable def finF (E:Elim):Nat→Nat:=Classical.choose (Classical.choose_spec (run_ex E _ _ (inE_zero E) (Nat.le_refl _)))
open Classical in
noncomputable def lostF (E:Elim):Bool:=Classical.choose (Classical.choose_spec (Classical.choose_spec (run_ex E _ _ (inE_zero E) (Nat.le_refl _))))
end Go.AL
end
section
namespace Go.AL
open Go Go.RowKit
set_option maxRecDepth 4000
section
variable {E:Elim} {p q m k:Nat}
end
theorem Own.eid (x:Eid):Own (aEid x):=Own.agg fun y hy=>by
 simp only[List.mem_cons,List.not_mem_nil,or_false] at hy
 rcases hy with rfl|rfl <;> exact Own.v _
theorem Own.miss (ps:List Pr) (c:List Int):Own (aMiss ps c):=by
 unfold aMiss
 split <;> exact Own.tup fun y hy=>by
  simp only[List.mem_cons,List.not_mem_nil,or_false] at hy
  rcases hy with rfl|rfl|rfl
  ·exact Own.eid _
  ·exact Own.eid _
  ·exact Own.v _
theorem cut_Close1 (c:List Int) (s r:Eid) (b n cap:Nat) (hn:n=c.length) (h0:0≤s.1) (h1:s.1<c.length):MCalls Proofs.Tryz.prog 155 [.ls b 1 0 n cap,aEid s,aEid r] [(b,.row 3 1 (c.map ai) cap)] fun _ L=>L=[(b,.row 3 1 ((c.set s.1.toNat s.2).map ai) cap)]:=by
 subst hn
 have hg:=getD_cAt (c:=c) h0 h1
 refine MCalls.enter' 12 [] [4,5] Proofs.Tryz.func155 rfl rfl rfl rfl rfl (by simp) (AWp.of ?_);simp only[go_sem]
 refine W1 hg ?_
 refine ret_own ?_
 simp only[go_sem]
 rw[List.map_set]
theorem cut_repaired (ps:List Pr) (hs:Sm ps) (hv:validF ps=true) (c:List Int) (hc:c.length=ps.length) (hr:inRangeF ps c=true) :
  PC Proofs.Tryz.prog 154 [aTr ps,aInts c,.v (.func (.func 155) #[] #[])] (.tup [aInts (closeF ps c),ai 0]):=by
 obtain⟨hl1,hl8⟩:=valid_len hv
 have hs1:=cut_sized ps hs [c] (by simp)
 have e1:sizedF ps [c]=true:=by unfold sizedF;rw[hv];simp [hc]
 rw[e1] at hs1
 have hs2:=cut_inRange ps hs c hc
 rw[hr] at hs2
 refine PC.enter 40 [.tmp 6,.tmp 7] [3,9,10,15] Proofs.Tryz.func154 rfl rfl rfl rfl rfl (by simp) (AWp.of ?_);simp only[go_sem]
 refine Wk ?_
 refine Sd ?_
 refine(hs1).val.use ?_;simp only[go_sem]
 refine Wk ?_
 refine Sd ?_
 refine(hs2).val.use ?_;simp only[go_sem]
 refine Wk ?_
 refine(ints_cloneO c (by omega)).val.mono ?_
 rintro r L hA
 rcases hA.inv with ⟨e1,rfl,rfl⟩|⟨b,cap,rfl,rfl⟩
 ·have:c.length=0:=by simpa using congrArg List.length e1
  omega
 simp only[go_sem,List.length_map]
 refine Sd ?_
 refine AWp.of ?_;simp only[go_sem]
 refine AWp.loopN [] [2,3,8] (fun m vs L=>∃d,d.length=ps.length∧inRangeF ps d=true∧closeF ps d=closeF ps c∧m=off ps ps.length - totC d∧L=[(b,.row 3 1 (d.map ai) cap)]) (off ps ps.length - totC c) ⟨c,hc,hr,rfl,rfl,rfl⟩ ?_
 rintro m vs L - ⟨d,hd,hdr,hde,rfl,rfl⟩
 have hm:=cut_missing ps hs d hv hd hdr
 have ho:=Own.miss ps d
 have hvw:Vws [(b,.row 3 1 (d.map ai) cap)] [aTr ps,.ls b 1 0 c.length cap] [aTr ps,aInts d]:=Vws.cons (.refl _) (Vws.cons (Vw.ofLs (if_pos rfl) (by rw[List.length_map];omega)) .nil)
 simp only[go_sem]
 refine Wk ?_
 cases h:missF ps d with
 | none =>
  rw[closeF_none h] at hde
  unfold aMiss at hm ho
  rw[h] at hm ho
  refine(PC.view hvw hm ho ?_).val
  simp only[go_sem]
  intro b9 g1 b10 g2 g3
  have n1:¬b9=b10:=by omega
  have n2:¬b10=b9:=by omega
  have n3:¬b=b9:=by omega
  have n4:¬b=b10:=by omega
  have n5:¬b9=b:=by omega
  have n6:¬b10=b:=by omega
  simp only[go_sem,n1,n2,n3,n4,n5,n6]
  refine W6 n1 n2 n3 n4 n5 n6 ?_
  refine ret_view [true] ?_;simp only[go_sem]
  rw[← hde]
  exact .mkTup (Vws.cons (Vw.ofLs (if_pos rfl) (by rw[List.length_map];omega)) (Vws.refl _))
 | some x =>
  obtain⟨a1,a2,a3⟩:=miss_next hv hd hdr h
  have hst:=closeF_step hv hd hdr h
  have ht:=totC_le a1 a2
  obtain⟨_,_,_,_,q,hq,j,hj,_,_,_,hx,_⟩:=miss_inv hv hd h
  have hx1:0≤x.1.1∧x.1.1<d.length:=by rw[hx];dsimp only;omega
  unfold aMiss at hm ho
  rw[h] at hm ho
  clear hx
  obtain⟨s,r⟩:=x
  refine(PC.view hvw hm ho ?_).val
  simp only[go_sem]
  intro b9 g1 b10 g2 g3
  have n1:¬b9=b10:=by omega
  have n2:¬b10=b9:=by omega
  have n3:¬b=b9:=by omega
  have n4:¬b=b10:=by omega
  have n5:¬b9=b:=by omega
  have n6:¬b10=b:=by omega
  simp only[go_sem,n1,n2,n3,n4,n5,n6]
  refine W6 n1 n2 n3 n4 n5 n6 ?_
  refine(cut_Close1 d s r b c.length cap (by omega) hx1.1 hx1.2).val.mono ?_
  rintro r L rfl
  simp only[go_sem]
  refine Wk ?_
  exact⟨_,List.Sublist.refl _,_,by omega,_,a1,a2,by rw[← hst,hde],rfl,rfl⟩
theorem cut_Close (ps:List Pr) (hs:Sm ps) (hv:validF ps=true) (c:List Int) (hc:c.length=ps.length) (hr:inRangeF ps c=true) :
  PC Proofs.Tryz.prog 92 [aTr ps,aInts c] (.tup [aInts (closeF ps c),ai 0]):=by
 have h:=cut_repaired ps hs hv c hc hr
 refine PC.enter 11 [.tmp 4,.tmp 5] [2] Proofs.Tryz.func92 rfl rfl rfl rfl rfl (by simp) (AWp.of ?_);simp only[go_sem]
 refine Wk ?_
 refine Sd ?_
 refine(h).val.use ?_;simp only[go_sem]
 refine Wk ?_
 refine ret_eq ?_;simp only[go_sem]
theorem stC_ok {ps:List Pr} {p:Nat} {k:Int} (hp:p<ps.length) (h0:0≤k) (hk:k≤ps[p].evs.length):(stC ps.length p k).length=ps.length∧inRangeF ps (stC ps.length p k)=true:=by
 have hl:(stC ps.length p k).length=ps.length:=by unfold stC;rw[List.length_set,List.length_replicate]
 refine⟨hl,?_⟩
 rw[inRange_iff hl]
 intro q hq
 unfold cAt stC
 rw[Int.toNat_natCast,getD_set0]
 split
 ·rename_i e;obtain⟨rfl,_⟩:=e;omega
 ·rw[List.getD_eq_getElem?_getD,List.getElem?_replicate,if_pos hq]
  exact⟨Int.le_refl 0,by simp⟩
theorem ref25_Index (ps:List Pr) (hs:Sm ps) (p:Int) (hpb:isPB ps.length p=true) (s:ByteArray):PC Proofs.Tryz.prog 114 [aTr ps,ai p,astr s] (ai (varX ps p s)):=by
 obtain⟨p,rfl,hp⟩:=isPB_nat hpb
 rw[varX_get hp]
 have hm:=List.getElem_mem hp
 have hvl:=hs.vars _ hm
 have hgp:=getD_map (f:=aPr) hp
 have hhit:∀i (hi:i<ps[p].vars.length),(∀j (hj:j<ps[p].vars.length),j<i→nmB s ps[p].vars[j]=false)→nmB s ps[p].vars[i]=true→varIx ps[p].vars s=i:=by
  intro i hi h0 h1
  have:ps[p].vars.findIdx? (nmB s)=some i:=by rw[List.findIdx?_eq_some_iff_getElem];exact⟨hi,h1,fun j hj=>by simpa using h0 j (by omega) hj⟩
  unfold varIx;rw[this]
 have hno:(∀j (hj:j<ps[p].vars.length),nmB s ps[p].vars[j]=false)→varIx ps[p].vars s = -1:=by
  intro h0
  have:ps[p].vars.findIdx? (nmB s)=none:=by
   rw[List.findIdx?_eq_none_iff];intro x hx;obtain⟨i,hi,rfl⟩:=List.getElem_of_mem hx;exact h0 i hi
  unfold varIx;rw[this]
 generalize varIx ps[p].vars s=r at *
 refine PC.enter 29 [.tmp 6] [3] Proofs.Tryz.func114 rfl rfl rfl rfl rfl (by simp) (AWp.of ?_);simp only[go_sem]
 refine W1 hgp ?_
 refine AWp.block (AWp.count 8 ps[p].vars.length [] [2,7] (fun i vs L=>L=[]∧∀j (hj:j<ps[p].vars.length),j<i→nmB s ps[p].vars[j]=false) rfl rfl ⟨rfl,by omega⟩ ?_)
 rintro i vs L hi - ⟨rfl,hI⟩
 simp only[go_sem]
 refine Wk ?_
 refine⟨fun h1 => ?_,fun h1 => ?_⟩
 ·have hiv:i<ps[p].vars.length:=by omega
  have hgv:=getD_map (f:=aVar) hiv
  refine W1 hgv ?_
  refine⟨fun h2 => ?_,fun h2 => ?_⟩
  ·refine Wk ?_
   refine ret_eq ?_;simp only[go_sem]
   rw[hhit i hiv hI (decide_eq_true h2)]
  ·refine Wk ?_
   refine⟨_,List.Sublist.refl _,rfl,fun j hj hji => ?_⟩
   by_cases e:j=i
   ·subst e;exact decide_eq_false h2
   ·exact hI j hj (by omega)
 ·refine Wk ?_
  refine ret_eq ?_;simp only[go_sem]
  rw[hno fun j hj=>hI j hj (by omega)]
def leafR (ps:List Pr) (c:List Int) (o:Obs):Pd→Prop
 | .mk k _ p q s _=>(k=2→∃ix cv:Int,PC Proofs.Tryz.prog 114 [aTr ps,ai p,astr s] (ai ix)∧PC Proofs.Tryz.prog 113 [aTr ps,ai p,ai ix,ai cv] (ai (o.var p s))∧0≤p∧c[p.toNat]?=some cv)∧(k=3→0≤p∧c[p.toNat]?=some (o.cnt p))∧(k=4→∃ms:List AV,(ms.length:Int)=o.chn p q∧PC Proofs.Tryz.prog 115 [aTr ps,aInts c,ai p,ai q] (.sl 1 ms))
theorem ref29_Value (ps:List Pr) (c:List Int) (o:Obs) (hcl:c.length≤1000000) (t:Pd):szF t≤1000000→okT ps t=true→t.kind≤8→(intF ps t).2.2=true→AllP (obsB ps o) t→AllP (leafR ps c o) t →
  PC Proofs.Tryz.prog 71 [aTr ps,aInts c,aPd t] (ai (valF o t)):=by
 induction t using Pd.ind with
 | _ k n p q s l ih =>
 intro hz ht hk hi hob hlf
 have hbnd:=valF_bounds ps o _ ht hk hob hi
 obtain⟨o1,o2,o3,o4⟩:=okT_sub ht
 obtain⟨hpl,_⟩:=loc_len o1
 simp only[Pd.kind] at hk
 have hch:=child_le ht (show k≤12 by omega)
 have hsz:szF (.mk k n p q s l)=szL l+1:=by rw[szF]
 have hsp:=valF_mk o k n p q s l
 have hci:=bd_child hi
 obtain⟨⟨lf2,lf3,lf4⟩,hls⟩:=AllP_sub hlf
 obtain⟨_,hos⟩:=AllP_sub hob
 generalize valF o (.mk k n p q s l)=R at *
 have hb : -1125899906842624≤R∧R≤1125899906842624:=by omega
 clear hbnd hi
 have hcb:=fun (x:Pd) (hx:x ∈ l) (h:l.length≤2)=>valF_bounds ps o x (hch x hx).1 (hch x hx).2 (hos x hx) (hci h x hx)
 rcases parts_cases k with ⟨e,hc⟩|⟨e,hc⟩|⟨e,hc⟩|e
 ·obtain rfl:=len0 (l:=l) (by omega)
  simp only[List.map_nil,valN,aPd_mk] at *
  have hk4:k=1∨k=2∨k=3∨k=4:=by omega
  rcases hk4 with h|h|h|h
  ·have hsp:R=n:=by rw[hsp,if_pos h]
   refine PC.enter 106 [.tmp 6] [3,5] Proofs.Tryz.func71 rfl rfl rfl rfl rfl (by simp) (AWp.of ?_);simp only[go_sem]
   repeat(first|((with_reducible refine AWp.ofC ?_ ?_);exact rfl;simp only[go_sem,(eq_true h)])|((with_reducible refine an ?_ ?_);exact Au))
   refine ret_eq ?_;simp only[go_sem]
   rw[hsp]
  ·obtain⟨ix,cv,g1,g2,g3,g4⟩:=lf2 h
   obtain⟨hpc,hpe⟩:=List.getElem?_eq_some_iff.1 g4
   have hg:=getD_map (f:=ai) hpc
   rw[hpe] at hg
   have h1:¬k=1:=by omega
   rw[if_neg h1,if_pos h] at hsp
   refine PC.enter 106 [.tmp 6] [3,5] Proofs.Tryz.func71 rfl rfl rfl rfl rfl (by simp) (AWp.of ?_);simp only[go_sem]
   repeat(first|((with_reducible refine AWp.ofC ?_ ?_);exact rfl;simp only[go_sem,(eq_true h),h1])|((with_reducible refine an ?_ ?_);exact Au))
   repeat(first|(with_reducible refine AWp.seq ?_)|(with_reducible refine AWp.block ?_))
   refine AWp.mix mixed [0,1,2,3,4,5,6,7,8,9,10,11,12,13,14,15] .done (by kernel_rfl) ?_;simp only[go_sem,hg]
   refine Sd ?_
   refine GCall.use (ai ix) (fun _=>⟨At,(g1).val.use ⟨rfl,rfl⟩⟩) ?_;simp only[go_sem,hg]
   refine Sd ?_
   refine Gc g2 ?_
   refine Sd ?_
   refine Wk ?_
   refine ret_eq ?_;simp only[go_sem]
   rw[hsp]
  ·obtain⟨p0,pc⟩:=lf3 h
   obtain⟨hpc,hpe⟩:=List.getElem?_eq_some_iff.1 pc
   have hg:=getD_map (f:=ai) hpc
   have h1:¬k=1:=by omega
   have h2:¬k=2:=by omega
   rw[if_neg h1,if_neg h2,if_pos h] at hsp
   rw[hpe] at hg
   refine PC.enter 106 [.tmp 6] [3,5] Proofs.Tryz.func71 rfl rfl rfl rfl rfl (by simp) (AWp.of ?_);simp only[go_sem]
   repeat(first|((with_reducible refine AWp.ofC ?_ ?_);exact rfl;simp only[go_sem,(eq_true h),h1,h2,hg])|((with_reducible refine an ?_ ?_);exact Au))
   refine ret_eq ?_;simp only[go_sem]
   rw[hsp]
  ·obtain⟨ms,m2,m3⟩:=lf4 h
   have h1:¬k=1:=by omega
   have h2:¬k=2:=by omega
   have h3:¬k=3:=by omega
   rw[if_neg h1,if_neg h2,if_neg h3,← m2] at hsp
   refine PC.enter 106 [.tmp 6] [3,5] Proofs.Tryz.func71 rfl rfl rfl rfl rfl (by simp) (AWp.of ?_);simp only[go_sem]
   repeat(first|((with_reducible refine AWp.ofC ?_ ?_);exact rfl;simp only[go_sem,(eq_true h),h1,h2,h3])|((with_reducible refine an ?_ ?_);exact Au))
   refine Sd ?_
   refine(m3).val.use ?_;simp only[go_sem]
   refine Wk ?_
   refine ret_eq ?_;simp only[go_sem]
   rw[hsp]
 ·obtain⟨a,rfl⟩:=len1 (l:=l) (by omega)
  have h5:k=5:=by omega
  have h1:¬k=1:=by omega
  have h2:¬k=2:=by omega
  have h3:¬k=3:=by omega
  have h4:¬k=4:=by omega
  obtain⟨c1,c2⟩:=hch a (by simp)
  have hza:=szL_mem (l:=[a]) (x:=a) (by simp)
  have hca:=ih a (by simp) (by omega) c1 c2 (hci (by simp) a (by simp)) (hos a (by simp)) (hls a (by simp))
  have hcb:=hcb a (by simp) (by simp)
  simp only[List.map_cons,List.map_nil,valN] at hsp
  generalize valF o a=A at *
  obtain⟨ka,na,pa,qa,sa,la⟩:=a
  simp only[aPd_mk,List.map_cons,List.map_nil] at *
  refine PC.enter 106 [.tmp 6] [3,5] Proofs.Tryz.func71 rfl rfl rfl rfl rfl (by simp) (AWp.of ?_);simp only[go_sem]
  repeat(first|((with_reducible refine AWp.ofC ?_ ?_);exact rfl;simp only[go_sem,(eq_true h5),h1,h2,h3,h4])|((with_reducible refine an ?_ ?_);exact Au))
  repeat(first|(with_reducible refine AWp.seq ?_)|(with_reducible refine AWp.block ?_))
  refine AWp.mix mixed [0,1,2,3,4,5,6,7,8] .done (by kernel_rfl) ?_;simp only[go_sem]
  refine Sd ?_
  refine Gc hca ?_
  refine Sd ?_
  refine Wk ?_
  refine ret_eq ?_;simp only[go_sem]
  rw[hsp]
 ·obtain⟨a,b,rfl⟩:=len2 (l:=l) (by omega)
  have h1:¬k=1:=by omega
  have h2:¬k=2:=by omega
  have h3:¬k=3:=by omega
  have h4:¬k=4:=by omega
  have h5:¬k=5:=by omega
  obtain⟨c1,c2⟩:=hch a (by simp)
  obtain⟨c3,c4⟩:=hch b (by simp)
  have hza:=szL_mem (l:=[a,b]) (x:=a) (by simp)
  have hzb:=szL_mem (l:=[a,b]) (x:=b) (by simp)
  have hca:=ih a (by simp) (by omega) c1 c2 (hci (by simp) a (by simp)) (hos a (by simp)) (hls a (by simp))
  have hcc:=ih b (by simp) (by omega) c3 c4 (hci (by simp) b (by simp)) (hos b (by simp)) (hls b (by simp))
  have hcba:=hcb a (by simp) (by simp)
  have hcbb:=hcb b (by simp) (by simp)
  simp only[List.map_cons,List.map_nil,valN] at hsp
  have hmw:=fun h=>mulW_eq (a:=valF o a) (b:=valF o b) h
  generalize valF o a=A at *
  generalize valF o b=B at *
  obtain⟨ka,na,pa,qa,sa,la⟩:=a
  obtain⟨kb,nb,pb,qb,sb,lb⟩:=b
  simp only[aPd_mk,List.map_cons,List.map_nil] at *
  refine PC.enter 106 [.tmp 6] [3,5] Proofs.Tryz.func71 rfl rfl rfl rfl rfl (by simp) (AWp.of ?_);simp only[go_sem]
  by_cases h6:k=6
  ·rw[if_pos h6] at hsp
   repeat(first|((with_reducible refine AWp.ofC ?_ ?_);exact rfl;simp only[go_sem,(eq_true h6),h1,h2,h3,h4,h5])|((with_reducible refine an ?_ ?_);exact Au))
   repeat(first|(with_reducible refine AWp.seq ?_)|(with_reducible refine AWp.block ?_))
   refine AWp.mix mixed [0,1,2,3,4,5,6,7,8,9,10,11,12,13,14,15] .done (by kernel_rfl) ?_;simp only[go_sem]
   refine Sd ?_
   refine Gc hca ?_
   refine Sd ?_
   refine Gc hcc ?_
   refine Sd ?_
   refine Wk ?_
   refine ret_eq ?_;simp only[go_sem]
   rw[hsp]
  by_cases h7:k=7
  ·rw[if_neg h6,if_pos h7] at hsp
   repeat(first|((with_reducible refine AWp.ofC ?_ ?_);exact rfl;simp only[go_sem,(eq_true h7),h1,h2,h3,h4,h5,h6])|((with_reducible refine an ?_ ?_);exact Au))
   repeat(first|(with_reducible refine AWp.seq ?_)|(with_reducible refine AWp.block ?_))
   refine AWp.mix mixed [0,1,2,3,4,5,6,7,8,9,10,11,12,13,14,15] .done (by kernel_rfl) ?_;simp only[go_sem]
   refine Sd ?_
   refine Gc hca ?_
   refine Sd ?_
   refine Gc hcc ?_
   refine Sd ?_
   refine Wk ?_
   refine ret_eq ?_;simp only[go_sem]
   rw[hsp]
  rw[if_neg h6,if_neg h7] at hsp
  have hmw:=hmw (by rw[← hsp];unfold I64;omega)
  repeat(first|((with_reducible refine AWp.ofC ?_ ?_);exact rfl;simp only[go_sem,h1,h2,h3,h4,h5,h6,h7])|((with_reducible refine an ?_ ?_);exact Au))
  refine AWp.seq ?_
  repeat(first|(with_reducible refine AWp.seq ?_)|(with_reducible refine AWp.block ?_))
  refine AWp.mix mixed [0,1,2,3,4,5,6,7,8,9,10,11,12,13,14,15] .done (by kernel_rfl) ?_;simp only[go_sem]
  refine Sd ?_
  refine Gc hca ?_
  refine Sd ?_
  refine Gc hcc ?_
  refine Sd ?_
  refine W1 hmw ?_
  refine ret_eq ?_;simp only[go_sem]
  rw[hsp]
 ·omega
theorem ref29_Truth (ps:List Pr) (c:List Int) (o:Obs) (hcl:c.length≤1000000) (t:Pd):szF t≤1000000→okT ps t=true→9≤t.kind→fitB ps t=true→allB ntmB t=true→AllP (obsB ps o) t→AllP (leafR ps c o) t →
  PC Proofs.Tryz.prog 29 [aTr ps,aInts c,aPd t] (ab (truF o t)):=by
 induction t using Pd.ind with
 | _ k n p q s l ih =>
 intro hz ht hk hi htm hob hlf
 obtain⟨o1,o2,o3,o4⟩:=okT_sub ht
 obtain⟨hpl,_⟩:=loc_len o1
 simp only[Pd.kind] at hk
 obtain⟨ht1,ht2⟩:=allB_sub htm
 have hnt:¬(18≤k∧k≤21):=by unfold ntmB tempB at ht1;simp at ht1;omega
 have hsz:szF (.mk k n p q s l)=szL l+1:=by rw[szF]
 have hsp:=truF_mk o k n p q s l
 have hfc:=fit_child hi hk
 obtain⟨_,hls⟩:=AllP_sub hlf
 obtain⟨_,hos⟩:=AllP_sub hob
 generalize truF o (.mk k n p q s l)=R at *
 unfold truN at hsp
 by_cases h12:k≤12
 ·have hch:=child_le ht h12
  obtain⟨a,b,rfl⟩:=len2 (l:=l) (by rcases parts_cases k with ⟨e,hc⟩|⟨e,hc⟩|⟨e,hc⟩|e <;> omega)
  obtain⟨c1,c2⟩:=hch a (by simp)
  obtain⟨c3,c4⟩:=hch b (by simp)
  have hza:=szL_mem (l:=[a,b]) (x:=a) (by simp)
  have hzb:=szL_mem (l:=[a,b]) (x:=b) (by simp)
  have hca:=ref29_Value ps c o hcl a (by omega) c1 c2 (fit_int (hfc a (by simp)) c2) (hos a (by simp)) (hls a (by simp))
  have hcc:=ref29_Value ps c o hcl b (by omega) c3 c4 (fit_int (hfc b (by simp)) c4) (hos b (by simp)) (hls b (by simp))
  simp only[List.map_cons,List.map_nil,List.getD_cons_zero,List.getD_cons_succ] at hsp
  generalize valF o a=A at *
  generalize valF o b=B at *
  clear ih hlf hls hob hos htm ht2 hch hfc
  obtain⟨ka,na,pa,qa,sa,la⟩:=a
  obtain⟨kb,nb,pb,qb,sb,lb⟩:=b
  simp only[aPd_mk,List.map_cons,List.map_nil] at *
  refine PC.enter 125 [.tmp 6] [3,5] Proofs.Tryz.func29 rfl rfl rfl rfl rfl (by simp) (AWp.of ?_);simp only[go_sem]
  by_cases h9:k=9
  ·rw[if_pos h9] at hsp
   repeat(first|((with_reducible refine AWp.ofC ?_ ?_);exact rfl;simp only[go_sem,(eq_true h9)])|((with_reducible refine an ?_ ?_);exact Au))
   repeat(first|(with_reducible refine AWp.seq ?_)|(with_reducible refine AWp.block ?_))
   refine AWp.mix mixed [0,1,2,3,4,5,6,7,8,9,10,11,12,13,14,15] .done (by kernel_rfl) ?_;simp only[go_sem]
   refine Sd ?_
   refine Gc hca ?_
   refine Sd ?_
   refine Gc hcc ?_
   refine Sd ?_
   refine Wk ?_
   refine ret_eq ?_;simp only[go_sem]
   rw[hsp]
  by_cases h10:k=10
  ·rw[if_neg h9,if_pos h10] at hsp
   repeat(first|((with_reducible refine AWp.ofC ?_ ?_);exact rfl;simp only[go_sem,(eq_true h10),h9])|((with_reducible refine an ?_ ?_);exact Au))
   repeat(first|(with_reducible refine AWp.seq ?_)|(with_reducible refine AWp.block ?_))
   refine AWp.mix mixed [0,1,2,3,4,5,6,7,8,9,10,11,12,13,14,15] .done (by kernel_rfl) ?_;simp only[go_sem]
   refine Sd ?_
   refine Gc hca ?_
   refine Sd ?_
   refine Gc hcc ?_
   refine Sd ?_
   refine Wk ?_
   refine ret_eq ?_;simp only[go_sem]
   rw[hsp]
  by_cases h11:k=11
  ·rw[if_neg h9,if_neg h10,if_pos h11] at hsp
   repeat(first|((with_reducible refine AWp.ofC ?_ ?_);exact rfl;simp only[go_sem,(eq_true h11),h9,h10])|((with_reducible refine an ?_ ?_);exact Au))
   repeat(first|(with_reducible refine AWp.seq ?_)|(with_reducible refine AWp.block ?_))
   refine AWp.mix mixed [0,1,2,3,4,5,6,7,8,9,10,11,12,13,14,15] .done (by kernel_rfl) ?_;simp only[go_sem]
   refine Sd ?_
   refine Gc hca ?_
   refine Sd ?_
   refine Gc hcc ?_
   refine Sd ?_
   refine Wk ?_
   refine ret_eq ?_;simp only[go_sem]
   rw[hsp]
  have h12:k=12:=by omega
  rw[if_neg h9,if_neg h10,if_neg h11,if_pos h12] at hsp
  repeat(first|((with_reducible refine AWp.ofC ?_ ?_);exact rfl;simp only[go_sem,(eq_true h12),h9,h10,h11])|((with_reducible refine an ?_ ?_);exact Au))
  repeat(first|(with_reducible refine AWp.seq ?_)|(with_reducible refine AWp.block ?_))
  refine AWp.mix mixed [0,1,2,3,4,5,6,7,8,9,10,11,12,13,14,15] .done (by kernel_rfl) ?_;simp only[go_sem]
  refine Sd ?_
  refine Gc hca ?_
  refine Sd ?_
  refine Gc hcc ?_
  refine Sd ?_
  refine Wk ?_
  refine ret_eq ?_;simp only[go_sem]
  rw[hsp]
 have h9:¬k=9:=by omega
 have h10:¬k=10:=by omega
 have h11:¬k=11:=by omega
 have h12:¬k=12:=by omega
 rw[if_neg h9,if_neg h10,if_neg h11,if_neg h12] at hsp
 have hch:=child_bool ht (by omega)
 rcases parts_cases k with ⟨e,hc⟩|⟨e,hc⟩|⟨e,hc⟩|e
 ·obtain rfl:=len0 (l:=l) (by omega)
  simp only[aPd_mk,List.map_nil] at *
  refine PC.enter 125 [.tmp 6] [3,5] Proofs.Tryz.func29 rfl rfl rfl rfl rfl (by simp) (AWp.of ?_);simp only[go_sem]
  by_cases h13:k=13
  ·rw[if_pos h13] at hsp
   repeat(first|((with_reducible refine AWp.ofC ?_ ?_);exact rfl;simp only[go_sem,(eq_true h13),h9,h10,h11,h12])|((with_reducible refine an ?_ ?_);exact Au))
   refine ret_eq ?_;simp only[go_sem]
   rw[hsp]
  ·have h14:k=14:=by omega
   rw[if_neg h13,if_pos h14] at hsp
   have h15:¬k=15:=by omega
   have h16:¬k=16:=by omega
   have h17:¬k=17:=by omega
   repeat(first|((with_reducible refine AWp.ofC ?_ ?_);exact rfl;simp only[go_sem,h9,h10,h11,h12,h13,h15,h16,h17])|((with_reducible refine an ?_ ?_);exact Au))
   refine ret_eq ?_;simp only[go_sem]
   rw[hsp]
 ·obtain⟨a,rfl⟩:=len1 (l:=l) (by omega)
  have h13:¬k=13:=by omega
  have h14:¬k=14:=by omega
  have h15:k=15:=by omega
  obtain⟨c1,c2⟩:=hch a (by simp)
  have hza:=szL_mem (l:=[a]) (x:=a) (by simp)
  have hca:=ih a (by simp) (by omega) c1 c2 (hfc a (by simp)) (ht2 a (by simp)) (hos a (by simp)) (hls a (by simp))
  simp only[List.map_cons,List.map_nil,List.getD_cons_zero,if_neg h13,if_neg h14,if_pos h15] at hsp
  generalize truF o a=A at *
  clear ih hlf hls hob hos htm ht2 hch hfc
  obtain⟨ka,na,pa,qa,sa,la⟩:=a
  simp only[aPd_mk,List.map_cons,List.map_nil] at *
  refine PC.enter 125 [.tmp 6] [3,5] Proofs.Tryz.func29 rfl rfl rfl rfl rfl (by simp) (AWp.of ?_);simp only[go_sem]
  repeat(first|((with_reducible refine AWp.ofC ?_ ?_);exact rfl;simp only[go_sem,(eq_true h15),h9,h10,h11,h12,h13])|((with_reducible refine an ?_ ?_);exact Au))
  repeat(first|(with_reducible refine AWp.seq ?_)|(with_reducible refine AWp.block ?_))
  refine AWp.mix mixed [0,1,2,3,4,5,6,7,8] .done (by kernel_rfl) ?_;simp only[go_sem]
  refine Sd ?_
  refine Gc hca ?_
  refine Sd ?_
  refine Wk ?_
  refine ret_eq ?_;simp only[go_sem]
  rw[hsp]
 ·obtain⟨a,b,rfl⟩:=len2 (l:=l) (by omega)
  have h13:¬k=13:=by omega
  have h14:¬k=14:=by omega
  have h15:¬k=15:=by omega
  obtain⟨c1,c2⟩:=hch a (by simp)
  obtain⟨c3,c4⟩:=hch b (by simp)
  have hza:=szL_mem (l:=[a,b]) (x:=a) (by simp)
  have hzb:=szL_mem (l:=[a,b]) (x:=b) (by simp)
  have hca:=ih a (by simp) (by omega) c1 c2 (hfc a (by simp)) (ht2 a (by simp)) (hos a (by simp)) (hls a (by simp))
  have hcc:=ih b (by simp) (by omega) c3 c4 (hfc b (by simp)) (ht2 b (by simp)) (hos b (by simp)) (hls b (by simp))
  simp only[List.map_cons,List.map_nil,List.getD_cons_zero,List.getD_cons_succ,if_neg h13,if_neg h14,if_neg h15] at hsp
  generalize truF o a=A at *
  generalize truF o b=B at *
  clear ih hlf hls hob hos htm ht2 hch hfc
  obtain⟨ka,na,pa,qa,sa,la⟩:=a
  obtain⟨kb,nb,pb,qb,sb,lb⟩:=b
  simp only[aPd_mk,List.map_cons,List.map_nil] at *
  refine PC.enter 125 [.tmp 6] [3,5] Proofs.Tryz.func29 rfl rfl rfl rfl rfl (by simp) (AWp.of ?_);simp only[go_sem]
  by_cases h16:k=16
  ·rw[if_pos h16] at hsp
   repeat(first|((with_reducible refine AWp.ofC ?_ ?_);exact rfl;simp only[go_sem,(eq_true h16),h9,h10,h11,h12,h13,h15])|((with_reducible refine an ?_ ?_);exact Au))
   repeat(first|(with_reducible refine AWp.seq ?_)|(with_reducible refine AWp.block ?_))
   refine AWp.mix mixed [0,1,2,3,4,5,6,7,8,9,10,11,12,13,14,15,16] .done (by kernel_rfl) ?_;simp only[go_sem]
   refine Sd ?_
   refine Gc hca ?_
   refine Sd ?_
   refine Gc hcc ?_
   refine Sd ?_
   refine Wk ?_
   refine ret_eq ?_;simp only[go_sem]
   rw[hsp]
  ·rw[if_neg h16] at hsp
   have h17:k=17:=by omega
   repeat(first|((with_reducible refine AWp.ofC ?_ ?_);exact rfl;simp only[go_sem,(eq_true h17),h9,h10,h11,h12,h13,h15,h16])|((with_reducible refine an ?_ ?_);exact Au))
   repeat(first|(with_reducible refine AWp.seq ?_)|(with_reducible refine AWp.block ?_))
   refine AWp.mix mixed [0,1,2,3,4,5,6,7,8,9,10,11,12,13,14,15,16] .done (by kernel_rfl) ?_;simp only[go_sem]
   refine Sd ?_
   refine Gc hca ?_
   refine Sd ?_
   refine Gc hcc ?_
   refine Sd ?_
   refine Wk ?_
   refine ret_eq ?_;simp only[go_sem]
   rw[hsp]
 ·omega
theorem stC_len (n p:Nat) (k:Int):(stC n p k).length=n:=by unfold stC;rw[List.length_set,List.length_replicate]
def lclAt (z:Int→Pd→Int) (ts:List Pd) (p:Nat):Int:=match ts[p]? with|some t=>z p t|none=>0
noncomputable def conF (ps:List Pr) (ts:List Pd):Int :=
 if validF ps=true∧ts.length=ps.length then match (List.range ts.length).find? (fun p=>decide (lclAt (fun p t=>lclF ps p 0 t) ts p ≠ 0)) with|some p=>lclAt (fun p t=>lclF ps p 0 t) ts p|none=>0 else 1
theorem AWp.only {C:Cfg} {cd:Code} {Q:AQ} {ρ:Env} {L:AHeap} (ks:List Nat) (h:AWp C cd Q (ks.zip (ks.map (get ρ))) L):AWp C cd Q ρ L :=
 AWp.st (fun w0 M A0 a w hh=>st_forget hh (get_zip ks ρ)) h
theorem Vw.mkRp {L:AHeap} {xs xs':List AV} {k i j:Nat} (h:Vws L xs xs'):Vw L (.rp k xs i j) (.rp k xs' i j):=.rp h.1 h.2
structure SatD (ps:List Pr) (E:Elim) (d:List Int):Prop where
 len:d.length=ps.length
 rng:inRangeF ps d=true
 clo:closedF ps d=true
 ok:∀p,p<ps.length→E.ok p (cAt d p).toNat=true
theorem stC_cAt {n p q:Nat} {k:Int} (hq:q<n):cAt (stC n p k) q=if p=q then k else 0:=by
 rw[cAt_nat (by rw[stC_len];exact hq)]
 unfold stC
 rw[List.getElem_set,List.getElem_replicate]
theorem need_le {ps:List Pr} (hv:validF ps=true) {d:List Int} (hd:d.length=ps.length) (hr:inRangeF ps d=true) (hcl:closedF ps d=true) {q k:Nat} (hq:q<ps.length) (hk:(k:Int)≤cAt d q):∀p,p<ps.length→cAt (closeF ps (stC ps.length q k)) p≤cAt d p:=by
 have h0:=(inRange_iff hd).1 hr
 obtain⟨a1,a2⟩:=stC_ok (k:=(k:Int)) hq (by omega) (by have:=(h0 q hq).2;omega)
 refine closeF_least hv hd hcl a1 a2 fun p hp => ?_
 rw[stC_cAt hp]
 split
 ·rename_i e;subst e;exact hk
 ·exact(h0 p hp).1
section
variable {ps:List Pr} {E:Elim}
end
open Classical in
noncomputable def anc (ps:List Pr) (x:Eid):Nat:=(evIds ps).countP fun e=>decide (Reach ps e.1 x)
theorem setc_cAt {d:List Int} {p q:Nat} {z:Int} (hq:q<d.length):cAt (d.set p z) q=if p=q then z else cAt d q:=by
 rw[cAt_nat (by rw[List.length_set];exact hq),List.getElem_set]
 split
 ·rfl
 ·rw[cAt_nat hq]
def isF (ps:List Pr) (c:List Int):Bool:=(decide (c.length=ps.length) && inRangeF ps c) && closedF ps c
theorem isF_iff {ps:List Pr} {c:List Int} : isF ps c=true↔c.length=ps.length∧inRangeF ps c=true∧closedF ps c=true:=by
 unfold isF
 rw[Bool.and_eq_true,Bool.and_eq_true,decide_eq_true_eq,and_assoc]
def stpC (c:List Int) (p:Nat):List Int:=c.set p (cAt c p+1)
def nx1 (ps:List Pr) (c:List Int) (p:Nat):List (List Int):=if cAt c p<nev ps p∧isF ps (stpC c p)=true then [stpC c p] else []
def nextT (ps:List Pr) (c:List Int) (k:Nat):List (List Int):=(List.range k).flatMap (nx1 ps c)
def nextL (ps:List Pr) (c:List Int):List (List Int):=nextT ps c c.length
def lexF:List Int→List Int→Bool
 | a :: x,b :: y=>if a=b then lexF x y else decide (a<b)
 | _,_=>false
def befF (a b:List Int):Bool:=if a.sum=b.sum then lexF a b else decide (a.sum<b.sum)
def insF (l:List (List Int)) (c:List Int):List (List Int):=if (l.dropWhile fun x=>befF x c).head?=some c then l else (l.takeWhile fun x=>befF x c) ++ c :: l.dropWhile fun x=>befF x c
def insL (acc l:List (List Int)):List (List Int):=l.foldl insF acc
def moreT (ps:List Pr) (lv:List (List Int)):List (List Int):=lv.foldl (fun acc c=>insL acc (nextL ps c)) []
def levF (ps:List Pr):Nat→List (List Int)
 | 0=>[List.replicate ps.length 0]
 | k+1=>moreT ps (levF ps k)
theorem sum_stpC {c:List Int} {p:Nat} (hp:p<c.length):(stpC c p).sum=c.sum+1:=by
 unfold stpC
 have h:=sum_set c p (cAt c p+1) hp
 have e:cAt c p=c.getD p 0:=by unfold cAt;simp
 rw[h,e];omega
theorem isF_nonneg {ps:List Pr} {c:List Int} (h:isF ps c=true):∀z ∈ c,0≤z:=fun z hz=>by
 obtain⟨h1,h2,_⟩:=isF_iff.1 h
 obtain⟨p,hp,rfl⟩:=List.getElem_of_mem hz
 have:=((inRange_iff h1).1 h2 p (by omega)).1
 rwa [cAt_nat hp] at this
theorem isF_zero {ps:List Pr} : isF ps (List.replicate ps.length 0)=true:=by
 have e:∀q:Int,cAt (List.replicate ps.length 0) q=0:=fun q=>by
  unfold cAt
  rw[List.getD_eq_getElem?_getD,List.getElem?_replicate]
  split <;> rfl
 have hl:(List.replicate ps.length (0:Int)).length=ps.length:=List.length_replicate
 refine isF_iff.2 ⟨hl,(inRange_iff hl).2 fun p hp => ?_,closed_iff.2 fun p hp i hi hk hle => ?_⟩
 ·rw[e];omega
 ·rw[e] at hle;omega
theorem sum_totC:∀ {c:List Int},(∀z ∈ c,0≤z)→c.sum=totC c
 | [],_=>rfl
 | a :: c,h=>by
  have h0:=h a List.mem_cons_self
  have:=sum_totC (c:=c) fun z hz=>h z (List.mem_cons_of_mem _ hz)
  unfold totC at *
  rw[List.sum_cons,List.map_cons,List.sum_cons,this]
  omega
theorem sum_le_off {ps:List Pr} {c:List Int} (h:isF ps c=true):c.sum≤off ps ps.length:=by
 obtain⟨h1,h2,_⟩:=isF_iff.1 h
 have h3:=totC_le h1 h2
 have h4:=sum_totC (isF_nonneg h)
 omega
def cumF (ps:List Pr) (k:Nat):List (List Int):=(List.range k).flatMap (levF ps)
def cutsF (ps:List Pr):List (List Int):=cumF ps (off ps ps.length+1)
end Go.AL
end
section
namespace Go.AL
open Go Go.RowKit
set_option maxRecDepth 4000
theorem lexF_iff:∀ {a b:List Int},a.length=b.length→(lexF a b=true↔cmpL a b<0)
 | [],[],_=>by simp [lexF,cmpL]
 | [],_ :: _,h=>by simp at h
 | _ :: _,[],h=>by simp at h
 | x :: a,y :: b,h=>by
  rw[cmpL_cons]
  unfold lexF
  by_cases e:x=y
  ·subst e
   rw[if_pos rfl,if_neg (by omega),if_neg (by omega)]
   exact lexF_iff (by simpa using h)
  ·rw[if_neg e,decide_eq_true_eq]
   by_cases c:x<y
   ·rw[if_pos c];omega
   ·rw[if_neg c,if_pos (by omega)];omega
end Go.AL
end
section
namespace Go.AL
open Go Go.RowKit Go.Sort Go.Proofs Go.Shelf
set_option maxRecDepth 4000
theorem bits_zero:PC Proofs.Tryz.prog 187 [.v (.int .u64 0)] (ai 0):=by
 refine PC.same (vs:=[.int .u64 0]) (enters_of Proofs.Tryz.func187 rfl rfl) (fun w A us h => ?_) fun w => ?_
 ·obtain⟨u,us,rfl,h1,h2⟩:=h.inv_cons
  obtain rfl:=h2.inv_nil
  rw[h1.inv_v]
 ·have L:=sortRows
  have h:=Any.bits_Len (SlLaysF0.n15.bits (P:=Proofs.Tryz.prog) (ρ:=sortRows_ren) { L with }) 0 w (by omega) (by omega)
  exact h
theorem insert_nil (g:FuncId):PC Proofs.Tryz.prog 243 [anil,ai 0,ai 0,.v (.func (.func g) #[] #[])] (.tup []):=by
 refine PC.enter 53 [] [] Proofs.Tryz.func243 rfl rfl rfl rfl rfl (by simp) (AWp.of ?_);simp only[go_sem]
 refine Wk ?_
 refine AWp.block (AWp.loopN [8] [0,1,2,3] (fun _ vs L=>L=[]∧vs=[ai 1]) 0 ⟨rfl,rfl⟩ ?_)
 rintro m vs L - ⟨rfl,rfl⟩
 simp only[go_sem]
 refine Wk ?_
 intro _
 refine ret_eq ?_;simp only[go_sem]
theorem pdq_nil (g:FuncId):PC Proofs.Tryz.prog 186 [anil,ai 0,ai 0,ai 0,.v (.func (.func g) #[] #[])] (.tup []):=by
 refine PC.enter 148 [] [] Proofs.Tryz.func186 rfl rfl rfl rfl rfl (by simp) (AWp.of ?_);simp only[go_sem]
 refine Wk ?_
 refine AWp.block (AWp.loopN [1,2,3,10,11] [0,4] (fun _ vs L=>L=[]∧vs=[ai 0,ai 0,ai 0,ab true,ab true]) 0 ⟨rfl,rfl⟩ ?_)
 rintro m vs L - ⟨rfl,rfl⟩
 simp only[go_sem]
 refine Wk ?_
 refine⟨fun h => ?_,fun h => ?_⟩
 ·refine Wk ?_
  refine Sd ?_
  refine(insert_nil g).val.use ?_;simp only[go_sem]
  refine Wk ?_
  refine ret_eq ?_;simp only[go_sem]
 ·exact absurd (by omega) h
theorem sort_nil (g:FuncId):PC Proofs.Tryz.prog 111 [anil,.v (.func (.func g) #[] #[])] (.tup []):=by
 refine PC.enter 14 [] [] Proofs.Tryz.func111 rfl rfl rfl rfl rfl (by simp) (AWp.of ?_);simp only[go_sem]
 refine Wk ?_
 refine Sd ?_
 refine(bits_zero).val.use ?_;simp only[go_sem]
 refine Wk ?_
 refine Sd ?_
 refine(pdq_nil g).val.use ?_;simp only[go_sem]
 refine Wk ?_
 refine ret_eq ?_;simp only[go_sem]
end Go.AL
end
section
namespace Go.AL
open Go Go.RowKit
set_option maxRecDepth 4000
theorem AppSt.snoc {t:TypeId} {k:Nat} {ys:List AV} {x:AV} (b cap n:Nat) (hn:n=ys.length+1):AppSt t k (ys ++ [x]) (.ls b k 0 n cap) [(b,.row t k (ys ++ [x]) cap)]:=by
 subst hn
 have:=AppSt.row (t:=t) (k:=k) b (ys ++ [x]) cap
 rwa [List.length_append] at this
theorem cAt_stp {c:List Int} {p q:Nat} (hq:q<c.length):cAt (stpC c p) q=if p=q then cAt c q+1 else cAt c q:=by
 unfold stpC
 rw[setc_cAt hq]
 split
 ·rename_i e;rw[e]
 ·rfl
def rdyF (ps:List Pr) (c:List Int) (p:Nat):Bool:=decide (cAt c p<nev ps p∧isF ps (stpC c p)=true)
def Cb (c:List Int):Prop:=c.length≤1000000∧∀z ∈ c,0≤z∧z≤1000000
theorem isF_cb {ps:List Pr} (hs:Sm ps) {c:List Int} (h:isF ps c=true):Cb c:=by
 obtain⟨h1,h2,_⟩:=isF_iff.1 h
 have:=hs.procs
 refine⟨by omega,fun z hz=>⟨isF_nonneg h z hz,?_⟩⟩
 obtain⟨p,hp,rfl⟩:=List.getElem_of_mem hz
 have h3:=((inRange_iff h1).1 h2 p (by omega)).2
 have:=hs.evs _ (List.getElem_mem (show p<ps.length by omega))
 rw[cAt_nat hp] at h3
 omega
theorem cb_take {c:List Int} (h:Cb c) (k:Nat):0≤(c.take k).sum∧(c.take k).sum≤1000000 * k:=by
 have h2:=h.2
 clear h
 induction c generalizing k with
 | nil=>rw[List.take_nil,List.sum_nil];omega
 | cons a c ih =>
  cases k with
  | zero=>simp
  | succ k =>
   have h0:=h2 a List.mem_cons_self
   have:=ih k fun z hz=>h2 z (List.mem_cons_of_mem _ hz)
   rw[List.take_succ_cons,List.sum_cons];omega
theorem take_sum {c:List Int} {k:Nat} (hk:k<c.length):(c.take (k+1)).sum=(c.take k).sum+c[k]:=by
 rw[List.take_add_one,List.getElem?_eq_getElem hk,List.sum_append];simp
theorem ref23_Size (c:List Int) (hc:Cb c):PC Proofs.Tryz.prog 66 [aInts c] (ai c.sum):=by
 have hl:=hc.1
 refine PC.enter 18 [.tmp 2] [] Proofs.Tryz.func66 rfl rfl rfl rfl rfl (by simp) (AWp.of ?_);simp only[go_sem]
 refine Wk ?_
 refine AWp.block (AWp.count 4 c.length [3] [0] (fun k vs L=>L=[]∧vs=[ai (c.take k).sum]) rfl rfl ⟨rfl,rfl⟩ ?_)
 rintro k vs L hk - ⟨rfl,rfl⟩
 have htk:=cb_take hc k
 simp only[go_sem]
 refine Wk ?_
 refine⟨fun h1 => ?_,fun h1 => ?_⟩
 ·have hkc:k<c.length:=by omega
  have hg:=getD_map (f:=ai) hkc
  have hz:=hc.2 _ (List.getElem_mem hkc)
  have ht:=take_sum hkc
  refine W1 hg ?_
  refine Sd ?_
  exact⟨_,List.Sublist.refl _,rfl,by rw[ht]⟩
 ·have:k=c.length:=by omega
  subst this
  rw[List.take_length]
  refine Wk ?_
  refine ret_eq ?_;simp only[go_sem]
theorem lexF_hit:∀ {a b:List Int} {k:Nat} (ha:k<a.length) (hb:k<b.length),a[k]=b[k]→lexF (a.drop k) (b.drop k)=lexF (a.drop (k+1)) (b.drop (k+1)):=fun {a b k} ha hb h=>by
 rw[List.drop_eq_getElem_cons ha,List.drop_eq_getElem_cons hb,lexF,if_pos h]
theorem lexF_no {a b:List Int} {k:Nat} (ha:k<a.length) (hb:k<b.length) (h:¬a[k]=b[k]):lexF (a.drop k) (b.drop k)=decide (a[k]<b[k]):=by
 rw[List.drop_eq_getElem_cons ha,List.drop_eq_getElem_cons hb,lexF,if_neg h]
theorem ref23_Before (a b:List Int) (ha:Cb a) (hb:Cb b) (hl:a.length=b.length):PC Proofs.Tryz.prog 22 [aInts a,aInts b] (ab (befF a b)):=by
 have h1:=ref23_Size a ha
 have h2:=ref23_Size b hb
 have hal:=ha.1
 unfold befF
 by_cases hs:a.sum=b.sum
 ·rw[if_pos hs]
  refine PC.enter 40 [.tmp 4] [] Proofs.Tryz.func22 rfl rfl rfl rfl rfl (by simp) (AWp.of ?_);simp only[go_sem]
  refine Wk ?_
  refine Sd ?_
  refine(h1).val.use ?_;simp only[go_sem]
  refine Sd ?_
  refine(h2).val.use ?_;simp only[go_sem]
  refine W1 hs ?_
  refine AWp.block (AWp.count 5 a.length [] [0,1] (fun k vs L=>L=[]∧lexF a b=lexF (a.drop k) (b.drop k)) rfl rfl ⟨rfl,rfl⟩ ?_)
  rintro k vs L hk - ⟨rfl,hI⟩
  simp only[go_sem]
  refine Wk ?_
  refine⟨fun h3 => ?_,fun h3 => ?_⟩
  ·have hka:k<a.length:=by omega
   have hkb:k<b.length:=by omega
   have ga:=getD_map (f:=ai) hka
   have gb:=getD_map (f:=ai) hkb
   refine AWp.seq (AWp.block (AWp.seq ?_))
   refine AWp.drawn mixed 9 (by kernel_rfl) ?_;simp only[go_sem,ga,gb]
   refine Sd ?_
   refine Wk ?_
   refine⟨fun h4 => ?_,fun h4 => ?_⟩
   ·refine AWp.drawn mixed 9 (by kernel_rfl) ?_;simp only[go_sem,ga,gb]
    refine Wk ?_
    refine ret_eq ?_;simp only[go_sem]
    rw[hI,lexF_no hka hkb h4]
   ·refine Wk ?_
    exact⟨_,List.Sublist.refl _,rfl,by rw[hI,lexF_hit hka hkb (by omega)]⟩
  ·have:k=a.length:=by omega
   subst this
   refine Wk ?_
   refine ret_eq ?_;simp only[go_sem]
   rw[hI,List.drop_length];rfl
 ·rw[if_neg hs]
  refine PC.enter 40 [.tmp 4] [] Proofs.Tryz.func22 rfl rfl rfl rfl rfl (by simp) (AWp.of ?_);simp only[go_sem]
  refine Wk ?_
  refine Sd ?_
  refine(h1).val.use ?_;simp only[go_sem]
  refine Sd ?_
  refine(h2).val.use ?_;simp only[go_sem]
  refine W1 hs ?_
  refine Sd ?_
  refine(h1).val.use ?_;simp only[go_sem]
  refine Sd ?_
  refine(h2).val.use ?_;simp only[go_sem]
  refine Wk ?_
  refine ret_eq ?_;simp only[go_sem]
theorem ref15_SameList (a b:List Int) (ha:a.length≤1000000):PC Proofs.Tryz.prog 69 [aInts a,aInts b] (ab (decide (a=b))):=by
 by_cases hl:a.length=b.length
 ·have hli:(a.length:Int)=b.length:=by omega
  refine PC.enter 26 [.tmp 4] [] Proofs.Tryz.func69 rfl rfl rfl rfl rfl (by simp) (AWp.of ?_);simp only[go_sem]
  refine W1 hli ?_
  refine AWp.block (AWp.count 5 a.length [] [0,1] (fun k vs L=>L=[]∧∀j (h1:j<a.length) (h2:j<b.length),j<k→a[j]=b[j]) rfl rfl ⟨rfl,fun j _ _ h=>by omega⟩ ?_)
  rintro k vs L hk - ⟨rfl,hI⟩
  simp only[go_sem]
  refine W1 hli ?_
  refine⟨fun h3 => ?_,fun h3 => ?_⟩
  ·have hka:k<a.length:=by omega
   have hkb:k<b.length:=by omega
   have ga:=getD_map (f:=ai) hka
   have gb:=getD_map (f:=ai) hkb
   refine AWp.seq (AWp.block (AWp.seq ?_))
   refine AWp.drawn mixed 9 (by kernel_rfl) ?_;simp only[go_sem,ga,gb]
   refine Sd ?_
   refine Wk ?_
   refine⟨fun h4 => ?_,fun h4 => ?_⟩
   ·refine Wk ?_
    refine ret_eq ?_;simp only[go_sem]
    rw[decide_eq_false]
    rintro rfl
    exact h4 rfl
   ·refine Wk ?_
    refine⟨_,List.Sublist.refl _,rfl,fun j j1 j2 hj => ?_⟩
    by_cases e:j=k
    ·subst e;omega
    ·exact hI j j1 j2 (by omega)
  ·refine Wk ?_
   refine ret_eq ?_;simp only[go_sem]
   rw[decide_eq_true]
   exact List.ext_getElem hl fun j j1 j2=>hI j j1 j2 (by omega)
 ·have hli:¬(a.length:Int)=b.length:=by omega
  rw[decide_eq_false fun h=>hl (by rw[h])]
  refine PC.enter 26 [.tmp 4] [] Proofs.Tryz.func69 rfl rfl rfl rfl rfl (by simp) (AWp.of ?_);simp only[go_sem]
  refine W1 hli ?_
  refine ret_eq ?_;simp only[go_sem]
theorem Vw.ofLs' {L:AHeap} {b k len c:Nat} {t:TypeId} {xs xs':List AV} {cap:Nat} (h:lk L b=some (.row t k xs cap)) (hl:len=xs.length) (hv:Vws L xs xs'):Vw L (.ls b k 0 len c) (.sl k xs'):=by
 subst hl
 exact .ls h (by omega) (by rw[List.drop_zero,List.take_length];exact hv.1) (by rw[List.drop_zero,List.take_length];exact hv.2)
def asg20 (e:Ev):Bool:=decide (20<(e.asg.length:Int))
theorem off_small {ps:List Pr} (hs:Sm ps):∀k,k≤ps.length→off ps k≤k * 1000000:=by
 intro k
 induction k with
 | zero=>intro _;simp [off]
 | succ k ih =>
  intro hk
  rw[off_succ (by omega)]
  have h1:=ih (by omega)
  have h2:=hs.evs _ (List.getElem_mem (show k<ps.length by omega))
  omega
theorem Vw.pre {L:AHeap} {b k n c:Nat} {t:TypeId} {xs ys:List AV} {cap:Nat} (h:lk L b=some (.row t k xs cap)) (hn:n≤xs.length) (ht:xs.take n=ys):Vw L (.ls b k 0 n c) (.sl k ys) :=
 .ls h (by omega) (by rw[List.drop_zero,ht]) (by rw[List.drop_zero,ht];exact(Vws.refl ys).2)
def fullC (ps:List Pr):List Int:=ps.map fun x=>(x.evs.length:Int)
end Go.AL
end
section
namespace Go.AL
open Go Go.RowKit
def addW (a b:Int):Int:=IntKind.i64.wrap (a+b)
def aAddW (C:Cfg) (o:Oper) (x y:AV) (ρ:Env) (L:AHeap) (K:ARes):Prop :=
 match x,y with
 | .v (.int .i64 a),.v (.int .i64 b)=>K (put ρ o.dst (ai (addW a b))) L
 | _,_=>False
def aopW (C:Cfg) (o:Oper) (ρ:Env) (L:AHeap) (K:ARes):Prop :=
 match o.op with
 | .binOp .add _ x y _=>aAddW C o (ev ρ x) (ev ρ y) ρ L K
 | _=>aop C o ρ L K
theorem aopW_sound {C:Cfg} {o:Oper} {ρ:Env} {L:AHeap} {K:ARes} (hd:dstOk C o) (hdef:∀c,o.op ≠ .defer c) (h:aopW C o ρ L K):AOp C o ρ L K:=by
 unfold aopW at h
 split at h
 ·rename_i t x y t' hop
  unfold aAddW at h
  split at h
  ·rename_i a b hx hy
   refine AOp.val hd hdef (fun ac w A hρ hL=>⟨.int .i64 (addW a b),?_,.v _⟩) h
   have h1:=hρ x;rw[hx] at h1;have h1:=h1.inv_v
   have h2:=hρ y;rw[hy] at h2;have h2:=h2.inv_v
   unfold execOp
   rw[hop]
   simp [h1,h2,binOp,eqGuard,Op.intArith,addW]
  ·exact h.elim
 ·exact aop_sound hd hdef h
def aregionW (C:Cfg):List Oper→Env→AHeap→ARes→Prop
 | [],ρ,L,K=>K ρ L
 | o :: rest,ρ,L,K=>o.guard=none∧aopW C o ρ L fun ρ L=>aregionW C rest ρ L K
def aregWK (C:Cfg) (rest:List Oper) (K:ARes) (ρ:Env) (L:AHeap):Prop:=aregionW C rest ρ L K
theorem aregionW_nil (C:Cfg) (ρ:Env) (L:AHeap) (K:ARes):aregionW C [] ρ L K=K ρ L:=rfl
theorem aregionW_cons (C:Cfg) (rest:List Oper) (o:Oper) (ρ:Env) (L:AHeap) (K:ARes):aregionW C (o :: rest) ρ L K=(o.guard=none∧aopW C o ρ L (aregWK C rest K)):=rfl
theorem aregionW_sound {C:Cfg} {ops:Array Oper} {K:ARes} {n:Nat} {w0:World} {M A0:Foot} {Q:Exit→Act→World→Prop} (hQ:∀a w,post w0 M A0 C.N K a w→Q .normal a w) (hok:ops.toList.all (operOk C.N)=true) :
  ∀(l:List Oper) (k:Nat),(∀j,l[j]?=ops[k+j]?)→∀(ρ:Env) (L:AHeap) (a:Act) (w:World),aregionW C l ρ L K→St w0 M A0 C.N ρ L a w→wpOpsIn (Fw C.r) n C.P ops Q (List.range' k l.length) a w
 | [],k,_,ρ,L,a,w,h,hs=>hQ a w ⟨ρ,L,h,hs⟩
 | o :: l,k,hl,ρ,L,a,w,h,hs=>by
  have h0:ops[k]?=some o:=by simpa using (hl 0).symm
  have ho:operOk C.N o=true:=List.all_eq_true.1 hok o (List.mem_of_getElem? (by simpa using h0))
  rw[List.length_cons,List.range'_succ,wpOpsIn_cons]
  refine wpOpIn_mono ?_ (AOp.gop h0 h.1 (aopW_sound (operOk_dst ho) (operOk_def ho) h.2) n w0 M A0 a w Q hs)
  rintro a' w' ⟨ρ',L',h1,h2⟩
  exact aregionW_sound hQ hok l (k+1) (fun j=>by have:=hl (j+1);simpa [Nat.add_assoc,Nat.add_comm 1 j] using this) ρ' L' a' w' h1 h2
theorem AWp.regionW {C:Cfg} {id:Nat} {ops:Array Oper} {Q:AQ} {ρ:Env} {L:AHeap} (h:aregionW C ops.toList ρ L (Q .normal)):AWp C (.region id ops false) Q ρ L:=fun hok n w0 M A0 a w hs=>by
 refine wpIn_region ?_
 have:=aregionW_sound (C:=C) (ops:=ops) (K:=Q .normal) (n:=n) (Q:=cq C w0 M A0 Q) (fun a w ⟨ρ',L',h1,h2⟩=>⟨ρ',L',h1,h2⟩) hok ops.toList 0 (by simp) ρ L a w h hs
 rwa [Array.length_toList,← List.range_eq_range'] at this
attribute [go_sem] aregionW_nil aregionW_cons aregWK aopW aAddW
end Go.AL
end
section
namespace Go.AL
open Go Go.RowKit
end Go.AL
end
section
namespace Go.AL
open Go Go.RowKit
def astepF (C:Cfg) (all:List Oper) (o:Oper) (ρ:Env) (L:AHeap) (K:ARes):Prop :=
 match o.guard with
 | none=>aop C o ρ L K
 | some (j,want)=>match gval all ρ j want with
  | some b=>(b=want→aop C o ρ L K)∧(b ≠ want→K (put ρ o.dst .any) L)
  | none=>False
def aregionF (C:Cfg) (all:List Oper):List Oper→Env→AHeap→ARes→Prop
 | [],ρ,L,K=>K ρ L
 | o :: rest,ρ,L,K=>astepF C all o ρ L fun ρ L=>aregionF C all rest ρ L K
def aregFK (C:Cfg) (all rest:List Oper) (K:ARes) (ρ:Env) (L:AHeap):Prop:=aregionF C all rest ρ L K
theorem aregionF_nil (C:Cfg) (all:List Oper) (ρ:Env) (L:AHeap) (K:ARes):aregionF C all [] ρ L K=K ρ L:=rfl
theorem aregionF_cons (C:Cfg) (all rest:List Oper) (o:Oper) (ρ:Env) (L:AHeap) (K:ARes):aregionF C all (o :: rest) ρ L K=astepF C all o ρ L (aregFK C all rest K):=rfl
theorem astepF_sound {C:Cfg} {ops:Array Oper} {i:Nat} {o:Oper} {ρ:Env} {L:AHeap} {K:ARes} (hi:ops[i]?=some o) (hok:operOk C.N o=true) (h:astepF C ops.toList o ρ L K):GOp C ops i ρ L K:=by
 have hd:=operOk_dst hok
 have hdef:=operOk_def hok
 unfold astepF at h
 split at h
 ·rename_i hg;exact AOp.gop hi hg (aop_sound hd hdef h)
 ·rename_i j want hg
  split at h
  ·rename_i b hv
   exact GOp.of_guard' hi hg hv hd (fun hb=>aop_sound hd hdef (h.1 hb)) h.2
  ·exact h.elim
theorem aregionF_sound {C:Cfg} {ops:Array Oper} {K:ARes} {n:Nat} {w0:World} {M A0:Foot} {Q:Exit→Act→World→Prop} (hQ:∀a w,post w0 M A0 C.N K a w→Q .normal a w) (hok:ops.toList.all (operOk C.N)=true) :
  ∀(l:List Oper) (k:Nat),(∀j,l[j]?=ops[k+j]?)→∀(ρ:Env) (L:AHeap) (a:Act) (w:World),aregionF C ops.toList l ρ L K→St w0 M A0 C.N ρ L a w→wpOpsIn (Fw C.r) n C.P ops Q (List.range' k l.length) a w
 | [],k,_,ρ,L,a,w,h,hs=>hQ a w ⟨ρ,L,h,hs⟩
 | o :: l,k,hl,ρ,L,a,w,h,hs=>by
  have h0:ops[k]?=some o:=by simpa using (hl 0).symm
  have ho:operOk C.N o=true:=List.all_eq_true.1 hok o (List.mem_of_getElem? (by simpa using h0))
  rw[List.length_cons,List.range'_succ,wpOpsIn_cons]
  refine wpOpIn_mono ?_ (astepF_sound h0 ho h n w0 M A0 a w Q hs)
  rintro a' w' ⟨ρ',L',h1,h2⟩
  exact aregionF_sound hQ hok l (k+1) (fun j=>by have:=hl (j+1);simpa [Nat.add_assoc,Nat.add_comm 1 j] using this) ρ' L' a' w' h1 h2
theorem AWp.regionF {C:Cfg} {id:Nat} {ops:Array Oper} {Q:AQ} {ρ:Env} {L:AHeap} (h:aregionF C ops.toList ops.toList ρ L (Q .normal)):AWp C (.region id ops false) Q ρ L:=fun hok n w0 M A0 a w hs=>by
 refine wpIn_region ?_
 have:=aregionF_sound (C:=C) (ops:=ops) (K:=Q .normal) (n:=n) (Q:=cq C w0 M A0 Q) (fun a w ⟨ρ',L',h1,h2⟩=>⟨ρ',L',h1,h2⟩) hok ops.toList 0 (by simp) ρ L a w h hs
 rwa [Array.length_toList,← List.range_eq_range'] at this
attribute [go_sem] aregionF_nil aregionF_cons astepF aregFK
end Go.AL
end
section
namespace Go.AL
open Go Go.RowKit
set_option maxRecDepth 4000
section
variable {ps:List Pr} {ts:List Pd}
end
def leqF (a b:List Int):Bool:=decide (a.length=b.length) && (List.range a.length).all fun i=>decide (a.getD i 0≤b.getD i 0)
theorem leqF_ne {a b:List Int} (h:¬a.length=b.length):leqF a b=false:=by unfold leqF;rw[decide_eq_false h];rfl
theorem leqF_iff {a b:List Int} : leqF a b=true↔a.length=b.length∧∀i,i<a.length→a.getD i 0≤b.getD i 0:=by
 unfold leqF
 rw[Bool.and_eq_true,List.all_eq_true,decide_eq_true_eq]
 exact⟨fun h=>⟨h.1,fun i hi=>of_decide_eq_true (h.2 i (List.mem_range.2 hi))⟩,fun h=>⟨h.1,fun i hi=>decide_eq_true (h.2 i (List.mem_range.1 hi))⟩⟩
def OwnS (xs:List (List Int)) (v:AV) (L:AHeap):Prop :=
 (xs=[]∧v=anil∧L=[])∨∃b cap ws,v = .ls b 1 0 xs.length cap∧L=[(b,.row 33 1 (xs.map aInts ++ ws) cap)]
theorem OwnS.fo {xs:List (List Int)} {v:AV} {L:AHeap} (h:OwnS xs v L):AL.fo v=(True,v):=by
 rcases h with ⟨_,rfl,_⟩|⟨b,cap,ws,rfl,_⟩ <;> rfl
def idxF (l:List (List Int)) (c:List Int):Int:=match l.findIdx? fun d=>decide (c=d) with|some i=>(i:Int)|none => -1
section
variable {ps:List Pr} {c:List Int}
variable {j:List Int} {ch:Int→Int→Int}
end
end Go.AL
end
