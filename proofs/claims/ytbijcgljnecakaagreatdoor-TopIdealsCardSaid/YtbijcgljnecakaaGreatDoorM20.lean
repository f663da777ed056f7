/- Texts of this claim's proof: WJ7, WJ8, WI1, WI2, WI3, WI4, WI5, WJ9. No condition. -/
import Derived.Test.YtbijcgljnecakaaGreatDoorM19
import Derived.Test.YtbijcgljnecakaaGreatDoorM14
import Derived.Test.YtbijcgljnecakaaGreatDoorM10
import Derived.Test.YtbijcgljnecakaaGreatDoorM17
import Derived.Test.YtbijcgljnecakaaGreatDoorM9
import Derived.Test.YtbijcgljnecakaaGreatDoorM8
import Derived.Test.YtbijcgljnecakaaGreatDoorM13
import Derived.Test.YtbijcgljnecakaaGreatDoorM16
import Derived.Test.YtbijcgljnecakaaGreatDoorM12
section
namespace Go.AL
open Go Go.RowKit
set_option maxRecDepth 4000
noncomputable abbrev ordZ (ps:List Pr):Nat→Nat→Bool:=ordX ps (exF ps [])
theorem num_inj {ps:List Pr} {p i q j:Nat} (hp:p<ps.length) (hi:i<ps[p].evs.length) (hq:q<ps.length) (hj:j<ps[q].evs.length) (h:off ps p+i=off ps q+j):p=q∧i=j:=by
 have h1:=evE_at hp hi
 rw[h,evE_at hq hj,Prod.mk.injEq] at h1
 omega
theorem filt_eq (t n:Nat):(List.range n).filter (fun i=>decide (i=t))=if t<n then [t] else []:=by
 induction n with
 | zero=>rfl
 | succ n ih =>
  rw[List.range_succ,List.filter_append,ih]
  by_cases e:n=t
  ·subst e
   rw[if_neg (by omega),if_pos (by omega),List.filter_cons_of_pos (by simp)];rfl
  ·rw[List.filter_cons_of_neg (by simpa using e)]
   by_cases h:t<n
   ·rw[if_pos h,if_pos (by omega)];rfl
   ·rw[if_neg h,if_neg (by omega)];rfl
theorem filt_proc {ps:List Pr} {P b:Nat→Bool} {t:Nat→Nat} (h:∀(p:Nat) (hp:p<ps.length) (i:Nat),i<ps[p].evs.length→P (off ps p+i)=(decide (i=t p) && b p)) (ht:∀(p:Nat) (hp:p<ps.length),b p=true→t p<ps[p].evs.length) :
  ∀k,k≤ps.length→(List.range (off ps k)).filter P=((List.range k).filter b).map fun p=>off ps p+t p
 | 0,_=>by simp [off]
 | k+1,hk=>by
  have hk':k<ps.length:=by omega
  have ih:=filt_proc h ht k (by omega)
  have hr:(List.range ps[k].evs.length).filter (P ∘ fun i=>off ps k+i)=if b k=true then [t k] else []:=by
   rw[List.filter_congr (p:=P ∘ fun i=>off ps k+i) (q:=fun i=>decide (i=t k) && b k) fun i hi=>h k hk' i (List.mem_range.1 hi)]
   cases hb:b k with
   | false=>simp
   | true =>
    have:=filt_eq (t k) ps[k].evs.length
    rw[if_pos (ht k hk' hb)] at this
    simpa using this
  rw[off_succ hk',List.range_add,List.filter_append,ih,List.filter_map,hr,List.range_succ,List.filter_append,List.map_append]
  congr 1
  cases hb:b k with
  | false=>rw[if_neg (by decide),List.filter_cons_of_neg (by rw[hb];decide)];rfl
  | true=>rw[if_pos rfl,List.filter_cons_of_pos hb];rfl
section
variable {ps:List Pr} (hv:validF ps=true)
include hv
theorem hb_at {p a q b:Nat} (hp:p<ps.length) (ha:a<ps[p].evs.length) (hq:q<ps.length) (hb:b<ps[q].evs.length) :
  ordZ ps (off ps p+a) (off ps q+b)=(!decide (off ps p+a=off ps q+b) && decide ((a:Int)+1≤cAt (ptF ps q b) p)):=by
 show ordX ps (exF ps []) _ _=_
 rw[← hb_ord hv (off_lt hq hb)]
 unfold hbX
 rw[evE_at hp ha,evE_at hq hb]
 have e:((b:Int)+1).toNat - 1=b:=by omega
 simp only[Int.toNat_natCast,e]
theorem idl_is {c:List Int} (hl:c.length=ps.length) (hr:inRangeF ps c=true):idlB (off ps ps.length) (ordZ ps) (setC ps c)=isF ps c:=by
 have hm:=(valid_parts hv).2.2
 rw[Bool.eq_iff_iff,idlB_iff]
 constructor
 ·intro h
  refine isF_iff.2 ⟨hl,hr,closed_iff.2 fun q hq i hi hk hle => ?_⟩
  have h1:=closed_iff.1 (isF_iff.1 (pt_is hv hq hi)).2.2 q hq i hi hk (pt_has hv hq hi)
  obtain⟨s,hs,j,hj,e,_,_⟩:=sndr_some (recv_sndr hm hq hi hk)
  rw[e] at h1 ⊢
  simp only at h1 ⊢
  by_cases hne:off ps s+j=off ps q+i
  ·obtain⟨e1,e2⟩:=num_inj hs hj hq hi hne
   subst e1;subst e2;exact hle
  ·have h2:=h (off ps s+j) (off ps q+i) (off_lt hs hj) (off_lt hq hi) (by rw[hb_at hv hs hj hq hi,decide_eq_false hne,decide_eq_true h1];rfl) (by rw[setC_at hq hi];exact decide_eq_true hle)
   rw[setC_at hs hj] at h2
   exact of_decide_eq_true h2
 ·intro hc i j hi hj h1 h2
  obtain⟨p,a,hp,ha,rfl⟩:=num_form ps.length (Nat.le_refl _) hi
  obtain⟨q,b,hq,hb,rfl⟩:=num_form ps.length (Nat.le_refl _) hj
  rw[hb_at hv hp ha hq hb,Bool.and_eq_true,decide_eq_true_eq] at h1
  rw[setC_at hq hb,decide_eq_true_eq] at h2
  rw[setC_at hp ha,decide_eq_true_eq]
  have:=pt_least hv hq hc h2 p hp
  omega
theorem nx_at {c:List Int} (hc:isF ps c=true) {p:Nat} (hp:p<ps.length) {i:Nat} (hi:i<ps[p].evs.length) :
  nxN (off ps ps.length) (fun i j=>ordZ ps j i) (setC ps c) (off ps p+i)=(decide (i=(cAt c p).toNat) && rdyF ps c p):=by
 obtain⟨hl,hr,_⟩:=isF_iff.1 hc
 have h0:=(inRange_iff hl).1 hr
 have hp0:=h0 p hp
 unfold nxN
 rw[setC_at hp hi]
 by_cases h1:(i:Int)+1≤cAt c p
 ·rw[decide_eq_true h1,decide_eq_false (show ¬i=(cAt c p).toNat by omega)];rfl
 rw[decide_eq_false h1,Bool.not_false,Bool.true_and]
 by_cases h2:i=(cAt c p).toNat
 ·rw[decide_eq_true h2,Bool.true_and]
  have hrd:=rdy_pt hv hc hp (by rw[nev_get hp];omega)
  rw[← h2] at hrd
  rw[Bool.eq_iff_iff,hrd]
  unfold subN
  rw[List.all_eq_true]
  constructor
  ·intro h q hq hqp
   apply Classical.byContradiction
   intro hlt
   have hqr:=(inRange_iff (isF_iff.1 (pt_is hv hp hi)).1).1 (isF_iff.1 (pt_is hv hp hi)).2.1 q hq
   have hq0:=h0 q hq
   obtain⟨a,ha⟩:∃a:Nat,cAt (ptF ps p i) q=(a:Int)+1:=⟨(cAt (ptF ps p i) q).toNat - 1,by omega⟩
   have hal:a<ps[q].evs.length:=by omega
   have h3:=h (off ps q+a) (List.mem_range.2 (off_lt hq hal))
   have hne:¬off ps q+a=off ps p+i:=fun e=>hqp (num_inj hq hal hp hi e).1
   dsimp only at h3
   rw[hb_at hv hq hal hp hi,decide_eq_false hne,decide_eq_true (show (a:Int)+1≤cAt (ptF ps p i) q by omega),setC_at hq hal,decide_eq_false (show ¬(a:Int)+1≤cAt c q by omega)] at h3
   cases h3
  ·intro h j hj
   obtain⟨q,a,hq,ha,rfl⟩:=num_form ps.length (Nat.le_refl _) (List.mem_range.1 hj)
   dsimp only
   rw[hb_at hv hq ha hp hi,setC_at hq ha]
   by_cases hne:off ps q+a=off ps p+i
   ·rw[decide_eq_true hne];rfl
   by_cases h3:(a:Int)+1≤cAt (ptF ps p i) q
   ·have h4:(a:Int)+1≤cAt c q:=by
     by_cases e:q=p
     ·subst e
      have:=pt_self hv hp (i:=i) (by rw[nev_get hp];exact hi)
      have hai:¬a=i:=fun e=>hne (by rw[e])
      omega
     ·have:=h q hq e;omega
    rw[decide_eq_true h4,Bool.or_true]
   ·rw[decide_eq_false h3,Bool.and_false];rfl
 ·rw[decide_eq_false h2,Bool.false_and]
  unfold subN
  rw[List.all_eq_false]
  have ha:(cAt c p).toNat<ps[p].evs.length:=by omega
  refine⟨off ps p+(cAt c p).toNat,List.mem_range.2 (off_lt hp ha),?_⟩
  have hs:=pt_self hv hp (i:=i) (by rw[nev_get hp];exact hi)
  dsimp only
  rw[hb_at hv hp ha hp hi,setC_at hp ha,decide_eq_false (show ¬off ps p+(cAt c p).toNat=off ps p+i by omega),decide_eq_true (show ((cAt c p).toNat:Int)+1≤cAt (ptF ps p i) p by omega),decide_eq_false (show ¬((cAt c p).toNat:Int)+1≤cAt c p by omega)]
  decide
theorem nx_list {c:List Int} (hc:isF ps c=true):(List.range (off ps ps.length)).filter (nxN (off ps ps.length) (fun i j=>ordZ ps j i) (setC ps c))=(enF ps c ps.length).map fun p=>off ps p+(cAt c p).toNat:=by
 obtain⟨hl,hr,_⟩:=isF_iff.1 hc
 refine filt_proc (fun p hp i hi=>nx_at hv hc hp hi) (fun p hp hb => ?_) _ (Nat.le_refl _)
 have h0:=(inRange_iff hl).1 hr p hp
 unfold rdyF at hb
 have:=(of_decide_eq_true hb).1
 rw[nev_get hp] at this
 omega
theorem fr_at {c:List Int} (hc:isF ps c=true) {p:Nat} (hp:p<ps.length) {i:Nat} (hi:i<ps[p].evs.length) :
  frN (off ps ps.length) (ordZ ps) (setC ps c) (off ps p+i)=(decide (i=(cAt c p).toNat - 1) && remB ps c p):=by
 obtain⟨hl,hr,_⟩:=isF_iff.1 hc
 have h0:=(inRange_iff hl).1 hr
 have hp0:=h0 p hp
 unfold frN
 rw[setC_at hp hi]
 by_cases h1:(i:Int)+1≤cAt c p
 rotate_left
 ·rw[decide_eq_false h1,Bool.false_and]
  by_cases h2:i=(cAt c p).toNat - 1
  ·unfold remB
   rw[decide_eq_false (show ¬0<cAt c p by omega),Bool.false_and,Bool.and_false]
  ·rw[decide_eq_false h2,Bool.false_and]
 rw[decide_eq_true h1,Bool.true_and]
 by_cases h2:i=(cAt c p).toNat - 1
 rotate_left
 ·rw[decide_eq_false h2,Bool.false_and,decide_eq_false_iff_not,cntB_zero]
  intro h
  have hi1:i+1<ps[p].evs.length:=by omega
  have h3:=h (off ps p+(i+1)) (off_lt hp hi1)
  have hs:=pt_self hv hp (i:=i+1) (by rw[nev_get hp];exact hi1)
  rw[hb_at hv hp hi hp hi1,setC_at hp hi1,decide_eq_false (show ¬off ps p+i=off ps p+(i+1) by omega),decide_eq_true (show (i:Int)+1≤cAt (ptF ps p (i+1)) p by omega),decide_eq_true (show ((i+1:Nat):Int)+1≤cAt c p by omega)] at h3
  cases h3
 ·rw[decide_eq_true h2,Bool.true_and]
  have htl:(takC c p).length=ps.length:=by unfold takC;rw[List.length_set];exact hl
  have htr:inRangeF ps (takC c p)=true:=(inRange_iff htl).2 fun q hq=>by
   rw[tak_at (by omega)]
   split
   ·rename_i e;subst e;omega
   ·exact h0 q hq
  have hst:∀q a,(hq:q<ps.length)→a<ps[q].evs.length→setC ps (takC c p) (off ps q+a)=(setC ps c (off ps q+a) && !decide (off ps q+a=off ps p+i)):=fun q a hq ha=>by
   rw[setC_at hq ha,setC_at hq ha,tak_at (by omega)]
   by_cases e:p=q
   ·subst e
    rw[if_pos rfl]
    by_cases e2:a=i
    ·rw[e2,decide_eq_false (show ¬(i:Int)+1≤cAt c p - 1 by omega)];simp
    ·rw[decide_eq_false (show ¬off ps p+a=off ps p+i by omega),Bool.not_false,Bool.and_true,decide_eq_decide];omega
   ·have:¬off ps q+a=off ps p+i:=fun h=>e (num_inj hq ha hp hi h).1.symm
    rw[if_neg e,decide_eq_false this,Bool.not_false,Bool.and_true]
  unfold remB
  rw[decide_eq_true (show 0<cAt c p by omega),Bool.true_and,← idl_is hv htl htr,Bool.eq_iff_iff,decide_eq_true_iff,cntB_zero,idlB_iff]
  have hid:=idlB_iff.1 ((idl_is hv hl hr).trans hc)
  constructor
  ·intro h x y hx hy h3 h4
   obtain⟨q,a,hq,ha,rfl⟩:=num_form ps.length (Nat.le_refl _) hx
   obtain⟨s,b,hs,hb,rfl⟩:=num_form ps.length (Nat.le_refl _) hy
   rw[hst s b hs hb,Bool.and_eq_true] at h4
   rw[hst q a hq ha,hid _ _ hx hy h3 h4.1,Bool.true_and,Bool.not_eq_true',decide_eq_false_iff_not]
   intro e
   rw[e] at h3
   have:=h _ hy
   rw[h3,h4.1] at this;cases this
  ·intro h y hy
   obtain⟨s,b,hs,hb,rfl⟩:=num_form ps.length (Nat.le_refl _) hy
   cases h3:ordZ ps (off ps p+i) (off ps s+b) with
   | false=>rfl
   | true =>
    cases h4:setC ps c (off ps s+b) with
    | false=>rfl
    | true =>
     have hne:¬off ps s+b=off ps p+i:=fun e=>by
      rw[e] at h3
      have:=ord_irr (ps:=ps) (l:=[]) (off ps p+i)
      rw[show ordZ ps (off ps p+i) (off ps p+i)=ordX ps (exF ps []) (off ps p+i) (off ps p+i) from rfl,this] at h3
      cases h3
     have:=h _ _ (off_lt hp hi) (off_lt hs hb) h3 (by rw[hst s b hs hb,h4,decide_eq_false hne];rfl)
     rw[hst p i hp hi,decide_eq_true rfl] at this
     simp at this
theorem fr_list {c:List Int} (hc:isF ps c=true):(List.range (off ps ps.length)).filter (frN (off ps ps.length) (ordZ ps) (setC ps c))=((List.range ps.length).filter (remB ps c)).map fun p=>off ps p+((cAt c p).toNat - 1):=by
 obtain⟨hl,hr,_⟩:=isF_iff.1 hc
 refine filt_proc (fun p hp i hi=>fr_at hv hc hp hi) (fun p hp hb => ?_) _ (Nat.le_refl _)
 have h0:=(inRange_iff hl).1 hr p hp
 unfold remB at hb
 rw[Bool.and_eq_true,decide_eq_true_eq] at hb
 omega
theorem irr_fr {c:List Int} (hc:isF ps c=true):decide (cntB (frN (off ps ps.length) (ordZ ps) (setC ps c)) (off ps ps.length)=1)=irrF ps c:=by
 have hl:=(isF_iff.1 hc).1
 unfold irrF remN cntB
 rw[fr_list hv hc,List.length_map,hl]
omit hv in
theorem set_step {c:List Int} (hl:c.length=ps.length) {p:Nat} (hp:p<ps.length) {i:Nat} (hi:i<ps[p].evs.length) (hic:cAt c p=i) {j:Nat} (hj:j<off ps ps.length):setC ps (stpC c p) j=(setC ps c j || decide (j=off ps p+i)):=by
 obtain⟨q,a,hq,ha,rfl⟩:=num_form ps.length (Nat.le_refl _) hj
 unfold stpC
 rw[setC_at hq ha,setC_at hq ha,setc_cAt (by omega),hic]
 by_cases e:p=q
 ·subst e
  rw[if_pos rfl,Bool.eq_iff_iff,decide_eq_true_iff,Bool.or_eq_true,decide_eq_true_iff,decide_eq_true_iff,hic]
  omega
 ·have:¬off ps q+a=off ps p+i:=fun h=>e (num_inj hq ha hp hi h).1.symm
  rw[if_neg e,decide_eq_false this,Bool.or_false]
omit hv in
theorem set_join {c d:List Int} (hc:c.length=ps.length) (hd:d.length=ps.length) {j:Nat} (hj:j<off ps ps.length):setC ps (joinL c d) j=(setC ps c j || setC ps d j):=by
 obtain⟨q,a,hq,ha,rfl⟩:=num_form ps.length (Nat.le_refl _) hj
 rw[setC_at hq ha,setC_at hq ha,setC_at hq ha,join_cAt (by omega) (by omega),Bool.eq_iff_iff,Bool.or_eq_true,decide_eq_true_iff,decide_eq_true_iff,decide_eq_true_iff]
 split <;> omega
omit hv in
theorem set_meet {c d:List Int} (hc:c.length=ps.length) (hd:d.length=ps.length) {j:Nat} (hj:j<off ps ps.length):setC ps (meetL c d) j=(setC ps c j && setC ps d j):=by
 obtain⟨q,a,hq,ha,rfl⟩:=num_form ps.length (Nat.le_refl _) hj
 rw[setC_at hq ha,setC_at hq ha,setC_at hq ha,meet_cAt (by omega) (by omega),Bool.eq_iff_iff,Bool.and_eq_true,decide_eq_true_iff,decide_eq_true_iff,decide_eq_true_iff]
 split <;> omega
end
theorem given_oneP {ps:List Pr} {c:List Int} (h:givenF ps [c] []=0) {p:Nat} (hp:p<ps.length):givenF ps [c] [(p:Int)]=0:=by
 have e:[(p:Int)].all (fun p=>decide (0≤p) && decide (p<(ps.length:Int)))=true:=by
  simp only[List.all_cons,List.all_nil,Bool.and_true,Bool.and_eq_true,decide_eq_true_eq];omega
 unfold givenF at h ⊢
 rw[e]
 exact h
theorem cut_Advance (ps:List Pr) (hs:Sm ps) (hv:validF ps=true) (c:List Int) (hc:isF ps c=true) (p:Nat) (hp:p<ps.length) (i:Nat) (hi:i<ps[p].evs.length) (hic:cAt c p=i) (hst:isF ps (stpC c p)=true) :
  PC Proofs.Tryz.prog 24 [aTr ps,aInts c,ai p] (.tup [aInts (stpC c p),ai 0]):=by
 have h1:=cut_given ps hs [c] (by simp) [(p:Int)] (by simp)
 rw[given_oneP ((isF_given hv).2 hc) hp] at h1
 have h2:=cut_enabled ps hs hv c hc p hp i hi hic
 rw[hst] at h2
 have hcl:=(isF_iff.1 hc).1
 have h8:=(valid_len hv).2
 have hpc:p<c.length:=by omega
 have h3:=ints_cloneO c (by omega)
 have hgp:=getD_map (f:=aPr) hp
 have hgc:=getD_map (f:=ai) hpc
 rw[← cAt_nat hpc,hic] at hgc
 have hel:=hs.evs _ (List.getElem_mem hp)
 have hne:¬(i:Int)=(ps[p].evs.length:Int):=by omega
 have hset:(c.map ai).set p (ai ((i:Int)+1))=(stpC c p).map ai:=by unfold stpC;rw[hic,List.map_set]
 have hsl:((stpC c p).map ai).length=c.length:=by unfold stpC;rw[List.length_map,List.length_set]
 have hlm:(c.map ai).length=c.length:=List.length_map _
 have hTr:aTr ps = .agg [.sl 3 (ps.map aPr)]:=rfl
 have hcI:aInts c = .sl 1 (c.map ai):=rfl
 have hcR:aRows [c] = .sl 1 [.sl 1 (c.map ai)]:=rfl
 have hcS:aInts (stpC c p) = .sl 1 ((stpC c p).map ai):=rfl
 have hcP:aInts [(p:Int)] = .sl 1 [ai p]:=rfl
 have hpl:((ps.map aPr).length:Int)=ps.length:=by rw[List.length_map]
 rw[hTr,hcI] at h2
 rw[hTr,hcR,hcP] at h1
 rw[hcI] at h3
 rw[hTr,hcI,hcS]
 have hnn:0<c.length:=by omega
 generalize (stpC c p).map ai=CS at *
 have hpp:(ps.map aPr).length=ps.length:=List.length_map _
 generalize c.map ai=CC at *
 generalize ps.map aPr=PP at *
 refine PC.enter 47 [.tmp 6,.tmp 7] [3,12,14] Proofs.Tryz.func24 rfl rfl rfl rfl rfl (by simp) (AWp.of ?_);simp only[go_sem]
 refine Wk ?_
 refine Sd ?_
 refine(h1).val.use ?_;simp only[go_sem]
 refine Wk ?_
 repeat(first|(with_reducible refine AWp.seq ?_)|(with_reducible refine AWp.block ?_))
 refine AWp.mix mixed [0,1,2,3,4,5,6,7,8,9,10,11,12] .done (by kernel_rfl) ?_;simp only[go_sem,hgp,hgc,hlm,hpp]
 refine Sd ?_
 refine W1 hne ?_
 refine Sd ?_
 refine(h2).val.use ?_;simp only[go_sem]
 refine Wk ?_
 refine(MVal.frame (Lm:=[]) (Lr:=[]) h3.val).mono ?_
 rintro r L ⟨L1,rfl,hA⟩
 rcases hA.inv with ⟨e1,_,_⟩|⟨b,cap,rfl,rfl⟩
 ·rw[e1] at hlm;simp at hlm;omega
 ·simp only[go_sem]
  refine W3 hlm hgc hset ?_
  refine ret_view [true,true] ?_;simp only[go_sem]
  exact .mkTup (Vws.cons (Vw.ofLs (t:=3) (cap:=cap) (if_pos rfl) hsl.symm) (Vws.refl _))
def oppL:List (Int × Int)→Int→Int
 | [],k=>k
 | (a,b) :: r,k=>if k=a then b else if k=b then a else oppL r k
def prsO:List (Int × Int):=[(13,14),(16,17),(9,10),(11,12),(18,21),(19,20)]
def oppF (k:Int):Int:=oppL prsO k
mutual
def normF:Pd→Bool→Pd
 | .mk k n p q s l,b=>if k=15 then hdN l (!b) else .mk (if b then oppF k else k) n p q s (if 16≤k∧k≤21 then nrmL l b else if b=true∧(k=11∨k=12) then l.reverse else l)
def hdN:List Pd→Bool→Pd
 | [],_ => .mk 0 0 0 0 ByteArray.empty []
 | x :: _,b=>normF x b
def nrmL:List Pd→Bool→List Pd
 | [],_=>[]
 | x :: r,b=>normF x b :: nrmL r b
end
theorem intsC_index (l:List Int) (hl:l.length≤1000001) (m:Int):PC Proofs.Tryz.prog 60 [.sl 1 (l.map ai),ai m] (ai (match l.findIdx? (fun x=>decide (m=x)) with|some i=>(i:Int)|none => -1)):=by
 refine PC.enter 19 [.tmp 4] [] Proofs.Tryz.func60 rfl rfl rfl rfl rfl (by simp) (AWp.of ?_);simp only[go_sem]
 refine Wk ?_
 refine(AWp.range' l.length [] [0,1,7] (fun k vs L=>L=[]∧∀i (h:i<l.length),i<k→¬m=l[i]) (by omega) rfl rfl rfl ⟨rfl,fun _ _ h=>by omega⟩ ?_ ?_)
 ·rintro k vs L hk - ⟨rfl,hI⟩
  have hg:=getD_map (f:=ai) hk
  have hx:m=l[k]→l.findIdx? (fun x=>decide (m=x))=some k:=fun h=>by
   rw[List.findIdx?_eq_some_iff_getElem];exact⟨hk,decide_eq_true h,fun j hj=>by simpa using hI j (by omega) hj⟩
  have hI2:¬m=l[k]→∀i (h:i<l.length),i<k+1→¬m=l[i]:=fun h i hi hik=>by
   by_cases e:i=k
   ·subst e;exact h
   ·exact hI i hi (by omega)
  generalize l[k]=B at *
  simp only[go_sem]
  refine W1 hg ?_
  refine⟨fun h => ?_,fun h => ?_⟩
  ·rw[hx h]
   refine Wk ?_
   refine ret_eq ?_;simp only[go_sem]
  ·refine Wk ?_
   exact⟨_,List.Sublist.refl _,rfl,hI2 h⟩
 ·rintro vs L - ⟨rfl,hI⟩
  have:l.findIdx? (fun x=>decide (m=x))=none:=by rw[List.findIdx?_eq_none_iff];intro x hx;obtain⟨i,hi,rfl⟩:=List.getElem_of_mem hx;exact decide_eq_false (hI i hi hi)
  rw[this]
  simp only[go_sem]
  refine Wk ?_
  refine ret_eq ?_;simp only[go_sem]
theorem intsC_contains (l:List Int) (hl:l.length≤1000001) (m:Int):PC Proofs.Tryz.prog 23 [.sl 1 (l.map ai),ai m] (ab (l.any fun x=>decide (m=x))):=by
 have h1:=intsC_index l hl m
 refine PC.enter 9 [.tmp 4] [] Proofs.Tryz.func23 rfl rfl rfl rfl rfl (by simp) (AWp.of ?_);simp only[go_sem]
 refine Wk ?_
 refine Sd ?_
 refine(h1).val.use ?_;simp only[go_sem]
 refine Wk ?_
 refine ret_eq ?_;simp only[go_sem]
 congr 2;exact findIdx_any l fun x=>decide (m=x)
mutual
def cnS {S:Type} (f:Pd→S→Bool × S):Pd→S→Bool × S
 | .mk k n p q s l,st=>if (f (.mk k n p q s l) st).1 then (true,(f (.mk k n p q s l) st).2) else cnL f l (f (.mk k n p q s l) st).2
def cnL {S:Type} (f:Pd→S→Bool × S):List Pd→S→Bool × S
 | [],st=>(false,st)
 | x :: r,st=>if (cnS f x st).1 then (true,(cnS f x st).2) else cnL f r (cnS f x st).2
end
def nmE (ps:List Pr) (x:Eid):Int:=(off ps x.1.toNat+(x.2.toNat - 1):Nat)
theorem front_mem {ps:List Pr} {c:List Int} {x:Eid} : ∀ {k:Nat},k≤c.length→(x ∈ frontL 0 (c.take k)↔∃p:Nat,p<k∧0<cAt c p∧x=((p:Int),cAt c p))
 | 0,_=>by rw[List.take_zero];simp [frontL]
 | k+1,hk=>by
  have ih:=front_mem (ps:=ps) (c:=c) (x:=x) (k:=k) (by omega)
  rw[frontL_succ c k (by omega),List.mem_append,ih,← cAt_nat (show k<c.length by omega)]
  constructor
  ·rintro(⟨p,h1,h2,h3⟩|h)
   ·exact⟨p,by omega,h2,h3⟩
   ·split at h
    ·rename_i h0
     exact⟨k,by omega,h0,List.mem_singleton.1 h⟩
    ·cases h
  ·rintro⟨p,h1,h2,h3⟩
   by_cases e:p=k
   ·subst e;rw[if_pos h2];exact .inr (List.mem_singleton.2 h3)
   ·exact .inl ⟨p,by omega,h2,h3⟩
theorem top_ideals1 (l:List Int) (hl:l.length≤1000001) (x:Int):PC Proofs.Tryz.prog 22 [ai x,.rp 1 [.sl 1 (l.map ai)] 0 0] (ab (!l.any fun y=>decide (x=y))):=by
 have h:=intsC_contains l hl x
 generalize (l.any fun y=>decide (x=y))=b at *
 generalize l.map ai=LL at *
 refine PC.enter 8 [.tmp 3] [] Proofs.Tryz.func22 rfl rfl rfl rfl rfl (by simp) (AWp.of ?_);simp only[go_sem]
 refine Wk ?_
 refine Sd ?_
 refine(h).val.use ?_;simp only[go_sem]
 refine Wk ?_
 refine ret_eq ?_;simp only[go_sem]
structure IdC (ps:List Pr) (c:List Int) (N:Nat) (PP R W WF NX EN NUM M:List AV) (m:Nat) (FE:List AV) (ir:Bool):Prop where
 fr:PC Proofs.Tryz.prog 13 [.agg [.sl 2 R],.agg [ai N,.sl 1 W]] (.tup [.agg [ai N,.sl 1 WF],ai 0])
 nx:PC Proofs.Tryz.prog 14 [.agg [.sl 2 R],.agg [ai N,.sl 1 W]] (.tup [.sl 1 NX,ai 0])
 en:PC Proofs.Tryz.prog 15 [.agg [.sl 3 PP],aInts c] (.tup [.sl 1 EN,ai 0])
 ir1:PC Proofs.Tryz.prog 16 [.agg [.sl 3 PP],aInts c] (.tup [ab ir,ai 0])
 ir2:PC Proofs.Tryz.prog 18 [.agg [.sl 2 R],.agg [ai N,.sl 1 W]] (ab ir)
 ft:PC Proofs.Tryz.prog 17 [.agg [.sl 3 PP],aInts c] (.tup [.sl 2 FE,ai 0])
 nxl:NX.length=m
 enl:EN.length=m
 ml:m≤1000
 fl:FE.length=NUM.length
 fel:FE.length≤1000
 num:∀k,k<FE.length→∃(p i:Nat) (z:Int),FE.getD k .any = .agg [ai p,ai i]∧NUM.take (k+1)=NUM.take k ++ [ai z]∧PC Proofs.Tryz.prog 19 [.agg [.sl 3 PP],.agg [ai p,ai i]] (.tup [ai z,ai 0])
 mem:PC Proofs.Tryz.prog 20 [.agg [ai N,.sl 1 WF]] (.tup [.sl 1 M,ai 0])
 cf:PC Proofs.Tryz.prog 21 [.sl 1 M,.clo 22 [.rp 1 [.sl 1 NUM] 0 0]] (ab false)
 st:∀k,k<m→∃(q z:Int) (X Y:List AV),EN.getD k .any=ai q∧NX.getD k .any=ai z∧PC Proofs.Tryz.prog 24 [.agg [.sl 3 PP],aInts c,ai q] (.tup [.sl 1 X,ai 0]) ∧
  PC Proofs.Tryz.prog 9 [.agg [.sl 3 PP],.sl 1 X] (.tup [.agg [ai N,.sl 1 Y],ab true])∧PC Proofs.Tryz.prog 25 [.agg [ai N,.sl 1 W],ai z] (.tup [.agg [ai N,.sl 1 Y],ai 0])∧PC Proofs.Tryz.prog 26 [.sl 1 Y,.sl 1 Y] (ab true)
theorem wds_self (n:Nat) (hn:n≤512) (f:Nat→Bool):PC Proofs.Tryz.prog 26 [.sl 1 (wdV n f),.sl 1 (wdV n f)] (ab true):=by
 have h:=words_equal (wordsF f n n) (wordsF f n n) (by rw[words_len];unfold nW;omega)
 rw[decide_eq_true rfl] at h
 exact h
theorem front_num {ps:List Pr} {c:List Int} (hc:isF ps c=true) (x:Eid) (hx:x ∈ frontL 0 c):∃(p i:Nat),p<ps.length∧i<nev ps p∧x=((p:Int),(i:Int)+1)∧cAt c p=(i:Int)+1:=by
 obtain⟨hl,hr,_⟩:=isF_iff.1 hc
 have:=(front_mem (ps:=ps) (c:=c) (x:=x) (Nat.le_refl _)).1 (by rw[List.take_length];exact hx)
 obtain⟨p,h1,h2,h3⟩:=this
 have h0:=(inRange_iff hl).1 hr p (by omega)
 have hn:=nev_get (show p<ps.length by omega)
 refine⟨p,(cAt c p).toNat - 1,by omega,by omega,?_,by omega⟩
 rw[h3,Prod.mk.injEq]
 exact⟨rfl,by omega⟩
theorem idc_of (ps:List Pr) (hs:Sm ps) (hv:validF ps=true) (c:List Int) (hc:isF ps c=true) :
  ∃WF NX EN NUM M m FE ir,IdC ps c (off ps ps.length) (ps.map aPr) ((List.range (off ps ps.length)).map fun i=>aNs (off ps ps.length) (ordZ ps i)) (wdV (off ps ps.length) (setC ps c)) WF NX EN NUM M m FE ir:=by
 have hN:=valid_off hv
 obtain⟨hl,hr,_⟩:=isF_iff.1 hc
 have h8:=(valid_len hv).2
 have hir:=(inRange_iff hl).1 hr
 have hi:∀i,i<off ps ps.length→ordZ ps i i=false:=fun i _=>ord_irr i
 have ht:∀i j k,i<off ps ps.length→j<off ps ps.length→k<off ps ps.length→ordZ ps i j=true→ordZ ps j k=true→ordZ ps i k=true:=fun i j k hi hj hk h1 h2=>ord_trans hv (synOk_nil ps) (nil_whl hv) hi hj hk h1 h2
 have hid:idlB (off ps ps.length) (ordZ ps) (setC ps c)=true:=(idl_is hv hl hr).trans hc
 have h1:=ideal_Frontier _ hN _ hi ht (setC ps c) hid
 have h2:=ideal_Next _ hN _ hi ht (setC ps c) hid
 rw[nx_list hv hc] at h2
 have h3:=cut_Enabled ps hs hv c hc
 have h4:=cuts_Irreducible ps hs c
 have hck:chkE ps [c]=0:=chk_zero.2 ⟨hv,by simpa using hc⟩
 rw[hck,decide_eq_true rfl,Bool.true_and] at h4
 have h5:=ideal_Irreducible _ hN _ hi ht (setC ps c) hid
 rw[irr_fr hv hc] at h5
 have h6:=cut_Frontier ps hs c (by omega)
 have e6:aFront ps c = .tup [aEids (frontL 0 c),ai 0]:=by unfold aFront;rw[if_neg (by rw[(isF_given hv).2 hc];decide)]
 rw[e6] at h6
 have h7:=bits_Members _ hN (frN (off ps ps.length) (ordZ ps) (setC ps c))
 have hfl:=frontL_length c 0
 have hnl:((frontL 0 c).map (nmE ps)).length=(frontL 0 c).length:=List.length_map _
 refine⟨_,_,_,((frontL 0 c).map (nmE ps)).map ai,_,(enF ps c ps.length).length,_,_,⟨h1,h2,h3,h4,h5,h6,by simp,by unfold enI;rw[hl];simp,?_,by simp,by simp;omega,?_,h7,?_,?_⟩⟩
 ·have:=enF_len ps c ps.length;omega
 ·intro k hk
  have hk':k<(frontL 0 c).length:=by simpa using hk
  obtain⟨p,i,hp,hi,e,_⟩:=front_num hc _ (List.getElem_mem hk')
  have hg:=getD_map (f:=aEid) hk'
  rw[e] at hg
  refine⟨p,i+1,nmE ps (frontL 0 c)[k],hg,?_,?_⟩
  ·rw[List.take_succ_eq_append_getElem (by simpa using hk')]
   simp
  ·rw[e]
   have:=causality_Number ps hs hv p i hp hi
   have e2:nmE ps ((p:Int),(i:Int)+1)=(off ps p+i:Nat):=by
    unfold nmE
    show ((off ps p+(((i:Int)+1).toNat - 1):Nat):Int)=_
    have:((i:Int)+1).toNat - 1=i:=by omega
    rw[this]
   rw[e2]
   exact this
 ·have hcf:=ints_containsFunc (((List.range (off ps ps.length)).filter (frN (off ps ps.length) (ordZ ps) (setC ps c))).map fun j:Nat=>(j:Int)) (by
   rw[List.length_map]
   have:=List.length_filter_le (frN (off ps ps.length) (ordZ ps) (setC ps c)) (List.range (off ps ps.length))
   rw[List.length_range] at this
   omega) (.clo 22 [.rp 1 [.sl 1 (((frontL 0 c).map (nmE ps)).map ai)] 0 0]) rfl (fun _=>false) (fun x hx=>by
    have h:=top_ideals1 ((frontL 0 c).map (nmE ps)) (by rw[hnl];omega) x
    have hin:((frontL 0 c).map (nmE ps)).any (fun y=>decide (x=y))=true:=by
     obtain⟨j,hj,rfl⟩:=List.mem_map.1 hx
     rw[fr_list hv hc] at hj
     obtain⟨p,hp,rfl⟩:=List.mem_map.1 hj
     obtain⟨hp1,hp2⟩:=List.mem_filter.1 hp
     have hp1:=List.mem_range.1 hp1
     unfold remB at hp2
     rw[Bool.and_eq_true,decide_eq_true_eq] at hp2
     refine List.any_eq_true.2 ⟨nmE ps ((p:Int),cAt c p),List.mem_map.2 ⟨_,?_,rfl⟩,decide_eq_true rfl⟩
     have:=(front_mem (ps:=ps) (c:=c) (x:=((p:Int),cAt c p)) (Nat.le_refl _)).2 ⟨p,by omega,hp2.1,rfl⟩
     rwa [List.take_length] at this
    rw[hin] at h
    exact h.clo)
  rw[show ((((List.range (off ps ps.length)).filter (frN (off ps ps.length) (ordZ ps) (setC ps c))).map fun j:Nat=>(j:Int)).any fun _=>false)=false from by simp] at hcf
  have e:aInts (((List.range (off ps ps.length)).filter (frN (off ps ps.length) (ordZ ps) (setC ps c))).map fun j:Nat=>(j:Int)) = .sl 1 (filR (frN (off ps ps.length) (ordZ ps) (setC ps c)) (off ps ps.length)):=by
   rw[filR_eq]
   show AV.sl 1 _=_
   rw[List.map_map];rfl
  rw[e] at hcf
  exact hcf
 ·intro k hk
  have hm:=List.getElem_mem hk
  obtain⟨hq,hrd⟩:=mem_enF.1 hm
  have hrd2:=of_decide_eq_true (show decide (cAt c (enF ps c ps.length)[k]<nev ps (enF ps c ps.length)[k]∧isF ps (stpC c (enF ps c ps.length)[k])=true)=true from hrd)
  generalize hqe:(enF ps c ps.length)[k]=q at *
  obtain⟨i,hi2⟩:∃i:Nat,cAt c q=i:=⟨(cAt c q).toNat,by have:=(hir q hq).1;omega⟩
  have hil:i<ps[q].evs.length:=by have:=hrd2.1;rw[nev_get hq] at this;omega
  have hadv:=cut_Advance ps hs hv c hc q hq i hil hi2 hrd2.2
  obtain⟨sl,sr,_⟩:=isF_iff.1 hrd2.2
  have hset:=top_Set ps hs hv (stpC c q) sl sr
  have hwith:=bits_With _ hN (setC ps c) (off ps q+i) (off_lt hq hil)
  have hcg:wdV (off ps ps.length) (fun j=>setC ps c j || decide (j=off ps q+i))=wdV (off ps ps.length) (setC ps (stpC c q)):=wdV_congr fun j hj=>(set_step hl hq hil hi2 hj).symm
  rw[aNs_wd,aNs_wd,hcg] at hwith
  refine⟨q,(off ps q+i:Nat),_,_,?_,?_,hadv,hset,hwith,wds_self _ hN _⟩
  ·unfold enI
   rw[hl,List.map_map]
   have:=getD_map (f:=ai ∘ fun p:Nat=>(p:Int)) hk
   rw[this,hqe];rfl
  ·rw[List.map_map]
   have:=getD_map (f:=(fun j:Nat=>ai (j:Int)) ∘ fun p=>off ps p+(cAt c p).toNat) hk
   rw[this,hqe]
   show ai ((off ps q+(cAt c q).toNat:Nat):Int)=_
   rw[hi2];rfl
end Go.AL
end
