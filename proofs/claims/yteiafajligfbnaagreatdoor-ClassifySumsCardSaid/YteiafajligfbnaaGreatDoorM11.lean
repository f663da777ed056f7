/- Texts of this claim's proof: WVb, WJn, WPw2, WTl, WEf, WEl, WBd, WCl, WRe, WLo, WLp, WLq, WNd, WBs, WSb, WAw, WSr, WOf, WWl, WCt, WLv, WSn, WMk, WMr, WMn, WCu, WBig, WMl, WMc, WMd, WMe, AlWrp, AlRng, AlGrd, WMf. No condition. -/
import Derived.Test.YteiafajligfbnaaGreatDoorM10
import Derived.Test.YteiafajligfbnaaGreatDoorM7
import Derived.Test.YteiafajligfbnaaGreatDoorM5
import Derived.Test.YteiafajligfbnaaGreatDoorM9
import Derived.Test.YteiafajligfbnaaGreatDoorM4
import Derived.Test.YteiafajligfbnaaGreatDoorM3
section
namespace Go.AL
open Go Go.RowKit
set_option maxRecDepth 4000
theorem evaluate_typed (t:Pd) (hz:szF t≤1000000) (h1:formedB t=true) (h2:typedB t=true) (w:Int):PC Proofs.Tryz.prog 60 [aPd t,ai w] (ai (if resF t.kind=w then 0 else 14)):=by
 have ht:=predtype_TypeX t hz
 rw[h1,h2] at ht
 rw[if_neg (by decide),if_neg (by decide),if_neg (by decide),if_neg (by decide)] at ht
 generalize resF t.kind=r at *
 obtain⟨k,n,p,q,s,l⟩:=t
 simp only[aPd_mk] at *
 refine PC.enter 19 [.tmp 4] [2] Proofs.Tryz.func60 rfl rfl rfl rfl rfl (by simp) (AWp.of ?_);simp only[go_sem]
 refine Wk ?_
 refine Sd ?_
 refine(ht).val.use ?_;simp only[go_sem]
 refine Wk ?_
 refine⟨fun h3 => ?_,fun h3 => ?_⟩
 ·refine Wk ?_
  refine ret_eq ?_;simp only[go_sem]
  rw[if_neg h3]
 ·refine Wk ?_
  refine ret_eq ?_;simp only[go_sem]
  rw[if_pos h3]
theorem predtype_temporal (k:Int):PC Proofs.Tryz.prog 103 [ai k] (ab (decide (18≤k∧k≤21))):=by
 generalize hb:decide (18≤k∧k≤21)=b
 refine PC.enter 9 [.tmp 2] [] Proofs.Tryz.func103 rfl rfl rfl rfl rfl (by simp) (AWp.of ?_);simp only[go_sem]
 refine Wk ?_
 refine ret_eq ?_;simp only[go_sem]
 rw[← hb]
 congr 2
 rw[Bool.eq_iff_iff];simp
theorem predtype_Temporal1 (x:Pd):PC Proofs.Tryz.prog 102 [aPd x] (ab (ntmB x)):=by
 obtain⟨k,n,p,q,s,l⟩:=x
 have h:=predtype_temporal k
 have hsp:ntmB (.mk k n p q s l) = !decide (18≤k∧k≤21):=rfl
 rw[hsp]
 generalize decide (18≤k∧k≤21)=b at *
 refine PC.enter 7 [.tmp 2] [1] Proofs.Tryz.func102 rfl rfl rfl rfl rfl (by simp) (AWp.of ?_);simp only[go_sem]
 refine Wk ?_
 refine Sd ?_
 refine(h).val.use ?_;simp only[go_sem]
 refine Wk ?_
 refine ret_eq ?_;simp only[go_sem]
theorem predtype_Temporal (t:Pd) (hz:szF t≤1000000):PC Proofs.Tryz.prog 61 [aPd t] (ab (formedB t && !allB ntmB t)):=by
 have hf:=predtype_formed t hz
 have he:=predtype_eachV ntmB 102 (fun x hx=>(predtype_Temporal1 x).val) t hz
 generalize formedB t=f at *
 generalize allB ntmB t=a at *
 obtain⟨k,n,p,q,s,l⟩:=t
 simp only[aPd_mk] at *
 refine PC.enter 10 [.tmp 2] [1] Proofs.Tryz.func61 rfl rfl rfl rfl rfl (by simp) (AWp.of ?_);simp only[go_sem]
 refine Wk ?_
 refine Sd ?_
 refine(hf).val.use ?_;simp only[go_sem]
 refine Sd ?_
 refine Gc he ?_
 refine Sd ?_
 refine Wk ?_
 refine ret_eq ?_;simp only[go_sem]
noncomputable def atE (ps:List Pr) (c:List Int) (t:Pd) (w:Int):Int :=
 if c.length ≠ ps.length then 1 else if checkF ps t ≠ 0 then checkF ps t else if givenF ps [c] [] ≠ 0 then givenF ps [c] [] else if resF t.kind ≠ w then 14 else if allB ntmB t=false then 15 else 0
open Classical in
noncomputable def atV (ps:List Pr) (c:List Int) (t:Pd):AV:=if c.length ≠ ps.length∨checkF ps t ≠ 0∨givenF ps [c] [] ≠ 0 then aView [] [] [] else aView ps c (valuesAt ps c)
theorem vw_view0 (L:AHeap):Vw L (.agg [anil,anil,anil]) (aView [] [] []):=.mkAgg (Vws.cons (.nil 3) (Vws.cons (.nil 1) (Vws.cons (.nil 1) .nil)))
theorem evaluate_at (ps:List Pr) (hs:Sm ps) (c:List Int) (hcl:c.length≤1000000) (t:Pd) (hz:szF t≤1000000) (w:Int):PC Proofs.Tryz.prog 28 [aTr ps,aInts c,aPd t,ai w] (.tup [atV ps c t,ai (atE ps c t w)]):=by
 have h1:=predtype_Check ps hs t hz
 have h2:=variable_At ps hs c hcl
 have h3:=fun a b=>evaluate_typed t hz a b w
 have h3':checkF ps t=0→typedB t=true:=fun h=>by
  have:=(checkF_zero h).2.2.1
  unfold okT at this;simp only[Bool.and_eq_true] at this;exact this.2
 have h4:=predtype_Temporal t hz
 have h4':checkF ps t=0→formedB t=true:=fun h=>(checkF_zero h).2.1
 have hE:atE ps c t w=if c.length ≠ ps.length then 1 else if checkF ps t ≠ 0 then checkF ps t else if givenF ps [c] [] ≠ 0 then givenF ps [c] [] else if resF t.kind ≠ w then 14 else if allB ntmB t=false then 15 else 0:=rfl
 have hV1:(c.length ≠ ps.length∨checkF ps t ≠ 0∨givenF ps [c] [] ≠ 0)→atV ps c t=aView [] [] []:=fun h=>by unfold atV;rw[if_pos h]
 have hV2:¬(c.length ≠ ps.length∨checkF ps t ≠ 0∨givenF ps [c] [] ≠ 0)→atV ps c t=aView ps c (valuesAt ps c):=fun h=>by unfold atV;rw[if_neg h]
 unfold aAt at h2
 generalize atE ps c t w=E at *
 generalize atV ps c t=V at *
 generalize checkF ps t=e at *
 generalize givenF ps [c] []=gv at *
 generalize formedB t=f at *
 generalize typedB t=y at *
 generalize resF t.kind=r at *
 generalize allB ntmB t=a at *
 have hl:=hs.procs
 obtain⟨k,n,p,q,s,l⟩:=t
 simp only[aPd_mk] at *
 by_cases hc:c.length=ps.length
 ·have hci:(c.length:Int)=ps.length:=by omega
  by_cases he:e=0
  ·subst he
   rw[if_neg (by simpa using hc),if_neg (by decide)] at hE
   have h3:=h3 (h4' rfl) (h3' rfl)
   rw[h4' rfl,Bool.true_and] at h4
   by_cases hg:gv=0
   ·subst hg
    rw[if_neg (by decide)] at hE
    rw[if_neg (by decide)] at h2
    have hV:=hV2 (by rintro(h|h|h);exact h hc;exact h rfl;exact h rfl)
    unfold aView at hV
    by_cases hr:r=w
    ·rw[if_neg (by simpa using hr)] at hE
     rw[if_pos hr] at h3
     refine PC.enter 53 [.cell 8 73,.tmp 9] [4,6] Proofs.Tryz.func28 rfl rfl rfl rfl rfl (by simp) (AWp.of ?_);simp only[go_sem]
     refine Wk ?_
     intro b8
     refine Wk ?_
     refine Sd ?_
     refine(h1).val.use ?_;simp only[go_sem,hci]
     refine W1 hci ?_
     refine Sd ?_
     refine(h2).val.use ?_;simp only[go_sem]
     refine Wk ?_
     refine Sd ?_
     refine(h3).val.use ?_;simp only[go_sem]
     refine Wk ?_
     refine Sd ?_
     refine Gc h4 ?_
     refine Sd ?_
     refine Wk ?_
     refine⟨fun h5 => ?_,fun h5 => ?_⟩
     ·rw[if_pos h5] at hE
      refine Wk ?_
      refine ret_eq ?_;simp only[go_sem]
      rw[hV,hE];rfl
     ·rw[if_neg (by rw[h5];decide)] at hE
      refine Wk ?_
      refine ret_eq ?_;simp only[go_sem]
      rw[hV,hE];rfl
    ·rw[if_pos hr] at hE
     rw[if_neg hr] at h3
     refine PC.enter 53 [.cell 8 73,.tmp 9] [4,6] Proofs.Tryz.func28 rfl rfl rfl rfl rfl (by simp) (AWp.of ?_);simp only[go_sem]
     refine Wk ?_
     intro b8
     refine Wk ?_
     refine Sd ?_
     refine(h1).val.use ?_;simp only[go_sem,hci]
     refine W1 hci ?_
     refine Sd ?_
     refine(h2).val.use ?_;simp only[go_sem]
     refine Wk ?_
     refine Sd ?_
     refine(h3).val.use ?_;simp only[go_sem]
     refine Wk ?_
     refine Sd ?_
     refine GCall.use (ab (!a)) (fun _=>⟨At,(h4).val.use ⟨rfl,rfl⟩⟩) ?_;simp only[go_sem,Int.reduceEq]
     refine Sd ?_
     refine Wk ?_
     refine ret_eq ?_;simp only[go_sem]
     rw[hV,hE];rfl
   ·rw[if_pos hg] at hE
    rw[if_pos hg] at h2
    have hV:=hV1 (.inr (.inr hg))
    refine PC.enter 53 [.cell 8 73,.tmp 9] [4,6] Proofs.Tryz.func28 rfl rfl rfl rfl rfl (by simp) (AWp.of ?_);simp only[go_sem]
    refine Wk ?_
    intro b8
    refine Wk ?_
    refine Sd ?_
    refine(h1).val.use ?_;simp only[go_sem,hci]
    refine W1 hci ?_
    refine Sd ?_
    refine(h2).val.use ?_;simp only[go_sem]
    refine W1 hg ?_
    refine ret_view [] ?_;simp only[go_sem]
    rw[hV,hE]
    exact .mkTup (Vws.cons (vw_view0 _) (Vws.refl _))
  ·rw[if_neg (by simpa using hc),if_pos he] at hE
   have hV:=hV1 (.inr (.inl he))
   refine PC.enter 53 [.cell 8 73,.tmp 9] [4,6] Proofs.Tryz.func28 rfl rfl rfl rfl rfl (by simp) (AWp.of ?_);simp only[go_sem]
   refine Wk ?_
   intro b8
   refine Wk ?_
   refine Sd ?_
   refine(h1).val.use ?_;simp only[go_sem]
   refine AWp.cut [8,10] (fun vs L=>L=[(b8,.row 73 3 [.agg [anil,anil,anil]] 1)]∧vs=[.lp b8 3 0 0,ai e]) ?_ ?_
   ·refine W1 hci ?_
    exact⟨_,List.Sublist.refl _,rfl⟩
   rintro vs L - ⟨rfl,rfl⟩
   simp only[go_sem]
   refine W1 he ?_
   refine ret_view [] ?_;simp only[go_sem]
   rw[hV,hE]
   exact .mkTup (Vws.cons (vw_view0 _) (Vws.refl _))
 ·have hci:¬(c.length:Int)=ps.length:=by omega
  rw[if_pos hc] at hE
  have hV:=hV1 (.inl hc)
  refine PC.enter 53 [.cell 8 73,.tmp 9] [4,6] Proofs.Tryz.func28 rfl rfl rfl rfl rfl (by simp) (AWp.of ?_);simp only[go_sem]
  refine Wk ?_
  intro b8
  refine Wk ?_
  refine Sd ?_
  refine(h1).val.use ?_;simp only[go_sem]
  refine AWp.cut [8,10] (fun vs L=>L=[(b8,.row 73 3 [.agg [anil,anil,anil]] 1)]∧vs=[.lp b8 3 0 0,ai 1]) ?_ ?_
  ·refine W1 hci ?_
   refine⟨fun h6 => ?_,fun h6 => ?_⟩
   ·refine Wk ?_
    exact⟨_,List.Sublist.refl _,rfl⟩
   ·exact⟨_,List.Sublist.refl _,by rw[h6];exact⟨rfl,rfl⟩⟩
  rintro vs L - ⟨rfl,rfl⟩
  simp only[go_sem]
  repeat(first|((with_reducible refine AWp.ofC ?_ ?_);exact rfl;simp only[go_sem,Int.reduceEq])|((with_reducible refine an ?_ ?_);exact Au))
  refine ret_view [] ?_;simp only[go_sem]
  rw[hV,hE]
  exact .mkTup (Vws.cons (vw_view0 _) (Vws.refl _))
def nchB:Pd→Bool | .mk k _ _ _ _ _=>decide (k ≠ 4)
theorem atE_zero {ps:List Pr} {c:List Int} {t:Pd} (h:atE ps c t 2=0):checkF ps t=0∧givenF ps [c] []=0∧9≤t.kind∧allB ntmB t=true∧c.length=ps.length:=by
 unfold atE at h
 split at h
 ·cases h
 ·rename_i h1
  split at h
  ·rename_i h2;exact absurd h h2
  ·rename_i h2
   split at h
   ·rename_i h3;exact absurd h h3
   ·rename_i h3
    split at h
    ·cases h
    ·rename_i h4
     split at h
     ·cases h
     ·rename_i h5
      refine⟨by simpa using h2,by simpa using h3,?_,by simpa using h5,by simpa using h1⟩
      have:resF t.kind=2:=by simpa using h4
      unfold resF at this
      split at this <;> omega
end Go.AL
end
section
namespace Go.AL
open Go Go.RowKit
set_option maxRecDepth 4000
theorem givenL {ps:List Pr} {l:List (List Int)} : givenF ps l []=0↔(validF ps=true∧∀c ∈ l,c.length=ps.length)∧(∀c ∈ l,inRangeF ps c=true)∧∀c ∈ l,closedF ps c=true:=by
 have h1:sizedF ps l=true↔validF ps=true∧∀c ∈ l,c.length=ps.length:=by
  refine⟨sizedF_inv,fun h => ?_⟩
  unfold sizedF
  rw[h.1,Bool.true_and,Bool.not_eq_true',List.any_eq_false]
  intro c hc
  rw[decide_eq_true (h.2 c hc)];decide
 have h2:=List.all_eq_true (l:=l) (p:=inRangeF ps)
 have h3:=List.all_eq_true (l:=l) (p:=closedF ps)
 rw[← h1,← h2,← h3]
 unfold givenF
 cases sizedF ps l <;> cases l.all (inRangeF ps) <;> cases l.all (closedF ps) <;> simp
def pd0:Pd:=.mk 0 0 0 0 ByteArray.empty []
def joinL (c d:List Int):List Int:=List.zipWith (fun x y=>if x<y then y else x) c d
section
variable {ps:List Pr} {c j:List Int}
end
def closeN (ps:List Pr):Nat→List Int→List Int
 | 0,c=>c
 | n+1,c=>match missF ps c with
  | none=>c
  | some x=>closeN ps n (c.set x.1.1.toNat x.1.2)
def closeF (ps:List Pr) (c:List Int):List Int:=closeN ps (off ps ps.length) c
structure Elim where
 n:Nat
 top:Nat→Nat
 ok:Nat→Nat→Bool
 need:Nat→Nat→Nat→Int
def exB (E:Elim) (now:Nat→Nat) (p k:Nat):Bool:=!E.ok p k || (List.range E.n).any fun q=>decide (q ≠ p) && decide ((k:Int)<E.need q (now q) p)
def nextF (ex:Nat→Bool) (top:Nat):Nat→Nat→Nat
 | 0,k=>k
 | m+1,k=>if k≤top∧ex k=true then nextF ex top m (k+1) else k
def nextK (ex:Nat→Bool) (top k:Nat):Nat:=nextF ex top (top+1 - k) k
section
variable {ex:Nat→Bool} {top k:Nat}
theorem nextK_hit (h:k≤top) (he:ex k=true):nextK ex top k=nextK ex top (k+1):=by
 unfold nextK
 obtain⟨m,hm⟩:∃m,top+1 - k=m+1:=⟨top - k,by omega⟩
 rw[hm,nextF,if_pos ⟨h,he⟩,show top+1 - (k+1)=m by omega]
theorem nextK_stop (h:¬(k≤top∧ex k=true)):nextK ex top k=k:=by
 unfold nextK
 cases top+1 - k with
 | zero=>rfl
 | succ m=>rw[nextF,if_neg h]
theorem nextK_spec:∀(m k:Nat),top+1 - k=m→k≤top+1→k≤nextK ex top k∧nextK ex top k≤top+1∧(∀j,k≤j→j<nextK ex top k→ex j=true)∧(nextK ex top k≤top→ex (nextK ex top k)=false)
 | 0,k,hm,hk=>by
  rw[nextK_stop (by omega)]
  exact⟨Nat.le_refl _,hk,fun j _ _=>by omega,fun h=>by omega⟩
 | m+1,k,hm,hk=>by
  by_cases he:ex k=true
  ·rw[nextK_hit (by omega) he]
   obtain⟨a1,a2,a3,a4⟩:=nextK_spec m (k+1) (by omega) (by omega)
   refine⟨by omega,a2,fun j h1 h2 => ?_,a4⟩
   by_cases e:j=k
   ·subst e;exact he
   ·exact a3 j (by omega) h2
  ·rw[nextK_stop (fun h=>he h.2)]
   exact⟨Nat.le_refl _,hk,fun j _ _=>by omega,fun _=>by simpa using he⟩
end
def stepP (E:Elim) (now:Nat→Nat):Option Nat:=(List.range E.n).find? fun p=>exB E now p (now p)
def goF (E:Elim) (now:Nat→Nat) (p:Nat):Nat:=nextK (exB E now p) (E.top p) (now p)
def updN (f:Nat→Nat) (p x:Nat):Nat→Nat:=fun q=>if q=p then x else f q
theorem updN_self (f:Nat→Nat) (p x:Nat):updN f p x p=x:=if_pos rfl
theorem updN_ne {f:Nat→Nat} {p x q:Nat} (h:q ≠ p):updN f p x q=f q:=if_neg h
theorem find_range {n:Nat} {f:Nat→Bool} {p:Nat} (h:(List.range n).find? f=some p):p<n∧f p=true∧∀q,q<p→f q=false:=by
 rw[List.find?_eq_some_iff_getElem] at h
 obtain⟨h1,i,hi,e,h2⟩:=h
 rw[List.getElem_range] at e
 subst e
 refine⟨by simpa using hi,h1,fun q hq => ?_⟩
 have:=h2 q hq
 rw[List.getElem_range] at this
 simpa using this
abbrev Stp:=Nat × Nat × Nat
inductive RunR (E:Elim):(Nat→Nat)→List Stp→(Nat→Nat)→Bool→Prop
 | stop {now:Nat→Nat} (h:stepP E now=none):RunR E now [] now false
 | lost {now:Nat→Nat} {p:Nat} (h:stepP E now=some p) (hl:E.top p<goF E now p):RunR E now [(p,now p,goF E now p - 1)] (updN now p (goF E now p)) true
 | go {now fin:Nat→Nat} {p:Nat} {st:List Stp} {l:Bool} (h:stepP E now=some p) (hl:goF E now p≤E.top p) (hr:RunR E (updN now p (goF E now p)) st fin l):RunR E now ((p,now p,goF E now p - 1) :: st) fin l
def InE (E:Elim) (now:Nat→Nat):Prop:=∀q,q<E.n→now q≤E.top q
def roomE (E:Elim) (now:Nat→Nat):Nat:=totS E.n fun q=>E.top q+1 - now q
theorem totS_lt {c c':Nat→Nat} {p:Nat} (h:∀q,q ≠ p→c' q=c q) (hp:c' p<c p):∀n,totS n c'+(if p<n then 1 else 0)≤totS n c
 | 0=>by simp [totS]
 | n+1=>by
  have:=totS_lt h hp n
  rw[totS_succ,totS_succ]
  by_cases e:n=p
  ·subst e
   rw[if_neg (by omega)] at this
   rw[if_pos (by omega)];omega
  ·rw[h n e]
   by_cases e2:p<n
   ·rw[if_pos e2] at this;rw[if_pos (by omega)];omega
   ·rw[if_neg e2] at this;rw[if_neg (by omega)];omega
theorem step_inv {E:Elim} {now:Nat→Nat} (hI:InE E now) {p:Nat} (h:stepP E now=some p) :
  p<E.n∧exB E now p (now p)=true∧(∀q,q<p→exB E now q (now q)=false)∧now p<goF E now p∧goF E now p≤E.top p+1∧(∀j,now p≤j→j<goF E now p→exB E now p j=true)∧roomE E (updN now p (goF E now p))<roomE E now:=by
 obtain⟨h1,h2,h3⟩:=find_range h
 have hle:=hI p h1
 obtain⟨a1,a2,a3,a4⟩:=nextK_spec (ex:=exB E now p) (top:=E.top p) _ (now p) rfl (by omega)
 have hlt:now p<goF E now p:=by
  unfold goF
  rw[nextK_hit hle h2]
  obtain⟨b1,_⟩:=nextK_spec (ex:=exB E now p) (top:=E.top p) _ (now p+1) rfl (by omega)
  omega
 refine⟨h1,h2,h3,hlt,a2,a3,?_⟩
 unfold roomE
 have:=totS_lt (c:=fun q=>E.top q+1 - now q) (c':=fun q=>E.top q+1 - updN now p (goF E now p) q) (p:=p) (fun q hq=>by rw[updN_ne hq]) (by rw[updN_self];omega) E.n
 rw[if_pos h1] at this
 omega
theorem inE_step {E:Elim} {now:Nat→Nat} (hI:InE E now) {p:Nat} (hl:goF E now p≤E.top p):InE E (updN now p (goF E now p)):=fun q hq=>by
 by_cases e:q=p
 ·subst e;rw[updN_self];exact hl
 ·rw[updN_ne e];exact hI q hq
theorem run_ex (E:Elim):∀(m:Nat) (now:Nat→Nat),InE E now→roomE E now≤m→∃st fin l,RunR E now st fin l:=by
 intro m
 induction m with
 | zero =>
  intro now hI hm
  cases h:stepP E now with
  | none=>exact⟨_,_,_,.stop h⟩
  | some p=>have:=(step_inv hI h).2.2.2.2.2.2;omega
 | succ m ih =>
  intro now hI hm
  cases h:stepP E now with
  | none=>exact⟨_,_,_,.stop h⟩
  | some p =>
   have h7:=(step_inv hI h).2.2.2.2.2.2
   by_cases hl:goF E now p≤E.top p
   ·obtain⟨st,fin,l,hr⟩:=ih _ (inE_step hI hl) (by omega)
    exact⟨_,_,_,.go h hl hr⟩
   ·exact⟨_,_,_,.lost h (by omega)⟩
theorem inE_zero (E:Elim):InE E fun _=>0:=fun _ _=>Nat.zero_le _
open Classical in
noncomputable def stepsF (E:Elim):List Stp:=Classical.choose (run_ex E _ _ (inE_zero E) (Nat.le_refl _))
open Classical in
noncomputable def finF (E:Elim):Nat→Nat:=Classical.choose (Classical.choose_spec (run_ex E _ _ (inE_zero E) (Nat.le_refl _)))
open Classical in
noncomputable def lostF (E:Elim):Bool:=Classical.choose (Classical.choose_spec (Classical.choose_spec (run_ex E _ _ (inE_zero E) (Nat.le_refl _))))
end Go.AL
end
section
namespace Go.AL
open Go Go.RowKit
set_option maxRecDepth 4000
section
variable {E:Elim} {p q m k:Nat}
end
theorem ref22_Sent (ps:List Pr) (hs:Sm ps) (hv:validF ps=true) (c:List Int) (hc:c.length=ps.length) (p:Nat) (hp:p<ps.length) (i:Nat) (hi:i<ps[p].evs.length) (hic:(i:Int)<cAt c p) :
  PC Proofs.Tryz.prog 50 [aTr ps,aInts c,ai p,ai i] (ab (!badEv ps c (((p:Int),(i:Int)+1),ps[p].evs[i]))):=by
 obtain⟨hl1,hl8⟩:=valid_len hv
 have hl:=hs.procs
 have hel:=hs.evs _ (List.getElem_mem hp)
 have hgp:=getD_map (f:=aPr) hp
 have hge:=getD_map (f:=aEv) hi
 have hbad:badEv ps c (((p:Int),(i:Int)+1),ps[p].evs[i])=(decide (ps[p].evs[i].kind=3) && decide (cAt c (findIn (evIds ps) 2 ps[p].evs[i].msg).1<(findIn (evIds ps) 2 ps[p].evs[i].msg).2)):=by
  simp only[badEv,decide_eq_true (show (i:Int)+1≤cAt c p by omega),Bool.and_true]
 rw[hbad]
 have hfd:=ref12_Find ps hs 2 ps[p].evs[i].msg
 obtain⟨f1,f2⟩:=findIn_proc hl1 2 ps[p].evs[i].msg
 have hgs:=getD_cAt (c:=c) f1 (by omega)
 generalize findIn (evIds ps) 2 ps[p].evs[i].msg=s at *
 refine PC.enter 35 [.tmp 8] [4,9,10] Proofs.Tryz.func50 rfl rfl rfl rfl rfl (by simp) (AWp.of ?_);simp only[go_sem]
 refine W2 hgp hge ?_
 intro b9
 refine Wk ?_
 refine⟨fun h3 => ?_,fun h3 => ?_⟩
 ·refine Wk ?_
  refine ret_eq ?_;simp only[go_sem]
  rw[decide_eq_false h3];rfl
 ·refine Wk ?_
  refine Sd ?_
  refine(hfd).val.use ?_;simp only[go_sem]
  refine Sd ?_
  intro b10
  refine AWp.seq ?_
  refine AWp.drawn mixed 8 (by kernel_rfl) ?_;simp only[go_sem,hgs]
  refine Sd ?_
  refine Wk ?_
  refine ret_eq ?_;simp only[go_sem]
  rw[decide_eq_true h3,Bool.true_and,← decide_not]
  congr 2
  simp only[decide_eq_decide];omega
theorem ref28_Type (t:Pd) (hz:szF t≤1000000) (h1:formedB t=true) (h2:typedB t=true):PC Proofs.Tryz.prog 21 [aPd t] (.tup [ai (resF t.kind),ai 0]):=by
 have g1:=ref28_Formed t hz
 have hl:allB locB t=true:=by unfold formedB at h1;simp only[Bool.and_eq_true] at h1;exact h1.2
 have g2:=ref28_typed t hz hl
 rw[show allB typB t=true from h2] at g2
 rw[h1] at g1
 obtain⟨k,n,p,q,s,l⟩:=t
 have g3:=ref28_kind k n p q s l
 simp only[aPd_mk,Pd.kind] at *
 generalize resF k=r at *
 refine PC.enter 12 [.tmp 2,.tmp 3] [1] Proofs.Tryz.func21 rfl rfl rfl rfl rfl (by simp) (AWp.of ?_);simp only[go_sem]
 refine Wk ?_
 refine Sd ?_
 refine(g1).val.use ?_;simp only[go_sem]
 refine Wk ?_
 refine Sd ?_
 refine(g2).val.use ?_;simp only[go_sem]
 refine Wk ?_
 refine Sd ?_
 refine(g3).val.use ?_;simp only[go_sem]
 refine Wk ?_
 refine ret_eq ?_;simp only[go_sem]
noncomputable def treeF (ps:List Pr) (t:Pd) (w:Int):Int:=if checkF ps t ≠ 0 then checkF ps t else if resF t.kind ≠ w then 14 else 0
def lclAt (z:Int→Pd→Int) (ts:List Pd) (p:Nat):Int:=match ts[p]? with|some t=>z p t|none=>0
noncomputable def conF (ps:List Pr) (ts:List Pd):Int :=
 if validF ps=true∧ts.length=ps.length then match (List.range ts.length).find? (fun p=>decide (lclAt (fun p t=>lclF ps p 0 t) ts p ≠ 0)) with|some p=>lclAt (fun p t=>lclF ps p 0 t) ts p|none=>0 else 1
theorem AWp.only {C:Cfg} {cd:Code} {Q:AQ} {ρ:Env} {L:AHeap} (ks:List Nat) (h:AWp C cd Q (ks.zip (ks.map (get ρ))) L):AWp C cd Q ρ L :=
 AWp.st (fun w0 M A0 a w hh=>st_forget hh (get_zip ks ρ)) h
theorem Vw.mkRp {L:AHeap} {xs xs':List AV} {k i j:Nat} (h:Vws L xs xs'):Vw L (.rp k xs i j) (.rp k xs' i j):=.rp h.1 h.2
section
variable {ps:List Pr} {E:Elim}
end
open Classical in
noncomputable def anc (ps:List Pr) (x:Eid):Nat:=(evIds ps).countP fun e=>decide (Reach ps e.1 x)
def isF (ps:List Pr) (c:List Int):Bool:=(decide (c.length=ps.length) && inRangeF ps c) && closedF ps c
theorem isF_iff {ps:List Pr} {c:List Int} : isF ps c=true↔c.length=ps.length∧inRangeF ps c=true∧closedF ps c=true:=by
 unfold isF
 rw[Bool.and_eq_true,Bool.and_eq_true,decide_eq_true_eq,and_assoc]
def stpC (c:List Int) (p:Nat):List Int:=c.set p (cAt c p+1)
def nx1 (ps:List Pr) (c:List Int) (p:Nat):List (List Int):=if cAt c p<nev ps p∧isF ps (stpC c p)=true then [stpC c p] else []
def nextT (ps:List Pr) (c:List Int) (k:Nat):List (List Int):=(List.range k).flatMap (nx1 ps c)
def nextL (ps:List Pr) (c:List Int):List (List Int):=nextT ps c c.length
def lexF:List Int→List Int→Bool
 | a :: x,b :: y=>if a=b then lexF x y else decide (a<b)
 | _,_=>false
def befF (a b:List Int):Bool:=if a.sum=b.sum then lexF a b else decide (a.sum<b.sum)
def insF (l:List (List Int)) (c:List Int):List (List Int):=if (l.dropWhile fun x=>befF x c).head?=some c then l else (l.takeWhile fun x=>befF x c) ++ c :: l.dropWhile fun x=>befF x c
def insL (acc l:List (List Int)):List (List Int):=l.foldl insF acc
def moreT (ps:List Pr) (lv:List (List Int)):List (List Int):=lv.foldl (fun acc c=>insL acc (nextL ps c)) []
def levF (ps:List Pr):Nat→List (List Int)
 | 0=>[List.replicate ps.length 0]
 | k+1=>moreT ps (levF ps k)
def cumF (ps:List Pr) (k:Nat):List (List Int):=(List.range k).flatMap (levF ps)
def cutsF (ps:List Pr):List (List Int):=cumF ps (off ps ps.length+1)
end Go.AL
end
section
namespace Go.AL
open Go Go.RowKit
set_option maxRecDepth 4000
end Go.AL
end
section
namespace Go.AL
open Go Go.RowKit Go.Sort Go.Proofs Go.Shelf
set_option maxRecDepth 4000
end Go.AL
end
section
namespace Go.AL
open Go Go.RowKit
set_option maxRecDepth 4000
theorem AppSt.snoc {t:TypeId} {k:Nat} {ys:List AV} {x:AV} (b cap n:Nat) (hn:n=ys.length+1):AppSt t k (ys ++ [x]) (.ls b k 0 n cap) [(b,.row t k (ys ++ [x]) cap)]:=by
 subst hn
 have:=AppSt.row (t:=t) (k:=k) b (ys ++ [x]) cap
 rwa [List.length_append] at this
end Go.AL
end
section
namespace Go.AL
open Go Go.RowKit
def addW (a b:Int):Int:=IntKind.i64.wrap (a+b)
def aAddW (C:Cfg) (o:Oper) (x y:AV) (ρ:Env) (L:AHeap) (K:ARes):Prop :=
 match x,y with
 | .v (.int .i64 a),.v (.int .i64 b)=>K (put ρ o.dst (ai (addW a b))) L
 | _,_=>False
def aopW (C:Cfg) (o:Oper) (ρ:Env) (L:AHeap) (K:ARes):Prop :=
 match o.op with
 | .binOp .add _ x y _=>aAddW C o (ev ρ x) (ev ρ y) ρ L K
 | _=>aop C o ρ L K
theorem aopW_sound {C:Cfg} {o:Oper} {ρ:Env} {L:AHeap} {K:ARes} (hd:dstOk C o) (hdef:∀c,o.op ≠ .defer c) (h:aopW C o ρ L K):AOp C o ρ L K:=by
 unfold aopW at h
 split at h
 ·rename_i t x y t' hop
  unfold aAddW at h
  split at h
  ·rename_i a b hx hy
   refine AOp.val hd hdef (fun ac w A hρ hL=>⟨.int .i64 (addW a b),?_,.v _⟩) h
   have h1:=hρ x;rw[hx] at h1;have h1:=h1.inv_v
   have h2:=hρ y;rw[hy] at h2;have h2:=h2.inv_v
   unfold execOp
   rw[hop]
   simp [h1,h2,binOp,eqGuard,Op.intArith,addW]
  ·exact h.elim
 ·exact aop_sound hd hdef h
def aregionW (C:Cfg):List Oper→Env→AHeap→ARes→Prop
 | [],ρ,L,K=>K ρ L
 | o :: rest,ρ,L,K=>o.guard=none∧aopW C o ρ L fun ρ L=>aregionW C rest ρ L K
def aregWK (C:Cfg) (rest:List Oper) (K:ARes) (ρ:Env) (L:AHeap):Prop:=aregionW C rest ρ L K
theorem aregionW_nil (C:Cfg) (ρ:Env) (L:AHeap) (K:ARes):aregionW C [] ρ L K=K ρ L:=rfl
theorem aregionW_cons (C:Cfg) (rest:List Oper) (o:Oper) (ρ:Env) (L:AHeap) (K:ARes):aregionW C (o :: rest) ρ L K=(o.guard=none∧aopW C o ρ L (aregWK C rest K)):=rfl
theorem aregionW_sound {C:Cfg} {ops:Array Oper} {K:ARes} {n:Nat} {w0:World} {M A0:Foot} {Q:Exit→Act→World→Prop} (hQ:∀a w,post w0 M A0 C.N K a w→Q .normal a w) (hok:ops.toList.all (operOk C.N)=true) :
  ∀(l:List Oper) (k:Nat),(∀j,l[j]?=ops[k+j]?)→∀(ρ:Env) (L:AHeap) (a:Act) (w:World),aregionW C l ρ L K→St w0 M A0 C.N ρ L a w→wpOpsIn (Fw C.r) n C.P ops Q (List.range' k l.length) a w
 | [],k,_,ρ,L,a,w,h,hs=>hQ a w ⟨ρ,L,h,hs⟩
 | o :: l,k,hl,ρ,L,a,w,h,hs=>by
  have h0:ops[k]?=some o:=by simpa using (hl 0).symm
  have ho:operOk C.N o=true:=List.all_eq_true.1 hok o (List.mem_of_getElem? (by simpa using h0))
  rw[List.length_cons,List.range'_succ,wpOpsIn_cons]
  refine wpOpIn_mono ?_ (AOp.gop h0 h.1 (aopW_sound (operOk_dst ho) (operOk_def ho) h.2) n w0 M A0 a w Q hs)
  rintro a' w' ⟨ρ',L',h1,h2⟩
  exact aregionW_sound hQ hok l (k+1) (fun j=>by have:=hl (j+1);simpa [Nat.add_assoc,Nat.add_comm 1 j] using this) ρ' L' a' w' h1 h2
theorem AWp.regionW {C:Cfg} {id:Nat} {ops:Array Oper} {Q:AQ} {ρ:Env} {L:AHeap} (h:aregionW C ops.toList ρ L (Q .normal)):AWp C (.region id ops false) Q ρ L:=fun hok n w0 M A0 a w hs=>by
 refine wpIn_region ?_
 have:=aregionW_sound (C:=C) (ops:=ops) (K:=Q .normal) (n:=n) (Q:=cq C w0 M A0 Q) (fun a w ⟨ρ',L',h1,h2⟩=>⟨ρ',L',h1,h2⟩) hok ops.toList 0 (by simp) ρ L a w h hs
 rwa [Array.length_toList,← List.range_eq_range'] at this
attribute [go_sem] aregionW_nil aregionW_cons aregWK aopW aAddW
end Go.AL
end
section
namespace Go.AL
open Go Go.RowKit
theorem AWp.range1 {C:Cfg} {id i1 i2 t s n t2:Nat} {ty1 ty2 ty3 ty4 r1 r2 r3:TypeId} {p1 p2 p3:String} {a1 a2 a3:Array Edge} {body:Code} {Q:AQ} {ρ:Env} {L:AHeap}
  (m:Nat) (ls ks:List Nat) (I:Nat→List AV→AHeap→Prop) (hm:m≤9223372036854775807) (hs:get ρ s=ai 0) (hn:get ρ n=ai m) (hnk:n ∈ ks) (hsk:s ∉ ks) (hsl:s ∉ ls) (hts:t ≠ s) (htk:t ∉ ks) (h2k:t2 ∉ ks) (htl:t ∉ ls) (h2l:t2 ∉ ls)
  (h0:I 0 (ls.map (get ρ)) L)
  (round:∀k vs L',k<m→vs.length=ls.length→I k vs L'→AWp C body (rangeQ id s k ls ks ρ (I (k+1)) Q) ((s,ai k) :: lenv ls ks vs ρ) L')
  (done:∀vs L',vs.length=ls.length→I m vs L'→Q .normal ((s,ai m) :: lenv ls ks vs ρ) L') :
  AWp C (.block id (.loop (.seq (.region i1 #[⟨some t,.binOp .lss ty1 (.tmp s) (.tmp n) ty2,r1,p1,a1,none⟩] false) (.seq (.cond (.tmp t) .skip (.exit id)) (.seq body
   (.region i2 #[⟨some t2,.binOp .add ty3 (.tmp s) (.const (.int .i64 1)) ty4,r2,p2,a2,none⟩,⟨some s,.move (.tmp t2),r3,p3,a3,none⟩] false)))))) Q ρ L:=by
 have hnl:∀vs:List AV,vs.length=ls.length→get (lenv ls ks vs ρ) n=ai m:=fun vs _=>by
  unfold lenv
  have hin:n ∈ (keep ks ρ).map (·.1):=by simp [keep,hnk]
  rw[get_append,if_pos hin]
  rcases get_keep ks ρ n with e|e
  ·have:∀l:List Nat,n ∈ l→get (keep l ρ) n=get ρ n:=fun l=>by
    induction l with
    | nil=>intro h;cases h
    | cons x r ih =>
     intro h
     simp only[keep,List.map_cons,get]
     split
     ·rename_i e;rw[e]
     ·rename_i e;exact ih ((List.mem_cons.1 h).resolve_left e)
   rw[this ks hnk,hn]
  ·rw[e,hn]
 have hns:n ≠ s:=fun e=>hsk (e ▸ hnk)
 have dropT:∀(k:Nat) (vs:List AV) (x:AV) (i:Nat),get ((s,ai k) :: lenv ls ks vs ρ) i = .any∨get ((s,ai k) :: lenv ls ks vs ρ) i=get ((t,x) :: (s,ai k) :: lenv ls ks vs ρ) i:=fun k vs x i=>by
  by_cases hi:i=t
  ·subst hi
   refine .inl ?_
   simp only[get,if_neg hts,lenv]
   rw[get_append,if_neg (by simp [keep,htk])]
   have:∀(l:List Nat) (v:List AV),i ∉ l→get (l.zip v) i = .any:=fun l=>by
    induction l with
    | nil=>intro v _;rfl
    | cons x r ih =>
     intro v h
     cases v with
     | nil=>rfl
     | cons y v =>
      simp only[List.zip_cons_cons,get]
      rw[if_neg (by rintro rfl;exact h List.mem_cons_self)]
      exact ih v (fun hh=>h (List.mem_cons_of_mem _ hh))
   exact this ls vs htl
  ·exact .inr (by simp [get,hi])
 refine AWp.block (AWp.loop (s :: ls) ks (fun vs' L'=>∃(k:Nat) (vs:List AV),vs'=ai (k:Int) :: vs∧k≤m∧I k vs L') (fun vs' _=>match vs' with | .v (.int _ k) :: _=>m - k.toNat|_=>0)
  ⟨0,_,by simp [hs],Nat.zero_le _,h0⟩ ?_)
 rintro vs' L' hl ⟨k,vs,rfl,hk,hI⟩
 have hvl:vs.length=ls.length:=by simpa using hl
 -- the counter first
 refine AWp.st (ρ':=(s,ai k) :: lenv ls ks vs ρ) (L':=L') (fun w0 M A0 a w h=>st_forget h fun i => ?_) ?_
 ·by_cases hi:i=s
  ·subst hi
   refine .inr ?_
   simp only[get,if_true,lenv]
   rw[get_append,if_neg (by simp [keep,hsk])]
   simp [get]
  ·refine .inr ?_
   simp only[get,if_neg hi,lenv,List.zip_cons_cons]
   rw[get_append,get_append]
   split
   ·rfl
   ·simp [get,hi]
 have hget_s:get ((s,ai k) :: lenv ls ks vs ρ) s=ai k:=by simp [get]
 have hget_n:get ((s,ai k) :: lenv ls ks vs ρ) n=ai m:=by simp only[get,if_neg hns];exact hnl vs hvl
 refine AWp.seq (AWp.region ?_)
 simp only[aregion,astep,aop,aval,ev,hget_s,hget_n,w2,fo,aEq,aBin,thenQ,put]
 refine⟨by simp,?_⟩
 refine AWp.seq (AWp.cond (t:=decide ((k:Int)<m)) (by simp [ev,get]) (fun ht => ?_) (fun hf => ?_))
 ·have hlt:k<m:=by simpa using ht
  refine AWp.of ?_
  simp only[awp1,thenQ]
  refine AWp.st (ρ':=(s,ai k) :: lenv ls ks vs ρ) (L':=L') (fun w0 M A0 a w h=>st_forget h (dropT k vs _)) ?_
  refine AWp.seq ((round k vs L' hlt hvl hI).mono ?_)
  intro e ρ' L'' hq
  cases e with
  | normal =>
   obtain⟨g1,g2,L3,g3,g4⟩:=hq
   simp only[thenQ]
   refine AWp.region ?_
   have hi64:I64 ((k:Int)+1):=by unfold I64;omega
   simp only[aregion,astep,aop,aval,ev,g1,w2,fo,aEq,aBin,put,if_true,get]
   refine⟨⟨⟨trivial,trivial⟩,trivial,hi64⟩,trivial,?_⟩
   simp only[roundQ]
   have hks:ks.map (get ((s,ai ((k:Int)+1)) :: (t2,ai ((k:Int)+1)) :: ρ'))=ks.map (get ρ'):=List.map_congr_left fun j hj=>by
    simp only[get];rw[if_neg (by rintro rfl;exact hsk hj),if_neg (by rintro rfl;exact h2k hj)]
   have hls:ls.map (get ((s,ai ((k:Int)+1)) :: (t2,ai ((k:Int)+1)) :: ρ'))=ls.map (get ρ'):=List.map_congr_left fun j hj=>by
    simp only[get];rw[if_neg (by rintro rfl;exact hsl hj),if_neg (by rintro rfl;exact h2l hj)]
   refine⟨by rw[hks];exact g2,L3,g3,⟨k+1,_,?_,hlt,g4⟩,?_⟩
   ·rw[List.map_cons,hls]
    simp only[get,if_true]
    rfl
   ·simp only[List.map_cons,get,if_true]
    have:((k:Int)+1).toNat=k+1:=by omega
    simp only[this,Int.toNat_natCast]
    omega
  | exit id'=>simpa [thenQ,roundQ,blockQ,rangeQ] using hq
  | goto l=>exact hq
  | ret=>exact hq
  | panic c=>exact hq
  | outgrown=>exact hq
 ·have hkm:k=m:=by have:¬((k:Int)<m):=by simpa using hf
                   omega
  subst hkm
  refine AWp.st (ρ':=(s,ai k) :: lenv ls ks vs ρ) (L':=L') (fun w0 M A0 a w h=>st_forget h (dropT k vs _)) (AWp.of ?_)
  simp only[awp1,thenQ,roundQ,blockQ,if_true]
  exact done vs L' hvl hI
theorem AWp.range1' {C:Cfg} {id i1 i2 t s n t2:Nat} {ty1 ty2 ty3 ty4 r1 r2 r3:TypeId} {p1 p2 p3:String} {a1 a2 a3:Array Edge} {body:Code} {Q:AQ} {ρ:Env} {L:AHeap}
  (m:Nat) (ls ks:List Nat) (I:Nat→List AV→AHeap→Prop) (hm:m≤9223372036854775807) (hs:get ρ s=ai 0) (hn:get ρ n=ai m) (hok:rOk s n t t2 ls ks=true)
  (h0:I 0 (ls.map (get ρ)) L)
  (round:∀k vs L',k<m→vs.length=ls.length→I k vs L'→AWp C body (rangeQ id s k ls ks ρ (I (k+1)) Q) ((s,ai k) :: lenv ls ks vs ρ) L')
  (done:∀vs L',vs.length=ls.length→I m vs L'→Q .normal ((s,ai m) :: lenv ls ks vs ρ) L') :
  AWp C (.block id (.loop (.seq (.region i1 #[⟨some t,.binOp .lss ty1 (.tmp s) (.tmp n) ty2,r1,p1,a1,none⟩] false) (.seq (.cond (.tmp t) .skip (.exit id)) (.seq body
   (.region i2 #[⟨some t2,.binOp .add ty3 (.tmp s) (.const (.int .i64 1)) ty4,r2,p2,a2,none⟩,⟨some s,.move (.tmp t2),r3,p3,a3,none⟩] false)))))) Q ρ L:=by
 simp only[rOk,Bool.and_eq_true,Bool.not_eq_true',List.contains_eq_mem,decide_eq_false_iff_not,decide_eq_true_eq,bne_iff_ne,ne_eq] at hok
 obtain⟨⟨⟨⟨⟨⟨⟨h1,h2⟩,h3⟩,h4⟩,h5⟩,h6⟩,h7⟩,h8⟩:=hok
 exact AWp.range1 m ls ks I hm hs hn h1 h2 h3 h4 h5 h6 h7 h8 h0 round done
end Go.AL
end
section
namespace Go.AL
open Go Go.RowKit
def astepF (C:Cfg) (all:List Oper) (o:Oper) (ρ:Env) (L:AHeap) (K:ARes):Prop :=
 match o.guard with
 | none=>aop C o ρ L K
 | some (j,want)=>match gval all ρ j want with
  | some b=>(b=want→aop C o ρ L K)∧(b ≠ want→K (put ρ o.dst .any) L)
  | none=>False
def aregionF (C:Cfg) (all:List Oper):List Oper→Env→AHeap→ARes→Prop
 | [],ρ,L,K=>K ρ L
 | o :: rest,ρ,L,K=>astepF C all o ρ L fun ρ L=>aregionF C all rest ρ L K
def aregFK (C:Cfg) (all rest:List Oper) (K:ARes) (ρ:Env) (L:AHeap):Prop:=aregionF C all rest ρ L K
theorem aregionF_nil (C:Cfg) (all:List Oper) (ρ:Env) (L:AHeap) (K:ARes):aregionF C all [] ρ L K=K ρ L:=rfl
theorem aregionF_cons (C:Cfg) (all rest:List Oper) (o:Oper) (ρ:Env) (L:AHeap) (K:ARes):aregionF C all (o :: rest) ρ L K=astepF C all o ρ L (aregFK C all rest K):=rfl
theorem astepF_sound {C:Cfg} {ops:Array Oper} {i:Nat} {o:Oper} {ρ:Env} {L:AHeap} {K:ARes} (hi:ops[i]?=some o) (hok:operOk C.N o=true) (h:astepF C ops.toList o ρ L K):GOp C ops i ρ L K:=by
 have hd:=operOk_dst hok
 have hdef:=operOk_def hok
 unfold astepF at h
 split at h
 ·rename_i hg;exact AOp.gop hi hg (aop_sound hd hdef h)
 ·rename_i j want hg
  split at h
  ·rename_i b hv
   exact GOp.of_guard' hi hg hv hd (fun hb=>aop_sound hd hdef (h.1 hb)) h.2
  ·exact h.elim
theorem aregionF_sound {C:Cfg} {ops:Array Oper} {K:ARes} {n:Nat} {w0:World} {M A0:Foot} {Q:Exit→Act→World→Prop} (hQ:∀a w,post w0 M A0 C.N K a w→Q .normal a w) (hok:ops.toList.all (operOk C.N)=true) :
  ∀(l:List Oper) (k:Nat),(∀j,l[j]?=ops[k+j]?)→∀(ρ:Env) (L:AHeap) (a:Act) (w:World),aregionF C ops.toList l ρ L K→St w0 M A0 C.N ρ L a w→wpOpsIn (Fw C.r) n C.P ops Q (List.range' k l.length) a w
 | [],k,_,ρ,L,a,w,h,hs=>hQ a w ⟨ρ,L,h,hs⟩
 | o :: l,k,hl,ρ,L,a,w,h,hs=>by
  have h0:ops[k]?=some o:=by simpa using (hl 0).symm
  have ho:operOk C.N o=true:=List.all_eq_true.1 hok o (List.mem_of_getElem? (by simpa using h0))
  rw[List.length_cons,List.range'_succ,wpOpsIn_cons]
  refine wpOpIn_mono ?_ (astepF_sound h0 ho h n w0 M A0 a w Q hs)
  rintro a' w' ⟨ρ',L',h1,h2⟩
  exact aregionF_sound hQ hok l (k+1) (fun j=>by have:=hl (j+1);simpa [Nat.add_assoc,Nat.add_comm 1 j] using this) ρ' L' a' w' h1 h2
theorem AWp.regionF {C:Cfg} {id:Nat} {ops:Array Oper} {Q:AQ} {ρ:Env} {L:AHeap} (h:aregionF C ops.toList ops.toList ρ L (Q .normal)):AWp C (.region id ops false) Q ρ L:=fun hok n w0 M A0 a w hs=>by
 refine wpIn_region ?_
 have:=aregionF_sound (C:=C) (ops:=ops) (K:=Q .normal) (n:=n) (Q:=cq C w0 M A0 Q) (fun a w ⟨ρ',L',h1,h2⟩=>⟨ρ',L',h1,h2⟩) hok ops.toList 0 (by simp) ρ L a w h hs
 rwa [Array.length_toList,← List.range_eq_range'] at this
attribute [go_sem] aregionF_nil aregionF_cons astepF aregFK
end Go.AL
end
section
namespace Go.AL
open Go Go.RowKit
set_option maxRecDepth 4000
end Go.AL
end
