/- Texts of this claim's proof: WVb, WJn, WPw2, WTl, WEf, WEl, WBd, WCl. No condition. -/
import Derived.Test.YtbdofbhocjfbfaaGreatDoorM10
import Derived.Test.YtbdofbhocjfbfaaGreatDoorM7
import Derived.Test.YtbdofbhocjfbfaaGreatDoorM5
import Derived.Test.YtbdofbhocjfbfaaGreatDoorM9
section
namespace Go.AL
open Go Go.RowKit
set_option maxRecDepth 4000
theorem evaluate_typed (t:Pd) (hz:szF t≤1000000) (h1:formedB t=true) (h2:typedB t=true) (w:Int):PC Proofs.Tryz.prog 78 [aPd t,ai w] (ai (if resF t.kind=w then 0 else 14)):=by
 have ht:=predtype_TypeX t hz
 rw[h1,h2] at ht
 rw[if_neg (by decide),if_neg (by decide),if_neg (by decide),if_neg (by decide)] at ht
 generalize resF t.kind=r at *
 obtain⟨k,n,p,q,s,l⟩:=t
 simp only[aPd_mk] at *
 refine PC.enter 19 [.tmp 4] [2] Proofs.Tryz.func78 rfl rfl rfl rfl rfl (by simp) (AWp.of ?_);simp only[go_sem]
 refine Wk ?_
 refine Sd ?_
 refine(ht).val.use ?_;simp only[go_sem]
 refine Wk ?_
 refine⟨fun h3 => ?_,fun h3 => ?_⟩
 ·refine Wk ?_
  refine ret_eq ?_;simp only[go_sem]
  rw[if_neg h3]
 ·refine Wk ?_
  refine ret_eq ?_;simp only[go_sem]
  rw[if_pos h3]
theorem predtype_temporal (k:Int):PC Proofs.Tryz.prog 117 [ai k] (ab (decide (18≤k∧k≤21))):=by
 generalize hb:decide (18≤k∧k≤21)=b
 refine PC.enter 9 [.tmp 2] [] Proofs.Tryz.func117 rfl rfl rfl rfl rfl (by simp) (AWp.of ?_);simp only[go_sem]
 refine Wk ?_
 refine ret_eq ?_;simp only[go_sem]
 rw[← hb]
 congr 2
 rw[Bool.eq_iff_iff];simp
theorem predtype_Temporal1 (x:Pd):PC Proofs.Tryz.prog 116 [aPd x] (ab (ntmB x)):=by
 obtain⟨k,n,p,q,s,l⟩:=x
 have h:=predtype_temporal k
 have hsp:ntmB (.mk k n p q s l) = !decide (18≤k∧k≤21):=rfl
 rw[hsp]
 generalize decide (18≤k∧k≤21)=b at *
 refine PC.enter 7 [.tmp 2] [1] Proofs.Tryz.func116 rfl rfl rfl rfl rfl (by simp) (AWp.of ?_);simp only[go_sem]
 refine Wk ?_
 refine Sd ?_
 refine(h).val.use ?_;simp only[go_sem]
 refine Wk ?_
 refine ret_eq ?_;simp only[go_sem]
theorem predtype_Temporal (t:Pd) (hz:szF t≤1000000):PC Proofs.Tryz.prog 79 [aPd t] (ab (formedB t && !allB ntmB t)):=by
 have hf:=predtype_formed t hz
 have he:=predtype_eachV ntmB 116 (fun x hx=>(predtype_Temporal1 x).val) t hz
 generalize formedB t=f at *
 generalize allB ntmB t=a at *
 obtain⟨k,n,p,q,s,l⟩:=t
 simp only[aPd_mk] at *
 refine PC.enter 10 [.tmp 2] [1] Proofs.Tryz.func79 rfl rfl rfl rfl rfl (by simp) (AWp.of ?_);simp only[go_sem]
 refine Wk ?_
 refine Sd ?_
 refine(hf).val.use ?_;simp only[go_sem]
 refine Sd ?_
 refine Gc he ?_
 refine Sd ?_
 refine Wk ?_
 refine ret_eq ?_;simp only[go_sem]
noncomputable def atE (ps:List Pr) (c:List Int) (t:Pd) (w:Int):Int :=
 if c.length ≠ ps.length then 1 else if checkF ps t ≠ 0 then checkF ps t else if givenF ps [c] [] ≠ 0 then givenF ps [c] [] else if resF t.kind ≠ w then 14 else if allB ntmB t=false then 15 else 0
open Classical in
noncomputable def atV (ps:List Pr) (c:List Int) (t:Pd):AV:=if c.length ≠ ps.length∨checkF ps t ≠ 0∨givenF ps [c] [] ≠ 0 then aView [] [] [] else aView ps c (valuesAt ps c)
theorem vw_view0 (L:AHeap):Vw L (.agg [anil,anil,anil]) (aView [] [] []):=.mkAgg (Vws.cons (.nil 3) (Vws.cons (.nil 1) (Vws.cons (.nil 1) .nil)))
theorem evaluate_at (ps:List Pr) (hs:Sm ps) (c:List Int) (hcl:c.length≤1000000) (t:Pd) (hz:szF t≤1000000) (w:Int):PC Proofs.Tryz.prog 46 [aTr ps,aInts c,aPd t,ai w] (.tup [atV ps c t,ai (atE ps c t w)]):=by
 have h1:=predtype_Check ps hs t hz
 have h2:=variable_At ps hs c hcl
 have h3:=fun a b=>evaluate_typed t hz a b w
 have h3':checkF ps t=0→typedB t=true:=fun h=>by
  have:=(checkF_zero h).2.2.1
  unfold okT at this;simp only[Bool.and_eq_true] at this;exact this.2
 have h4:=predtype_Temporal t hz
 have h4':checkF ps t=0→formedB t=true:=fun h=>(checkF_zero h).2.1
 have hE:atE ps c t w=if c.length ≠ ps.length then 1 else if checkF ps t ≠ 0 then checkF ps t else if givenF ps [c] [] ≠ 0 then givenF ps [c] [] else if resF t.kind ≠ w then 14 else if allB ntmB t=false then 15 else 0:=rfl
 have hV1:(c.length ≠ ps.length∨checkF ps t ≠ 0∨givenF ps [c] [] ≠ 0)→atV ps c t=aView [] [] []:=fun h=>by unfold atV;rw[if_pos h]
 have hV2:¬(c.length ≠ ps.length∨checkF ps t ≠ 0∨givenF ps [c] [] ≠ 0)→atV ps c t=aView ps c (valuesAt ps c):=fun h=>by unfold atV;rw[if_neg h]
 unfold aAt at h2
 generalize atE ps c t w=E at *
 generalize atV ps c t=V at *
 generalize checkF ps t=e at *
 generalize givenF ps [c] []=gv at *
 generalize formedB t=f at *
 generalize typedB t=y at *
 generalize resF t.kind=r at *
 generalize allB ntmB t=a at *
 have hl:=hs.procs
 obtain⟨k,n,p,q,s,l⟩:=t
 simp only[aPd_mk] at *
 by_cases hc:c.length=ps.length
 ·have hci:(c.length:Int)=ps.length:=by omega
  by_cases he:e=0
  ·subst he
   rw[if_neg (by simpa using hc),if_neg (by decide)] at hE
   have h3:=h3 (h4' rfl) (h3' rfl)
   rw[h4' rfl,Bool.true_and] at h4
   by_cases hg:gv=0
   ·subst hg
    rw[if_neg (by decide)] at hE
    rw[if_neg (by decide)] at h2
    have hV:=hV2 (by rintro(h|h|h);exact h hc;exact h rfl;exact h rfl)
    unfold aView at hV
    by_cases hr:r=w
    ·rw[if_neg (by simpa using hr)] at hE
     rw[if_pos hr] at h3
     refine PC.enter 53 [.cell 8 79,.tmp 9] [4,6] Proofs.Tryz.func46 rfl rfl rfl rfl rfl (by simp) (AWp.of ?_);simp only[go_sem]
     refine Wk ?_
     intro b8
     refine Wk ?_
     refine Sd ?_
     refine(h1).val.use ?_;simp only[go_sem,hci]
     refine W1 hci ?_
     refine Sd ?_
     refine(h2).val.use ?_;simp only[go_sem]
     refine Wk ?_
     refine Sd ?_
     refine(h3).val.use ?_;simp only[go_sem]
     refine Wk ?_
     refine Sd ?_
     refine Gc h4 ?_
     refine Sd ?_
     refine Wk ?_
     refine⟨fun h5 => ?_,fun h5 => ?_⟩
     ·rw[if_pos h5] at hE
      refine Wk ?_
      refine ret_eq ?_;simp only[go_sem]
      rw[hV,hE];rfl
     ·rw[if_neg (by rw[h5];decide)] at hE
      refine Wk ?_
      refine ret_eq ?_;simp only[go_sem]
      rw[hV,hE];rfl
    ·rw[if_pos hr] at hE
     rw[if_neg hr] at h3
     refine PC.enter 53 [.cell 8 79,.tmp 9] [4,6] Proofs.Tryz.func46 rfl rfl rfl rfl rfl (by simp) (AWp.of ?_);simp only[go_sem]
     refine Wk ?_
     intro b8
     refine Wk ?_
     refine Sd ?_
     refine(h1).val.use ?_;simp only[go_sem,hci]
     refine W1 hci ?_
     refine Sd ?_
     refine(h2).val.use ?_;simp only[go_sem]
     refine Wk ?_
     refine Sd ?_
     refine(h3).val.use ?_;simp only[go_sem]
     refine Wk ?_
     refine Sd ?_
     refine GCall.use (ab (!a)) (fun _=>⟨At,(h4).val.use ⟨rfl,rfl⟩⟩) ?_;simp only[go_sem,Int.reduceEq]
     refine Sd ?_
     refine Wk ?_
     refine ret_eq ?_;simp only[go_sem]
     rw[hV,hE];rfl
   ·rw[if_pos hg] at hE
    rw[if_pos hg] at h2
    have hV:=hV1 (.inr (.inr hg))
    refine PC.enter 53 [.cell 8 79,.tmp 9] [4,6] Proofs.Tryz.func46 rfl rfl rfl rfl rfl (by simp) (AWp.of ?_);simp only[go_sem]
    refine Wk ?_
    intro b8
    refine Wk ?_
    refine Sd ?_
    refine(h1).val.use ?_;simp only[go_sem,hci]
    refine W1 hci ?_
    refine Sd ?_
    refine(h2).val.use ?_;simp only[go_sem]
    refine W1 hg ?_
    refine ret_view [] ?_;simp only[go_sem]
    rw[hV,hE]
    exact .mkTup (Vws.cons (vw_view0 _) (Vws.refl _))
  ·rw[if_neg (by simpa using hc),if_pos he] at hE
   have hV:=hV1 (.inr (.inl he))
   refine PC.enter 53 [.cell 8 79,.tmp 9] [4,6] Proofs.Tryz.func46 rfl rfl rfl rfl rfl (by simp) (AWp.of ?_);simp only[go_sem]
   refine Wk ?_
   intro b8
   refine Wk ?_
   refine Sd ?_
   refine(h1).val.use ?_;simp only[go_sem]
   refine AWp.cut [8,10] (fun vs L=>L=[(b8,.row 79 3 [.agg [anil,anil,anil]] 1)]∧vs=[.lp b8 3 0 0,ai e]) ?_ ?_
   ·refine W1 hci ?_
    exact⟨_,List.Sublist.refl _,rfl⟩
   rintro vs L - ⟨rfl,rfl⟩
   simp only[go_sem]
   refine W1 he ?_
   refine ret_view [] ?_;simp only[go_sem]
   rw[hV,hE]
   exact .mkTup (Vws.cons (vw_view0 _) (Vws.refl _))
 ·have hci:¬(c.length:Int)=ps.length:=by omega
  rw[if_pos hc] at hE
  have hV:=hV1 (.inl hc)
  refine PC.enter 53 [.cell 8 79,.tmp 9] [4,6] Proofs.Tryz.func46 rfl rfl rfl rfl rfl (by simp) (AWp.of ?_);simp only[go_sem]
  refine Wk ?_
  intro b8
  refine Wk ?_
  refine Sd ?_
  refine(h1).val.use ?_;simp only[go_sem]
  refine AWp.cut [8,10] (fun vs L=>L=[(b8,.row 79 3 [.agg [anil,anil,anil]] 1)]∧vs=[.lp b8 3 0 0,ai 1]) ?_ ?_
  ·refine W1 hci ?_
   refine⟨fun h6 => ?_,fun h6 => ?_⟩
   ·refine Wk ?_
    exact⟨_,List.Sublist.refl _,rfl⟩
   ·exact⟨_,List.Sublist.refl _,by rw[h6];exact⟨rfl,rfl⟩⟩
  rintro vs L - ⟨rfl,rfl⟩
  simp only[go_sem]
  repeat(first|((with_reducible refine AWp.ofC ?_ ?_);exact rfl;simp only[go_sem,Int.reduceEq])|((with_reducible refine an ?_ ?_);exact Au))
  refine ret_view [] ?_;simp only[go_sem]
  rw[hV,hE]
  exact .mkTup (Vws.cons (vw_view0 _) (Vws.refl _))
def nchB:Pd→Bool | .mk k _ _ _ _ _=>decide (k ≠ 4)
theorem atE_zero {ps:List Pr} {c:List Int} {t:Pd} (h:atE ps c t 2=0):checkF ps t=0∧givenF ps [c] []=0∧9≤t.kind∧allB ntmB t=true∧c.length=ps.length:=by
 unfold atE at h
 split at h
 ·cases h
 ·rename_i h1
  split at h
  ·rename_i h2;exact absurd h h2
  ·rename_i h2
   split at h
   ·rename_i h3;exact absurd h h3
   ·rename_i h3
    split at h
    ·cases h
    ·rename_i h4
     split at h
     ·cases h
     ·rename_i h5
      refine⟨by simpa using h2,by simpa using h3,?_,by simpa using h5,by simpa using h1⟩
      have:resF t.kind=2:=by simpa using h4
      unfold resF at this
      split at this <;> omega
end Go.AL
end
section
namespace Go.AL
open Go Go.RowKit
set_option maxRecDepth 4000
theorem givenL {ps:List Pr} {l:List (List Int)} : givenF ps l []=0↔(validF ps=true∧∀c ∈ l,c.length=ps.length)∧(∀c ∈ l,inRangeF ps c=true)∧∀c ∈ l,closedF ps c=true:=by
 have h1:sizedF ps l=true↔validF ps=true∧∀c ∈ l,c.length=ps.length:=by
  refine⟨sizedF_inv,fun h => ?_⟩
  unfold sizedF
  rw[h.1,Bool.true_and,Bool.not_eq_true',List.any_eq_false]
  intro c hc
  rw[decide_eq_true (h.2 c hc)];decide
 have h2:=List.all_eq_true (l:=l) (p:=inRangeF ps)
 have h3:=List.all_eq_true (l:=l) (p:=closedF ps)
 rw[← h1,← h2,← h3]
 unfold givenF
 cases sizedF ps l <;> cases l.all (inRangeF ps) <;> cases l.all (closedF ps) <;> simp
def pd0:Pd:=.mk 0 0 0 0 ByteArray.empty []
def joinL (c d:List Int):List Int:=List.zipWith (fun x y=>if x<y then y else x) c d
section
variable {ps:List Pr} {c j:List Int}
end
def closeN (ps:List Pr):Nat→List Int→List Int
 | 0,c=>c
 | n+1,c=>match missF ps c with
  | none=>c
  | some x=>closeN ps n (c.set x.1.1.toNat x.1.2)
def closeF (ps:List Pr) (c:List Int):List Int:=closeN ps (off ps ps.length) c
structure Elim where
 n:Nat
 top:Nat→Nat
 ok:Nat→Nat→Bool
 need:Nat→Nat→Nat→Int
def exB (E:Elim) (now:Nat→Nat) (p k:Nat):Bool:=!E.ok p k || (List.range E.n).any fun q=>decide (q ≠ p) && decide ((k:Int)<E.need q (now q) p)
def nextF (ex:Nat→Bool) (top:Nat):Nat→Nat→Nat
 | 0,k=>k
 | m+1,k=>if k≤top∧ex k=true then nextF ex top m (k+1) else k
def nextK (ex:Nat→Bool) (top k:Nat):Nat:=nextF ex top (top+1 - k) k
section
variable {ex:Nat→Bool} {top k:Nat}
theorem nextK_hit (h:k≤top) (he:ex k=true):nextK ex top k=nextK ex top (k+1):=by
 unfold nextK
 obtain⟨m,hm⟩:∃m,top+1 - k=m+1:=⟨top - k,by omega⟩
 rw[hm,nextF,if_pos ⟨h,he⟩,show top+1 - (k+1)=m by omega]
theorem nextK_stop (h:¬(k≤top∧ex k=true)):nextK ex top k=k:=by
 unfold nextK
 cases top+1 - k with
 | zero=>rfl
 | succ m=>rw[nextF,if_neg h]
theorem nextK_spec:∀(m k:Nat),top+1 - k=m→k≤top+1→k≤nextK ex top k∧nextK ex top k≤top+1∧(∀j,k≤j→j<nextK ex top k→ex j=true)∧(nextK ex top k≤top→ex (nextK ex top k)=false)
 | 0,k,hm,hk=>by
  rw[nextK_stop (by omega)]
  exact⟨Nat.le_refl _,hk,fun j _ _=>by omega,fun h=>by omega⟩
 | m+1,k,hm,hk=>by
  by_cases he:ex k=true
  ·rw[nextK_hit (by omega) he]
   obtain⟨a1,a2,a3,a4⟩:=nextK_spec m (k+1) (by omega) (by omega)
   refine⟨by omega,a2,fun j h1 h2 => ?_,a4⟩
   by_cases e:j=k
   ·subst e;exact he
   ·exact a3 j (by omega) h2
  ·rw[nextK_stop (fun h=>he h.2)]
   exact⟨Nat.le_refl _,hk,fun j _ _=>by omega,fun _=>by simpa using he⟩
end
def stepP (E:Elim) (now:Nat→Nat):Option Nat:=(List.range E.n).find? fun p=>exB E now p (now p)
def goF (E:Elim) (now:Nat→Nat) (p:Nat):Nat:=nextK (exB E now p) (E.top p) (now p)
def updN (f:Nat→Nat) (p x:Nat):Nat→Nat:=fun q=>if q=p then x else f q
theorem updN_self (f:Nat→Nat) (p x:Nat):updN f p x p=x:=if_pos rfl
theorem updN_ne {f:Nat→Nat} {p x q:Nat} (h:q ≠ p):updN f p x q=f q:=if_neg h
theorem find_range {n:Nat} {f:Nat→Bool} {p:Nat} (h:(List.range n).find? f=some p):p<n∧f p=true∧∀q,q<p→f q=false:=by
 rw[List.find?_eq_some_iff_getElem] at h
 obtain⟨h1,i,hi,e,h2⟩:=h
 rw[List.getElem_range] at e
 subst e
 refine⟨by simpa using hi,h1,fun q hq => ?_⟩
 have:=h2 q hq
 rw[List.getElem_range] at this
 simpa using this
abbrev Stp:=Nat × Nat × Nat
inductive RunR (E:Elim):(Nat→Nat)→List Stp→(Nat→Nat)→Bool→Prop
 | stop {now:Nat→Nat} (h:stepP E now=none):RunR E now [] now false
 | lost {now:Nat→Nat} {p:Nat} (h:stepP E now=some p) (hl:E.top p<goF E now p):RunR E now [(p,now p,goF E now p - 1)] (updN now p (goF E now p)) true
 | go {now fin:Nat→Nat} {p:Nat} {st:List Stp} {l:Bool} (h:stepP E now=some p) (hl:goF E now p≤E.top p) (hr:RunR E (updN now p (goF E now p)) st fin l):RunR E now ((p,now p,goF E now p - 1) :: st) fin l
def InE (E:Elim) (now:Nat→Nat):Prop:=∀q,q<E.n→now q≤E.top q
def roomE (E:Elim) (now:Nat→Nat):Nat:=totS E.n fun q=>E.top q+1 - now q
theorem totS_lt {c c':Nat→Nat} {p:Nat} (h:∀q,q ≠ p→c' q=c q) (hp:c' p<c p):∀n,totS n c'+(if p<n then 1 else 0)≤totS n c
 | 0=>by simp [totS]
 | n+1=>by
  have:=totS_lt h hp n
  rw[totS_succ,totS_succ]
  by_cases e:n=p
  ·subst e
   rw[if_neg (by omega)] at this
   rw[if_pos (by omega)];omega
  ·rw[h n e]
   by_cases e2:p<n
   ·rw[if_pos e2] at this;rw[if_pos (by omega)];omega
   ·rw[if_neg e2] at this;rw[if_neg (by omega)];omega
theorem step_inv {E:Elim} {now:Nat→Nat} (hI:InE E now) {p:Nat} (h:stepP E now=some p) :
  p<E.n∧exB E now p (now p)=true∧(∀q,q<p→exB E now q (now q)=false)∧now p<goF E now p∧goF E now p≤E.top p+1∧(∀j,now p≤j→j<goF E now p→exB E now p j=true)∧roomE E (updN now p (goF E now p))<roomE E now:=by
 obtain⟨h1,h2,h3⟩:=find_range h
 have hle:=hI p h1
 obtain⟨a1,a2,a3,a4⟩:=nextK_spec (ex:=exB E now p) (top:=E.top p) _ (now p) rfl (by omega)
 have hlt:now p<goF E now p:=by
  unfold goF
  rw[nextK_hit hle h2]
  obtain⟨b1,_⟩:=nextK_spec (ex:=exB E now p) (top:=E.top p) _ (now p+1) rfl (by omega)
  omega
 refine⟨h1,h2,h3,hlt,a2,a3,?_⟩
 unfold roomE
 have:=totS_lt (c:=fun q=>E.top q+1 - now q) (c':=fun q=>E.top q+1 - updN now p (goF E now p) q) (p:=p) (fun q hq=>by rw[updN_ne hq]) (by rw[updN_self];omega) E.n
 rw[if_pos h1] at this
 omega
theorem inE_step {E:Elim} {now:Nat→Nat} (hI:InE E now) {p:Nat} (hl:goF E now p≤E.top p):InE E (updN now p (goF E now p)):=fun q hq=>by
 by_cases e:q=p
 ·subst e;rw[updN_self];exact hl
 ·rw[updN_ne e];exact hI q hq
theorem run_ex (E:Elim):∀(m:Nat) (now:Nat→Nat),InE E now→roomE E now≤m→∃st fin l,RunR E now st fin l:=by
 intro m
 induction m with
 | zero =>
  intro now hI hm
  cases h:stepP E now with
  | none=>exact⟨_,_,_,.stop h⟩
  | some p=>have:=(step_inv hI h).2.2.2.2.2.2;omega
 | succ m ih =>
  intro now hI hm
  cases h:stepP E now with
  | none=>exact⟨_,_,_,.stop h⟩
  | some p =>
   have h7:=(step_inv hI h).2.2.2.2.2.2
   by_cases hl:goF E now p≤E.top p
   ·obtain⟨st,fin,l,hr⟩:=ih _ (inE_step hI hl) (by omega)
    exact⟨_,_,_,.go h hl hr⟩
   ·exact⟨_,_,_,.lost h (by omega)⟩
theorem inE_zero (E:Elim):InE E fun _=>0:=fun _ _=>Nat.zero_le _
open Classical in
noncomputable def stepsF (E:Elim):List Stp:=Classical.choose (run_ex E _ _ (inE_zero E) (Nat.le_refl _))
open Classical in
noncomputable def finF (E:Elim):Nat→Nat:=Classical.choose (Classical.choose_spec (run_ex E _ _ (inE_zero E) (Nat.le_refl _)))
open Classical in
noncomputable def lostF (E:Elim):Bool:=Classical.choose (Classical.choose_spec (Classical.choose_spec (run_ex E _ _ (inE_zero E) (Nat.le_refl _))))
end Go.AL
end
section
namespace Go.AL
open Go Go.RowKit
set_option maxRecDepth 4000
section
variable {E:Elim} {p q m k:Nat}
end
theorem ref22_Sent (ps:List Pr) (hs:Sm ps) (hv:validF ps=true) (c:List Int) (hc:c.length=ps.length) (p:Nat) (hp:p<ps.length) (i:Nat) (hi:i<ps[p].evs.length) (hic:(i:Int)<cAt c p) :
  PC Proofs.Tryz.prog 75 [aTr ps,aInts c,ai p,ai i] (ab (!badEv ps c (((p:Int),(i:Int)+1),ps[p].evs[i]))):=by
 obtain⟨hl1,hl8⟩:=valid_len hv
 have hl:=hs.procs
 have hel:=hs.evs _ (List.getElem_mem hp)
 have hgp:=getD_map (f:=aPr) hp
 have hge:=getD_map (f:=aEv) hi
 have hbad:badEv ps c (((p:Int),(i:Int)+1),ps[p].evs[i])=(decide (ps[p].evs[i].kind=3) && decide (cAt c (findIn (evIds ps) 2 ps[p].evs[i].msg).1<(findIn (evIds ps) 2 ps[p].evs[i].msg).2)):=by
  simp only[badEv,decide_eq_true (show (i:Int)+1≤cAt c p by omega),Bool.and_true]
 rw[hbad]
 have hfd:=ref12_Find ps hs 2 ps[p].evs[i].msg
 obtain⟨f1,f2⟩:=findIn_proc hl1 2 ps[p].evs[i].msg
 have hgs:=getD_cAt (c:=c) f1 (by omega)
 generalize findIn (evIds ps) 2 ps[p].evs[i].msg=s at *
 refine PC.enter 35 [.tmp 8] [4,9,10] Proofs.Tryz.func75 rfl rfl rfl rfl rfl (by simp) (AWp.of ?_);simp only[go_sem]
 refine W2 hgp hge ?_
 intro b9
 refine Wk ?_
 refine⟨fun h3 => ?_,fun h3 => ?_⟩
 ·refine Wk ?_
  refine ret_eq ?_;simp only[go_sem]
  rw[decide_eq_false h3];rfl
 ·refine Wk ?_
  refine Sd ?_
  refine(hfd).val.use ?_;simp only[go_sem]
  refine Sd ?_
  intro b10
  refine AWp.seq ?_
  refine AWp.drawn mixed 8 (by kernel_rfl) ?_;simp only[go_sem,hgs]
  refine Sd ?_
  refine Wk ?_
  refine ret_eq ?_;simp only[go_sem]
  rw[decide_eq_true h3,Bool.true_and,← decide_not]
  congr 2
  simp only[decide_eq_decide];omega
end Go.AL
end
