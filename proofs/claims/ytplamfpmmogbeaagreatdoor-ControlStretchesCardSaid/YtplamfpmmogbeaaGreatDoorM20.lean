/- Texts of this claim's proof: WV22, WV23, WV24, WU9, WU10, WU12, WU13, WQe, WXg, WU14, WV25, WV27, WY3. No condition. -/
import Derived.Test.YtplamfpmmogbeaaGreatDoorM18
import Derived.Test.YtplamfpmmogbeaaGreatDoorM19
import Derived.Test.YtplamfpmmogbeaaGreatDoorM13
import Derived.Test.YtplamfpmmogbeaaGreatDoorM15
import Derived.Test.YtplamfpmmogbeaaGreatDoorM14
section
namespace Go.AL
open Go Go.RowKit
set_option maxRecDepth 4000
theorem bools_index (bs:List Bool) (hl:bs.length≤1000001):PC Proofs.Tryz.prog 94 [.sl 1 (bs.map ab),ab false] (ai (match bs.findIdx? (fun x => !x) with|some i=>(i:Int)|none => -1)):=by
 refine PC.enter 19 [.tmp 4] [] Proofs.Tryz.func94 rfl rfl rfl rfl rfl (by simp) (AWp.of ?_);simp only[go_sem]
 refine Wk ?_
 refine(AWp.range' bs.length [] [0,1,7] (fun k vs L=>L=[]∧∀i (h:i<bs.length),i<k→bs[i]=true) (by omega) rfl rfl rfl ⟨rfl,fun _ _ h=>by omega⟩ ?_ ?_)
 ·rintro k vs L hk - ⟨rfl,hI⟩
  have hg:=getD_map (f:=ab) hk
  have hx:bs[k]=false→bs.findIdx? (fun x => !x)=some k:=fun h=>by
   rw[List.findIdx?_eq_some_iff_getElem];exact⟨hk,by rw[h];rfl,fun j hj=>by rw[hI j (by omega) hj];decide⟩
  have hI2:bs[k]=true→∀i (h:i<bs.length),i<k+1→bs[i]=true:=fun h i hi hik=>by
   by_cases e:i=k
   ·subst e;exact h
   ·exact hI i hi (by omega)
  generalize bs[k]=B at *
  simp only[go_sem]
  cases B with
  | true =>
   refine W1 hg ?_
   exact⟨_,List.Sublist.refl _,rfl,hI2 rfl⟩
  | false =>
   rw[hx rfl]
   refine W1 hg ?_
   refine ret_eq ?_;simp only[go_sem]
 ·rintro vs L - ⟨rfl,hI⟩
  have:bs.findIdx? (fun x => !x)=none:=by rw[List.findIdx?_eq_none_iff];intro x hx;obtain⟨i,hi,rfl⟩:=List.getElem_of_mem hx;rw[hI i hi hi];rfl
  rw[this]
  simp only[go_sem]
  refine Wk ?_
  refine ret_eq ?_;simp only[go_sem]
theorem bools_contains (bs:List Bool) (hl:bs.length≤1000001):PC Proofs.Tryz.prog 50 [.sl 1 (bs.map ab),ab false] (ab (bs.any fun x => !x)):=by
 have h1:=bools_index bs hl
 refine PC.enter 9 [.tmp 4] [] Proofs.Tryz.func50 rfl rfl rfl rfl rfl (by simp) (AWp.of ?_);simp only[go_sem]
 refine Wk ?_
 refine Sd ?_
 refine(h1).val.use ?_;simp only[go_sem]
 refine Wk ?_
 refine ret_eq ?_;simp only[go_sem]
 congr 2;exact findIdx_any bs fun x => !x
theorem ref29_ok (ps:List Pr) (hs:Sm ps) (ts:List Pd) (hz:∀t ∈ ts,szF t≤1000000) (hf:conF ps ts=0) (p:Nat) (hp:p<ps.length) (hpt:p<ts.length) (k:Nat) (hk:k≤ps[p].evs.length):PC Proofs.Tryz.prog 86 [aTr ps,ai p,ai (k:Nat),aPd ts[p]] (ab ((elimOf ps ts).ok p k)):=by
 obtain⟨hv,htn,hlc⟩:=conF_inv hf
 obtain⟨c1,_,_,_,c5,c6⟩:=lcl_ok (hlc p hpt)
 have h:=ref29_Local ps hs p k hp hk ts[p] (hz _ (List.getElem_mem hpt)) c1 c5 c6
 have hok:(elimOf ps ts).ok p k=lclT ps p ts[p] k:=by show (match ts[p]? with|some t=>lclT ps p t k|none=>true)=_;rw[List.getElem?_eq_getElem hpt]
 rw[hok];exact h
theorem evtG_len:∀(R:List (List Int)) (c:List Int),(evtG c R).length=R.length
 | [],_=>rfl
 | b :: R,c=>by
  show (evtG b R).length+1=_
  rw[evtG_len R b];rfl
section
variable {b:Nat→Bool} {p K:Nat} {l:List Stp}
end
section
variable {ps:List Pr} {ts:List Pd} (hC:conF ps ts=0)
include hC
end
structure TgB (ps:List Pr) (s:Nat→Stp):Prop where
 el:∀p,p<ps.length→(s p).2.1≤(s p).2.2∧(s p).2.2≤nev ps p∧(s p).1=p
 bg:∀p q,p<ps.length→q<ps.length→p ≠ q→bgN ps (s p) (s q)=true
theorem cut_at {ps:List Pr} {c:List Int} (hc:isF ps c=true) {p:Nat} (hp:p<ps.length):0≤cAt c p∧cAt c p≤nev ps p:=by
 rw[nev_get hp]
 exact(inRange_iff (isF_iff.1 hc).1).1 (isF_iff.1 hc).2.1 p hp
section
variable {ps:List Pr} (hv:validF ps=true) {s:Nat→Stp} (hT:TgB ps s)
include hv hT
end
def synL:List Eid→List Syn
 | x :: y :: r=>(if x.1 ≠ y.1 then [(x,y)] else []) ++ synL (y :: r)
 | _=>[]
theorem synL_mem {s:Syn} : ∀ {es:List Eid},s ∈ synL es↔s.1.1 ≠ s.2.1∧∃(j:Nat) (h:j+1<es.length),s=(es[j],es[j+1])
 | []=>by
  constructor
  ·intro h;cases h
  ·rintro⟨_,j,h,_⟩;simp at h
 | [x]=>by
  constructor
  ·intro h;cases h
  ·rintro⟨_,j,h,_⟩;simp at h
 | x :: y :: r=>by
  have e:synL (x :: y :: r)=(if x.1 ≠ y.1 then [(x,y)] else []) ++ synL (y :: r):=rfl
  rw[e,List.mem_append,synL_mem]
  constructor
  ·rintro(h|⟨h1,j,hj,h2⟩)
   ·split at h
    ·rename_i hne
     rw[List.mem_singleton] at h
     subst h
     exact⟨hne,0,by simp,rfl⟩
    ·cases h
   ·exact⟨h1,j+1,by simp at hj ⊢;omega,h2⟩
  ·rintro⟨h1,j,hj,h2⟩
   cases j with
   | zero =>
    left
    subst h2
    have h1:x.1 ≠ y.1:=h1
    rw[if_pos h1]
    exact List.mem_singleton.2 rfl
   | succ j=>exact .inr ⟨h1,j,by simp at hj ⊢;omega,h2⟩
def hasB (c:List Int) (y:Eid):Bool:=decide (y.2≤cAt c y.1)
def rkO (O:List (List Int)) (y:Eid):Nat:=(O.filter fun c => !hasB c y).length
theorem filter_lt {α:Type} {p q:α→Bool} : ∀ {l:List α},(∀x ∈ l,p x=true→q x=true)→(∃x ∈ l,p x=false∧q x=true)→(l.filter p).length<(l.filter q).length
 | [],_,⟨_,h,_⟩=>nomatch h
 | a :: l,h,⟨x,hx,h1,h2⟩=>by
  have hle:(l.filter p).length≤(l.filter q).length:=by
   have:∀ {l:List α},(∀x ∈ l,p x=true→q x=true)→(l.filter p).length≤(l.filter q).length:=fun {l} => by
    induction l with
    | nil=>intro _;simp
    | cons b l ih =>
     intro h
     have ih:=ih fun x hx=>h x (List.mem_cons_of_mem _ hx)
     have hb:=h b (by simp)
     rw[List.filter_cons,List.filter_cons]
     cases hp:p b with
     | true=>rw[hb hp];simp;exact ih
     | false=>cases q b <;> simp <;> omega
   exact this fun x hx=>h x (List.mem_cons_of_mem _ hx)
  rw[List.filter_cons,List.filter_cons]
  rcases List.mem_cons.1 hx with rfl|hx
  ·rw[h1,h2];simp;omega
  ·have ih:=filter_lt (l:=l) (fun x hx=>h x (List.mem_cons_of_mem _ hx)) ⟨x,hx,h1,h2⟩
   have ha:=h a (by simp)
   cases hp:p a with
   | true=>rw[ha hp];simp;exact ih
   | false=>cases q a <;> simp <;> omega
section
variable {ps:List Pr}
theorem stpC_at {c:List Int} (hc:isF ps c=true) {q p:Nat} (hp:p<ps.length):cAt (stpC c q) p=if q=p then cAt c q+1 else cAt c p:=by
 have:=(isF_iff.1 hc).1
 rw[cAt_stp (by omega)]
 split
 ·rename_i e;subst e;rfl
 ·rfl
theorem chn_gain {y:Eid} (hy:0≤y.1∧y.1<ps.length):∀ {R:List (List Int)} {c:List Int},isF ps c=true→chnF ps c R=true→hasB c y=false→(∃d ∈ R,hasB d y=true) →
  ∃a b,a ∈ c :: R∧b ∈ R∧isF ps a=true∧hasB a y=false∧(∃q,q<ps.length∧b=stpC a q∧y=((q:Int),cAt a q+1))
 | [],c,_,_,_,⟨d,hd,_⟩=>nomatch hd
 | b :: R,c,hc,h,h0,⟨d,hd,h1⟩=>by
  obtain⟨q,q1,q2,rfl,_,q5⟩:=(chn_cons hc).1 h
  cases hb:hasB (stpC c q) y with
  | false =>
   have hd':∃d ∈ R,hasB d y=true:=by
    rcases List.mem_cons.1 hd with rfl|hd
    ·rw[hb] at h1;cases h1
    ·exact⟨d,hd,h1⟩
   obtain⟨a,b,g1,g2,g3⟩:=chn_gain hy (rdy_is q2) q5 hb hd'
   exact⟨a,b,List.mem_cons_of_mem _ g1,List.mem_cons_of_mem _ g2,g3⟩
  | true =>
   refine⟨c,_,by simp,by simp,hc,h0,q,q1,rfl,?_⟩
   obtain⟨a,k⟩:=y
   have hy:0≤a∧a<ps.length:=hy
   unfold hasB at h0 hb
   simp only[decide_eq_false_iff_not,decide_eq_true_eq] at h0 hb
   obtain⟨a',rfl⟩:=Int.eq_ofNat_of_zero_le hy.1
   rw[stpC_at hc (by omega)] at hb
   split at hb
   ·rename_i e;subst e
    rw[Prod.mk.injEq];omega
   ·omega
theorem rk_lt {R:List (List Int)} (h:chnF ps (zeroC ps) R=true) (hlast:(zeroC ps :: R).getLast?=some (fullC ps)) {y x:Eid} (hy:0≤y.1∧y.1<ps.length∧1≤y.2∧y.2≤nev ps y.1.toNat) (hx0:0≤x.1) (hne:y ≠ x)
  (hx:∀c ∈ zeroC ps :: R,hasB c x=true→hasB c y=true):rkO (zeroC ps :: R) y<rkO (zeroC ps :: R) x:=by
 obtain⟨y1,y2,y3,y4⟩:=hy
 have hz:hasB (zeroC ps) y=false:=by
  unfold hasB
  refine decide_eq_false ?_
  unfold zeroC cAt
  rw[getD_zeros];omega
 have hf:hasB (fullC ps) y=true:=by
  unfold hasB
  refine decide_eq_true ?_
  obtain⟨p,hp⟩:=Int.eq_ofNat_of_zero_le y1
  rw[hp] at y2 y4 ⊢
  rw[Int.toNat_natCast] at y4
  rw[fullC_at (by omega),← nev_get (by omega)]
  exact y4
 have hR:∃d ∈ R,hasB d y=true:=by
  have hm:=List.mem_of_getLast? hlast
  rcases List.mem_cons.1 hm with e|hm
  ·rw[e,hz] at hf;cases hf
  ·exact⟨_,hm,hf⟩
 obtain⟨a,b,g1,g2,g3,g4,q,q1,rfl,q3⟩:=chn_gain ⟨y1,y2⟩ (zeroC_is ps) h hz hR
 refine filter_lt (fun c hc hn => ?_) ⟨stpC a q,List.mem_cons_of_mem _ g2,?_,?_⟩
 ·cases hh:hasB c x with
  | false=>rfl
  | true=>rw[hx c hc hh] at hn;cases hn
 ·have:hasB (stpC a q) y=true:=by
   unfold hasB
   refine decide_eq_true ?_
   rw[q3]
   show cAt a q+1≤cAt (stpC a q) q
   rw[stpC_at g3 q1,if_pos rfl];exact Int.le_refl _
  rw[this];rfl
 ·cases hh:hasB (stpC a q) x with
  | false=>rfl
  | true =>
   exfalso
   have ha:hasB a x=false:=by
    cases h2:hasB a x with
    | false=>rfl
    | true=>rw[hx a g1 h2] at g4;cases g4
   refine hne ?_
   obtain⟨u,k⟩:=x
   unfold hasB at hh ha
   simp only[decide_eq_false_iff_not,decide_eq_true_eq] at hh ha
   have hal:=(isF_iff.1 g3).1
   have hu:u.toNat=q:=by
    refine Classical.byContradiction fun hne => ?_
    unfold cAt at hh ha
    unfold stpC at hh
    rw[List.getD_eq_getElem?_getD,List.getElem?_set,if_neg (fun e=>hne e.symm),← List.getD_eq_getElem?_getD] at hh
    exact ha hh
   have e1:cAt (stpC a q) u=cAt a u+1:=by
    unfold cAt stpC
    rw[hu,List.getD_eq_getElem?_getD,List.getElem?_set,if_pos rfl,if_pos (by omega),Option.getD_some]
    unfold cAt;rfl
   have e2:cAt a u=cAt a q:=by unfold cAt;rw[hu,Int.toNat_natCast]
   have hx0:0≤u:=hx0
   rw[q3,Prod.mk.injEq]
   omega
theorem evt_get:∀ {R:List (List Int)} {c:List Int} (_:isF ps c=true) (_:chnF ps c R=true) {j:Nat} (hj:j<(evtG c R).length),∃a,isF ps a=true∧(c :: R)[j]?=some a∧∃q,q<ps.length∧(c :: R)[j+1]?=some (stpC a q)∧(evtG c R)[j]=((q:Int),cAt a q+1)∧rdyF ps a q=true
 | [],_,_,_,j,hj=>by simp [evtG] at hj
 | b :: R,c,hc,h,j,hj=>by
  obtain⟨q,q1,q2,rfl,q4,q5⟩:=(chn_cons hc).1 h
  have e:evtG c (stpC c q :: R)=(stepF c (stpC c q),cAt (stpC c q) (stepF c (stpC c q))) :: evtG (stpC c q) R:=rfl
  cases j with
  | zero =>
   refine⟨c,hc,rfl,q,q1,rfl,?_,q2⟩
   simp only[e,List.getElem_cons_zero]
   rw[q4,stpC_at hc q1,if_pos rfl]
  | succ j =>
   have hj2:j<(evtG (stpC c q) R).length:=by rw[e,List.length_cons] at hj;omega
   obtain⟨a,a1,a2,q',a3,a4,a5,a6⟩:=evt_get (rdy_is q2) q5 hj2
   exact⟨a,a1,a2,q',a3,a4,by simp only[e,List.getElem_cons_succ];exact a5,a6⟩
theorem evt_ex {p:Nat} (hp:p<ps.length):∀ {R:List (List Int)} {c e:List Int},isF ps c=true→chnF ps c R=true→(c :: R).getLast?=some e→cAt c p<cAt e p→((p:Int),cAt c p+1) ∈ evtG c R
 | [],c,e,hc,_,hl,hlt=>by
  have:c=e:=Option.some.inj hl
  rw[this] at hlt;omega
 | b :: R,c,e,hc,h,hl,hlt=>by
  obtain⟨q,q1,q2,rfl,q4,q5⟩:=(chn_cons hc).1 h
  rw[List.getLast?_cons_cons] at hl
  have e0:evtG c (stpC c q :: R)=(stepF c (stpC c q),cAt (stpC c q) (stepF c (stpC c q))) :: evtG (stpC c q) R:=rfl
  have hat:=stpC_at hc (q:=q) hp
  rw[e0,List.mem_cons]
  by_cases hqp:q=p
  ·subst hqp
   left
   rw[q4,hat,if_pos rfl]
  ·right
   rw[if_neg hqp] at hat
   have:=evt_ex hp (rdy_is q2) q5 hl (by rw[hat];exact hlt)
   rwa [hat] at this
theorem evt_back {es:List Eid} {P:Eid→Prop} (h:∀j (hj:j+1<es.length),P es[j+1]→P es[j]):∀ {m:Nat} (hm:m<es.length),P es[m]→∀ {j:Nat} (hj:j≤m),P (es[j]'(by omega))
 | 0,hm,hp,j,hj=>by
  have:j=0:=by omega
  subst this;exact hp
 | m+1,hm,hp,j,hj=>by
  by_cases e:j=m+1
  ·subst e;exact hp
  ·exact evt_back h (m:=m) (by omega) (h m hm hp) (by omega)
theorem prefix_of {d:Nat→Nat} : ∀ {R:List (List Int)} {c:List Int},isF ps c=true→chnF ps c R=true→(c :: R).getLast?=some (fullC ps)→(∀p,p<ps.length→d p≤nev ps p) →
  (∀p,p<ps.length→cAt c p≤d p)→(∀j (hj:j+1<(evtG c R).length),((evtG c R)[j+1]).2≤d ((evtG c R)[j+1]).1.toNat→((evtG c R)[j]).2≤d ((evtG c R)[j]).1.toNat)→∃a ∈ c :: R,∀p,p<ps.length→cAt a p=d p
 | [],c,_,_,hl,hn,hle,_=>by
  have:c=fullC ps:=Option.some.inj hl
  refine⟨c,by simp,fun p hp => ?_⟩
  have h1:=hle p hp
  have h2:=hn p hp
  rw[this,fullC_at hp,← nev_get hp] at h1 ⊢
  omega
 | b :: R,c,hc,h,hl,hn,hle,hcl=>by
  have h':=h
  obtain⟨q,q1,q2,rfl,q4,q5⟩:=(chn_cons hc).1 h
  have e0:evtG c (stpC c q :: R)=(stepF c (stpC c q),cAt (stpC c q) (stepF c (stpC c q))) :: evtG (stpC c q) R:=rfl
  by_cases hq:cAt c q+1≤d q
  ·have hl2:=hl
   rw[List.getLast?_cons_cons] at hl2
   have hle2:∀p,p<ps.length→cAt (stpC c q) p≤d p:=fun p hp=>by
    rw[stpC_at hc hp]
    split
    ·rename_i e;subst e;exact hq
    ·exact hle p hp
   obtain⟨a,a1,a2⟩:=prefix_of (rdy_is q2) q5 hl2 hn hle2 fun j hj hd=>by
    have:=hcl (j+1) (by rw[e0,List.length_cons];omega)
    simp only[e0,List.getElem_cons_succ] at this
    exact this hd
   exact⟨a,List.mem_cons_of_mem _ a1,a2⟩
  ·refine⟨c,by simp,fun p hp => ?_⟩
   refine Int.le_antisymm (hle p hp) (Int.not_lt.1 fun hlt=>hq ?_)
   have hfull:cAt c p<cAt (fullC ps) p:=by
    have:=hn p hp
    rw[fullC_at hp,← nev_get hp];omega
   have hm:=evt_ex hp hc h' hl hfull
   obtain⟨m,hm1,hm2⟩:=List.getElem_of_mem hm
   have hb:=evt_back (es:=evtG c (stpC c q :: R)) (P:=fun y=>y.2≤d y.1.toNat) (fun j hj=>hcl j hj) hm1 (by rw[hm2];simp only[Int.toNat_natCast];omega) (j:=0) (Nat.zero_le _)
   simp only[e0,List.getElem_cons_zero] at hb
   rw[q4,stpC_at hc q1,if_pos rfl,Int.toNat_natCast] at hb
   exact hb
theorem syn_ok {R:List (List Int)} (h:chnF ps (zeroC ps) R=true):SynOk ps (synL (evtG (zeroC ps) R)):=fun s hs=>by
 obtain⟨_,j,hj,rfl⟩:=synL_mem.1 hs
 have key:∀i (hi:i<(evtG (zeroC ps) R).length),0≤((evtG (zeroC ps) R)[i]).1∧((evtG (zeroC ps) R)[i]).1<ps.length∧1≤((evtG (zeroC ps) R)[i]).2∧((evtG (zeroC ps) R)[i]).2≤nev ps ((evtG (zeroC ps) R)[i]).1.toNat:=fun i hi=>by
  obtain⟨a,a1,_,q,a3,_,a5,a6⟩:=evt_get (zeroC_is ps) h hi
  rw[a5]
  simp only[Int.toNat_natCast]
  have h1:=cut_at (rdy_is a6) a3
  have h2:=cut_at a1 a3
  rw[stpC_at a1 a3,if_pos rfl] at h1
  omega
 exact⟨key j (by omega),key (j+1) hj⟩
theorem evt_lack:∀ {R:List (List Int)} {c:List Int} (_:isF ps c=true) (_:chnF ps c R=true) {j:Nat} (hj:j<(evtG c R).length),∀m,m≤j→∀a,(c :: R)[m]?=some a→hasB a (evtG c R)[j]=false
 | [],_,_,_,j,hj=>by simp [evtG] at hj
 | b :: R,c,hc,h,j,hj=>by
  intro m hm a ha
  obtain⟨q,q1,q2,rfl,q4,q5⟩:=(chn_cons hc).1 h
  have e:evtG c (stpC c q :: R)=(stepF c (stpC c q),cAt (stpC c q) (stepF c (stpC c q))) :: evtG (stpC c q) R:=rfl
  have hself:hasB c ((q:Int),cAt c q+1)=false:=decide_eq_false (by show ¬cAt c q+1≤cAt c q;omega)
  cases j with
  | zero =>
   have:m=0:=by omega
   subst this
   have:c=a:=Option.some.inj ha
   subst this
   simp only[e,List.getElem_cons_zero]
   rw[q4,stpC_at hc q1,if_pos rfl]
   exact hself
  | succ j =>
   have hj2:j<(evtG (stpC c q) R).length:=by rw[e,List.length_cons] at hj;omega
   simp only[e,List.getElem_cons_succ]
   cases m with
   | succ m=>exact evt_lack (rdy_is q2) q5 hj2 m (by omega) a ha
   | zero =>
    have:c=a:=Option.some.inj ha
    subst this
    have h1:=evt_lack (rdy_is q2) q5 hj2 0 (Nat.zero_le _) (stpC c q) rfl
    obtain⟨a',a1,_,q',a3,_,a5,_⟩:=evt_get (rdy_is q2) q5 hj2
    rw[a5] at h1 ⊢
    unfold hasB at h1 ⊢
    simp only[decide_eq_false_iff_not] at h1 ⊢
    rw[stpC_at hc a3] at h1
    split at h1
    ·rename_i e;subst e;omega
    ·omega
theorem chn_sum_le:∀ {R:List (List Int)} {c:List Int},isF ps c=true→chnF ps c R=true→∀d ∈ c :: R,∀y:Eid,hasB c y=true→hasB d y=true
 | [],c,_,_,d,hd,y,h=>by
  rw[List.mem_singleton] at hd
  subst hd;exact h
 | b :: R,c,hc,h,d,hd,y,hy=>by
  obtain⟨q,q1,q2,rfl,q4,q5⟩:=(chn_cons hc).1 h
  rcases List.mem_cons.1 hd with rfl|hd
  ·exact hy
  ·refine chn_sum_le (rdy_is q2) q5 d hd y ?_
   unfold hasB cAt stpC at *
   simp only[decide_eq_true_eq] at hy ⊢
   have hl:=(isF_iff.1 hc).1
   rw[List.getD_eq_getElem?_getD,List.getElem?_set]
   split
   ·rename_i e
    rw[if_pos (by omega),Option.getD_some,e]
    unfold cAt
    rw[Int.toNat_natCast]
    have:(c.getD y.1.toNat 0)=c.getD y.1.toNat 0:=rfl
    omega
   ·rw[← List.getD_eq_getElem?_getD];exact hy
theorem evt_have:∀ {R:List (List Int)} {c:List Int} (_:isF ps c=true) (_:chnF ps c R=true) {j:Nat} (hj:j<(evtG c R).length),∀m,j<m→∀a,(c :: R)[m]?=some a→hasB a (evtG c R)[j]=true
 | [],_,_,_,j,hj=>by simp [evtG] at hj
 | b :: R,c,hc,h,j,hj=>by
  intro m hm a ha
  obtain⟨q,q1,q2,rfl,q4,q5⟩:=(chn_cons hc).1 h
  have e:evtG c (stpC c q :: R)=(stepF c (stpC c q),cAt (stpC c q) (stepF c (stpC c q))) :: evtG (stpC c q) R:=rfl
  cases m with
  | zero=>omega
  | succ m =>
   have ha:(stpC c q :: R)[m]?=some a:=ha
   cases j with
   | zero =>
    simp only[e,List.getElem_cons_zero]
    refine chn_sum_le (rdy_is q2) q5 a (List.mem_of_getElem? ha) _ ?_
    rw[q4]
    unfold hasB
    exact decide_eq_true (Int.le_refl _)
   | succ j =>
    have hj2:j<(evtG (stpC c q) R).length:=by rw[e,List.length_cons] at hj;omega
    simp only[e,List.getElem_cons_succ]
    exact evt_have (rdy_is q2) q5 hj2 m (by omega) a ha
theorem syn_rnk (hv:validF ps=true) {R:List (List Int)} (h:chnF ps (zeroC ps) R=true) (hl:(zeroC ps :: R).getLast?=some (fullC ps)):RnkX ps (synL (evtG (zeroC ps) R)) (rkO (zeroC ps :: R)):=fun p hp i hi y hy=>by
 have hok:=syn_ok h
 have hev:=dirX_ev hv hok hp hi y hy
 have hR:∀c ∈ zeroC ps :: R,isF ps c=true:=fun c hc=>by
  rcases List.mem_cons.1 hc with rfl|hc
  ·exact zeroC_is ps
  ·obtain⟨j,hj,rfl⟩:=List.getElem_of_mem hc
   exact(chn_iff.1 h j hj).1
 have hy':=hy
 unfold dirX dirE at hy
 rw[List.mem_append,List.mem_append] at hy
 rcases hy with (hy|hy)|hy
 ·split at hy
  ·rw[List.mem_singleton] at hy
   subst hy
   refine rk_lt h hl hev (by show (0:Int)≤(p:Int);omega) (by intro e;rw[Prod.mk.injEq] at e;omega) fun c _ hc => ?_
   unfold hasB at *
   simp only[decide_eq_true_eq] at *
   omega
  ·cases hy
 ·split at hy
  ·rename_i hk
   rw[List.mem_singleton] at hy
   subst hy
   have hn:=nev_get hp
   rw[evq_get hp (by omega)] at hk hev ⊢
   obtain⟨_,_,m3⟩:=valid_parts hv
   refine rk_lt h hl hev (by show (0:Int)≤(p:Int);omega) ?_ fun c hc hx => ?_
   ·intro e
    obtain⟨hq,j,hj,hsd,g1,g2⟩:=recv_peer m3 hp (by omega) hk
    have hne:=peer_ne hv hp (by omega) hk
    have e1:=congrArg Prod.fst e
    rw[hsd] at e1
    have e1:((ps[p].evs[i].peer.toNat:Nat):Int)=p:=e1
    omega
   ·obtain⟨c1,c2,c3⟩:=isF_iff.1 (hR c hc)
    unfold hasB at hx ⊢
    simp only[decide_eq_true_eq] at hx ⊢
    exact closed_iff.1 c3 p hp i (by omega) hk hx
  ·cases hy
 ·obtain⟨s,h1,rfl⟩:=List.mem_map.1 hy
  obtain⟨h2,h3⟩:=List.mem_filter.1 h1
  have h3:=of_decide_eq_true h3
  obtain⟨hne,j,hj,rfl⟩:=synL_mem.1 h2
  have h3:(evtG (zeroC ps) R)[j+1]=((p:Int),(i:Int)+1):=h3
  rw[← h3]
  refine rk_lt h hl hev (by rw[h3];show (0:Int)≤(p:Int);omega) (fun e=>hne (congrArg Prod.fst e)) fun c hc hx => ?_
  obtain⟨m,hm,rfl⟩:=List.getElem_of_mem hc
  have hmg:(zeroC ps :: R)[m]?=some (zeroC ps :: R)[m]:=List.getElem?_eq_getElem hm
  by_cases hmj:m≤j+1
  ·rw[evt_lack (zeroC_is ps) h hj m hmj _ hmg] at hx;cases hx
  ·exact evt_have (zeroC_is ps) h (by omega) m (by omega) _ hmg
theorem syn_ctl {bad:Nat→Nat→Bool} {R:List (List Int)} (hD:DodgeR ps bad (zeroC ps :: R)):ctlB ps (synL (evtG (zeroC ps) R)) bad=true:=by
 obtain⟨R',hR',h,hl⟩:=isrun_inv hD.run
 have:R=R':=by injection hR'
 subst this
 rw[ctlB_true]
 rintro⟨d,hd⟩
 obtain⟨a,ha,hat⟩:=prefix_of (d:=d) (zeroC_is ps) h hl hd.rng (fun p hp=>by unfold zeroC cAt;rw[getD_zeros];omega) fun j hj hx=>by
  obtain⟨a,a1,_,q,a3,_,a5,a6⟩:=evt_get (zeroC_is ps) h hj
  obtain⟨a',a1',_,q',a3',_,a5',a6'⟩:=evt_get (zeroC_is ps) h (show j<(evtG (zeroC ps) R).length by omega)
  have h1:=cut_at (rdy_is a6) a3
  have h2:=cut_at a1 a3
  rw[stpC_at a1 a3,if_pos rfl] at h1
  by_cases hne:((evtG (zeroC ps) R)[j]).1 ≠ ((evtG (zeroC ps) R)[j+1]).1
  ·have hs:((evtG (zeroC ps) R)[j],(evtG (zeroC ps) R)[j+1]) ∈ synL (evtG (zeroC ps) R):=synL_mem.2 ⟨hne,j,hj,rfl⟩
   refine hd.clo q a3 (cAt a q).toNat (by omega) ?_ _ ?_
   ·rw[a5] at hx
    simp only[Int.toNat_natCast] at hx
    omega
   ·unfold dirX
    refine List.mem_append_right _ (List.mem_map.2 ⟨_,List.mem_filter.2 ⟨hs,decide_eq_true ?_⟩,rfl⟩)
    show (evtG (zeroC ps) R)[j+1]=_
    rw[a5,Prod.mk.injEq]
    omega
  ·-- the same process: the event before has a smaller number
   have hne:((evtG (zeroC ps) R)[j]).1=((evtG (zeroC ps) R)[j+1]).1:=Classical.not_not.1 hne
   have hlk:=evt_lack (zeroC_is ps) h hj (j+1) (Nat.le_refl _)
   obtain⟨b,hb⟩:∃b,(zeroC ps :: R)[j+1]?=some b:=⟨a,by assumption⟩
   have g1:=hlk b hb
   have g2:=evt_have (zeroC_is ps) h (show j<(evtG (zeroC ps) R).length by omega) (j+1) (by omega) b hb
   unfold hasB at g1 g2
   simp only[decide_eq_true_eq,decide_eq_false_iff_not] at g1 g2
   rw[hne] at g2 ⊢
   omega
 obtain⟨p,hp,hb⟩:=hD.av a ha
 have:=hd.bad p hp
 rw[hat p hp,Int.toNat_natCast,this] at hb
 cases hb
end
end Go.AL
end
