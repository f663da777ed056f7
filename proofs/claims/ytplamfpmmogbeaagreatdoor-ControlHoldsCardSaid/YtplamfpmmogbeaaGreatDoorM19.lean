/- Texts of this claim's proof: WY3, WY6. No condition. -/
import Derived.Test.YtplamfpmmogbeaaGreatDoorM15
import Derived.Test.YtplamfpmmogbeaaGreatDoorM16
import Derived.Test.YtplamfpmmogbeaaGreatDoorM18
import Derived.Test.YtplamfpmmogbeaaGreatDoorM12
import Derived.Test.YtplamfpmmogbeaaGreatDoorM13
import Derived.Test.YtplamfpmmogbeaaGreatDoorM10
section
namespace Go.AL
open Go Go.RowKit
set_option maxRecDepth 4000
def synL:List Eid→List Syn
 | x :: y :: r=>(if x.1 ≠ y.1 then [(x,y)] else []) ++ synL (y :: r)
 | _=>[]
theorem synL_mem {s:Syn} : ∀ {es:List Eid},s ∈ synL es↔s.1.1 ≠ s.2.1∧∃(j:Nat) (h:j+1<es.length),s=(es[j],es[j+1])
 | []=>by
  constructor
  ·intro h;cases h
  ·rintro⟨_,j,h,_⟩;simp at h
 | [x]=>by
  constructor
  ·intro h;cases h
  ·rintro⟨_,j,h,_⟩;simp at h
 | x :: y :: r=>by
  have e:synL (x :: y :: r)=(if x.1 ≠ y.1 then [(x,y)] else []) ++ synL (y :: r):=rfl
  rw[e,List.mem_append,synL_mem]
  constructor
  ·rintro(h|⟨h1,j,hj,h2⟩)
   ·split at h
    ·rename_i hne
     rw[List.mem_singleton] at h
     subst h
     exact⟨hne,0,by simp,rfl⟩
    ·cases h
   ·exact⟨h1,j+1,by simp at hj ⊢;omega,h2⟩
  ·rintro⟨h1,j,hj,h2⟩
   cases j with
   | zero =>
    left
    subst h2
    have h1:x.1 ≠ y.1:=h1
    rw[if_pos h1]
    exact List.mem_singleton.2 rfl
   | succ j=>exact .inr ⟨h1,j,by simp at hj ⊢;omega,h2⟩
def hasB (c:List Int) (y:Eid):Bool:=decide (y.2≤cAt c y.1)
def rkO (O:List (List Int)) (y:Eid):Nat:=(O.filter fun c => !hasB c y).length
theorem filter_lt {α:Type} {p q:α→Bool} : ∀ {l:List α},(∀x ∈ l,p x=true→q x=true)→(∃x ∈ l,p x=false∧q x=true)→(l.filter p).length<(l.filter q).length
 | [],_,⟨_,h,_⟩=>nomatch h
 | a :: l,h,⟨x,hx,h1,h2⟩=>by
  have hle:(l.filter p).length≤(l.filter q).length:=by
   have:∀ {l:List α},(∀x ∈ l,p x=true→q x=true)→(l.filter p).length≤(l.filter q).length:=fun {l} => by
    induction l with
    | nil=>intro _;simp
    | cons b l ih =>
     intro h
     have ih:=ih fun x hx=>h x (List.mem_cons_of_mem _ hx)
     have hb:=h b (by simp)
     rw[List.filter_cons,List.filter_cons]
     cases hp:p b with
     | true=>rw[hb hp];simp;exact ih
     | false=>cases q b <;> simp <;> omega
   exact this fun x hx=>h x (List.mem_cons_of_mem _ hx)
  rw[List.filter_cons,List.filter_cons]
  rcases List.mem_cons.1 hx with rfl|hx
  ·rw[h1,h2];simp;omega
  ·have ih:=filter_lt (l:=l) (fun x hx=>h x (List.mem_cons_of_mem _ hx)) ⟨x,hx,h1,h2⟩
   have ha:=h a (by simp)
   cases hp:p a with
   | true=>rw[ha hp];simp;exact ih
   | false=>cases q a <;> simp <;> omega
section
variable {ps:List Pr}
theorem stpC_at {c:List Int} (hc:isF ps c=true) {q p:Nat} (hp:p<ps.length):cAt (stpC c q) p=if q=p then cAt c q+1 else cAt c p:=by
 have:=(isF_iff.1 hc).1
 rw[cAt_stp (by omega)]
 split
 ·rename_i e;subst e;rfl
 ·rfl
theorem chn_gain {y:Eid} (hy:0≤y.1∧y.1<ps.length):∀ {R:List (List Int)} {c:List Int},isF ps c=true→chnF ps c R=true→hasB c y=false→(∃d ∈ R,hasB d y=true) →
  ∃a b,a ∈ c :: R∧b ∈ R∧isF ps a=true∧hasB a y=false∧(∃q,q<ps.length∧b=stpC a q∧y=((q:Int),cAt a q+1))
 | [],c,_,_,_,⟨d,hd,_⟩=>nomatch hd
 | b :: R,c,hc,h,h0,⟨d,hd,h1⟩=>by
  obtain⟨q,q1,q2,rfl,_,q5⟩:=(chn_cons hc).1 h
  cases hb:hasB (stpC c q) y with
  | false =>
   have hd':∃d ∈ R,hasB d y=true:=by
    rcases List.mem_cons.1 hd with rfl|hd
    ·rw[hb] at h1;cases h1
    ·exact⟨d,hd,h1⟩
   obtain⟨a,b,g1,g2,g3⟩:=chn_gain hy (rdy_is q2) q5 hb hd'
   exact⟨a,b,List.mem_cons_of_mem _ g1,List.mem_cons_of_mem _ g2,g3⟩
  | true =>
   refine⟨c,_,by simp,by simp,hc,h0,q,q1,rfl,?_⟩
   obtain⟨a,k⟩:=y
   have hy:0≤a∧a<ps.length:=hy
   unfold hasB at h0 hb
   simp only[decide_eq_false_iff_not,decide_eq_true_eq] at h0 hb
   obtain⟨a',rfl⟩:=Int.eq_ofNat_of_zero_le hy.1
   rw[stpC_at hc (by omega)] at hb
   split at hb
   ·rename_i e;subst e
    rw[Prod.mk.injEq];omega
   ·omega
theorem rk_lt {R:List (List Int)} (h:chnF ps (zeroC ps) R=true) (hlast:(zeroC ps :: R).getLast?=some (fullC ps)) {y x:Eid} (hy:0≤y.1∧y.1<ps.length∧1≤y.2∧y.2≤nev ps y.1.toNat) (hx0:0≤x.1) (hne:y ≠ x)
  (hx:∀c ∈ zeroC ps :: R,hasB c x=true→hasB c y=true):rkO (zeroC ps :: R) y<rkO (zeroC ps :: R) x:=by
 obtain⟨y1,y2,y3,y4⟩:=hy
 have hz:hasB (zeroC ps) y=false:=by
  unfold hasB
  refine decide_eq_false ?_
  unfold zeroC cAt
  rw[getD_zeros];omega
 have hf:hasB (fullC ps) y=true:=by
  unfold hasB
  refine decide_eq_true ?_
  obtain⟨p,hp⟩:=Int.eq_ofNat_of_zero_le y1
  rw[hp] at y2 y4 ⊢
  rw[Int.toNat_natCast] at y4
  rw[fullC_at (by omega),← nev_get (by omega)]
  exact y4
 have hR:∃d ∈ R,hasB d y=true:=by
  have hm:=List.mem_of_getLast? hlast
  rcases List.mem_cons.1 hm with e|hm
  ·rw[e,hz] at hf;cases hf
  ·exact⟨_,hm,hf⟩
 obtain⟨a,b,g1,g2,g3,g4,q,q1,rfl,q3⟩:=chn_gain ⟨y1,y2⟩ (zeroC_is ps) h hz hR
 refine filter_lt (fun c hc hn => ?_) ⟨stpC a q,List.mem_cons_of_mem _ g2,?_,?_⟩
 ·cases hh:hasB c x with
  | false=>rfl
  | true=>rw[hx c hc hh] at hn;cases hn
 ·have:hasB (stpC a q) y=true:=by
   unfold hasB
   refine decide_eq_true ?_
   rw[q3]
   show cAt a q+1≤cAt (stpC a q) q
   rw[stpC_at g3 q1,if_pos rfl];exact Int.le_refl _
  rw[this];rfl
 ·cases hh:hasB (stpC a q) x with
  | false=>rfl
  | true =>
   exfalso
   have ha:hasB a x=false:=by
    cases h2:hasB a x with
    | false=>rfl
    | true=>rw[hx a g1 h2] at g4;cases g4
   refine hne ?_
   obtain⟨u,k⟩:=x
   unfold hasB at hh ha
   simp only[decide_eq_false_iff_not,decide_eq_true_eq] at hh ha
   have hal:=(isF_iff.1 g3).1
   have hu:u.toNat=q:=by
    refine Classical.byContradiction fun hne => ?_
    unfold cAt at hh ha
    unfold stpC at hh
    rw[List.getD_eq_getElem?_getD,List.getElem?_set,if_neg (fun e=>hne e.symm),← List.getD_eq_getElem?_getD] at hh
    exact ha hh
   have e1:cAt (stpC a q) u=cAt a u+1:=by
    unfold cAt stpC
    rw[hu,List.getD_eq_getElem?_getD,List.getElem?_set,if_pos rfl,if_pos (by omega),Option.getD_some]
    unfold cAt;rfl
   have e2:cAt a u=cAt a q:=by unfold cAt;rw[hu,Int.toNat_natCast]
   have hx0:0≤u:=hx0
   rw[q3,Prod.mk.injEq]
   omega
theorem evt_get:∀ {R:List (List Int)} {c:List Int} (_:isF ps c=true) (_:chnF ps c R=true) {j:Nat} (hj:j<(evtG c R).length),∃a,isF ps a=true∧(c :: R)[j]?=some a∧∃q,q<ps.length∧(c :: R)[j+1]?=some (stpC a q)∧(evtG c R)[j]=((q:Int),cAt a q+1)∧rdyF ps a q=true
 | [],_,_,_,j,hj=>by simp [evtG] at hj
 | b :: R,c,hc,h,j,hj=>by
  obtain⟨q,q1,q2,rfl,q4,q5⟩:=(chn_cons hc).1 h
  have e:evtG c (stpC c q :: R)=(stepF c (stpC c q),cAt (stpC c q) (stepF c (stpC c q))) :: evtG (stpC c q) R:=rfl
  cases j with
  | zero =>
   refine⟨c,hc,rfl,q,q1,rfl,?_,q2⟩
   simp only[e,List.getElem_cons_zero]
   rw[q4,stpC_at hc q1,if_pos rfl]
  | succ j =>
   have hj2:j<(evtG (stpC c q) R).length:=by rw[e,List.length_cons] at hj;omega
   obtain⟨a,a1,a2,q',a3,a4,a5,a6⟩:=evt_get (rdy_is q2) q5 hj2
   exact⟨a,a1,a2,q',a3,a4,by simp only[e,List.getElem_cons_succ];exact a5,a6⟩
theorem evt_ex {p:Nat} (hp:p<ps.length):∀ {R:List (List Int)} {c e:List Int},isF ps c=true→chnF ps c R=true→(c :: R).getLast?=some e→cAt c p<cAt e p→((p:Int),cAt c p+1) ∈ evtG c R
 | [],c,e,hc,_,hl,hlt=>by
  have:c=e:=Option.some.inj hl
  rw[this] at hlt;omega
 | b :: R,c,e,hc,h,hl,hlt=>by
  obtain⟨q,q1,q2,rfl,q4,q5⟩:=(chn_cons hc).1 h
  rw[List.getLast?_cons_cons] at hl
  have e0:evtG c (stpC c q :: R)=(stepF c (stpC c q),cAt (stpC c q) (stepF c (stpC c q))) :: evtG (stpC c q) R:=rfl
  have hat:=stpC_at hc (q:=q) hp
  rw[e0,List.mem_cons]
  by_cases hqp:q=p
  ·subst hqp
   left
   rw[q4,hat,if_pos rfl]
  ·right
   rw[if_neg hqp] at hat
   have:=evt_ex hp (rdy_is q2) q5 hl (by rw[hat];exact hlt)
   rwa [hat] at this
theorem evt_back {es:List Eid} {P:Eid→Prop} (h:∀j (hj:j+1<es.length),P es[j+1]→P es[j]):∀ {m:Nat} (hm:m<es.length),P es[m]→∀ {j:Nat} (hj:j≤m),P (es[j]'(by omega))
 | 0,hm,hp,j,hj=>by
  have:j=0:=by omega
  subst this;exact hp
 | m+1,hm,hp,j,hj=>by
  by_cases e:j=m+1
  ·subst e;exact hp
  ·exact evt_back h (m:=m) (by omega) (h m hm hp) (by omega)
theorem prefix_of {d:Nat→Nat} : ∀ {R:List (List Int)} {c:List Int},isF ps c=true→chnF ps c R=true→(c :: R).getLast?=some (fullC ps)→(∀p,p<ps.length→d p≤nev ps p) →
  (∀p,p<ps.length→cAt c p≤d p)→(∀j (hj:j+1<(evtG c R).length),((evtG c R)[j+1]).2≤d ((evtG c R)[j+1]).1.toNat→((evtG c R)[j]).2≤d ((evtG c R)[j]).1.toNat)→∃a ∈ c :: R,∀p,p<ps.length→cAt a p=d p
 | [],c,_,_,hl,hn,hle,_=>by
  have:c=fullC ps:=Option.some.inj hl
  refine⟨c,by simp,fun p hp => ?_⟩
  have h1:=hle p hp
  have h2:=hn p hp
  rw[this,fullC_at hp,← nev_get hp] at h1 ⊢
  omega
 | b :: R,c,hc,h,hl,hn,hle,hcl=>by
  have h':=h
  obtain⟨q,q1,q2,rfl,q4,q5⟩:=(chn_cons hc).1 h
  have e0:evtG c (stpC c q :: R)=(stepF c (stpC c q),cAt (stpC c q) (stepF c (stpC c q))) :: evtG (stpC c q) R:=rfl
  by_cases hq:cAt c q+1≤d q
  ·have hl2:=hl
   rw[List.getLast?_cons_cons] at hl2
   have hle2:∀p,p<ps.length→cAt (stpC c q) p≤d p:=fun p hp=>by
    rw[stpC_at hc hp]
    split
    ·rename_i e;subst e;exact hq
    ·exact hle p hp
   obtain⟨a,a1,a2⟩:=prefix_of (rdy_is q2) q5 hl2 hn hle2 fun j hj hd=>by
    have:=hcl (j+1) (by rw[e0,List.length_cons];omega)
    simp only[e0,List.getElem_cons_succ] at this
    exact this hd
   exact⟨a,List.mem_cons_of_mem _ a1,a2⟩
  ·refine⟨c,by simp,fun p hp => ?_⟩
   refine Int.le_antisymm (hle p hp) (Int.not_lt.1 fun hlt=>hq ?_)
   have hfull:cAt c p<cAt (fullC ps) p:=by
    have:=hn p hp
    rw[fullC_at hp,← nev_get hp];omega
   have hm:=evt_ex hp hc h' hl hfull
   obtain⟨m,hm1,hm2⟩:=List.getElem_of_mem hm
   have hb:=evt_back (es:=evtG c (stpC c q :: R)) (P:=fun y=>y.2≤d y.1.toNat) (fun j hj=>hcl j hj) hm1 (by rw[hm2];simp only[Int.toNat_natCast];omega) (j:=0) (Nat.zero_le _)
   simp only[e0,List.getElem_cons_zero] at hb
   rw[q4,stpC_at hc q1,if_pos rfl,Int.toNat_natCast] at hb
   exact hb
theorem syn_ok {R:List (List Int)} (h:chnF ps (zeroC ps) R=true):SynOk ps (synL (evtG (zeroC ps) R)):=fun s hs=>by
 obtain⟨_,j,hj,rfl⟩:=synL_mem.1 hs
 have key:∀i (hi:i<(evtG (zeroC ps) R).length),0≤((evtG (zeroC ps) R)[i]).1∧((evtG (zeroC ps) R)[i]).1<ps.length∧1≤((evtG (zeroC ps) R)[i]).2∧((evtG (zeroC ps) R)[i]).2≤nev ps ((evtG (zeroC ps) R)[i]).1.toNat:=fun i hi=>by
  obtain⟨a,a1,_,q,a3,_,a5,a6⟩:=evt_get (zeroC_is ps) h hi
  rw[a5]
  simp only[Int.toNat_natCast]
  have h1:=cut_at (rdy_is a6) a3
  have h2:=cut_at a1 a3
  rw[stpC_at a1 a3,if_pos rfl] at h1
  omega
 exact⟨key j (by omega),key (j+1) hj⟩
theorem evt_lack:∀ {R:List (List Int)} {c:List Int} (_:isF ps c=true) (_:chnF ps c R=true) {j:Nat} (hj:j<(evtG c R).length),∀m,m≤j→∀a,(c :: R)[m]?=some a→hasB a (evtG c R)[j]=false
 | [],_,_,_,j,hj=>by simp [evtG] at hj
 | b :: R,c,hc,h,j,hj=>by
  intro m hm a ha
  obtain⟨q,q1,q2,rfl,q4,q5⟩:=(chn_cons hc).1 h
  have e:evtG c (stpC c q :: R)=(stepF c (stpC c q),cAt (stpC c q) (stepF c (stpC c q))) :: evtG (stpC c q) R:=rfl
  have hself:hasB c ((q:Int),cAt c q+1)=false:=decide_eq_false (by show ¬cAt c q+1≤cAt c q;omega)
  cases j with
  | zero =>
   have:m=0:=by omega
   subst this
   have:c=a:=Option.some.inj ha
   subst this
   simp only[e,List.getElem_cons_zero]
   rw[q4,stpC_at hc q1,if_pos rfl]
   exact hself
  | succ j =>
   have hj2:j<(evtG (stpC c q) R).length:=by rw[e,List.length_cons] at hj;omega
   simp only[e,List.getElem_cons_succ]
   cases m with
   | succ m=>exact evt_lack (rdy_is q2) q5 hj2 m (by omega) a ha
   | zero =>
    have:c=a:=Option.some.inj ha
    subst this
    have h1:=evt_lack (rdy_is q2) q5 hj2 0 (Nat.zero_le _) (stpC c q) rfl
    obtain⟨a',a1,_,q',a3,_,a5,_⟩:=evt_get (rdy_is q2) q5 hj2
    rw[a5] at h1 ⊢
    unfold hasB at h1 ⊢
    simp only[decide_eq_false_iff_not] at h1 ⊢
    rw[stpC_at hc a3] at h1
    split at h1
    ·rename_i e;subst e;omega
    ·omega
theorem chn_sum_le:∀ {R:List (List Int)} {c:List Int},isF ps c=true→chnF ps c R=true→∀d ∈ c :: R,∀y:Eid,hasB c y=true→hasB d y=true
 | [],c,_,_,d,hd,y,h=>by
  rw[List.mem_singleton] at hd
  subst hd;exact h
 | b :: R,c,hc,h,d,hd,y,hy=>by
  obtain⟨q,q1,q2,rfl,q4,q5⟩:=(chn_cons hc).1 h
  rcases List.mem_cons.1 hd with rfl|hd
  ·exact hy
  ·refine chn_sum_le (rdy_is q2) q5 d hd y ?_
   unfold hasB cAt stpC at *
   simp only[decide_eq_true_eq] at hy ⊢
   have hl:=(isF_iff.1 hc).1
   rw[List.getD_eq_getElem?_getD,List.getElem?_set]
   split
   ·rename_i e
    rw[if_pos (by omega),Option.getD_some,e]
    unfold cAt
    rw[Int.toNat_natCast]
    have:(c.getD y.1.toNat 0)=c.getD y.1.toNat 0:=rfl
    omega
   ·rw[← List.getD_eq_getElem?_getD];exact hy
theorem evt_have:∀ {R:List (List Int)} {c:List Int} (_:isF ps c=true) (_:chnF ps c R=true) {j:Nat} (hj:j<(evtG c R).length),∀m,j<m→∀a,(c :: R)[m]?=some a→hasB a (evtG c R)[j]=true
 | [],_,_,_,j,hj=>by simp [evtG] at hj
 | b :: R,c,hc,h,j,hj=>by
  intro m hm a ha
  obtain⟨q,q1,q2,rfl,q4,q5⟩:=(chn_cons hc).1 h
  have e:evtG c (stpC c q :: R)=(stepF c (stpC c q),cAt (stpC c q) (stepF c (stpC c q))) :: evtG (stpC c q) R:=rfl
  cases m with
  | zero=>omega
  | succ m =>
   have ha:(stpC c q :: R)[m]?=some a:=ha
   cases j with
   | zero =>
    simp only[e,List.getElem_cons_zero]
    refine chn_sum_le (rdy_is q2) q5 a (List.mem_of_getElem? ha) _ ?_
    rw[q4]
    unfold hasB
    exact decide_eq_true (Int.le_refl _)
   | succ j =>
    have hj2:j<(evtG (stpC c q) R).length:=by rw[e,List.length_cons] at hj;omega
    simp only[e,List.getElem_cons_succ]
    exact evt_have (rdy_is q2) q5 hj2 m (by omega) a ha
theorem syn_rnk (hv:validF ps=true) {R:List (List Int)} (h:chnF ps (zeroC ps) R=true) (hl:(zeroC ps :: R).getLast?=some (fullC ps)):RnkX ps (synL (evtG (zeroC ps) R)) (rkO (zeroC ps :: R)):=fun p hp i hi y hy=>by
 have hok:=syn_ok h
 have hev:=dirX_ev hv hok hp hi y hy
 have hR:∀c ∈ zeroC ps :: R,isF ps c=true:=fun c hc=>by
  rcases List.mem_cons.1 hc with rfl|hc
  ·exact zeroC_is ps
  ·obtain⟨j,hj,rfl⟩:=List.getElem_of_mem hc
   exact(chn_iff.1 h j hj).1
 have hy':=hy
 unfold dirX dirE at hy
 rw[List.mem_append,List.mem_append] at hy
 rcases hy with (hy|hy)|hy
 ·split at hy
  ·rw[List.mem_singleton] at hy
   subst hy
   refine rk_lt h hl hev (by show (0:Int)≤(p:Int);omega) (by intro e;rw[Prod.mk.injEq] at e;omega) fun c _ hc => ?_
   unfold hasB at *
   simp only[decide_eq_true_eq] at *
   omega
  ·cases hy
 ·split at hy
  ·rename_i hk
   rw[List.mem_singleton] at hy
   subst hy
   have hn:=nev_get hp
   rw[evq_get hp (by omega)] at hk hev ⊢
   obtain⟨_,_,m3⟩:=valid_parts hv
   refine rk_lt h hl hev (by show (0:Int)≤(p:Int);omega) ?_ fun c hc hx => ?_
   ·intro e
    obtain⟨hq,j,hj,hsd,g1,g2⟩:=recv_peer m3 hp (by omega) hk
    have hne:=peer_ne hv hp (by omega) hk
    have e1:=congrArg Prod.fst e
    rw[hsd] at e1
    have e1:((ps[p].evs[i].peer.toNat:Nat):Int)=p:=e1
    omega
   ·obtain⟨c1,c2,c3⟩:=isF_iff.1 (hR c hc)
    unfold hasB at hx ⊢
    simp only[decide_eq_true_eq] at hx ⊢
    exact closed_iff.1 c3 p hp i (by omega) hk hx
  ·cases hy
 ·obtain⟨s,h1,rfl⟩:=List.mem_map.1 hy
  obtain⟨h2,h3⟩:=List.mem_filter.1 h1
  have h3:=of_decide_eq_true h3
  obtain⟨hne,j,hj,rfl⟩:=synL_mem.1 h2
  have h3:(evtG (zeroC ps) R)[j+1]=((p:Int),(i:Int)+1):=h3
  rw[← h3]
  refine rk_lt h hl hev (by rw[h3];show (0:Int)≤(p:Int);omega) (fun e=>hne (congrArg Prod.fst e)) fun c hc hx => ?_
  obtain⟨m,hm,rfl⟩:=List.getElem_of_mem hc
  have hmg:(zeroC ps :: R)[m]?=some (zeroC ps :: R)[m]:=List.getElem?_eq_getElem hm
  by_cases hmj:m≤j+1
  ·rw[evt_lack (zeroC_is ps) h hj m hmj _ hmg] at hx;cases hx
  ·exact evt_have (zeroC_is ps) h (by omega) m (by omega) _ hmg
theorem syn_ctl {bad:Nat→Nat→Bool} {R:List (List Int)} (hD:DodgeR ps bad (zeroC ps :: R)):ctlB ps (synL (evtG (zeroC ps) R)) bad=true:=by
 obtain⟨R',hR',h,hl⟩:=isrun_inv hD.run
 have:R=R':=by injection hR'
 subst this
 rw[ctlB_true]
 rintro⟨d,hd⟩
 obtain⟨a,ha,hat⟩:=prefix_of (d:=d) (zeroC_is ps) h hl hd.rng (fun p hp=>by unfold zeroC cAt;rw[getD_zeros];omega) fun j hj hx=>by
  obtain⟨a,a1,_,q,a3,_,a5,a6⟩:=evt_get (zeroC_is ps) h hj
  obtain⟨a',a1',_,q',a3',_,a5',a6'⟩:=evt_get (zeroC_is ps) h (show j<(evtG (zeroC ps) R).length by omega)
  have h1:=cut_at (rdy_is a6) a3
  have h2:=cut_at a1 a3
  rw[stpC_at a1 a3,if_pos rfl] at h1
  by_cases hne:((evtG (zeroC ps) R)[j]).1 ≠ ((evtG (zeroC ps) R)[j+1]).1
  ·have hs:((evtG (zeroC ps) R)[j],(evtG (zeroC ps) R)[j+1]) ∈ synL (evtG (zeroC ps) R):=synL_mem.2 ⟨hne,j,hj,rfl⟩
   refine hd.clo q a3 (cAt a q).toNat (by omega) ?_ _ ?_
   ·rw[a5] at hx
    simp only[Int.toNat_natCast] at hx
    omega
   ·unfold dirX
    refine List.mem_append_right _ (List.mem_map.2 ⟨_,List.mem_filter.2 ⟨hs,decide_eq_true ?_⟩,rfl⟩)
    show (evtG (zeroC ps) R)[j+1]=_
    rw[a5,Prod.mk.injEq]
    omega
  ·-- the same process: the event before has a smaller number
   have hne:((evtG (zeroC ps) R)[j]).1=((evtG (zeroC ps) R)[j+1]).1:=Classical.not_not.1 hne
   have hlk:=evt_lack (zeroC_is ps) h hj (j+1) (Nat.le_refl _)
   obtain⟨b,hb⟩:∃b,(zeroC ps :: R)[j+1]?=some b:=⟨a,by assumption⟩
   have g1:=hlk b hb
   have g2:=evt_have (zeroC_is ps) h (show j<(evtG (zeroC ps) R).length by omega) (j+1) (by omega) b hb
   unfold hasB at g1 g2
   simp only[decide_eq_true_eq,decide_eq_false_iff_not] at g1 g2
   rw[hne] at g2 ⊢
   omega
 obtain⟨p,hp,hb⟩:=hD.av a ha
 have:=hd.bad p hp
 rw[hat p hp,Int.toNat_natCast,this] at hb
 cases hb
end
theorem evaluate_TruthsO (ps:List Pr) (hs:Sm ps) (i:Nat) (hp:i<ps.length) (t:Pd) (hz:szF t≤1000000) (he:lclF ps i 0 t=0) :
  MCalls Proofs.Tryz.prog 62 [aTr ps,ai i,aPd t] [] fun r L=>∃b cap,r = .tup [.ls b 1 0 (ps[i].evs.length+1) cap,ai 0]∧L=[(b,.row 4 1 ((List.range (ps[i].evs.length+1)).map fun (k:Nat)=>ab (lclT ps i t k)) cap)]:=by
 have h1:=evaluate_check ps hs i 0 t hz
 have hl:=hs.procs
 rw[he] at h1
 obtain⟨hc,_,_,_,h9,hlc⟩:=lcl_ok he
 have hel:=hs.evs _ (List.getElem_mem hp)
 have hgp:=getD_map (f:=aPr) hp
 have hst:=fun (k:Nat) hk=>evaluate_inState ps hs i k hp hk t hz hc h9 hlc
 have hy:∀k,((List.range k).map fun (k:Nat)=>ab (lclT ps i t k)).length=k:=fun k=>by simp
 have hys:∀k,((List.range (k+1)).map fun (k:Nat)=>ab (lclT ps i t k))=((List.range k).map fun (k:Nat)=>ab (lclT ps i t k)) ++ [ab (lclT ps i t k)]:=fun k=>by rw[List.range_succ,List.map_append];rfl
 obtain⟨k0,n,pp,q,s,l⟩:=t
 simp only[aPd_mk] at *
 generalize hY:(fun k:Nat=>(List.range k).map fun (j:Nat)=>ab (lclT ps i (.mk k0 n pp q s l) j))=Y at *
 have hYk:∀k,((List.range k).map fun (j:Nat)=>ab (lclT ps i (.mk k0 n pp q s l) j))=Y k:=fun k=>by rw[← hY]
 simp only[hYk] at hy hys ⊢
 refine MCalls.enter' 39 [.tmp 6,.tmp 7] [3,5,35] Proofs.Tryz.func62 rfl rfl rfl rfl rfl (by simp) (AWp.of ?_);simp only[go_sem]
 refine Wk ?_
 refine Sd ?_
 refine(h1).val.use ?_;simp only[go_sem]
 refine W1 hgp ?_
 refine AWp.range' (ps[i].evs.length+1) [9] [1,3,5,25] (fun k vs L=>∃v,vs=[v]∧AppSt 4 1 (Y k) v L) (by omega) rfl rfl rfl ⟨anil,rfl,by rw[← hY];exact .nil⟩ ?_ ?_
 ·rintro k vs L' hk - ⟨v,rfl,hA⟩
  have hyl:=hy k
  have hst:=hst k (by omega)
  rw[hys k]
  have hfo:=hA.fo
  generalize Y k=ys at *
  generalize lclT ps i (.mk k0 n pp q s l) k=b at *
  rcases hA.inv with ⟨e1,rfl,rfl⟩|⟨b',cap,rfl,rfl⟩
  ·simp only[go_sem]
   refine Wk ?_
   refine Sd ?_
   refine(hst).val.use ?_;simp only[go_sem]
   refine Sd ?_
   intro b' cap' _
   refine⟨_,List.Sublist.refl _,_,rfl,?_⟩
   rw[e1]
   exact .row _ _ _
  ·simp only[go_sem]
   refine Wk ?_
   refine Sd ?_
   refine(hst).val.use ?_;simp only[go_sem]
   refine Sd ?_
   intro b' cap' _
   refine⟨_,List.Sublist.refl _,_,rfl,?_⟩
   have:=AppSt.row (t:=4) (k:=1) b' (ys ++ [ab b]) cap'
   simpa using this
 ·rintro vs L' - ⟨v,rfl,hA⟩
  have hyl:=hy (ps[i].evs.length+1)
  generalize Y (ps[i].evs.length+1)=ys at *
  simp only[go_sem]
  rcases hA.inv with ⟨e1,rfl,rfl⟩|⟨b,cap,rfl,rfl⟩
  ·rw[e1] at hyl;simp at hyl
  ·refine Wk ?_
   refine ret_own ?_
   simp only[go_sem]
   exact⟨b,cap,by rw[hyl],rfl⟩
noncomputable def badX (ps:List Pr) (ts:List Pd) (p k:Nat):Bool:=!(elimOf ps ts).ok p k
theorem badX_get {ps:List Pr} {ts:List Pd} {p:Nat} (hp:p<ts.length) (k:Nat):badX ps ts p k = !lclT ps p ts[p] k:=by
 show (!(match ts[p]? with|some t=>lclT ps p t k|none=>true))=_
 rw[List.getElem?_eq_getElem hp]
noncomputable def falL (ps:List Pr) (ts:List Pd) (p:Nat):List AV:=(List.range (nev ps p+1)).map fun k=>ab (badX ps ts p k)
noncomputable def falT (ps:List Pr) (ts:List Pd):AV:=.sl 1 ((List.range ps.length).map fun p => .sl 1 (falL ps ts p))
theorem control_stretches (b:Nat→Bool) (i K:Nat) (hK:K≤1000001):PC Proofs.Tryz.prog 32 [ai i,.sl 1 ((List.range K).map fun k=>ab (b k))] (.sl 3 ((spL b i K).map aStp)):=by
 have hT:∀k,k<K→((List.range K).map fun k=>ab (b k)).getD k .any=ab (b k):=fun k hk=>map_range_getD hk _
 have hTl:((List.range K).map fun k=>ab (b k)).length=K:=by simp
 generalize (List.range K).map (fun k=>ab (b k))=T at *
 refine PC.enter 44 [.tmp 4] [20] Proofs.Tryz.func32 rfl rfl rfl rfl rfl (by simp) (AWp.of ?_);simp only[go_sem]
 refine Wk ?_
 refine AWp.range' T.length [5] [0,1,8,9] (fun k vs L=>∃v,vs=[v]∧AppSt 62 3 ((spL b i k).map aStp) v L) (by omega) rfl rfl rfl ⟨anil,rfl,.nil⟩ ?_ ?_
 ·rintro k vs L' hk - ⟨v,rfl,hA⟩
  have g0:=hT k (by omega)
  have g1:=hT (k - 1) (by omega)
  have gk:((k:Int) - 1).toNat=k - 1:=by omega
  have hfo:=hA.fo
  cases hbk:b k with
  | false =>
   rw[hbk] at g0
   rw[spL_no hbk]
   simp only[go_sem]
   refine W3 g0 hTl hfo ?_
   exact⟨_,List.Sublist.refl _,v,rfl,hA⟩
  | true =>
   rw[hbk] at g0
   simp only[go_sem]
   refine W5 g0 g1 gk hTl hfo ?_
   refine⟨fun h2 h3 => ?_,fun h2 => ?_⟩
   ·obtain⟨d,f,e1,e2⟩:=spL_on (b:=b) (p:=i) (k:=k) hbk (by rw[decide_eq_true (by omega),h3];rfl)
    rw[e1] at hA
    rw[e2]
    have gl:((d ++ [(i,f,k - 1)]).map aStp).getD (((d ++ [(i,f,k - 1)]).map aStp).length - 1) .any = .agg [ai i,ai f,ai ((k - 1:Nat):Int)]:=last_get d (i,f,k - 1)
    have gs:((d ++ [(i,f,k - 1)]).map aStp).set (((d ++ [(i,f,k - 1)]).map aStp).length - 1) (.agg [ai i,ai f,ai k])=(d ++ [(i,f,k)]).map aStp:=last_set d (i,f,k - 1) (i,f,k)
    have hyl:1≤((d ++ [(i,f,k - 1)]).map aStp).length:=by simp
    have hyk:=spL_len (b:=b) (p:=i) k
    rw[e1,← List.length_map (f:=aStp)] at hyk
    have hll:((d ++ [(i,f,k)]).map aStp).length=((d ++ [(i,f,k - 1)]).map aStp).length:=by simp
    generalize ((d ++ [(i,f,k - 1)]).map aStp)=ys at *
    generalize ((d ++ [(i,f,k)]).map aStp)=zs at *
    have gn:((ys.length:Int) - 1).toNat=ys.length - 1:=by omega
    rcases hA.inv with ⟨e3,_,_⟩|⟨bq,cap,rfl,rfl⟩
    ·rw[e3] at hyl;simp at hyl
    ·refine Wk ?_
     simp only[go_sem,gl,gn,gs]
     refine Sd ?_
     refine⟨_,List.Sublist.refl _,_,rfl,?_⟩
     rw[← hll]
     exact .row _ _ _
   ·have e0:(decide (0<k) && b (k - 1))=false:=by
     by_cases h3:0<k
     ·rw[decide_eq_true h3,Bool.true_and];simpa using h2 (by omega)
     ·rw[decide_eq_false h3];rfl
    rw[spL_new hbk e0,List.map_append]
    have ea:[(i,k,k)].map aStp=[.agg [ai i,ai k,ai k]]:=rfl
    rw[ea]
    have hyl:=spL_len (b:=b) (p:=i) k
    rw[← List.length_map (f:=aStp)] at hyl
    generalize (spL b i k).map aStp=ys at *
    rcases hA.inv with ⟨e3,rfl,rfl⟩|⟨bq,cap,rfl,rfl⟩
    ·subst e3
     simp only[go_sem]
     refine Sd ?_
     intro b' cap' _
     refine⟨_,List.Sublist.refl _,_,rfl,?_⟩
     exact .row _ _ _
    ·simp only[go_sem]
     refine Sd ?_
     intro b' cap' _
     refine⟨_,List.Sublist.refl _,_,rfl,?_⟩
     have:=AppSt.row (t:=62) (k:=3) b' (ys ++ [.agg [ai i,ai k,ai k]]) cap'
     simpa using this
 ·rintro vs L' - ⟨v,rfl,hA⟩
  rw[hTl] at hA
  generalize (spL b i K).map aStp=ys at *
  rcases hA.inv with ⟨e3,rfl,rfl⟩|⟨bq,cap,rfl,rfl⟩
  ·simp only[go_sem]
   refine Wk ?_
   refine ret_view [] ?_;simp only[go_sem]
   rw[e3]
   exact .nil 3
  ·simp only[go_sem]
   refine Wk ?_
   refine ret_view [true] ?_;simp only[go_sem]
   exact Vw.ofLs (if_pos rfl) rfl
theorem falL_get {ps:List Pr} {ts:List Pd} {p:Nat} (hp:p<ts.length) (hpp:p<ps.length):falL ps ts p=(List.range (ps[p].evs.length+1)).map fun (k:Nat)=>ab (!lclT ps p ts[p] k):=by
 unfold falL
 rw[nev_get hpp]
 exact List.map_congr_left fun k _=>by rw[badX_get hp]
def negL (f:Nat→Bool) (K j:Nat):List AV:=(List.range K).map fun k=>ab (if k<j then !f k else f k)
theorem negL_len (f:Nat→Bool) (K j:Nat):(negL f K j).length=K:=by simp [negL]
theorem negL_zero (f:Nat→Bool) (K:Nat):negL f K 0=(List.range K).map fun k=>ab (f k):=List.map_congr_left fun k _=>by rw[if_neg (by omega)]
theorem negL_full (f:Nat→Bool) (K:Nat):negL f K K=(List.range K).map fun k=>ab (!f k):=List.map_congr_left fun k hk=>by rw[if_pos (List.mem_range.1 hk)]
theorem negL_get {f:Nat→Bool} {K j:Nat} (hj:j<K):(negL f K j).getD j .any=ab (f j):=by
 unfold negL
 rw[map_range_getD hj,if_neg (by omega)]
theorem negL_elem {f:Nat→Bool} {K j k:Nat} (h:k<(negL f K j).length):(negL f K j)[k]=ab (if k<j then !f k else f k):=by simp [negL]
theorem negL_set {f:Nat→Bool} {K j:Nat} (_hj:j<K):(negL f K j).set j (ab (!f j))=negL f K (j+1):=by
 refine List.ext_getElem (by rw[List.length_set,negL_len,negL_len]) fun k h1 h2 => ?_
 rw[List.getElem_set,negL_elem,negL_elem]
 by_cases e:j=k
 ·subst e;rw[if_pos rfl,if_pos (by omega)]
 ·rw[if_neg e]
  by_cases h:k<j
  ·rw[if_pos h,if_pos (by omega)]
  ·rw[if_neg h,if_neg (by omega)]
theorem control_falsehoods (ps:List Pr) (hs:Sm ps) (ts:List Pd) (hz:∀t ∈ ts,szF t≤1000000) (htl:ts.length≤1000000) :
  PC Proofs.Tryz.prog 31 [aTr ps,.sl 6 (ts.map aPd)] (if conF ps ts=0 then .tup [falT ps ts,ai 0] else .tup [.sl 1 [],ai (conF ps ts)]):=by
 have h1:=trace_Valid ps hs
 have hps:=hs.procs
 by_cases hvl:validF ps=true∧ts.length=ps.length
 ·obtain⟨hv,hlen⟩:=hvl
  have hli:(ts.length:Int)=ps.length:=by omega
  rw[hv] at h1
  have hhit:=fun p hp=>conF_hit (ps:=ps) (ts:=ts) ⟨hv,hlen⟩ (p:=p) hp
  have hzero:=fun h=>conF_zero (ps:=ps) (ts:=ts) ⟨hv,hlen⟩ h
  unfold falT
  generalize conF ps ts=C at *
  refine PC.enter 60 [.tmp 4,.tmp 5] [2,8,56] Proofs.Tryz.func31 rfl rfl rfl rfl rfl (by simp) (AWp.of ?_);simp only[go_sem]
  refine Wk ?_
  refine Sd ?_
  refine(h1).val.use ?_;simp only[go_sem]
  refine W1 hli ?_
  refine AWp.range' ps.length [6] [2,23,24] (fun p vs L=>∃v,vs=[v]∧AppSt 86 1 ((List.range p).map fun p => .sl 1 (falL ps ts p)) v L∧∀q (hq:q<ts.length),q<p→lclF ps q 0 ts[q]=0) (by omega) rfl rfl rfl ⟨anil,rfl,.nil,fun q _ h=>by omega⟩ ?_ ?_
  ·rintro p vs L hpp - ⟨v,rfl,hA,h0⟩
   have hp:p<ts.length:=by omega
   have hg:=getD_map (f:=aPd) hp
   have hel:=hs.evs _ (List.getElem_mem hpp)
   have hzp:=hz _ (List.getElem_mem hp)
   have hfo:=hA.fo
   have hyl:((List.range p).map fun p=>AV.sl 1 (falL ps ts p)).length=p:=by simp
   have hys:((List.range (p+1)).map fun p=>AV.sl 1 (falL ps ts p))=((List.range p).map fun p=>AV.sl 1 (falL ps ts p)) ++ [.sl 1 (falL ps ts p)]:=by rw[List.range_succ,List.map_append];rfl
   have hfl:=falL_get hp hpp
   by_cases he:lclF ps p 0 ts[p]=0
   ·rw[hys]
    have h2:=evaluate_TruthsO ps hs p hpp ts[p] hzp he
    have hn:∀q (hq:q<ts.length),q<p+1→lclF ps q 0 ts[q]=0:=fun q hq hqp=>by
     by_cases e:q=p
     ·subst e;exact he
     ·exact h0 q hq (by omega)
    rw[hfl]
    clear h0 he hzp hfl hys
    generalize (List.range p).map (fun p=>AV.sl 1 (falL ps ts p))=ys at *
    obtain⟨f,hf⟩:∃f:Nat→Bool,f=fun (k:Nat)=>lclT ps p ts[p] k:=⟨_,rfl⟩
    have hfk:∀k:Nat,lclT ps p ts[p] k=f k:=fun k=>by rw[hf]
    simp only[hfk] at h2 ⊢
    clear hf hfk
    rw[← negL_zero] at h2
    rw[← negL_full]
    generalize ts[p]=t at *
    have hK:ps[p].evs.length+1≤1000001:=by omega
    generalize ps[p].evs.length+1=K at *
    obtain⟨k0,n,pp,q,s,l⟩:=t
    simp only[aPd_mk] at hg h2
    simp only[go_sem]
    refine W2 hg hfo ?_
    intros
    refine W2 hg hfo ?_
    refine MVal.mono (MVal.frame (Lm:=[]) (Lr:=L) h2.val) ?_
    rintro r L' ⟨L1,rfl,bb,cap,rfl,rfl⟩
    have hfo9:AL.fo (AV.ls bb 1 0 K cap)=(True,.ls bb 1 0 K cap):=rfl
    simp only[go_sem]
    refine W1 hfo ?_
    refine AWp.range' K [] [2,6,9,23,24,25,41] (fun j vs L'=>vs=[]∧L'=(bb,.row 4 1 (negL f K j) cap) :: L) (by omega) rfl rfl rfl ⟨rfl,rfl⟩ ?_ ?_
    ·rintro j vs L' hj - ⟨rfl,rfl⟩
     have hgj:=negL_get (f:=f) hj
     have hsj:=negL_set (f:=f) hj
     have hlj:=negL_len f K j
     simp only[go_sem]
     refine W3 hgj hlj hfo ?_
     exact⟨_,List.Sublist.refl _,by rw[hsj]⟩
    ·rintro vs L' - ⟨rfl,rfl⟩
     refine AWp.viewP (Lf:=[(bb,_)]) (Lk:=L) (L':=L) (List.Perm.refl _) (LVw.refl _) [(9,.sl 1 (negL f K K))] (fun q hq => ?_) ?_
     ·simp only[List.mem_singleton] at hq
      subst hq
      simp only[go_sem]
      exact Vw.ofLs (t:=4) (cap:=cap) (if_pos rfl) (by rw[negL_len])
     generalize negL f K K=row at *
     rcases hA.inv with ⟨e1,rfl,rfl⟩|⟨bq,cq,rfl,rfl⟩
     ·simp only[go_sem]
      refine Wk ?_
      intro b' cap' g8
      refine Wk ?_
      exact⟨_,List.Sublist.refl _,_,rfl,by rw[e1];exact .row _ _ _,hn⟩
     ·simp only[go_sem]
      refine Wk ?_
      refine Sd ?_
      intro b' cap' g8
      refine Wk ?_
      exact⟨_,List.Sublist.refl _,_,rfl,AppSt.snoc _ _ _ rfl,hn⟩
   ·have hC:=hhit p hp h0 he
    have h2:=evaluate_Truths ps hs p ts[p] hzp
    unfold aTruths at h2
    rw[if_neg he] at h2
    subst hC
    rw[if_neg he]
    generalize lclF ps p 0 ts[p]=e at *
    generalize ts[p]=t at *
    obtain⟨k0,n,pp,q,s,l⟩:=t
    simp only[aPd_mk] at hg h2
    simp only[go_sem]
    refine W2 hg hfo ?_
    intros
    refine W2 hg hfo ?_
    refine Sd ?_
    refine(h2).val.use ?_;simp only[go_sem]
    refine W2 he hfo ?_
    refine ret_view [] ?_;simp only[go_sem]
    exact .mkTup (Vws.cons (.nil 1) (Vws.refl _))
  ·rintro vs L - ⟨v,rfl,hA,h0⟩
   have hC:=hzero fun q hq=>h0 q hq (by omega)
   subst hC
   rw[if_pos rfl]
   generalize (List.range ps.length).map (fun p=>AV.sl 1 (falL ps ts p))=ys at *
   rcases hA.inv with ⟨e1,rfl,rfl⟩|⟨b,cap,rfl,rfl⟩
   ·simp only[go_sem]
    refine Wk ?_
    refine ret_view [] ?_;simp only[go_sem]
    rw[e1]
    exact .mkTup (Vws.cons (.nil 1) (Vws.refl _))
   ·simp only[go_sem]
    refine Wk ?_
    refine ret_view [true] ?_;simp only[go_sem]
    exact .mkTup (Vws.cons (Vw.ofLs (if_pos rfl) rfl) (Vws.refl _))
 ·have hC:=conF_bad (ts:=ts) hvl
  rw[hC,if_neg (by decide)]
  by_cases hv:validF ps=true
  ·have hli:¬(ts.length:Int)=ps.length:=fun e=>hvl ⟨hv,by omega⟩
   rw[hv] at h1
   refine PC.enter 60 [.tmp 4,.tmp 5] [2,8,56] Proofs.Tryz.func31 rfl rfl rfl rfl rfl (by simp) (AWp.of ?_);simp only[go_sem]
   refine Wk ?_
   refine Sd ?_
   refine(h1).val.use ?_;simp only[go_sem]
   refine W1 hli ?_
   refine ret_view [] ?_;simp only[go_sem]
   exact .mkTup (Vws.cons (.nil 1) (Vws.refl _))
  ·rw[Bool.not_eq_true] at hv
   rw[hv] at h1
   refine PC.enter 60 [.tmp 4,.tmp 5] [2,8,56] Proofs.Tryz.func31 rfl rfl rfl rfl rfl (by simp) (AWp.of ?_);simp only[go_sem]
   refine Wk ?_
   refine Sd ?_
   refine(h1).val.use ?_;simp only[go_sem]
   refine Wk ?_
   refine ret_view [] ?_;simp only[go_sem]
   exact .mkTup (Vws.cons (.nil 1) (Vws.refl _))
noncomputable def rowsX (ps:List Pr) (ts:List Pd) (p:Nat):List Stp:=spL (badX ps ts p) p (nev ps p+1)
noncomputable def aRowsX (ps:List Pr) (ts:List Pd):AV:=.sl 1 ((List.range ps.length).map fun p => .sl 3 ((rowsX ps ts p).map aStp))
theorem control_False (ps:List Pr) (hs:Sm ps) (ts:List Pd) (hz:∀t ∈ ts,szF t≤1000000) (htl:ts.length≤1000000) :
  PC Proofs.Tryz.prog 18 [aTr ps,.sl 6 (ts.map aPd)] (if conF ps ts=0 then .tup [aRowsX ps ts,ai 0] else .tup [.sl 1 [],ai (conF ps ts)]):=by
 have h1:=control_falsehoods ps hs ts hz htl
 have hps:=hs.procs
 by_cases hC:conF ps ts=0
 ·rw[if_pos hC] at h1 ⊢
  unfold falT at h1
  unfold aRowsX
  refine PC.enter 35 [.tmp 4,.tmp 5] [2,31] Proofs.Tryz.func18 rfl rfl rfl rfl rfl (by simp) (AWp.of ?_);simp only[go_sem]
  refine Wk ?_
  refine Sd ?_
  refine(h1).val.use ?_;simp only[go_sem]
  repeat(first|((with_reducible refine AWp.ofC ?_ ?_);exact rfl;simp only[go_sem,List.length_range])|((with_reducible refine an ?_ ?_);exact Au))
  refine AWp.range' ps.length [8] [20,21] (fun p vs L=>∃v,vs=[v]∧AppSt 37 1 ((List.range p).map fun p => .sl 3 ((rowsX ps ts p).map aStp)) v L) (by omega) rfl rfl rfl ⟨anil,rfl,.nil⟩ ?_ ?_
  ·rintro p vs L hp - ⟨v,rfl,hA⟩
   have hg:((List.range ps.length).map fun p=>AV.sl 1 (falL ps ts p)).getD p .any = .sl 1 (falL ps ts p):=map_range_getD hp _
   have hel:=hs.evs _ (List.getElem_mem hp)
   have hn:=nev_get hp
   have h2:=control_stretches (badX ps ts p) p (nev ps p+1) (by omega)
   have hfo:=hA.fo
   have hyl:((List.range p).map fun p=>AV.sl 3 ((rowsX ps ts p).map aStp)).length=p:=by simp
   have hys:((List.range (p+1)).map fun p=>AV.sl 3 ((rowsX ps ts p).map aStp))=((List.range p).map fun p=>AV.sl 3 ((rowsX ps ts p).map aStp)) ++ [.sl 3 ((rowsX ps ts p).map aStp)]:=by rw[List.range_succ,List.map_append];rfl
   rw[hys]
   change PC _ _ [_,.sl 1 (falL ps ts p)] (.sl 3 ((rowsX ps ts p).map aStp)) at h2
   clear hys
   generalize (List.range p).map (fun p=>AV.sl 3 ((rowsX ps ts p).map aStp))=ys at *
   generalize (rowsX ps ts p).map aStp=row at *
   generalize falL ps ts p=fl at *
   rcases hA.inv with ⟨e1,rfl,rfl⟩|⟨bq,cq,rfl,rfl⟩
   ·simp only[go_sem]
    refine W1 hg ?_
    refine Sd ?_
    refine AWp.of ?_;simp only[go_sem]
    refine Sd ?_
    refine(h2).val.use ?_;simp only[go_sem]
    refine W1 hg ?_
    intro b' cap' g8
    refine Wk ?_
    exact⟨_,List.Sublist.refl _,_,rfl,by rw[e1];exact .row _ _ _⟩
   ·simp only[go_sem]
    refine W1 hg ?_
    refine Sd ?_
    refine AWp.of ?_;simp only[go_sem]
    refine Sd ?_
    refine(h2).val.use ?_;simp only[go_sem]
    refine W1 hg ?_
    refine Sd ?_
    intro b' cap' g8
    refine Wk ?_
    exact⟨_,List.Sublist.refl _,_,rfl,AppSt.snoc _ _ _ rfl⟩
  ·rintro vs L - ⟨v,rfl,hA⟩
   generalize (List.range ps.length).map (fun p=>AV.sl 3 ((rowsX ps ts p).map aStp))=ys at *
   rcases hA.inv with ⟨e1,rfl,rfl⟩|⟨b,cap,rfl,rfl⟩
   ·simp only[go_sem]
    refine Wk ?_
    refine ret_view [] ?_;simp only[go_sem]
    rw[e1]
    exact .mkTup (Vws.cons (.nil 1) (Vws.refl _))
   ·simp only[go_sem]
    refine Wk ?_
    refine ret_view [true] ?_;simp only[go_sem]
    exact .mkTup (Vws.cons (Vw.ofLs (if_pos rfl) rfl) (Vws.refl _))
 ·rw[if_neg hC] at h1 ⊢
  generalize conF ps ts=C at *
  refine PC.enter 35 [.tmp 4,.tmp 5] [2,31] Proofs.Tryz.func18 rfl rfl rfl rfl rfl (by simp) (AWp.of ?_);simp only[go_sem]
  refine Wk ?_
  refine Sd ?_
  refine(h1).val.use ?_;simp only[go_sem]
  refine W1 hC ?_
  refine ret_view [] ?_;simp only[go_sem]
  exact .mkTup (Vws.cons (.nil 1) (Vws.refl _))
end Go.AL
end
