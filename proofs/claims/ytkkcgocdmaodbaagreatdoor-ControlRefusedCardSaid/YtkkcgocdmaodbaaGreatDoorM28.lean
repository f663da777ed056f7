/- Texts of this claim's proof: WY19, WY34, WY4, WY22, WY21, WU15, WY23, WY24, WY25, AlRdw, WY26, WY27, WY28, WY37, WY38, WY40, WY29, WZ11, WV37, WOg, WGr, WV38, WHu, WXl, WGs, WXf, WV39. No condition. -/
import Derived.Test.YtkkcgocdmaodbaaGreatDoorM27
import Derived.Test.YtkkcgocdmaodbaaGreatDoorM18
import Derived.Test.YtkkcgocdmaodbaaGreatDoorM14
import Derived.Test.YtkkcgocdmaodbaaGreatDoorM16
import Derived.Test.YtkkcgocdmaodbaaGreatDoorM19
import Derived.Test.YtkkcgocdmaodbaaGreatDoorM15
import Derived.Test.YtkkcgocdmaodbaaGreatDoorM10
import Derived.Test.YtkkcgocdmaodbaaGreatDoorM24
import Derived.Test.YtkkcgocdmaodbaaGreatDoorM17
import Derived.Test.YtkkcgocdmaodbaaGreatDoorM26
import Derived.Test.YtkkcgocdmaodbaaGreatDoorM11
import Derived.Test.YtkkcgocdmaodbaaGreatDoorM21
import Derived.Test.YtkkcgocdmaodbaaGreatDoorM13
section
namespace Go.AL
open Go Go.RowKit
set_option maxRecDepth 4000
def scanB {σ:Type} (step:σ→Pd→Bool × σ):List Pd→σ→Bool × σ
 | [],s=>(false,s)
 | x :: r,s=>if (step s x).1=true then (true,(step s x).2) else scanB step r (step s x).2
theorem preds_indexFuncM (l:List Pd) (g:AV) (hgf:fo g=(True,g)) {σ:Type} (Lh:σ→AHeap) (I:σ→Prop) (step:σ→Pd→Bool × σ)
  (hg:∀x ∈ l,∀s,I s→(MVal Proofs.Tryz.prog g [aPd x] (Lh s) fun r L=>r=ab (step s x).1∧L=Lh (step s x).2)∧((step s x).1=false→I (step s x).2)) (s0:σ) (h0:I s0) :
  MCalls Proofs.Tryz.prog 56 [.sl 6 (l.map aPd),g] (Lh s0) fun r L=>(∃z:Int,r=ai z ∧ -1≤z∧(0≤z↔(scanB step l s0).1=true))∧L=Lh (scanB step l s0).2:=by
 refine MCalls.enter' 19 [.tmp 4] [] Proofs.Tryz.func56 rfl rfl rfl rfl rfl (by simp) (AWp.of ?_);simp only[go_sem]
 refine AWp.slLen (j:=0) (k:=6) (xs:=l.map aPd) rfl fun hlen => ?_
 rw[List.length_map] at hlen
 refine W1 hgf ?_
 refine AWp.range1' l.length [] [0,1,7] (fun k vs L=>vs=[]∧∃s,L=Lh s∧I s∧scanB step (l.drop k) s=scanB step l s0) (by omega) rfl rfl rfl ⟨rfl,s0,rfl,h0,by rw[List.drop_zero]⟩ ?_ ?_
 ·rintro k vs L hk - ⟨rfl,s,rfl,hI,hS⟩
  have hge:=getD_map (f:=aPd) hk
  obtain⟨h1,h2⟩:=hg l[k] (List.getElem_mem hk) s hI
  have hS2:scanB step (l.drop k) s=if (step s l[k]).1=true then (true,(step s l[k]).2) else scanB step (l.drop (k+1)) (step s l[k]).2:=by
   rw[← List.getElem_cons_drop hk];rfl
  rw[hS2] at hS
  clear hS2
  generalize l[k]=x at *
  obtain⟨k2,n2,p2,q2,s2,l2⟩:=x
  generalize hst:step s (.mk k2 n2 p2 q2 s2 l2)=st at *
  rw[aPd_mk] at hge h1
  simp only[go_sem]
  refine W2 hge hgf ?_
  refine h1.mono ?_
  rintro r L ⟨rfl,rfl⟩
  simp only[go_sem]
  refine W1 hgf ?_
  refine⟨fun h3 => ?_,fun h3 => ?_⟩
  ·rw[if_pos (by simpa using h3)] at hS
   refine Wk ?_
   refine ret_own ?_
   simp only[go_sem]
   rw[← hS]
   exact⟨⟨k,rfl,by omega,by simp⟩,rfl⟩
  ·rw[if_neg (by simpa using h3)] at hS
   refine W1 hgf ?_
   exact⟨_,List.Sublist.refl _,st.2,rfl,h2 (by simpa using h3),hS⟩
 ·rintro vs L - ⟨rfl,s,rfl,hI,hS⟩
  rw[List.drop_length] at hS
  rw[← hS]
  simp only[go_sem]
  refine W1 hgf ?_
  refine ret_own ?_
  simp only[go_sem]
  exact⟨⟨-1,rfl,by omega,by simp [scanB]⟩,rfl⟩
theorem preds_containsFuncM (l:List Pd) (g:AV) (hgf:fo g=(True,g)) {σ:Type} (Lh:σ→AHeap) (I:σ→Prop) (step:σ→Pd→Bool × σ)
  (hg:∀x ∈ l,∀s,I s→(MVal Proofs.Tryz.prog g [aPd x] (Lh s) fun r L=>r=ab (step s x).1∧L=Lh (step s x).2)∧((step s x).1=false→I (step s x).2)) (s0:σ) (h0:I s0) :
  MCalls Proofs.Tryz.prog 28 [.sl 6 (l.map aPd),g] (Lh s0) fun r L=>r=ab (scanB step l s0).1∧L=Lh (scanB step l s0).2:=by
 have h1:=preds_indexFuncM l g hgf Lh I step hg s0 h0
 refine MCalls.enter' 9 [.tmp 4] [] Proofs.Tryz.func28 rfl rfl rfl rfl rfl (by simp) (AWp.of ?_);simp only[go_sem]
 refine W1 hgf ?_
 refine h1.val.mono ?_
 rintro r L ⟨⟨z,rfl,h2,h3⟩,rfl⟩
 have h4:(scanB step l s0).1=decide (0≤z):=by
  by_cases h:0≤z
  ·rw[decide_eq_true h];exact h3.1 h
  ·rw[decide_eq_false h]
   cases hb:(scanB step l s0).1 with
   | false=>rfl
   | true=>exact absurd (h3.2 hb) h
 rw[h4]
 simp only[go_sem]
 refine Wk ?_
 refine ret_own ?_
 simp only[go_sem]
mutual
def ftF:Pd→Int→Int→Bool × Int
 | .mk _ _ _ _ s l,n,d=>if 0≤n - 1∧d≤60∧(s.size:Int)≤100 then (!(ftL l (n - 1) (d+1)).1,(ftL l (n - 1) (d+1)).2) else (false,n - 1)
def ftL:List Pd→Int→Int→Bool × Int
 | [],n,_=>(false,n)
 | x :: r,n,d=>if (ftF x n d).1=true then ftL r (ftF x n d).2 d else (true,(ftF x n d).2)
end
def ftS (d:Int) (n:Int) (x:Pd):Bool × Int:=(!(ftF x n d).1,(ftF x n d).2)
theorem ftL_scan (d:Int):∀(l:List Pd) (n:Int),ftL l n d=scanB (ftS d) l n
 | [],n=>by rw[ftL];rfl
 | x :: r,n=>by
  rw[ftL]
  show _=if (!(ftF x n d).1)=true then (true,(ftF x n d).2) else scanB (ftS d) r (ftF x n d).2
  rw[← ftL_scan d r]
  cases (ftF x n d).1 <;> simp
theorem ft_spec (t:Pd):∀n d:Int,0≤n→((ftF t n d).1=true→(ftF t n d).2=n - szF t∧0≤(ftF t n d).2) ∧ -1≤(ftF t n d).2∧(ftF t n d).2≤n:=by
 induction t using Pd.ind with
 | _ k n p q s l ih =>
 intro m d hm
 rw[ftF,szF]
 have hl:∀l':List Pd,(∀x ∈ l',x ∈ l)→∀n d:Int,0≤n→((ftL l' n d).1=false→(ftL l' n d).2=n - szL l'∧0≤(ftL l' n d).2) ∧ -1≤(ftL l' n d).2∧(ftL l' n d).2≤n:=by
  intro l'
  induction l' with
  | nil=>intro _ n d h0;rw[ftL,szL];exact⟨fun _=>⟨by simp,h0⟩,by simp;omega,Int.le_refl _⟩
  | cons x r ihr =>
   intro hmm n d h0
   obtain⟨a1,a2,a3⟩:=ih x (hmm x List.mem_cons_self) n d h0
   rw[ftL,szL]
   generalize ftF x n d=y at *
   by_cases hc:y.1=true
   ·rw[if_pos hc]
    obtain⟨b1,b2⟩:=a1 hc
    obtain⟨c1,c2,c3⟩:=ihr (fun z hz=>hmm z (List.mem_cons_of_mem _ hz)) y.2 d b2
    exact⟨fun h=>by have:=c1 h;omega,c2,by omega⟩
   ·rw[if_neg hc]
    exact⟨fun h=>(by cases h),a2,a3⟩
 split
 ·rename_i hc
  obtain⟨b1,b2,b3⟩:=hl l (fun x hx=>hx) (m - 1) (d+1) hc.1
  refine⟨fun h => ?_,b2,by show _≤m;omega⟩
  have:=b1 (by simpa using h)
  show (ftL l (m - 1) (d+1)).2=_∧0≤(ftL l (m - 1) (d+1)).2
  omega
 ·exact⟨fun h=>(by cases h),by show -1≤m - 1;omega,by show m - 1≤m;omega⟩
abbrev FitC (x:Pd):Prop:=∀n d:Int,0≤n→n≤300→0≤d→d≤61→∀b,MCalls Proofs.Tryz.prog 30 [aPd x,.lp b 1 0 0,ai d] [(b,.row 3 1 [ai n] 1)] fun r L=>r=ab (ftF x n d).1∧L=[(b,.row 3 1 [ai (ftF x n d).2] 1)]
theorem law44_fits1 {x:Pd} (hx:FitC x) (n d:Int) (h0:0≤n) (h3:n≤300) (d0:0≤d) (d6:d≤60) (b:Nat):MCalls Proofs.Tryz.prog 57 [aPd x,.rp 1 [.lp b 1 0 0] 0 0,.rp 1 [ai d] 0 0] [(b,.row 3 1 [ai n] 1)] fun r L=>r=ab (ftS (d+1) n x).1∧L=[(b,.row 3 1 [ai (ftS (d+1) n x).2] 1)]:=by
 have h1:=hx n (d+1) h0 h3 (by omega) (by omega) b
 have e1:(ftS (d+1) n x).1 = !(ftF x n (d+1)).1:=rfl
 have e2:(ftS (d+1) n x).2=(ftF x n (d+1)).2:=rfl
 rw[e1,e2]
 generalize ftF x n (d+1)=y at *
 obtain⟨k2,n2,p2,q2,s2,l2⟩:=x
 rw[aPd_mk] at *
 refine MCalls.enter' 11 [.tmp 4] [3] Proofs.Tryz.func57 rfl rfl rfl rfl rfl (by simp) (AWp.of ?_);simp only[go_sem]
 refine Wk ?_
 refine h1.val.mono ?_
 rintro r L ⟨rfl,rfl⟩
 simp only[go_sem]
 refine Wk ?_
 refine ret_own ?_
 simp only[go_sem]
theorem law44_fits (t:Pd):FitC t:=by
 induction t using Pd.ind with
 | _ k n p q s l ih =>
 intro m d m0 m3 d0 d6 b
 have hF:ftF (.mk k n p q s l) m d=if 0≤m - 1∧d≤60∧(s.size:Int)≤100 then (!(ftL l (m - 1) (d+1)).1,(ftL l (m - 1) (d+1)).2) else (false,m - 1):=by rw[ftF]
 generalize ftF (.mk k n p q s l) m d=F at *
 rw[aPd_mk]
 by_cases c1:0≤m - 1
 ·by_cases c2:d≤60
  ·by_cases c3:(s.size:Int)≤100
   ·rw[if_pos ⟨c1,c2,c3⟩] at hF
    subst hF
    rw[ftL_scan]
    have hcf:=preds_containsFuncM l (.clo 57 [.rp 1 [.lp b 1 0 0] 0 0,.rp 1 [ai d] 0 0]) rfl (fun n:Int=>[(b,.row 3 1 [ai n] 1)]) (fun n=>0≤n∧n≤300) (ftS (d+1)) (fun x hx n hn=>⟨MCalls.clo (args:=[_]) (caps:=[_,_]) (law44_fits1 (ih x hx) n d hn.1 hn.2 d0 c2 b),fun h=>by
     have h1:=ft_spec x n (d+1) hn.1
     have h2:=h1.1 (by
      have:(!(ftF x n (d+1)).1)=false:=h
      simpa using this)
     exact⟨h2.2,Int.le_trans h1.2.2 hn.2⟩⟩) (m - 1) ⟨c1,by omega⟩
    generalize scanB (ftS (d+1)) l (m - 1)=sc at *
    refine MCalls.enter' 33 [.tmp 6] [3,4,5] Proofs.Tryz.func30 rfl rfl rfl rfl rfl (by simp) (AWp.of ?_);simp only[go_sem]
    refine Sd ?_
    refine AWp.of ?_;simp only[go_sem]
    refine⟨by omega,AWp.seq (AWp.regionF ?_)⟩
    simp only[go_sem,c1,c2,c3]
    refine hcf.val.mono ?_
    rintro r L ⟨rfl,rfl⟩
    simp only[go_sem]
    refine Wk ?_
    refine ret_own ?_
    simp only[go_sem]
   ·rw[if_neg fun h=>c3 h.2.2] at hF
    subst hF
    refine MCalls.enter' 33 [.tmp 6] [3,4,5] Proofs.Tryz.func30 rfl rfl rfl rfl rfl (by simp) (AWp.of ?_);simp only[go_sem]
    refine Wk ?_
    refine GCall.use (ab false) (fun g=>absurd g.2 c3) ?_
    simp only[go_sem,c1,c2,c3]
    refine Wk ?_
    refine ret_own ?_
    simp only[go_sem]
  ·rw[if_neg fun h=>c2 h.2.1] at hF
   subst hF
   refine MCalls.enter' 33 [.tmp 6] [3,4,5] Proofs.Tryz.func30 rfl rfl rfl rfl rfl (by simp) (AWp.of ?_);simp only[go_sem]
   refine Wk ?_
   refine GCall.use (ab false) (fun g=>absurd g.1.2 c2) ?_
   simp only[go_sem,c1,c2]
   refine Wk ?_
   refine ret_own ?_
   simp only[go_sem]
 ·rw[if_neg fun h=>c1 h.1] at hF
  subst hF
  refine MCalls.enter' 33 [.tmp 6] [3,4,5] Proofs.Tryz.func30 rfl rfl rfl rfl rfl (by simp) (AWp.of ?_);simp only[go_sem]
  refine Wk ?_
  refine GCall.use (ab false) (fun g=>absurd g.1.1 c1) ?_
  simp only[go_sem,c1]
  refine Wk ?_
  refine ret_own ?_
  simp only[go_sem]
def fwT (ts:List Pd):Bool:=decide ((ts.length:Int)≤12) && !(scanB (ftS 0) ts 300).1
theorem ftL_spec (l:List Pd):∀n d:Int,0≤n→(ftL l n d).1=false→(ftL l n d).2=n - szL l∧0≤(ftL l n d).2:=by
 induction l with
 | nil=>intro n d h0 _;rw[ftL,szL];exact⟨by simp,h0⟩
 | cons x r ih =>
  intro n d h0 h
  obtain⟨a1,a2,a3⟩:=ft_spec x n d h0
  rw[ftL] at h ⊢
  rw[szL]
  by_cases hc:(ftF x n d).1=true
  ·rw[if_pos hc] at h ⊢
   obtain⟨b1,b2⟩:=a1 hc
   obtain⟨c1,c2⟩:=ih _ _ b2 h
   omega
  ·rw[if_neg hc] at h;cases h
theorem fwT_spec {ts:List Pd} (h:fwT ts=true):ts.length≤12∧∀t ∈ ts,szF t≤300:=by
 unfold fwT at h
 rw[Bool.and_eq_true,decide_eq_true_eq,Bool.not_eq_true',← ftL_scan] at h
 obtain⟨h1,h2⟩:=ftL_spec ts 300 0 (by decide) h.2
 exact⟨by omega,fun t ht=>by have:=szL_mem ht;omega⟩
theorem law44_few1 (x:Pd) (n:Int) (h0:0≤n) (h3:n≤300) (b:Nat):MCalls Proofs.Tryz.prog 29 [aPd x,.lp b 1 0 0] [(b,.row 3 1 [ai n] 1)] fun r L=>r=ab (ftS 0 n x).1∧L=[(b,.row 3 1 [ai (ftS 0 n x).2] 1)]:=by
 have h1:=law44_fits x n 0 h0 h3 (by decide) (by decide) b
 have e1:(ftS 0 n x).1 = !(ftF x n 0).1:=rfl
 have e2:(ftS 0 n x).2=(ftF x n 0).2:=rfl
 rw[e1,e2]
 generalize ftF x n 0=y at *
 obtain⟨k2,n2,p2,q2,s2,l2⟩:=x
 rw[aPd_mk] at *
 refine MCalls.enter' 7 [.tmp 3] [2] Proofs.Tryz.func29 rfl rfl rfl rfl rfl (by simp) (AWp.of ?_);simp only[go_sem]
 refine Wk ?_
 refine h1.val.mono ?_
 rintro r L ⟨rfl,rfl⟩
 simp only[go_sem]
 refine Wk ?_
 refine ret_own ?_
 simp only[go_sem]
theorem law44_few (ts:List Pd):PC Proofs.Tryz.prog 8 [.sl 6 (ts.map aPd)] (ab (fwT ts)):=by
 have hcf:=fun b=>preds_containsFuncM ts (.clo 29 [.lp b 1 0 0]) rfl (fun n:Int=>[(b,.row 3 1 [ai n] 1)]) (fun n=>0≤n∧n≤300) (ftS 0) (fun x hx n hn=>⟨MCalls.clo (args:=[_]) (caps:=[_]) (law44_few1 x n hn.1 hn.2 b),fun h=>by
  have h1:=ft_spec x n 0 hn.1
  have h2:=h1.1 (by
   have:(!(ftF x n 0).1)=false:=h
   simpa using this)
  exact⟨h2.2,Int.le_trans h1.2.2 hn.2⟩⟩) 300 ⟨by decide,by decide⟩
 unfold fwT
 generalize scanB (ftS 0) ts 300=sc at *
 have hlm:(ts.map aPd).length=ts.length:=List.length_map _
 by_cases c1:(ts.length:Int)≤12
 ·rw[decide_eq_true c1,Bool.true_and]
  refine PC.enter 13 [.tmp 2] [] Proofs.Tryz.func8 rfl rfl rfl rfl rfl (by simp) (AWp.of ?_);simp only[go_sem]
  refine Sd ?_
  refine AWp.of ?_;simp only[go_sem]
  intro b
  refine AWp.seq (AWp.regionF ?_)
  simp only[go_sem,c1,hlm]
  refine(hcf b).val.mono ?_
  rintro r L ⟨rfl,rfl⟩
  simp only[go_sem]
  refine Wk ?_
  refine ret_eq ?_;simp only[go_sem]
 ·rw[decide_eq_false c1,Bool.false_and]
  refine PC.enter 13 [.tmp 2] [] Proofs.Tryz.func8 rfl rfl rfl rfl rfl (by simp) (AWp.of ?_);simp only[go_sem]
  refine Sd ?_
  refine AWp.of ?_;simp only[go_sem]
  intro b
  refine AWp.seq (AWp.regionF ?_)
  simp only[go_sem,c1,hlm]
  refine Wk ?_
  refine ret_eq ?_;simp only[go_sem]
section
variable {ps:List Pr} (hva:PC Proofs.Tryz.prog 58 [aTr ps] (ab false))
include hva
end
section
variable {tO tI:TypeId} {k n:Nat} {Y:Nat→List AV} {v:AV} {L:AHeap}
end
end Go.AL
end
section
namespace Go.AL
open Go Go.RowKit
section
variable {C:Cfg} {ops:Array Oper} {L:AHeap}
end
section
variable {C:Cfg} {ops:Array Oper} {L:AHeap}
end
def rdwK (C:Cfg) (all:List Oper) (z:Nat) (K:ARes) (L:AHeap) (ρ:Env):Prop:=match all[z]? with|some o=>aopX C o ρ L K|none=>False
attribute [go_sem] rdwK
end Go.AL
end
section
namespace Go.AL
open Go Go.RowKit
set_option maxRecDepth 4000
theorem law44_latticeG (ps:List Pr) (hpl:ps.length≤9223372036854775807) (hev:∀p ∈ ps,p.evs.length≤9223372036854775807) :
  (∃xs,PC Proofs.Tryz.prog 7 [aTr ps] (.tup [.sl 1 xs,ab false]))∨(Sm ps∧validF ps=true∧(cutsF ps).length≤250∧PC Proofs.Tryz.prog 7 [aTr ps] (.tup [aRows (cutsF ps),ab true])):=by
 have hsz:=law44_size ps hpl hev
 by_cases hS:24<szW ps
 ·left
  refine⟨[],?_⟩
  generalize szW ps=z at *
  refine PC.enter 26 [.tmp 2,.tmp 3] [1] Proofs.Tryz.func7 rfl rfl rfl rfl rfl (by simp) (AWp.of ?_);simp only[go_sem]
  refine Wk ?_
  refine Sd ?_
  refine(hsz).val.use ?_;simp only[go_sem,hS]
  refine GCall.use .any (fun h=>absurd h (by simp)) ?_
  simp only[go_sem]
  refine W1 hS ?_
  refine ret_view [] ?_;simp only[go_sem]
  exact .mkTup (Vws.cons (.nil 1) (Vws.refl _))
 have hvd:Vd ps:=vd_of (szW_sm (m:=24) (by decide) (by omega))
 cases hv:validF ps with
 | false =>
  left
  refine⟨[],?_⟩
  have h1:=hvd.rval
  rw[hv] at h1
  generalize szW ps=z at *
  refine PC.enter 26 [.tmp 2,.tmp 3] [1] Proofs.Tryz.func7 rfl rfl rfl rfl rfl (by simp) (AWp.of ?_);simp only[go_sem]
  refine Wk ?_
  refine Sd ?_
  refine(hsz).val.use ?_;simp only[go_sem,hS]
  refine Sd ?_
  refine GCall.use (ab false) (fun _=>⟨At,(h1).val.use ⟨rfl,rfl⟩⟩) ?_;simp only[go_sem]
  refine Sd ?_
  refine W1 hS ?_
  refine ret_view [] ?_;simp only[go_sem]
  exact .mkTup (Vws.cons (.nil 1) (Vws.refl _))
 | true =>
 have hs:=hvd.sm hv
 have h1:=ref12_Valid ps hs
 have h2:=ref23_List ps hs hv
 rw[hv] at h1
 have haR:∀x:List (List Int),aRows x = .sl 1 (x.map aInts):=fun _=>rfl
 by_cases h5:5000<(cutsF ps).length
 ·left
  rw[if_pos h5] at h2
  refine⟨[],?_⟩
  generalize szW ps=z at *
  refine PC.enter 26 [.tmp 2,.tmp 3] [1] Proofs.Tryz.func7 rfl rfl rfl rfl rfl (by simp) (AWp.of ?_);simp only[go_sem]
  refine Wk ?_
  refine Sd ?_
  refine(hsz).val.use ?_;simp only[go_sem,hS]
  refine Sd ?_
  refine GCall.use (ab true) (fun _=>⟨At,(h1).val.use ⟨rfl,rfl⟩⟩) ?_;simp only[go_sem]
  refine Sd ?_
  refine W1 hS ?_
  refine Sd ?_
  refine(h2).val.use ?_;simp only[go_sem]
  refine Wk ?_
  refine ret_eq ?_;simp only[go_sem]
 ·rw[if_neg h5] at h2
  by_cases h250:(cutsF ps).length≤250
  ·right
   refine⟨hs,rfl,h250,?_⟩
   rw[haR] at h2 ⊢
   generalize cutsF ps=cs at *
   have hcm:(cs.map aInts).length=cs.length:=List.length_map _
   have hd:((cs.length:Int)≤250):=by omega
   generalize szW ps=z at *
   refine PC.enter 26 [.tmp 2,.tmp 3] [1] Proofs.Tryz.func7 rfl rfl rfl rfl rfl (by simp) (AWp.of ?_);simp only[go_sem]
   refine Wk ?_
   refine Sd ?_
   refine(hsz).val.use ?_;simp only[go_sem,hS]
   refine Sd ?_
   refine GCall.use (ab true) (fun _=>⟨At,(h1).val.use ⟨rfl,rfl⟩⟩) ?_;simp only[go_sem]
   refine Sd ?_
   refine W1 hS ?_
   refine Sd ?_
   refine(h2).val.use ?_;simp only[go_sem]
   refine W2 hcm hd ?_
   refine ret_eq ?_;simp only[go_sem]
  ·left
   rw[haR] at h2
   refine⟨(cutsF ps).map aInts,?_⟩
   generalize cutsF ps=cs at *
   have hcm:(cs.map aInts).length=cs.length:=List.length_map _
   have hd:¬((cs.length:Int)≤250):=by omega
   generalize szW ps=z at *
   refine PC.enter 26 [.tmp 2,.tmp 3] [1] Proofs.Tryz.func7 rfl rfl rfl rfl rfl (by simp) (AWp.of ?_);simp only[go_sem]
   refine Wk ?_
   refine Sd ?_
   refine(hsz).val.use ?_;simp only[go_sem,hS]
   refine Sd ?_
   refine GCall.use (ab true) (fun _=>⟨At,(h1).val.use ⟨rfl,rfl⟩⟩) ?_;simp only[go_sem]
   refine Sd ?_
   refine W1 hS ?_
   refine Sd ?_
   refine(h2).val.use ?_;simp only[go_sem]
   refine W2 hcm hd ?_
   refine ret_eq ?_;simp only[go_sem]
theorem syE_zero {ps:List Pr} {l:List Syn} (h:syE ps l=0):l.length≤1000∧SynOk ps l∧lftX ps (exF ps l)=0:=by
 unfold syE at h
 split at h
 ·cases h
 ·split at h
  ·cases h
  ·split at h
   ·rename_i h1 h2 h3
    exact⟨by omega,syn_bad.1 (by simpa using h2),h3⟩
   ·cases h
theorem evaluate_TableH {ps:List Pr} {t:Pd} {xs ys:List AV} {e:Int} (h:PC Proofs.Tryz.prog 81 [aTr ps,aPd t] (.tup [.sl 1 xs,.sl 1 ys,ai e])):PC Proofs.Tryz.prog 44 [aTr ps,aPd t] (.tup [.sl 1 ys,ai e]):=by
 obtain⟨k,n,p,q,s,l⟩:=t
 simp only[aPd_mk] at h ⊢
 refine PC.enter 18 [.tmp 4,.tmp 5] [2,3] Proofs.Tryz.func44 rfl rfl rfl rfl rfl (by simp) (AWp.of ?_);simp only[go_sem]
 refine Wk ?_
 refine Sd ?_
 refine(h).val.use ?_;simp only[go_sem]
 refine Wk ?_
 refine ret_eq ?_;simp only[go_sem]
theorem control_CheckS (c:List Int) (s:Syn) (h1:0≤s.1.1∧s.1.1<c.length) (h2:0≤s.2.1∧s.2.1<c.length):PC Proofs.Tryz.prog 47 [aSyn s,.rp 1 [.sl 1 (c.map ai)] 0 0] (ab (brkB c s)):=by
 obtain⟨⟨a,i⟩,b,j⟩:=s
 have h1:0≤a∧a<c.length:=h1
 have h2:0≤b∧b<c.length:=h2
 have ga:(c.map ai).getD a.toNat .any=ai (cAt c a.toNat):=by rw[getD_map (by omega),cAt_nat (by omega)]
 have gb:(c.map ai).getD b.toNat .any=ai (cAt c b.toNat):=by rw[getD_map (by omega),cAt_nat (by omega)]
 have hB:brkB c ((a,i),b,j)=(decide (j≤cAt c b.toNat) && decide (cAt c a.toNat<i)):=rfl
 have hcl:(c.map ai).length=c.length:=List.length_map _
 have es:aSyn ((a,i),b,j) = .agg [ai a,ai i,ai b,ai j]:=rfl
 rw[hB,es]
 generalize cAt c a.toNat=x at *
 generalize cAt c b.toNat=y at *
 generalize c.map ai=cc at *
 refine PC.enter 26 [.tmp 3] [2] Proofs.Tryz.func47 rfl rfl rfl rfl rfl (by simp) (AWp.of ?_);simp only[go_sem]
 refine Wk ?_
 repeat(first|(with_reducible refine AWp.seq ?_)|(with_reducible refine AWp.block ?_))
 refine AWp.read mixed [0,1,2,3,4,5,6,7,8,9,10,11,12,13,14,15,16,17,18,19,20,21,22] (by kernel_rfl) ?_;simp only[go_sem,ga,gb,hcl]
 refine Sd ?_
 refine Wk ?_
 refine ret_eq ?_;simp only[go_sem]
def chkX (l:List Syn) (cs:List (List Int)) (ks:List Bool):Bool:=(List.range cs.length).all fun i=>(l.any fun s=>brkB (cs.getD i []) s) || ks.getD i false
set_option maxHeartbeats 1000000 in
theorem control_CheckH (ps:List Pr) (hs:Sm ps) (hv:validF ps=true) (h5:(cutsF ps).length≤5000) (t:Pd) (ks:List Bool) (hk:ks.length=(cutsF ps).length) (l:List Syn) (hll:l.length≤1000000)
  (hT:PC Proofs.Tryz.prog 44 [aTr ps,aPd t] (.tup [.sl 1 (ks.map ab),ai 0])) :
  PC Proofs.Tryz.prog 20 [aTr ps,aPd t,.sl 4 (l.map aSyn)] (.tup [ab (decide (syE ps l=0) && chkX l (cutsF ps) ks),ai (syE ps l)]):=by
 have h1:=control_check ps hs l hll
 unfold aChk at h1
 rw[if_neg (by rw[hv];decide)] at h1
 by_cases hE:syE ps l=0
 ·rw[if_pos hE] at h1
  obtain⟨_,hok,_⟩:=syE_zero hE
  have hL0:lstE ps=0:=lst_zero.2 ⟨hv,h5⟩
  have hcl:=cuts_List ps hs
  have haL:aLst ps = .tup [.sl 1 ((cutsF ps).map aInts),ai 0]:=by unfold aLst lstF;rw[if_pos hL0,hL0];rfl
  rw[haL] at hcl
  obtain⟨X,hX⟩:∃X,aOrd ps (exF ps l) true = .rp 3 X 0 0:=⟨_,rfl⟩
  rw[hX] at h1
  have hcm:((cutsF ps).map aInts).length=(cutsF ps).length:=List.length_map _
  have hkm:(ks.map ab).length=(cutsF ps).length:=by rw[List.length_map,hk]
  have hgC:∀k (h:k<(cutsF ps).length),((cutsF ps).map aInts).getD k .any = .sl 1 ((cutsF ps)[k].map ai):=fun k h=>getD_map h
  have hgK:∀k (h:k<(cutsF ps).length),(ks.map ab).getD k .any=ab (ks.getD k false):=fun k h=>by
   rw[getD_map (by omega),List.getD_eq_getElem?_getD,List.getElem?_eq_getElem (by omega)];rfl
  have hcf:∀k (h:k<(cutsF ps).length),PC Proofs.Tryz.prog 46 [.sl 4 (l.map aSyn),.clo 47 [.rp 1 [.sl 1 ((cutsF ps)[k].map ai)] 0 0]] (ab (l.any fun s=>brkB (cutsF ps)[k] s)):=fun k h=>by
   have hlc:(cutsF ps)[k].length=ps.length:=(isF_iff.1 ((mem_cutsF hv).1 (List.getElem_mem h))).1
   exact syns_containsFunc l hll _ rfl (fun s=>brkB (cutsF ps)[k] s) fun s hs'=>by
    obtain⟨⟨a1,a2,_,_⟩,b1,b2,_,_⟩:=hok s hs'
    exact(control_CheckS (cutsF ps)[k] s ⟨a1,by omega⟩ ⟨b1,by omega⟩).clo
  have hchk:chkX l (cutsF ps) ks=(List.range (cutsF ps).length).all fun i=>(l.any fun s=>brkB ((cutsF ps).getD i []) s) || ks.getD i false:=rfl
  have hgd:∀k (h:k<(cutsF ps).length),(cutsF ps).getD k []=(cutsF ps)[k]:=fun k h=>by
   rw[List.getD_eq_getElem?_getD,List.getElem?_eq_getElem h];rfl
  rw[decide_eq_true hE,Bool.true_and,hE]
  generalize chkX l (cutsF ps) ks=B at *
  generalize (cutsF ps).map aInts=CC at *
  generalize cutsF ps=cs at *
  generalize ks.map ab=KK at *
  obtain⟨k0,n0,p0,q0,s0,l0⟩:=t
  simp only[aPd_mk] at hT ⊢
  generalize l.map aSyn=SL at *
  refine PC.enter 62 [.tmp 6,.tmp 7] [3,4,14] Proofs.Tryz.func20 rfl rfl rfl rfl rfl (by simp) (AWp.of ?_);simp only[go_sem]
  refine Wk ?_
  refine Sd ?_
  refine(hT).val.use ?_;simp only[go_sem]
  refine Wk ?_
  refine Sd ?_
  refine(h1).val.use ?_;simp only[go_sem]
  refine Wk ?_
  refine Sd ?_
  refine(hcl).val.use ?_;simp only[go_sem]
  refine W1 hcm ?_
  refine AWp.range' cs.length [] [2,8,42,43] (fun i vs L=>vs=[]∧L=[]∧∀j,j<i→(l.any fun s=>brkB (cs.getD j []) s)=true∨ks.getD j false=true) (by omega) rfl rfl rfl ⟨rfl,rfl,fun j h=>by omega⟩ ?_ ?_
  ·rintro i vs L hi - ⟨rfl,rfl,hI⟩
   have hg:=hgC i hi
   have hgk:=hgK i hi
   have hc:=hcf i hi
   have hgi:=hgd i hi
   have hno:(l.any fun s=>brkB cs[i] s)=false→ks.getD i false=false→B=false:=fun h g=>by
    rw[hchk,List.all_eq_false]
    exact⟨i,List.mem_range.2 hi,by rw[hgi,h,g];decide⟩
   have hye:((l.any fun s=>brkB cs[i] s) || ks.getD i false)=true→∀j,j<i+1→(l.any fun s=>brkB (cs.getD j []) s)=true∨ks.getD j false=true:=fun h j hj=>by
    by_cases e:j=i
    ·subst e;rw[hgi,← Bool.or_eq_true];exact h
    ·exact hI j (by omega)
   generalize (l.any fun s=>brkB cs[i] s)=x at *
   generalize ks.getD i false=y at *
   generalize cs[i].map ai=cc at *
   simp only[go_sem]
   refine W1 hg ?_
   intros
   refine W1 hg ?_
   refine Sd ?_
   refine(hc).val.use ?_;simp only[go_sem]
   cases x with
   | true =>
    refine W2 hgk hkm ?_
    exact⟨_,List.Sublist.refl _,rfl,hye rfl⟩
   | false =>
    cases y with
    | true =>
     refine W2 hgk hkm ?_
     exact⟨_,List.Sublist.refl _,rfl,hye rfl⟩
    | false =>
     rw[hno rfl rfl]
     refine W2 hgk hkm ?_
     refine ret_eq ?_;simp only[go_sem]
  ·rintro vs L - ⟨rfl,rfl,hI⟩
   have:B=true:=by
    rw[hchk,List.all_eq_true]
    exact fun j hj=>by rw[Bool.or_eq_true];exact hI j (List.mem_range.1 hj)
   rw[this]
   simp only[go_sem]
   refine Wk ?_
   refine ret_eq ?_;simp only[go_sem]
 ·rw[if_neg hE] at h1
  rw[decide_eq_false hE,Bool.false_and]
  generalize syE ps l=E at *
  generalize ks.map ab=KK at *
  obtain⟨k0,n0,p0,q0,s0,l0⟩:=t
  simp only[aPd_mk] at hT ⊢
  generalize l.map aSyn=SL at *
  refine PC.enter 62 [.tmp 6,.tmp 7] [3,4,14] Proofs.Tryz.func20 rfl rfl rfl rfl rfl (by simp) (AWp.of ?_);simp only[go_sem]
  refine Wk ?_
  refine Sd ?_
  refine(hT).val.use ?_;simp only[go_sem]
  refine Wk ?_
  refine Sd ?_
  refine(h1).val.use ?_;simp only[go_sem]
  refine W1 hE ?_
  refine ret_eq ?_;simp only[go_sem]
theorem wh_truth {ps:List Pr} (hs:Sm ps) {t:Pd} (hz:szF t≤1000000) (hn:allB nchB t=true) (hE:whE ps t=0) {c:List Int} (hc:isF ps c=true) :
  PC Proofs.Tryz.prog 121 [aTr ps,aInts c] (.tup [.sl 1 ((valuesAt ps c).map aInts),ai 0])∧PC Proofs.Tryz.prog 73 [aView ps c (valuesAt ps c),aPd t] (ab (truF (cutO ps c fun _ _=>0) t)):=by
 obtain⟨g1,g3,g4,g5⟩:=whE_zero hE
 obtain⟨hv,g7,g8,g9⟩:=checkF_zero g1
 have g10:=g8
 unfold okT at g10
 simp only[Bool.and_eq_true] at g10
 have hcl:=(isF_iff.1 hc).1
 have h8:=(valid_len hv).2
 have hg:=(isF_given hv).2 hc
 obtain⟨l1,l2⟩:=cut_leaf ps hs c (fun _ _=>0) hg t g10.1.2 hn
 have h2:=variable_At ps hs c (by omega)
 unfold aAt at h2
 rw[hg,if_neg (by decide)] at h2
 exact⟨h2,view_truth ps c _ _ (by omega) t hz g8 g3 g9 g4 l2 l1⟩
theorem evaluate_all (ps:List Pr) (hs:Sm ps) (t:Pd) (hz:szF t≤1000000) (hn:allB nchB t=true) (hE:whE ps t=0) :
  PC Proofs.Tryz.prog 81 [aTr ps,aPd t] (.tup [aRows (cutsF ps),.sl 1 ((cutsF ps).map fun c=>ab (truF (cutO ps c fun _ _=>0) t)),ai 0]):=by
 obtain⟨g1,g3,g4,g5⟩:=whE_zero hE
 obtain⟨hv,h5⟩:=lst_zero.1 g5
 have h1:=predtype_Check ps hs t hz
 rw[g1] at h1
 have hgt:=(checkF_zero g1).2.1
 have hgy:typedB t=true:=by
  have:=(checkF_zero g1).2.2.1
  unfold okT at this;simp only[Bool.and_eq_true] at this;exact this.2
 have h2:=evaluate_typed t hz hgt hgy 2
 have hr:resF t.kind=2:=by unfold resF;split <;> omega
 rw[if_pos hr] at h2
 have h3:=predtype_Temporal t hz
 rw[hgt,g4] at h3
 have h4:=cuts_List ps hs
 have hL:lstF ps=cutsF ps:=by unfold lstF;rw[if_pos g5]
 unfold aLst at h4
 rw[hL,g5] at h4
 have hw:=fun c hc=>wh_truth hs hz hn hE (c:=c) ((mem_cutsF hv).1 hc)
 have hcl:∀c ∈ cutsF ps,c.length=ps.length:=fun c hc=>(isF_iff.1 ((mem_cutsF hv).1 hc)).1
 have haR:∀x:List (List Int),aRows x = .sl 1 (x.map aInts):=fun _=>rfl
 have hTr:aTr ps = .agg [aPrs ps]:=rfl
 clear hr g1 g3 g4 hgt hgy hL
 generalize cutsF ps=cs at *
 obtain⟨f,hf⟩:∃f:List Int→Bool,f=fun c=>truF (cutO ps c fun _ _=>0) t:=⟨_,rfl⟩
 have hfc:∀c,truF (cutO ps c fun _ _=>0) t=f c:=fun c=>by rw[hf]
 simp only[hfc] at hw ⊢
 clear hf hfc
 obtain⟨k,n,p,q,s,l⟩:=t
 unfold aView at hw
 simp only[aPd_mk] at *
 rw[haR] at *
 refine PC.enter 64 [.tmp 4,.tmp 5,.tmp 6] [2,3,59] Proofs.Tryz.func81 rfl rfl rfl rfl rfl (by simp) (AWp.of ?_);simp only[go_sem]
 refine Wk ?_
 refine Sd ?_
 refine(h1).val.use ?_;simp only[go_sem]
 refine Wk ?_
 refine Sd ?_
 refine(h2).val.use ?_;simp only[go_sem]
 refine Wk ?_
 refine Sd ?_
 refine(h3).val.use ?_;simp only[go_sem]
 refine Wk ?_
 refine Sd ?_
 refine(h4).val.use ?_;simp only[go_sem]
 refine Wk ?_
 refine AWp.range' cs.length [11] [2,3,9,37,38] (fun k vs L=>∃v,vs=[v]∧AppSt 4 1 ((cs.take k).map fun c=>ab (f c)) v L) (by omega) rfl rfl rfl ⟨anil,rfl,.nil⟩ ?_ ?_
 ·rintro k vs L hk - ⟨v,rfl,hA⟩
  have hg:=getD_map (f:=aInts) hk
  obtain⟨w1,w2⟩:=hw _ (List.getElem_mem hk)
  have hst:((cs.take (k+1)).map fun c=>ab (f c))=((cs.take k).map fun c=>ab (f c)) ++ [ab (f cs[k])]:=by
   rw[List.take_succ_eq_append_getElem hk,List.map_append];rfl
  rw[hst]
  have hfo:=hA.fo
  clear hst hw
  generalize hys:((cs.take k).map fun c=>ab (f c))=ys at *
  generalize f cs[k]=b at *
  generalize cs[k]=c at *
  generalize valuesAt ps c=V at *
  have hyl:ys.length=k:=by rw[← hys,List.length_map,List.length_take];omega
  clear hys
  rcases hA.inv with ⟨e1,rfl,rfl⟩|⟨b',cap,rfl,rfl⟩
  ·simp only[go_sem]
   refine W1 hg ?_
   refine Sd ?_
   refine(w1).val.use ?_;simp only[go_sem]
   refine Wk ?_
   refine Sd ?_
   refine(w2).val.use ?_;simp only[go_sem]
   refine Wk ?_
   intro b' cap' g8
   refine Wk ?_
   exact⟨_,List.Sublist.refl _,_,rfl,by rw[e1];exact .row _ _ _⟩
  ·simp only[go_sem]
   refine W1 hg ?_
   refine Sd ?_
   refine(w1).val.use ?_;simp only[go_sem]
   refine Wk ?_
   refine Sd ?_
   refine(w2).val.use ?_;simp only[go_sem]
   refine Wk ?_
   refine Sd ?_
   intro b' cap' g8
   refine Wk ?_
   exact⟨_,List.Sublist.refl _,_,rfl,AppSt.snoc _ _ _ rfl⟩
 ·rintro vs L - ⟨v,rfl,hA⟩
  rw[List.take_length] at hA
  generalize (cs.map fun c=>ab (f c))=ys at *
  rcases hA.inv with ⟨e1,rfl,rfl⟩|⟨b,cap,rfl,rfl⟩
  ·simp only[go_sem]
   refine Wk ?_
   refine ret_view [] ?_;simp only[go_sem]
   rw[e1]
   exact .mkTup (Vws.cons (.refl _) (Vws.cons (.nil 1) (Vws.refl _)))
  ·simp only[go_sem]
   refine Wk ?_
   refine ret_view [true] ?_;simp only[go_sem]
   exact .mkTup (Vws.cons (.refl _) (Vws.cons (Vw.ofLs (if_pos rfl) rfl) (Vws.refl _)))
structure IsGr (ps:List Pr) (E:Elim) (c:List Int):Prop where
 sat:SatD ps E c
 up:∀d,SatD ps E d→∀p,p<ps.length→cAt d p≤cAt c p
open Classical in
noncomputable def greatO (ps:List Pr) (E:Elim):Option (List Int):=if h:∃c,IsGr ps E c then some (Classical.choose h) else none
section
variable {ps:List Pr} {E:Elim}
end
end Go.AL
end
section
namespace Go.AL
open Go Go.RowKit
set_option maxRecDepth 4000
section
variable {ps:List Pr} {E:Elim}
end
theorem pd_form (x:Pd):∃(k n p q:Int) (s:ByteArray) (l:List AV),aPd x = .agg [ai k,ai n,ai p,ai q,astr s,.sl 6 l]:=by
 obtain⟨k,n,p,q,s,l⟩:=x
 exact⟨_,_,_,_,_,_,aPd_mk _ _ _ _ _ _⟩
end Go.AL
end
