/- Texts of this claim's proof: WY19, WY34, WRt, WRt7, WRt2, WRt3. No condition. -/
import Derived.Test.YtplamfpmmogbeaaGreatDoorM28
import Derived.Test.YtplamfpmmogbeaaGreatDoorM18
import Derived.Test.YtplamfpmmogbeaaGreatDoorM13
import Derived.Test.YtplamfpmmogbeaaGreatDoorM15
import Derived.Test.YtplamfpmmogbeaaGreatDoorM22
import Derived.Test.YtplamfpmmogbeaaGreatDoorM19
import Derived.Test.YtplamfpmmogbeaaGreatDoorM10
import Derived.Test.YtplamfpmmogbeaaGreatDoorM4
import Derived.Test.YtplamfpmmogbeaaGreatDoorM7
section
namespace Go.AL
open Go Go.RowKit
set_option maxRecDepth 4000
def scanB {σ:Type} (step:σ→Pd→Bool × σ):List Pd→σ→Bool × σ
 | [],s=>(false,s)
 | x :: r,s=>if (step s x).1=true then (true,(step s x).2) else scanB step r (step s x).2
theorem preds_indexFuncM (l:List Pd) (g:AV) (hgf:fo g=(True,g)) {σ:Type} (Lh:σ→AHeap) (I:σ→Prop) (step:σ→Pd→Bool × σ)
  (hg:∀x ∈ l,∀s,I s→(MVal Proofs.Tryz.prog g [aPd x] (Lh s) fun r L=>r=ab (step s x).1∧L=Lh (step s x).2)∧((step s x).1=false→I (step s x).2)) (s0:σ) (h0:I s0) :
  MCalls Proofs.Tryz.prog 59 [.sl 6 (l.map aPd),g] (Lh s0) fun r L=>(∃z:Int,r=ai z ∧ -1≤z∧(0≤z↔(scanB step l s0).1=true))∧L=Lh (scanB step l s0).2:=by
 refine MCalls.enter' 19 [.tmp 4] [] Proofs.Tryz.func59 rfl rfl rfl rfl rfl (by simp) (AWp.of ?_);simp only[go_sem]
 refine AWp.slLen (j:=0) (k:=6) (xs:=l.map aPd) rfl fun hlen => ?_
 rw[List.length_map] at hlen
 refine W1 hgf ?_
 refine AWp.range1' l.length [] [0,1,7] (fun k vs L=>vs=[]∧∃s,L=Lh s∧I s∧scanB step (l.drop k) s=scanB step l s0) (by omega) rfl rfl rfl ⟨rfl,s0,rfl,h0,by rw[List.drop_zero]⟩ ?_ ?_
 ·rintro k vs L hk - ⟨rfl,s,rfl,hI,hS⟩
  have hge:=getD_map (f:=aPd) hk
  obtain⟨h1,h2⟩:=hg l[k] (List.getElem_mem hk) s hI
  have hS2:scanB step (l.drop k) s=if (step s l[k]).1=true then (true,(step s l[k]).2) else scanB step (l.drop (k+1)) (step s l[k]).2:=by
   rw[← List.getElem_cons_drop hk];rfl
  rw[hS2] at hS
  clear hS2
  generalize l[k]=x at *
  obtain⟨k2,n2,p2,q2,s2,l2⟩:=x
  generalize hst:step s (.mk k2 n2 p2 q2 s2 l2)=st at *
  rw[aPd_mk] at hge h1
  simp only[go_sem]
  refine W2 hge hgf ?_
  refine h1.mono ?_
  rintro r L ⟨rfl,rfl⟩
  simp only[go_sem]
  refine W1 hgf ?_
  refine⟨fun h3 => ?_,fun h3 => ?_⟩
  ·rw[if_pos (by simpa using h3)] at hS
   refine Wk ?_
   refine ret_own ?_
   simp only[go_sem]
   rw[← hS]
   exact⟨⟨k,rfl,by omega,by simp⟩,rfl⟩
  ·rw[if_neg (by simpa using h3)] at hS
   refine W1 hgf ?_
   exact⟨_,List.Sublist.refl _,st.2,rfl,h2 (by simpa using h3),hS⟩
 ·rintro vs L - ⟨rfl,s,rfl,hI,hS⟩
  rw[List.drop_length] at hS
  rw[← hS]
  simp only[go_sem]
  refine W1 hgf ?_
  refine ret_own ?_
  simp only[go_sem]
  exact⟨⟨-1,rfl,by omega,by simp [scanB]⟩,rfl⟩
theorem preds_containsFuncM (l:List Pd) (g:AV) (hgf:fo g=(True,g)) {σ:Type} (Lh:σ→AHeap) (I:σ→Prop) (step:σ→Pd→Bool × σ)
  (hg:∀x ∈ l,∀s,I s→(MVal Proofs.Tryz.prog g [aPd x] (Lh s) fun r L=>r=ab (step s x).1∧L=Lh (step s x).2)∧((step s x).1=false→I (step s x).2)) (s0:σ) (h0:I s0) :
  MCalls Proofs.Tryz.prog 28 [.sl 6 (l.map aPd),g] (Lh s0) fun r L=>r=ab (scanB step l s0).1∧L=Lh (scanB step l s0).2:=by
 have h1:=preds_indexFuncM l g hgf Lh I step hg s0 h0
 refine MCalls.enter' 9 [.tmp 4] [] Proofs.Tryz.func28 rfl rfl rfl rfl rfl (by simp) (AWp.of ?_);simp only[go_sem]
 refine W1 hgf ?_
 refine h1.val.mono ?_
 rintro r L ⟨⟨z,rfl,h2,h3⟩,rfl⟩
 have h4:(scanB step l s0).1=decide (0≤z):=by
  by_cases h:0≤z
  ·rw[decide_eq_true h];exact h3.1 h
  ·rw[decide_eq_false h]
   cases hb:(scanB step l s0).1 with
   | false=>rfl
   | true=>exact absurd (h3.2 hb) h
 rw[h4]
 simp only[go_sem]
 refine Wk ?_
 refine ret_own ?_
 simp only[go_sem]
mutual
def ftF:Pd→Int→Int→Bool × Int
 | .mk _ _ _ _ s l,n,d=>if 0≤n - 1∧d≤60∧(s.size:Int)≤100 then (!(ftL l (n - 1) (d+1)).1,(ftL l (n - 1) (d+1)).2) else (false,n - 1)
def ftL:List Pd→Int→Int→Bool × Int
 | [],n,_=>(false,n)
 | x :: r,n,d=>if (ftF x n d).1=true then ftL r (ftF x n d).2 d else (true,(ftF x n d).2)
end
def ftS (d:Int) (n:Int) (x:Pd):Bool × Int:=(!(ftF x n d).1,(ftF x n d).2)
theorem ftL_scan (d:Int):∀(l:List Pd) (n:Int),ftL l n d=scanB (ftS d) l n
 | [],n=>by rw[ftL];rfl
 | x :: r,n=>by
  rw[ftL]
  show _=if (!(ftF x n d).1)=true then (true,(ftF x n d).2) else scanB (ftS d) r (ftF x n d).2
  rw[← ftL_scan d r]
  cases (ftF x n d).1 <;> simp
theorem ft_spec (t:Pd):∀n d:Int,0≤n→((ftF t n d).1=true→(ftF t n d).2=n - szF t∧0≤(ftF t n d).2) ∧ -1≤(ftF t n d).2∧(ftF t n d).2≤n:=by
 induction t using Pd.ind with
 | _ k n p q s l ih =>
 intro m d hm
 rw[ftF,szF]
 have hl:∀l':List Pd,(∀x ∈ l',x ∈ l)→∀n d:Int,0≤n→((ftL l' n d).1=false→(ftL l' n d).2=n - szL l'∧0≤(ftL l' n d).2) ∧ -1≤(ftL l' n d).2∧(ftL l' n d).2≤n:=by
  intro l'
  induction l' with
  | nil=>intro _ n d h0;rw[ftL,szL];exact⟨fun _=>⟨by simp,h0⟩,by simp;omega,Int.le_refl _⟩
  | cons x r ihr =>
   intro hmm n d h0
   obtain⟨a1,a2,a3⟩:=ih x (hmm x List.mem_cons_self) n d h0
   rw[ftL,szL]
   generalize ftF x n d=y at *
   by_cases hc:y.1=true
   ·rw[if_pos hc]
    obtain⟨b1,b2⟩:=a1 hc
    obtain⟨c1,c2,c3⟩:=ihr (fun z hz=>hmm z (List.mem_cons_of_mem _ hz)) y.2 d b2
    exact⟨fun h=>by have:=c1 h;omega,c2,by omega⟩
   ·rw[if_neg hc]
    exact⟨fun h=>(by cases h),a2,a3⟩
 split
 ·rename_i hc
  obtain⟨b1,b2,b3⟩:=hl l (fun x hx=>hx) (m - 1) (d+1) hc.1
  refine⟨fun h => ?_,b2,by show _≤m;omega⟩
  have:=b1 (by simpa using h)
  show (ftL l (m - 1) (d+1)).2=_∧0≤(ftL l (m - 1) (d+1)).2
  omega
 ·exact⟨fun h=>(by cases h),by show -1≤m - 1;omega,by show m - 1≤m;omega⟩
abbrev FitC (x:Pd):Prop:=∀n d:Int,0≤n→n≤300→0≤d→d≤61→∀b,MCalls Proofs.Tryz.prog 30 [aPd x,.lp b 1 0 0,ai d] [(b,.row 3 1 [ai n] 1)] fun r L=>r=ab (ftF x n d).1∧L=[(b,.row 3 1 [ai (ftF x n d).2] 1)]
theorem law44_fits1 {x:Pd} (hx:FitC x) (n d:Int) (h0:0≤n) (h3:n≤300) (d0:0≤d) (d6:d≤60) (b:Nat):MCalls Proofs.Tryz.prog 60 [aPd x,.rp 1 [.lp b 1 0 0] 0 0,.rp 1 [ai d] 0 0] [(b,.row 3 1 [ai n] 1)] fun r L=>r=ab (ftS (d+1) n x).1∧L=[(b,.row 3 1 [ai (ftS (d+1) n x).2] 1)]:=by
 have h1:=hx n (d+1) h0 h3 (by omega) (by omega) b
 have e1:(ftS (d+1) n x).1 = !(ftF x n (d+1)).1:=rfl
 have e2:(ftS (d+1) n x).2=(ftF x n (d+1)).2:=rfl
 rw[e1,e2]
 generalize ftF x n (d+1)=y at *
 obtain⟨k2,n2,p2,q2,s2,l2⟩:=x
 rw[aPd_mk] at *
 refine MCalls.enter' 11 [.tmp 4] [3] Proofs.Tryz.func60 rfl rfl rfl rfl rfl (by simp) (AWp.of ?_);simp only[go_sem]
 refine Wk ?_
 refine h1.val.mono ?_
 rintro r L ⟨rfl,rfl⟩
 simp only[go_sem]
 refine Wk ?_
 refine ret_own ?_
 simp only[go_sem]
theorem law44_fits (t:Pd):FitC t:=by
 induction t using Pd.ind with
 | _ k n p q s l ih =>
 intro m d m0 m3 d0 d6 b
 have hF:ftF (.mk k n p q s l) m d=if 0≤m - 1∧d≤60∧(s.size:Int)≤100 then (!(ftL l (m - 1) (d+1)).1,(ftL l (m - 1) (d+1)).2) else (false,m - 1):=by rw[ftF]
 generalize ftF (.mk k n p q s l) m d=F at *
 rw[aPd_mk]
 by_cases c1:0≤m - 1
 ·by_cases c2:d≤60
  ·by_cases c3:(s.size:Int)≤100
   ·rw[if_pos ⟨c1,c2,c3⟩] at hF
    subst hF
    rw[ftL_scan]
    have hcf:=preds_containsFuncM l (.clo 60 [.rp 1 [.lp b 1 0 0] 0 0,.rp 1 [ai d] 0 0]) rfl (fun n:Int=>[(b,.row 3 1 [ai n] 1)]) (fun n=>0≤n∧n≤300) (ftS (d+1)) (fun x hx n hn=>⟨MCalls.clo (args:=[_]) (caps:=[_,_]) (law44_fits1 (ih x hx) n d hn.1 hn.2 d0 c2 b),fun h=>by
     have h1:=ft_spec x n (d+1) hn.1
     have h2:=h1.1 (by
      have:(!(ftF x n (d+1)).1)=false:=h
      simpa using this)
     exact⟨h2.2,Int.le_trans h1.2.2 hn.2⟩⟩) (m - 1) ⟨c1,by omega⟩
    generalize scanB (ftS (d+1)) l (m - 1)=sc at *
    refine MCalls.enter' 33 [.tmp 6] [3,4,5] Proofs.Tryz.func30 rfl rfl rfl rfl rfl (by simp) (AWp.of ?_);simp only[go_sem]
    refine Sd ?_
    refine AWp.of ?_;simp only[go_sem]
    refine⟨by omega,AWp.seq (AWp.regionF ?_)⟩
    simp only[go_sem,c1,c2,c3]
    refine hcf.val.mono ?_
    rintro r L ⟨rfl,rfl⟩
    simp only[go_sem]
    refine Wk ?_
    refine ret_own ?_
    simp only[go_sem]
   ·rw[if_neg fun h=>c3 h.2.2] at hF
    subst hF
    refine MCalls.enter' 33 [.tmp 6] [3,4,5] Proofs.Tryz.func30 rfl rfl rfl rfl rfl (by simp) (AWp.of ?_);simp only[go_sem]
    refine Wk ?_
    refine GCall.use (ab false) (fun g=>absurd g.2 c3) ?_
    simp only[go_sem,c1,c2,c3]
    refine Wk ?_
    refine ret_own ?_
    simp only[go_sem]
  ·rw[if_neg fun h=>c2 h.2.1] at hF
   subst hF
   refine MCalls.enter' 33 [.tmp 6] [3,4,5] Proofs.Tryz.func30 rfl rfl rfl rfl rfl (by simp) (AWp.of ?_);simp only[go_sem]
   refine Wk ?_
   refine GCall.use (ab false) (fun g=>absurd g.1.2 c2) ?_
   simp only[go_sem,c1,c2]
   refine Wk ?_
   refine ret_own ?_
   simp only[go_sem]
 ·rw[if_neg fun h=>c1 h.1] at hF
  subst hF
  refine MCalls.enter' 33 [.tmp 6] [3,4,5] Proofs.Tryz.func30 rfl rfl rfl rfl rfl (by simp) (AWp.of ?_);simp only[go_sem]
  refine Wk ?_
  refine GCall.use (ab false) (fun g=>absurd g.1.1 c1) ?_
  simp only[go_sem,c1]
  refine Wk ?_
  refine ret_own ?_
  simp only[go_sem]
def fwT (ts:List Pd):Bool:=decide ((ts.length:Int)≤12) && !(scanB (ftS 0) ts 300).1
theorem ftL_spec (l:List Pd):∀n d:Int,0≤n→(ftL l n d).1=false→(ftL l n d).2=n - szL l∧0≤(ftL l n d).2:=by
 induction l with
 | nil=>intro n d h0 _;rw[ftL,szL];exact⟨by simp,h0⟩
 | cons x r ih =>
  intro n d h0 h
  obtain⟨a1,a2,a3⟩:=ft_spec x n d h0
  rw[ftL] at h ⊢
  rw[szL]
  by_cases hc:(ftF x n d).1=true
  ·rw[if_pos hc] at h ⊢
   obtain⟨b1,b2⟩:=a1 hc
   obtain⟨c1,c2⟩:=ih _ _ b2 h
   omega
  ·rw[if_neg hc] at h;cases h
theorem fwT_spec {ts:List Pd} (h:fwT ts=true):ts.length≤12∧∀t ∈ ts,szF t≤300:=by
 unfold fwT at h
 rw[Bool.and_eq_true,decide_eq_true_eq,Bool.not_eq_true',← ftL_scan] at h
 obtain⟨h1,h2⟩:=ftL_spec ts 300 0 (by decide) h.2
 exact⟨by omega,fun t ht=>by have:=szL_mem ht;omega⟩
theorem law44_few1 (x:Pd) (n:Int) (h0:0≤n) (h3:n≤300) (b:Nat):MCalls Proofs.Tryz.prog 29 [aPd x,.lp b 1 0 0] [(b,.row 3 1 [ai n] 1)] fun r L=>r=ab (ftS 0 n x).1∧L=[(b,.row 3 1 [ai (ftS 0 n x).2] 1)]:=by
 have h1:=law44_fits x n 0 h0 h3 (by decide) (by decide) b
 have e1:(ftS 0 n x).1 = !(ftF x n 0).1:=rfl
 have e2:(ftS 0 n x).2=(ftF x n 0).2:=rfl
 rw[e1,e2]
 generalize ftF x n 0=y at *
 obtain⟨k2,n2,p2,q2,s2,l2⟩:=x
 rw[aPd_mk] at *
 refine MCalls.enter' 7 [.tmp 3] [2] Proofs.Tryz.func29 rfl rfl rfl rfl rfl (by simp) (AWp.of ?_);simp only[go_sem]
 refine Wk ?_
 refine h1.val.mono ?_
 rintro r L ⟨rfl,rfl⟩
 simp only[go_sem]
 refine Wk ?_
 refine ret_own ?_
 simp only[go_sem]
theorem law44_few (ts:List Pd):PC Proofs.Tryz.prog 8 [.sl 6 (ts.map aPd)] (ab (fwT ts)):=by
 have hcf:=fun b=>preds_containsFuncM ts (.clo 29 [.lp b 1 0 0]) rfl (fun n:Int=>[(b,.row 3 1 [ai n] 1)]) (fun n=>0≤n∧n≤300) (ftS 0) (fun x hx n hn=>⟨MCalls.clo (args:=[_]) (caps:=[_]) (law44_few1 x n hn.1 hn.2 b),fun h=>by
  have h1:=ft_spec x n 0 hn.1
  have h2:=h1.1 (by
   have:(!(ftF x n 0).1)=false:=h
   simpa using this)
  exact⟨h2.2,Int.le_trans h1.2.2 hn.2⟩⟩) 300 ⟨by decide,by decide⟩
 unfold fwT
 generalize scanB (ftS 0) ts 300=sc at *
 have hlm:(ts.map aPd).length=ts.length:=List.length_map _
 by_cases c1:(ts.length:Int)≤12
 ·rw[decide_eq_true c1,Bool.true_and]
  refine PC.enter 13 [.tmp 2] [] Proofs.Tryz.func8 rfl rfl rfl rfl rfl (by simp) (AWp.of ?_);simp only[go_sem]
  refine Sd ?_
  refine AWp.of ?_;simp only[go_sem]
  intro b
  refine AWp.seq (AWp.regionF ?_)
  simp only[go_sem,c1,hlm]
  refine(hcf b).val.mono ?_
  rintro r L ⟨rfl,rfl⟩
  simp only[go_sem]
  refine Wk ?_
  refine ret_eq ?_;simp only[go_sem]
 ·rw[decide_eq_false c1,Bool.false_and]
  refine PC.enter 13 [.tmp 2] [] Proofs.Tryz.func8 rfl rfl rfl rfl rfl (by simp) (AWp.of ?_);simp only[go_sem]
  refine Sd ?_
  refine AWp.of ?_;simp only[go_sem]
  intro b
  refine AWp.seq (AWp.regionF ?_)
  simp only[go_sem,c1,hlm]
  refine Wk ?_
  refine ret_eq ?_;simp only[go_sem]
section
variable {ps:List Pr} (hva:PC Proofs.Tryz.prog 61 [aTr ps] (ab false))
include hva
theorem control_falsehoods_bad (ts:List Pd):PC Proofs.Tryz.prog 31 [aTr ps,.sl 6 (ts.map aPd)] (.tup [.sl 1 [],ai 1]):=by
 refine PC.enter 60 [.tmp 4,.tmp 5] [2,8,56] Proofs.Tryz.func31 rfl rfl rfl rfl rfl (by simp) (AWp.of ?_);simp only[go_sem]
 refine Wk ?_
 refine Sd ?_
 refine(hva).val.use ?_;simp only[go_sem]
 refine Wk ?_
 refine ret_view [] ?_;simp only[go_sem]
 exact .mkTup (Vws.cons (.nil 1) (Vws.refl _))
theorem control_False_bad (ts:List Pd):PC Proofs.Tryz.prog 18 [aTr ps,.sl 6 (ts.map aPd)] (.tup [.sl 1 [],ai 1]):=by
 have h1:=control_falsehoods_bad hva ts
 refine PC.enter 35 [.tmp 4,.tmp 5] [2,31] Proofs.Tryz.func18 rfl rfl rfl rfl rfl (by simp) (AWp.of ?_);simp only[go_sem]
 refine Wk ?_
 refine Sd ?_
 refine(h1).val.use ?_;simp only[go_sem]
 repeat(first|((with_reducible refine AWp.ofC ?_ ?_);exact rfl;simp only[go_sem,Int.reduceEq])|((with_reducible refine an ?_ ?_);exact Au))
 refine ret_view [] ?_;simp only[go_sem]
 exact .mkTup (Vws.cons (.nil 1) (Vws.refl _))
theorem control_Refuse_bad (ts:List Pd):PC Proofs.Tryz.prog 19 [aTr ps,.sl 6 (ts.map aPd)] (.tup [.sl 3 [],ai 1]):=by
 have h1:=control_False_bad hva ts
 refine PC.enter 29 [.tmp 4,.tmp 5] [2] Proofs.Tryz.func19 rfl rfl rfl rfl rfl (by simp) (AWp.of ?_);simp only[go_sem]
 refine Wk ?_
 refine Sd ?_
 refine(h1).val.use ?_;simp only[go_sem]
 repeat(first|((with_reducible refine AWp.ofC ?_ ?_);exact rfl;simp only[go_sem,Int.reduceEq])|((with_reducible refine an ?_ ?_);exact Au))
 refine ret_view [] ?_;simp only[go_sem]
 exact .mkTup (Vws.cons (.nil 3) (Vws.refl _))
theorem control_Refused_bad (ts:List Pd) (l:List Spn3):PC Proofs.Tryz.prog 20 [aTr ps,.sl 6 (ts.map aPd),aSps l] (ab false):=by
 have h1:=control_falsehoods_bad hva ts
 have hR:aSps l = .sl 3 (l.map aSp):=rfl
 rw[hR]
 refine PC.enter 85 [.tmp 6] [3,10] Proofs.Tryz.func20 rfl rfl rfl rfl rfl (by simp) (AWp.of ?_);simp only[go_sem]
 refine Wk ?_
 refine Sd ?_
 refine(h1).val.use ?_;simp only[go_sem]
 repeat(first|((with_reducible refine AWp.ofC ?_ ?_);exact rfl;simp only[go_sem,Int.reduceEq])|((with_reducible refine an ?_ ?_);exact Au))
 refine ret_eq ?_;simp only[go_sem]
end
theorem ref44_Refused_bad {ps:List Pr} (hrv:PC Proofs.Tryz.prog 37 [aTr ps] (ab false)) (ts:List Pd) (htl:ts.length≤9223372036854775807) (l:List Spn3):PC Proofs.Tryz.prog 21 [aTr ps,.sl 6 (ts.map aPd),aSps l] (ab false):=by
 have h1:=ref37_Fault_bad hrv ts htl
 have hR:aSps l = .sl 3 (l.map aSp):=rfl
 rw[hR]
 refine PC.enter 82 [.tmp 6] [3] Proofs.Tryz.func21 rfl rfl rfl rfl rfl (by simp) (AWp.of ?_);simp only[go_sem]
 refine Wk ?_
 refine Sd ?_
 refine(h1).val.use ?_;simp only[go_sem]
 repeat(first|((with_reducible refine AWp.ofC ?_ ?_);exact rfl;simp only[go_sem,Int.reduceEq])|((with_reducible refine an ?_ ?_);exact Au))
 refine ret_eq ?_;simp only[go_sem]
theorem law44_same1 (a:List Spn3) (ha:a.length≤1000000):PC Proofs.Tryz.prog 56 [aSps a,aSps a] (ab true):=by
 have h1:=spans_equal a a ha
 rw[decide_eq_true rfl] at h1
 have hR:aSps a = .sl 3 (a.map aSp):=rfl
 rw[hR] at *
 refine PC.enter 8 [.tmp 4] [] Proofs.Tryz.func56 rfl rfl rfl rfl rfl (by simp) (AWp.of ?_);simp only[go_sem]
 refine Wk ?_
 refine Sd ?_
 refine(h1).val.use ?_;simp only[go_sem]
 refine Wk ?_
 refine ret_eq ?_;simp only[go_sem]
theorem law44_same (T:List (List Spn3)) (hT:T.length≤1000000) (hr:∀a ∈ T,a.length≤1000000):PC Proofs.Tryz.prog 22 [.sl 1 (T.map aSps),.sl 1 (T.map aSps)] (ab true):=by
 have hE:PC Proofs.Tryz.prog 55 [.sl 1 (T.map aSps),.sl 1 (T.map aSps),.v (.func (.func 56) #[] #[])] (ab true):=by
  have hlm:(T.map aSps).length=T.length:=List.length_map _
  refine PC.enter 32 [.tmp 6] [] Proofs.Tryz.func55 rfl rfl rfl rfl rfl (by simp) (AWp.of ?_);simp only[go_sem]
  refine W1 hlm ?_
  refine AWp.range' T.length [] [1,2,15,16] (fun k vs L=>L=[]) (by omega) rfl rfl rfl rfl ?_ ?_
  ·rintro k vs L hk - rfl
   have hg:=getD_map (f:=aSps) hk
   have h1:=law44_same1 T[k] (hr _ (List.getElem_mem hk))
   have hR:aSps T[k] = .sl 3 (T[k].map aSp):=rfl
   rw[hR] at hg h1
   generalize T[k].map aSp=row at *
   simp only[go_sem]
   refine W2 hg hlm ?_
   refine Sd ?_
   refine(h1).val.use ?_;simp only[go_sem]
   refine Wk ?_
   exact⟨_,List.Sublist.refl _,rfl⟩
  ·rintro vs L - rfl
   simp only[go_sem]
   refine Wk ?_
   refine ret_eq ?_;simp only[go_sem]
 generalize T.map aSps=TT at *
 refine PC.enter 8 [.tmp 4] [] Proofs.Tryz.func22 rfl rfl rfl rfl rfl (by simp) (AWp.of ?_);simp only[go_sem]
 refine Wk ?_
 refine Sd ?_
 refine(hE).val.use ?_;simp only[go_sem]
 refine Wk ?_
 refine ret_eq ?_;simp only[go_sem]
set_option maxHeartbeats 1000000 in
theorem law44_ControlStretches (ps:List Pr) (ts:List Pd) (l:List Spn3) (hpl:ps.length≤9223372036854775807) (hev:∀p ∈ ps,p.evs.length≤9223372036854775807) (htl:ts.length≤9223372036854775807):PC Proofs.Tryz.prog 5 [aTr ps,.sl 6 (ts.map aPd),aSps l] (ab true):=by
 have haw:=law44_awake
 have hsz:=law44_size ps hpl hev
 have hfw:=law44_few ts
 have hR:aSps l = .sl 3 (l.map aSp):=rfl
 have hlm:(l.map aSp).length=l.length:=List.length_map _
 by_cases hS:60<szW ps
 ·rw[hR]
  generalize l.map aSp=SL at *
  generalize szW ps=z at *
  refine PC.enter 105 [.tmp 6] [3] Proofs.Tryz.func5 rfl rfl rfl rfl rfl (by simp) (AWp.of ?_);simp only[go_sem]
  refine Wk ?_
  refine Sd ?_
  refine(haw).val.use ?_;simp only[go_sem]
  refine Wk ?_
  refine Sd ?_
  refine(hsz).val.use ?_;simp only[go_sem,hS]
  refine GCall.use .any (fun h=>absurd h (by simp)) ?_
  simp only[go_sem]
  refine W2 hS hlm ?_
  refine ret_eq ?_;simp only[go_sem]
 have hvd:Vd ps:=vd_of (szW_sm (m:=60) (by decide) (by omega))
 cases hf:fwT ts with
 | false =>
  rw[hf] at hfw
  rw[hR]
  generalize l.map aSp=SL at *
  generalize ts.map aPd=TL at *
  generalize szW ps=z at *
  refine PC.enter 105 [.tmp 6] [3] Proofs.Tryz.func5 rfl rfl rfl rfl rfl (by simp) (AWp.of ?_);simp only[go_sem]
  refine Wk ?_
  refine Sd ?_
  refine(haw).val.use ?_;simp only[go_sem]
  refine Wk ?_
  refine Sd ?_
  refine(hsz).val.use ?_;simp only[go_sem,hS]
  refine Sd ?_
  refine GCall.use (ab false) (fun _=>⟨At,(hfw).val.use ⟨rfl,rfl⟩⟩) ?_;simp only[go_sem,hlm]
  refine Sd ?_
  refine W2 hS hlm ?_
  refine ret_eq ?_;simp only[go_sem]
 | true =>
 rw[hf] at hfw
 obtain⟨f1,f2⟩:=fwT_spec hf
 by_cases h20:(20:Int)<l.length
 ·rw[hR]
  generalize l.map aSp=SL at *
  generalize ts.map aPd=TL at *
  generalize szW ps=z at *
  refine PC.enter 105 [.tmp 6] [3] Proofs.Tryz.func5 rfl rfl rfl rfl rfl (by simp) (AWp.of ?_);simp only[go_sem]
  refine Wk ?_
  refine Sd ?_
  refine(haw).val.use ?_;simp only[go_sem]
  refine Wk ?_
  refine Sd ?_
  refine(hsz).val.use ?_;simp only[go_sem,hS]
  refine Sd ?_
  refine GCall.use (ab true) (fun _=>⟨At,(hfw).val.use ⟨rfl,rfl⟩⟩) ?_;simp only[go_sem,hlm,h20]
  refine Sd ?_
  refine W3 hS hlm h20 ?_
  refine ret_eq ?_;simp only[go_sem]
 have finE:∀(c:Int) (B:Bool),c ≠ 0→PC Proofs.Tryz.prog 18 [aTr ps,.sl 6 (ts.map aPd)] (.tup [.sl 1 [],ai c])→PC Proofs.Tryz.prog 19 [aTr ps,.sl 6 (ts.map aPd)] (.tup [.sl 3 [],ai c]) →
   PC Proofs.Tryz.prog 20 [aTr ps,.sl 6 (ts.map aPd),aSps l] (ab B)→PC Proofs.Tryz.prog 21 [aTr ps,.sl 6 (ts.map aPd),aSps l] (ab B)→PC Proofs.Tryz.prog 10 [aTr ps,.sl 6 (ts.map aPd)] (ai c)→PC Proofs.Tryz.prog 5 [aTr ps,.sl 6 (ts.map aPd),aSps l] (ab true):=fun c B hc g1 g2 g3 g4 g5=>by
  rw[hR] at *
  clear hR
  have hBB:decide (B=B)=true:=decide_eq_true rfl
  generalize l.map aSp=SL at *
  generalize ts.map aPd=TL at *
  generalize szW ps=z at *
  refine PC.enter 105 [.tmp 6] [3] Proofs.Tryz.func5 rfl rfl rfl rfl rfl (by simp) (AWp.of ?_);simp only[go_sem]
  refine Wk ?_
  refine Sd ?_
  refine(haw).val.use ?_;simp only[go_sem]
  refine Wk ?_
  refine Sd ?_
  refine(hsz).val.use ?_;simp only[go_sem,hS]
  refine Sd ?_
  refine GCall.use (ab true) (fun _=>⟨At,(hfw).val.use ⟨rfl,rfl⟩⟩) ?_;simp only[go_sem,hlm,h20]
  refine Sd ?_
  refine W3 hS hlm h20 ?_
  refine Sd ?_
  refine(g1).val.use ?_;simp only[go_sem]
  refine Wk ?_
  refine Sd ?_
  refine(g2).val.use ?_;simp only[go_sem]
  refine Wk ?_
  repeat(first|(with_reducible refine AWp.seq ?_)|(with_reducible refine AWp.block ?_))
  refine AWp.read mixed [0,1,2,3,4,5,6,7,8] (by kernel_rfl) ?_;simp only[go_sem]
  refine Sd ?_
  refine Gc g3 ?_
  refine Sd ?_
  refine Gc g4 ?_
  refine Sd ?_
  refine Wk ?_
  refine Sd ?_
  refine(g5).val.use ?_;simp only[go_sem]
  refine W1 hc ?_
  refine ret_eq ?_;simp only[go_sem]
  all_goals rfl
 cases hv:validF ps with
 | false =>
  have hva:=hvd.val
  have hrv:=hvd.rval
  rw[hv] at hva hrv
  exact finE 1 false (by decide) (control_False_bad hva ts) (control_Refuse_bad hva ts) (control_Refused_bad hva ts l) (ref44_Refused_bad hrv ts htl l) (ref37_Fault_bad hrv ts htl)
 | true =>
 have hs:=hvd.sm hv
 have hz:∀t ∈ ts,szF t≤1000000:=fun t ht=>Nat.le_trans (f2 t ht) (by decide)
 have htl2:ts.length≤1000000:=by omega
 have hll:l.length≤9223372036854775806:=by omega
 have g1:=control_False ps hs ts hz htl2
 have g2:=control_Refuse ps hs ts hz htl2
 have g3:=control_Refused ps hs ts hz htl2 l hll
 have g4:=ref44_Refused ps hs ts hz htl2 l hll
 have g5:=ref37_Fault ps hs ts hz htl2
 by_cases hC:conF ps ts=0
 ·rw[if_pos hC] at g1
  rw[hC] at g5
  have g6:=ref44_False ps hs ts hz htl2 hC
  have g8:=ref44_Refuse ps hs ts hz htl2 hC
  have hps:=hs.procs
  have hRl:=rowsX_len ps hs hv ts
  have g7:=law44_same ((List.range ps.length).map fun p=>(rowsX ps ts p).map stpI) (by simpa using hps) (fun a ha=>by
   obtain⟨p,hp,rfl⟩:=List.mem_map.1 ha
   rw[List.length_map]
   exact hRl p (List.mem_range.1 hp))
  have hTT:((List.range ps.length).map fun p=>(rowsX ps ts p).map stpI).map aSps=(List.range ps.length).map fun p=>AV.sl 3 ((rowsX ps ts p).map aStp):=by
   rw[List.map_map]
   refine List.map_congr_left fun p _ => ?_
   show AV.sl 3 (((rowsX ps ts p).map stpI).map aSp)=_
   rw[List.map_map];rfl
  rw[hTT] at g7
  have hX:aRowsX ps ts = .sl 1 ((List.range ps.length).map fun p => .sl 3 ((rowsX ps ts p).map aStp)):=rfl
  rw[hX] at g1 g6
  clear finE hTT hX hRl
  have hro:=rowsX_ok ps ts
  generalize (List.range ps.length).map (fun p=>AV.sl 3 ((rowsX ps ts p).map aStp))=TT at *
  generalize refX ps ts l=B at *
  by_cases hT:∃t,TgtS ps (rowsX ps ts) t
  ·obtain⟨a,ha⟩:=least_ex hro hT
   rw[aRfs_some hC ha] at g2
   rw[aLeast_some ha] at g8
   have g9:=spans_equal ((chcL ps.length (rowsX ps ts) a).map stpI) ((chcL ps.length (rowsX ps ts) a).map stpI) (by rw[List.length_map,chcL_len];exact hps)
   rw[decide_eq_true rfl] at g9
   have hq:aSps ((chcL ps.length (rowsX ps ts) a).map stpI) = .sl 3 ((chcL ps.length (rowsX ps ts) a).map aStp):=by
    show AV.sl 3 (((chcL ps.length (rowsX ps ts) a).map stpI).map aSp)=_
    rw[List.map_map];rfl
   rw[hq] at g9
   rw[hR] at *
   clear hR hq ha hT
   generalize (chcL ps.length (rowsX ps ts) a).map aStp=XX at *
   generalize l.map aSp=SL at *
   generalize ts.map aPd=TL at *
   generalize szW ps=z at *
   refine PC.enter 105 [.tmp 6] [3] Proofs.Tryz.func5 rfl rfl rfl rfl rfl (by simp) (AWp.of ?_);simp only[go_sem]
   refine Wk ?_
   refine Sd ?_
   refine(haw).val.use ?_;simp only[go_sem]
   refine Wk ?_
   refine Sd ?_
   refine(hsz).val.use ?_;simp only[go_sem,hS]
   refine Sd ?_
   refine GCall.use (ab true) (fun _=>⟨At,(hfw).val.use ⟨rfl,rfl⟩⟩) ?_;simp only[go_sem,hlm,h20]
   refine Sd ?_
   refine W3 hS hlm h20 ?_
   refine Sd ?_
   refine(g1).val.use ?_;simp only[go_sem]
   refine Wk ?_
   refine Sd ?_
   refine(g2).val.use ?_;simp only[go_sem]
   refine Wk ?_
   repeat(first|(with_reducible refine AWp.seq ?_)|(with_reducible refine AWp.block ?_))
   refine AWp.read mixed [0,1,2,3,4,5,6,7,8] (by kernel_rfl) ?_;simp only[go_sem]
   refine Sd ?_
   refine Gc g3 ?_
   refine Sd ?_
   refine Gc g4 ?_
   refine Sd ?_
   refine Wk ?_
   refine Sd ?_
   refine(g5).val.use ?_;simp only[go_sem]
   refine Wk ?_
   refine Sd ?_
   refine(g8).val.use ?_;simp only[go_sem]
   refine Wk ?_
   refine Sd ?_
   refine Gc g6 ?_
   refine Sd ?_
   refine Gc g7 ?_
   refine Sd ?_
   refine Wk ?_
   refine Sd ?_
   refine Gc g9 ?_
   refine Sd ?_
   refine Wk ?_
   refine ret_eq ?_;simp only[go_sem]
   all_goals rfl
  ·rw[aRfs_none hC hT] at g2
   rw[aLeast_none hT] at g8
   rw[hR] at *
   clear hR hT
   generalize l.map aSp=SL at *
   generalize ts.map aPd=TL at *
   generalize szW ps=z at *
   refine PC.enter 105 [.tmp 6] [3] Proofs.Tryz.func5 rfl rfl rfl rfl rfl (by simp) (AWp.of ?_);simp only[go_sem]
   refine Wk ?_
   refine Sd ?_
   refine(haw).val.use ?_;simp only[go_sem]
   refine Wk ?_
   refine Sd ?_
   refine(hsz).val.use ?_;simp only[go_sem,hS]
   refine Sd ?_
   refine GCall.use (ab true) (fun _=>⟨At,(hfw).val.use ⟨rfl,rfl⟩⟩) ?_;simp only[go_sem,hlm,h20]
   refine Sd ?_
   refine W3 hS hlm h20 ?_
   refine Sd ?_
   refine(g1).val.use ?_;simp only[go_sem]
   refine Wk ?_
   refine Sd ?_
   refine(g2).val.use ?_;simp only[go_sem]
   refine Wk ?_
   repeat(first|(with_reducible refine AWp.seq ?_)|(with_reducible refine AWp.block ?_))
   refine AWp.read mixed [0,1,2,3,4,5,6,7,8] (by kernel_rfl) ?_;simp only[go_sem]
   refine Sd ?_
   refine Gc g3 ?_
   refine Sd ?_
   refine Gc g4 ?_
   refine Sd ?_
   refine Wk ?_
   refine Sd ?_
   refine(g5).val.use ?_;simp only[go_sem]
   refine Wk ?_
   refine Sd ?_
   refine(g8).val.use ?_;simp only[go_sem]
   refine Wk ?_
   refine Sd ?_
   refine Gc g6 ?_
   refine Sd ?_
   refine Gc g7 ?_
   refine Sd ?_
   refine Wk ?_
   refine ret_eq ?_;simp only[go_sem]
   all_goals rfl
 ·rw[if_neg hC] at g1
  have h2:aRfs ps ts = .tup [.sl 3 [],ai (conF ps ts)]:=by unfold aRfs;rw[if_neg hC]
  rw[h2] at g2
  exact finE _ _ hC g1 g2 g3 g4 g5
end Go.AL
end
section
namespace Go.AL
open Go Go.RowKit
set_option maxRecDepth 100000
section
variable {H:Type} {enc:TypeId × Value→H} {W:World}
theorem rdAsg:Rd enc Proofs.Tryz.prog W 204 2 aAsg (fun _=>True) :=
 (Rd.struct (ts:=[3,3]) Proofs.Tryz.underlying204 rfl rfl (by kernel_rfl) (by kernel_rfl)
  (.cons (Rd.int Proofs.Tryz.underlying3) (fun _=>⟨rfl,rfl⟩) (.cons (Rd.int Proofs.Tryz.underlying3) (fun _=>⟨rfl,rfl⟩) .nil))).map (fun (y:Int × Int × Unit)=>(y.1,y.2.1)) (fun _=>rfl) (fun _ _=>trivial)
theorem rdAsgs:Rd enc Proofs.Tryz.prog W 63 1 aAsgs (fun _=>True) :=
 (Rd.slice Proofs.Tryz.underlying63 (by kernel_rfl:Program.cellsOf Proofs.Tryz.prog 204=2) (by decide) rdAsg).map id (fun _=>rfl) (fun _ _=>trivial)
theorem rdVar:Rd enc Proofs.Tryz.prog W 201 2 aVar (fun _=>True) :=
 (Rd.struct (ts:=[9,3]) Proofs.Tryz.underlying201 rfl rfl (by kernel_rfl) (by kernel_rfl)
  (.cons (Rd.str Proofs.Tryz.underlying9) (fun _=>⟨rfl,rfl⟩) (.cons (Rd.int Proofs.Tryz.underlying3) (fun _=>⟨rfl,rfl⟩) .nil))).map (fun (y:ByteArray × Int × Unit)=>(y.1,y.2.1)) (fun _=>rfl) (fun _ _=>trivial)
theorem rdVars:Rd enc Proofs.Tryz.prog W 67 1 aVars (fun _=>True) :=
 (Rd.slice Proofs.Tryz.underlying67 (by kernel_rfl:Program.cellsOf Proofs.Tryz.prog 201=2) (by decide) rdVar).map id (fun _=>rfl) (fun _ _=>trivial)
theorem rdEv:Rd enc Proofs.Tryz.prog W 65 5 aEv (fun _=>True) :=
 (Rd.struct (ts:=[3,3,3,3,63]) Proofs.Tryz.underlying65 rfl rfl (by kernel_rfl) (by kernel_rfl)
  (.cons (Rd.int Proofs.Tryz.underlying3) (fun _=>⟨rfl,rfl⟩) (.cons (Rd.int Proofs.Tryz.underlying3) (fun _=>⟨rfl,rfl⟩) (.cons (Rd.int Proofs.Tryz.underlying3) (fun _=>⟨rfl,rfl⟩)
   (.cons (Rd.int Proofs.Tryz.underlying3) (fun _=>⟨rfl,rfl⟩) (.cons rdAsgs (fun _=>⟨rfl,rfl⟩) .nil)))))).map (fun (y:Int × Int × Int × Int × List (Int × Int) × Unit)=>⟨y.1,y.2.1,y.2.2.1,y.2.2.2.1,y.2.2.2.2.1⟩) (fun _=>rfl) (fun _ _=>trivial)
end
end Go.AL
end
section
namespace Go.AL
open Go Go.RowKit
set_option maxRecDepth 100000
section
variable {H:Type} {enc:TypeId × Value→H} {W:World}
theorem rdEvsM:Rd enc Proofs.Tryz.prog W 66 1 aEvs (fun l=>l.length≤maxLen) :=
 (Rd.slice Proofs.Tryz.underlying66 (by kernel_rfl:Program.cellsOf Proofs.Tryz.prog 65=5) (by decide) rdEv).map id (fun _=>rfl) (fun _ h=>h.1)
theorem rdPrM:Rd enc Proofs.Tryz.prog W 69 3 aPr (fun p=>p.evs.length≤maxLen) :=
 (Rd.struct (ts:=[9,67,66]) Proofs.Tryz.underlying69 rfl rfl (by kernel_rfl) (by kernel_rfl)
  (.cons (Rd.str Proofs.Tryz.underlying9) (fun _=>⟨rfl,rfl⟩) (.cons rdVars (fun _=>⟨rfl,rfl⟩) (.cons rdEvsM (fun _=>⟨rfl,rfl⟩) .nil)))).map (fun (y:ByteArray × List (ByteArray × Int) × List Ev × Unit)=>⟨y.1,y.2.1,y.2.2.1⟩) (fun _=>rfl) (fun _ h=>h.2.2.1)
theorem rdPrsM:Rd enc Proofs.Tryz.prog W 22 1 aPrs (fun l=>l.length≤maxLen∧∀p ∈ l,p.evs.length≤9223372036854775807) :=
 (Rd.slice Proofs.Tryz.underlying22 (by kernel_rfl:Program.cellsOf Proofs.Tryz.prog 69=3) (by decide) rdPrM).map id (fun _=>rfl) (fun _ h=>h)
theorem rdTrM:Rd enc Proofs.Tryz.prog W 24 1 aTr (fun l=>l.length≤maxLen∧∀p ∈ l,p.evs.length≤9223372036854775807) :=
 (Rd.struct (ts:=[22]) Proofs.Tryz.underlying24 rfl rfl (by kernel_rfl) (by kernel_rfl) (.cons rdPrsM (fun _=>⟨rfl,rfl⟩) .nil)).map (fun (y:List Pr × Unit)=>y.1) (fun _=>rfl) (fun _ h=>h.1)
end
end Go.AL
end
section
namespace Go.AL
open Go Go.RowKit
set_option maxRecDepth 100000
section
variable {H:Type} {enc:TypeId × Value→H} {W:World}
theorem rdPredN:∀N,RdF enc Proofs.Tryz.prog W N 71 6 aPd (fun _=>True)
 | 0 => .zero
 | N+1 =>
  (RdF.struct (ts:=[3,3,3,3,9,25]) Proofs.Tryz.underlying71 rfl rfl (by kernel_rfl) (by kernel_rfl)
   (.cons ((Rd.int Proofs.Tryz.underlying3).bounded N) (fun _=>⟨rfl,rfl⟩) (.cons ((Rd.int Proofs.Tryz.underlying3).bounded N) (fun _=>⟨rfl,rfl⟩) (.cons ((Rd.int Proofs.Tryz.underlying3).bounded N) (fun _=>⟨rfl,rfl⟩)
    (.cons ((Rd.int Proofs.Tryz.underlying3).bounded N) (fun _=>⟨rfl,rfl⟩) (.cons ((Rd.str Proofs.Tryz.underlying9).bounded N) (fun _=>⟨rfl,rfl⟩)
     (.cons ((RdF.slice Proofs.Tryz.underlying25 (by kernel_rfl:Program.cellsOf Proofs.Tryz.prog 71=6) (by decide) (rdPredN N)).mono (Nat.le_succ N)) (fun _=>⟨rfl,rfl⟩) .nil))))))).map
   (fun (y:Int × Int × Int × Int × ByteArray × List Pd × Unit)=>Pd.mk y.1 y.2.1 y.2.2.1 y.2.2.2.1 y.2.2.2.2.1 y.2.2.2.2.2.1) (fun _=>(aPd_mk _ _ _ _ _ _).symm) (fun _ _=>trivial)
theorem rdPreds:Rd enc Proofs.Tryz.prog W 25 1 (fun l:List Pd => .sl 6 (l.map aPd)) (fun l=>l.length≤maxLen) :=
 (Rd.slice Proofs.Tryz.underlying25 (by kernel_rfl:Program.cellsOf Proofs.Tryz.prog 71=6) (by decide) (RdF.all rdPredN)).map id (fun _=>rfl) (fun _ h=>h.1)
end
end Go.AL
end
section
namespace Go.AL
open Go Go.RowKit
set_option maxRecDepth 100000
section
variable {H:Type} {enc:TypeId × Value→H} {W:World}
theorem rdSpan:Rd enc Proofs.Tryz.prog W 62 3 aSp (fun _=>True) :=
 (Rd.struct (ts:=[3,3,3]) Proofs.Tryz.underlying62 rfl rfl (by kernel_rfl) (by kernel_rfl)
  (.cons (Rd.int Proofs.Tryz.underlying3) (fun _=>⟨rfl,rfl⟩) (.cons (Rd.int Proofs.Tryz.underlying3) (fun _=>⟨rfl,rfl⟩) (.cons (Rd.int Proofs.Tryz.underlying3) (fun _=>⟨rfl,rfl⟩) .nil)))).map (fun (y:Int × Int × Int × Unit)=>(y.1,y.2.1,y.2.2.1)) (fun _=>rfl) (fun _ _=>trivial)
theorem rdSpans:Rd enc Proofs.Tryz.prog W 37 1 aSps (fun _=>True) :=
 (Rd.slice Proofs.Tryz.underlying37 (by kernel_rfl:Program.cellsOf Proofs.Tryz.prog 62=3) (by decide) rdSpan).map id (fun _=>rfl) (fun _ _=>trivial)
end
end Go.AL
end
