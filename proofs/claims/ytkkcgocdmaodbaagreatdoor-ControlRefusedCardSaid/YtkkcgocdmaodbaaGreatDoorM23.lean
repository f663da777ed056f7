/- Texts of this claim's proof: WY14, WY15. No condition. -/
import Derived.Test.YtkkcgocdmaodbaaGreatDoorM22
section
namespace Go.AL
open Go Go.RowKit
set_option maxRecDepth 4000
theorem evtG_app:∀ {R S:List (List Int)} {c d:List Int},(c :: R).getLast?=some d→evtG c (R ++ S)=evtG c R ++ evtG d S
 | [],S,c,d,h=>by
  have:c=d:=by simpa using h
  subst this;rfl
 | a :: R,S,c,d,h=>by
  have h':(a :: R).getLast?=some d:=by rw[List.getLast?_cons_cons] at h;exact h
  show (stepF c a,cAt a (stepF c a)) :: evtG a (R ++ S)=((stepF c a,cAt a (stepF c a)) :: evtG a R) ++ evtG d S
  rw[evtG_app h'];rfl
theorem evtG_one {ps:List Pr} {d:List Int} (hd:isF ps d=true) {p:Nat} (hp:p<ps.length):evtG d [stpC d p]=[((p:Int),cAt d p+1)]:=by
 have hl:=(isF_iff.1 hd).1
 have:stepF d (stpC d p)=p:=stepF_iff.2 ⟨by omega,rfl⟩
 show [(stepF d (stpC d p),cAt (stpC d p) (stepF d (stpC d p)))]=_
 rw[this,stpC_at hd hp,if_pos rfl]
theorem chn_one {ps:List Pr} {d:List Int} (hd:isF ps d=true) {p:Nat} (hp:p<ps.length) (hr:rdyF ps d p=true):chnF ps d [stpC d p]=true :=
 (chn_cons hd).2 ⟨p,hp,hr,rfl,stepF_iff.2 ⟨by rw[(isF_iff.1 hd).1];exact hp,rfl⟩,rfl⟩
def AdvL (n bc bx:Nat) (d:List Int) (E:List Eid) (L:AHeap):Prop :=
 ∃v Le,L=(bc,.row 3 1 (d.map ai) n) :: (bx,.row 92 1 [v] 1) :: Le∧AppSt 72 2 (E.map aEid) v Le∧bc ≠ bx∧∀y ∈ Le,y.1 ≠ bc∧y.1 ≠ bx
set_option maxHeartbeats 1000000 in
theorem order_advance {ps:List Pr} (hs:Sm ps) (hv:validF ps=true) (w:Bool) (bc bx:Nat) {c to:List Int} (hc:isF ps c=true) (ht:isF ps to=true) (hle:leqF c to=true) (E:List Eid) (hE:E.length+(to.sum - c.sum).toNat≤1000) {L:AHeap} (hL:AdvL ps.length bc bx c E L) :
  MCalls Proofs.Tryz.prog 65 [.sl 1 (to.map ai),.rp 1 [.ls bc 1 0 ps.length ps.length] 0 0,.rp 1 [aOrd ps (exF ps []) w] 0 0,.lp bx 1 0 0] L fun r L=>r = .tup []∧∃R,chnF ps c R=true∧(c :: R).getLast?=some to∧AdvL ps.length bc bx to (E ++ evtG c R) L:=by
 obtain⟨hcl,hcr,_⟩:=isF_iff.1 hc
 obtain⟨htl,htr,_⟩:=isF_iff.1 ht
 have hps:=hs.procs
 have hsum:=(leq_sum hle).1
 have hen:=fun d hd p hp hn=>order_enabled hv hs w (c:=d) hd (p:=p) hp hn
 obtain⟨X,hX⟩:∃X,aOrd ps (exF ps []) w = .rp 3 X 0 0:=⟨_,rfl⟩
 have hOf:fo (.rp 3 X 0 0)=(True,.rp 3 X 0 0):=rfl
 rw[hX] at hen ⊢
 have htg:∀q (hq:q<ps.length),(to.map ai).getD q .any=ai (cAt to q):=fun q hq=>by rw[getD_map (by omega),← cAt_nat]
 have html:(to.map ai).length=ps.length:=by rw[List.length_map,htl]
 generalize to.map ai=TT at *
 refine MCalls.enter' 44 [] [41] Proofs.Tryz.func65 rfl rfl rfl rfl rfl (by simp) (AWp.of ?_);simp only[go_sem]
 refine AWp.block (AWp.loopN [5] [0,1,2,3] (fun m vs L=>∃(g:Bool) (d:List Int) (R:List (List Int)),vs=[ab g]∧isF ps d=true∧leqF d to=true∧chnF ps c R=true∧(c :: R).getLast?=some d∧AdvL ps.length bc bx d (E ++ evtG c R) L ∧
  (g=false→d=to)∧m=2 * (to.sum - d.sum).toNat+(if g=true then 1 else 0)) (2 * (to.sum - c.sum).toNat+1) ⟨true,c,[],rfl,hc,hle,rfl,rfl,by rw[show evtG c []=[] from rfl,List.append_nil];exact hL,fun h=>(by cases h),by simp⟩ ?_)
 rintro m vs L - ⟨g0,d0,R0,rfl,hd0,hdl0,hch0,hla0,hL0,hto0,hm⟩
 simp only[go_sem]
 refine W1 hOf ?_
 refine⟨fun h1 => ?_,fun h1 => ?_⟩
 ·obtain⟨v0,Le0,rfl,hA0,hne,hnl0⟩:=id hL0
  refine W1 hOf ?_
  refine AWp.range' ps.length [5] [0,1,2,3,9] (fun p vs L=>∃(g:Bool) (d:List Int) (R:List (List Int)),vs=[ab g]∧isF ps d=true∧leqF d to=true∧chnF ps c R=true∧(c :: R).getLast?=some d∧AdvL ps.length bc bx d (E ++ evtG c R) L ∧
   (g=false→d=d0∧∀q:Nat,q<p→¬(cAt d q<cAt to q∧rdyF ps d q=true))∧(g=true→d0.sum<d.sum)) (by omega) rfl rfl rfl ⟨false,d0,R0,rfl,hd0,hdl0,hch0,hla0,hL0,fun _=>⟨rfl,fun q h=>by omega⟩,fun h=>by cases h⟩ ?_ ?_
  ·rintro p vs L hp - ⟨g1,d1,R1,rfl,hd1,hdl1,hch1,hla1,hL1,hf1,ht1⟩
   simp only[go_sem]
   refine W1 hOf ?_
   refine AWp.block (AWp.loopN [5] [0,1,2,3,6,9,10] (fun m vs L=>∃(g:Bool) (d:List Int) (R:List (List Int)),vs=[ab g]∧isF ps d=true∧leqF d to=true∧chnF ps c R=true∧(c :: R).getLast?=some d∧AdvL ps.length bc bx d (E ++ evtG c R) L ∧
    (g=false→d=d0∧∀q:Nat,q<p→¬(cAt d q<cAt to q∧rdyF ps d q=true))∧(g=true→d0.sum<d.sum)∧m=(to.sum - d.sum).toNat) (to.sum - d1.sum).toNat ?_ ?_)
   ·exact⟨g1,d1,R1,rfl,hd1,hdl1,hch1,hla1,hL1,hf1,ht1,rfl⟩
   rintro m' vs L - ⟨g,d,R,rfl,hd,hdl,hch,hla,hL2,hf,ht3,rfl⟩
   obtain⟨v,Le,rfl,hA,-,hnl⟩:=id hL2
   obtain⟨hdll,hdr,_⟩:=isF_iff.1 hd
   have hpr:=(inRange_iff hdll).1 hdr p hp
   have htr2:=(inRange_iff htl).1 htr p hp
   have hnv:=nev_get hp
   have hnb:=hs.evs _ (List.getElem_mem hp)
   have gd:(d.map ai).getD p .any=ai (cAt d p):=by rw[getD_map (by omega),← cAt_nat]
   have hdm:(d.map ai).length=ps.length:=by rw[List.length_map,hdll]
   have gt:=htg p hp
   have n1:¬bc=bx:=hne
   have n2:¬bx=bc:=fun e=>hne e.symm
   have hex:¬(cAt d p<cAt to p∧rdyF ps d p=true)→g=false→d=d0∧∀q:Nat,q<p+1→¬(cAt d q<cAt to q∧rdyF ps d q=true):=fun h hg=>by
    obtain⟨e1,e2⟩:=hf hg
    refine⟨e1,fun q hq => ?_⟩
    by_cases e:q=p
    ·subst e;exact h
    ·exact e2 q (by omega)
   have hdsum:=(leq_sum hdl).1
   have hcd:=chn_last hc hch hla
   have hlE:(E ++ evtG c R).length≤1000:=by rw[List.length_append,evtG_len];omega
   simp only[go_sem]
   by_cases hlt:cAt d p<cAt to p
   ·have he:=hen d hd p hp (by omega)
    have hvw:Vws ((bc,.row 3 1 (d.map ai) ps.length) :: (bx,.row 92 1 [v] 1) :: Le) [.rp 3 X 0 0,.ls bc 1 0 ps.length ps.length,ai p] [.rp 3 X 0 0,.sl 1 (d.map ai),ai p]:=Vws.cons (.refl _) (Vws.cons (Vw.ofLs (if_pos rfl) hdm.symm) (Vws.refl _))
    have hsd:=evtG_one hd hp
    have hco:=chn_one hd hp (p:=p)
    refine AWp.seq ?_
    repeat(first|(with_reducible refine AWp.seq ?_)|(with_reducible refine AWp.block ?_))
    refine AWp.read mixed [0,1,2,3,4,5,6,7,8,9,10,11,12,13,14] (by kernel_rfl) ?_;simp only[go_sem,gd,gt,hdm,html,n1,hlt]
    refine Sd ?_
    refine GCall.use (ab (rdyF ps d p)) (fun _=>⟨At,(PC.view hvw he (Own.v _) ⟨rfl,rfl⟩).val⟩) ?_
    simp only[go_sem]
    refine Sd ?_
    generalize hre:rdyF ps d p=re at *
    refine W1 hOf ?_
    refine⟨fun h3 => ?_,fun h3 => ?_⟩
    ·have hset:(d.map ai).set p (ai (cAt d p+1))=(stpC d p).map ai:=by unfold stpC;rw[List.map_set]
     have hrd:=hco h3
     have hd':isF ps (stpC d p)=true:=rdy_is (p:=p) (by rw[hre];exact h3)
     have hdl':leqF (stpC d p) to=true:=(leq_at (isF_iff.1 hd').1 htl).2 fun q hq=>by
      rw[stpC_at hd hq]
      have:=(leq_at hdll htl).1 hdl q hq
      split
      ·rename_i e;subst e;omega
      ·exact this
     have hsp:(stpC d p).sum=d.sum+1:=sum_stpC (by omega)
     have hch':=chn_app hla hch hrd
     have hla':(c :: (R ++ [stpC d p])).getLast?=some (stpC d p):=by rw[← List.cons_append,List.getLast?_append];rfl
     have hev:E ++ evtG c (R ++ [stpC d p])=(E ++ evtG c R) ++ [((p:Int),cAt d p+1)]:=by rw[evtG_app hla,hsd,List.append_assoc]
     have hfin:d0.sum<(stpC d p).sum:=by
      cases hg:g with
      | true=>have:=ht3 hg;omega
      | false=>have:=(hf hg).1;subst this;omega
     have gd2:((stpC d p).map ai).getD p .any=ai (cAt d p+1):=by rw[getD_map (by unfold stpC;rw[List.length_set];omega),← cAt_nat,stpC_at hd hp,if_pos rfl]
     have hdm2:((stpC d p).map ai).length=ps.length:=by rw[List.length_map];exact(isF_iff.1 hd').1
     have hmeas:(to.sum - (stpC d p).sum).toNat<(to.sum - d.sum).toNat:=by
      have:=(leq_sum hdl').1
      omega
     refine W5 gd hdm n1 n2 hOf ?_
     rw[hset]
     generalize stpC d p=d2 at *
     generalize cAt d p=z at *
     have hyl:((E ++ evtG c R).map aEid).length≤1000:=by rw[List.length_map];exact hlE
     have hmapE:(E ++ evtG c (R ++ [d2])).map aEid=(E ++ evtG c R).map aEid ++ [.agg [ai p,ai (z+1)]]:=by rw[hev,List.map_append];rfl
     generalize hys:(E ++ evtG c R).map aEid=ys at *
     refine AWp.cut [0,1,2,3,5,6,9,10] (fun vs L=>∃v' Le',L=Le' ++ [(bc,.row 3 1 (d2.map ai) ps.length),(bx,.row 92 1 [v'] 1)]∧AppSt 72 2 (ys ++ [.agg [ai p,ai (z+1)]]) v' Le'∧(∀y ∈ Le',y.1 ≠ bc∧y.1 ≠ bx) ∧
      vs=[.sl 1 TT,.rp 1 [.ls bc 1 0 ps.length ps.length] 0 0,.rp 1 [.rp 3 X 0 0] 0 0,.lp bx 1 0 0,ab g,ai p,ai ps.length,ai p]) ?_ ?_
     ·rcases hA.inv with ⟨e1,rfl,rfl⟩|⟨be,cap,rfl,rfl⟩
      ·repeat(first|(with_reducible refine AWp.seq ?_)|(with_reducible refine AWp.block ?_))
       refine AWp.mix mixed [1,2,3,4] (.step 0 (.step 5 (.step 6 (.step 7 (.step 8 (.step 9 .done .done) .done) .done) .done) .done) (.step 5 (.step 0 (.step 6 (.step 7 (.step 8 (.step 9 .done .done) .done) .done) .done) (.step 6 (.step 0 (.step 7 (.step 8 (.step 9 .done .done) .done) .done) (.step 7 (.step 0 (.step 8 (.step 9 .done .done) .done) .done) .done)) .done)) .done)) (by kernel_rfl) ?_;simp only[go_sem,gd2,hdm2,n1,n2]
       refine Sd ?_
       repeat' (first|(with_reducible refine And.intro ?_ ?_)|intro _)
       all_goals first|omega|skip
       all_goals rename_i b' cap' g1 g2 g3
       all_goals have nb1:¬bx=b':=by omega
       all_goals have nb2:¬bc=b':=by omega
       all_goals simp only[go_sem,nb1]
       all_goals refine Sd ?_
       all_goals exact⟨_,List.Sublist.refl _,.ls b' 2 0 1 cap',[(b',.row 72 2 [.agg [ai p,ai (z+1)]] cap')],rfl,by rw[e1];exact .row _ [_] _,by intro y hy;obtain rfl:=List.mem_singleton.1 hy;exact⟨fun e=>nb2 e.symm,fun e=>nb1 e.symm⟩⟩
      ·obtain⟨n3,n4⟩:=hnl (be,_) (List.mem_singleton_self _)
       simp only at n3 n4
       have n5:¬be=bc:=n3
       have n6:¬be=bx:=n4
       have n7:¬bc=be:=fun e=>n3 e.symm
       have n8:¬bx=be:=fun e=>n4 e.symm
       repeat(first|(with_reducible refine AWp.seq ?_)|(with_reducible refine AWp.block ?_))
       refine AWp.mix mixed [1,2,3,4] (.step 0 (.step 5 (.step 6 (.step 7 (.step 8 (.step 9 .done .done) .done) .done) .done) .done) (.step 5 (.step 0 (.step 6 (.step 7 (.step 8 (.step 9 .done .done) .done) .done) .done) (.step 6 (.step 0 (.step 7 (.step 8 (.step 9 .done .done) .done) .done) (.step 7 (.step 0 (.step 8 (.step 9 .done .done) .done) .done) .done)) .done)) .done)) (by kernel_rfl) ?_;simp only[go_sem,gd2,hdm2,n1,n2,n5,n6,n7,n8]
       refine Sd ?_
       repeat' (first|(with_reducible refine And.intro ?_ ?_)|intro _)
       all_goals first|omega|skip
       all_goals rename_i b' cap' g1 g2 g3
       all_goals have nb1:¬bx=b':=by omega
       all_goals have nb2:¬bc=b':=by omega
       all_goals simp only[go_sem,nb1]
       all_goals refine Sd ?_
       all_goals exact⟨_,List.Sublist.refl _,.ls b' 2 0 (ys.length+1) cap',[(b',.row 72 2 (ys ++ [.agg [ai p,ai (z+1)]]) cap')],rfl,AppSt.snoc _ _ _ rfl,by intro y hy;obtain rfl:=List.mem_singleton.1 hy;exact⟨fun e=>nb2 e.symm,fun e=>nb1 e.symm⟩⟩
     ·rintro vs L - ⟨v',Le',rfl,hA',hnl',rfl⟩
      refine AWp.perm (List.perm_append_comm (l₂:=[_,_])) ?_
      simp only[go_sem,List.cons_append,List.nil_append]
      refine W1 hOf ?_
      refine⟨_,List.Sublist.refl _,_,hmeas,true,d2,R ++ [d2],rfl,hd',hdl',hch',hla',⟨v',Le',rfl,by rw[hmapE];exact hA',hne,hnl'⟩,fun h=>(by cases h),fun _=>hfin,rfl⟩
    ·exact⟨_,List.Sublist.refl _,g,d,R,rfl,hd,hdl,hch,hla,hL2,hex (fun h=>by rw[h3] at h;cases h.2),ht3⟩
   ·refine AWp.seq ?_
    repeat(first|(with_reducible refine AWp.seq ?_)|(with_reducible refine AWp.block ?_))
    refine AWp.read mixed [0,1,2,3,4,5,6,7,8,9,10,11,12,13,14] (by kernel_rfl) ?_;simp only[go_sem,gd,gt,hdm,html,n1,hlt]
    refine Sd ?_
    refine GCall.use (ab false) (fun h=>absurd h (by simp)) ?_
    simp only[go_sem]
    refine Sd ?_
    refine W1 hOf ?_
    exact⟨_,List.Sublist.refl _,g,d,R,rfl,hd,hdl,hch,hla,hL2,hex (fun h=>hlt h.1),ht3⟩
  ·rintro vs L - ⟨g,d,R,rfl,hd,hdl,hch,hla,hL2,hf,ht3⟩
   simp only[go_sem]
   refine⟨_,List.Sublist.refl _,_,?_,g,d,R,rfl,hd,hdl,hch,hla,hL2,fun hg => ?_,rfl⟩
   ·have:=(leq_sum hdl).1
    have:=(leq_sum hdl0).1
    cases g with
    | true=>have:=ht3 rfl;rw[hm,h1];simp only[if_true];omega
    | false =>
     obtain⟨rfl,_⟩:=hf rfl
     rw[hm,h1];simp
   ·obtain⟨rfl,hno⟩:=hf hg
    by_cases e:d.sum=to.sum
    ·exact(leq_sum hdl).2 e
    ·exfalso
     have:=(leq_sum hdl).1
     obtain⟨p,h2,h3,h4,h5⟩:=first_to hv hd ht hdl (by omega)
     have h6:=firstP_some h2
     refine hno p h3 ⟨?_,h6.2.1⟩
     have h7:=(leq_at (isF_iff.1 h4).1 htl).1 h5 p h3
     rw[stpC_at hd h3,if_pos rfl] at h7
     omega
 ·obtain rfl:=hto0 h1
  refine W1 hOf ?_
  refine ret_own ?_
  simp only[go_sem]
  exact⟨R0,hch0,hla0,hL0⟩
theorem chn_all {ps:List Pr} : ∀ {R:List (List Int)} {c:List Int},chnF ps c R=true→∀d ∈ R,isF ps d=true
 | [],_,_,d,hd=>nomatch hd
 | a :: R,c,h,d,hd=>by
  have e:chnF ps c (a :: R)=((isF ps a && decide (0≤stepF c a)) && chnF ps a R):=rfl
  rw[e,Bool.and_eq_true,Bool.and_eq_true] at h
  rcases List.mem_cons.1 hd with rfl|hd
  ·exact h.1.1
  ·exact chn_all h.2 d hd
theorem chn_between {ps:List Pr} {R:List (List Int)} {c to:List Int} (hc:isF ps c=true) (h:chnF ps c R=true) (hl:(c :: R).getLast?=some to):∀d ∈ R,isF ps d=true∧leqF c d=true∧leqF d to=true:=fun d hd=>by
 have htl:=(chn_last hc h hl).1
 obtain⟨i,hi,rfl⟩:=List.getElem_of_mem hd
 have hlast:(c :: R)[R.length]'(by simp)=to:=by
  rw[List.getLast?_eq_getElem?,List.length_cons,Nat.add_sub_cancel,List.getElem?_eq_getElem (by simp)] at hl
  exact Option.some.inj hl
 have hcl:=(isF_iff.1 hc).1
 have e1:(c :: R)[i+1]'(by simp;exact hi)=R[i]:=rfl
 have hi1:isF ps R[i]=true:=by
  have:=chn_all h
  exact this _ hd
 have hdl:=(isF_iff.1 hi1).1
 refine⟨hi1,(leq_at hcl hdl).2 fun q hq => ?_,(leq_at hdl (isF_iff.1 htl).1).2 fun q hq => ?_⟩
 ·have:=chn_mono hc h (i:=0) (by simp) (i+1) (by rw[List.length_cons];omega) q hq
  have e:(c :: R)[0+(i+1)]'(by rw[List.length_cons];omega)=R[i]:=by simp
  rw[e] at this
  exact this
 ·have:=chn_mono hc h (i:=i+1) (by simp;exact hi) (R.length - (i+1)) (by rw[List.length_cons];omega) q hq
  have e:(c :: R)[i+1+(R.length - (i+1))]'(by rw[List.length_cons];omega)=to:=by
   rw[← hlast];congr 1;omega
  rw[e] at this
  exact this
set_option maxHeartbeats 2000000 in
theorem order_dodge (ps:List Pr) (hs:Sm ps) (hv:validF ps=true) (w:Bool) {b:Nat→Nat→Bool} {rows:Nat→List Stp} (hR:RowsOk ps b rows) (hlen:∀p,p<ps.length→(rows p).length≤1000000) (hT:¬ ∃t,TgtS ps rows t) :
  MCalls Proofs.Tryz.prog 35 [aOrd ps (exF ps []) w,aStss ((List.range ps.length).map rows)] [] fun r L=>L=[]∧∃R,DodgeR ps b (zeroC ps :: R)∧r = .sl 2 ((evtG (zeroC ps) R).map aEid):=by
 obtain⟨hl1,hl8⟩:=valid_len hv
 have hps:=hs.procs
 have hoff:=valid_off hv
 refine MCalls.toS (K:=fun r L=>∃R,DodgeR ps b (zeroC ps :: R)∧AppSt 72 2 ((evtG (zeroC ps) R).map aEid) r L) ?_ (fun r L ⟨R,h1,h2⟩=>⟨_,by have:=h2.vw [];rwa [List.append_nil] at this,R,h1,rfl⟩)
 have hcr:=fun c hc x hx=>order_cross hv hs w hR hlen (c:=c) hc (x:=x) hx
 have hadv:=fun bc bx c to hc ht hle E hE L hL=>order_advance hs hv w bc bx (c:=c) (to:=to) hc ht hle E hE (L:=L) hL
 have hord:=fun p hp i hi=>ord_at hv (p:=p) hp (i:=i) hi
 obtain⟨T,hT0⟩:∃T,T=(List.range ps.length).map fun p=>AV.sl 1 ((exF ps [] p).map aInts):=⟨_,rfl⟩
 have hTl:T.length=ps.length:=by rw[hT0];simp
 have hX:aOrd ps (exF ps []) w = .rp 3 [.agg [.sl 3 (ps.map aPr),.sl 1 T,ab w]] 0 0:=by rw[hT0];rfl
 simp only[← hT0] at hord
 simp only[hX] at hcr hadv
 rw[hX]
 clear hX hT0
 have hrl:((List.range ps.length).map rows).length=ps.length:=by simp
 have hcl:=sts_cloneO ((List.range ps.length).map rows) (by omega)
 rw[rowsD_zero] at hcl
 have hss:aStss ((List.range ps.length).map rows) = .sl 1 (rowsD ps.length rows fun _=>0):=by rw[← rowsD_zero];rfl
 rw[hss] at hcl ⊢
 have hz:(List.replicate ps.length (ai 0))=(zeroC ps).map ai:=by unfold zeroC;rw[List.map_replicate]
 have hl0:=rowsD_len ps.length rows fun _=>0
 refine MCalls.enter' 143 [.tmp 4] [2,5,17] Proofs.Tryz.func35 rfl rfl rfl rfl rfl (by simp) (AWp.of ?_);simp only[go_sem]
 refine W1 hl0 ?_
 intro bc bj hbj
 refine W1 hl0 ?_
 intro bx hx1
 have n1:¬bc=bx:=by omega
 have n2:¬bx=bc:=by omega
 refine W1 hl0 ?_
 refine(MVal.frame (Lm:=[]) (Lr:=[(bx,.row 92 1 [anil] 1),(bc,.row 3 1 (List.replicate ps.length (ai 0)) ps.length)]) hcl.val).mono ?_
 rintro r L ⟨L1,rfl,hA⟩
 rcases hA.inv with ⟨e1,_,_⟩|⟨bl,cap,rfl,rfl⟩
 ·have:=congrArg List.length e1
  rw[rowsD_len,List.length_nil] at this
  omega
 rw[rowsD_len,hz]
 clear hcl hss
 simp only[go_sem,List.cons_append,List.nil_append]
 refine AWp.perm (L':=(bl,.row 49 1 (rowsD ps.length rows fun _=>0) cap) :: (bc,.row 3 1 ((zeroC ps).map ai) ps.length) :: (bx,.row 92 1 [anil] 1) :: []) ((List.Perm.swap _ _ _).cons _) ?_
 have hza:=zero_avoid hR hT
 have hA0:AdvL ps.length bc bx (zeroC ps) (evtG (zeroC ps) []) [(bc,.row 3 1 ((zeroC ps).map ai) ps.length),(bx,.row 92 1 [anil] 1)]:=⟨anil,[],rfl,.nil,n1,fun y hy=>by cases hy⟩
 have hz0:(zeroC ps).sum=0:=by unfold zeroC;simp
 have hel:=fun p (hp:p<ps.length) i (hi:i<(rows p).length)=>(hR p hp).el _ (List.getElem_mem hi)
 have hnb:=fun p (hp:p<ps.length)=>show nev ps p≤1000000 by rw[nev_get hp];exact hs.evs _ (List.getElem_mem hp)
 have hfi:=fullC_is hv
 refine AWp.cut [2,5,6,7] (fun vs L=>∃(R:List (List Int)) (d:List Int),DgO ps b (zeroC ps :: R) d∧AdvL ps.length bc bx d (evtG (zeroC ps) R) L∧(∃p,p<ps.length∧∀s ∈ rows p,(s.2.2:Int)<cAt d p) ∧
  vs=[.rp 1 [.rp 3 [.agg [.sl 3 (ps.map aPr),.sl 1 T,ab w]] 0 0] 0 0,.rp 1 [.ls bc 1 0 ps.length ps.length] 0 0,.lp bx 1 0 0,.clo 65 [.rp 1 [.ls bc 1 0 ps.length ps.length] 0 0,.rp 1 [.rp 3 [.agg [.sl 3 (ps.map aPr),.sl 1 T,ab w]] 0 0] 0 0,.lp bx 1 0 0]]) ?_ ?_
 ·refine Sd ?_
  refine AWp.of ?_;simp only[go_sem]
  refine AWp.block (AWp.count 24 1000 [] [1,2,5,6,7] (fun k vs L=>vs=[]∧∃(R:List (List Int)) (d:List Int) (x:Nat→Nat) (L1:AHeap),L=(bl,.row 49 1 (rowsD ps.length rows x) cap) :: L1∧DgO ps b (zeroC ps :: R) d∧DgI ps rows d∧AdvL ps.length bc bx d (evtG (zeroC ps) R) L1∧(k:Int)≤d.sum ∧
   (∀p,p<ps.length→x p≤(rows p).length)∧∀p,p<ps.length→∀j,j<x p→((fSp rows p j).2.2:Int)<cAt d p) rfl rfl ⟨rfl,[],zeroC ps,fun _=>0,_,rfl,.start hza,dg_zero,hA0,by rw[hz0];exact Int.le_refl _,fun _ _=>Nat.zero_le _,fun _ _ j h=>absurd h (Nat.not_lt_zero _)⟩ ?_)
  rintro k vs L hk - ⟨rfl,R,d,x0,L1,rfl,hO,hI,hL1,hks,hxl0,hxb0⟩
  obtain⟨hdl,hdr,_⟩:=isF_iff.1 hI.is
  have hds:=sum_le_off hI.is
  simp only[go_sem]
  refine Wk ?_
  refine⟨fun h1 => ?_,fun h1 => ?_⟩
  ·obtain⟨v,Le,rfl,hA,hne,hnl⟩:=id hL1
   refine AWp.nodup fun hnd => ?_
   obtain⟨⟨m1,m2⟩,⟨m3,m4⟩,⟨m5,m6⟩,m7⟩:=nd3 hnd
   have hdm:(d.map ai).length=ps.length:=by rw[List.length_map,hdl]
   have hdg:∀q (hq:q<ps.length),(d.map ai).getD q .any=ai (cAt d q):=fun q hq=>by rw[getD_map (by omega),← cAt_nat]
   refine Wk ?_
   refine AWp.range' ps.length [8] [1,2,5,6,7,24,27] (fun p vs L=>∃(x:Nat→Nat) (ov:Bool),vs=[ab ov]∧L=(bl,.row 49 1 (rowsD ps.length rows x) cap) :: (bc,.row 3 1 (d.map ai) ps.length) :: (bx,.row 92 1 [v] 1) :: Le ∧
    (∀p,p<ps.length→x p≤(rows p).length)∧(∀p,p<ps.length→∀j,j<x p→((fSp rows p j).2.2:Int)<cAt d p)∧(ov=true→∃q,q<p∧x q=(rows q).length)∧(ov=false→∀q,q<p→x q<(rows q).length∧cAt d q≤((fSp rows q (x q)).2.2:Int))∧∀q,p≤q→x q=x0 q) (by omega) rfl rfl rfl
    ⟨x0,false,rfl,rfl,hxl0,hxb0,fun h=>(by cases h),fun _ q h=>absurd h (Nat.not_lt_zero _),fun _ _=>rfl⟩ ?_ ?_
   ·rintro p vs L hp - ⟨x1,ov,rfl,rfl,hxl1,hxb1,hov1,hno1,hsm1⟩
    simp only[go_sem]
    refine AWp.block ?_
    refine Sd ?_
    refine AWp.of ?_;simp only[go_sem]
    refine AWp.cut [1,2,5,6,7,8,9,24,27,28] (fun vs L=>∃x:Nat→Nat,L=(bl,.row 49 1 (rowsD ps.length rows x) cap) :: (bc,.row 3 1 (d.map ai) ps.length) :: (bx,.row 92 1 [v] 1) :: Le∧(∀q,q ≠ p→x q=x1 q)∧x p≤(rows p).length∧(∀j,j<x p→((fSp rows p j).2.2:Int)<cAt d p)∧(x p<(rows p).length→cAt d p≤((fSp rows p (x p)).2.2:Int)) ∧
     vs=[.ls bl 1 0 ps.length cap,.rp 1 [.rp 3 [.agg [.sl 3 (ps.map aPr),.sl 1 T,ab w]] 0 0] 0 0,.rp 1 [.ls bc 1 0 ps.length ps.length] 0 0,.lp bx 1 0 0,.clo 65 [.rp 1 [.ls bc 1 0 ps.length ps.length] 0 0,.rp 1 [.rp 3 [.agg [.sl 3 (ps.map aPr),.sl 1 T,ab w]] 0 0] 0 0,.lp bx 1 0 0],ab ov,ai p,ai k,ai ps.length,ai p]) ?_ ?_
    ·refine AWp.block (AWp.loopN [] [1,2,5,6,7,8,9,24,27,28] (fun m vs L=>vs=[]∧∃x:Nat→Nat,L=(bl,.row 49 1 (rowsD ps.length rows x) cap) :: (bc,.row 3 1 (d.map ai) ps.length) :: (bx,.row 92 1 [v] 1) :: Le∧(∀q,q ≠ p→x q=x1 q)∧x p≤(rows p).length∧(∀j,j<x p→((fSp rows p j).2.2:Int)<cAt d p)∧m=(rows p).length - x p)
      _ ⟨rfl,x1,rfl,fun _ _=>rfl,hxl1 p hp,hxb1 p hp,rfl⟩ ?_)
     rintro m vs L - ⟨rfl,x2,rfl,hq2,hl2,hb2,rfl⟩
     have g1:=rowsD_get hp rows x2
     have hrl2:=rowsD_len ps.length rows x2
     have gd:=hdg p hp
     have hset:=rowsD_set (n:=ps.length) (q:=p) rows x2
     have hlr:=hlen p hp
     have hXl:(((rows p).drop (x2 p)).map aStp).length=(rows p).length - x2 p:=by rw[List.length_map,List.length_drop]
     have hrow:(rows p).length=x2 p∨x2 p<(rows p).length:=by omega
     simp only[go_sem]
     rcases hrow with he|hlt
     ·have hX0:(((rows p).drop (x2 p)).map aStp).getD 0 .any = .any:=by rw[List.drop_of_length_le (by omega)];rfl
      have hXn:¬(0:Int)<((((rows p).drop (x2 p)).map aStp).length:Int):=by omega
      generalize hXX:((rows p).drop (x2 p)).map aStp=X at *
      refine AWp.seq ?_
      repeat(first|(with_reducible refine AWp.seq ?_)|(with_reducible refine AWp.block ?_))
      refine AWp.read mixed [0,1,2,3,4,5,6,7,8,9,10,11,12,13,14,15,16,17,18,19] (by kernel_rfl) ?_;simp only[go_sem,g1,gd,hX0,hXn,hrl2,hdm,m1,m2,m3,m5,List.getD_nil]
      refine Sd ?_
      refine Wk ?_
      exact⟨_,List.Sublist.refl _,x2,rfl,hq2,hl2,hb2,fun h=>by omega⟩
     ·have hd1:=rowsD_hd hlt
      have hel2:=hel p hp (x2 p) hlt
      rw[← fSp_eq] at hel2
      have es:aStp (fSp rows p (x2 p)) = .agg [ai (fSp rows p (x2 p)).1,ai (fSp rows p (x2 p)).2.1,ai (fSp rows p (x2 p)).2.2]:=rfl
      rw[es] at hd1
      obtain⟨_,_,he3,_⟩:=hel2
      have hnbp:=hnb p hp
      generalize hXX:((rows p).drop (x2 p)).map aStp=X at *
      refine AWp.seq ?_
      repeat(first|(with_reducible refine AWp.seq ?_)|(with_reducible refine AWp.block ?_))
      refine AWp.read mixed [0,1,2,3,4,5,6,7,8,9,10,11,12,13,14,15,16,17,18,19] (by kernel_rfl) ?_;simp only[go_sem,g1,gd,hd1,hrl2,hdm,m1,m2,m3,m5]
      refine Sd ?_
      repeat(first|((with_reducible refine AWp.ofC ?_ ?_);exact rfl;simp only[go_sem])|((with_reducible refine an ?_ ?_);exact Au))
      refine⟨fun h2 h3 => ?_,fun h2 => ?_⟩
      ·refine AWp.block ?_
       repeat(first|((with_reducible refine AWp.ofC ?_ ?_);exact rfl;simp only[go_sem,g1,hrl2,m1,m3])|((with_reducible refine an ?_ ?_);exact Au))
       refine Sd ?_
       rw[hset]
       refine⟨_,List.Sublist.refl _,(rows p).length - (x2 p+1),by omega,updN x2 p (x2 p+1),rfl,fun q hq=>by rw[updN_ne hq];exact hq2 q hq,by rw[updN_self];omega,fun j hj => ?_,by rw[updN_self]⟩
       rw[updN_self] at hj
       by_cases e:j=x2 p
       ·subst e;exact h3
       ·exact hb2 j (by omega)
      ·refine⟨_,List.Sublist.refl _,x2,rfl,hq2,hl2,hb2,fun _ => ?_⟩
       have:=h2 (by omega)
       omega
    ·rintro vs L - ⟨x2,rfl,hq2,hl2,hb2,hg2,rfl⟩
     have g1:=rowsD_get hp rows x2
     have hrl2:=rowsD_len ps.length rows x2
     have hlr:=hlen p hp
     have hXl:(((rows p).drop (x2 p)).map aStp).length=(rows p).length - x2 p:=by rw[List.length_map,List.length_drop]
     have hXd:((rows p).drop (x2 p)).length=(rows p).length - x2 p:=List.length_drop
     simp only[go_sem]
     repeat(first|((with_reducible refine AWp.ofC ?_ ?_);exact rfl;simp only[go_sem,g1,hrl2,m1,m3])|((with_reducible refine an ?_ ?_);exact Au))
     refine⟨_,List.Sublist.refl _,x2,_,rfl,rfl,fun q hq => ?_,fun q hq => ?_,fun h => ?_,fun h q hq => ?_,fun q hq=>by rw[hq2 q (by omega)];exact hsm1 q (by omega)⟩
     ·by_cases e:q=p
      ·subst e;exact hl2
      ·rw[hq2 q e];exact hxl1 q hq
     ·by_cases e:q=p
      ·subst e;exact hb2
      ·rw[hq2 q e];exact hxb1 q hq
     ·rw[Bool.or_eq_true,decide_eq_true_eq] at h
      rcases h with h|h
      ·obtain⟨q,hq,hxq⟩:=hov1 h
       exact⟨q,by omega,by rw[hq2 q (by omega)];exact hxq⟩
      ·exact⟨p,by omega,by omega⟩
     ·rw[Bool.or_eq_false_iff,decide_eq_false_iff_not] at h
      by_cases e:q=p
      ·subst e
       exact⟨by omega,hg2 (by omega)⟩
      ·rw[hq2 q e];exact hno1 h.1 q (by omega)
   ·rintro vs L - ⟨x,ov,rfl,rfl,hxl,hxb,hov,hno,-⟩
    simp only[go_sem]
    refine Wk ?_
    refine⟨fun h2 => ?_,fun h2 => ?_⟩
    ·obtain⟨q,hq,hxq⟩:=hov (by simpa using h2)
     refine⟨_,List.sublist_cons_self _ _,R,d,hO,hL1,q,hq,fun s hs => ?_⟩
     obtain⟨j,hj,rfl⟩:=List.getElem_of_mem hs
     have:=hxb q hq j (by omega)
     rwa [fSp_eq hj] at this
    ·have hxx:=hno (by simpa using h2)
     have hCom:Com ps rows d x:=⟨fun p hp=>(hxx p hp).1,fun p hp=>(hxx p hp).2,hxb⟩
     have hcrs:=hcr d hI.is x hCom.lt
     rcases crs_cases ps.length (crP ps rows x d) with ⟨i,j,hi,hj,hP,hE⟩|⟨hP,_⟩
     ·rw[hE] at hcrs
      unfold crP at hP
      simp only[Bool.and_eq_true,decide_eq_true_eq,Bool.not_eq_true'] at hP
      obtain⟨hij,hci,hbg⟩:=hP
      obtain⟨s1,s2,s3,s4,s5⟩:=dg_step hv hR hI hCom hi hj hci hbg
      have hvw:Vws ((bl,.row 49 1 (rowsD ps.length rows x) cap) :: (bc,.row 3 1 (d.map ai) ps.length) :: (bx,.row 92 1 [v] 1) :: Le) [.rp 3 [.agg [.sl 3 (ps.map aPr),.sl 1 T,ab w]] 0 0,.ls bc 1 0 ps.length ps.length,.ls bl 1 0 ps.length cap] [.rp 3 [.agg [.sl 3 (ps.map aPr),.sl 1 T,ab w]] 0 0,.sl 1 (d.map ai),.sl 1 (rowsD ps.length rows x)] :=
       Vws.cons (.refl _) (Vws.cons (Vw.ofLs (t:=3) (cap:=ps.length) (by simp only[lk,m2,if_false,if_true]) hdm.symm) (Vws.cons (Vw.ofLs (t:=49) (cap:=cap) (if_pos rfl) (rowsD_len _ _ _).symm) .nil))
      have hown:Own (.tup [ai i,ai j]):=Own.tup fun w hw=>by
       simp only[List.mem_cons,List.not_mem_nil,or_false] at hw
       rcases hw with rfl|rfl <;> exact Own.v _
      have hin:¬(i:Int)<0:=by omega
      refine W6 m1 m2 m3 m4 m5 m6 ?_
      refine(PC.view hvw hcrs hown ?_).val
      simp only[go_sem]
      repeat(first|((with_reducible refine AWp.ofC ?_ ?_);exact rfl;simp only[go_sem,hin])|((with_reducible refine an ?_ ?_);exact Au))
      have hdL:d.length≤1000000:=by omega
      refine(MCalls.viewed (Vws.cons (Vw.ofLs (t:=3) (cap:=ps.length) (by simp only[lk,m2,if_false,if_true]) hdm.symm) .nil) (ints_cloneO d hdL) (fun r L1 h=>h.own (own_ints _))).val.mono ?_
      rintro r L' ⟨L5,rfl,hA5⟩
      rcases hA5.inv with ⟨e1,_,_⟩|⟨bt,capt,rfl,rfl⟩
      ·have:d.length=0:=by simpa using congrArg List.length e1
       omega
      rw[hdm]
      simp only[go_sem,List.cons_append,List.nil_append]
      refine AWp.nodup fun hnd2 => ?_
      obtain⟨⟨t1,t2⟩,⟨t3,t4⟩,_,t7⟩:=nd3 hnd2
      obtain⟨t5,t6⟩:=(t7 (bx,_) List.mem_cons_self).1
      simp only at t5 t6
      clear hnd2 t7
      have hxj:=(hxx j hj).1
      have g1:=rowsD_get hj rows x
      have g2:=rowsD_hd hxj
      have hrl2:=rowsD_len ps.length rows x
      have hlj:=hlen j hj
      have hXl:(((rows j).drop (x j)).map aStp).length=(rows j).length - x j:=by rw[List.length_map,List.length_drop]
      have es:aStp (fSp rows j (x j)) = .agg [ai (fSp rows j (x j)).1,ai (fSp rows j (x j)).2.1,ai (fSp rows j (x j)).2.2]:=rfl
      rw[es] at g2
      have hnbj:=hnb j hj
      obtain⟨o1,o2,o3,o4⟩:=hord j hj _ s1
      have g6:((((fSp rows j (x j)).2.2:Nat):Int)+1).toNat=(fSp rows j (x j)).2.2+1:=by omega
      generalize ((rows j).drop (x j)).map aStp=X at *
      generalize (fSp rows j (x j)).2.2=se at *
      generalize (fSp rows j (x j)).2.1=sf at *
      generalize (fSp rows j (x j)).1=sp at *
      generalize ptF ps j se=w0 at *
      repeat(first|(with_reducible refine AWp.seq ?_)|(with_reducible refine AWp.block ?_))
      refine AWp.read mixed [0,1,2,3,4,5,6,7,8,9,10,11,12,13,14,15,16,17,18] (by kernel_rfl) ?_;simp only[go_sem,g1,g2,g6,hrl2,hTl,o1,o2,o3,m1,m3,t2]
      refine Sd ?_
      have hwl:w0.length=ps.length:=o4
      have hJl:(joinL d w0).length=d.length:=join_len (by omega)
      refine AWp.range' ps.length [] [1,2,5,6,7,12,24,97,98] (fun i vs L=>vs=[]∧L=(bt,.row 3 1 ((mixJ (joinL d w0) d i).map ai) capt) :: (bl,.row 49 1 (rowsD ps.length rows x) cap) :: (bc,.row 3 1 (d.map ai) ps.length) :: (bx,.row 92 1 [v] 1) :: Le) (by omega) rfl (by rw[← hwl];simp [get]) rfl ⟨rfl,by rw[mixJ_zero]⟩ ?_ ?_
      ·rintro i vs L hi - ⟨rfl,rfl⟩
       have hic:i<d.length:=by omega
       have hml:=mixJ_len hJl (show i≤d.length by omega)
       have hmg:=mixJ_get hJl hic
       have hms:=mixJ_set hJl hic
       have hgm:=getD_map (f:=ai) (l:=mixJ (joinL d w0) d i) (k:=i) (by omega)
       rw[hmg] at hgm
       have hgP:=getD_map (f:=ai) (l:=w0) (k:=i) (by omega)
       have hJi:(joinL d w0)[i]'(by omega)=if d[i]<w0[i]'(by omega) then w0[i]'(by omega) else d[i]:=by unfold joinL;rw[List.getElem_zipWith]
       rw[hJi] at hms
       have hms2:((mixJ (joinL d w0) d i).map ai).set i (ai (if d[i]<w0[i]'(by omega) then w0[i]'(by omega) else d[i]))=(mixJ (joinL d w0) d (i+1)).map ai:=by rw[map_set_ai,hms]
       have hmml:((mixJ (joinL d w0) d i).map ai).length=ps.length:=by rw[List.length_map,hml,hdl]
       generalize (mixJ (joinL d w0) d (i+1)).map ai=ys' at *
       generalize (mixJ (joinL d w0) d i).map ai=ys at *
       generalize d[i]=z1 at *
       generalize w0[i]'_=z2 at *
       simp only[go_sem]
       repeat(first|((with_reducible refine AWp.ofC ?_ ?_);exact rfl;simp only[go_sem,hgm,hgP,hmml,t1,t3,t5])|((with_reducible refine an ?_ ?_);exact Au))
       exact⟨_,List.Sublist.refl _,by rw[hms2]⟩
      ·rintro vs L - ⟨rfl,rfl⟩
       have hmf:=mixJ_full hJl
       rw[hdl] at hmf
       rw[hmf]
       generalize hJ:joinL d w0=J at *
       refine AWp.viewP (Lf:=[(bt,.row 3 1 (J.map ai) capt)]) (Lk:=(bl,.row 49 1 (rowsD ps.length rows x) cap) :: (bc,.row 3 1 (d.map ai) ps.length) :: (bx,.row 92 1 [v] 1) :: Le) (L':=(bl,.row 49 1 (rowsD ps.length rows x) cap) :: (bc,.row 3 1 (d.map ai) ps.length) :: (bx,.row 92 1 [v] 1) :: Le) (List.Perm.refl _) (LVw.refl _) [(12,.sl 1 (J.map ai))] (fun z hz => ?_) ?_
       ·obtain rfl:=List.mem_singleton.1 hz
        simp only[go_sem]
        exact Vw.ofLs (t:=3) (cap:=capt) (if_pos rfl) (by rw[List.length_map];omega)
       have hJs:=sum_le_off s2.is
       have hdsum:=hO.is.2
       rw[List.length_cons] at hdsum
       have hE:(evtG (zeroC ps) R).length+(J.sum - d.sum).toNat≤1000:=by rw[evtG_len];omega
       have had:=hadv bc bx d J hI.is s2.is s3 (evtG (zeroC ps) R) hE _ hL1
       simp only[go_sem]
       refine Wk ?_
       refine(MVal.perm (L':=((bc,.row 3 1 (d.map ai) ps.length) :: (bx,.row 92 1 [v] 1) :: Le) ++ [(bl,.row 49 1 (rowsD ps.length rows x) cap)]) (List.perm_append_comm (l₂:=[_])) (MVal.frame (MCalls.clo (args:=[_]) (caps:=[_,_,_]) had))).mono ?_
       rintro r L ⟨L2,rfl,rfl,R',hch',hla',hL'⟩
       simp only[go_sem]
       refine AWp.perm (List.perm_append_comm (l₂:=[_])) ?_
       simp only[List.cons_append,List.nil_append]
       refine Wk ?_
       have hdJ:=(leq_at hdl (isF_iff.1 s2.is).1).1 s3
       refine⟨_,List.Sublist.refl _,R ++ R',J,x,L2,rfl,hO.go hch' hla' (fun e he => ?_),s2,by rw[evtG_app hO.last];exact hL',by omega,hxl,fun p hp jj hjj=>Int.lt_of_lt_of_le (hxb p hp jj hjj) (hdJ p hp)⟩
       obtain⟨b1,b2,b3⟩:=chn_between hI.is hch' hla' e he
       exact s5 e b1 b2 b3
     ·exfalso
      refine hT ⟨x,dg_tight hv hR hI hCom fun i k hi hk hik hc => ?_⟩
      have:=hP i hi k hk
      unfold crP at this
      simpa [hik,hc] using this
  ·exfalso
   omega
 ·rintro vs L - ⟨R,d,hO,hL1,⟨p,hp,hpe⟩,rfl⟩
  obtain⟨hdI,hdsum⟩:=hO.is
  obtain⟨v,Le,rfl,hA,hne,hnl⟩:=id hL1
  have hfl:(fullC ps).length=ps.length:=by unfold fullC;rw[List.length_map]
  have hfsum:=fullC_sum ps
  have q1:¬bc=bx:=hne
  have q2:¬bx=bc:=fun e=>hne e.symm
  rw[List.length_cons] at hdsum
  simp only[go_sem]
  refine W2 q1 q2 ?_
  intro bf q3 q4
  intros
  have q5:¬bf=bc:=by omega
  have q6:¬bf=bx:=by omega
  have q7:¬bc=bf:=by omega
  have q8:¬bx=bf:=by omega
  refine W6 q1 q2 q5 q6 q7 q8 ?_
  refine AWp.range' ps.length [] [6,7,15,125,126] (fun k vs L=>vs=[]∧L=(bf,.row 3 1 ((fillZ (fullC ps) ps.length k).map ai) ps.length) :: (bc,.row 3 1 (d.map ai) ps.length) :: (bx,.row 92 1 [v] 1) :: Le) (by omega) rfl rfl rfl ⟨rfl,by rw[fillZ_zero,replicate_ai]⟩ ?_ ?_
  ·rintro k vs L hk - ⟨rfl,rfl⟩
   have hg:=getD_map (f:=aPr) hk
   have hevk:=hs.evs _ (List.getElem_mem hk)
   have hfs:=fillZ_set hfl hk
   have hfk:(fullC ps)[k]'(by omega)=(ps[k].evs.length:Nat):=by
    have:=fullC_at (ps:=ps) hk
    rw[cAt_nat (by omega)] at this
    exact this
   have hfll:=fillZ_length hfl (show k≤ps.length by omega)
   rw[hfk] at hfs
   have hfs2:((fillZ (fullC ps) ps.length k).map ai).set k (ai (ps[k].evs.length:Nat))=(fillZ (fullC ps) ps.length (k+1)).map ai:=by rw[map_set_ai,hfs]
   have hml:((fillZ (fullC ps) ps.length k).map ai).length=ps.length:=by rw[List.length_map,hfll]
   have hgk:=getD_map (f:=ai) (l:=fillZ (fullC ps) ps.length k) (k:=k) (by rw[hfll];exact hk)
   generalize (fillZ (fullC ps) ps.length k)[k]'_=z0 at *
   generalize (fillZ (fullC ps) ps.length (k+1)).map ai=ys' at *
   generalize (fillZ (fullC ps) ps.length k).map ai=ys at *
   simp only[go_sem]
   repeat(first|((with_reducible refine AWp.ofC ?_ ?_);exact rfl;simp only[go_sem,hg])|((with_reducible refine an ?_ ?_);exact Au))
   intros
   repeat(first|((with_reducible refine AWp.ofC ?_ ?_);exact rfl;simp only[go_sem,q5,q6,hml,hgk])|((with_reducible refine an ?_ ?_);exact Au))
   exact⟨_,List.Sublist.refl _,by rw[hfs2]⟩
  ·rintro vs L - ⟨rfl,rfl⟩
   rw[fillZ_full hfl]
   refine AWp.viewP (Lf:=[(bf,.row 3 1 ((fullC ps).map ai) ps.length)]) (Lk:=(bc,.row 3 1 (d.map ai) ps.length) :: (bx,.row 92 1 [v] 1) :: Le) (L':=(bc,.row 3 1 (d.map ai) ps.length) :: (bx,.row 92 1 [v] 1) :: Le) (List.Perm.refl _) (LVw.refl _) [(15,.sl 1 ((fullC ps).map ai))] (fun z hz => ?_) ?_
   ·obtain rfl:=List.mem_singleton.1 hz
    simp only[go_sem]
    exact Vw.ofLs (t:=3) (cap:=ps.length) (if_pos rfl) (by rw[List.length_map,hfl])
   have hds:=sum_le_off hdI
   have hE:(evtG (zeroC ps) R).length+((fullC ps).sum - d.sum).toNat≤1000:=by rw[evtG_len];omega
   have had:=hadv bc bx d (fullC ps) hdI hfi (leq_full hdI) (evtG (zeroC ps) R) hE _ hL1
   simp only[go_sem]
   refine Wk ?_
   refine(MCalls.clo (args:=[_]) (caps:=[_,_,_]) had).mono ?_
   rintro r L ⟨rfl,R',hch',hla',hL'⟩
   obtain⟨v',Le',rfl,hA',-,hnl'⟩:=hL'
   have hdone:DodgeR ps b (zeroC ps :: (R ++ R')):=(hO.go hch' hla' fun e he=>by
    obtain⟨b1,b2,_⟩:=chn_between hdI hch' hla' e he
    exact dg_end hR hdI hp hpe e b1 b2).done
   rw[← evtG_app hO.last] at hA'
   rcases hA'.inv with ⟨e1,rfl,rfl⟩|⟨be,cap2,rfl,rfl⟩
   ·simp only[go_sem]
    refine W2 q1 q2 ?_
    refine ret_sub [] ((List.sublist_cons_self _ _).trans (List.sublist_cons_self _ _)) ?_
    simp only[go_sem]
    exact⟨R ++ R',hdone,hA'⟩
   ·simp only[go_sem]
    refine W2 q1 q2 ?_
    refine ret_sub [(be,_)] ((List.sublist_cons_self _ _).trans (List.sublist_cons_self _ _)) ?_
    simp only[go_sem]
    rw[List.length_map] at hA'
    exact⟨R ++ R',hdone,hA'⟩
end Go.AL
end
