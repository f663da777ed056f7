/- Texts of this claim's proof: WLp, WLq, WNd, WBs, WSb, WAw, WSr, WOf, WWl, WCt, WLv, WSn, WMk, WMr, WMn, WCu, WBig, WMl, WMc, WMd, AlGrd, WSs, WSp, WCp, WCk, WEx, WRr, WEy, WPq, WNa, WNb, WNe, WTm, WDx, WPu, WNc, WOa, WY1, WQa, WQb, WY2, WV1, WSq, WQd. No condition. -/
import Derived.Test.YtbegiibjiidkmaaGreatDoorM9
import Derived.Test.YtbegiibjiidkmaaGreatDoorM6
import Derived.Test.YtbegiibjiidkmaaGreatDoorM8
import Derived.Test.YtbegiibjiidkmaaGreatDoorM7
import Derived.Test.YtbegiibjiidkmaaGreatDoorM4
section
namespace Go.AL
open Go Go.RowKit Proofs.Tryz
set_option maxRecDepth 4000
theorem stC_len (n p:Nat)(k:Int):(stC n p k).length=n:=by unfold stC;rw[List.length_set,List.length_replicate]
theorem stC_get {n p:Nat}{k:Int}(hp:p<n):(stC n p k).getD p 0=k:=by
 unfold stC;rw[List.getD_eq_getElem?_getD,List.getElem?_set_self (by simpa using hp)];rfl
theorem stC_get? {n p:Nat}{k:Int}(hp:p<n):(stC n p k)[p]?=some k:=by
 unfold stC;rw[List.getElem?_set_self (by simpa using hp)]
def stV (n p:Nat)(st:List Int):List (List Int):=(List.replicate n []).set p st
theorem stV_len (n p:Nat)(st:List Int):(stV n p st).length=n:=by unfold stV;rw[List.length_set,List.length_replicate]
theorem stV_get {n p:Nat}{st:List Int}(hp:p<(stV n p st).length):(stV n p st)[p]=st:=by simp [stV]
theorem st_leaf (ps:List Pr)(hs:Sm ps)(hv:validF ps=true)(p k:Nat)(hp:p<ps.length)(hk:k<=ps[p].evs.length)(t:Pd)(hr:allB (resB ps) t=true)(hn:allB (lclB p) t=true) :
  AllP (leafOk ps (stC ps.length p k) (stV ps.length p (stateAt ps[p] k)) (stO ps p k)) t/\AllP (obsB ps (stO ps p k)) t/\AllP (leafR ps (stC ps.length p k) (stO ps p k)) t:=by
 have hb:=allB_and t hr hn
 have hvar:∀s,(stO ps p k).var p s=(stateAt ps[p] k).getD (varIx ps[p].vars s).toNat 0:=fun s=>by
  unfold stO cutO;simp only[Int.toNat_natCast,List.getElem?_eq_getElem hp,stC_get hp]
 have hcnt:(stO ps p k).cnt p=k:=by
  unfold stO cutO;simp only[Int.toNat_natCast,stC_get hp]
 have hx:∀x:Pd,andB (resB ps) (lclB p) x=true->∀kk n pr q s l,x = .mk kk n pr q s l->((kk=2\/kk=3)->pr=p)/\kk ≠ 4/\(kk=2->knownB ps pr s=true):=fun x h kk n pr q s l e=>by
  subst e
  unfold andB at h
  rw[Bool.and_eq_true] at h
  have h2:=h.2
  rw[lcl_mk] at h2
  have n4:¬(kk=4\/(18<=kk/\kk<=21)):=fun h=>by rw[if_pos h] at h2;cases h2
  rw[if_neg n4] at h2
  refine⟨fun e=>?_,by omega,fun e=>((res_leaf h.1).1 e).2⟩
  rw[if_pos e] at h2
  simpa using h2
 refine⟨AllP_of_allB (fun x h=>?_) t hb,AllP_of_allB (fun x h=>?_) t hb,AllP_of_allB (fun x h=>?_) t hb⟩
 ·obtain⟨kk,n,pr,q,s,l⟩:=x
  obtain⟨g1,g2,g3⟩:=hx _ h _ _ _ _ _ _ rfl
  refine⟨fun e=>?_,fun e=>?_,fun e=>absurd e g2⟩
  ·obtain rfl:=g1 (.inl e)
   have hV:p<(stV ps.length p (stateAt ps[p] k)).length:=by rw[stV_len];exact hp
   have h:=view_variable ps hs (stC ps.length p k) (stV ps.length p (stateAt ps[p] k)) kk n p q s l hp (g3 e) hV (by rw[stV_get hV,stateAt_length])
   rw[stV_get hV] at h
   rw[hvar];exact h
  ·obtain rfl:=g1 (.inr e)
   exact⟨by omega,by rw[hcnt,Int.toNat_natCast,stC_get? hp]⟩
 ·obtain⟨kk,n,pr,q,s,l⟩:=x
  obtain⟨g1,g2,g3⟩:=hx _ h _ _ _ _ _ _ rfl
  refine⟨fun e=>?_,fun e=>?_,fun e=>absurd e g2⟩
  ·obtain rfl:=g1 (.inl e)
   have hm:=valsF_mem ps[p] (varIx ps[p].vars s).toNat (k:=k) hk
   rw[hvar]
   unfold varLo varHi
   simp only[Int.toNat_natCast,List.getElem?_eq_getElem hp]
   exact⟨minL_le hm,le_maxL hm⟩
  ·obtain rfl:=g1 (.inr e)
   rw[hcnt,evN_get hp]
   exact⟨by omega,by omega⟩
 ·obtain⟨kk,n,pr,q,s,l⟩:=x
  obtain⟨g1,g2,g3⟩:=hx _ h _ _ _ _ _ _ rfl
  refine⟨fun e=>?_,fun e=>?_,fun e=>absurd e g2⟩
  ·obtain rfl:=g1 (.inl e)
   have hpb:isPB ps.length p=true:=by unfold isPB;simp;omega
   have h1:=ref25_Index ps hs p hpb s
   rw[varX_get hp] at h1
   obtain⟨i,hi,hil⟩:=known_ix (known_get hp (g3 e))
   have h2:=ref25_Value ps hs p hp i hil k hk (asg_of_valid hv p hp) (dis_of_valid hv p hp)
   rw[hi] at h1
   refine⟨_,_,h1,?_,by omega,by rw[Int.toNat_natCast,stC_get? hp]⟩
   rw[hvar,hi,Int.toNat_natCast,List.getD_eq_getElem?_getD,List.getElem?_eq_getElem (by rw[stateAt_length];exact hil)]
   exact h2
  ·obtain rfl:=g1 (.inr e)
   exact⟨by omega,by rw[hcnt,Int.toNat_natCast,stC_get? hp]⟩
theorem variable_State (ps:List Pr)(hs:Sm ps)(hv:validF ps=true)(p k:Nat)(hp:p<ps.length)(hk:k<=ps[p].evs.length):PC prog 181 [aTr ps,ai p,ai k] (.tup [aInts (stateAt ps[p] k),ai 0]):=by
 have hm:=List.getElem_mem hp
 have h1:=trace_Valid ps hs
 rw[hv] at h1
 have h2:=variable_state ps[p] (hs.vars _ hm) (hs.evs _ hm) (hs.asg _ hm) (asg_of_valid hv p hp) k hk
 have hl:=hs.procs
 have hel:=hs.evs _ hm
 have hgp:=getD_map (f:=aPr) hp
 have n1:¬(p:Int)<0:=by omega
 have n2:¬(ps.length:Int)<=p:=by omega
 have n3:¬(k:Int)<0:=by omega
 have n4:¬(ps[p].evs.length:Int)<k:=by omega
 generalize stateAt ps[p] k=S at *
 refine PE 44 [.tmp 6,.tmp 7] [3] func181 ?_;simp only[go_sem]
 refine Wk ?_
 refine Sd ?_
 refine(h1).val.use ?_;simp only[go_sem,n1,n2,n3,n4,hgp]
 refine W5 n1 n2 n3 n4 hgp ?_
 refine Sd ?_
 refine Vu h2 ?_
 refine Wk ?_
 exact Rz
theorem lcl_ntm {p:Int}(t:Pd):allB (lclB p) t=true->allB ntmB t=true:=by
 induction t using Pd.ind with
 | _ k n pr q s l ih =>
 intro h
 obtain⟨h1,h2⟩:=allB_sub h
 rw[allB_mk,Bool.and_eq_true,List.all_eq_true]
 refine⟨?_,fun x hx=>ih x hx (h2 x hx)⟩
 rw[lcl_mk] at h1
 unfold ntmB tempB
 split at h1
 ·cases h1
 ·rename_i h;simp;omega
theorem lcl_ok {ps:List Pr}{p:Nat}{k:Int}{t:Pd}(h:lclF ps p k t=0):checkF ps t=0/\p<ps.length/\0<=k/\k<=evN ps p/\9<=t.kind/\allB (lclB p) t=true:=by
 unfold lclF at h
 split at h
 ·rename_i h1;exact absurd h h1
 ·rename_i h1
  split at h
  ·cases h
  ·rename_i h2
   split at h
   ·cases h
   ·rename_i h3
    split at h
    ·cases h
    ·rename_i h4
     exact⟨by simpa using h1,by omega,by omega,by omega,by omega,by simpa using h4⟩
theorem evaluate_inState (ps:List Pr)(hs:Sm ps)(p k:Nat)(hp:p<ps.length)(hk:k<=ps[p].evs.length)(t:Pd)(hz:szF t<=1000000)(hc:checkF ps t=0)(h9:9<=t.kind)(hl:allB (lclB p) t=true) :
  PC prog 141 [aTr ps,ai p,ai k,aPd t] (ab (lclT ps p t k)):=by
 obtain⟨hv,_,hok,hfit⟩:=checkF_zero hc
 have hok':=hok
 unfold okT at hok'
 simp only[Bool.and_eq_true] at hok'
 obtain⟨l1,l2,_⟩:=st_leaf ps hs hv p k hp hk t hok'.1.2 hl
 have hn:=hs.procs
 have h1:=view_truth ps (stC ps.length p k) (stV ps.length p (stateAt ps[p] k)) (stO ps p k) (by rw[stC_len];omega) t hz hok h9 hfit (lcl_ntm t hl) l2 l1
 have h2:=variable_State ps hs hv p k hp hk
 unfold lclT
 generalize truF (stO ps p k) t=b at *
 obtain⟨kk,n,pr,q,s,l⟩:=t
 have hC:(stC ps.length p k).map ai=(List.replicate ps.length (ai 0)).set p (ai k):=by unfold stC;rw[List.map_set,List.map_replicate]
 have hTr:aTr ps = .agg [aPrs ps]:=rfl
 generalize hS:stateAt ps[p] k=S at *
 simp only[aPd_mk] at *
 refine PE 39 [.tmp 8] [4,7,9] func141 ?_;simp only[go_sem]
 refine Wk ?_
 refine AWp.cut [1,2,4,7,9] (fun vs L=>∃bc bv,L.Perm [(bv,.row 95 1 (List.replicate ps.length anil) ps.length),(bc,.row 3 1 (List.replicate ps.length (ai 0)) ps.length)] /\
  vs=[ai p,ai k,.rp 1 [aTr ps] 0 0,.rp 6 [.agg [ai kk,ai n,ai pr,ai q,astr s,.sl 6 (l.map aPd)]] 0 0,.rp 3 [.agg [aPrs ps,.ls bc 1 0 ps.length ps.length,.ls bv 1 0 ps.length ps.length]] 0 0]) ?_ ?_
 ·refine Sq ?_
  refine AWp.mix mixed [0,1,2,3,5,6,7] (.step 4 (.step 8 (.step 9 (.step 10 (.step 11 .done .done) .done) (.step 10 (.step 9 (.step 11 .done .done) .done) .done)) (.step 10 (.step 8 (.step 9 (.step 11 .done .done) .done) .done) .done)) (.step 8 (.step 4 (.step 9 (.step 10 (.step 11 .done .done) .done) (.step 10 (.step 9 (.step 11 .done .done) .done) .done)) (.step 10 (.step 4 (.step 9 (.step 11 .done .done) .done) .done) .done)) (.step 10 (.step 4 (.step 8 (.step 9 (.step 11 .done .done) .done) .done) (.step 8 (.step 4 (.step 9 (.step 11 .done .done) .done) .done) .done)) .done))) (by kernel_rfl) ?_;simp only[go_sem]
  repeat' (first|(with_reducible refine And.intro ?_ ?_)|intro _)
  all_goals first|omega|skip
  all_goals ((repeat rw[if_neg (by omega)]);(try simp only[go_sem]))
  all_goals (repeat' (first|(with_reducible refine And.intro ?_ ?_)|intro _))
  all_goals first|omega|exact⟨_,.refl _,_,_,.refl _,rfl⟩|exact⟨_,.refl _,_,_,.swap _ _ _,rfl⟩
 ·rintro vs L - ⟨bc,bv,hP,rfl⟩
  refine AWp.perm hP (AWp.nodup fun hnd=>?_)
  have n1:¬bv=bc:=by simpa using hnd
  have n2:¬bc=bv:=fun e=>n1 e.symm
  have hg0:(List.replicate ps.length (ai 0)).getD p .any=ai 0:=by rw[List.getD_eq_getElem?_getD,List.getElem?_replicate,if_pos hp];rfl
  have hg1:(List.replicate ps.length anil).getD p .any=anil:=by rw[List.getD_eq_getElem?_getD,List.getElem?_replicate,if_pos hp];rfl
  simp only[go_sem]
  refine Sd ?_
  refine AWp.of ?_;simp only[go_sem,n1,n2,hg0,List.length_replicate]
  refine Sd ?_
  rw[<- hC]
  refine AWp.seq ?_
  refine Sq ?_
  refine AWp.mix mixed [0,1,2,3,4,5,6,7,8,9] (.step 10 (.step 11 .done .done) .done) (by kernel_rfl) ?_;simp only[go_sem,n1,n2,hg1]
  refine Sd ?_
  refine GCall.use (.tup [aInts S,ai 0]) (fun _=>⟨At,(h2).val.use ⟨rfl,rfl⟩⟩) ?_;simp only[go_sem,n1,n2,hg1]
  refine Sd ?_
  refine AWp.view [true,true] [(9,.rp 3 [aView ps (stC ps.length p k) (stV ps.length p S)] 0 0)] (LVw.refl _) (fun x hx=>?_) ?_
  ·simp only[List.mem_singleton] at hx
   subst hx
   simp only[go_sem,pickT]
   refine .rp rfl (Vws.cons (.mkAgg (Vws.cons (.refl _) (Vws.cons (Vw.ofLs (t:=3) (cap:=ps.length) (by simp [lk,n2]) (by rw[List.length_map,stC_len])) (Vws.cons ?_ .nil)))) .nil).2
   refine .ls (t:=95) (xs:=(List.replicate ps.length anil).set p (aInts S)) (cap:=ps.length) (by simp [lk,aInts]) (by simp) (by simp [stV]) fun i x y hx hy=>?_
   rw[List.drop_zero,List.take_of_length_le (by simp),List.getElem?_set] at hx
   unfold stV at hy
   rw[List.map_set,List.getElem?_set] at hy
   by_cases e:p=i
   ·subst e
    simp [hp] at hx hy
    subst hx;subst hy;exact .refl _
   ·rw[if_neg e,List.getElem?_replicate] at hx
    rw[if_neg e,List.getElem?_map,List.getElem?_replicate] at hy
    by_cases h5:i<ps.length
    ·rw[if_pos h5] at hx hy
     cases hx;cases hy
     exact .nil 1
    ·rw[if_neg h5] at hx;cases hx
  ·simp only[go_sem,pickF]
   refine Wk ?_
   refine Sd ?_
   refine Vu h1 ?_
   refine Wk ?_
   exact Rz
theorem truthsF_nat {ps:List Pr}{p:Nat}(hp:p<ps.length)(t:Pd):truthsF ps p t=(List.range (ps[p].evs.length+1)).map fun (k:Nat)=>lclT ps p t k:=by
 unfold truthsF;rw[evN_get hp,Int.toNat_natCast]
noncomputable def aTruths (ps:List Pr)(p:Int)(t:Pd):AV:=if lclF ps p 0 t=0 then .tup [.sl 1 ((truthsF ps p.toNat t).map ab),ai 0] else .tup [.sl 1 [],ai (lclF ps p 0 t)]
theorem evaluate_Truths (ps:List Pr)(hs:Sm ps)(p:Int)(t:Pd)(hz:szF t<=1000000):PC prog 93 [aTr ps,ai p,aPd t] (aTruths ps p t):=by
 have h1:=evaluate_check ps hs p 0 t hz
 have hl:=hs.procs
 unfold aTruths
 by_cases he:lclF ps p 0 t=0
 ·rw[if_pos he]
  rw[he] at h1
  have hp0:0<=p:=by
   unfold lclF at he
   split at he
   ·rename_i h;exact absurd he h
   ·split at he
    ·cases he
    ·rename_i h;omega
  obtain⟨i,rfl⟩:∃i:Nat,p=i:=⟨p.toNat,by omega⟩
  rw[Int.toNat_natCast]
  obtain⟨hc,hp,_,_,h9,hlc⟩:=lcl_ok he
  have hel:=hs.evs _ (List.getElem_mem hp)
  have hgp:=getD_map (f:=aPr) hp
  have hst:=fun (k:Nat) hk=>evaluate_inState ps hs i k hp hk t hz hc h9 hlc
  rw[truthsF_nat hp,List.map_map]
  have hy:∀k,((List.range k).map fun (k:Nat)=>ab (lclT ps i t k)).length=k:=fun k=>by simp
  have hys:∀k,((List.range (k+1)).map fun (k:Nat)=>ab (lclT ps i t k))=((List.range k).map fun (k:Nat)=>ab (lclT ps i t k)) ++ [ab (lclT ps i t k)]:=fun k=>by rw[List.range_succ,List.map_append];rfl
  have hfin:(List.range (ps[i].evs.length+1)).map (ab ∘ fun (k:Nat)=>lclT ps i t k)=(List.range (ps[i].evs.length+1)).map fun (k:Nat)=>ab (lclT ps i t k):=rfl
  rw[hfin]
  obtain⟨k0,n,pp,q,s,l⟩:=t
  simp only[aPd_mk] at *
  generalize hY:(fun k:Nat=>(List.range k).map fun (j:Nat)=>ab (lclT ps i (.mk k0 n pp q s l) j))=Y at *
  have hYk:∀k,((List.range k).map fun (j:Nat)=>ab (lclT ps i (.mk k0 n pp q s l) j))=Y k:=fun k=>by rw[<- hY]
  simp only[hYk] at hy hys ⊢
  refine PE 39 [.tmp 6,.tmp 7] [3,5,35] func93 ?_;simp only[go_sem]
  refine Wk ?_
  refine Sd ?_
  refine Vu h1 ?_
  refine W1 hgp ?_
  refine AWp.range' (ps[i].evs.length+1) [9] [1,3,5,25] (fun k vs L=>∃v,vs=[v]/\AppSt 4 1 (Y k) v L) (by omega) rfl rfl rfl ⟨anil,rfl,by rw[<- hY];exact .nil⟩ ?_ ?_
  ·rintro k vs L' hk - ⟨v,rfl,hA⟩
   have hyl:=hy k
   have hst:=hst k (by omega)
   rw[hys k]
   have hfo:=hA.fo
   generalize Y k=ys at *
   generalize lclT ps i (.mk k0 n pp q s l) k=b at *
   rcases hA.inv with ⟨e1,rfl,rfl⟩|⟨b',cap,rfl,rfl⟩
   ·simp only[go_sem]
    refine Wk ?_
    refine Sd ?_
    refine Vu hst ?_
    refine Sd ?_
    intro b' cap' _
    refine⟨_,.refl _,_,rfl,?_⟩
    rw[e1]
    exact .row _ _ _
   ·simp only[go_sem]
    refine Wk ?_
    refine Sd ?_
    refine Vu hst ?_
    refine Sd ?_
    intro b' cap' _
    refine⟨_,.refl _,_,rfl,?_⟩
    have:=AppSt.row (t:=4) (k:=1) b' (ys ++ [ab b]) cap'
    simpa using this
  ·rintro vs L' - ⟨v,rfl,hA⟩
   have hyl:=hy (ps[i].evs.length+1)
   generalize Y (ps[i].evs.length+1)=ys at *
   simp only[go_sem]
   rcases hA.inv with ⟨e1,rfl,rfl⟩|⟨b,cap,rfl,rfl⟩
   ·rw[e1] at hyl;simp at hyl
   ·refine Wk ?_
    refine ret_view [true] ?_;simp only[go_sem]
    exact .mkTup (Vws.cons (Vw.ofLs (if_pos rfl) rfl) (Vws.refl _))
 ·rw[if_neg he]
  generalize lclF ps p 0 t=e at *
  obtain⟨k0,n,pp,q,s,l⟩:=t
  simp only[aPd_mk] at *
  refine PE 39 [.tmp 6,.tmp 7] [3,5,35] func93 ?_;simp only[go_sem]
  refine Wk ?_
  refine Sd ?_
  refine Vu h1 ?_
  refine W1 he ?_
  refine ret_view [] ?_;simp only[go_sem]
  exact .mkTup (Vws.cons (.nil 1) (Vws.refl _))
noncomputable def elimOf (ps:List Pr)(ts:List Pd):Elim where
 n:=ps.length
 top:=nev ps
 ok:=fun p k=>match ts[p]? with|some t=>lclT ps p t k|none=>true
 need:=fun q k p=>cAt (closeF ps (stC ps.length q k)) p
def aStp (s:Stp):AV:=.agg [ai s.1,ai s.2.1,ai s.2.2]
def lclAt (z:Int->Pd->Int)(ts:List Pd)(p:Nat):Int:=match ts[p]? with|some t=>z p t|none=>0
noncomputable def conF (ps:List Pr)(ts:List Pd):Int :=
 if validF ps=true/\ts.length=ps.length then match (List.range ts.length).find? (fun p=>decide (lclAt (fun p t=>lclF ps p 0 t) ts p ≠ 0)) with|some p=>lclAt (fun p t=>lclF ps p 0 t) ts p|none=>0 else 1
theorem conF_bad {ps:List Pr}{ts:List Pd}(h:¬(validF ps=true/\ts.length=ps.length)):conF ps ts=1:=by unfold conF;rw[if_neg h]
theorem conF_hit {ps:List Pr}{ts:List Pd}(h:validF ps=true/\ts.length=ps.length){p:Nat}(hp:p<ts.length)(h0:∀q (hq:q<ts.length),q<p->lclF ps q 0 ts[q]=0)(h1:lclF ps p 0 ts[p] ≠ 0):conF ps ts=lclF ps p 0 ts[p]:=by
 have e:∀q (hq:q<ts.length),lclAt (fun p t=>lclF ps p 0 t) ts q=lclF ps q 0 ts[q]:=fun q hq=>by unfold lclAt;rw[List.getElem?_eq_getElem hq]
 unfold conF
 rw[if_pos h,find_range_of hp (by rw[e p hp];exact decide_eq_true h1) fun q hq=>by rw[e q (by omega),h0 q (by omega) hq];rfl]
 exact e p hp
theorem conF_zero {ps:List Pr}{ts:List Pd}(h:validF ps=true/\ts.length=ps.length)(h0:∀q (hq:q<ts.length),lclF ps q 0 ts[q]=0):conF ps ts=0:=by
 have e:∀q (hq:q<ts.length),lclAt (fun p t=>lclF ps p 0 t) ts q=lclF ps q 0 ts[q]:=fun q hq=>by unfold lclAt;rw[List.getElem?_eq_getElem hq]
 unfold conF
 rw[if_pos h,find_range_no fun q hq=>by rw[e q hq,h0 q hq];rfl]
theorem conF_inv {ps:List Pr}{ts:List Pd}(h:conF ps ts=0):validF ps=true/\ts.length=ps.length/\∀q (hq:q<ts.length),lclF ps q 0 ts[q]=0:=by
 by_cases h1:validF ps=true/\ts.length=ps.length
 ·refine⟨h1.1,h1.2,fun q hq=>?_⟩
  have e:∀q (hq:q<ts.length),lclAt (fun p t=>lclF ps p 0 t) ts q=lclF ps q 0 ts[q]:=fun q hq=>by unfold lclAt;rw[List.getElem?_eq_getElem hq]
  unfold conF at h
  rw[if_pos h1] at h
  cases hf:(List.range ts.length).find? (fun p=>decide (lclAt (fun p t=>lclF ps p 0 t) ts p ≠ 0)) with
  | some p =>
   rw[hf] at h
   have:=(find_range hf).2.1
   have h:lclAt (fun p t=>lclF ps p 0 t) ts p=0:=h
   rw[h] at this;simp at this
  | none =>
   have:=find_range_none hf q hq
   rw[e q hq] at this
   simpa using this
 ·rw[conF_bad h1] at h;cases h
theorem AWp.only {C:Cfg}{cd:Code}{Q:AQ}{ρ:Env}{L:AHeap}(ks:List Nat)(h:AWp C cd Q (ks.zip (ks.map (get ρ))) L):AWp C cd Q ρ L :=
 AWp.st (fun w0 M A0 a w hh=>st_forget hh (get_zip ks ρ)) h
def aSp (s:Int × Int × Int):AV:=.agg [ai s.1,ai s.2.1,ai s.2.2]
def aSps (l:List (Int × Int × Int)):AV:=.sl 3 (l.map aSp)
theorem stC_cAt {n p q:Nat}{k:Int}(hq:q<n):cAt (stC n p k) q=if p=q then k else 0:=by
 rw[cAt_nat (by rw[stC_len];exact hq)]
 unfold stC
 rw[List.getElem_set,List.getElem_replicate]
theorem need_le {ps:List Pr}(hv:validF ps=true){d:List Int}(hd:d.length=ps.length)(hr:inRangeF ps d=true)(hcl:closedF ps d=true){q k:Nat}(hq:q<ps.length)(hk:(k:Int)<=cAt d q):∀p,p<ps.length->cAt (closeF ps (stC ps.length q k)) p<=cAt d p:=by
 have h0:=(inRange_iff hd).1 hr
 obtain⟨a1,a2⟩:=stC_ok (k:=(k:Int)) hq (by omega) (by have:=(h0 q hq).2;omega)
 refine closeF_least hv hd hcl a1 a2 fun p hp=>?_
 rw[stC_cAt hp]
 split
 ·rename_i e;subst e;exact hk
 ·exact(h0 p hp).1
theorem peer_ne {ps:List Pr}(hv:validF ps=true){p:Nat}(hp:p<ps.length){i:Nat}(hi:i<ps[p].evs.length)(hk:ps[p].evs[i].kind=3):ps[p].evs[i].peer.toNat ≠ p:=by
 have h:=(evF_parts hp hi).1 (evF_of_valid hv hp hi)
 have h:=h.1
 unfold formedI at h
 rw[if_neg (by omega),if_pos (.inr hk)] at h
 simp only[Bool.and_eq_true,Bool.not_eq_true',decide_eq_false_iff_not] at h
 have h0:=h.1.1
 unfold inI at h0
 simp only[Bool.and_eq_true,decide_eq_true_eq] at h0
 intro e
 exact h.1.2 (by omega)
section
variable {ps:List Pr} {E:Elim}
end
theorem noreach {ps:List Pr}(hv:validF ps=true){x:Eid}(hx:VEv ps x):¬Reach ps x x:=by
 obtain⟨p,hp,i,hi,rfl⟩:=hx
 have h0:=valid_cyc hv
 unfold cycF at h0
 rw[Option.map_eq_none_iff,List.find?_eq_none] at h0
 simpa using h0 _ (List.mem_of_getElem? (evIds_get hp hi))
theorem reach_trans {ps:List Pr}{a b c:Eid}(h1:Reach ps a b)(h2:Reach ps b c):Reach ps a c:=by
 induction h2 with
 | single h=>exact .tail h1 h
 | tail _ h ih=>exact .tail ih h
theorem countP_lt {α:Type}{p q:α->Bool} : ∀ {l:List α},(∀a ∈ l,p a=true->q a=true)->(∃a ∈ l,p a=false/\q a=true)->l.countP p<l.countP q
 | [],_,⟨a,h,_⟩=>by cases h
 | b :: l,h1,⟨a,ha,h2,h3⟩=>by
  have hle:l.countP p<=l.countP q:=List.countP_mono_left fun a ha h=>h1 a (List.mem_cons_of_mem _ ha) h
  rw[List.countP_cons,List.countP_cons]
  have hb:=h1 b List.mem_cons_self
  rcases List.mem_cons.1 ha with rfl|ha
  ·rw[h2,h3];simp;omega
  ·have:=countP_lt (l:=l) (fun a ha h=>h1 a (List.mem_cons_of_mem _ ha) h) ⟨a,ha,h2,h3⟩
   by_cases e:p b=true
   ·rw[e,hb e];omega
   ·rw[if_neg e];split <;> omega
open Classical in
noncomputable def anc (ps:List Pr)(x:Eid):Nat:=(evIds ps).countP fun e=>decide (Reach ps e.1 x)
theorem anc_lt {ps:List Pr}(hv:validF ps=true){x y:Eid}(hx:VEv ps x)(h:Reach ps x y):anc ps x<anc ps y:=by
 classical
 unfold anc
 refine countP_lt (fun a _ ha=>decide_eq_true (reach_trans (of_decide_eq_true ha) h)) ?_
 obtain⟨e,he,e1⟩:=List.mem_map.1 hx.mem
 exact⟨e,he,decide_eq_false (by rw[e1];exact noreach hv hx),decide_eq_true (by rw[e1];exact h)⟩
theorem nx_line {ps:List Pr}(hm:msgF ps=none){p:Nat}(hp:p<ps.length){j:Nat}(hj:j+1<ps[p].evs.length):Nx ps ((p:Int),(j:Int)+1) ((p:Int),((j+1:Nat):Int)+1):=by
 refine((dirL_iff hm hp hj _).1 ?_).2
 unfold dirL
 rw[List.mem_append,if_pos (by omega)]
 exact .inl (by simp)
theorem nx_send {ps:List Pr}(hm:msgF ps=none){p:Nat}(hp:p<ps.length){i:Nat}(hi:i<ps[p].evs.length)(hk:ps[p].evs[i].kind=3):Nx ps (sndr ps ps[p].evs[i].msg) ((p:Int),(i:Int)+1):=by
 refine((dirL_iff hm hp hi _).1 ?_).2
 unfold dirL
 rw[List.mem_append,evq_get hp hi,if_pos hk]
 exact .inr (by simp)
theorem reach_line {ps:List Pr}(hm:msgF ps=none){p:Nat}(hp:p<ps.length){i:Nat} : ∀ {j:Nat},i<j->j<ps[p].evs.length->Reach ps ((p:Int),(i:Int)+1) ((p:Int),(j:Int)+1)
 | 0,h,_=>by omega
 | j+1,h,hj=>by
  by_cases e:i=j
  ·subst e;exact .single (nx_line hm hp hj)
  ·exact .tail (reach_line hm hp (by omega) (by omega)) (nx_line hm hp hj)
theorem anc_line {ps:List Pr}(hv:validF ps=true){p:Nat}(hp:p<ps.length){i j:Nat}(hij:i<=j)(hj:j<ps[p].evs.length):anc ps ((p:Int),(i:Int)+1)<=anc ps ((p:Int),(j:Int)+1):=by
 by_cases e:i=j
 ·subst e;exact Nat.le_refl _
 ·exact Nat.le_of_lt (anc_lt hv ⟨p,hp,i,by omega,rfl⟩ (reach_line (valid_parts hv).2.2 hp (by omega) hj))
theorem argmax (f:Nat->Nat)(P:Nat->Prop):∀n,(∃p,p<n/\P p)->∃p,p<n/\P p/\∀q,q<n->P q->f q<=f p
 | 0,⟨p,h,_⟩=>by omega
 | n+1,⟨p,hp,h⟩=>by
  classical
  by_cases hx:∃p,p<n/\P p
  ·obtain⟨m,h1,h2,h3⟩:=argmax f P n hx
   by_cases hn:P n/\f m<f n
   ·refine⟨n,by omega,hn.1,fun q hq hP=>?_⟩
    by_cases e:q=n
    ·subst e;exact Nat.le_refl _
    ·have:=h3 q (by omega) hP;omega
   ·refine⟨m,by omega,h2,fun q hq hP=>?_⟩
    by_cases e:q=n
    ·subst e
     have:¬f m<f q:=fun h=>hn ⟨hP,h⟩
     omega
    ·exact h3 q (by omega) hP
  ·have:p=n:=by
    by_cases e:p=n
    ·exact e
    ·exact absurd ⟨p,by omega,h⟩ hx
   subst this
   refine⟨p,by omega,h,fun q hq hP=>?_⟩
   by_cases e:q=p
   ·subst e;exact Nat.le_refl _
   ·exact absurd ⟨q,by omega,hP⟩ hx
theorem setc_cAt {d:List Int}{p q:Nat}{z:Int}(hq:q<d.length):cAt (d.set p z) q=if p=q then z else cAt d q:=by
 rw[cAt_nat (by rw[List.length_set];exact hq),List.getElem_set]
 split
 ·rfl
 ·rw[cAt_nat hq]
theorem cut_remove {ps:List Pr}(hv:validF ps=true){c:List Int}(hl:c.length=ps.length)(hr:inRangeF ps c=true)(hcl:closedF ps c=true)(h0:∃p,p<ps.length/\0<cAt c p) :
  ∃p,p<ps.length/\0<cAt c p/\inRangeF ps (c.set p (cAt c p - 1))=true/\closedF ps (c.set p (cAt c p - 1))=true:=by
 have hm:=(valid_parts hv).2.2
 have hrr:=(inRange_iff hl).1 hr
 obtain⟨p,hp,hp0,hmax⟩:=argmax (fun p=>anc ps ((p:Int),cAt c p)) (fun p=>0<cAt c p) ps.length h0
 refine⟨p,hp,hp0,(inRange_iff (by rw[List.length_set];exact hl)).2 fun q hq=>?_,closed_iff.2 fun q hq i hi hk hle=>?_⟩
 ·rw[setc_cAt (by omega)]
  split
  ·rename_i e;subst e;have:=hrr p hp;omega
  ·exact hrr q hq
 ·have hle':(i:Int)+1<=cAt c q:=by
   rw[setc_cAt (by omega)] at hle
   split at hle
   ·rename_i e;subst e;omega
   ·exact hle
  have h1:=closed_iff.1 hcl q hq i hi hk hle'
  obtain⟨s,hs,j,hj,e,_,_⟩:=sndr_some (recv_sndr hm hq hi hk)
  have hn:=nx_send hm hq hi hk
  rw[e] at h1 hn ⊢
  simp only at h1 ⊢
  rw[setc_cAt (by omega)]
  split
  ·rename_i es;subst es
   by_cases hj2:(j:Int)+1=cAt c p
   ·exfalso
    have h2:=anc_lt hv ⟨p,hs,j,hj,rfl⟩ (.single hn)
    have h3:=hmax q hq (by omega)
    have hq2:=(hrr q hq).2
    have h4:=anc_line hv hq (i:=i) (j:=(cAt c q).toNat - 1) (by omega) (by omega)
    have h5:(((cAt c q).toNat - 1:Nat):Int)+1=cAt c q:=by omega
    rw[h5] at h4
    rw[hj2] at h2
    omega
   ·omega
  ·exact h1
def isF (ps:List Pr)(c:List Int):Bool:=(decide (c.length=ps.length) && inRangeF ps c) && closedF ps c
theorem isF_iff {ps:List Pr}{c:List Int} : isF ps c=true↔c.length=ps.length/\inRangeF ps c=true/\closedF ps c=true:=by
 unfold isF
 rw[Bool.and_eq_true,Bool.and_eq_true,decide_eq_true_eq,and_assoc]
def stpC (c:List Int)(p:Nat):List Int:=c.set p (cAt c p+1)
def nx1 (ps:List Pr)(c:List Int)(p:Nat):List (List Int):=if cAt c p<nev ps p/\isF ps (stpC c p)=true then [stpC c p] else []
def nextT (ps:List Pr)(c:List Int)(k:Nat):List (List Int):=(List.range k).flatMap (nx1 ps c)
def nextL (ps:List Pr)(c:List Int):List (List Int):=nextT ps c c.length
def lexF:List Int->List Int->Bool
 | a :: x,b :: y=>if a=b then lexF x y else decide (a<b)
 | _,_=>false
def befF (a b:List Int):Bool:=if a.sum=b.sum then lexF a b else decide (a.sum<b.sum)
def insF (l:List (List Int))(c:List Int):List (List Int):=if (l.dropWhile fun x=>befF x c).head?=some c then l else (l.takeWhile fun x=>befF x c) ++ c :: l.dropWhile fun x=>befF x c
def insL (acc l:List (List Int)):List (List Int):=l.foldl insF acc
def moreT (ps:List Pr)(lv:List (List Int)):List (List Int):=lv.foldl (fun acc c=>insL acc (nextL ps c)) []
def levF (ps:List Pr):Nat->List (List Int)
 | 0=>[List.replicate ps.length 0]
 | k+1=>moreT ps (levF ps k)
theorem sum_stpC {c:List Int}{p:Nat}(hp:p<c.length):(stpC c p).sum=c.sum+1:=by
 unfold stpC
 have h:=sum_set c p (cAt c p+1) hp
 have e:cAt c p=c.getD p 0:=by unfold cAt;simp
 rw[h,e];omega
theorem isF_nonneg {ps:List Pr}{c:List Int}(h:isF ps c=true):∀z ∈ c,0<=z:=fun z hz=>by
 obtain⟨h1,h2,_⟩:=isF_iff.1 h
 obtain⟨p,hp,rfl⟩:=List.getElem_of_mem hz
 have:=((inRange_iff h1).1 h2 p (by omega)).1
 rwa [cAt_nat hp] at this
theorem isF_zero {ps:List Pr} : isF ps (List.replicate ps.length 0)=true:=by
 have e:∀q:Int,cAt (List.replicate ps.length 0) q=0:=fun q=>by
  unfold cAt
  rw[List.getD_eq_getElem?_getD,List.getElem?_replicate]
  split <;> rfl
 have hl:(List.replicate ps.length (0:Int)).length=ps.length:=List.length_replicate
 refine isF_iff.2 ⟨hl,(inRange_iff hl).2 fun p hp=>?_,closed_iff.2 fun p hp i hi hk hle=>?_⟩
 ·rw[e];omega
 ·rw[e] at hle;omega
theorem sum_totC:∀ {c:List Int},(∀z ∈ c,0<=z)->c.sum=totC c
 | [],_=>rfl
 | a :: c,h=>by
  have h0:=h a List.mem_cons_self
  have:=sum_totC (c:=c) fun z hz=>h z (List.mem_cons_of_mem _ hz)
  unfold totC at *
  rw[List.sum_cons,List.map_cons,List.sum_cons,this]
  omega
theorem sum_le_off {ps:List Pr}{c:List Int}(h:isF ps c=true):c.sum<=off ps ps.length:=by
 obtain⟨h1,h2,_⟩:=isF_iff.1 h
 have h3:=totC_le h1 h2
 have h4:=sum_totC (isF_nonneg h)
 omega
def cumF (ps:List Pr)(k:Nat):List (List Int):=(List.range k).flatMap (levF ps)
def cutsF (ps:List Pr):List (List Int):=cumF ps (off ps ps.length+1)
end Go.AL
end
section
namespace Go.AL
open Go Go.RowKit Proofs.Tryz
set_option maxRecDepth 4000
end Go.AL
end
section
namespace Go.AL
open Go Go.RowKit Go.Sort Go.Proofs Go.Shelf Proofs.Tryz
set_option maxRecDepth 4000
end Go.AL
end
section
namespace Go.AL
open Go Go.RowKit Proofs.Tryz
set_option maxRecDepth 4000
def needE (ps:List Pr)(e:Ev):Eid:=if e.kind=3 then sndr ps e.msg else (0,0)
theorem AppSt.snoc {t:TypeId}{k:Nat}{ys:List AV}{x:AV}(b cap n:Nat)(hn:n=ys.length+1):AppSt t k (ys ++ [x]) (.ls b k 0 n cap) [(b,.row t k (ys ++ [x]) cap)]:=by
 subst hn
 have:=AppSt.row (t:=t) (k:=k) b (ys ++ [x]) cap
 rwa [List.length_append] at this
theorem cAt_stp {c:List Int}{p q:Nat}(hq:q<c.length):cAt (stpC c p) q=if p=q then cAt c q+1 else cAt c q:=by
 unfold stpC
 rw[setc_cAt hq]
 split
 ·rename_i e;rw[e]
 ·rfl
theorem stp_iff {ps:List Pr}(hv:validF ps=true){c:List Int}(hc:isF ps c=true){p:Nat}(hp:p<ps.length){i:Nat}(hi:i<ps[p].evs.length)(hci:cAt c p=i) :
  isF ps (stpC c p)=true↔(needE ps ps[p].evs[i]).2<=cAt c (needE ps ps[p].evs[i]).1:=by
 obtain⟨h1,h2,h3⟩:=isF_iff.1 hc
 have hm:=(valid_parts hv).2.2
 have hr:=(inRange_iff h1).1 h2
 have hlen:(stpC c p).length=ps.length:=by unfold stpC;rw[List.length_set,h1]
 have hmono:∀q,q<ps.length->cAt c q<=cAt (stpC c p) q:=fun q hq=>by rw[cAt_stp (by omega)];split <;> omega
 unfold needE
 constructor
 ·intro h
  obtain⟨_,_,g3⟩:=isF_iff.1 h
  by_cases hk:ps[p].evs[i].kind=3
  ·rw[if_pos hk]
   have:=closed_iff.1 g3 p hp i hi hk (by rw[cAt_stp (by omega),if_pos rfl,hci];omega)
   obtain⟨s,hs,j,hj,e,hk2,_⟩:=sndr_some (recv_sndr hm hp hi hk)
   rw[e] at this ⊢
   dsimp only at this ⊢
   rw[cAt_stp (by omega)] at this
   split at this
   ·rename_i es;subst es
    by_cases hji:j=i
    ·subst hji;omega
    ·omega
   ·exact this
  ·rw[if_neg hk]
   have:=(hr 0 (by omega)).1
   simpa using this
 ·intro h
  refine isF_iff.2 ⟨hlen,(inRange_iff hlen).2 fun q hq=>?_,closed_iff.2 fun q hq i' hi' hk hle=>?_⟩
  ·have:=hr q hq
   rw[cAt_stp (by omega)]
   split
   ·rename_i e;subst e;omega
   ·exact this
  ·obtain⟨s,hs,j,hj,e,hk2,_⟩:=sndr_some (recv_sndr hm hq hi' hk)
   have hms:=hmono s hs
   by_cases hnew:q=p/\i'=i
   ·obtain⟨rfl,rfl⟩:=hnew
    rw[if_pos hk,e] at h
    rw[e];dsimp only at h ⊢;omega
   ·have:=closed_iff.1 h3 q hq i' hi' hk (by
     rw[cAt_stp (by omega)] at hle
     split at hle
     ·rename_i e2;subst e2
      have:i' ≠ i:=fun e=>hnew ⟨rfl,e⟩
      omega
     ·exact hle)
    rw[e] at this ⊢;dsimp only at this ⊢;omega
def rdyF (ps:List Pr)(c:List Int)(p:Nat):Bool:=decide (cAt c p<nev ps p/\isF ps (stpC c p)=true)
theorem off_small {ps:List Pr}(hs:Sm ps):∀k,k<=ps.length->off ps k<=k * 1000000:=by
 intro k
 induction k with
 | zero=>intro _;simp [off]
 | succ k ih =>
  intro hk
  rw[off_succ (by omega)]
  have h1:=ih (by omega)
  have h2:=hs.evs _ (List.getElem_mem (show k<ps.length by omega))
  omega
def fullC (ps:List Pr):List Int:=ps.map fun x=>(x.evs.length:Int)
theorem fullC_at {ps:List Pr}{p:Nat}(hp:p<ps.length):cAt (fullC ps) p=ps[p].evs.length:=by
 unfold fullC
 rw[cAt_nat (by rw[List.length_map];exact hp),List.getElem_map]
theorem fullC_is {ps:List Pr}(hv:validF ps=true):isF ps (fullC ps)=true:=by
 have hl:(fullC ps).length=ps.length:=List.length_map _
 refine isF_iff.2 ⟨hl,(inRange_iff hl).2 fun p hp=>?_,closed_iff.2 fun p hp i hi hk _=>?_⟩
 ·rw[fullC_at hp];omega
 ·obtain⟨s,hs,j,hj,e,_,_⟩:=sndr_some (recv_sndr (valid_parts hv).2.2 hp hi hk)
  rw[e]
  simp only
  rw[fullC_at hs];omega
theorem fullC_sum (ps:List Pr):(fullC ps).sum=off ps ps.length:=by
 unfold fullC off
 rw[List.take_length]
 induction ps with
 | nil=>rfl
 | cons x ps ih=>rw[List.map_cons,List.sum_cons,ih,List.map_cons,List.sum_cons];omega
theorem trace_Count (ps:List Pr)(hs:Sm ps)(hv:validF ps=true):PC prog 40 [aTr ps] (ai (off ps ps.length:Nat)):=by
 have h1:=trace_Valid ps hs
 have h8:=(valid_len hv).2
 have hof:=off_small hs ps.length (Nat.le_refl _)
 have hE:(evArgs ps).length=off ps ps.length:=by unfold evArgs;rw[List.length_map,evIds_length]
 rw[hv] at h1
 refine PE 14 [.tmp 2] [1] func40 ?_;simp only[go_sem]
 refine Wk ?_
 refine Sd ?_
 refine Vu h1 ?_
 refine Wk ?_
 intro b3
 refine Wk ?_
 refine Sd ?_
 refine(trace_events ps).val.use ?_;simp only[go_sem]
 refine AWp.block (AWp.rangeFunc rfl [3] (evArgs ps) (fun k L=>L=[(b3,.row 3 1 [ai (k:Nat)] 1)]/\k<=(evArgs ps).length)
  (fun _ _=>False)
  rfl (trace_events1 ps hs) (fun x hx=>by obtain⟨k,hk⟩:=List.getElem?_of_mem hx;obtain⟨_,_,_,_,_,_,rfl⟩:=evArgs_inv hk;rfl) ⟨rfl,by omega⟩ ?_ ?_ ?_)
 ·rintro k x L' l hx ⟨rfl,hI⟩
  have hkl:=(List.getElem?_eq_some_iff.1 hx).1
  obtain⟨p,hp,i,hi,hk,hev,rfl⟩:=evArgs_inv hx
  simp only[go_sem]
  refine Wk ?_
  exact⟨_,.refl _,by simp,by omega⟩
 ·rintro L' ⟨rfl,hI⟩
  rw[hE]
  simp only[go_sem]
  refine Wk ?_
  exact Rz
 ·rintro e L' h
  exact h.elim
end Go.AL
end
section
namespace Go.AL
open Go Go.RowKit Proofs.Tryz
def astepF (C:Cfg)(all:List Oper)(o:Oper)(ρ:Env)(L:AHeap)(K:ARes):Prop :=
 match o.guard with
 | none=>aop C o ρ L K
 | some (j,want)=>match gval all ρ j want with
  | some b=>(b=want->aop C o ρ L K)/\(b ≠ want->K (put ρ o.dst .any) L)
  | none=>False
def aregionF (C:Cfg)(all:List Oper):List Oper->Env->AHeap->ARes->Prop
 | [],ρ,L,K=>K ρ L
 | o :: rest,ρ,L,K=>astepF C all o ρ L fun ρ L=>aregionF C all rest ρ L K
def aregFK (C:Cfg)(all rest:List Oper)(K:ARes)(ρ:Env)(L:AHeap):Prop:=aregionF C all rest ρ L K
theorem aregionF_nil (C:Cfg)(all:List Oper)(ρ:Env)(L:AHeap)(K:ARes):aregionF C all [] ρ L K=K ρ L:=rfl
theorem aregionF_cons (C:Cfg)(all rest:List Oper)(o:Oper)(ρ:Env)(L:AHeap)(K:ARes):aregionF C all (o :: rest) ρ L K=astepF C all o ρ L (aregFK C all rest K):=rfl
attribute [go_sem] aregionF_nil aregionF_cons astepF aregFK
end Go.AL
end
section
namespace Go.AL
open Go Go.RowKit Proofs.Tryz
set_option maxRecDepth 4000
section
variable {ps:List Pr} {ts:List Pd}
end
def leqF (a b:List Int):Bool:=decide (a.length=b.length) && (List.range a.length).all fun i=>decide (a.getD i 0<=b.getD i 0)
theorem leqF_iff {a b:List Int} : leqF a b=true↔a.length=b.length/\∀i,i<a.length->a.getD i 0<=b.getD i 0:=by
 unfold leqF
 rw[Bool.and_eq_true,List.all_eq_true,decide_eq_true_eq]
 exact⟨fun h=>⟨h.1,fun i hi=>of_decide_eq_true (h.2 i (List.mem_range.2 hi))⟩,fun h=>⟨h.1,fun i hi=>decide_eq_true (h.2 i (List.mem_range.1 hi))⟩⟩
def takC (c:List Int)(p:Nat):List Int:=c.set p (cAt c p - 1)
def remB (ps:List Pr)(c:List Int)(p:Nat):Bool:=decide (0<cAt c p) && isF ps (takC c p)
def remN (ps:List Pr)(c:List Int)(k:Nat):Nat:=((List.range k).filter (remB ps c)).length
def irrF (ps:List Pr)(c:List Int):Bool:=decide (remN ps c c.length=1)
section
variable {ps:List Pr} {c:List Int}
variable {j:List Int} {ch:Int->Int->Int}
end
section
variable {ps:List Pr} {c:List Int}
end
def ordL (a b:List Int):Prop:=a.sum<b.sum\/(a.sum=b.sum/\cmpL a b<0)
theorem isF_given {ps:List Pr}(hv:validF ps=true){c:List Int} : givenF ps [c] []=0↔isF ps c=true:=by
 rw[givenL,isF_iff];simp [hv,and_assoc]
theorem leq_iff_at {a b:List Int} : leqF a b=true↔a.length=b.length/\∀p:Nat,p<a.length->cAt a p<=cAt b p:=leqF_iff
theorem leq_sum:∀ {a b:List Int},leqF a b=true->a.sum<=b.sum/\(a.sum=b.sum->a=b)
 | [],[],_=>⟨Int.le_refl _,fun _=>rfl⟩
 | [],_ :: _,h=>by have:=(leqF_iff.1 h).1;simp at this
 | _ :: _,[],h=>by have:=(leqF_iff.1 h).1;simp at this
 | x :: a,y :: b,h=>by
  obtain⟨h1,h2⟩:=leqF_iff.1 h
  have h0:x<=y:=by simpa using h2 0 (by simp)
  obtain⟨i1,i2⟩:=leq_sum (a:=a) (b:=b) (leqF_iff.2 ⟨by simpa using h1,fun i hi=>by have:=h2 (i+1) (by simpa using hi);simpa using this⟩)
  rw[List.sum_cons,List.sum_cons]
  refine⟨by omega,fun h=>?_⟩
  rw[i2 (by omega),show x=y by omega]
section
variable {A:List (List Int)} (hA:A.Pairwise ordL)
include hA
end
def ptF (ps:List Pr)(p i:Nat):List Int:=closeF ps (stC ps.length p ((i:Int)+1))
section
variable {ps:List Pr} (hv:validF ps=true) {p:Nat} (hp:p<ps.length) {i:Nat} (hi:i<ps[p].evs.length)
include hv hp hi
theorem pt_is:isF ps (ptF ps p i)=true:=by
 obtain⟨a1,a2⟩:=stC_ok (k:=(i:Int)+1) hp (by omega) (by omega)
 obtain⟨b1,b2,_⟩:=closeF_ok hv a1 a2
 exact isF_iff.2 ⟨b1,b2,closeF_closed hv a1 a2⟩
theorem pt_has:(i:Int)+1<=cAt (ptF ps p i) p:=by
 obtain⟨a1,a2⟩:=stC_ok (k:=(i:Int)+1) hp (by omega) (by omega)
 have:=closeF_ge hv a1 a2 p hp
 rw[stC_cAt hp,if_pos rfl] at this
 exact this
end
theorem pt_least {ps:List Pr}(hv:validF ps=true){p:Nat}(hp:p<ps.length){i:Nat}{d:List Int}(hd:isF ps d=true)(h:(i:Int)+1<=cAt d p):∀q,q<ps.length->cAt (ptF ps p i) q<=cAt d q:=by
 obtain⟨d1,d2,d3⟩:=isF_iff.1 hd
 have:=need_le hv d1 d2 d3 (q:=p) (k:=i+1) hp (by omega)
 have e:(((i+1:Nat):Nat):Int)=(i:Int)+1:=by omega
 rw[e] at this
 exact this
theorem tak_at {c:List Int}{p q:Nat}(hq:q<c.length):cAt (takC c p) q=if p=q then cAt c p - 1 else cAt c q:=by
 unfold takC;rw[setc_cAt hq]
theorem rem_is {ps:List Pr}{c:List Int}{p:Nat}(h:remB ps c p=true):0<cAt c p/\isF ps (takC c p)=true:=by
 unfold remB at h
 rw[Bool.and_eq_true,decide_eq_true_eq] at h
 exact h
theorem rem_pt {ps:List Pr}(hv:validF ps=true){p:Nat}(hp:p<ps.length){i:Nat}(hi:i<ps[p].evs.length){q:Nat}(hq:q<ps.length)(h:remB ps (ptF ps p i) q=true):q=p/\cAt (ptF ps p i) p=(i:Int)+1:=by
 obtain⟨h0,ht⟩:=rem_is h
 have hl:=(isF_iff.1 (pt_is hv hp hi)).1
 have hh:=pt_has hv hp hi
 by_cases hx:(i:Int)+1<=cAt (takC (ptF ps p i) q) p
 ·have:=pt_least hv hp ht hx q hq
  rw[tak_at (by omega),if_pos rfl] at this
  omega
 ·rw[tak_at (by omega)] at hx
  split at hx
  ·rename_i e;subst e;exact⟨rfl,by omega⟩
  ·omega
theorem filt_one {f:Nat->Bool} : ∀ {n:Nat},((List.range n).filter f).length=1↔∃p,p<n/\f p=true/\∀q,q<n->f q=true->q=p
 | 0=>by simp
 | n+1=>by
  have ih:=filt_one (f:=f) (n:=n)
  rw[List.range_succ,List.filter_append,List.length_append]
  cases h:f n with
  | false =>
   simp only[List.filter_cons_of_neg (by rw[h];decide:¬f n=true),List.filter_nil,List.length_nil,Nat.add_zero]
   rw[ih]
   constructor
   ·rintro⟨p,h1,h2,h3⟩
    exact⟨p,by omega,h2,fun q hq hf=>h3 q (by
     by_cases e:q=n
     ·subst e;rw[h] at hf;cases hf
     ·omega) hf⟩
   ·rintro⟨p,h1,h2,h3⟩
    refine⟨p,?_,h2,fun q hq=>h3 q (by omega)⟩
    by_cases e:p=n
    ·subst e;rw[h] at h2;cases h2
    ·omega
  | true =>
   simp only[List.filter_cons_of_pos h,List.filter_nil,List.length_cons,List.length_nil]
   constructor
   ·intro h1
    have h0:(List.range n).filter f=[]:=List.eq_nil_of_length_eq_zero (by omega)
    rw[List.filter_eq_nil_iff] at h0
    refine⟨n,by omega,h,fun q hq hf=>?_⟩
    by_cases e:q=n
    ·exact e
    ·exact absurd hf (h0 q (List.mem_range.2 (by omega)))
   ·rintro⟨p,h1,h2,h3⟩
    have e:n=p:=h3 n (by omega) h
    have h0:(List.range n).filter f=[]:=List.filter_eq_nil_iff.2 fun q hq hf=>by
     have:=h3 q (by have:=List.mem_range.1 hq;omega) hf
     have:=List.mem_range.1 hq
     omega
    rw[h0];rfl
theorem irr_iff {ps:List Pr}{c:List Int} : irrF ps c=true↔∃p,p<c.length/\remB ps c p=true/\∀q,q<c.length->remB ps c q=true->q=p:=by
 unfold irrF remN
 rw[decide_eq_true_eq]
 exact filt_one
theorem irr_pt {ps:List Pr}(hv:validF ps=true){p:Nat}(hp:p<ps.length){i:Nat}(hi:i<ps[p].evs.length):irrF ps (ptF ps p i)=true/\cAt (ptF ps p i) p=(i:Int)+1/\remB ps (ptF ps p i) p=true:=by
 have his:=pt_is hv hp hi
 obtain⟨hl,hr,hcl⟩:=isF_iff.1 his
 have hh:=pt_has hv hp hi
 obtain⟨q,hq,h0,r1,r2⟩:=cut_remove hv hl hr hcl ⟨p,hp,by omega⟩
 have hrm:remB ps (ptF ps p i) q=true:=by
  unfold remB
  rw[decide_eq_true h0,Bool.true_and]
  exact isF_iff.2 ⟨by unfold takC;rw[List.length_set];exact hl,r1,r2⟩
 obtain⟨rfl,he⟩:=rem_pt hv hp hi hq hrm
 exact⟨irr_iff.2 ⟨q,by omega,hrm,fun r hr hrr=>(rem_pt hv hp hi (by omega) hrr).1⟩,he,hrm⟩
abbrev Syn:=Eid × Eid
def dirE (ps:List Pr)(p i:Nat):List Eid:=(if 0<i then [((p:Int),(i:Int))] else []) ++ (if (evq ps p i).kind=3 then [sndr ps (evq ps p i).msg] else [])
def dirX (ps:List Pr)(l:List Syn)(p i:Nat):List Eid:=dirE ps p i ++ (l.filter fun s=>decide (s.2=((p:Int),(i:Int)+1))).map (·.1)
def nedX (S:Nat->List (List Int))(y:Eid):List Int:=stOf S y.1.toNat y.2.toNat
def RdyX (ps:List Pr)(l:List Syn)(S:Nat->List (List Int))(p:Nat):Prop :=
 p<ps.length/\(S p).length<=nev ps p/\∀y ∈ dirX ps l p ((S p).length - 1),y.2.toNat<(S y.1.toNat).length
def vecX (ps:List Pr)(l:List Syn)(S:Nat->List (List Int))(p k:Nat):List Int:=((dirX ps l p (k - 1)).foldl (fun v y=>joinL v (nedX S y)) (List.replicate ps.length 0)).set p (k:Int)
inductive GenX (ps:List Pr)(l:List Syn):(Nat->List (List Int))->Prop
 | init:GenX ps l fun _=>[List.replicate ps.length 0]
 | step {S:Nat->List (List Int)} {p:Nat} : GenX ps l S->RdyX ps l S p->GenX ps l (upS S p (vecX ps l S p (S p).length))
section
variable {ps:List Pr} {l:List Syn} {S S':Nat->List (List Int)}
theorem GenX.pos (h:GenX ps l S):∀p,1<=(S p).length:=by
 induction h with
 | init=>intro p;simp
 | @step S r h hr ih=>intro p;exact Nat.le_trans (ih p) (upS_le S r _ p)
theorem GenX.zero (h:GenX ps l S):∀p,stOf S p 0=List.replicate ps.length 0:=by
 induction h with
 | init=>intro p;rfl
 | @step S r h hr ih=>intro p;rw[upS_old (h.pos p)];exact ih p
theorem GenX.top (h:GenX ps l S):∀p,(S p).length<=nev ps p+1:=by
 induction h with
 | init=>intro p;simp
 | @step S r h hr ih =>
  intro p
  rw[upS_len]
  split
  ·rename_i e;subst e;have:=hr.2.1;omega
  ·exact ih p
theorem vecX_congr {p k:Nat}(h:∀y ∈ dirX ps l p (k - 1),nedX S' y=nedX S y):vecX ps l S' p k=vecX ps l S p k:=by
 unfold vecX
 generalize dirX ps l p (k - 1)=D at *
 generalize List.replicate ps.length (0:Int)=v
 congr 1
 induction D generalizing v with
 | nil=>rfl
 | cons y D ih =>
  rw[List.foldl_cons,List.foldl_cons,h y (by simp)]
  exact ih (fun z hz=>h z (List.mem_cons_of_mem _ hz)) _
theorem GenX.entry (h:GenX ps l S):∀p k,1<=k->k<(S p).length->p<ps.length/\k<=nev ps p/\(∀y ∈ dirX ps l p (k - 1),y.2.toNat<(S y.1.toNat).length)/\stOf S p k=vecX ps l S p k:=by
 induction h with
 | init=>intro p k h1 h2;simp at h2;omega
 | @step S r h hr ih =>
  intro p k h1 h2
  have hlt:∀y:Eid,y.2.toNat<(S y.1.toNat).length->y.2.toNat<(upS S r (vecX ps l S r (S r).length) y.1.toNat).length:=fun y hy=>Nat.lt_of_lt_of_le hy (upS_le S r _ _)
  have hold:∀y:Eid,y.2.toNat<(S y.1.toNat).length->nedX (upS S r (vecX ps l S r (S r).length)) y=nedX S y:=fun y hy=>upS_old hy
  by_cases hk:k<(S p).length
  ·obtain⟨a1,a2,a3,a4⟩:=ih p k h1 hk
   refine⟨a1,a2,fun y hy=>hlt y (a3 y hy),?_⟩
   rw[upS_old hk,a4]
   exact(vecX_congr fun y hy=>hold y (a3 y hy)).symm
  ·rw[upS_len] at h2
   by_cases e:p=r
   ·subst e
    rw[if_pos rfl] at h2
    have hke:k=(S p).length:=by omega
    subst hke
    refine⟨hr.1,hr.2.1,fun y hy=>hlt y (hr.2.2 y hy),?_⟩
    rw[upS_new]
    exact(vecX_congr fun y hy=>hold y (hr.2.2 y hy)).symm
   ·rw[if_neg e] at h2;omega
theorem GenX.agree (h:GenX ps l S)(h':GenX ps l S'):∀p k,k<(S p).length->k<(S' p).length->stOf S p k=stOf S' p k:=by
 induction h with
 | init =>
  intro p k h1 h2
  have:k=0:=by simp at h1;omega
  subst this
  rw[h'.zero];rfl
 | @step S r h hr ih =>
  intro p k h1 h2
  by_cases hk:k<(S p).length
  ·rw[upS_old hk];exact ih p k hk h2
  ·rw[upS_len] at h1
   by_cases e:p=r
   ·subst e
    rw[if_pos rfl] at h1
    have hke:k=(S p).length:=by omega
    subst hke
    obtain⟨_,_,a3,a4⟩:=h'.entry p _ (h.pos p) h2
    rw[upS_new,a4]
    exact(vecX_congr fun y hy=>(ih _ _ (hr.2.2 y hy) (a3 y hy)).symm).symm
   ·rw[if_neg e] at h1;omega
theorem GenX.under (h:GenX ps l S)(h':GenX ps l S')(hst:∀p,¬RdyX ps l S' p):∀p,(S p).length<=(S' p).length:=by
 induction h with
 | init=>intro p;have:=h'.pos p;simpa using this
 | @step S r h hr ih =>
  intro p
  rw[upS_len]
  split
  ·rename_i e
   subst e
   refine Nat.lt_of_le_of_ne (ih p) fun e=>hst p ⟨hr.1,by have:=hr.2.1;omega,fun y hy=>?_⟩
   rw[<- e] at hy
   exact Nat.lt_of_lt_of_le (hr.2.2 y hy) (ih _)
  ·exact ih p
theorem GenX.uniq (h:GenX ps l S)(hs:∀p,¬RdyX ps l S p)(h':GenX ps l S')(hs':∀p,¬RdyX ps l S' p):S=S':=by
 funext p
 have e:(S p).length=(S' p).length:=Nat.le_antisymm (h.under h' hs' p) (h'.under h hs p)
 refine List.ext_getElem e fun k h1 h2=>?_
 have:=h.agree h' p k h1 h2
 unfold stOf at this
 rwa [List.getD_eq_getElem?_getD,List.getElem?_eq_getElem h1,List.getD_eq_getElem?_getD,List.getElem?_eq_getElem h2] at this
end
open Classical in
noncomputable def exF (ps:List Pr)(l:List Syn):Nat->List (List Int):=if h:∃S,GenX ps l S/\∀p,¬RdyX ps l S p then Classical.choose h else fun _=>[]
theorem exF_eq {ps:List Pr}{l:List Syn}{S:Nat->List (List Int)}(h:GenX ps l S)(hs:∀p,¬RdyX ps l S p):exF ps l=S:=by
 have hx:∃S,GenX ps l S/\∀p,¬RdyX ps l S p:=⟨S,h,hs⟩
 unfold exF
 rw[dif_pos hx]
 exact(Classical.choose_spec hx).1.uniq (Classical.choose_spec hx).2 h hs
def CloX (ps:List Pr)(l:List Syn)(d:Nat->Int):Prop:=∀a,a<ps.length->∀i,i<nev ps a->(i:Int)+1<=d a->∀y ∈ dirX ps l a i,y.2<=d y.1.toNat
def SynOk (ps:List Pr)(l:List Syn):Prop:=∀s ∈ l,(0<=s.1.1/\s.1.1<ps.length/\1<=s.1.2/\s.1.2<=nev ps s.1.1.toNat)/\(0<=s.2.1/\s.2.1<ps.length/\1<=s.2.2/\s.2.2<=nev ps s.2.1.toNat)
theorem dirX_ev {ps:List Pr}(hv:validF ps=true){l:List Syn}(hl:SynOk ps l){p i:Nat}(hp:p<ps.length)(hi:i<nev ps p):∀y ∈ dirX ps l p i,0<=y.1/\y.1<ps.length/\1<=y.2/\y.2<=nev ps y.1.toNat:=fun y hy=>by
 unfold dirX dirE at hy
 rw[List.mem_append,List.mem_append] at hy
 rcases hy with (hy|hy)|hy
 ·split at hy
  ·rw[List.mem_singleton] at hy
   subst hy
   simp only[Int.toNat_natCast]
   omega
  ·cases hy
 ·split at hy
  ·rename_i hk
   rw[List.mem_singleton] at hy
   subst hy
   have hn:=nev_get hp
   rw[evq_get hp (by omega)] at hk ⊢
   obtain⟨q,hq,j,hj,e,_⟩:=sndr_some (recv_sndr (valid_parts hv).2.2 hp (by omega) hk)
   rw[e]
   have:=nev_get hq
   simp only[Int.toNat_natCast]
   omega
  ·cases hy
 ·obtain⟨s,hs,rfl⟩:=List.mem_map.1 hy
  exact(hl s (List.mem_filter.1 hs).1).1
structure StX (ps:List Pr)(l:List Syn)(S:Nat->List (List Int))(p k:Nat):Prop where
 len:(stOf S p k).length=ps.length
 own:p<ps.length->(stOf S p k).getD p 0=(k:Int)
 le:∀j,(stOf S p k).getD j 0<(S j).length
 nn:∀j,0<=(stOf S p k).getD j 0
 clo:CloX ps l fun j=>(stOf S p k).getD j 0
 least:∀d:Nat->Int,CloX ps l d->(∀j,0<=d j)->(k:Int)<=d p->∀j,(stOf S p k).getD j 0<=d j
structure JnX (ps:List Pr)(l:List Syn)(S:Nat->List (List Int))(D:List Eid)(v:List Int):Prop where
 len:v.length=ps.length
 le:∀j,v.getD j 0<(S j).length
 nn:∀j,0<=v.getD j 0
 clo:CloX ps l fun j=>v.getD j 0
 has:∀y ∈ D,y.2<=v.getD y.1.toNat 0
 least:∀d:Nat->Int,CloX ps l d->(∀j,0<=d j)->(∀y ∈ D,y.2<=d y.1.toNat)->∀j,v.getD j 0<=d j
theorem joinL_getD {v w:List Int}(h:v.length=w.length)(j:Nat):(joinL v w).getD j 0=if v.getD j 0<w.getD j 0 then w.getD j 0 else v.getD j 0:=by
 by_cases hj:j<v.length
 ·have:=join_cAt h hj
  unfold cAt at this
  rw[Int.toNat_natCast] at this
  exact this
 ·have h1:=join_len h
  rw[List.getD_eq_getElem?_getD,List.getElem?_eq_none (by omega),List.getD_eq_getElem?_getD,List.getElem?_eq_none (by omega),List.getD_eq_getElem?_getD,List.getElem?_eq_none (by omega)]
  simp
theorem JnX.add {ps:List Pr}{l:List Syn}{S:Nat->List (List Int)}{D:List Eid}{v:List Int}(h:JnX ps l S D v){y:Eid}(hy:StX ps l S y.1.toNat y.2.toNat)(hp:y.1.toNat<ps.length)(h0:0<=y.2):JnX ps l S (D ++ [y]) (joinL v (nedX S y)):=by
 have hl:v.length=(nedX S y).length:=by rw[h.len];exact hy.len.symm
 have hg:=joinL_getD hl
 have hown:=hy.own hp
 refine⟨by rw[join_len hl,h.len],fun j=>?_,fun j=>?_,fun a ha i hi hd z hz=>?_,fun z hz=>?_,fun d h1 h2 h3 j=>?_⟩
 ·rw[hg];have:=h.le j;have:=hy.le j;unfold nedX;split <;> omega
 ·rw[hg];have:=h.nn j;have:=hy.nn j;unfold nedX;split <;> omega
 ·simp only[hg] at hd ⊢
  have c1:=h.clo a ha i hi
  have c2:=hy.clo a ha i hi
  unfold nedX at hd ⊢
  simp only at c1 c2
  split at hd
  ·have:=c2 hd z hz;split <;> omega
  ·have:=c1 hd z hz;split <;> omega
 ·rw[hg]
  rcases List.mem_append.1 hz with hz|hz
  ·have:=h.has z hz;split <;> omega
  ·rw[List.mem_singleton] at hz
   subst hz
   unfold nedX
   rw[hown]
   split <;> omega
 ·rw[hg]
  have c1:=h.least d h1 h2 (fun z hz=>h3 z (List.mem_append_left _ hz)) j
  have c2:=hy.least d h1 h2 (by have:=h3 y (by simp);omega) j
  unfold nedX
  split <;> omega
theorem GenX.join {ps:List Pr}{l:List Syn}{S:Nat->List (List Int)}(h0:∀p,1<=(S p).length):∀(D E:List Eid) (v:List Int),JnX ps l S E v->(∀y ∈ D,StX ps l S y.1.toNat y.2.toNat/\y.1.toNat<ps.length/\0<=y.2)->JnX ps l S (E ++ D) (D.foldl (fun v y=>joinL v (nedX S y)) v)
 | [],E,v,hv,_=>by rw[List.append_nil];exact hv
 | y :: D,E,v,hv,hD=>by
  obtain⟨a1,a2,a3⟩:=hD y (by simp)
  have:=GenX.join h0 D (E ++ [y]) _ (hv.add a1 a2 a3) fun z hz=>hD z (List.mem_cons_of_mem _ hz)
  rwa [List.append_assoc] at this
theorem getD_zeros (n j:Nat):(List.replicate n (0:Int)).getD j 0=0:=by
 rw[List.getD_eq_getElem?_getD,List.getElem?_replicate];split <;> rfl
theorem JnX.nil {ps:List Pr}{l:List Syn}{S:Nat->List (List Int)}(h0:∀p,1<=(S p).length):JnX ps l S [] (List.replicate ps.length 0):=by
 refine⟨by simp,fun j=>?_,fun j=>?_,fun a ha i hi hd=>?_,fun y hy=>(nomatch hy),fun d _ h2 _ j=>?_⟩
 ·rw[getD_zeros];have:=h0 j;omega
 ·rw[getD_zeros];omega
 ·simp only[getD_zeros] at hd;omega
 ·rw[getD_zeros];exact h2 j
theorem GenX.st {ps:List Pr}(hv:validF ps=true){l:List Syn}(hl:SynOk ps l){S:Nat->List (List Int)}(h:GenX ps l S):∀p k,k<(S p).length->StX ps l S p k:=by
 induction h with
 | init =>
  intro p k hk
  have:k=0:=by simp at hk;omega
  subst this
  show StX ps l _ p 0
  have e:stOf (fun _=>[List.replicate ps.length (0:Int)]) p 0=List.replicate ps.length 0:=rfl
  constructor
  ·rw[e];simp
  ·intro _;rw[e,getD_zeros];rfl
  ·intro j;rw[e,getD_zeros];simp
  ·intro j;rw[e,getD_zeros];omega
  ·intro a ha i hi hd;simp only[e,getD_zeros] at hd;omega
  ·intro d _ h2 _ j;rw[e,getD_zeros];exact h2 j
 | @step S r h hr ih =>
  have hle:=fun q=>upS_le S r (vecX ps l S r (S r).length) q
  intro p k hk
  by_cases hold:k<(S p).length
  ·obtain⟨a1,a2,a3,a4,a5,a6⟩:=ih p k hold
   have e:stOf (upS S r (vecX ps l S r (S r).length)) p k=stOf S p k:=upS_old hold
   constructor
   ·rw[e];exact a1
   ·rw[e];exact a2
   ·rw[e];exact fun j=>Int.lt_of_lt_of_le (a3 j) (by have:=hle j;omega)
   ·rw[e];exact a4
   ·rw[e];exact a5
   ·rw[e];exact a6
  ·have hl2:=upS_len S r (vecX ps l S r (S r).length)
   rw[hl2] at hk
   by_cases e:p=r
   ·subst e
    rw[if_pos rfl] at hk
    have hke:k=(S p).length:=by omega
    subst hke
    obtain⟨hp,htop,hdep⟩:=hr
    have hpos:=h.pos p
    have hev:=dirX_ev hv hl (p:=p) (i:=(S p).length - 1) hp (by omega)
    have hJ:=GenX.join h.pos (dirX ps l p ((S p).length - 1)) [] _ (JnX.nil (l:=l) h.pos) fun y hy=>by
     obtain⟨b1,b2,b3,b4⟩:=hev y hy
     exact⟨ih _ _ (hdep y hy),by omega,by omega⟩
    rw[List.nil_append] at hJ
    have hnew:stOf (upS S p (vecX ps l S p (S p).length)) p (S p).length=vecX ps l S p (S p).length:=upS_new
    have hvec:vecX ps l S p (S p).length=((dirX ps l p ((S p).length - 1)).foldl (fun v y=>joinL v (nedX S y)) (List.replicate ps.length 0)).set p ((S p).length:Int):=rfl
    generalize (dirX ps l p ((S p).length - 1)).foldl (fun v y=>joinL v (nedX S y)) (List.replicate ps.length 0)=v at *
    have hset:∀j,(v.set p ((S p).length:Int)).getD j 0=if p=j then ((S p).length:Int) else v.getD j 0:=fun j=>by
     rw[List.getD_eq_getElem?_getD,List.getElem?_set,List.getD_eq_getElem?_getD]
     split
     ·rw[if_pos (by rw[hJ.len];exact hp)];rfl
     ·rfl
    have hvp:v.getD p 0<((S p).length:Int):=hJ.le p
    constructor
    ·rw[hnew,hvec,List.length_set];exact hJ.len
    ·intro _;rw[hnew,hvec,hset,if_pos rfl]
    ·intro j
     rw[hnew,hvec,hset,<- hvec,hl2]
     split
     ·rename_i e;rw[if_pos e.symm];omega
     ·rename_i e;rw[if_neg fun h=>e h.symm];exact hJ.le j
    ·intro j;rw[hnew,hvec,hset];have:=hJ.nn j;split <;> omega
    ·intro a ha i hi hd z hz
     rw[hnew,hvec] at hd ⊢
     simp only[hset] at hd ⊢
     have hz2:z.2<=v.getD z.1.toNat 0:=by
      by_cases hpa:p=a
      ·subst hpa
       rw[if_pos rfl] at hd
       by_cases hlast:i=(S p).length - 1
       ·subst hlast
        exact hJ.has z hz
       ·-- an older event of the process: the process's last one needs it
        have hprev:((p:Int),(((S p).length - 1:Nat):Int)) ∈ dirX ps l p ((S p).length - 1):=by
         unfold dirX dirE
         rw[if_pos (by omega)]
         simp
        have h1:=hJ.has _ hprev
        simp only[Int.toNat_natCast] at h1
        exact hJ.clo p ha i hi (by show (i:Int)+1<=v.getD p 0;omega) z hz
      ·rw[if_neg hpa] at hd
       exact hJ.clo a ha i hi hd z hz
     split
     ·rename_i e;rw[<- e] at hz2;omega
     ·exact hz2
    ·intro d h1 h2 h3 j
     rw[hnew,hvec,hset]
     split
     ·rename_i e;subst e;exact h3
     ·refine hJ.least d h1 h2 (fun y hy=>?_) j
      refine h1 p hp ((S p).length - 1) (by omega) (by omega) y hy
   ·rw[if_neg e] at hk;omega
theorem CloX.of_isF {ps:List Pr}(hv:validF ps=true){d:List Int}(hd:isF ps d=true):CloX ps [] fun j=>d.getD j 0:=fun a ha i hi hdi y hy=>by
 obtain⟨h1,h2,h3⟩:=isF_iff.1 hd
 have hn:=nev_get ha
 unfold dirX dirE at hy
 simp only[List.filter_nil,List.map_nil,List.append_nil] at hy
 rcases List.mem_append.1 hy with hy|hy
 ·split at hy
  ·rw[List.mem_singleton] at hy
   subst hy
   simp only[Int.toNat_natCast]
   simp only at hdi
   omega
  ·cases hy
 ·split at hy
  ·rename_i hk
   rw[List.mem_singleton] at hy
   subst hy
   rw[evq_get ha (by omega)] at hk ⊢
   exact closed_iff.1 h3 a ha i (by omega) hk (by unfold cAt;rw[Int.toNat_natCast];exact hdi)
  ·cases hy
theorem isF_of_CloX {ps:List Pr}{l:List Syn}{d:List Int}(h1:d.length=ps.length)(h2:inRangeF ps d=true)(h:CloX ps l fun j=>d.getD j 0):isF ps d=true:=by
 refine isF_iff.2 ⟨h1,h2,closed_iff.2 fun p hp i hi hk hc=>?_⟩
 have hn:=nev_get hp
 unfold cAt at hc ⊢
 rw[Int.toNat_natCast] at hc
 refine h p hp i (by omega) hc _ ?_
 unfold dirX dirE
 rw[evq_get hp hi,if_pos hk]
 simp
end Go.AL
end
section
namespace Go.AL
open Go Go.RowKit Proofs.Tryz
set_option maxRecDepth 4000
theorem argmin (f:Nat->Nat)(P:Nat->Prop):∀n,(∃p,p<n/\P p)->∃p,p<n/\P p/\∀q,q<n->P q->f p<=f q
 | 0,⟨_,h,_⟩=>by omega
 | n+1,⟨p,hp,hP⟩=>by
  by_cases hn:∃p,p<n/\P p
  ·obtain⟨a,a1,a2,a3⟩:=argmin f P n hn
   by_cases hb:P n/\f n<f a
   ·refine⟨n,by omega,hb.1,fun q hq hQ=>?_⟩
    by_cases e:q=n
    ·subst e;exact Nat.le_refl _
    ·have:=a3 q (by omega) hQ;omega
   ·refine⟨a,by omega,a2,fun q hq hQ=>?_⟩
    by_cases e:q=n
    ·subst e
     have:¬f q<f a:=fun h=>hb ⟨hQ,h⟩
     omega
    ·exact a3 q (by omega) hQ
  ·have e:p=n:=by
    by_cases e:p=n
    ·exact e
    ·exact absurd ⟨p,by omega,hP⟩ hn
   subst e
   refine⟨p,by omega,hP,fun q hq hQ=>?_⟩
   by_cases e:q=p
   ·subst e;exact Nat.le_refl _
   ·exact absurd ⟨q,by omega,hQ⟩ hn
theorem add_below {ps:List Pr}(hv:validF ps=true){c d:List Int}(hc:isF ps c=true)(hd:isF ps d=true)(hle:∀q:Nat,q<ps.length->cAt c q<=cAt d q)(hne:∃q:Nat,q<ps.length/\cAt c q<cAt d q) :
  ∃q:Nat,q<ps.length/\cAt c q<cAt d q/\rdyF ps c q=true:=by
 obtain⟨hl,hr,hcl⟩:=isF_iff.1 hc
 obtain⟨dl,dr,dcl⟩:=isF_iff.1 hd
 have hm:=(valid_parts hv).2.2
 have hrr:=(inRange_iff hl).1 hr
 have drr:=(inRange_iff dl).1 dr
 obtain⟨p,hp,hp0,hmin⟩:=argmin (fun p=>anc ps ((p:Int),cAt c p+1)) (fun p=>cAt c p<cAt d p) ps.length hne
 have h1:=hrr p hp
 have h2:=drr p hp
 have hi:(cAt c p).toNat<ps[p].evs.length:=by omega
 have hci:cAt c p=((cAt c p).toNat:Nat):=by omega
 refine⟨p,hp,hp0,?_⟩
 unfold rdyF
 rw[decide_eq_true_eq]
 refine⟨by rw[nev_get hp];omega,(stp_iff hv hc hp hi hci).2 ?_⟩
 unfold needE
 split
 ·rename_i hk
  obtain⟨s,hs,j,hj,e,_,_⟩:=sndr_some (recv_sndr hm hp hi hk)
  have hn:=nx_send hm hp hi hk
  have hcd:=closed_iff.1 dcl p hp _ hi hk (by omega)
  rw[e] at hn hcd ⊢
  simp only at hcd ⊢
  by_cases hle2:(j:Int)+1<=cAt c s
  ·exact hle2
  ·exfalso
   have h3:=hmin s hs (by omega)
   have h4:=anc_lt hv ⟨s,hs,j,hj,rfl⟩ (.single hn)
   have h5:=hrr s hs
   have h6:=anc_line hv hs (i:=(cAt c s).toNat) (j:=j) (by omega) hj
   have h7:(((cAt c s).toNat:Nat):Int)=cAt c s:=by omega
   have h8:(((cAt c p).toNat:Nat):Int)=cAt c p:=by omega
   rw[h7] at h6
   rw[h8] at h4
   omega
 ·have:=(hrr 0 (by omega)).1
  simpa using this
theorem rdy_is {ps:List Pr}{c:List Int}{p:Nat}(h:rdyF ps c p=true):isF ps (stpC c p)=true:=(of_decide_eq_true h).2
def firstP (ps:List Pr)(perm:List Int->Bool)(c:List Int):Option Nat:=(List.range c.length).find? fun p=>rdyF ps c p && perm (stpC c p)
theorem firstP_some {ps:List Pr}{f:List Int->Bool}{c:List Int}{p:Nat}(h:firstP ps f c=some p):p<c.length/\rdyF ps c p=true/\f (stpC c p)=true:=by
 have h1:=List.find?_some h
 have h2:=List.mem_of_find?_eq_some h
 rw[Bool.and_eq_true] at h1
 exact⟨List.mem_range.1 h2,h1.1,h1.2⟩
theorem firstP_none {ps:List Pr}{f:List Int->Bool}{c:List Int}(h:firstP ps f c=none){p:Nat}(hp:p<c.length)(hr:rdyF ps c p=true):f (stpC c p)=false:=by
 have:=List.find?_eq_none.1 h p (List.mem_range.2 hp)
 rw[hr,Bool.true_and] at this
 simpa using this
def wlkR (ps:List Pr)(perm:List Int->Bool):Nat->List Int->Option (List (List Int))
 | 0,_=>some []
 | n+1,c=>match firstP ps perm c with
  | none=>none
  | some p=>(wlkR ps perm n (stpC c p)).map (stpC c p :: ·)
theorem wlkR_succ (ps:List Pr)(perm:List Int->Bool)(n:Nat)(c:List Int):wlkR ps perm (n+1) c=match firstP ps perm c with
  | none=>none
  | some p=>(wlkR ps perm n (stpC c p)).map (stpC c p :: ·):=rfl
theorem leq_stp {ps:List Pr}{c d:List Int}(hc:c.length=ps.length)(h:∀q:Nat,q<ps.length->cAt c q<=cAt d q)(hd:d.length=ps.length){p:Nat}(hp:cAt c p<cAt d p):∀q:Nat,q<ps.length->cAt (stpC c p) q<=cAt d q:=fun q hq=>by
 rw[cAt_stp (by omega)]
 split
 ·rename_i e;subst e;omega
 ·exact h q hq
theorem leq_at {a b:List Int}{n:Nat}(ha:a.length=n)(hb:b.length=n):leqF a b=true↔∀q:Nat,q<n->cAt a q<=cAt b q:=by
 rw[leq_iff_at,ha,hb]
 exact⟨fun h=>h.2,fun h=>⟨rfl,h⟩⟩
theorem stp_len (c:List Int)(p:Nat):(stpC c p).length=c.length:=by unfold stpC;rw[List.length_set]
theorem leq_full {ps:List Pr}{c:List Int}(h:isF ps c=true):leqF c (fullC ps)=true:=by
 obtain⟨hl,hr,_⟩:=isF_iff.1 h
 refine(leq_at hl (by unfold fullC;rw[List.length_map])).2 fun q hq=>?_
 rw[fullC_at hq]
 exact((inRange_iff hl).1 hr q hq).2
section
variable {ps:List Pr} (hv:validF ps=true)
include hv
theorem first_to {c to:List Int}(hc:isF ps c=true)(ht:isF ps to=true)(hle:leqF c to=true)(hne:c.sum<to.sum):∃p,firstP ps (fun d=>leqF d to) c=some p/\p<ps.length/\isF ps (stpC c p)=true/\leqF (stpC c p) to=true:=by
 have hl:=(isF_iff.1 hc).1
 have tl:=(isF_iff.1 ht).1
 have h1:=(leq_at hl tl).1 hle
 have hex:∃q:Nat,q<ps.length/\cAt c q<cAt to q:=by
  apply Classical.byContradiction
  intro hn
  have:c=to:=by
   apply List.ext_getElem (by omega)
   intro i g1 g2
   rw[<- cAt_nat g1,<- cAt_nat g2]
   have:=h1 i (by omega)
   have:¬cAt c i<cAt to i:=fun h=>hn ⟨i,by omega,h⟩
   omega
  rw[this] at hne;omega
 obtain⟨q,hq,hq1,hq2⟩:=add_below hv hc ht h1 hex
 have hlq:leqF (stpC c q) to=true:=(leq_at (by rw[stp_len];exact hl) tl).2 (leq_stp hl h1 tl hq1)
 cases hf:firstP ps (fun d=>leqF d to) c with
 | none =>
  have:=firstP_none hf (p:=q) (by omega) hq2
  rw[hlq] at this;cases this
 | some p =>
  obtain⟨a1,a2,a3⟩:=firstP_some hf
  exact⟨p,rfl,by omega,rdy_is a2,a3⟩
theorem wlk_to {to:List Int}(ht:isF ps to=true):∀(n:Nat) (c:List Int),isF ps c=true->leqF c to=true->c.sum+n=to.sum->∃R,wlkR ps (fun d=>leqF d to) n c=some R/\R.length=n/\(∀d ∈ R,isF ps d=true/\leqF d to=true)/\(c :: R).getLast?=some to
 | 0,c,hc,hle,hs=>by
  have:c=to:=(leq_sum hle).2 (by omega)
  subst this
  exact⟨[],rfl,rfl,fun d hd=>(by cases hd),rfl⟩
 | n+1,c,hc,hle,hs=>by
  obtain⟨p,h1,h2,h3,h4⟩:=first_to hv hc ht hle (by omega)
  have hsum:(stpC c p).sum=c.sum+1:=sum_stpC (by have:=(isF_iff.1 hc).1;omega)
  obtain⟨R,g1,g2,g3,g4⟩:=wlk_to ht n (stpC c p) h3 h4 (by omega)
  refine⟨stpC c p :: R,by rw[wlkR_succ,h1];simp only[g1,Option.map_some],by rw[List.length_cons,g2],fun d hd=>?_,?_⟩
  ·rcases List.mem_cons.1 hd with rfl|hd
   ·exact⟨h3,h4⟩
   ·exact g3 d hd
  ·rw[List.getLast?_cons_cons];exact g4
end
def stepG (a b:List Int):Nat->Option Int
 | 0=>some (-1)
 | k+1=>match stepG a b k with
  | none=>none
  | some p=>if cAt a k=cAt b k then some p else if 0<=p\/¬cAt b k=cAt a k+1 then none else some k
def stepF (a b:List Int):Int:=if a.length=b.length then (stepG a b a.length).getD (-1) else -1
theorem stepG_some {a b:List Int} : ∀ {k:Nat} {z:Int},stepG a b k=some z↔(z = -1/\∀i:Nat,i<k->cAt a i=cAt b i)\/∃q:Nat,q<k/\z=q/\cAt b q=cAt a q+1/\∀i:Nat,i<k->i ≠ q->cAt a i=cAt b i
 | 0,z=>by
  constructor
  ·intro h;exact .inl ⟨(Option.some.inj h).symm,fun i hi=>by omega⟩
  ·rintro(⟨h,_⟩|⟨q,h,_⟩)
   ·rw[h];rfl
   ·omega
 | k+1,z=>by
  have e:stepG a b (k+1)=match stepG a b k with
   | none=>none
   | some p=>if cAt a k=cAt b k then some p else if 0<=p\/¬cAt b k=cAt a k+1 then none else some k:=rfl
  rw[e]
  constructor
  ·intro h
   cases hs:stepG a b k with
   | none=>rw[hs] at h;cases h
   | some p =>
    rw[hs] at h
    simp only at h
    have ih:=stepG_some.1 hs
    by_cases h1:cAt a k=cAt b k
    ·rw[if_pos h1] at h
     cases h
     rcases ih with ⟨i1,i2⟩|⟨q,i1,i2,i3,i4⟩
     ·exact .inl ⟨i1,fun i hi=>by
       by_cases e:i=k
       ·subst e;exact h1
       ·exact i2 i (by omega)⟩
     ·exact .inr ⟨q,by omega,i2,i3,fun i hi hn=>by
       by_cases e:i=k
       ·subst e;exact h1
       ·exact i4 i (by omega) hn⟩
    ·rw[if_neg h1] at h
     split at h
     ·cases h
     ·rename_i h2
      cases h
      rcases ih with ⟨i1,i2⟩|⟨q,i1,i2,i3,i4⟩
      ·refine .inr ⟨k,by omega,rfl,?_,fun i hi hn=>i2 i (by omega)⟩
       apply Classical.byContradiction;intro h3;exact h2 (.inr h3)
      ·exact absurd (.inl (by omega)) h2
  ·rintro(⟨i1,i2⟩|⟨q,i1,i2,i3,i4⟩)
   ·rw[stepG_some.2 (.inl ⟨i1,fun i hi=>i2 i (by omega)⟩)]
    simp only
    rw[if_pos (i2 k (by omega))]
   ·by_cases e:q=k
    ·subst e
     rw[stepG_some.2 (.inl ⟨rfl,fun i hi=>i4 i (by omega) (by omega)⟩)]
     simp only
     rw[if_neg (by omega),if_neg (by omega),i2]
    ·rw[stepG_some.2 (.inr ⟨q,by omega,i2,i3,fun i hi hn=>i4 i (by omega) hn⟩)]
     simp only
     rw[if_pos (i4 k (by omega) (by omega))]
theorem stepF_iff {a b:List Int}{q:Nat} : stepF a b=q↔q<a.length/\b=stpC a q:=by
 unfold stepF
 constructor
 ·intro h
  split at h
  ·rename_i hl
   cases hs:stepG a b a.length with
   | none=>rw[hs] at h;simp at h
   | some z =>
    rw[hs] at h
    simp only[Option.getD_some] at h
    subst h
    rcases stepG_some.1 hs with ⟨i1,_⟩|⟨p,i1,i2,i3,i4⟩
    ·omega
    ·have:p=q:=by omega
     subst this
     refine⟨i1,?_⟩
     apply List.ext_getElem (by rw[stp_len];omega)
     intro i g1 g2
     rw[<- cAt_nat g1,<- cAt_nat g2,cAt_stp (by omega)]
     split
     ·rename_i e;subst e;exact i3
     ·rename_i e;exact(i4 i (by omega) fun h=>e h.symm).symm
  ·omega
 ·rintro⟨hq,rfl⟩
  rw[if_pos (stp_len a q).symm,stepG_some.2 (.inr ⟨q,hq,rfl,?_,?_⟩)]
  ·rfl
  ·rw[cAt_stp hq,if_pos rfl]
  ·intro i hi hn
   rw[cAt_stp hi,if_neg (fun e=>hn e.symm)]
theorem stepF_range (a b:List Int):stepF a b = -1\/∃q:Nat,stepF a b=q:=by
 unfold stepF
 split
 ·cases hs:stepG a b a.length with
  | none=>exact .inl rfl
  | some z =>
   rcases stepG_some.1 hs with ⟨i1,_⟩|⟨p,_,i2,_⟩
   ·exact .inl i1
   ·exact .inr ⟨p,i2⟩
 ·exact .inl rfl
def stpP (ps:List Pr)(a b:List Int):Option Nat:=(List.range ps.length).find? fun p=>rdyF ps a p && decide (b=stpC a p)
theorem stpC_inj {a:List Int}{p q:Nat}(hp:p<a.length)(hq:q<a.length)(h:stpC a p=stpC a q):p=q:=by
 have h1:cAt (stpC a p) p=cAt (stpC a q) p:=by rw[h]
 rw[cAt_stp hp,cAt_stp hp,if_pos rfl] at h1
 split at h1
 ·rename_i e;exact e.symm
 ·omega
theorem stpP_some {ps:List Pr}{a b:List Int}(ha:a.length=ps.length){p:Nat} : stpP ps a b=some p↔p<ps.length/\rdyF ps a p=true/\b=stpC a p:=by
 constructor
 ·intro h
  have h1:=List.find?_some h
  have h2:=List.mem_of_find?_eq_some h
  rw[Bool.and_eq_true,decide_eq_true_eq] at h1
  exact⟨List.mem_range.1 h2,h1.1,h1.2⟩
 ·rintro⟨h1,h2,h3⟩
  cases hf:stpP ps a b with
  | none =>
   have:=List.find?_eq_none.1 hf p (List.mem_range.2 h1)
   rw[h2,decide_eq_true h3] at this
   simp at this
  | some q =>
   have g1:=List.find?_some hf
   have g2:=List.mem_range.1 (List.mem_of_find?_eq_some hf)
   rw[Bool.and_eq_true,decide_eq_true_eq] at g1
   rw[stpC_inj (a:=a) (by omega) (by omega) (g1.2.symm.trans h3)]
theorem stpP_step {ps:List Pr}{a b:List Int}(ha:isF ps a=true):stpP ps a b=if isF ps b=true/\0<=stepF a b then some (stepF a b).toNat else none:=by
 have hl:=(isF_iff.1 ha).1
 split
 ·rename_i h
  rcases stepF_range a b with e|⟨q,e⟩
  ·rw[e] at h;exact absurd h.2 (by decide)
  ·rw[e]
   obtain⟨h1,h2⟩:=stepF_iff.1 e
   refine(stpP_some hl).2 ⟨by omega,?_,h2⟩
   have e2:((q:Int)).toNat=q:=by omega
   rw[e2]
   unfold rdyF
   rw[decide_eq_true_eq,<- h2]
   refine⟨?_,h.1⟩
   obtain⟨bl,br,_⟩:=isF_iff.1 h.1
   have:=(inRange_iff bl).1 br q (by omega)
   have e3:cAt b q=cAt a q+1:=by rw[h2,cAt_stp h1,if_pos rfl]
   rw[nev_get (by omega)];omega
 ·rename_i h
  cases hf:stpP ps a b with
  | none=>rfl
  | some p =>
   obtain⟨g1,g2,g3⟩:=(stpP_some hl).1 hf
   exact absurd ⟨by rw[g3];exact rdy_is g2,by rw[stepF_iff.2 ⟨by omega,g3⟩];omega⟩ h
def stpsG (ps:List Pr):List Int->List (List Int)->Option (List Nat)
 | _,[]=>some []
 | a,b :: r=>match stpP ps a b with
  | none=>none
  | some p=>(stpsG ps b r).map (p :: ·)
def zeroC (ps:List Pr):List Int:=List.replicate ps.length 0
def stpsF (ps:List Pr):List (List Int)->Option (List Nat)
 | []=>none
 | a :: r=>if a=zeroC ps/\(a :: r).getLast?=some (fullC ps) then stpsG ps a r else none
def chnF (ps:List Pr):List Int->List (List Int)->Bool
 | _,[]=>true
 | a,b :: r=>(isF ps b && decide (0<=stepF a b)) && chnF ps b r
def isRunF (ps:List Pr):List (List Int)->Bool
 | []=>false
 | a :: r=>decide (a=zeroC ps/\(a :: r).getLast?=some (fullC ps)) && chnF ps a r
theorem zeroC_is (ps:List Pr):isF ps (zeroC ps)=true:=isF_zero
def evtG:List Int->List (List Int)->List Eid
 | _,[]=>[]
 | a,b :: r=>(stepF a b,cAt b (stepF a b)) :: evtG b r
structure HoldX (ps:List Pr)(l:List Syn)(bad:Nat->Nat->Bool)(d:Nat->Nat):Prop where
 rng:∀p,p<ps.length->d p<=nev ps p
 bad:∀p,p<ps.length->bad p (d p)=true
 clo:∀a,a<ps.length->∀i,i<nev ps a->i+1<=d a->∀y ∈ dirX ps l a i,y.2<=d y.1.toNat
theorem HoldX.cloX {ps:List Pr}{l:List Syn}{bad:Nat->Nat->Bool}{d:Nat->Nat}(h:HoldX ps l bad d):CloX ps l fun p=>(d p:Int):=fun a ha i hi hd y hy=>h.clo a ha i hi (by simp only at hd;omega) y hy
open Classical in
noncomputable def ctlB (ps:List Pr)(l:List Syn)(bad:Nat->Nat->Bool):Bool:=decide (¬ ∃d,HoldX ps l bad d)
open Classical in
theorem ctlB_true {ps:List Pr}{l:List Syn}{bad:Nat->Nat->Bool} : ctlB ps l bad=true↔¬ ∃d,HoldX ps l bad d:=by unfold ctlB;exact decide_eq_true_iff
def WhlX (ps:List Pr)(S:Nat->List (List Int)):Prop:=∀p,p<ps.length->(S p).length=nev ps p+1
section
variable {ps:List Pr} {l:List Syn} {bad:Nat->Nat->Bool} {S:Nat->List (List Int)} (hv:validF ps=true) (hl:SynOk ps l) (hG:GenX ps l S) (hW:WhlX ps S)
include hv hl hG hW
theorem ctl_bump {c:Nat->Nat}(hI:∀d,HoldX ps l bad d->∀p,p<ps.length->c p<=d p){p:Nat}(hp:p<ps.length)
  (h:bad p (c p)=false\/∃q,q<ps.length/\c q<=nev ps q/\(c p:Int)<(stOf S q (c q)).getD p 0):∀d,HoldX ps l bad d->c p+1<=d p:=fun d hd=>by
 have h1:=hI d hd p hp
 rcases h with h|⟨q,hq,hcq,h⟩
 ·refine Nat.lt_of_le_of_ne h1 fun e=>?_
  have:=hd.bad p hp
  rw[<- e,h] at this;cases this
 ·have hst:=hG.st hv hl q (c q) (by rw[hW q hq];omega)
  have:=hst.least _ hd.cloX (fun j=>by omega) (by have:=hI d hd q hq;omega) p
  omega
theorem ctl_stop {c:Nat->Nat}(hr:∀p,p<ps.length->c p<=nev ps p)(hb:∀p,p<ps.length->bad p (c p)=true)
  (hx:∀p q,p<ps.length->q<ps.length->q ≠ p->(stOf S q (c q)).getD p 0<=(c p:Int)):HoldX ps l bad c:=by
 refine⟨hr,hb,fun a ha i hi hd y hy=>?_⟩
 have hst:=hG.st hv hl a (c a) (by rw[hW a ha];have:=hr a ha;omega)
 have hown:=hst.own ha
 have h1:=hst.clo a ha i hi (by simp only;rw[hown];omega) y hy
 simp only at h1
 obtain⟨_,y2,_,_⟩:=dirX_ev hv hl ha hi y hy
 by_cases e:a=y.1.toNat
 ·rw[<- e] at h1 ⊢
  omega
 ·have:=hx y.1.toNat a (by omega) ha e
  omega
end
def RnkX (ps:List Pr)(l:List Syn)(r:Eid->Nat):Prop:=∀p,p<ps.length->∀i,i<nev ps p->∀y ∈ dirX ps l p i,r y<r ((p:Int),(i:Int)+1)
theorem whl_of {ps:List Pr}(hv:validF ps=true){l:List Syn}(hl:SynOk ps l){r:Eid->Nat}(hr:RnkX ps l r){S:Nat->List (List Int)}(hG:GenX ps l S)(hst:∀p,¬RdyX ps l S p):WhlX ps S:=by
 have key:∀(m p i:Nat),p<ps.length->i<nev ps p->r ((p:Int),(i:Int)+1)<=m->i+1<(S p).length:=fun m=>by
  induction m with
  | zero =>
   intro p i hp hi hm
   have hpos:=hG.pos p
   -- no event before this one
   have hno:∀y ∈ dirX ps l p i,False:=fun y hy=>by have:=hr p hp i hi y hy;omega
   have hi0:i=0:=by
    by_cases e:i=0
    ·exact e
    ·exfalso
     refine hno ((p:Int),(i:Int)) ?_
     unfold dirX dirE
     rw[if_pos (by omega)];simp
   subst hi0
   refine Classical.byContradiction fun hlt=>hst p ⟨hp,by omega,fun y hy=>?_⟩
   have:(S p).length - 1=0:=by omega
   rw[this] at hy
   exact(hno y hy).elim
  | succ m ih =>
   intro p i hp hi hm
   have hdep:∀y ∈ dirX ps l p i,y.2.toNat<(S y.1.toNat).length:=fun y hy=>by
    obtain⟨y1,y2,y3,y4⟩:=dirX_ev hv hl hp hi y hy
    have h1:=hr p hp i hi y hy
    obtain⟨a,b⟩:=y
    have y1:0<=a:=y1
    have y2:a<ps.length:=y2
    have y3:1<=b:=y3
    have y4:b<=nev ps a.toNat:=y4
    have h2:=ih a.toNat (b.toNat - 1) (by omega) (by omega) (by
     have e:(((a.toNat:Nat):Int),((b.toNat - 1:Nat):Int)+1)=(a,b):=by
      rw[Prod.mk.injEq];omega
     rw[e];omega)
    show b.toNat<(S a.toNat).length
    omega
   have hprev:i<(S p).length:=by
    by_cases e:i=0
    ·have:=hG.pos p;omega
    ·have:=hdep ((p:Int),(i:Int)) (by unfold dirX dirE;rw[if_pos (by omega)];simp)
     simp only[Int.toNat_natCast] at this
     exact this
   refine Classical.byContradiction fun hlt=>hst p ⟨hp,by omega,fun y hy=>?_⟩
   have:(S p).length - 1=i:=by omega
   rw[this] at hy
   exact hdep y hy
 intro p hp
 have h1:=hG.top p
 have h2:=hG.pos p
 by_cases h0:nev ps p=0
 ·omega
 ·have:=key _ p (nev ps p - 1) hp (by omega) (Nat.le_refl _)
  omega
end Go.AL
end
section
namespace Go.AL
open Go Go.RowKit Proofs.Tryz
section
variable {α:Type} (bg:α->α->Bool) (len:Nat->Nat) (f:Nat->Nat->α) (n:Nat)
def Tgt (t:Nat->Nat):Prop:=(∀p,p<n->t p<len p)/\∀p q,p<n->q<n->p ≠ q->bg (f p (t p)) (f q (t q))=true
def MonB:Prop:=∀p i j,p<n->i<=j->j<len p->∀o,bg (f p j) o=true->bg (f p i) o=true
def LeastT (a:Nat->Nat):Prop:=Tgt bg len f n a/\∀t,Tgt bg len f n t->∀p,p<n->a p<=t p
variable {bg len f n}
theorem tgt_step (hm:MonB bg len f n){a:Nat->Nat}(ha:∀t,Tgt bg len f n t->∀p,p<n->a p<=t p){p q:Nat}(hp:p<n)(hq:q<n)(hpq:p ≠ q)(h:bg (f p (a p)) (f q (a q))=false) :
  ∀t,Tgt bg len f n t->∀r,r<n->(if r=q then a q+1 else a r)<=t r:=fun t ht r hr=>by
 have h1:=ha t ht
 split
 ·rename_i e
  subst e
  have h2:=h1 r hr
  by_cases e:a r=t r
  ·exfalso
   have h3:=ht.2 p r hp hr hpq
   have h4:=hm p (a p) (t p) hp (h1 p hp) (ht.1 p hp) _ h3
   rw[<- e,h] at h4;cases h4
  ·omega
 ·exact h1 r hr
theorem tgt_none {a:Nat->Nat}(ha:∀t,Tgt bg len f n t->∀p,p<n->a p<=t p){p:Nat}(hp:p<n)(h:len p<=a p):¬ ∃t,Tgt bg len f n t:=fun ⟨t,ht⟩=>by
 have h1:=ha t ht p hp
 have h2:=ht.1 p hp
 omega
theorem least_unique {a b:Nat->Nat}(ha:LeastT bg len f n a)(hb:LeastT bg len f n b){p:Nat}(hp:p<n):a p=b p:=by
 have h1:=ha.2 b hb.1 p hp
 have h2:=hb.2 a ha.1 p hp
 omega
end
end Go.AL
end
section
namespace Go.AL
open Go Go.RowKit Proofs.Tryz
set_option maxRecDepth 4000
def spS (b:Nat->Bool)(p:Nat):Nat->List Stp × Option Nat
 | 0=>([],none)
 | k+1=>match spS b p k,b k with
  | (d,some f),true=>(d,some f)
  | (d,none),true=>(d,some k)
  | (d,some f),false=>(d ++ [(p,f,k - 1)],none)
  | (d,none),false=>(d,none)
def spC (s:List Stp × Option Nat)(p k:Nat):List Stp:=s.1 ++ (match s.2 with|some f=>[(p,f,k - 1)]|none=>[])
def spL (b:Nat->Bool)(p k:Nat):List Stp:=spC (spS b p k) p k
section
variable {b:Nat->Bool} {p:Nat}
theorem spL_zero:spL b p 0=[]:=rfl
theorem spS_cur:∀k,(spS b p k).2.isSome=(decide (0<k) && b (k - 1))
 | 0=>rfl
 | k+1=>by
  unfold spS
  simp only[Nat.zero_lt_succ,decide_true,Bool.true_and,Nat.add_sub_cancel]
  split <;> rename_i h1 h2 <;> rw[h2] <;> rfl
theorem spL_no {k:Nat}(h:b k=false):spL b p (k+1)=spL b p k:=by
 unfold spL spC
 rw[spS]
 rcases e:spS b p k with ⟨d,_|f⟩
 ·simp [h]
 ·simp [h]
theorem spL_new {k:Nat}(h:b k=true)(h0:(decide (0<k) && b (k - 1))=false):spL b p (k+1)=spL b p k ++ [(p,k,k)]:=by
 have:=spS_cur (b:=b) (p:=p) k
 unfold spL spC
 rw[spS]
 rcases e:spS b p k with ⟨d,_|f⟩
 ·simp [h]
 ·rw[e,h0] at this;cases this
theorem spL_on {k:Nat}(h:b k=true)(h0:(decide (0<k) && b (k - 1))=true):∃d f,spL b p k=d ++ [(p,f,k - 1)]/\spL b p (k+1)=d ++ [(p,f,k)]:=by
 have:=spS_cur (b:=b) (p:=p) k
 unfold spL spC
 rw[spS]
 rcases e:spS b p k with ⟨d,_|f⟩
 ·rw[e,h0] at this;cases this
 ·exact⟨d,f,by simp,by simp [h]⟩
theorem spL_len:∀k,(spL b p k).length<=k
 | 0=>Nat.le_refl 0
 | k+1=>by
  have ih:=spL_len k
  cases h:b k with
  | false=>rw[spL_no h];omega
  | true =>
   cases h0:decide (0<k) && b (k - 1) with
   | false=>rw[spL_new h h0,List.length_append];simp;omega
   | true =>
    obtain⟨d,f,e1,e2⟩:=spL_on (p:=p) h h0
    rw[e1] at ih
    rw[e2]
    simp at ih ⊢;omega
end
theorem chn_cons {ps:List Pr}{a b:List Int}{r:List (List Int)}(ha:isF ps a=true):chnF ps a (b :: r)=true↔∃q:Nat,q<ps.length/\rdyF ps a q=true/\b=stpC a q/\stepF a b=q/\chnF ps b r=true:=by
 have hl:=(isF_iff.1 ha).1
 have e:chnF ps a (b :: r)=((isF ps b && decide (0<=stepF a b)) && chnF ps b r):=rfl
 rw[e,Bool.and_eq_true,Bool.and_eq_true,decide_eq_true_eq]
 constructor
 ·rintro⟨⟨h1,h2⟩,h3⟩
  have h4:=stpP_step (b:=b) ha
  rw[if_pos ⟨h1,h2⟩] at h4
  obtain⟨g1,g2,g3⟩:=(stpP_some hl).1 h4
  exact⟨_,g1,g2,g3,by omega,h3⟩
 ·rintro⟨q,h1,h2,h3,h4,h5⟩
  exact⟨⟨by rw[h3];exact rdy_is h2,by omega⟩,h5⟩
theorem isrun_inv {ps:List Pr}{r:List (List Int)}(h:isRunF ps r=true):∃R,r=zeroC ps :: R/\chnF ps (zeroC ps) R=true/\(zeroC ps :: R).getLast?=some (fullC ps):=by
 cases r with
 | nil=>cases h
 | cons a R =>
  have h:(decide (a=zeroC ps/\(a :: R).getLast?=some (fullC ps)) && chnF ps a R)=true:=h
  rw[Bool.and_eq_true,decide_eq_true_eq] at h
  obtain⟨⟨rfl,h2⟩,h3⟩:=h
  exact⟨R,rfl,h3,h2⟩
theorem isrun_mk {ps:List Pr}{R:List (List Int)}(h:chnF ps (zeroC ps) R=true)(hl:(zeroC ps :: R).getLast?=some (fullC ps)):isRunF ps (zeroC ps :: R)=true:=by
 show (decide (zeroC ps=zeroC ps/\(zeroC ps :: R).getLast?=some (fullC ps)) && chnF ps (zeroC ps) R)=true
 rw[decide_eq_true ⟨rfl,hl⟩,h];rfl
theorem wlk_chn {ps:List Pr}{perm:List Int->Bool} : ∀ {n:Nat} {c:List Int} {R:List (List Int)},isF ps c=true->wlkR ps perm n c=some R->chnF ps c R=true/\R.length=n
 | 0,c,R,hc,h=>by
  have:R=[]:=(Option.some.inj h).symm
  subst this;exact⟨rfl,rfl⟩
 | n+1,c,R,hc,h=>by
  rw[wlkR_succ] at h
  cases hf:firstP ps perm c with
  | none=>rw[hf] at h;cases h
  | some p =>
   rw[hf] at h
   simp only at h
   cases hs:wlkR ps perm n (stpC c p) with
   | none=>rw[hs] at h;cases h
   | some R' =>
    rw[hs] at h
    have hR:R=stpC c p :: R':=(Option.some.inj h).symm
    subst hR
    obtain⟨a1,a2,_⟩:=firstP_some hf
    obtain⟨i1,i2⟩:=wlk_chn (rdy_is a2) hs
    have hl:=(isF_iff.1 hc).1
    exact⟨(chn_cons hc).2 ⟨p,by omega,a2,rfl,stepF_iff.2 ⟨a1,rfl⟩,i1⟩,by rw[List.length_cons,i2]⟩
theorem chn_app {ps:List Pr} : ∀ {R S:List (List Int)} {c d:List Int},(c :: R).getLast?=some d->chnF ps c R=true->chnF ps d S=true->chnF ps c (R ++ S)=true
 | [],S,c,d,h,_,h2=>by
  have:c=d:=Option.some.inj h
  subst this;exact h2
 | b :: R,S,c,d,h,h1,h2=>by
  have e:chnF ps c (b :: R)=((isF ps b && decide (0<=stepF c b)) && chnF ps b R):=rfl
  have e2:chnF ps c (b :: R ++ S)=((isF ps b && decide (0<=stepF c b)) && chnF ps b (R ++ S)):=rfl
  rw[e,Bool.and_eq_true] at h1
  rw[e2,h1.1,Bool.true_and]
  rw[List.getLast?_cons_cons] at h
  exact chn_app h h1.2 h2
theorem chn_get {ps:List Pr} : ∀ {R:List (List Int)} {c:List Int},isF ps c=true->chnF ps c R=true->(evtG c R).length=R.length/\∀(i:Nat) (hi:i<(evtG c R).length) (hi2:i+1<(c :: R).length),
  ∃p:Nat,p<ps.length/\isF ps (c :: R)[i]=true/\rdyF ps (c :: R)[i] p=true/\(c :: R)[i+1]=stpC (c :: R)[i] p/\(evtG c R)[i]=((p:Int),cAt (c :: R)[i] p+1)
 | [],c,hc,h=>⟨rfl,fun i hi=>by cases hi⟩
 | b :: R,c,hc,h=>by
  obtain⟨q,h1,h2,rfl,h4,h5⟩:=(chn_cons hc).1 h
  have hl:=(isF_iff.1 hc).1
  have e:evtG c (stpC c q :: R)=(stepF c (stpC c q),cAt (stpC c q) (stepF c (stpC c q))) :: evtG (stpC c q) R:=rfl
  obtain⟨i1,i2⟩:=chn_get (rdy_is h2) h5
  refine⟨by rw[e,List.length_cons,List.length_cons,i1],fun i hi hi2=>?_⟩
  cases i with
  | zero =>
   refine⟨q,h1,hc,h2,rfl,?_⟩
   show (stepF c (stpC c q),cAt (stpC c q) (stepF c (stpC c q)))=_
   rw[h4,cAt_stp (by omega),if_pos rfl]
   rfl
  | succ i =>
   have hi':i<(evtG (stpC c q) R).length:=by rw[e,List.length_cons] at hi;omega
   exact i2 i hi' (by rw[List.length_cons] at hi2;omega)
theorem chn_mono {ps:List Pr}{R:List (List Int)}{c:List Int}(hc:isF ps c=true)(h:chnF ps c R=true){i:Nat}(hi:i<(c :: R).length):∀(m:Nat) (hj:i+m<(c :: R).length),∀q:Nat,q<ps.length->cAt (c :: R)[i] q<=cAt (c :: R)[i+m] q
 | 0,hj,q,hq=>Int.le_refl _
 | m+1,hj,q,hq=>by
  obtain⟨g1,g2⟩:=chn_get hc h
  have hj1:i+m+1<(c :: R).length:=hj
  obtain⟨p,a1,a2,a3,a4,a5⟩:=g2 (i+m) (by rw[g1];rw[List.length_cons] at hj;omega) hj1
  have ih:=chn_mono hc h hi m (by omega) q hq
  have e:(c :: R)[i+(m+1)]=stpC (c :: R)[i+m] p:=a4
  rw[e,cAt_stp (by rw[(isF_iff.1 a2).1];exact hq)]
  split <;> omega
end Go.AL
end
