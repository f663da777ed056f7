/- Texts of this claim's proof: WLp, WLq, WNd, WBs, WSb, WAw, WSr, WOf, WWl, WCt, WLv, WSn. No condition. -/
import Derived.Test.YtnpagaiphamfaaaGreatDoorM10
import Derived.Test.YtnpagaiphamfaaaGreatDoorM9
import Derived.Test.YtnpagaiphamfaaaGreatDoorM6
import Derived.Test.YtnpagaiphamfaaaGreatDoorM8
section
namespace Go.AL
open Go Go.RowKit
set_option maxRecDepth 4000
theorem stC_len (n p:Nat) (k:Int):(stC n p k).length=n:=by unfold stC;rw[List.length_set,List.length_replicate]
theorem stC_get {n p:Nat} {k:Int} (hp:p<n):(stC n p k).getD p 0=k:=by
 unfold stC;rw[List.getD_eq_getElem?_getD,List.getElem?_set_self (by simpa using hp)];rfl
theorem stC_get? {n p:Nat} {k:Int} (hp:p<n):(stC n p k)[p]?=some k:=by
 unfold stC;rw[List.getElem?_set_self (by simpa using hp)]
def stV (n p:Nat) (st:List Int):List (List Int):=(List.replicate n []).set p st
theorem stV_len (n p:Nat) (st:List Int):(stV n p st).length=n:=by unfold stV;rw[List.length_set,List.length_replicate]
theorem stV_get {n p:Nat} {st:List Int} (hp:p<(stV n p st).length):(stV n p st)[p]=st:=by simp [stV]
theorem st_leaf (ps:List Pr) (hs:Sm ps) (hv:validF ps=true) (p k:Nat) (hp:p<ps.length) (hk:k≤ps[p].evs.length) (t:Pd) (hr:allB (resB ps) t=true) (hn:allB (lclB p) t=true) :
  AllP (leafOk ps (stC ps.length p k) (stV ps.length p (stateAt ps[p] k)) (stO ps p k)) t∧AllP (obsB ps (stO ps p k)) t∧AllP (leafR ps (stC ps.length p k) (stO ps p k)) t:=by
 have hb:=allB_and t hr hn
 have hvar:∀s,(stO ps p k).var p s=(stateAt ps[p] k).getD (varIx ps[p].vars s).toNat 0:=fun s=>by
  unfold stO cutO;simp only[Int.toNat_natCast,List.getElem?_eq_getElem hp,stC_get hp]
 have hcnt:(stO ps p k).cnt p=k:=by
  unfold stO cutO;simp only[Int.toNat_natCast,stC_get hp]
 have hx:∀x:Pd,andB (resB ps) (lclB p) x=true→∀kk n pr q s l,x = .mk kk n pr q s l→((kk=2∨kk=3)→pr=p)∧kk ≠ 4∧(kk=2→knownB ps pr s=true):=fun x h kk n pr q s l e=>by
  subst e
  unfold andB at h
  rw[Bool.and_eq_true] at h
  have h2:=h.2
  rw[lcl_mk] at h2
  have n4:¬(kk=4∨(18≤kk∧kk≤21)):=fun h=>by rw[if_pos h] at h2;cases h2
  rw[if_neg n4] at h2
  refine⟨fun e => ?_,by omega,fun e=>((res_leaf h.1).1 e).2⟩
  rw[if_pos e] at h2
  simpa using h2
 refine⟨AllP_of_allB (fun x h => ?_) t hb,AllP_of_allB (fun x h => ?_) t hb,AllP_of_allB (fun x h => ?_) t hb⟩
 ·obtain⟨kk,n,pr,q,s,l⟩:=x
  obtain⟨g1,g2,g3⟩:=hx _ h _ _ _ _ _ _ rfl
  refine⟨fun e => ?_,fun e => ?_,fun e=>absurd e g2⟩
  ·obtain rfl:=g1 (.inl e)
   have hV:p<(stV ps.length p (stateAt ps[p] k)).length:=by rw[stV_len];exact hp
   have h:=view_variable ps hs (stC ps.length p k) (stV ps.length p (stateAt ps[p] k)) kk n p q s l hp (g3 e) hV (by rw[stV_get hV,stateAt_length])
   rw[stV_get hV] at h
   rw[hvar];exact h
  ·obtain rfl:=g1 (.inr e)
   exact⟨by omega,by rw[hcnt,Int.toNat_natCast,stC_get? hp]⟩
 ·obtain⟨kk,n,pr,q,s,l⟩:=x
  obtain⟨g1,g2,g3⟩:=hx _ h _ _ _ _ _ _ rfl
  refine⟨fun e => ?_,fun e => ?_,fun e=>absurd e g2⟩
  ·obtain rfl:=g1 (.inl e)
   have hm:=valsF_mem ps[p] (varIx ps[p].vars s).toNat (k:=k) hk
   rw[hvar]
   unfold varLo varHi
   simp only[Int.toNat_natCast,List.getElem?_eq_getElem hp]
   exact⟨minL_le hm,le_maxL hm⟩
  ·obtain rfl:=g1 (.inr e)
   rw[hcnt,evN_get hp]
   exact⟨by omega,by omega⟩
 ·obtain⟨kk,n,pr,q,s,l⟩:=x
  obtain⟨g1,g2,g3⟩:=hx _ h _ _ _ _ _ _ rfl
  refine⟨fun e => ?_,fun e => ?_,g2⟩
  ·obtain rfl:=g1 (.inl e)
   have hpb:isPB ps.length p=true:=by unfold isPB;simp;omega
   have h1:=ref25_Index ps hs p hpb s
   rw[varX_get hp] at h1
   obtain⟨i,hi,hil⟩:=known_ix (known_get hp (g3 e))
   have h2:=ref25_Value ps hs p hp i hil k hk (asg_of_valid hv p hp) (dis_of_valid hv p hp)
   rw[hi] at h1
   refine⟨_,_,h1,?_,by omega,by rw[Int.toNat_natCast,stC_get? hp]⟩
   rw[hvar,hi,Int.toNat_natCast,List.getD_eq_getElem?_getD,List.getElem?_eq_getElem (by rw[stateAt_length];exact hil)]
   exact h2
  ·obtain rfl:=g1 (.inr e)
   exact⟨by omega,by rw[hcnt,Int.toNat_natCast,stC_get? hp]⟩
theorem variable_State (ps:List Pr) (hs:Sm ps) (hv:validF ps=true) (p k:Nat) (hp:p<ps.length) (hk:k≤ps[p].evs.length):PC Proofs.Tryz.prog 173 [aTr ps,ai p,ai k] (.tup [aInts (stateAt ps[p] k),ai 0]):=by
 have hm:=List.getElem_mem hp
 have h1:=trace_Valid ps hs
 rw[hv] at h1
 have h2:=variable_state ps[p] (hs.vars _ hm) (hs.evs _ hm) (hs.asg _ hm) (asg_of_valid hv p hp) k hk
 have hl:=hs.procs
 have hel:=hs.evs _ hm
 have hgp:=getD_map (f:=aPr) hp
 have n1:¬(p:Int)<0:=by omega
 have n2:¬(ps.length:Int)≤p:=by omega
 have n3:¬(k:Int)<0:=by omega
 have n4:¬(ps[p].evs.length:Int)<k:=by omega
 generalize stateAt ps[p] k=S at *
 refine PC.enter 44 [.tmp 6,.tmp 7] [3] Proofs.Tryz.func173 rfl rfl rfl rfl rfl (by simp) (AWp.of ?_);simp only[go_sem]
 refine Wk ?_
 refine Sd ?_
 refine(h1).val.use ?_;simp only[go_sem]
 refine W5 n1 n2 n3 n4 hgp ?_
 refine Sd ?_
 refine(h2).val.use ?_;simp only[go_sem]
 refine Wk ?_
 refine ret_eq ?_;simp only[go_sem]
theorem lcl_ntm {p:Int} (t:Pd):allB (lclB p) t=true→allB ntmB t=true:=by
 induction t using Pd.ind with
 | _ k n pr q s l ih =>
 intro h
 obtain⟨h1,h2⟩:=allB_sub h
 rw[allB_mk,Bool.and_eq_true,List.all_eq_true]
 refine⟨?_,fun x hx=>ih x hx (h2 x hx)⟩
 rw[lcl_mk] at h1
 unfold ntmB tempB
 split at h1
 ·cases h1
 ·rename_i h;simp;omega
theorem lcl_ok {ps:List Pr} {p:Nat} {k:Int} {t:Pd} (h:lclF ps p k t=0):checkF ps t=0∧p<ps.length∧0≤k∧k≤evN ps p∧9≤t.kind∧allB (lclB p) t=true:=by
 unfold lclF at h
 split at h
 ·rename_i h1;exact absurd h h1
 ·rename_i h1
  split at h
  ·cases h
  ·rename_i h2
   split at h
   ·cases h
   ·rename_i h3
    split at h
    ·cases h
    ·rename_i h4
     exact⟨by simpa using h1,by omega,by omega,by omega,by omega,by simpa using h4⟩
theorem evaluate_inState (ps:List Pr) (hs:Sm ps) (p k:Nat) (hp:p<ps.length) (hk:k≤ps[p].evs.length) (t:Pd) (hz:szF t≤1000000) (hc:checkF ps t=0) (h9:9≤t.kind) (hl:allB (lclB p) t=true) :
  PC Proofs.Tryz.prog 142 [aTr ps,ai p,ai k,aPd t] (ab (lclT ps p t k)):=by
 obtain⟨hv,_,hok,hfit⟩:=checkF_zero hc
 have hok':=hok
 unfold okT at hok'
 simp only[Bool.and_eq_true] at hok'
 obtain⟨l1,l2,_⟩:=st_leaf ps hs hv p k hp hk t hok'.1.2 hl
 have hn:=hs.procs
 have h1:=view_truth ps (stC ps.length p k) (stV ps.length p (stateAt ps[p] k)) (stO ps p k) (by rw[stC_len];omega) t hz hok h9 hfit (lcl_ntm t hl) l2 l1
 have h2:=variable_State ps hs hv p k hp hk
 unfold lclT
 generalize truF (stO ps p k) t=b at *
 obtain⟨kk,n,pr,q,s,l⟩:=t
 have hC:(stC ps.length p k).map ai=(List.replicate ps.length (ai 0)).set p (ai k):=by unfold stC;rw[List.map_set,List.map_replicate]
 have hTr:aTr ps = .agg [aPrs ps]:=rfl
 generalize hS:stateAt ps[p] k=S at *
 simp only[aPd_mk] at *
 refine PC.enter 39 [.tmp 8] [4,7,9] Proofs.Tryz.func142 rfl rfl rfl rfl rfl (by simp) (AWp.of ?_);simp only[go_sem]
 refine Wk ?_
 refine AWp.cut [1,2,4,7,9] (fun vs L=>∃bc bv,L.Perm [(bv,.row 42 1 (List.replicate ps.length anil) ps.length),(bc,.row 3 1 (List.replicate ps.length (ai 0)) ps.length)] ∧
  vs=[ai p,ai k,.rp 1 [aTr ps] 0 0,.rp 6 [.agg [ai kk,ai n,ai pr,ai q,astr s,.sl 6 (l.map aPd)]] 0 0,.rp 3 [.agg [aPrs ps,.ls bc 1 0 ps.length ps.length,.ls bv 1 0 ps.length ps.length]] 0 0]) ?_ ?_
 ·repeat(first|(with_reducible refine AWp.seq ?_)|(with_reducible refine AWp.block ?_))
  refine AWp.mix mixed [0,1,2,3,5,6,7] (.step 4 (.step 8 (.step 9 (.step 10 (.step 11 .done .done) .done) (.step 10 (.step 9 (.step 11 .done .done) .done) .done)) (.step 10 (.step 8 (.step 9 (.step 11 .done .done) .done) .done) .done)) (.step 8 (.step 4 (.step 9 (.step 10 (.step 11 .done .done) .done) (.step 10 (.step 9 (.step 11 .done .done) .done) .done)) (.step 10 (.step 4 (.step 9 (.step 11 .done .done) .done) .done) .done)) (.step 10 (.step 4 (.step 8 (.step 9 (.step 11 .done .done) .done) .done) (.step 8 (.step 4 (.step 9 (.step 11 .done .done) .done) .done) .done)) .done))) (by kernel_rfl) ?_;simp only[go_sem]
  repeat' (first|(with_reducible refine And.intro ?_ ?_)|intro _)
  all_goals first|omega|skip
  all_goals ((repeat rw[if_neg (by omega)]);(try simp only[go_sem]))
  all_goals (repeat' (first|(with_reducible refine And.intro ?_ ?_)|intro _))
  all_goals first|omega|exact⟨_,List.Sublist.refl _,_,_,.refl _,rfl⟩|exact⟨_,List.Sublist.refl _,_,_,.swap _ _ _,rfl⟩
 ·rintro vs L - ⟨bc,bv,hP,rfl⟩
  refine AWp.perm hP (AWp.nodup fun hnd => ?_)
  have n1:¬bv=bc:=by simpa using hnd
  have n2:¬bc=bv:=fun e=>n1 e.symm
  have hg0:(List.replicate ps.length (ai 0)).getD p .any=ai 0:=by rw[List.getD_eq_getElem?_getD,List.getElem?_replicate,if_pos hp];rfl
  have hg1:(List.replicate ps.length anil).getD p .any=anil:=by rw[List.getD_eq_getElem?_getD,List.getElem?_replicate,if_pos hp];rfl
  simp only[go_sem]
  refine Sd ?_
  refine AWp.of ?_;simp only[go_sem,n2,hg0,List.length_replicate]
  refine Sd ?_
  rw[← hC]
  refine AWp.seq ?_
  repeat(first|(with_reducible refine AWp.seq ?_)|(with_reducible refine AWp.block ?_))
  refine AWp.mix mixed [0,1,2,3,4,5,6,7,8,9] (.step 10 (.step 11 .done .done) .done) (by kernel_rfl) ?_;simp only[go_sem]
  refine Sd ?_
  refine GCall.use (.tup [aInts S,ai 0]) (fun _=>⟨At,(h2).val.use ⟨rfl,rfl⟩⟩) ?_;simp only[go_sem,n1,hg1]
  refine Sd ?_
  refine AWp.view [true,true] [(9,.rp 3 [aView ps (stC ps.length p k) (stV ps.length p S)] 0 0)] (LVw.refl _) (fun x hx => ?_) ?_
  ·simp only[List.mem_singleton] at hx
   subst hx
   simp only[go_sem,pickT]
   refine .rp rfl (Vws.cons (.mkAgg (Vws.cons (.refl _) (Vws.cons (Vw.ofLs (t:=3) (cap:=ps.length) (by simp [lk,n2]) (by rw[List.length_map,stC_len])) (Vws.cons ?_ .nil)))) .nil).2
   refine .ls (t:=42) (xs:=(List.replicate ps.length anil).set p (aInts S)) (cap:=ps.length) (by simp [lk,aInts]) (by simp) (by simp [stV]) fun i x y hx hy => ?_
   rw[List.drop_zero,List.take_of_length_le (by simp),List.getElem?_set] at hx
   unfold stV at hy
   rw[List.map_set,List.getElem?_set] at hy
   by_cases e:p=i
   ·subst e
    simp [hp] at hx hy
    subst hx;subst hy;exact .refl _
   ·rw[if_neg e,List.getElem?_replicate] at hx
    rw[if_neg e,List.getElem?_map,List.getElem?_replicate] at hy
    by_cases h5:i<ps.length
    ·rw[if_pos h5] at hx hy
     cases hx;cases hy
     exact .nil 1
    ·rw[if_neg h5] at hx;cases hx
  ·simp only[go_sem,pickF]
   refine Wk ?_
   refine Sd ?_
   refine(h1).val.use ?_;simp only[go_sem]
   refine Wk ?_
   refine ret_eq ?_;simp only[go_sem]
theorem truthsF_nat {ps:List Pr} {p:Nat} (hp:p<ps.length) (t:Pd):truthsF ps p t=(List.range (ps[p].evs.length+1)).map fun (k:Nat)=>lclT ps p t k:=by
 unfold truthsF;rw[evN_get hp,Int.toNat_natCast]
noncomputable def aTruths (ps:List Pr) (p:Int) (t:Pd):AV:=if lclF ps p 0 t=0 then .tup [.sl 1 ((truthsF ps p.toNat t).map ab),ai 0] else .tup [.sl 1 [],ai (lclF ps p 0 t)]
theorem evaluate_Truths (ps:List Pr) (hs:Sm ps) (p:Int) (t:Pd) (hz:szF t≤1000000):PC Proofs.Tryz.prog 107 [aTr ps,ai p,aPd t] (aTruths ps p t):=by
 have h1:=evaluate_check ps hs p 0 t hz
 have hl:=hs.procs
 unfold aTruths
 by_cases he:lclF ps p 0 t=0
 ·rw[if_pos he]
  rw[he] at h1
  have hp0:0≤p:=by
   unfold lclF at he
   split at he
   ·rename_i h;exact absurd he h
   ·split at he
    ·cases he
    ·rename_i h;omega
  obtain⟨i,rfl⟩:∃i:Nat,p=i:=⟨p.toNat,by omega⟩
  rw[Int.toNat_natCast]
  obtain⟨hc,hp,_,_,h9,hlc⟩:=lcl_ok he
  have hel:=hs.evs _ (List.getElem_mem hp)
  have hgp:=getD_map (f:=aPr) hp
  have hst:=fun (k:Nat) hk=>evaluate_inState ps hs i k hp hk t hz hc h9 hlc
  rw[truthsF_nat hp,List.map_map]
  have hy:∀k,((List.range k).map fun (k:Nat)=>ab (lclT ps i t k)).length=k:=fun k=>by simp
  have hys:∀k,((List.range (k+1)).map fun (k:Nat)=>ab (lclT ps i t k))=((List.range k).map fun (k:Nat)=>ab (lclT ps i t k)) ++ [ab (lclT ps i t k)]:=fun k=>by rw[List.range_succ,List.map_append];rfl
  have hfin:(List.range (ps[i].evs.length+1)).map (ab ∘ fun (k:Nat)=>lclT ps i t k)=(List.range (ps[i].evs.length+1)).map fun (k:Nat)=>ab (lclT ps i t k):=rfl
  rw[hfin]
  obtain⟨k0,n,pp,q,s,l⟩:=t
  simp only[aPd_mk] at *
  generalize hY:(fun k:Nat=>(List.range k).map fun (j:Nat)=>ab (lclT ps i (.mk k0 n pp q s l) j))=Y at *
  have hYk:∀k,((List.range k).map fun (j:Nat)=>ab (lclT ps i (.mk k0 n pp q s l) j))=Y k:=fun k=>by rw[← hY]
  simp only[hYk] at hy hys ⊢
  refine PC.enter 39 [.tmp 6,.tmp 7] [3,5,35] Proofs.Tryz.func107 rfl rfl rfl rfl rfl (by simp) (AWp.of ?_);simp only[go_sem]
  refine Wk ?_
  refine Sd ?_
  refine(h1).val.use ?_;simp only[go_sem]
  refine W1 hgp ?_
  refine AWp.range' (ps[i].evs.length+1) [9] [1,3,5,25] (fun k vs L=>∃v,vs=[v]∧AppSt 4 1 (Y k) v L) (by omega) rfl rfl rfl ⟨anil,rfl,by rw[← hY];exact .nil⟩ ?_ ?_
  ·rintro k vs L' hk - ⟨v,rfl,hA⟩
   have hyl:=hy k
   have hst:=hst k (by omega)
   rw[hys k]
   have hfo:=hA.fo
   generalize Y k=ys at *
   generalize lclT ps i (.mk k0 n pp q s l) k=b at *
   rcases hA.inv with ⟨e1,rfl,rfl⟩|⟨b',cap,rfl,rfl⟩
   ·simp only[go_sem]
    refine Wk ?_
    refine Sd ?_
    refine(hst).val.use ?_;simp only[go_sem]
    refine Sd ?_
    intro b' cap' _
    refine⟨_,List.Sublist.refl _,_,rfl,?_⟩
    rw[e1]
    exact .row _ _ _
   ·simp only[go_sem]
    refine Wk ?_
    refine Sd ?_
    refine(hst).val.use ?_;simp only[go_sem]
    refine Sd ?_
    intro b' cap' _
    refine⟨_,List.Sublist.refl _,_,rfl,?_⟩
    have:=AppSt.row (t:=4) (k:=1) b' (ys ++ [ab b]) cap'
    simpa using this
  ·rintro vs L' - ⟨v,rfl,hA⟩
   have hyl:=hy (ps[i].evs.length+1)
   generalize Y (ps[i].evs.length+1)=ys at *
   simp only[go_sem]
   rcases hA.inv with ⟨e1,rfl,rfl⟩|⟨b,cap,rfl,rfl⟩
   ·rw[e1] at hyl;simp at hyl
   ·refine Wk ?_
    refine ret_view [true] ?_;simp only[go_sem]
    exact .mkTup (Vws.cons (Vw.ofLs (if_pos rfl) rfl) (Vws.refl _))
 ·rw[if_neg he]
  generalize lclF ps p 0 t=e at *
  obtain⟨k0,n,pp,q,s,l⟩:=t
  simp only[aPd_mk] at *
  refine PC.enter 39 [.tmp 6,.tmp 7] [3,5,35] Proofs.Tryz.func107 rfl rfl rfl rfl rfl (by simp) (AWp.of ?_);simp only[go_sem]
  refine Wk ?_
  refine Sd ?_
  refine(h1).val.use ?_;simp only[go_sem]
  refine W1 he ?_
  refine ret_view [] ?_;simp only[go_sem]
  exact .mkTup (Vws.cons (.nil 1) (Vws.refl _))
theorem ref29_Local (ps:List Pr) (hs:Sm ps) (p k:Nat) (hp:p<ps.length) (hk:k≤ps[p].evs.length) (t:Pd) (hz:szF t≤1000000) (hc:checkF ps t=0) (h9:9≤t.kind) (hl:allB (lclB p) t=true) :
  PC Proofs.Tryz.prog 55 [aTr ps,ai p,ai k,aPd t] (ab (lclT ps p t k)):=by
 obtain⟨hv,_,hok,hfit⟩:=checkF_zero hc
 have hok':=hok
 unfold okT at hok'
 simp only[Bool.and_eq_true] at hok'
 obtain⟨_,l2,l1⟩:=st_leaf ps hs hv p k hp hk t hok'.1.2 hl
 have hn:=hs.procs
 have h1:=ref29_Truth ps (stC ps.length p k) (stO ps p k) (by rw[stC_len];omega) t hz hok h9 hfit (lcl_ntm t hl) l2 l1
 unfold lclT
 generalize truF (stO ps p k) t=b at *
 obtain⟨kk,n,pr,q,s,l⟩:=t
 have hC:(stC ps.length p k).map ai=(List.replicate ps.length (ai 0)).set p (ai k):=by unfold stC;rw[List.map_set,List.map_replicate]
 have hg0:(List.replicate ps.length (ai 0)).getD p .any=ai 0:=by rw[List.getD_eq_getElem?_getD,List.getElem?_replicate,if_pos hp];rfl
 have hCl:(List.replicate ps.length (ai 0)).length=ps.length:=List.length_replicate
 simp only[aPd_mk] at *
 refine PC.enter 22 [.tmp 8] [4,7] Proofs.Tryz.func55 rfl rfl rfl rfl rfl (by simp) (AWp.of ?_);simp only[go_sem]
 refine Wk ?_
 refine Sd ?_
 intro b9
 refine Sd ?_
 refine AWp.of ?_;simp only[go_sem,hg0,List.length_replicate]
 refine Sd ?_
 rw[← hC]
 refine AWp.view [true] [(9,aInts (stC ps.length p k))] (LVw.refl _) (fun x hx => ?_) ?_
 ·simp only[List.mem_singleton] at hx
  subst hx
  simp only[go_sem,pickT]
  exact Vw.ofLs (t:=3) (cap:=ps.length) (by simp only[lk,if_true]) (by rw[List.length_map,stC_len])
 ·simp only[go_sem,pickF]
  refine Wk ?_
  refine Sd ?_
  refine(h1).val.use ?_;simp only[go_sem]
  refine Wk ?_
  refine ret_eq ?_;simp only[go_sem]
noncomputable def elimOf (ps:List Pr) (ts:List Pd):Elim where
 n:=ps.length
 top:=nev ps
 ok:=fun p k=>match ts[p]? with|some t=>lclT ps p t k|none=>true
 need:=fun q k p=>cAt (closeF ps (stC ps.length q k)) p
def aStp (s:Stp):AV:=.agg [ai s.1,ai s.2.1,ai s.2.2]
def lclAt (z:Int→Pd→Int) (ts:List Pd) (p:Nat):Int:=match ts[p]? with|some t=>z p t|none=>0
noncomputable def conF (ps:List Pr) (ts:List Pd):Int :=
 if validF ps=true∧ts.length=ps.length then match (List.range ts.length).find? (fun p=>decide (lclAt (fun p t=>lclF ps p 0 t) ts p ≠ 0)) with|some p=>lclAt (fun p t=>lclF ps p 0 t) ts p|none=>0 else 1
theorem conF_bad {ps:List Pr} {ts:List Pd} (h:¬(validF ps=true∧ts.length=ps.length)):conF ps ts=1:=by unfold conF;rw[if_neg h]
theorem conF_hit {ps:List Pr} {ts:List Pd} (h:validF ps=true∧ts.length=ps.length) {p:Nat} (hp:p<ts.length) (h0:∀q (hq:q<ts.length),q<p→lclF ps q 0 ts[q]=0) (h1:lclF ps p 0 ts[p] ≠ 0):conF ps ts=lclF ps p 0 ts[p]:=by
 have e:∀q (hq:q<ts.length),lclAt (fun p t=>lclF ps p 0 t) ts q=lclF ps q 0 ts[q]:=fun q hq=>by unfold lclAt;rw[List.getElem?_eq_getElem hq]
 unfold conF
 rw[if_pos h,find_range_of hp (by rw[e p hp];exact decide_eq_true h1) fun q hq=>by rw[e q (by omega),h0 q (by omega) hq];rfl]
 exact e p hp
theorem conF_zero {ps:List Pr} {ts:List Pd} (h:validF ps=true∧ts.length=ps.length) (h0:∀q (hq:q<ts.length),lclF ps q 0 ts[q]=0):conF ps ts=0:=by
 have e:∀q (hq:q<ts.length),lclAt (fun p t=>lclF ps p 0 t) ts q=lclF ps q 0 ts[q]:=fun q hq=>by unfold lclAt;rw[List.getElem?_eq_getElem hq]
 unfold conF
 rw[if_pos h,find_range_no fun q hq=>by rw[e q hq,h0 q hq];rfl]
theorem conF_inv {ps:List Pr} {ts:List Pd} (h:conF ps ts=0):validF ps=true∧ts.length=ps.length∧∀q (hq:q<ts.length),lclF ps q 0 ts[q]=0:=by
 by_cases h1:validF ps=true∧ts.length=ps.length
 ·refine⟨h1.1,h1.2,fun q hq => ?_⟩
  have e:∀q (hq:q<ts.length),lclAt (fun p t=>lclF ps p 0 t) ts q=lclF ps q 0 ts[q]:=fun q hq=>by unfold lclAt;rw[List.getElem?_eq_getElem hq]
  unfold conF at h
  rw[if_pos h1] at h
  cases hf:(List.range ts.length).find? (fun p=>decide (lclAt (fun p t=>lclF ps p 0 t) ts p ≠ 0)) with
  | some p =>
   rw[hf] at h
   have:=(find_range hf).2.1
   have h:lclAt (fun p t=>lclF ps p 0 t) ts p=0:=h
   rw[h] at this;simp at this
  | none =>
   have:=find_range_none hf q hq
   rw[e q hq] at this
   simpa using this
 ·rw[conF_bad h1] at h;cases h
structure Ans where
 mode:Int
 holds:Bool
 kind:Int
 cut:List Int
 cuts:List (List Int)
 run:List (List Int)
 spans:List (Int × Int × Int)
 value:Int
def aSp (s:Int × Int × Int):AV:=.agg [ai s.1,ai s.2.1,ai s.2.2]
def aSps (l:List (Int × Int × Int)):AV:=.sl 3 (l.map aSp)
def aAns (a:Ans):AV:=.agg [ai a.mode,ab a.holds,ai a.kind,aInts a.cut,aRows a.cuts,aRows a.run,aSps a.spans,ai a.value]
def stpI (s:Stp):Int × Int × Int:=(s.1,s.2.1,s.2.2)
theorem aStp_I (l:List Stp) : .sl 3 (l.map aStp)=aSps (l.map stpI):=by unfold aSps;rw[List.map_map];rfl
def noAns:Ans:=⟨0,false,0,[],[],[],[],0⟩
def oneT (p:Int) (s:ByteArray):Pd:=.mk 9 0 0 0 ByteArray.empty [.mk 2 0 p 0 s [],.mk 1 1 0 0 ByteArray.empty []]
structure SatD (ps:List Pr) (E:Elim) (d:List Int):Prop where
 len:d.length=ps.length
 rng:inRangeF ps d=true
 clo:closedF ps d=true
 ok:∀p,p<ps.length→E.ok p (cAt d p).toNat=true
theorem stC_cAt {n p q:Nat} {k:Int} (hq:q<n):cAt (stC n p k) q=if p=q then k else 0:=by
 rw[cAt_nat (by rw[stC_len];exact hq)]
 unfold stC
 rw[List.getElem_set,List.getElem_replicate]
theorem need_le {ps:List Pr} (hv:validF ps=true) {d:List Int} (hd:d.length=ps.length) (hr:inRangeF ps d=true) (hcl:closedF ps d=true) {q k:Nat} (hq:q<ps.length) (hk:(k:Int)≤cAt d q):∀p,p<ps.length→cAt (closeF ps (stC ps.length q k)) p≤cAt d p:=by
 have h0:=(inRange_iff hd).1 hr
 obtain⟨a1,a2⟩:=stC_ok (k:=(k:Int)) hq (by omega) (by have:=(h0 q hq).2;omega)
 refine closeF_least hv hd hcl a1 a2 fun p hp => ?_
 rw[stC_cAt hp]
 split
 ·rename_i e;subst e;exact hk
 ·exact(h0 p hp).1
section
variable {ps:List Pr} {E:Elim}
end
theorem noreach {ps:List Pr} (hv:validF ps=true) {x:Eid} (hx:VEv ps x):¬Reach ps x x:=by
 obtain⟨p,hp,i,hi,rfl⟩:=hx
 have h0:=valid_cyc hv
 unfold cycF at h0
 rw[Option.map_eq_none_iff,List.find?_eq_none] at h0
 simpa using h0 _ (List.mem_of_getElem? (evIds_get hp hi))
theorem reach_trans {ps:List Pr} {a b c:Eid} (h1:Reach ps a b) (h2:Reach ps b c):Reach ps a c:=by
 induction h2 with
 | single h=>exact .tail h1 h
 | tail _ h ih=>exact .tail ih h
theorem countP_lt {α:Type} {p q:α→Bool} : ∀ {l:List α},(∀a ∈ l,p a=true→q a=true)→(∃a ∈ l,p a=false∧q a=true)→l.countP p<l.countP q
 | [],_,⟨a,h,_⟩=>by cases h
 | b :: l,h1,⟨a,ha,h2,h3⟩=>by
  have hle:l.countP p≤l.countP q:=List.countP_mono_left fun a ha h=>h1 a (List.mem_cons_of_mem _ ha) h
  rw[List.countP_cons,List.countP_cons]
  have hb:=h1 b List.mem_cons_self
  rcases List.mem_cons.1 ha with rfl|ha
  ·rw[h2,h3];simp;omega
  ·have:=countP_lt (l:=l) (fun a ha h=>h1 a (List.mem_cons_of_mem _ ha) h) ⟨a,ha,h2,h3⟩
   by_cases e:p b=true
   ·rw[e,hb e];omega
   ·rw[if_neg e];split <;> omega
open Classical in
noncomputable def anc (ps:List Pr) (x:Eid):Nat:=(evIds ps).countP fun e=>decide (Reach ps e.1 x)
theorem anc_lt {ps:List Pr} (hv:validF ps=true) {x y:Eid} (hx:VEv ps x) (h:Reach ps x y):anc ps x<anc ps y:=by
 classical
 unfold anc
 refine countP_lt (fun a _ ha=>decide_eq_true (reach_trans (of_decide_eq_true ha) h)) ?_
 obtain⟨e,he,e1⟩:=List.mem_map.1 hx.mem
 exact⟨e,he,decide_eq_false (by rw[e1];exact noreach hv hx),decide_eq_true (by rw[e1];exact h)⟩
theorem nx_line {ps:List Pr} (hm:msgF ps=none) {p:Nat} (hp:p<ps.length) {j:Nat} (hj:j+1<ps[p].evs.length):Nx ps ((p:Int),(j:Int)+1) ((p:Int),((j+1:Nat):Int)+1):=by
 refine((dirL_iff hm hp hj _).1 ?_).2
 unfold dirL
 rw[List.mem_append,if_pos (by omega)]
 exact .inl (by simp)
theorem nx_send {ps:List Pr} (hm:msgF ps=none) {p:Nat} (hp:p<ps.length) {i:Nat} (hi:i<ps[p].evs.length) (hk:ps[p].evs[i].kind=3):Nx ps (sndr ps ps[p].evs[i].msg) ((p:Int),(i:Int)+1):=by
 refine((dirL_iff hm hp hi _).1 ?_).2
 unfold dirL
 rw[List.mem_append,evq_get hp hi,if_pos hk]
 exact .inr (by simp)
theorem reach_line {ps:List Pr} (hm:msgF ps=none) {p:Nat} (hp:p<ps.length) {i:Nat} : ∀ {j:Nat},i<j→j<ps[p].evs.length→Reach ps ((p:Int),(i:Int)+1) ((p:Int),(j:Int)+1)
 | 0,h,_=>by omega
 | j+1,h,hj=>by
  by_cases e:i=j
  ·subst e;exact .single (nx_line hm hp hj)
  ·exact .tail (reach_line hm hp (by omega) (by omega)) (nx_line hm hp hj)
theorem anc_line {ps:List Pr} (hv:validF ps=true) {p:Nat} (hp:p<ps.length) {i j:Nat} (hij:i≤j) (hj:j<ps[p].evs.length):anc ps ((p:Int),(i:Int)+1)≤anc ps ((p:Int),(j:Int)+1):=by
 by_cases e:i=j
 ·subst e;exact Nat.le_refl _
 ·exact Nat.le_of_lt (anc_lt hv ⟨p,hp,i,by omega,rfl⟩ (reach_line (valid_parts hv).2.2 hp (by omega) hj))
theorem argmax (f:Nat→Nat) (P:Nat→Prop):∀n,(∃p,p<n∧P p)→∃p,p<n∧P p∧∀q,q<n→P q→f q≤f p
 | 0,⟨p,h,_⟩=>by omega
 | n+1,⟨p,hp,h⟩=>by
  classical
  by_cases hx:∃p,p<n∧P p
  ·obtain⟨m,h1,h2,h3⟩:=argmax f P n hx
   by_cases hn:P n∧f m<f n
   ·refine⟨n,by omega,hn.1,fun q hq hP => ?_⟩
    by_cases e:q=n
    ·subst e;exact Nat.le_refl _
    ·have:=h3 q (by omega) hP;omega
   ·refine⟨m,by omega,h2,fun q hq hP => ?_⟩
    by_cases e:q=n
    ·subst e
     have:¬f m<f q:=fun h=>hn ⟨hP,h⟩
     omega
    ·exact h3 q (by omega) hP
  ·have:p=n:=by
    by_cases e:p=n
    ·exact e
    ·exact absurd ⟨p,by omega,h⟩ hx
   subst this
   refine⟨p,by omega,h,fun q hq hP => ?_⟩
   by_cases e:q=p
   ·subst e;exact Nat.le_refl _
   ·exact absurd ⟨q,by omega,hP⟩ hx
theorem setc_cAt {d:List Int} {p q:Nat} {z:Int} (hq:q<d.length):cAt (d.set p z) q=if p=q then z else cAt d q:=by
 rw[cAt_nat (by rw[List.length_set];exact hq),List.getElem_set]
 split
 ·rfl
 ·rw[cAt_nat hq]
theorem cut_remove {ps:List Pr} (hv:validF ps=true) {c:List Int} (hl:c.length=ps.length) (hr:inRangeF ps c=true) (hcl:closedF ps c=true) (h0:∃p,p<ps.length∧0<cAt c p) :
  ∃p,p<ps.length∧0<cAt c p∧inRangeF ps (c.set p (cAt c p - 1))=true∧closedF ps (c.set p (cAt c p - 1))=true:=by
 have hm:=(valid_parts hv).2.2
 have hrr:=(inRange_iff hl).1 hr
 obtain⟨p,hp,hp0,hmax⟩:=argmax (fun p=>anc ps ((p:Int),cAt c p)) (fun p=>0<cAt c p) ps.length h0
 refine⟨p,hp,hp0,(inRange_iff (by rw[List.length_set];exact hl)).2 fun q hq => ?_,closed_iff.2 fun q hq i hi hk hle => ?_⟩
 ·rw[setc_cAt (by omega)]
  split
  ·rename_i e;subst e;have:=hrr p hp;omega
  ·exact hrr q hq
 ·have hle':(i:Int)+1≤cAt c q:=by
   rw[setc_cAt (by omega)] at hle
   split at hle
   ·rename_i e;subst e;omega
   ·exact hle
  have h1:=closed_iff.1 hcl q hq i hi hk hle'
  obtain⟨s,hs,j,hj,e,_,_⟩:=sndr_some (recv_sndr hm hq hi hk)
  have hn:=nx_send hm hq hi hk
  rw[e] at h1 hn ⊢
  simp only at h1 ⊢
  rw[setc_cAt (by omega)]
  split
  ·rename_i es;subst es
   by_cases hj2:(j:Int)+1=cAt c p
   ·exfalso
    have h2:=anc_lt hv ⟨p,hs,j,hj,rfl⟩ (.single hn)
    have h3:=hmax q hq (by omega)
    have hq2:=(hrr q hq).2
    have h4:=anc_line hv hq (i:=i) (j:=(cAt c q).toNat - 1) (by omega) (by omega)
    have h5:(((cAt c q).toNat - 1:Nat):Int)+1=cAt c q:=by omega
    rw[h5] at h4
    rw[hj2] at h2
    omega
   ·omega
  ·exact h1
def isF (ps:List Pr) (c:List Int):Bool:=(decide (c.length=ps.length) && inRangeF ps c) && closedF ps c
theorem isF_iff {ps:List Pr} {c:List Int} : isF ps c=true↔c.length=ps.length∧inRangeF ps c=true∧closedF ps c=true:=by
 unfold isF
 rw[Bool.and_eq_true,Bool.and_eq_true,decide_eq_true_eq,and_assoc]
def stpC (c:List Int) (p:Nat):List Int:=c.set p (cAt c p+1)
def nx1 (ps:List Pr) (c:List Int) (p:Nat):List (List Int):=if cAt c p<nev ps p∧isF ps (stpC c p)=true then [stpC c p] else []
def nextT (ps:List Pr) (c:List Int) (k:Nat):List (List Int):=(List.range k).flatMap (nx1 ps c)
def nextL (ps:List Pr) (c:List Int):List (List Int):=nextT ps c c.length
theorem nextT_succ (ps:List Pr) (c:List Int) (k:Nat):nextT ps c (k+1)=nextT ps c k ++ nx1 ps c k:=by unfold nextT;rw[List.range_succ,List.flatMap_append];simp
theorem nextT_len (ps:List Pr) (c:List Int):∀k,(nextT ps c k).length≤k
 | 0=>by simp [nextT]
 | k+1=>by
  rw[nextT_succ,List.length_append]
  have:=nextT_len ps c k
  unfold nx1
  split <;> simp <;> omega
def lexF:List Int→List Int→Bool
 | a :: x,b :: y=>if a=b then lexF x y else decide (a<b)
 | _,_=>false
def befF (a b:List Int):Bool:=if a.sum=b.sum then lexF a b else decide (a.sum<b.sum)
def insF (l:List (List Int)) (c:List Int):List (List Int):=if (l.dropWhile fun x=>befF x c).head?=some c then l else (l.takeWhile fun x=>befF x c) ++ c :: l.dropWhile fun x=>befF x c
theorem insF_len (l:List (List Int)) (c:List Int):(insF l c).length≤l.length+1:=by
 unfold insF
 split
 ·omega
 ·have h:=congrArg List.length (List.takeWhile_append_dropWhile (p:=fun x=>befF x c) (l:=l))
  rw[List.length_append] at h
  rw[List.length_append,List.length_cons];omega
theorem mem_insF {l:List (List Int)} {c d:List Int} : d ∈ insF l c↔d ∈ l∨d=c:=by
 unfold insF
 have h:=List.takeWhile_append_dropWhile (p:=fun x=>befF x c) (l:=l)
 split
 ·rename_i hh
  constructor
  ·exact .inl
  ·rintro(h1|rfl)
   ·exact h1
   ·rw[← h]
    exact List.mem_append_right _ (List.mem_of_mem_head? hh)
 ·rw[List.mem_append,List.mem_cons]
  constructor
  ·rintro(h1|h1|h1)
   ·left;rw[← h];exact List.mem_append_left _ h1
   ·exact .inr h1
   ·left;rw[← h];exact List.mem_append_right _ h1
  ·rintro(h1|h1)
   ·rw[← h,List.mem_append] at h1
    rcases h1 with h1|h1
    ·exact .inl h1
    ·exact .inr (.inr h1)
   ·exact .inr (.inl h1)
def insL (acc l:List (List Int)):List (List Int):=l.foldl insF acc
theorem mem_insL {d:List Int} : ∀ {l acc:List (List Int)},d ∈ insL acc l↔d ∈ acc∨d ∈ l
 | [],acc=>by simp [insL]
 | c :: l,acc=>by
  show d ∈ insL (insF acc c) l↔_
  rw[mem_insL,mem_insF,List.mem_cons,or_assoc]
theorem insL_len:∀(l acc:List (List Int)),(insL acc l).length≤acc.length+l.length
 | [],acc=>by simp [insL]
 | c :: l,acc=>by
  have:=insL_len l (insF acc c)
  have:=insF_len acc c
  show (insL (insF acc c) l).length≤_
  rw[List.length_cons];omega
def moreT (ps:List Pr) (lv:List (List Int)):List (List Int):=lv.foldl (fun acc c=>insL acc (nextL ps c)) []
theorem mem_more {ps:List Pr} {d:List Int} : ∀ {lv acc:List (List Int)},d ∈ lv.foldl (fun acc c=>insL acc (nextL ps c)) acc↔d ∈ acc∨∃c ∈ lv,d ∈ nextL ps c
 | [],acc=>by simp
 | c :: lv,acc=>by
  rw[List.foldl_cons,mem_more,mem_insL,or_assoc]
  simp
def levF (ps:List Pr):Nat→List (List Int)
 | 0=>[List.replicate ps.length 0]
 | k+1=>moreT ps (levF ps k)
theorem mem_nextL {ps:List Pr} {c d:List Int} : d ∈ nextL ps c↔∃p,p<c.length∧cAt c p<nev ps p∧isF ps (stpC c p)=true∧d=stpC c p:=by
 unfold nextL nextT
 rw[List.mem_flatMap]
 constructor
 ·rintro⟨p,hp,h⟩
  unfold nx1 at h
  split at h
  ·rename_i h1
   exact⟨p,List.mem_range.1 hp,h1.1,h1.2,by simpa using h⟩
  ·cases h
 ·rintro⟨p,hp,h1,h2,rfl⟩
  exact⟨p,List.mem_range.2 hp,by unfold nx1;rw[if_pos ⟨h1,h2⟩];simp⟩
theorem sum_stpC {c:List Int} {p:Nat} (hp:p<c.length):(stpC c p).sum=c.sum+1:=by
 unfold stpC
 have h:=sum_set c p (cAt c p+1) hp
 have e:cAt c p=c.getD p 0:=by unfold cAt;simp
 rw[h,e];omega
theorem isF_nonneg {ps:List Pr} {c:List Int} (h:isF ps c=true):∀z ∈ c,0≤z:=fun z hz=>by
 obtain⟨h1,h2,_⟩:=isF_iff.1 h
 obtain⟨p,hp,rfl⟩:=List.getElem_of_mem hz
 have:=((inRange_iff h1).1 h2 p (by omega)).1
 rwa [cAt_nat hp] at this
theorem isF_zero {ps:List Pr} : isF ps (List.replicate ps.length 0)=true:=by
 have e:∀q:Int,cAt (List.replicate ps.length 0) q=0:=fun q=>by
  unfold cAt
  rw[List.getD_eq_getElem?_getD,List.getElem?_replicate]
  split <;> rfl
 have hl:(List.replicate ps.length (0:Int)).length=ps.length:=List.length_replicate
 refine isF_iff.2 ⟨hl,(inRange_iff hl).2 fun p hp => ?_,closed_iff.2 fun p hp i hi hk hle => ?_⟩
 ·rw[e];omega
 ·rw[e] at hle;omega
theorem mem_levF {ps:List Pr} (hv:validF ps=true):∀(k:Nat) (c:List Int),c ∈ levF ps k↔isF ps c=true∧c.sum=k
 | 0,c=>by
  show c ∈ [List.replicate ps.length 0]↔_
  rw[List.mem_singleton]
  constructor
  ·rintro rfl
   refine⟨isF_zero,?_⟩
   have:∀n,(List.replicate n (0:Int)).sum=0:=fun n=>by
    induction n with
    | zero=>rfl
    | succ n ih=>rw[List.replicate_succ,List.sum_cons,ih];rfl
   rw[this];rfl
  ·rintro⟨h,hs⟩
   obtain⟨h1,h2,h3⟩:=isF_iff.1 h
   have hn:=isF_nonneg h
   apply List.ext_getElem (by rw[h1,List.length_replicate])
   intro i hi hi2
   have:=sum_ge c hn (List.getElem_mem hi)
   have:=hn _ (List.getElem_mem hi)
   rw[List.getElem_replicate]
   rw[hs] at *
   omega
 | k+1,c=>by
  show c ∈ moreT ps (levF ps k)↔_
  unfold moreT
  rw[mem_more]
  constructor
  ·rintro(h|⟨d,hd,hc⟩)
   ·cases h
   ·obtain⟨p,hp,_,h2,rfl⟩:=mem_nextL.1 hc
    have:=((mem_levF hv k d).1 hd).2
    exact⟨h2,by rw[sum_stpC hp,this];omega⟩
  ·rintro⟨h,hs⟩
   obtain⟨h1,h2,h3⟩:=isF_iff.1 h
   have hn:=isF_nonneg h
   have hpos:∃p,p<ps.length∧0<cAt c p:=by
    by_cases hx:∃p,p<ps.length∧0<cAt c p
    ·exact hx
    ·exfalso
     have:∀z ∈ c,z=0:=fun z hz=>by
      obtain⟨p,hp,rfl⟩:=List.getElem_of_mem hz
      have:=hn _ hz
      have h4:¬0<cAt c p:=fun h=>hx ⟨p,by omega,h⟩
      rw[cAt_nat hp] at h4
      omega
     have e:c.sum=0:=by
      clear hs hn h hx h1 h2 h3
      induction c with
      | nil=>rfl
      | cons a c ih =>
       rw[List.sum_cons,this a List.mem_cons_self,ih fun z hz=>this z (List.mem_cons_of_mem _ hz)];rfl
     omega
   obtain⟨p,hp,hp0,r1,r2⟩:=cut_remove hv h1 h2 h3 hpos
   have hpc:p<c.length:=by omega
   have hdl:(c.set p (cAt c p - 1)).length=c.length:=List.length_set
   have hst:stpC (c.set p (cAt c p - 1)) p=c:=by
    unfold stpC
    rw[setc_cAt hpc,if_pos rfl,List.set_set,show cAt c p - 1+1=cAt c p by omega,cAt_nat hpc,List.set_getElem_self]
   refine .inr ⟨c.set p (cAt c p - 1),(mem_levF hv k _).2 ⟨isF_iff.2 ⟨by rw[hdl,h1],r1,r2⟩,?_⟩,mem_nextL.2 ⟨p,by omega,?_,by rw[hst];exact h,hst.symm⟩⟩
   ·have:=sum_stpC (c:=c.set p (cAt c p - 1)) (p:=p) (by omega)
    rw[hst] at this;omega
   ·rw[setc_cAt hpc,if_pos rfl,nev_get hp]
    have:=((inRange_iff h1).1 h2 p hp).2
    omega
theorem sum_totC:∀ {c:List Int},(∀z ∈ c,0≤z)→c.sum=totC c
 | [],_=>rfl
 | a :: c,h=>by
  have h0:=h a List.mem_cons_self
  have:=sum_totC (c:=c) fun z hz=>h z (List.mem_cons_of_mem _ hz)
  unfold totC at *
  rw[List.sum_cons,List.map_cons,List.sum_cons,this]
  omega
theorem sum_le_off {ps:List Pr} {c:List Int} (h:isF ps c=true):c.sum≤off ps ps.length:=by
 obtain⟨h1,h2,_⟩:=isF_iff.1 h
 have h3:=totC_le h1 h2
 have h4:=sum_totC (isF_nonneg h)
 omega
theorem levF_end {ps:List Pr} (hv:validF ps=true) {k:Nat} (h:off ps ps.length<k):levF ps k=[]:=by
 rw[List.eq_nil_iff_forall_not_mem]
 intro c hc
 obtain⟨h1,h2⟩:=(mem_levF hv k c).1 hc
 have:=sum_le_off h1
 omega
theorem levF_nil {ps:List Pr} {k:Nat} (h:levF ps k=[]):∀j,levF ps (k+j)=[]
 | 0=>h
 | j+1=>by
  show moreT ps (levF ps (k+j))=[]
  rw[levF_nil h j];rfl
def cumF (ps:List Pr) (k:Nat):List (List Int):=(List.range k).flatMap (levF ps)
theorem cumF_succ (ps:List Pr) (k:Nat):cumF ps (k+1)=cumF ps k ++ levF ps k:=by unfold cumF;rw[List.range_succ,List.flatMap_append];simp
def cutsF (ps:List Pr):List (List Int):=cumF ps (off ps ps.length+1)
theorem mem_cutsF {ps:List Pr} (hv:validF ps=true) {c:List Int} : c ∈ cutsF ps↔isF ps c=true:=by
 unfold cutsF cumF
 rw[List.mem_flatMap]
 constructor
 ·rintro⟨k,_,h⟩
  exact((mem_levF hv k c).1 h).1
 ·intro h
  have h1:=sum_le_off h
  have h2:0≤c.sum:=sum_nonneg c (isF_nonneg h)
  exact⟨c.sum.toNat,List.mem_range.2 (by omega),(mem_levF hv _ c).2 ⟨h,by omega⟩⟩
theorem cumF_mono {ps:List Pr} {j:Nat} : ∀ {k:Nat},j≤k→(cumF ps j).length≤(cumF ps k).length
 | 0,h=>by
  have:j=0:=by omega
  subst this;exact Nat.le_refl _
 | k+1,h=>by
  by_cases e:j=k+1
  ·subst e;exact Nat.le_refl _
  ·have:=cumF_mono (ps:=ps) (j:=j) (k:=k) (by omega)
   rw[cumF_succ,List.length_append];omega
theorem cumF_end {ps:List Pr} {j:Nat} (h:levF ps j=[]):∀m,cumF ps (j+m)=cumF ps j
 | 0=>rfl
 | m+1=>by
  show cumF ps ((j+m)+1)=_
  rw[cumF_succ,levF_nil h m,List.append_nil,cumF_end h m]
end Go.AL
end
section
namespace Go.AL
open Go Go.RowKit
set_option maxRecDepth 4000
theorem lexF_iff:∀ {a b:List Int},a.length=b.length→(lexF a b=true↔cmpL a b<0)
 | [],[],_=>by simp [lexF,cmpL]
 | [],_ :: _,h=>by simp at h
 | _ :: _,[],h=>by simp at h
 | x :: a,y :: b,h=>by
  rw[cmpL_cons]
  unfold lexF
  by_cases e:x=y
  ·subst e
   rw[if_pos rfl,if_neg (by omega),if_neg (by omega)]
   exact lexF_iff (by simpa using h)
  ·rw[if_neg e,decide_eq_true_eq]
   by_cases c:x<y
   ·rw[if_pos c];omega
   ·rw[if_neg c,if_pos (by omega)];omega
def Asc (l:List (List Int)):Prop:=l.Pairwise fun x y=>cmpL x y<0
theorem asc_eq {l m:List (List Int)} (h1:Asc l) (h2:Asc m) (h:∀x,x ∈ l↔x ∈ m):l=m:=by
 have hn:∀ {l:List (List Int)},Asc l→l.Nodup:=fun {l} h=>h.imp fun {a b} hab e=>by subst e;rw[cmpL_irr] at hab;omega
 have hp:l.Perm m:=(List.perm_ext_iff_of_nodup (hn h1) (hn h2)).2 h
 exact hp.eq_of_pairwise (fun a b _ _ h3 h4=>absurd (cmpL_trans _ _ _ h3 h4) (by rw[cmpL_irr];omega)) h1 h2
theorem asc_comp (l:List (List Int)):Asc (compL (sortL l)):=compN_pair (sortBy_pair swoL l) _ (Nat.le_refl _)
theorem mem_comp {l:List (List Int)} {x:List Int} : x ∈ compL (sortL l)↔x ∈ l:=by rw[compL_mem];exact(sortBy_perm cmpL l).mem_iff
theorem asc_ins {l:List (List Int)} {c:List Int} (h:Asc l) (hl:∀x ∈ l,x.length=c.length∧x.sum=c.sum):Asc (insF l c):=by
 have hb:∀x ∈ l,(befF x c=true↔cmpL x c<0):=fun x hx=>by
  unfold befF;rw[if_pos (hl x hx).2];exact lexF_iff (hl x hx).1
 unfold insF
 have hsp:=List.takeWhile_append_dropWhile (p:=fun x=>befF x c) (l:=l)
 split
 ·exact h
 ·rename_i hh
  generalize ht:l.takeWhile (fun x=>befF x c)=t at *
  generalize hd:l.dropWhile (fun x=>befF x c)=d at *
  have htm:∀x ∈ t,cmpL x c<0:=fun x hx=>by
   have h1:x ∈ l:=by rw[← hsp];exact List.mem_append_left _ hx
   refine(hb x h1).1 ?_
   have:=List.all_takeWhile (p:=fun x=>befF x c) (l:=l)
   rw[ht] at this
   exact List.all_eq_true.1 this x hx
  unfold Asc at h ⊢
  rw[← hsp,List.pairwise_append] at h
  obtain⟨a1,a2,a3⟩:=h
  have hdm:∀y ∈ d,cmpL c y<0:=fun y hy=>by
   cases d with
   | nil=>cases hy
   | cons z d =>
    have hz:cmpL c z<0:=by
     have hzl:z ∈ l:=by rw[← hsp];simp
     have hf:¬befF z c=true:=by
      have:=List.head?_dropWhile_not (fun x=>befF x c) l
      rw[hd] at this
      simpa using this
     by_cases e:cmpL c z<0
     ·exact e
     ·exact absurd (congrArg some (cmpL_anti z c (fun h=>hf ((hb z hzl).2 h)) e)) hh
    rcases List.mem_cons.1 hy with rfl|hy
    ·exact hz
    ·exact cmpL_trans _ _ _ hz (List.rel_of_pairwise_cons a2 hy)
  rw[List.pairwise_append,List.pairwise_cons]
  refine⟨a1,⟨hdm,a2⟩,fun x hx y hy => ?_⟩
  rcases List.mem_cons.1 hy with rfl|hy
  ·exact htm x hx
  ·exact a3 x hx y hy
theorem asc_insL {n:Nat} {s:Int} : ∀ {l acc:List (List Int)},Asc acc→(∀x ∈ acc,x.length=n∧x.sum=s)→(∀x ∈ l,x.length=n∧x.sum=s)→Asc (insL acc l)
 | [],_,h,_,_=>h
 | c :: l,acc,h,h1,h2=>by
  have hc:=h2 c List.mem_cons_self
  show Asc (insL (insF acc c) l)
  refine asc_insL (asc_ins h fun x hx=>by have:=h1 x hx;omega) (fun x hx => ?_) fun x hx=>h2 x (List.mem_cons_of_mem _ hx)
  rcases mem_insF.1 hx with hx|rfl
  ·exact h1 x hx
  ·exact hc
theorem asc_lev {ps:List Pr} (hv:validF ps=true):∀k,Asc (levF ps k)
 | 0=>List.pairwise_singleton _ _
 | k+1=>by
  have hm:∀(lv acc:List (List Int)),(∀c ∈ lv,isF ps c=true∧c.sum=k)→Asc acc→(∀x ∈ acc,x.length=ps.length∧x.sum=k+1)→Asc (lv.foldl (fun acc c=>insL acc (nextL ps c)) acc):=by
   intro lv
   induction lv with
   | nil=>intro acc _ h _;exact h
   | cons c lv ih =>
    intro acc h1 h2 h3
    have hc:=h1 c List.mem_cons_self
    have hnx:∀x ∈ nextL ps c,x.length=ps.length∧x.sum=k+1:=fun x hx=>by
     obtain⟨p,hp,_,h4,rfl⟩:=mem_nextL.1 hx
     exact⟨(isF_iff.1 h4).1,by rw[sum_stpC hp,hc.2]⟩
    refine ih _ (fun d hd=>h1 d (List.mem_cons_of_mem _ hd)) (asc_insL h2 h3 hnx) fun x hx => ?_
    rcases mem_insL.1 hx with hx|hx
    ·exact h3 x hx
    ·exact hnx x hx
  exact hm (levF ps k) [] (fun c hc=>(mem_levF hv k c).1 hc) List.Pairwise.nil fun x hx=>by cases hx
theorem next_lev {ps:List Pr} (hv:validF ps=true) (k:Nat) {l:List (List Int)} (h:∀x,x ∈ l↔∃c ∈ levF ps k,x ∈ nextL ps c):compL (sortL l)=levF ps (k+1):=by
 refine asc_eq (asc_comp l) (asc_lev hv (k+1)) fun x => ?_
 rw[mem_comp,h]
 show _↔x ∈ moreT ps (levF ps k)
 unfold moreT
 rw[mem_more]
 simp
end Go.AL
end
section
namespace Go.AL
open Go Go.RowKit Go.Sort Go.Proofs Go.Shelf
set_option maxRecDepth 4000
theorem bits_zero:PC Proofs.Tryz.prog 212 [.v (.int .u64 0)] (ai 0):=by
 refine PC.same (vs:=[.int .u64 0]) (enters_of Proofs.Tryz.func212 rfl rfl) (fun w A us h => ?_) fun w => ?_
 ·obtain⟨u,us,rfl,h1,h2⟩:=h.inv_cons
  obtain rfl:=h2.inv_nil
  rw[h1.inv_v]
 ·have L:=sortRows
  have h:=Any.bits_Len (SlLaysF0.n15.bits (P:=Proofs.Tryz.prog) (ρ:=sortRows_ren) { L with }) 0 w (by omega) (by omega)
  exact h
theorem insert_nil (g:FuncId):PC Proofs.Tryz.prog 236 [anil,ai 0,ai 0,.v (.func (.func g) #[] #[])] (.tup []):=by
 refine PC.enter 53 [] [] Proofs.Tryz.func236 rfl rfl rfl rfl rfl (by simp) (AWp.of ?_);simp only[go_sem]
 refine Wk ?_
 refine AWp.block (AWp.loopN [8] [0,1,2,3] (fun _ vs L=>L=[]∧vs=[ai 1]) 0 ⟨rfl,rfl⟩ ?_)
 rintro m vs L - ⟨rfl,rfl⟩
 simp only[go_sem]
 refine Wk ?_
 intro _
 refine ret_eq ?_;simp only[go_sem]
theorem pdq_nil (g:FuncId):PC Proofs.Tryz.prog 211 [anil,ai 0,ai 0,ai 0,.v (.func (.func g) #[] #[])] (.tup []):=by
 refine PC.enter 148 [] [] Proofs.Tryz.func211 rfl rfl rfl rfl rfl (by simp) (AWp.of ?_);simp only[go_sem]
 refine Wk ?_
 refine AWp.block (AWp.loopN [1,2,3,10,11] [0,4] (fun _ vs L=>L=[]∧vs=[ai 0,ai 0,ai 0,ab true,ab true]) 0 ⟨rfl,rfl⟩ ?_)
 rintro m vs L - ⟨rfl,rfl⟩
 simp only[go_sem]
 refine Wk ?_
 refine⟨fun h => ?_,fun h => ?_⟩
 ·refine Wk ?_
  refine Sd ?_
  refine(insert_nil g).val.use ?_;simp only[go_sem]
  refine Wk ?_
  refine ret_eq ?_;simp only[go_sem]
 ·exact absurd (by omega) h
theorem sort_nil (g:FuncId):PC Proofs.Tryz.prog 179 [anil,.v (.func (.func g) #[] #[])] (.tup []):=by
 refine PC.enter 14 [] [] Proofs.Tryz.func179 rfl rfl rfl rfl rfl (by simp) (AWp.of ?_);simp only[go_sem]
 refine Wk ?_
 refine Sd ?_
 refine(bits_zero).val.use ?_;simp only[go_sem]
 refine Wk ?_
 refine Sd ?_
 refine(pdq_nil g).val.use ?_;simp only[go_sem]
 refine Wk ?_
 refine ret_eq ?_;simp only[go_sem]
theorem compact_nil (g:FuncId):PC Proofs.Tryz.prog 182 [anil,.v (.func (.func g) #[] #[])] anil:=by
 refine PC.enter 66 [.tmp 4] [] Proofs.Tryz.func182 rfl rfl rfl rfl rfl (by simp) (AWp.of ?_);simp only[go_sem]
 refine Wk ?_
 refine⟨fun h => ?_,fun h => ?_⟩
 ·refine Wk ?_
  refine ret_eq ?_;simp only[go_sem]
 ·exact absurd (by omega) h
end Go.AL
end
