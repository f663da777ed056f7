/- Texts of this claim's proof: WK18, WRt, WRt2, WRt4, WRt6, WRt7. No condition. -/
import Derived.Test.YtbbcigpnpbiojaaGreatDoorM24
import Derived.Test.YtbbcigpnpbiojaaGreatDoorM26
import Derived.Test.YtbbcigpnpbiojaaGreatDoorM10
import Derived.Test.YtbbcigpnpbiojaaGreatDoorM8
import Derived.Test.YtbbcigpnpbiojaaGreatDoorM5
section
namespace Go.AL
open Go Go.RowKit
set_option maxRecDepth 4000
theorem evaluate_BoolE (ps:List Pr) (hs:Sm ps) (c:List Int) (hcl:c.length≤1000000) (t:Pd) (hz:szF t≤1000000) (hE:¬atE ps c t 2=0):PC Proofs.Tryz.prog 8 [aTr ps,aInts c,aPd t] (.tup [ab false,ai (atE ps c t 2)]):=by
 have h1:=evaluate_at ps hs c hcl t hz 2
 obtain⟨a1,a2,a3,hA⟩:∃a1 a2 a3,atV ps c t = .agg [.sl 3 a1,.sl 1 a2,.sl 1 a3]:=by
  unfold atV
  split <;> exact⟨_,_,_,rfl⟩
 rw[hA] at h1
 generalize atE ps c t 2=e at *
 have hT:aTr ps = .agg [.sl 3 (ps.map aPr)]:=rfl
 have hI:aInts c = .sl 1 (c.map ai):=rfl
 obtain⟨k,n,p,q,s,X,hX⟩:=aPd_shape t
 rw[hT,hI,hX] at h1 ⊢
 refine PC.enter 23 [.tmp 6,.tmp 7] [3,5,8] Proofs.Tryz.func8 rfl rfl rfl rfl rfl (by simp) (AWp.of ?_);simp only[go_sem]
 refine Wk ?_
 refine Sd ?_
 refine(h1).val.use ?_;simp only[go_sem]
 refine Wk ?_
 intro b8
 refine Sd ?_
 refine W1 hE ?_
 refine ret_eq ?_;simp only[go_sem]
noncomputable def blE (ps:List Pr) (c:List Int) (t:Pd):Int:=atE ps c t 2
noncomputable def blF (ps:List Pr) (c:List Int) (t:Pd):Bool:=if atE ps c t 2=0 then truF (obC ps c) t else false
theorem evaluate_BoolX (ps:List Pr) (hs:Sm ps) (c:List Int) (hcl:c.length≤1000000) (t:Pd) (hz:szF t≤1000000):PC Proofs.Tryz.prog 8 [aTr ps,aInts c,aPd t] (.tup [ab (blF ps c t),ai (blE ps c t)]):=by
 unfold blF blE
 by_cases h:atE ps c t 2=0
 ·rw[if_pos h,h]
  exact evaluate_BoolC ps hs c hcl t hz h
 ·rw[if_neg h]
  exact evaluate_BoolE ps hs c hcl t hz h
theorem bl_zero {ps:List Pr} {c:List Int} {t:Pd} (hv:validF ps=true) (h:blE ps c t=0):isF ps c=true∧blF ps c t=truF (obC ps c) t:=by
 have h':atE ps c t 2=0:=h
 obtain⟨_,g2,_⟩:=atE_zero h'
 exact⟨(isF_given hv).1 g2,by unfold blF;rw[if_pos h']⟩
theorem bl_of {ps:List Pr} {c:List Int} {t:Pd} (hck:checkF ps t=0) (hp:prdF t=0) (ht:allB ntmB t=true) (hc:isF ps c=true):blE ps c t=0∧blF ps c t=truF (obC ps c) t:=by
 have hv:=(checkF_zero hck).1
 have hE:atE ps c t 2=0:=by
  unfold atE
  rw[if_neg (by have:=(isF_iff.1 hc).1;omega),hck,if_neg (by decide),(isF_given hv).2 hc,if_neg (by decide),res_of_bool (prdF_zero hp).2.2,if_neg (by decide),ht]
  rfl
 exact⟨hE,by unfold blF;rw[if_pos hE]⟩
theorem leq_leC {a b:List Int} (hl:a.length=b.length) (h:leC a b):leqF a b=true:=by
 rw[leqF_iff]
 exact⟨hl,fun i _=>h i⟩
theorem les_next {ps:List Pr} {t:Pd} {p:Nat} (hp:p<ps.length) {i:Nat} (hi:i<ps[p].evs.length) (h:lesE ps t ((p:Int),(i:Int)+1)=0) {d:List Int} (hd:Lst ps (TruP ps t) (ptF ps p i) d) :
  (lesE ps t ((p:Int),(i:Int)+1+1)=0∧∃d',lesF ps t ((p:Int),(i:Int)+1+1)=some d'∧leqF d d'=true)∨(¬lesE ps t ((p:Int),(i:Int)+1+1)=0∧(lesE ps t ((p:Int),(i:Int)+1+1)=7∨lesE ps t ((p:Int),(i:Int)+1+1)=2)):=by
 obtain⟨hck,hm,hv,_⟩:=les_zero (.inl h)
 have hE:lesE ps t ((p:Int),(i:Int)+1+1)=if pstE ps ((p:Int),(i:Int)+1+1) ≠ 0 then pstE ps ((p:Int),(i:Int)+1+1) else if (lstQ ps (TruP ps t) (pstF ps ((p:Int),(i:Int)+1+1))).isSome then 0 else 7:=by
  unfold lesE
  rw[if_neg (fun h=>h hck),if_neg (show ¬madE t 8 ≠ 0 from fun h=>h hm)]
 by_cases h0:lesE ps t ((p:Int),(i:Int)+1+1)=0
 ·refine .inl ⟨h0,?_⟩
  obtain⟨_,_,_,p',hp',i',hi',e,hz,_⟩:=les_zero (.inl h0)
  rw[Prod.mk.injEq] at e
  have e1:p'=p:=by omega
  subst e1
  have e2:i'=i+1:=by omega
  subst e2
  obtain⟨d',hd',hL⟩:=hz h0
  refine⟨d',hd',leq_leC ((isF_iff.1 hd.is).1.trans (isF_iff.1 hL.is).1.symm) (hd.least d' hL.is ?_ hL.tru)⟩
  refine leC.trans ?_ hL.ge
  have h1:=pt_is hv hp hi'
  refine(pt_leC hv hp hi h1).2 ?_
  have:=(pt_leC hv hp hi' h1).1 (.refl _)
  omega
 ·refine .inr ⟨h0,?_⟩
  have hp2:pstE ps ((p:Int),(i:Int)+1+1)=if eidOk ps ((p:Int),(i:Int)+1+1)=true then 0 else 2:=by unfold pstE;rw[if_pos hv]
  rw[hE] at h0 ⊢
  by_cases hx:eidOk ps ((p:Int),(i:Int)+1+1)=true
  ·rw[if_pos hx] at hp2
   rw[if_neg (fun h=>h hp2)] at h0 ⊢
   left
   by_cases h2:(lstQ ps (TruP ps t) (pstF ps ((p:Int),(i:Int)+1+1))).isSome=true
   ·rw[if_pos h2] at h0;exact absurd rfl h0
   ·rw[if_neg h2]
  ·rw[if_neg hx] at hp2
   right
   rw[if_pos (by rw[hp2];decide),hp2]
theorem getD_any (c:List Int) (p:Nat):(c.map ai).getD p .any = .any∨∃z,(c.map ai).getD p .any=ai z:=by
 by_cases h:p<c.length
 ·exact .inr ⟨_,getD_map (f:=ai) h⟩
 ·left
  rw[List.getD_eq_getElem?_getD,List.getElem?_eq_none (by rw[List.length_map];omega)];rfl
set_option maxHeartbeats 4000000 in
theorem law33_IrreducibleBelow (ps:List Pr) (t:Pd) (x:Eid) (c:List Int) (hpl:ps.length≤9223372036854775807) (hev:∀p ∈ ps,p.evs.length≤9223372036854775807):PC Proofs.Tryz.prog 3 [aTr ps,aPd t,aEid x,aInts c] (ab true):=by
 have hA:=law33_awake
 have hB:=law33_big ps hpl hev
 have hH:=law33_huge t
 obtain⟨k,n,p0,q0,s,XT,hT⟩:=aPd_shape t
 have hTr:aTr ps = .agg [.sl 3 (ps.map aPr)]:=rfl
 have hI:aInts c = .sl 1 (c.map ai):=rfl
 cases hb:bg3F ps with
 | true =>
  have hX:aEid x = .agg [ai x.1,ai x.2]:=rfl
  rw[hb,hTr] at hB
  rw[hT] at hH ⊢
  rw[hTr,hX,hI]
  refine PC.enter 132 [.tmp 8] [4,5,6] Proofs.Tryz.func3 rfl rfl rfl rfl rfl (by simp) (AWp.of ?_);simp only[go_sem]
  refine Wk ?_
  refine Sd ?_
  refine(hA).val.use ?_;simp only[go_sem]
  refine Wk ?_
  refine Sd ?_
  refine(hB).val.use ?_;simp only[go_sem]
  refine Wk ?_
  refine GCall.use (ab false) (fun h=>absurd h (by simp)) ?_
  simp only[go_sem]
  refine Wk ?_
  refine ret_eq ?_;simp only[go_sem]
 | false =>
 by_cases hh:300<hugeF t 0 0
 ·have hX:aEid x = .agg [ai x.1,ai x.2]:=rfl
  rw[decide_eq_true hh] at hH
  rw[hb,hTr] at hB
  rw[hT] at hH ⊢
  rw[hTr,hX,hI]
  refine PC.enter 132 [.tmp 8] [4,5,6] Proofs.Tryz.func3 rfl rfl rfl rfl rfl (by simp) (AWp.of ?_);simp only[go_sem]
  refine Wk ?_
  refine Sd ?_
  refine(hA).val.use ?_;simp only[go_sem]
  refine Wk ?_
  refine Sd ?_
  refine(hB).val.use ?_;simp only[go_sem]
  refine Wk ?_
  refine Sd ?_
  refine Gc hH ?_
  refine Sd ?_
  refine Wk ?_
  refine ret_eq ?_;simp only[go_sem]
 rw[decide_eq_false hh] at hH
 by_cases hl:(20:Int)<c.length
 ·have hX:aEid x = .agg [ai x.1,ai x.2]:=rfl
  rw[hb,hTr] at hB
  rw[hT] at hH ⊢
  rw[hTr,hX,hI]
  refine PC.enter 132 [.tmp 8] [4,5,6] Proofs.Tryz.func3 rfl rfl rfl rfl rfl (by simp) (AWp.of ?_);simp only[go_sem]
  refine Wk ?_
  refine Sd ?_
  refine(hA).val.use ?_;simp only[go_sem]
  refine Wk ?_
  refine Sd ?_
  refine(hB).val.use ?_;simp only[go_sem]
  refine Wk ?_
  refine Sd ?_
  refine Gc hH ?_
  refine Sd ?_
  refine W1 hl ?_
  refine ret_eq ?_;simp only[go_sem]
 obtain⟨hs,_,_⟩:=bg3_sm hb
 have hz:=not_huge hh
 have h1:=irr_Least ps hs t (by omega) x
 rw[hb,hTr] at hB
 rw[hT] at hH
 have h00:((0:Nat):Int)=0:=rfl
 by_cases h07:lesE ps t x=0∨lesE ps t x=7
 rotate_left
 ·have n0:¬lesE ps t x=0:=fun h=>h07 (.inl h)
  have n7:¬lesE ps t x=7:=fun h=>h07 (.inr h)
  have hX:aEid x = .agg [ai x.1,ai x.2]:=rfl
  rw[les_none n0] at h1
  generalize lesE ps t x=E at *
  rw[hT,hTr,hX] at h1
  have h1:PC _ _ _ (.tup [anil,ai E]):=h1
  rw[hT,hTr,hX,hI]
  refine PC.enter 132 [.tmp 8] [4,5,6] Proofs.Tryz.func3 rfl rfl rfl rfl rfl (by simp) (AWp.of ?_);simp only[go_sem]
  refine Wk ?_
  refine Sd ?_
  refine(hA).val.use ?_;simp only[go_sem]
  refine Wk ?_
  refine Sd ?_
  refine(hB).val.use ?_;simp only[go_sem]
  refine Wk ?_
  refine Sd ?_
  refine Gc hH ?_
  refine Sd ?_
  refine W1 hl ?_
  refine Sd ?_
  refine(h1).val.use ?_;simp only[go_sem]
  refine W3 n0 n7 h00 ?_
  refine ret_eq ?_;simp only[go_sem]
 have hX:∀(a b:Int),aEid (a,b) = .agg [ai a,ai b]:=fun _ _=>rfl
 have hIn:∀c:List Int,aInts c = .sl 1 (c.map ai):=fun _=>rfl
 have h4:=evaluate_BoolX ps hs c (by omega) t (by omega)
 rw[hT,hTr,hI] at h4
 rcases h07 with h0|h7
 ·obtain⟨hck,hm,hv,p,hp,i,hi,rfl,hz0,_⟩:=les_zero (.inl h0)
  obtain⟨d,hd,hL⟩:=hz0 h0
  obtain⟨m1,_,m3⟩:=mad_zero hm
  have hnx:=les_next hp hi h0 hL
  have h2:=irr_Least ps hs t (by omega) ((p:Int),(i:Int)+1+1)
  obtain⟨f1,f2⟩:=bl_of hck m1 m3 hL.is
  have h8:=(valid_len hv).2
  have hdl:=(isF_iff.1 hL.is).1
  have h3:=evaluate_BoolX ps hs d (by omega) t (by omega)
  rw[f1,f2,show truF (obC ps d) t=true from hL.tru] at h3
  clear f1 f2
  have hdp:=(pt_leC hv hp hi hL.is).1 hL.ge
  have hpd:p<d.length:=by omega
  have hgd:(d.map ai).getD p .any=ai (d.getD p 0):=by
   rw[getD_map (f:=ai) hpd,List.getD_eq_getElem?_getD,List.getElem?_eq_getElem hpd];rfl
  have hcc:blE ps c t=0→blF ps c t=true→(i:Int)+1≤c.getD p 0→leqF d c=true:=fun e1 e2 e3=>by
   obtain⟨f1,f2⟩:=bl_zero hv e1
   rw[f2] at e2
   exact leq_leC (hdl.trans (isF_iff.1 f1).1.symm) (hL.least c f1 ((pt_leC hv hp hi f1).2 e3) e2)
  have hcl:blE ps c t=0→c.length=ps.length:=fun e1=>(isF_iff.1 (bl_zero hv e1).1).1
  have h5:=cut_Leq d c (by omega)
  have h6:=fun d'=>cut_Leq d d' (by omega)
  have hevp:=hs.evs _ (List.getElem_mem hp)
  rw[hd,h0,hT,hTr,hX] at h1
  have h1:PC _ _ _ (.tup [.sl 1 (d.map ai),ai 0]):=h1
  rw[hT,hTr,hX] at h2
  rw[hT,hTr,hIn] at h3
  rw[hIn,hIn] at h5
  have h6:∀d':List Int,PC Proofs.Tryz.prog 9 [.sl 1 (d.map ai),.sl 1 (d'.map ai)] (ab (leqF d d')):=h6
  rw[hT,hTr,hX,hI]
  generalize blE ps c t=e2 at *
  generalize blF ps c t=b2 at *
  generalize d.getD p 0=dp at *
  clear hL hm hck m1 m3 hz0 h0 hd
  have hdge:¬dp<(i:Int)+1:=by omega
  rcases hnx with ⟨e0,d',hd',hlq⟩|⟨en,e72⟩
  ·have h6:=h6 d'
   rw[hlq] at h6
   rw[hd',e0] at h2
   have h2:PC _ _ _ (.tup [.sl 1 (d'.map ai),ai 0]):=h2
   refine PC.enter 132 [.tmp 8] [4,5,6] Proofs.Tryz.func3 rfl rfl rfl rfl rfl (by simp) (AWp.of ?_);simp only[go_sem]
   refine Wk ?_
   refine Sd ?_
   refine(hA).val.use ?_;simp only[go_sem]
   refine Wk ?_
   refine Sd ?_
   refine(hB).val.use ?_;simp only[go_sem]
   refine Wk ?_
   refine Sd ?_
   refine Gc hH ?_
   refine Sd ?_
   refine W1 hl ?_
   refine Sd ?_
   refine(h1).val.use ?_;simp only[go_sem]
   refine Wk ?_
   refine Sd ?_
   refine(h3).val.use ?_;simp only[go_sem]
   refine Wk ?_
   repeat(first|(with_reducible refine AWp.seq ?_)|(with_reducible refine AWp.block ?_))
   refine AWp.mix mixed [0,1,2,3,4,5,6,7,8,9,10,11,12,13,14,15] .done (by kernel_rfl) ?_;simp only[go_sem,hgd,hdge]
   refine Sd ?_
   refine W1 hdge ?_
   refine Sd ?_
   refine(h2).val.use ?_;simp only[go_sem]
   refine Wk ?_
   refine Sd ?_
   refine Gc h6 ?_
   refine Sd ?_
   refine Wk ?_
   refine Sd ?_
   refine(h4).val.use ?_;simp only[go_sem]
   refine Wk ?_
   by_cases hE:e2=0
   rotate_left
   ·rcases getD_any c p with hg|⟨z,hg⟩
    ·repeat(first|(with_reducible refine AWp.seq ?_)|(with_reducible refine AWp.block ?_))
     refine AWp.mix mixed [0,1,2,3,4,5,6,7,8,9,10,11,12,13,14] .done (by kernel_rfl) ?_;simp only[go_sem,hg,hE]
     refine Sd ?_
     refine W1 hE ?_
     refine ret_eq ?_;simp only[go_sem]
    ·repeat(first|(with_reducible refine AWp.seq ?_)|(with_reducible refine AWp.block ?_))
     refine AWp.mix mixed [0,1,2,3,4,5,6,7,8,9,10,11,12,13,14] .done (by kernel_rfl) ?_;simp only[go_sem,hg,hE]
     refine Sd ?_
     refine W1 hE ?_
     refine ret_eq ?_;simp only[go_sem]
   cases b2 with
   | false =>
    rcases getD_any c p with hg|⟨z,hg⟩
    ·repeat(first|(with_reducible refine AWp.seq ?_)|(with_reducible refine AWp.block ?_))
     refine AWp.mix mixed [0,1,2,3,4,5,6,7,8,9,10,11,12,13,14] .done (by kernel_rfl) ?_;simp only[go_sem,hg,hE]
     refine Sd ?_
     refine W1 hE ?_
     refine ret_eq ?_;simp only[go_sem]
    ·repeat(first|(with_reducible refine AWp.seq ?_)|(with_reducible refine AWp.block ?_))
     refine AWp.mix mixed [0,1,2,3,4,5,6,7,8,9,10,11,12,13,14] .done (by kernel_rfl) ?_;simp only[go_sem,hg,hE]
     refine Sd ?_
     refine W1 hE ?_
     refine ret_eq ?_;simp only[go_sem]
   | true =>
    have hcl:=hcl hE
    have hpc:p<c.length:=by omega
    have hgc:(c.map ai).getD p .any=ai (c.getD p 0):=by
     rw[getD_map (f:=ai) hpc,List.getD_eq_getElem?_getD,List.getElem?_eq_getElem hpc];rfl
    have hcc:=hcc hE rfl
    generalize c.getD p 0=cp at *
    by_cases hge:(i:Int)+1≤cp
    ·have hcc:=hcc hge
     rw[hcc] at h5
     repeat(first|(with_reducible refine AWp.seq ?_)|(with_reducible refine AWp.block ?_))
     refine AWp.mix mixed [0,1,2,3,4,5,6,7,8,9,10,11,12,13,14] .done (by kernel_rfl) ?_;simp only[go_sem,hgc,hE,hge]
     refine Sd ?_
     refine W2 hE hge ?_
     refine Sd ?_
     refine Gc h5 ?_
     refine Sd ?_
     refine Wk ?_
     refine ret_eq ?_;simp only[go_sem]
    ·repeat(first|(with_reducible refine AWp.seq ?_)|(with_reducible refine AWp.block ?_))
     refine AWp.mix mixed [0,1,2,3,4,5,6,7,8,9,10,11,12,13,14] .done (by kernel_rfl) ?_;simp only[go_sem,hgc,hE,hge]
     refine Sd ?_
     refine W2 hE hge ?_
     refine ret_eq ?_;simp only[go_sem]
  ·rw[les_none en] at h2
   have h2:PC _ _ _ (.tup [anil,ai (lesE ps t ((p:Int),(i:Int)+1+1))]):=h2
   generalize lesE ps t ((p:Int),(i:Int)+1+1)=E' at *
   refine PC.enter 132 [.tmp 8] [4,5,6] Proofs.Tryz.func3 rfl rfl rfl rfl rfl (by simp) (AWp.of ?_);simp only[go_sem]
   refine Wk ?_
   refine Sd ?_
   refine(hA).val.use ?_;simp only[go_sem]
   refine Wk ?_
   refine Sd ?_
   refine(hB).val.use ?_;simp only[go_sem]
   refine Wk ?_
   refine Sd ?_
   refine Gc hH ?_
   refine Sd ?_
   refine W1 hl ?_
   refine Sd ?_
   refine(h1).val.use ?_;simp only[go_sem]
   refine Wk ?_
   refine Sd ?_
   refine(h3).val.use ?_;simp only[go_sem]
   refine Wk ?_
   repeat(first|(with_reducible refine AWp.seq ?_)|(with_reducible refine AWp.block ?_))
   refine AWp.mix mixed [0,1,2,3,4,5,6,7,8,9,10,11,12,13,14,15] .done (by kernel_rfl) ?_;simp only[go_sem,hgd,hdge]
   refine Sd ?_
   refine W1 hdge ?_
   refine Sd ?_
   refine(h2).val.use ?_;simp only[go_sem]
   refine W1 en ?_
   refine GCall.use (ab false) (fun h=>absurd h (by simp [en])) ?_
   simp only[go_sem,en]
   rcases e72 with rfl|rfl
   ·repeat(first|((with_reducible refine AWp.ofC ?_ ?_);exact rfl;simp only[go_sem,Int.reduceEq])|((with_reducible refine an ?_ ?_);exact Au))
    refine Sd ?_
    refine(h4).val.use ?_;simp only[go_sem]
    refine Wk ?_
    by_cases hE:e2=0
    rotate_left
    ·rcases getD_any c p with hg|⟨z,hg⟩
     ·repeat(first|(with_reducible refine AWp.seq ?_)|(with_reducible refine AWp.block ?_))
      refine AWp.mix mixed [0,1,2,3,4,5,6,7,8,9,10,11,12,13,14] .done (by kernel_rfl) ?_;simp only[go_sem,hg,hE]
      refine Sd ?_
      refine W1 hE ?_
      refine ret_eq ?_;simp only[go_sem]
     ·repeat(first|(with_reducible refine AWp.seq ?_)|(with_reducible refine AWp.block ?_))
      refine AWp.mix mixed [0,1,2,3,4,5,6,7,8,9,10,11,12,13,14] .done (by kernel_rfl) ?_;simp only[go_sem,hg,hE]
      refine Sd ?_
      refine W1 hE ?_
      refine ret_eq ?_;simp only[go_sem]
    cases b2 with
    | false =>
     rcases getD_any c p with hg|⟨z,hg⟩
     ·repeat(first|(with_reducible refine AWp.seq ?_)|(with_reducible refine AWp.block ?_))
      refine AWp.mix mixed [0,1,2,3,4,5,6,7,8,9,10,11,12,13,14] .done (by kernel_rfl) ?_;simp only[go_sem,hg,hE]
      refine Sd ?_
      refine W1 hE ?_
      refine ret_eq ?_;simp only[go_sem]
     ·repeat(first|(with_reducible refine AWp.seq ?_)|(with_reducible refine AWp.block ?_))
      refine AWp.mix mixed [0,1,2,3,4,5,6,7,8,9,10,11,12,13,14] .done (by kernel_rfl) ?_;simp only[go_sem,hg,hE]
      refine Sd ?_
      refine W1 hE ?_
      refine ret_eq ?_;simp only[go_sem]
    | true =>
     have hcl:=hcl hE
     have hpc:p<c.length:=by omega
     have hgc:(c.map ai).getD p .any=ai (c.getD p 0):=by
      rw[getD_map (f:=ai) hpc,List.getD_eq_getElem?_getD,List.getElem?_eq_getElem hpc];rfl
     have hcc:=hcc hE rfl
     generalize c.getD p 0=cp at *
     by_cases hge:(i:Int)+1≤cp
     ·have hcc:=hcc hge
      rw[hcc] at h5
      repeat(first|(with_reducible refine AWp.seq ?_)|(with_reducible refine AWp.block ?_))
      refine AWp.mix mixed [0,1,2,3,4,5,6,7,8,9,10,11,12,13,14] .done (by kernel_rfl) ?_;simp only[go_sem,hgc,hE,hge]
      refine Sd ?_
      refine W2 hE hge ?_
      refine Sd ?_
      refine Gc h5 ?_
      refine Sd ?_
      refine Wk ?_
      refine ret_eq ?_;simp only[go_sem]
     ·repeat(first|(with_reducible refine AWp.seq ?_)|(with_reducible refine AWp.block ?_))
      refine AWp.mix mixed [0,1,2,3,4,5,6,7,8,9,10,11,12,13,14] .done (by kernel_rfl) ?_;simp only[go_sem,hgc,hE,hge]
      refine Sd ?_
      refine W2 hE hge ?_
      refine ret_eq ?_;simp only[go_sem]
   ·repeat(first|((with_reducible refine AWp.ofC ?_ ?_);exact rfl;simp only[go_sem,Int.reduceEq])|((with_reducible refine an ?_ ?_);exact Au))
    refine Sd ?_
    refine(h4).val.use ?_;simp only[go_sem]
    refine Wk ?_
    by_cases hE:e2=0
    rotate_left
    ·rcases getD_any c p with hg|⟨z,hg⟩
     ·repeat(first|(with_reducible refine AWp.seq ?_)|(with_reducible refine AWp.block ?_))
      refine AWp.mix mixed [0,1,2,3,4,5,6,7,8,9,10,11,12,13,14] .done (by kernel_rfl) ?_;simp only[go_sem,hg,hE]
      refine Sd ?_
      refine W1 hE ?_
      refine ret_eq ?_;simp only[go_sem]
     ·repeat(first|(with_reducible refine AWp.seq ?_)|(with_reducible refine AWp.block ?_))
      refine AWp.mix mixed [0,1,2,3,4,5,6,7,8,9,10,11,12,13,14] .done (by kernel_rfl) ?_;simp only[go_sem,hg,hE]
      refine Sd ?_
      refine W1 hE ?_
      refine ret_eq ?_;simp only[go_sem]
    cases b2 with
    | false =>
     rcases getD_any c p with hg|⟨z,hg⟩
     ·repeat(first|(with_reducible refine AWp.seq ?_)|(with_reducible refine AWp.block ?_))
      refine AWp.mix mixed [0,1,2,3,4,5,6,7,8,9,10,11,12,13,14] .done (by kernel_rfl) ?_;simp only[go_sem,hg,hE]
      refine Sd ?_
      refine W1 hE ?_
      refine ret_eq ?_;simp only[go_sem]
     ·repeat(first|(with_reducible refine AWp.seq ?_)|(with_reducible refine AWp.block ?_))
      refine AWp.mix mixed [0,1,2,3,4,5,6,7,8,9,10,11,12,13,14] .done (by kernel_rfl) ?_;simp only[go_sem,hg,hE]
      refine Sd ?_
      refine W1 hE ?_
      refine ret_eq ?_;simp only[go_sem]
    | true =>
     have hcl:=hcl hE
     have hpc:p<c.length:=by omega
     have hgc:(c.map ai).getD p .any=ai (c.getD p 0):=by
      rw[getD_map (f:=ai) hpc,List.getD_eq_getElem?_getD,List.getElem?_eq_getElem hpc];rfl
     have hcc:=hcc hE rfl
     generalize c.getD p 0=cp at *
     by_cases hge:(i:Int)+1≤cp
     ·have hcc:=hcc hge
      rw[hcc] at h5
      repeat(first|(with_reducible refine AWp.seq ?_)|(with_reducible refine AWp.block ?_))
      refine AWp.mix mixed [0,1,2,3,4,5,6,7,8,9,10,11,12,13,14] .done (by kernel_rfl) ?_;simp only[go_sem,hgc,hE,hge]
      refine Sd ?_
      refine W2 hE hge ?_
      refine Sd ?_
      refine Gc h5 ?_
      refine Sd ?_
      refine Wk ?_
      refine ret_eq ?_;simp only[go_sem]
     ·repeat(first|(with_reducible refine AWp.seq ?_)|(with_reducible refine AWp.block ?_))
      refine AWp.mix mixed [0,1,2,3,4,5,6,7,8,9,10,11,12,13,14] .done (by kernel_rfl) ?_;simp only[go_sem,hgc,hE,hge]
      refine Sd ?_
      refine W2 hE hge ?_
      refine ret_eq ?_;simp only[go_sem]
 ·obtain⟨hck,hm,hv,p,hp,i,hi,rfl,_,hz7⟩:=les_zero (.inr h7)
  obtain⟨hd,hL⟩:=hz7 h7
  have h8:=(valid_len hv).2
  have hno:=lin_none' hck hm (pt_is hv hp hi) hL
  have hcc:blE ps c t=0→blF ps c t=true→(i:Int)+1≤c.getD p 0→False:=fun e1 e2 e3=>by
   obtain⟨f1,f2⟩:=bl_zero hv e1
   rw[f2] at e2
   exact hno c f1 ((pt_leC hv hp hi f1).2 e3) e2
  have hcl:blE ps c t=0→c.length=ps.length:=fun e1=>(isF_iff.1 (bl_zero hv e1).1).1
  rw[hd,h7,hT,hTr,hX] at h1
  have h1:PC _ _ _ (.tup [anil,ai 7]):=h1
  rw[hT,hTr,hX,hI]
  generalize blE ps c t=e2 at *
  generalize blF ps c t=b2 at *
  clear hno hm hck hL hz7 h7 hd
  refine PC.enter 132 [.tmp 8] [4,5,6] Proofs.Tryz.func3 rfl rfl rfl rfl rfl (by simp) (AWp.of ?_);simp only[go_sem]
  refine Wk ?_
  refine Sd ?_
  refine(hA).val.use ?_;simp only[go_sem]
  refine Wk ?_
  refine Sd ?_
  refine(hB).val.use ?_;simp only[go_sem]
  refine Wk ?_
  refine Sd ?_
  refine Gc hH ?_
  refine Sd ?_
  refine W1 hl ?_
  refine Sd ?_
  refine(h1).val.use ?_;simp only[go_sem]
  repeat(first|((with_reducible refine AWp.ofC ?_ ?_);exact rfl;simp only[go_sem,h00,Int.reduceEq])|((with_reducible refine an ?_ ?_);exact Au))
  refine Sd ?_
  refine(h4).val.use ?_;simp only[go_sem]
  refine Wk ?_
  by_cases hE:e2=0
  rotate_left
  ·rcases getD_any c p with hg|⟨z,hg⟩
   ·repeat(first|(with_reducible refine AWp.seq ?_)|(with_reducible refine AWp.block ?_))
    refine AWp.mix mixed [0,1,2,3,4,5,6,7,8,9,10,11,12,13,14] .done (by kernel_rfl) ?_;simp only[go_sem,hg,hE]
    refine Sd ?_
    refine W1 hE ?_
    refine ret_eq ?_;simp only[go_sem]
   ·repeat(first|(with_reducible refine AWp.seq ?_)|(with_reducible refine AWp.block ?_))
    refine AWp.mix mixed [0,1,2,3,4,5,6,7,8,9,10,11,12,13,14] .done (by kernel_rfl) ?_;simp only[go_sem,hg,hE]
    refine Sd ?_
    refine W1 hE ?_
    refine ret_eq ?_;simp only[go_sem]
  cases b2 with
  | false =>
   rcases getD_any c p with hg|⟨z,hg⟩
   ·repeat(first|(with_reducible refine AWp.seq ?_)|(with_reducible refine AWp.block ?_))
    refine AWp.mix mixed [0,1,2,3,4,5,6,7,8,9,10,11,12,13,14] .done (by kernel_rfl) ?_;simp only[go_sem,hg,hE]
    refine Sd ?_
    refine W1 hE ?_
    refine ret_eq ?_;simp only[go_sem]
   ·repeat(first|(with_reducible refine AWp.seq ?_)|(with_reducible refine AWp.block ?_))
    refine AWp.mix mixed [0,1,2,3,4,5,6,7,8,9,10,11,12,13,14] .done (by kernel_rfl) ?_;simp only[go_sem,hg,hE]
    refine Sd ?_
    refine W1 hE ?_
    refine ret_eq ?_;simp only[go_sem]
  | true =>
   have hcl:=hcl hE
   have hpc:p<c.length:=by omega
   have hgc:(c.map ai).getD p .any=ai (c.getD p 0):=by
    rw[getD_map (f:=ai) hpc,List.getD_eq_getElem?_getD,List.getElem?_eq_getElem hpc];rfl
   have hcc:=hcc hE rfl
   generalize c.getD p 0=cp at *
   by_cases hge:(i:Int)+1≤cp
   ·exact(hcc hge).elim
   ·repeat(first|(with_reducible refine AWp.seq ?_)|(with_reducible refine AWp.block ?_))
    refine AWp.mix mixed [0,1,2,3,4,5,6,7,8,9,10,11,12,13,14] .done (by kernel_rfl) ?_;simp only[go_sem,hgc,hE,hge]
    refine Sd ?_
    refine W2 hE hge ?_
    refine ret_eq ?_;simp only[go_sem]
end Go.AL
end
section
namespace Go.AL
open Go Go.RowKit
set_option maxRecDepth 100000
section
variable {H:Type} {enc:TypeId × Value→H} {W:World}
theorem rdInts:Rd enc Proofs.Tryz.prog W 30 1 aInts (fun l=>l.length≤maxLen) :=
 (Rd.slice Proofs.Tryz.underlying30 (by kernel_rfl:Program.cellsOf Proofs.Tryz.prog 3=1) (by decide) (Rd.int Proofs.Tryz.underlying3)).map id (fun _=>rfl) (fun _ h=>h.1)
theorem rdAsg:Rd enc Proofs.Tryz.prog W 215 2 aAsg (fun _=>True) :=
 (Rd.struct (ts:=[3,3]) Proofs.Tryz.underlying215 rfl rfl (by kernel_rfl) (by kernel_rfl)
  (.cons (Rd.int Proofs.Tryz.underlying3) (fun _=>⟨rfl,rfl⟩) (.cons (Rd.int Proofs.Tryz.underlying3) (fun _=>⟨rfl,rfl⟩) .nil))).map (fun (y:Int × Int × Unit)=>(y.1,y.2.1)) (fun _=>rfl) (fun _ _=>trivial)
theorem rdAsgs:Rd enc Proofs.Tryz.prog W 41 1 aAsgs (fun _=>True) :=
 (Rd.slice Proofs.Tryz.underlying41 (by kernel_rfl:Program.cellsOf Proofs.Tryz.prog 215=2) (by decide) rdAsg).map id (fun _=>rfl) (fun _ _=>trivial)
theorem rdVar:Rd enc Proofs.Tryz.prog W 163 2 aVar (fun _=>True) :=
 (Rd.struct (ts:=[9,3]) Proofs.Tryz.underlying163 rfl rfl (by kernel_rfl) (by kernel_rfl)
  (.cons (Rd.str Proofs.Tryz.underlying9) (fun _=>⟨rfl,rfl⟩) (.cons (Rd.int Proofs.Tryz.underlying3) (fun _=>⟨rfl,rfl⟩) .nil))).map (fun (y:ByteArray × Int × Unit)=>(y.1,y.2.1)) (fun _=>rfl) (fun _ _=>trivial)
theorem rdVars:Rd enc Proofs.Tryz.prog W 45 1 aVars (fun _=>True) :=
 (Rd.slice Proofs.Tryz.underlying45 (by kernel_rfl:Program.cellsOf Proofs.Tryz.prog 163=2) (by decide) rdVar).map id (fun _=>rfl) (fun _ _=>trivial)
theorem rdEv:Rd enc Proofs.Tryz.prog W 43 5 aEv (fun _=>True) :=
 (Rd.struct (ts:=[3,3,3,3,41]) Proofs.Tryz.underlying43 rfl rfl (by kernel_rfl) (by kernel_rfl)
  (.cons (Rd.int Proofs.Tryz.underlying3) (fun _=>⟨rfl,rfl⟩) (.cons (Rd.int Proofs.Tryz.underlying3) (fun _=>⟨rfl,rfl⟩) (.cons (Rd.int Proofs.Tryz.underlying3) (fun _=>⟨rfl,rfl⟩)
   (.cons (Rd.int Proofs.Tryz.underlying3) (fun _=>⟨rfl,rfl⟩) (.cons rdAsgs (fun _=>⟨rfl,rfl⟩) .nil)))))).map (fun (y:Int × Int × Int × Int × List (Int × Int) × Unit)=>⟨y.1,y.2.1,y.2.2.1,y.2.2.2.1,y.2.2.2.2.1⟩) (fun _=>rfl) (fun _ _=>trivial)
end
end Go.AL
end
section
namespace Go.AL
open Go Go.RowKit
set_option maxRecDepth 100000
def aPdC:Pd→List AV | .mk k n p q s l=>[ai k,ai n,ai p,ai q,astr s,.sl 6 (l.map aPd)]
theorem aPd_agg:∀y,aPd y = .agg (aPdC y):=fun ⟨k,n,p,q,s,l⟩=>by rw[aPd_mk];rfl
section
variable {H:Type} {enc:TypeId × Value→H} {W:World}
theorem rdPredN:∀N,RdF enc Proofs.Tryz.prog W N 27 6 aPd (fun _=>True)
 | 0 => .zero
 | N+1 =>
  (RdF.struct (ts:=[3,3,3,3,9,25]) Proofs.Tryz.underlying27 rfl rfl (by kernel_rfl) (by kernel_rfl)
   (.cons ((Rd.int Proofs.Tryz.underlying3).bounded N) (fun _=>⟨rfl,rfl⟩) (.cons ((Rd.int Proofs.Tryz.underlying3).bounded N) (fun _=>⟨rfl,rfl⟩) (.cons ((Rd.int Proofs.Tryz.underlying3).bounded N) (fun _=>⟨rfl,rfl⟩)
    (.cons ((Rd.int Proofs.Tryz.underlying3).bounded N) (fun _=>⟨rfl,rfl⟩) (.cons ((Rd.str Proofs.Tryz.underlying9).bounded N) (fun _=>⟨rfl,rfl⟩)
     (.cons ((RdF.slice Proofs.Tryz.underlying25 (by kernel_rfl:Program.cellsOf Proofs.Tryz.prog 27=6) (by decide) (rdPredN N)).mono (Nat.le_succ N)) (fun _=>⟨rfl,rfl⟩) .nil))))))).map
   (fun (y:Int × Int × Int × Int × ByteArray × List Pd × Unit)=>Pd.mk y.1 y.2.1 y.2.2.1 y.2.2.2.1 y.2.2.2.2.1 y.2.2.2.2.2.1) (fun _=>(aPd_mk _ _ _ _ _ _).symm) (fun _ _=>trivial)
theorem rdPred:Rd enc Proofs.Tryz.prog W 27 6 aPd (fun _=>True):=RdF.all rdPredN
end
end Go.AL
end
section
namespace Go.AL
open Go Go.RowKit
set_option maxRecDepth 100000
section
variable {H:Type} {enc:TypeId × Value→H} {W:World}
end
end Go.AL
end
section
namespace Go.AL
open Go Go.RowKit
set_option maxRecDepth 100000
section
variable {H:Type} {enc:TypeId × Value→H} {W:World}
theorem rdEid:Rd enc Proofs.Tryz.prog W 29 2 aEid (fun _=>True) :=
 (Rd.struct (ts:=[3,3]) Proofs.Tryz.underlying29 rfl rfl (by kernel_rfl) (by kernel_rfl)
  (.cons (Rd.int Proofs.Tryz.underlying3) (fun _=>⟨rfl,rfl⟩) (.cons (Rd.int Proofs.Tryz.underlying3) (fun _=>⟨rfl,rfl⟩) .nil))).map (fun (y:Int × Int × Unit)=>(y.1,y.2.1)) (fun _=>rfl) (fun _ _=>trivial)
theorem Rd.u8 {P:Program} {t:TypeId} (ht:P.underlying t=some (.int .u8)):Rd enc P W t 1 (fun n:Int => .v (.int .u8 n)) (fun n=>0≤n∧n≤255):=by
 intro fuel cs x h
 obtain⟨n,rfl,_,hw⟩:=DataW.trod_int ht h
 have hb:IntKind.u8.min≤n∧n≤IntKind.u8.max:=by
  unfold Lit.wf at hw
  rwa [Bool.and_eq_true,decide_eq_true_eq,decide_eq_true_eq] at hw
 refine⟨n,⟨Int.le_trans (by decide) hb.1,Int.le_trans hb.2 (by decide)⟩,⟨rfl,rfl⟩,rfl,fun i c u h1 h2 => ?_⟩
 cases i with
 | zero=>cases h1;cases h2;exact .v _
 | succ i=>cases h2
end
end Go.AL
end
section
namespace Go.AL
open Go Go.RowKit
set_option maxRecDepth 100000
section
variable {H:Type} {enc:TypeId × Value→H} {W:World}
theorem rdEvsM:Rd enc Proofs.Tryz.prog W 44 1 aEvs (fun l=>l.length≤maxLen) :=
 (Rd.slice Proofs.Tryz.underlying44 (by kernel_rfl:Program.cellsOf Proofs.Tryz.prog 43=5) (by decide) rdEv).map id (fun _=>rfl) (fun _ h=>h.1)
theorem rdPrM:Rd enc Proofs.Tryz.prog W 47 3 aPr (fun p=>p.evs.length≤maxLen) :=
 (Rd.struct (ts:=[9,45,44]) Proofs.Tryz.underlying47 rfl rfl (by kernel_rfl) (by kernel_rfl)
  (.cons (Rd.str Proofs.Tryz.underlying9) (fun _=>⟨rfl,rfl⟩) (.cons rdVars (fun _=>⟨rfl,rfl⟩) (.cons rdEvsM (fun _=>⟨rfl,rfl⟩) .nil)))).map (fun (y:ByteArray × List (ByteArray × Int) × List Ev × Unit)=>⟨y.1,y.2.1,y.2.2.1⟩) (fun _=>rfl) (fun _ h=>h.2.2.1)
theorem rdPrsM:Rd enc Proofs.Tryz.prog W 22 1 aPrs (fun l=>l.length≤maxLen∧∀p ∈ l,p.evs.length≤9223372036854775807) :=
 (Rd.slice Proofs.Tryz.underlying22 (by kernel_rfl:Program.cellsOf Proofs.Tryz.prog 47=3) (by decide) rdPrM).map id (fun _=>rfl) (fun _ h=>h)
theorem rdTrM:Rd enc Proofs.Tryz.prog W 24 1 aTr (fun l=>l.length≤maxLen∧∀p ∈ l,p.evs.length≤9223372036854775807) :=
 (Rd.struct (ts:=[22]) Proofs.Tryz.underlying24 rfl rfl (by kernel_rfl) (by kernel_rfl) (.cons rdPrsM (fun _=>⟨rfl,rfl⟩) .nil)).map (fun (y:List Pr × Unit)=>y.1) (fun _=>rfl) (fun _ h=>h.1)
end
end Go.AL
end
