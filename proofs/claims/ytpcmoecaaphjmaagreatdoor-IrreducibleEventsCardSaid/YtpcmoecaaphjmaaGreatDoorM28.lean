/- Texts of this claim's proof: WK21, WK22, WRt, WRt2, WRt4, WRt6, WRt7. No condition. -/
import Derived.Test.YtpcmoecaaphjmaaGreatDoorM27
import Derived.Test.YtpcmoecaaphjmaaGreatDoorM11
import Derived.Test.YtpcmoecaaphjmaaGreatDoorM10
import Derived.Test.YtpcmoecaaphjmaaGreatDoorM9
import Derived.Test.YtpcmoecaaphjmaaGreatDoorM5
section
namespace Go.AL
open Go Go.RowKit
set_option maxRecDepth 4000
theorem PC.vwr {P:Program} {f:FuncId} {args:List AV} {r r':AV} (hv:Vw [] r r') (h:PC P f args r):PC P f args r' :=
 ⟨h.1,fun n w A vs hL hr=>(h.2 n w A vs hL hr).mono fun e w' ⟨v,r1,L1,A1,e1,e2,f1,f2,f3,f4,f5⟩=>by
  obtain⟨rfl,rfl⟩:=e2
  exact⟨v,r',[],A1,e1,⟨rfl,rfl⟩,f1,f2,f3,f4,Rel.view hv (fun b x h=>by cases h) (fun _ h=>h) f5⟩⟩
theorem Vws.maps {α:Type} {L:AHeap} {f g:α→AV} {l:List α} (h:∀x ∈ l,Vw L (f x) (g x)):Vws L (l.map f) (l.map g) :=
 ⟨by simp,fun i x y h1 h2=>by
  rw[List.getElem?_map] at h1 h2
  cases e:l[i]? with
  | none=>rw[e] at h1;cases h1
  | some z =>
   rw[e] at h1 h2
   cases h1;cases h2
   exact h z (List.mem_of_getElem? e)⟩
theorem opt_vw (o:Option (List Int)):Vw [] (aOpt o) (aInts (o.getD [])):=by
 cases o with
 | none=>exact .nil 1
 | some c=>exact .refl _
abbrev aTbl (l:List (List (List Int))):AV:=.sl 1 (l.map aRows)
noncomputable def tblL (ps:List Pr) (T:List Int→Prop):List (List (List Int)):=(List.range ps.length).map fun q=>(rowO ps T q (nev ps q)).map fun o=>o.getD []
theorem lct_vw (ps:List Pr) (T:List Int→Prop):Vw [] (aLct ps T) (aTbl (tblL ps T)):=by
 have e:aTbl (tblL ps T) = .sl 1 ((List.range ps.length).map fun q => .sl 1 ((rowO ps T q (nev ps q)).map fun o=>aInts (o.getD []))):=by
  unfold aTbl tblL aRows
  rw[List.map_map]
  congr 1
  refine List.map_congr_left fun q _ => ?_
  show AV.sl 1 (((rowO ps T q (nev ps q)).map _).map aInts)=_
  rw[List.map_map];rfl
 rw[e]
 unfold aLct
 refine .mkSl (Vws.maps fun q _ => .mkSl ?_)
 rw[rowY_map]
 exact Vws.maps fun o _=>opt_vw o
theorem irr_TableL (ps:List Pr) (hs:Sm ps) (t:Pd) (hz:szF t≤1000000) (hm:mdE ps t 8=0):PC Proofs.Tryz.prog 10 [aTr ps,aPd t] (.tup [aTbl (tblL ps (TruP ps t)),ai 0]):=by
 have h:=irr_Table ps hs t hz
 unfold tblA at h
 rw[hm,if_pos rfl] at h
 exact PC.vwr (.mkTup (Vws.cons (lct_vw _ _) (Vws.refl _))) h
theorem tbl_len (ps:List Pr) (T:List Int→Prop):(tblL ps T).length=ps.length:=by unfold tblL;simp
theorem tbl_row {ps:List Pr} {T:List Int→Prop} {row:List (List Int)} (h:row ∈ tblL ps T):∃q,q<ps.length∧row.length=nev ps q∧∀d ∈ row,d=[]∨∃i,i<nev ps q∧lstQ ps T (ptF ps q i)=some d:=by
 unfold tblL at h
 obtain⟨q,hq,rfl⟩:=List.mem_map.1 h
 refine⟨q,List.mem_range.1 hq,by rw[List.length_map,rowO_len],fun d hd => ?_⟩
 obtain⟨o,ho,rfl⟩:=List.mem_map.1 hd
 cases o with
 | none=>exact .inl rfl
 | some c =>
  unfold rowO at ho
  obtain⟨i,hi,e⟩:=List.mem_map.1 ho
  exact .inr ⟨i,List.mem_range.1 hi,e⟩
theorem tbl_in {ps:List Pr} {T:List Int→Prop} {c:List Int} (h:c ∈ lisF ps T):((tblL ps T).any fun row=>row.any fun d=>decide (c=d))=true:=by
 obtain⟨_,_,_,q,hq,i,hi,e⟩:=lis_mem.1 h
 rw[List.any_eq_true]
 refine⟨_,List.mem_map.2 ⟨q,List.mem_range.2 hq,rfl⟩,List.any_eq_true.2 ⟨c,List.mem_map.2 ⟨some c,?_,rfl⟩,decide_eq_true rfl⟩⟩
 unfold rowO
 exact List.mem_map.2 ⟨i,List.mem_range.2 hi,e⟩
theorem leC_zero {ps:List Pr} {d:List Int} (h:isF ps d=true):leC (List.replicate ps.length 0) d:=fun p=>by
 obtain⟨h1,h2,_⟩:=isF_iff.1 h
 have e:(List.replicate ps.length (0:Int)).getD p 0=0:=by
  rw[List.getD_eq_getElem?_getD,List.getElem?_replicate]
  split <;> rfl
 rw[e]
 by_cases hp:p<ps.length
 ·obtain⟨b1,b2⟩:=inRangeF_get h2 h1 hp
  rw[List.getD_eq_getElem?_getD,List.getElem?_eq_getElem (by omega)]
  exact b1
 ·rw[List.getD_eq_getElem?_getD,List.getElem?_eq_none (by omega)]
  exact Int.le_refl 0
theorem md_8 {ps:List Pr} {t:Pd} (h:mdE ps t 32=0):mdE ps t 8=0:=by
 obtain⟨h1,h2⟩:=mdE_zero h
 obtain⟨m1,m2,m3⟩:=mad_zero h2
 have h3:clsB t 8=true:=by unfold clsB;rw[if_pos rfl];exact cls_lin m2
 unfold mdE
 rw[if_neg (fun h=>h h1)]
 unfold madE
 rw[if_neg (fun h=>h m1),if_pos ⟨h3,m3⟩]
theorem tbl_low {ps:List Pr} {t:Pd} (hm:mdE ps t 32=0) {q i:Nat} (hq:q<ps.length) (hi:i<nev ps q) {d:List Int} (hd:lstQ ps (TruP ps t) (ptF ps q i)=some d) (hn:d ∉ lirF ps t):∀e ∈ lirF ps t,leqF d e=true:=by
 obtain⟨hck,hmd⟩:=mdE_zero hm
 have eL:lirF ps t=lisF ps (TruP ps t):=by unfold lirF;rw[if_pos hm]
 rw[eL] at hn ⊢
 have hL:=lsq_some hd
 cases h0:lstQ ps (TruP ps t) (List.replicate ps.length 0) with
 | none=>exact absurd hL.tru (lin_none' hck hmd isF_zero h0 d hL.is (leC_zero hL.is))
 | some l0 =>
  have e0:d=l0:=Decidable.byContradiction fun h=>hn (lis_mem.2 ⟨l0,h0,h,q,hq,i,hi,hd⟩)
  subst e0
  have h1:=lsq_some h0
  intro e he
  obtain⟨_,_,_,q',hq',i',hi',h2⟩:=lis_mem.1 he
  have h3:=lsq_some h2
  exact leq_leC ((isF_iff.1 hL.is).1.trans (isF_iff.1 h3.is).1.symm) (h1.least e h3.is (leC_zero h3.is) h3.tru)
theorem past_yes {ps:List Pr} {x:Eid} (h:pstE ps x=0):lesE ps tY x=0∧lesF ps tY x=some (pstF ps x)∧isE ps tY (pstF ps x)=0∧isB ps tY (pstF ps x)=true∧isF ps (pstF ps x)=true:=by
 obtain⟨hv,p,hp,i,hi,rfl,hF⟩:=pst_zero h
 have hc:=pt_is hv hp hi
 rw[hF]
 have hck:=tY_check hv
 have hl:=tY_lst hc
 have e:lesE ps tY ((p:Int),(i:Int)+1)=0:=by
  unfold lesE
  rw[if_neg (fun h=>h hck),if_neg (fun g=>g h),if_neg (fun h=>h (tY_mad 8 (.inl rfl))),hF,hl]
  rfl
 have hm:mdE ps tY 32=0:=by unfold mdE;rw[if_neg (fun h=>h hck),tY_mad 32 (.inr rfl)]
 obtain⟨i1,i2⟩:=is_zero hm hc
 refine⟨e,by unfold lesF;rw[if_pos e,hF,hl],i1,?_,hc⟩
 rw[i2,decide_eq_true_iff]
 have eL:lirF ps tY=lisF ps (TruP ps tY):=by unfold lirF;rw[if_pos hm]
 rw[eL]
 refine lis_mem.2 ⟨_,tY_lst isF_zero,fun h0 => ?_,p,hp,i,by rw[nev_get hp];exact hi,hl⟩
 have h1:=(pt_leC hv hp hi hc).1 (.refl _)
 rw[h0,List.getD_eq_getElem?_getD,List.getElem?_replicate,if_pos hp] at h1
 have h1:(i:Int)+1≤0:=h1
 omega
theorem off_40 {ps:List Pr} (h:∀p ∈ ps,p.evs.length≤40):∀k,k≤ps.length→off ps k≤k * 40:=by
 intro k
 induction k with
 | zero=>intro _;simp [off]
 | succ k ih =>
  intro hk
  rw[off_succ (by omega)]
  have h1:=ih (by omega)
  have h2:=h _ (List.getElem_mem (show k<ps.length by omega))
  omega
theorem ref22_Leq (a b:List Int) (ha:a.length≤1000000):PC Proofs.Tryz.prog 31 [aInts a,aInts b] (ab (leqF a b)):=by
 by_cases hl:a.length=b.length
 rotate_left
 ·have hli:¬((a.length:Int)=b.length):=by omega
  rw[leqF_ne hl]
  refine PC.enter 26 [.tmp 4] [] Proofs.Tryz.func31 rfl rfl rfl rfl rfl (by simp) (AWp.of ?_);simp only[go_sem]
  refine W1 hli ?_
  refine ret_eq ?_;simp only[go_sem]
 have hli:((a.length:Int)=b.length):=by omega
 refine PC.enter 26 [.tmp 4] [] Proofs.Tryz.func31 rfl rfl rfl rfl rfl (by simp) (AWp.of ?_);simp only[go_sem]
 refine W1 hli ?_
 refine AWp.block (AWp.count 5 a.length [] [0,1] (fun k vs L=>L=[]∧∀p:Nat,p<k→cAt a p≤cAt b p) rfl rfl ⟨rfl,fun p h=>by omega⟩ ?_)
 rintro k vs L hk - ⟨rfl,hI⟩
 simp only[go_sem]
 refine Wk ?_
 refine⟨fun h3 => ?_,fun h3 => ?_⟩
 ·have hka:k<a.length:=by omega
  have hkb:k<b.length:=by omega
  have ga:=getD_map (f:=ai) hka
  have gb:=getD_map (f:=ai) hkb
  have ea:=cAt_nat hka
  have eb:=cAt_nat hkb
  refine AWp.seq (AWp.block (AWp.seq ?_))
  repeat(first|(with_reducible refine AWp.seq ?_)|(with_reducible refine AWp.block ?_))
  refine AWp.read mixed [0,1,2,3,4,5,6,7,8] (by kernel_rfl) ?_;simp only[go_sem,ga,gb]
  refine Sd ?_
  refine Wk ?_
  refine⟨fun h4 => ?_,fun h4 => ?_⟩
  ·refine Wk ?_
   refine ret_eq ?_;simp only[go_sem]
   cases hq:leqF a b with
   | false=>rfl
   | true=>have:=(leq_iff_at.1 hq).2 k hka;omega
  ·refine Wk ?_
   refine⟨[],List.nil_sublist _,rfl,fun p hp => ?_⟩
   by_cases e:p=k
   ·subst e;omega
   ·exact hI p (by omega)
 ·refine Wk ?_
  refine ret_eq ?_;simp only[go_sem]
  rw[leq_iff_at.2 ⟨hl,fun p hp=>hI p (by omega)⟩]
theorem law33_ev11 (x d:List Int) (hd:d.length≤1000000):PC Proofs.Tryz.prog 26 [aInts x,.rp 1 [aInts d] 0 0] (ab (decide (d=x))):=by
 have h1:=ints_equal d x hd
 refine PC.enter 7 [.tmp 3] [] Proofs.Tryz.func26 rfl rfl rfl rfl rfl (by simp) (AWp.of ?_);simp only[go_sem]
 refine Wk ?_
 refine Sd ?_
 refine(h1).val.use ?_;simp only[go_sem]
 refine Wk ?_
 refine ret_eq ?_;simp only[go_sem]
theorem law33_ev1 (l:List (List Int)) (hl:l.length≤1000000) (d:List Int) (hd:d.length≤1000000):PC Proofs.Tryz.prog 24 [aRows l,.rp 1 [aInts d] 0 0] (ab (l.any fun x=>decide (d=x))):=by
 have hcf:PC Proofs.Tryz.prog 25 [.sl 1 (l.map aInts),.clo 26 [.rp 1 [.sl 1 (d.map ai)] 0 0]] (ab (l.any fun x=>decide (d=x))) :=
  rows_containsFunc l hl _ rfl (fun x=>decide (d=x)) fun x _=>(law33_ev11 x d hd).clo
 have hR:aRows l = .sl 1 (l.map aInts):=rfl
 have hI:aInts d = .sl 1 (d.map ai):=rfl
 rw[hR,hI]
 refine PC.enter 7 [.tmp 3] [] Proofs.Tryz.func24 rfl rfl rfl rfl rfl (by simp) (AWp.of ?_);simp only[go_sem]
 refine Wk ?_
 refine Sd ?_
 refine(hcf).val.use ?_;simp only[go_sem]
 refine Wk ?_
 refine ret_eq ?_;simp only[go_sem]
theorem law33_ev2 (x d:List Int) (hd:d.length≤1000000):PC Proofs.Tryz.prog 30 [aInts x,.rp 1 [aInts d] 0 0] (ab (!leqF d x)):=by
 have h1:=ref22_Leq d x hd
 refine PC.enter 8 [.tmp 3] [] Proofs.Tryz.func30 rfl rfl rfl rfl rfl (by simp) (AWp.of ?_);simp only[go_sem]
 refine Wk ?_
 refine Sd ?_
 refine(h1).val.use ?_;simp only[go_sem]
 refine Wk ?_
 refine ret_eq ?_;simp only[go_sem]
theorem tbls_indexFunc (l:List (List (List Int))) (hl:l.length≤1000000) (g:AV) (hgf:fo g=(True,g)) (p:(List (List Int))→Bool) (hg:∀x ∈ l,PV Proofs.Tryz.prog g [aRows x] (ab (p x))) :
  PC Proofs.Tryz.prog 67 [aTbl l,g] (ai (match l.findIdx? p with|some i=>(i:Int)|none => -1)):=by
 refine PC.enter 19 [.tmp 4] [] Proofs.Tryz.func67 rfl rfl rfl rfl rfl (by simp) (AWp.of ?_);simp only[go_sem]
 refine Sd ?_
 refine AWp.of ?_;simp only[go_sem,aTbl]
 refine AWp.range' l.length [] [0,1,7] (fun k vs L=>L=[]∧∀i (h:i<l.length),i<k→p l[i]=false) (by omega) rfl rfl rfl ⟨rfl,by omega⟩ ?_ ?_
 ·rintro k vs L' hk hvs ⟨rfl,hI⟩
  simp only[go_sem]
  refine Sd ?_
  refine AWp.of ?_;simp only[go_sem]
  have hgk:=hg l[k] (List.getElem_mem hk)
  try simp only[go_sem,aRows] at hgk
  refine Sd ?_
  refine AWp.of ?_;simp only[go_sem,getD_map hk,hgf,aRows]
  refine⟨⟨by omega,by omega⟩,hk,hgk.use (AWp.of ?_)⟩;simp only[go_sem]
  refine⟨fun ht => ?_,fun hf => ?_⟩
  ·refine Sd ?_
   refine AWp.of ?_;simp only[go_sem]
   refine ret_eq ?_;simp only[go_sem]
   have:l.findIdx? p=some k:=by rw[List.findIdx?_eq_some_iff_getElem];exact⟨hk,ht,fun j hj=>by simpa using hI j (by omega) hj⟩
   rw[this]
  ·refine⟨[],List.Sublist.refl _,rfl,fun i h hi => ?_⟩
   by_cases e:i=k
   ·subst e;exact hf
   ·exact hI i h (by omega)
 ·rintro vs L' hvs ⟨rfl,hI⟩
  simp only[go_sem]
  refine Sd ?_
  refine AWp.of ?_;simp only[go_sem]
  refine Sd ?_
  refine AWp.of ?_;simp only[go_sem]
  refine ret_eq ?_;simp only[go_sem]
  have:l.findIdx? p=none:=by rw[List.findIdx?_eq_none_iff];intro x hx;obtain⟨i,hi,rfl⟩:=List.getElem_of_mem hx;exact hI i hi hi
  rw[this]
theorem tbls_containsFunc (l:List (List (List Int))) (hl:l.length≤1000000) (g:AV) (hgf:fo g=(True,g)) (p:(List (List Int))→Bool) (hg:∀x ∈ l,PV Proofs.Tryz.prog g [aRows x] (ab (p x))) :
  PC Proofs.Tryz.prog 23 [aTbl l,g] (ab (l.any p)):=by
 refine PC.enter 9 [.tmp 4] [] Proofs.Tryz.func23 rfl rfl rfl rfl rfl (by simp) (AWp.of ?_);simp only[go_sem]
 refine Sd ?_
 refine AWp.of ?_;simp only[go_sem,hgf,aTbl]
 refine(tbls_indexFunc l hl g hgf p hg).val.use ?_
 simp only[go_sem]
 refine Sd ?_
 refine AWp.of ?_;simp only[go_sem]
 refine ret_eq ?_;simp only[go_sem]
 congr 2;exact findIdx_any l p
theorem idx_mem {l:List (List Int)} {c:List Int} (h:c ∈ l):0≤idxF l c:=by
 unfold idxF
 cases e:l.findIdx? fun d=>decide (c=d) with
 | none=>rw[List.findIdx?_eq_none_iff] at e;exact absurd (e c h) (by simp)
 | some i=>exact Int.natCast_nonneg i
theorem idx_no {l:List (List Int)} {c:List Int} (h:c ∉ l):idxF l c = -1:=by
 unfold idxF
 have e:(l.findIdx? fun d=>decide (c=d))=none:=by
  rw[List.findIdx?_eq_none_iff]
  intro x hx
  rw[decide_eq_false_iff_not]
  rintro rfl
  exact h hx
 rw[e]
theorem ev_facts {ps:List Pr} (hs:Sm ps) {t:Pd} (hm:mdE ps t 32=0):(lirF ps t).Pairwise ordL∧(∀c ∈ lirF ps t,isF ps c=true∧((tblL ps (TruP ps t)).any fun row=>row.any fun d=>decide (c=d))=true) ∧
  ∀row ∈ tblL ps (TruP ps t),row.length≤1000000∧∀d ∈ row,d=[]∨(isF ps d=true∧truF (obC ps d) t=true∧(d ∉ lirF ps t→∀e ∈ lirF ps t,leqF d e=true)):=by
 have eL:lirF ps t=lisF ps (TruP ps t):=by unfold lirF;rw[if_pos hm]
 refine⟨by rw[eL];exact lis_ord,fun c hc => ?_,fun row hr => ?_⟩
 ·rw[eL] at hc
  exact⟨lis_is hc,tbl_in hc⟩
 ·obtain⟨q,hq,h1,h2⟩:=tbl_row hr
  refine⟨by rw[h1,nev_get hq];exact hs.evs _ (List.getElem_mem hq),fun d hd => ?_⟩
  rcases h2 d hd with h|⟨i,hi,e⟩
  ·exact .inl h
  ·have hL:=lsq_some e
   exact .inr ⟨hL.is,hL.tru,fun hn=>tbl_low hm hq hi e hn⟩
set_option maxHeartbeats 4000000 in
theorem law33_IrreducibleEvents (ps:List Pr) (t:Pd) (x:Eid) (hpl:ps.length≤9223372036854775807) (hev:∀p ∈ ps,p.evs.length≤9223372036854775807):PC Proofs.Tryz.prog 4 [aTr ps,aPd t,aEid x] (ab true):=by
 have hA:=law33_awake
 have hB:=law33_big ps hpl hev
 have hH:=law33_huge t
 have hX:aEid x = .agg [ai x.1,ai x.2]:=rfl
 have hTr:aTr ps = .agg [.sl 3 (ps.map aPr)]:=rfl
 cases hb:bg3F ps with
 | true =>
  obtain⟨k,n,p0,q0,s,XT,hT⟩:=aPd_shape t
  rw[hb,hTr] at hB
  rw[hT] at hH ⊢
  rw[hTr,hX]
  refine PC.enter 179 [.tmp 6] [3,4,5,9,18,24] Proofs.Tryz.func4 rfl rfl rfl rfl rfl (by simp) (AWp.of ?_);simp only[go_sem]
  refine Wk ?_
  refine Sd ?_
  refine(hA).val.use ?_;simp only[go_sem]
  refine Wk ?_
  refine Sd ?_
  refine(hB).val.use ?_;simp only[go_sem]
  refine Wk ?_
  refine GCall.use (ab false) (fun h=>absurd h (by simp)) ?_
  simp only[go_sem]
  refine Wk ?_
  refine ret_eq ?_;simp only[go_sem]
 | false =>
 by_cases hh:300<hugeF t 0 0
 ·rw[decide_eq_true hh] at hH
  obtain⟨k,n,p0,q0,s,XT,hT⟩:=aPd_shape t
  rw[hb,hTr] at hB
  rw[hT] at hH ⊢
  rw[hTr,hX]
  refine PC.enter 179 [.tmp 6] [3,4,5,9,18,24] Proofs.Tryz.func4 rfl rfl rfl rfl rfl (by simp) (AWp.of ?_);simp only[go_sem]
  refine Wk ?_
  refine Sd ?_
  refine(hA).val.use ?_;simp only[go_sem]
  refine Wk ?_
  refine Sd ?_
  refine(hB).val.use ?_;simp only[go_sem]
  refine Wk ?_
  refine Sd ?_
  refine Gc hH ?_
  refine Sd ?_
  refine Wk ?_
  refine ret_eq ?_;simp only[go_sem]
 rw[decide_eq_false hh] at hH
 obtain⟨hs,hp10,he40⟩:=bg3_sm hb
 have hof:off ps ps.length≤1000000:=by have:=off_40 he40 ps.length (Nat.le_refl _);omega
 have hz:=not_huge hh
 have hP:=causality_Past ps hs x
 have hyes:pstE ps x=0→PC Proofs.Tryz.prog 9 [aTr ps,.agg [ai 13,ai 0,ai 0,ai 0,astr ByteArray.empty,anil],aEid x] (.tup [.sl 1 ((pstF ps x).map ai),ai 0]) ∧
   PC Proofs.Tryz.prog 20 [aTr ps,.agg [ai 13,ai 0,ai 0,ai 0,astr ByteArray.empty,anil],.sl 1 ((pstF ps x).map ai)] (.tup [ab true,ai 0]) ∧
   PC Proofs.Tryz.prog 18 [.sl 1 ((pstF ps x).map ai),.sl 1 ((pstF ps x).map ai)] (ab true):=fun h=>by
  obtain⟨y1,y2,y3,y4,y5⟩:=past_yes h
  have hY:aPd tY = .agg [ai 13,ai 0,ai 0,ai 0,astr ByteArray.empty,.sl 6 []]:=by unfold tY nd;rw[aPd_mk];rfl
  have hvY:Vw [] (.agg [ai 13,ai 0,ai 0,ai 0,astr ByteArray.empty,anil]) (aPd tY):=by
   rw[hY]
   exact .mkAgg (by repeat(first|exact Vw.refl _|exact Vws.nil|exact Vw.nil _|refine Vws.cons ?_ ?_))
  have hcl:=(isF_iff.1 y5).1
  have h1:=irr_Least ps hs tY (by decide) x
  have h2:=irr_Is ps hs hof tY (by decide) (pstF ps x) (by omega)
  have h3:=ints_equal (pstF ps x) (pstF ps x) (by omega)
  rw[y1,y2] at h1
  rw[y3,y4] at h2
  rw[decide_eq_true rfl] at h3
  exact⟨PC.vw0 (Vws.cons (.refl _) (Vws.cons hvY (Vws.refl _))) h1,PC.vw0 (Vws.cons (.refl _) (Vws.cons hvY (Vws.refl _))) h2,h3⟩
 have hno:¬mdE ps t 32=0→lirF ps t=[]:=fun h=>by unfold lirF;rw[if_neg h]
 have hreg:mdE ps t 32=0→PC Proofs.Tryz.prog 10 [aTr ps,aPd t] (.tup [.sl 1 ((tblL ps (TruP ps t)).map aRows),ai 0]) ∧
   (∀c ∈ lirF ps t,PC Proofs.Tryz.prog 20 [aTr ps,aPd t,.sl 1 (c.map ai)] (.tup [ab true,ai 0]) ∧
    PC Proofs.Tryz.prog 23 [.sl 1 ((tblL ps (TruP ps t)).map aRows),.clo 24 [.rp 1 [.sl 1 (c.map ai)] 0 0]] (ab true)) ∧
   (∀(k:Nat) (hk:k+1<(lirF ps t).length),PC Proofs.Tryz.prog 22 [.sl 1 (((lirF ps t)[k]'(by omega)).map ai),.sl 1 ((lirF ps t)[k+1].map ai)] (ab true)) ∧
   (∀row ∈ tblL ps (TruP ps t),∀d ∈ row,d=[]∨(d.length=ps.length∧PC Proofs.Tryz.prog 27 [.sl 1 ((lirF ps t).map aInts),.sl 1 (d.map ai)] (ai (idxF (lirF ps t) d))∧PC Proofs.Tryz.prog 28 [aTr ps,.sl 1 (d.map ai)] (ab true) ∧
    PC Proofs.Tryz.prog 29 [aTr ps,.sl 1 (d.map ai),aPd t] (ab true)∧(d ∉ lirF ps t→PC Proofs.Tryz.prog 25 [.sl 1 ((lirF ps t).map aInts),.clo 30 [.rp 1 [.sl 1 (d.map ai)] 0 0]] (ab false)))) ∧
   (∀row ∈ tblL ps (TruP ps t),row.length≤1000000):=fun hm=>by
  obtain⟨f1,f2,f3⟩:=ev_facts hs hm
  obtain⟨hck,hmd⟩:=mdE_zero hm
  obtain⟨m1,_,m3⟩:=mad_zero hmd
  have hv:=(checkF_zero hck).1
  have h8:=(valid_len hv)
  have hlen:∀ {c:List Int},isF ps c=true→c.length=ps.length:=fun h=>(isF_iff.1 h).1
  have hll:=lir_len ps hof t
  refine⟨irr_TableL ps hs t (by omega) (md_8 hm),fun c hc => ?_,fun k hk => ?_,fun row hr d hd => ?_,fun row hr=>(f3 row hr).1⟩
  ·obtain⟨g1,g2⟩:=f2 c hc
   have hcl:=hlen g1
   obtain⟨i1,i2⟩:=is_zero hm g1
   have h:=irr_Is ps hs hof t (by omega) c (by omega)
   rw[i1,i2,decide_eq_true hc] at h
   refine⟨h,?_⟩
   have hcf:=tbls_containsFunc (tblL ps (TruP ps t)) (by rw[tbl_len];omega) (.clo 24 [.rp 1 [aInts c] 0 0]) rfl (fun row=>row.any fun d=>decide (c=d)) fun row hr=>(law33_ev1 row (f3 row hr).1 c (by omega)).clo
   rw[g2] at hcf
   exact hcf
  ·have g1:=(f2 _ (List.getElem_mem (show k<(lirF ps t).length by omega))).1
   have g2:=(f2 _ (List.getElem_mem hk)).1
   have h:=ref23_Before _ _ (isF_cb hs g1) (isF_cb hs g2) ((hlen g1).trans (hlen g2).symm)
   rw[ord_bef ((hlen g1).trans (hlen g2).symm) (List.pairwise_iff_getElem.1 f1 k (k+1) (by omega) hk (by omega))] at h
   exact h
  ·rcases (f3 row hr).2 d hd with h|⟨g1,g2,g3⟩
   ·exact .inl h
   ·have hdl:=hlen g1
    obtain⟨g5,g6,g7⟩:=isF_iff.1 g1
    have c1:=ref12_Consistent ps hs h8.1 d hdl g6
    rw[g7] at c1
    have c2:=ref29_TruthD ps hs d (by omega) t (by omega) (bl_of hck m1 m3 g1).1
    rw[show truF (cutO ps d (undF ps d)) t=true from g2] at c2
    refine .inr ⟨hdl,ref23_Find _ d hll (fun y hy=>by have:=hlen (f2 y hy).1;omega),c1,c2,fun hn => ?_⟩
    have hcf:=rows_containsFunc (lirF ps t) hll (.clo 30 [.rp 1 [aInts d] 0 0]) rfl (fun e => !leqF d e) fun e _=>(law33_ev2 e d (by omega)).clo
    have e:((lirF ps t).any fun e => !leqF d e)=false:=by
     rw[Bool.eq_false_iff,Ne,List.any_eq_true]
     rintro⟨e,he,h⟩
     rw[g3 hn e he] at h;cases h
    rw[e] at hcf
    exact hcf
 have hLi:=irr_List ps hs t (by omega)
 have hEq:aRows (lirF ps t) = .sl 1 ((lirF ps t).map aInts):=rfl
 rw[hEq] at hLi
 have hIn:aInts (pstF ps x) = .sl 1 ((pstF ps x).map ai):=rfl
 rw[hIn] at hP
 clear hIn hEq
 obtain⟨k,n,p0,q0,s,XT,hT⟩:=aPd_shape t
 rw[hb,hTr] at hB
 rw[hT] at hH
 rw[hT,hTr] at hLi hreg
 rw[hTr,hX] at hP hyes
 rw[hT,hTr,hX]
 refine PC.enter 179 [.tmp 6] [3,4,5,9,18,24] Proofs.Tryz.func4 rfl rfl rfl rfl rfl (by simp) (AWp.of ?_);simp only[go_sem]
 refine Wk ?_
 refine Sd ?_
 refine(hA).val.use ?_;simp only[go_sem]
 refine Wk ?_
 refine Sd ?_
 refine(hB).val.use ?_;simp only[go_sem]
 refine Wk ?_
 refine Sd ?_
 refine Gc hH ?_
 refine Sd ?_
 refine Sd ?_
 refine AWp.of ?_;simp only[go_sem]
 refine Sd ?_
 refine AWp.of ?_;simp only[go_sem]
 refine Sd ?_
 refine(hP).val.use ?_;simp only[go_sem]
 refine Sd ?_
 refine AWp.of ?_;simp only[go_sem]
 intro b9
 by_cases h0:pstE ps x=0
 case' pos =>
  obtain⟨hy1,hy2,hy3⟩:=hyes h0
  refine W1 h0 ?_
  refine Sd ?_
  refine(hy1).val.use ?_;simp only[go_sem]
  refine Wk ?_
  refine Sd ?_
  refine(hy2).val.use ?_;simp only[go_sem]
  refine Wk ?_
  refine Sd ?_
  refine Gc hy3 ?_
  refine Wk ?_
 case' neg =>
  refine W1 h0 ?_
 all_goals
  clear hyes hP
  refine Sd ?_
  refine(hLi).val.use ?_;simp only[go_sem]
  by_cases hm:mdE ps t 32=0
  rotate_left
  ·have e:=hno hm
   refine W2 hm e ?_
   refine ret_eq ?_;simp only[go_sem]
   rfl
  obtain⟨hTb,hIs,hBf,hRw,hRl⟩:=hreg hm
  have htl:=tbl_len ps (TruP ps t)
  have hll:=lir_len ps hof t
  clear hno hreg
  refine W1 hm ?_
  refine Sd ?_
  refine(hTb).val.use ?_;simp only[go_sem]
  refine W1 htl ?_
  refine AWp.range' (lirF ps t).length [] [3,4,14,15,99,100] (fun k vs L=>vs=[]∧L=[]) (by omega) rfl rfl rfl ⟨rfl,rfl⟩ ?_ ?_
  ·rintro k vs L hk - ⟨rfl,rfl⟩
   have hg:((lirF ps t).map aInts).getD k .any = .sl 1 ((lirF ps t)[k].map ai):=getD_map (f:=aInts) hk
   obtain⟨hI1,hcf⟩:=hIs _ (List.getElem_mem hk)
   simp only[go_sem]
   refine W1 hg ?_
   intro b18
   refine Sd ?_
   refine W1 hg ?_
   refine Sd ?_
   refine(hI1).val.use ?_;simp only[go_sem]
   refine Sd ?_
   refine AWp.of ?_;simp only[go_sem]
   cases k with
   | zero =>
    have h00:((0:Nat):Int)=0:=rfl
    have h0l:¬((0:Int)<0):=by omega
    repeat(first|(with_reducible refine AWp.seq ?_)|(with_reducible refine AWp.block ?_))
    refine AWp.read mixed [0,1,2,3,4,5,6,7,8,9,10,11,12,13,14,15,16,17,18,19,20,21,22,23,24,25] (by kernel_rfl) ?_;simp only[go_sem,hg,h00,h0l]
    refine GCall.use (ab false) (fun h=>absurd h (by simp)) ?_
    simp only[go_sem,h0l]
    refine Sd ?_
    refine Gc hcf ?_
    refine Sd ?_
    refine Wk ?_
    first|exact⟨rfl,_,List.Sublist.refl _,rfl⟩|exact⟨_,List.Sublist.refl _,rfl⟩
   | succ k =>
    have hBk:=hBf k hk
    have hg2:((lirF ps t).map aInts).getD k .any = .sl 1 (((lirF ps t)[k]'(by omega)).map ai):=getD_map (f:=aInts) (show k<(lirF ps t).length by omega)
    have hpos:(0:Int)<((k+1:Nat):Int):=by omega
    have hsub:((k+1:Nat):Int) - 1=(k:Int):=by omega
    repeat(first|(with_reducible refine AWp.seq ?_)|(with_reducible refine AWp.block ?_))
    refine AWp.read mixed [0,1,2,3,4,5,6,7,8,9,10,11,12,13,14,15,16,17,18,19,20,21,22,23,24,25] (by kernel_rfl) ?_;simp only[go_sem,hg,hg2,hpos,hsub]
    refine Sd ?_
    refine Sd ?_
    refine Gc hBk ?_
    refine Sd ?_
    refine Gc hcf ?_
    refine Sd ?_
    refine Wk ?_
    first|exact⟨rfl,_,List.Sublist.refl _,rfl⟩|exact⟨_,List.Sublist.refl _,rfl⟩
  ·rintro vs L - ⟨rfl,rfl⟩
   simp only[go_sem]
   refine Wk ?_
   have htr:∀(q:Nat) (hq:q<(tblL ps (TruP ps t)).length),((tblL ps (TruP ps t)).map aRows).getD q .any = .sl 1 ((tblL ps (TruP ps t))[q].map aInts):=fun q hq=>getD_map (f:=aRows) hq
   refine AWp.range' (tblL ps (TruP ps t)).length [] [3,4,14,140,141] (fun k vs L=>vs=[]∧L=[]) (by omega) rfl rfl rfl ⟨rfl,rfl⟩ ?_ ?_
   ·rintro q vs L hq - ⟨rfl,rfl⟩
    have hg:=htr q hq
    have hRq:=hRw _ (List.getElem_mem hq)
    have hRl:=hRl _ (List.getElem_mem hq)
    simp only[go_sem]
    refine W1 hg ?_
    refine AWp.range' (tblL ps (TruP ps t))[q].length [] [3,4,14,140,141,142,146,147] (fun k vs L=>vs=[]∧L=[]) (by omega) rfl rfl rfl ⟨rfl,rfl⟩ ?_ ?_
    ·rintro i vs L hi - ⟨rfl,rfl⟩
     have hgi:((tblL ps (TruP ps t))[q].map aInts).getD i .any = .sl 1 ((tblL ps (TruP ps t))[q][i].map ai):=getD_map (f:=aInts) hi
     have hRi:=hRq _ (List.getElem_mem hi)
     simp only[go_sem]
     refine W1 hgi ?_
     intro b24
     refine Sd ?_
     generalize (tblL ps (TruP ps t))[q][i]=d at *
     rcases hRi with rfl|⟨hdl,hFi,hCo,hTu,hCf⟩
     ·have h00:((0:Nat):Int)=0:=rfl
      refine W1 h00 ?_
      refine GCall.use (ab false) (fun h=>absurd h (by simp)) ?_
      simp only[go_sem]
      refine W1 h00 ?_
      first|exact⟨rfl,_,List.Sublist.refl _,rfl⟩|exact⟨_,List.Sublist.refl _,rfl⟩
     ·have hd0:¬((d.length:Int)=0):=by omega
      by_cases hmem:d ∈ lirF ps t
      ·have hix:=idx_mem hmem
       refine W1 hd0 ?_
       refine Sd ?_
       refine GCall.use (ai (idxF (lirF ps t) d)) (fun _=>⟨At,(hFi).val.use ⟨rfl,rfl⟩⟩) ?_;simp only[go_sem]
       refine W2 hd0 hix ?_
       first|exact⟨rfl,_,List.Sublist.refl _,rfl⟩|exact⟨_,List.Sublist.refl _,rfl⟩
      ·have hCf:=hCf hmem
       have hneg:¬((0:Int) ≤ -1):=by omega
       rw[idx_no hmem] at hFi
       refine W1 hd0 ?_
       refine Sd ?_
       refine Gc hFi ?_
       refine W2 hd0 hneg ?_
       refine Sd ?_
       refine(hCo).val.use ?_;simp only[go_sem]
       refine W2 hd0 hneg ?_
       refine Sd ?_
       refine Gc hTu ?_
       refine W2 hd0 hneg ?_
       refine Sd ?_
       refine Gc hCf ?_
       refine W2 hd0 hneg ?_
       first|exact⟨rfl,_,List.Sublist.refl _,rfl⟩|exact⟨_,List.Sublist.refl _,rfl⟩
    ·rintro vs L - ⟨rfl,rfl⟩
     simp only[go_sem]
     refine Wk ?_
     first|exact⟨rfl,_,List.Sublist.refl _,rfl⟩|exact⟨_,List.Sublist.refl _,rfl⟩
   ·rintro vs L - ⟨rfl,rfl⟩
    simp only[go_sem]
    refine Wk ?_
    refine ret_eq ?_;simp only[go_sem]
end Go.AL
end
section
namespace Go.AL
open Go Go.RowKit
set_option maxRecDepth 100000
section
variable {H:Type} {enc:TypeId × Value→H} {W:World}
theorem rdAsg:Rd enc Proofs.Tryz.prog W 218 2 aAsg (fun _=>True) :=
 (Rd.struct (ts:=[3,3]) Proofs.Tryz.underlying218 rfl rfl (by kernel_rfl) (by kernel_rfl)
  (.cons (Rd.int Proofs.Tryz.underlying3) (fun _=>⟨rfl,rfl⟩) (.cons (Rd.int Proofs.Tryz.underlying3) (fun _=>⟨rfl,rfl⟩) .nil))).map (fun (y:Int × Int × Unit)=>(y.1,y.2.1)) (fun _=>rfl) (fun _ _=>trivial)
theorem rdAsgs:Rd enc Proofs.Tryz.prog W 77 1 aAsgs (fun _=>True) :=
 (Rd.slice Proofs.Tryz.underlying77 (by kernel_rfl:Program.cellsOf Proofs.Tryz.prog 218=2) (by decide) rdAsg).map id (fun _=>rfl) (fun _ _=>trivial)
theorem rdVar:Rd enc Proofs.Tryz.prog W 215 2 aVar (fun _=>True) :=
 (Rd.struct (ts:=[9,3]) Proofs.Tryz.underlying215 rfl rfl (by kernel_rfl) (by kernel_rfl)
  (.cons (Rd.str Proofs.Tryz.underlying9) (fun _=>⟨rfl,rfl⟩) (.cons (Rd.int Proofs.Tryz.underlying3) (fun _=>⟨rfl,rfl⟩) .nil))).map (fun (y:ByteArray × Int × Unit)=>(y.1,y.2.1)) (fun _=>rfl) (fun _ _=>trivial)
theorem rdVars:Rd enc Proofs.Tryz.prog W 81 1 aVars (fun _=>True) :=
 (Rd.slice Proofs.Tryz.underlying81 (by kernel_rfl:Program.cellsOf Proofs.Tryz.prog 215=2) (by decide) rdVar).map id (fun _=>rfl) (fun _ _=>trivial)
theorem rdEv:Rd enc Proofs.Tryz.prog W 79 5 aEv (fun _=>True) :=
 (Rd.struct (ts:=[3,3,3,3,77]) Proofs.Tryz.underlying79 rfl rfl (by kernel_rfl) (by kernel_rfl)
  (.cons (Rd.int Proofs.Tryz.underlying3) (fun _=>⟨rfl,rfl⟩) (.cons (Rd.int Proofs.Tryz.underlying3) (fun _=>⟨rfl,rfl⟩) (.cons (Rd.int Proofs.Tryz.underlying3) (fun _=>⟨rfl,rfl⟩)
   (.cons (Rd.int Proofs.Tryz.underlying3) (fun _=>⟨rfl,rfl⟩) (.cons rdAsgs (fun _=>⟨rfl,rfl⟩) .nil)))))).map (fun (y:Int × Int × Int × Int × List (Int × Int) × Unit)=>⟨y.1,y.2.1,y.2.2.1,y.2.2.2.1,y.2.2.2.2.1⟩) (fun _=>rfl) (fun _ _=>trivial)
end
end Go.AL
end
section
namespace Go.AL
open Go Go.RowKit
set_option maxRecDepth 100000
def aPdC:Pd→List AV | .mk k n p q s l=>[ai k,ai n,ai p,ai q,astr s,.sl 6 (l.map aPd)]
theorem aPd_agg:∀y,aPd y = .agg (aPdC y):=fun ⟨k,n,p,q,s,l⟩=>by rw[aPd_mk];rfl
section
variable {H:Type} {enc:TypeId × Value→H} {W:World}
theorem rdPredN:∀N,RdF enc Proofs.Tryz.prog W N 27 6 aPd (fun _=>True)
 | 0 => .zero
 | N+1 =>
  (RdF.struct (ts:=[3,3,3,3,9,25]) Proofs.Tryz.underlying27 rfl rfl (by kernel_rfl) (by kernel_rfl)
   (.cons ((Rd.int Proofs.Tryz.underlying3).bounded N) (fun _=>⟨rfl,rfl⟩) (.cons ((Rd.int Proofs.Tryz.underlying3).bounded N) (fun _=>⟨rfl,rfl⟩) (.cons ((Rd.int Proofs.Tryz.underlying3).bounded N) (fun _=>⟨rfl,rfl⟩)
    (.cons ((Rd.int Proofs.Tryz.underlying3).bounded N) (fun _=>⟨rfl,rfl⟩) (.cons ((Rd.str Proofs.Tryz.underlying9).bounded N) (fun _=>⟨rfl,rfl⟩)
     (.cons ((RdF.slice Proofs.Tryz.underlying25 (by kernel_rfl:Program.cellsOf Proofs.Tryz.prog 27=6) (by decide) (rdPredN N)).mono (Nat.le_succ N)) (fun _=>⟨rfl,rfl⟩) .nil))))))).map
   (fun (y:Int × Int × Int × Int × ByteArray × List Pd × Unit)=>Pd.mk y.1 y.2.1 y.2.2.1 y.2.2.2.1 y.2.2.2.2.1 y.2.2.2.2.2.1) (fun _=>(aPd_mk _ _ _ _ _ _).symm) (fun _ _=>trivial)
theorem rdPred:Rd enc Proofs.Tryz.prog W 27 6 aPd (fun _=>True):=RdF.all rdPredN
end
end Go.AL
end
section
namespace Go.AL
open Go Go.RowKit
set_option maxRecDepth 100000
section
variable {H:Type} {enc:TypeId × Value→H} {W:World}
end
end Go.AL
end
section
namespace Go.AL
open Go Go.RowKit
set_option maxRecDepth 100000
section
variable {H:Type} {enc:TypeId × Value→H} {W:World}
theorem rdEid:Rd enc Proofs.Tryz.prog W 29 2 aEid (fun _=>True) :=
 (Rd.struct (ts:=[3,3]) Proofs.Tryz.underlying29 rfl rfl (by kernel_rfl) (by kernel_rfl)
  (.cons (Rd.int Proofs.Tryz.underlying3) (fun _=>⟨rfl,rfl⟩) (.cons (Rd.int Proofs.Tryz.underlying3) (fun _=>⟨rfl,rfl⟩) .nil))).map (fun (y:Int × Int × Unit)=>(y.1,y.2.1)) (fun _=>rfl) (fun _ _=>trivial)
theorem Rd.u8 {P:Program} {t:TypeId} (ht:P.underlying t=some (.int .u8)):Rd enc P W t 1 (fun n:Int => .v (.int .u8 n)) (fun n=>0≤n∧n≤255):=by
 intro fuel cs x h
 obtain⟨n,rfl,_,hw⟩:=DataW.trod_int ht h
 have hb:IntKind.u8.min≤n∧n≤IntKind.u8.max:=by
  unfold Lit.wf at hw
  rwa [Bool.and_eq_true,decide_eq_true_eq,decide_eq_true_eq] at hw
 refine⟨n,⟨Int.le_trans (by decide) hb.1,Int.le_trans hb.2 (by decide)⟩,⟨rfl,rfl⟩,rfl,fun i c u h1 h2 => ?_⟩
 cases i with
 | zero=>cases h1;cases h2;exact .v _
 | succ i=>cases h2
end
end Go.AL
end
section
namespace Go.AL
open Go Go.RowKit
set_option maxRecDepth 100000
section
variable {H:Type} {enc:TypeId × Value→H} {W:World}
theorem rdEvsM:Rd enc Proofs.Tryz.prog W 80 1 aEvs (fun l=>l.length≤maxLen) :=
 (Rd.slice Proofs.Tryz.underlying80 (by kernel_rfl:Program.cellsOf Proofs.Tryz.prog 79=5) (by decide) rdEv).map id (fun _=>rfl) (fun _ h=>h.1)
theorem rdPrM:Rd enc Proofs.Tryz.prog W 83 3 aPr (fun p=>p.evs.length≤maxLen) :=
 (Rd.struct (ts:=[9,81,80]) Proofs.Tryz.underlying83 rfl rfl (by kernel_rfl) (by kernel_rfl)
  (.cons (Rd.str Proofs.Tryz.underlying9) (fun _=>⟨rfl,rfl⟩) (.cons rdVars (fun _=>⟨rfl,rfl⟩) (.cons rdEvsM (fun _=>⟨rfl,rfl⟩) .nil)))).map (fun (y:ByteArray × List (ByteArray × Int) × List Ev × Unit)=>⟨y.1,y.2.1,y.2.2.1⟩) (fun _=>rfl) (fun _ h=>h.2.2.1)
theorem rdPrsM:Rd enc Proofs.Tryz.prog W 22 1 aPrs (fun l=>l.length≤maxLen∧∀p ∈ l,p.evs.length≤9223372036854775807) :=
 (Rd.slice Proofs.Tryz.underlying22 (by kernel_rfl:Program.cellsOf Proofs.Tryz.prog 83=3) (by decide) rdPrM).map id (fun _=>rfl) (fun _ h=>h)
theorem rdTrM:Rd enc Proofs.Tryz.prog W 24 1 aTr (fun l=>l.length≤maxLen∧∀p ∈ l,p.evs.length≤9223372036854775807) :=
 (Rd.struct (ts:=[22]) Proofs.Tryz.underlying24 rfl rfl (by kernel_rfl) (by kernel_rfl) (.cons rdPrsM (fun _=>⟨rfl,rfl⟩) .nil)).map (fun (y:List Pr × Unit)=>y.1) (fun _=>rfl) (fun _ h=>h.1)
end
end Go.AL
end
