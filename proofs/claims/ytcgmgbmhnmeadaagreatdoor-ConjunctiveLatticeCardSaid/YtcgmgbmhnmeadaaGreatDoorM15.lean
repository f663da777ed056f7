/- Texts of this claim's proof: WMc, WMd, AlGrd, WSs, WSp, WCp, WCk, WEx, WRr, WEy, WPq, WNa, WNb, WTm, WDx, WPu, WNc, WV31, WV36. No condition. -/
import Derived.Test.YtcgmgbmhnmeadaaGreatDoorM14
import Derived.Test.YtcgmgbmhnmeadaaGreatDoorM6
import Derived.Test.YtcgmgbmhnmeadaaGreatDoorM11
import Derived.Test.YtcgmgbmhnmeadaaGreatDoorM13
import Derived.Test.YtcgmgbmhnmeadaaGreatDoorM9
import Derived.Test.YtcgmgbmhnmeadaaGreatDoorM7
import Derived.Test.YtcgmgbmhnmeadaaGreatDoorM10
section
namespace Go.AL
open Go Go.RowKit
set_option maxRecDepth 4000
def GrowS (n:Nat) (r:AV) (L:AHeap):Prop:=(n=0∧r=anil∧L=[])∨∃b cap,n≤cap∧r = .ls b 1 0 0 cap∧L=[(b,.row 30 1 (List.replicate n anil) cap)]
theorem rows_grow (n:Nat) (hn:n≤1000000):MCalls Proofs.Tryz.prog 148 [anil,ai (n:Nat)] [] (GrowS n):=by
 refine MCalls.enter' 27 [.tmp 4] [] Proofs.Tryz.func148 rfl rfl rfl rfl rfl (by simp) (AWp.of ?_);simp only[go_sem]
 refine Wk ?_
 intro _
 refine Wk ?_
 refine Wk ?_
 refine⟨fun h1 => ?_,fun h1 => ?_⟩
 ·refine Wk ?_
  intro b cap hc
  refine Wk ?_
  refine ret_own ?_
  simp only[go_sem]
  have e:((n:Int) - (((0:Nat):Int) - ((0:Nat):Int))).toNat=n:=by omega
  rw[e]
  exact .inr ⟨b,cap,by omega,by simp,rfl⟩
 ·have:n=0:=by omega
  refine Wk ?_
  refine ret_own ?_
  simp only[go_sem]
  exact .inl ⟨this,rfl,rfl⟩
def CatS (ls:List (List (List Int))) (k:Nat) (v:AV) (L:AHeap):Prop :=
 (ls.flatten=[]∧v=anil∧L=[])∨∃b cap xs,v = .ls b 1 0 (ls.take k).flatten.length cap∧L=[(b,.row 30 1 xs cap)]∧(ls.take k).flatten.length≤xs.length∧xs.take (ls.take k).flatten.length=(ls.take k).flatten.map aInts
theorem flat_succ {ls:List (List (List Int))} {k:Nat} (hk:k<ls.length):(ls.take (k+1)).flatten=(ls.take k).flatten ++ ls[k]:=by
 rw[List.take_succ_eq_append_getElem hk,List.flatten_append];simp
theorem flat_le {ls:List (List (List Int))} (k:Nat):(ls.take k).flatten.length≤ls.flatten.length:=by
 conv=>rhs;rw[← List.take_append_drop k ls,List.flatten_append,List.length_append]
 omega
theorem rows_concat (ls:List (List (List Int))) (hl:ls.length≤100000000) (hf:ls.flatten.length≤1000000) :
  MCalls Proofs.Tryz.prog 113 [.sl 1 (ls.map aRows)] [] fun r L=>CatS ls ls.length r L:=by
 have hR:∀x:List (List Int),aRows x = .sl 1 (x.map aInts):=fun _=>rfl
 refine MCalls.enter' 36 [.tmp 2] [] Proofs.Tryz.func113 rfl rfl rfl rfl rfl (by simp) (AWp.of ?_);simp only[go_sem]
 refine Wk ?_
 refine AWp.range' ls.length [3] [0,9,10] (fun k vs L=>L=[]∧vs=[ai ((ls.take k).flatten.length:Nat)]) (by omega) rfl rfl rfl ⟨rfl,by rw[List.take_zero];rfl⟩ ?_ ?_
 ·rintro k vs L hk - ⟨rfl,rfl⟩
  have h1:=flat_le (ls:=ls) k
  have h2:=flat_le (ls:=ls) (k+1)
  have h3:=congrArg List.length (flat_succ hk)
  rw[List.length_append] at h3
  have hg:=getD_map (f:=aRows) hk
  simp only[go_sem]
  refine W2 hg hR ?_
  intro _
  refine Wk ?_
  exact⟨_,List.Sublist.refl _,rfl,by rw[h3];simp⟩
 ·rintro vs L - ⟨rfl,rfl⟩
  rw[List.take_length]
  simp only[go_sem]
  refine Wk ?_
  refine(rows_grow _ hf).val.mono ?_
  intro r L hr
  have hI:CatS ls 0 r L:=by
   rcases hr with ⟨h0,rfl,rfl⟩|⟨b,cap,hc,rfl,rfl⟩
   ·exact .inl ⟨List.eq_nil_of_length_eq_zero h0,rfl,rfl⟩
   ·exact .inr ⟨b,cap,_,by simp,rfl,by simp,by simp⟩
  clear hr
  have hfo:fo r=(True,r):=by rcases hI with ⟨_,rfl,_⟩|⟨b,cap,xs,rfl,_⟩ <;> rfl
  simp only[go_sem,hfo]
  refine W1 hfo ?_
  refine AWp.range' ls.length [6] [25,26] (fun k vs L=>∃v,vs=[v]∧CatS ls k v L) (by omega) rfl rfl rfl ⟨_,rfl,hI⟩ ?_ ?_
  ·clear hI
   rintro k vs L hk - ⟨v,rfl,hC⟩
   have h2:=flat_le (ls:=ls) (k+1)
   have hs:=flat_succ hk
   have h3:=congrArg List.length hs
   rw[List.length_append] at h3
   have hg:=getD_map (f:=aRows) hk
   have hll:(ls[k].map aInts).length=ls[k].length:=List.length_map _
   rcases hC with ⟨h0,rfl,rfl⟩|⟨b,cap,xs,rfl,rfl,hx,ht⟩
   ·have he:ls[k].map aInts=[]:=by
     rw[List.flatten_eq_nil_iff.1 h0 _ (List.getElem_mem hk)];rfl
    simp only[go_sem]
    refine W3 hg hR he ?_
    exact⟨_,List.Sublist.refl _,_,rfl,.inl ⟨h0,rfl,rfl⟩⟩
   ·have hy:(ls.take (k+1)).flatten.map aInts=(ls.take k).flatten.map aInts ++ ls[k].map aInts:=by rw[hs,List.map_append]
    unfold CatS
    rw[hy,h3,← ht]
    simp only[go_sem]
    refine W2 hg hR ?_
    intro b' cap' hc
    refine⟨_,List.Sublist.refl _,_,rfl,.inr ⟨b',cap',_,rfl,rfl,?_,?_⟩⟩
    ·rw[List.length_append,List.length_take];omega
    ·rw[List.take_of_length_le (by rw[List.length_append,List.length_take];omega)]
  ·clear hI
   rintro vs L - ⟨v,rfl,hC⟩
   have hfo:fo v=(True,v):=by rcases hC with ⟨_,rfl,_⟩|⟨b,cap,xs,rfl,_⟩ <;> rfl
   simp only[go_sem]
   refine W1 hfo ?_
   refine ret_own ?_
   simp only[go_sem]
   exact hC
noncomputable def lstE (ps:List Pr):Int:=if validF ps=true then (if (cutsF ps).length≤5000 then 0 else 16) else 1
noncomputable def lvOf (ps:List Pr):List (List (List Int)):=if lstE ps=0 then (List.range (nlev ps)).map (levF ps) else []
noncomputable def lstF (ps:List Pr):List (List Int):=if lstE ps=0 then cutsF ps else []
noncomputable def aLst (ps:List Pr):AV:=.tup [aRows (lstF ps),ai (lstE ps)]
theorem lst_zero {ps:List Pr} : lstE ps=0↔validF ps=true∧(cutsF ps).length≤5000:=by
 unfold lstE
 split
 ·split <;> simp_all
 ·simp_all
theorem aLvs_eq (ps:List Pr):aLvs ps = .tup [.sl 1 ((lvOf ps).map aRows),ai (lstE ps)]:=by
 unfold aLvs lvOf lvsF
 by_cases hv:validF ps=true
 ·by_cases h5:(cutsF ps).length≤5000
  ·rw[if_pos hv,if_pos h5,if_pos (lst_zero.2 ⟨hv,h5⟩)]
   unfold lstE
   rw[if_pos hv,if_pos h5,List.map_map];rfl
  ·rw[if_pos hv,if_neg h5,if_neg fun h=>h5 (lst_zero.1 h).2]
   unfold lstE
   rw[if_pos hv,if_neg h5];rfl
 ·rw[if_neg hv,if_neg fun h=>hv (lst_zero.1 h).1]
  unfold lstE
  rw[if_neg hv];rfl
theorem lev_nlev {ps:List Pr} (hv:validF ps=true):levF ps (nlev ps)=[]:=by
 have h1:(levF ps (off ps ps.length+1)).isEmpty=true:=by rw[levF_end hv (by omega)];rfl
 have:nlev ps<off ps ps.length+2:=by
  unfold nlev
  have:=List.findIdx_lt_length_of_exists (p:=fun k=>(levF ps k).isEmpty) (xs:=List.range (off ps ps.length+2)) ⟨off ps ps.length+1,by simp,h1⟩
  rwa [List.length_range] at this
 exact List.isEmpty_iff.1 (range_findIdx (fun k=>(levF ps k).isEmpty) _ this)
theorem nlev_le {ps:List Pr} : nlev ps≤off ps ps.length+2:=by
 have:=List.findIdx_le_length (p:=fun k=>(levF ps k).isEmpty) (xs:=List.range (off ps ps.length+2))
 rwa [List.length_range] at this
theorem cum_nlev {ps:List Pr} (hv:validF ps=true):cumF ps (nlev ps)=cutsF ps:=by
 have h:=cumF_end (lev_nlev hv)
 unfold cutsF
 rcases Nat.lt_or_ge (off ps ps.length+1) (nlev ps) with h1|h1
 ·have h2:=cumF_end (levF_end hv (show off ps ps.length<off ps ps.length+1 by omega)) (nlev ps - (off ps ps.length+1))
  rw[show off ps ps.length+1+(nlev ps - (off ps ps.length+1))=nlev ps by omega] at h2
  exact h2
 ·have:=h (off ps ps.length+1 - nlev ps)
  rw[show nlev ps+(off ps ps.length+1 - nlev ps)=off ps ps.length+1 by omega] at this
  exact this.symm
theorem lv_flat (ps:List Pr):(lvOf ps).flatten=lstF ps:=by
 unfold lvOf lstF
 split
 ·rename_i h
  rw[← cum_nlev (lst_zero.1 h).1]
  unfold cumF
  rw[List.flatMap_def]
 ·rfl
theorem lst_len (ps:List Pr):(lstF ps).length≤5000:=by
 unfold lstF
 split
 ·rename_i h;exact(lst_zero.1 h).2
 ·exact Nat.zero_le _
theorem lv_len {ps:List Pr} (hs:Sm ps):(lvOf ps).length≤10000002:=by
 unfold lvOf
 split
 ·rename_i h
  have:=(valid_len (lst_zero.1 h).1).2
  rw[List.length_map,List.length_range]
  have:=nlev_le (ps:=ps)
  have:=off_small hs ps.length (Nat.le_refl _)
  omega
 ·exact Nat.zero_le _
theorem cuts_levels' (ps:List Pr) (hs:Sm ps):PC Proofs.Tryz.prog 112 [aTr ps] (.tup [.sl 1 ((lvOf ps).map aRows),ai (lstE ps)]):=by
 rw[← aLvs_eq];exact cuts_levels ps hs
theorem Vw.pre {L:AHeap} {b k n c:Nat} {t:TypeId} {xs ys:List AV} {cap:Nat} (h:lk L b=some (.row t k xs cap)) (hn:n≤xs.length) (ht:xs.take n=ys):Vw L (.ls b k 0 n c) (.sl k ys) :=
 .ls h (by omega) (by rw[List.drop_zero,ht]) (by rw[List.drop_zero,ht];exact(Vws.refl ys).2)
theorem cuts_list (ps:List Pr) (hs:Sm ps):PC Proofs.Tryz.prog 77 [aTr ps] (aLst ps):=by
 have h1:=cuts_levels' ps hs
 have hf:(lvOf ps).flatten.length≤1000000:=by rw[lv_flat];have:=lst_len ps;omega
 have h2:=rows_concat (lvOf ps) (by have:=lv_len hs;omega) hf
 have hR:∀x:List (List Int),aRows x = .sl 1 (x.map aInts):=fun _=>rfl
 have hfl:=lv_flat ps
 unfold aLst
 rw[← hfl,hR]
 generalize lvOf ps=ls at *
 generalize lstE ps=e at *
 refine PC.enter 14 [.tmp 2,.tmp 3] [1] Proofs.Tryz.func77 rfl rfl rfl rfl rfl (by simp) (AWp.of ?_);simp only[go_sem]
 refine Wk ?_
 refine Sd ?_
 refine(h1).val.use ?_;simp only[go_sem]
 refine Wk ?_
 refine h2.val.mono ?_
 intro r L hC
 unfold CatS at hC
 rw[List.take_length] at hC
 rcases hC with ⟨h0,rfl,rfl⟩|⟨b,cap,xs,rfl,rfl,hx,ht⟩
 ·simp only[go_sem]
  refine Wk ?_
  refine ret_view [] ?_;simp only[go_sem]
  rw[h0]
  exact .mkTup (Vws.cons (.nil 1) (Vws.refl _))
 ·simp only[go_sem]
  refine Wk ?_
  refine ret_view [true] ?_;simp only[go_sem]
  exact .mkTup (Vws.cons (Vw.pre (if_pos rfl) hx ht) (Vws.refl _))
theorem cuts_List (ps:List Pr) (hs:Sm ps):PC Proofs.Tryz.prog 52 [aTr ps] (aLst ps):=by
 have h1:=cuts_list ps hs
 unfold aLst at *
 refine PC.enter 8 [.tmp 2,.tmp 3] [1] Proofs.Tryz.func52 rfl rfl rfl rfl rfl (by simp) (AWp.of ?_);simp only[go_sem]
 refine Wk ?_
 refine Sd ?_
 refine(h1).val.use ?_;simp only[go_sem]
 refine Wk ?_
 refine ret_eq ?_;simp only[go_sem]
end Go.AL
end
section
namespace Go.AL
open Go Go.RowKit
def astepF (C:Cfg) (all:List Oper) (o:Oper) (ρ:Env) (L:AHeap) (K:ARes):Prop :=
 match o.guard with
 | none=>aop C o ρ L K
 | some (j,want)=>match gval all ρ j want with
  | some b=>(b=want→aop C o ρ L K)∧(b ≠ want→K (put ρ o.dst .any) L)
  | none=>False
def aregionF (C:Cfg) (all:List Oper):List Oper→Env→AHeap→ARes→Prop
 | [],ρ,L,K=>K ρ L
 | o :: rest,ρ,L,K=>astepF C all o ρ L fun ρ L=>aregionF C all rest ρ L K
def aregFK (C:Cfg) (all rest:List Oper) (K:ARes) (ρ:Env) (L:AHeap):Prop:=aregionF C all rest ρ L K
theorem aregionF_nil (C:Cfg) (all:List Oper) (ρ:Env) (L:AHeap) (K:ARes):aregionF C all [] ρ L K=K ρ L:=rfl
theorem aregionF_cons (C:Cfg) (all rest:List Oper) (o:Oper) (ρ:Env) (L:AHeap) (K:ARes):aregionF C all (o :: rest) ρ L K=astepF C all o ρ L (aregFK C all rest K):=rfl
attribute [go_sem] aregionF_nil aregionF_cons astepF aregFK
end Go.AL
end
section
namespace Go.AL
open Go Go.RowKit
set_option maxRecDepth 4000
def startK (ps:List Pr) (ts:List Pd) (r:AV) (L:AHeap):Prop :=
 (conF ps ts=0∧∃bb bn,¬bn=bb∧r = .tup [.lp bb 3 0 0,ai 0]∧L=boardL (elimOf ps ts) (fun _=>0) bb bn)∨(conF ps ts ≠ 0∧r = .tup [.v (.pointer none),ai (conF ps ts)]∧L=[])
def okK (E:Elim) (m:Nat):List AV:=(List.range m).map fun q => .sl 1 (okL E q)
theorem okK_len (E:Elim) (m:Nat):(okK E m).length=m:=by simp [okK]
theorem okK_succ (E:Elim) (m:Nat):okK E (m+1)=okK E m ++ [.sl 1 (okL E m)]:=by unfold okK;rw[List.range_succ,List.map_append];rfl
theorem truths_row {ps:List Pr} {ts:List Pd} {p:Nat} (hp:p<ts.length) (hpp:p<ps.length):(truthsF ps p ts[p]).map ab=okL (elimOf ps ts) p:=by
 rw[truthsF_nat hpp,List.map_map]
 unfold okL
 rw[show (elimOf ps ts).top p=ps[p].evs.length from nev_get hpp]
 refine List.map_congr_left fun k _ => ?_
 show ab _=ab (match ts[p]? with|some t=>lclT ps p t k|none=>true)
 rw[List.getElem?_eq_getElem hp]
theorem conj_start (ps:List Pr) (hs:Sm ps) (ts:List Pd) (hz:∀t ∈ ts,szF t≤1000000) (htl:ts.length≤1000000):MCalls Proofs.Tryz.prog 24 [aTr ps,.sl 6 (ts.map aPd)] [] (startK ps ts):=by
 have h1:=trace_Valid ps hs
 have hl:=hs.procs
 by_cases hv:validF ps=true∧ts.length=ps.length
 ·have hvl:(ts.length:Int)=ps.length:=by omega
  have hl1:=(valid_len hv.1).1
  rw[hv.1] at h1
  have hhit:=fun p hp=>conF_hit hv (p:=p) hp
  have hzero:=conF_zero hv
  have hnd:=conj_needs ps hs hv.1 ts
  have hEn:(elimOf ps ts).n=ps.length:=rfl
  have hrow:=fun p (hp:p<ts.length)=>truths_row (ps:=ps) hp (by omega)
  have hB:∀f bb bn,boardL (elimOf ps ts) f bb bn=[(bb,.row 74 3 [.agg [.sl 1 (needT (elimOf ps ts)),.sl 1 (okM (elimOf ps ts)),.ls bn 1 0 (elimOf ps ts).n (elimOf ps ts).n]] 1),(bn,.row 3 1 (dnA (elimOf ps ts).n f) (elimOf ps ts).n)]:=fun f bb bn=>rfl
  unfold startK
  simp only[hB]
  clear hB
  generalize elimOf ps ts=E at *
  generalize conF ps ts=C at *
  refine MCalls.enter' 61 [.tmp 4,.tmp 5] [2,8,50] Proofs.Tryz.func24 rfl rfl rfl rfl rfl (by simp) (AWp.of ?_);simp only[go_sem]
  refine Wk ?_
  refine Sd ?_
  refine(h1).val.use ?_;simp only[go_sem,hvl]
  refine W1 hvl ?_
  intro bn
  refine Wk ?_
  intro bb g2
  have n1:¬bb=bn:=by omega
  have n2:¬bn=bb:=by omega
  refine Wk ?_
  refine AWp.range' ts.length [] [2,6,27,28] (fun p vs L=>∃v Lq,L=Lq ++ [(bb,.row 74 3 [.agg [anil,v,.ls bn 1 0 ps.length ps.length]] 1),(bn,.row 3 1 (List.replicate ps.length (ai 0)) ps.length)]∧AppSt 75 1 (okK E p) v Lq∧(∀x ∈ Lq,x.1 ≠ bb∧x.1 ≠ bn)∧∀q (hq:q<ts.length),q<p→lclF ps q 0 ts[q]=0) (by omega) rfl rfl rfl ⟨anil,[],rfl,.nil,by simp,fun q hq h=>by omega⟩ ?_ ?_
  ·rintro p vs L hp - ⟨v,Lq,rfl,hA,hq,hJ⟩
   have hgt:=getD_map (f:=aPd) hp
   have htr:=evaluate_Truths ps hs p ts[p] (hz _ (List.getElem_mem hp))
   have hro:=hrow p hp
   have hh:=hhit p hp hJ
   have hyl:=okK_len E p
   rw[okK_succ]
   unfold aTruths at htr
   rw[Int.toNat_natCast,hro] at htr
   have hJ1:lclF ps p 0 ts[p]=0→∀q (hq:q<ts.length),q<p+1→lclF ps q 0 ts[q]=0:=fun e q hq h=>by
    by_cases e2:q=p
    ·subst e2;exact e
    ·exact hJ q hq (by omega)
   generalize lclF ps p 0 ts[p]=e at *
   generalize ts[p]=t at *
   generalize okL E p=ol at *
   generalize okK E p=ys at *
   obtain⟨k0,n,pp,q0,s,l⟩:=t
   simp only[aPd_mk] at *
   have hfo:=hA.fo
   by_cases he:e=0
   ·rw[if_pos he] at htr
    subst he
    rcases hA.inv with ⟨e1,rfl,rfl⟩|⟨bq,cap,rfl,rfl⟩
    ·simp only[go_sem,List.nil_append]
     refine W1 hgt ?_
     intros
     refine W2 n1 n2 ?_
     refine Sd ?_
     refine(htr).val.use ?_;simp only[go_sem]
     refine W2 n1 n2 ?_
     intro b' cap' g8 g9 _
     have n3:¬b'=bb∧¬b'=bn:=by omega
     have n4:¬bb=b':=by omega
     simp only[go_sem,n4]
     refine⟨_,List.Sublist.refl _,.ls b' 1 0 1 cap',[(b',.row 75 1 [.sl 1 ol] cap')],rfl,?_,?_,hJ1 rfl⟩
     ·rw[e1];exact .row _ _ _
     ·intro y hy;simp only[List.mem_singleton] at hy;subst hy;exact n3
    ·have nq:=hq (bq,.row 75 1 ys cap) (by simp)
     simp only at nq
     have nq1:¬bb=bq:=fun e=>nq.1 e.symm
     have nq2:¬bn=bq:=fun e=>nq.2 e.symm
     simp only[go_sem,List.cons_append,List.nil_append]
     refine W1 hgt ?_
     intros
     refine W2 n1 n2 ?_
     refine Sd ?_
     refine(htr).val.use ?_;simp only[go_sem]
     refine W5 n1 n2 nq nq1 nq2 ?_
     intro b' cap' g8 g9 _
     have n3:¬b'=bb∧¬b'=bn:=by omega
     have n4:¬bb=b':=by omega
     simp only[go_sem,n4]
     refine⟨_,List.Sublist.refl _,.ls b' 1 0 (ys.length+1) cap',[(b',.row 75 1 (ys ++ [.sl 1 ol]) cap')],rfl,?_,?_,hJ1 rfl⟩
     ·have:=AppSt.row (t:=75) (k:=1) b' (ys ++ [.sl 1 ol]) cap'
      simpa using this
     ·intro y hy;simp only[List.mem_singleton] at hy;subst hy;exact n3
   ·rw[if_neg he] at htr
    have hC:=hh he
    rcases hA.inv with ⟨e1,rfl,rfl⟩|⟨bq,cap,rfl,rfl⟩
    ·simp only[go_sem,List.nil_append]
     refine W1 hgt ?_
     intros
     refine W2 n1 n2 ?_
     refine Sd ?_
     refine(htr).val.use ?_;simp only[go_sem]
     refine W3 n1 n2 he ?_
     refine ret_sub [] (List.nil_sublist _) ?_
     simp only[go_sem]
     exact .inr ⟨by rw[hC];exact he,by rw[hC]⟩
    ·simp only[go_sem,List.cons_append,List.nil_append]
     refine W1 hgt ?_
     intros
     refine W2 n1 n2 ?_
     refine Sd ?_
     refine(htr).val.use ?_;simp only[go_sem]
     refine W3 n1 n2 he ?_
     refine ret_sub [] (List.nil_sublist _) ?_
     simp only[go_sem]
     exact .inr ⟨by rw[hC];exact he,by rw[hC]⟩
  ·rintro vs L - ⟨v,Lq,rfl,hA,hq,hJ⟩
   have hyl:=okK_len E ts.length
   have hC:=hzero fun q hq=>hJ q hq hq
   have hfin:okK E ts.length=okM E:=by unfold okK okM;rw[hEn,hv.2]
   rw[hfin] at hA hyl
   have hdn:List.replicate ps.length (ai 0)=dnA E.n (fun _=>0):=by unfold dnA;apply List.ext_getElem (by simp;omega);intro i h1 h2;simp
   rcases hA.inv with ⟨e1,rfl,rfl⟩|⟨bq,cap,rfl,rfl⟩
   ·rw[e1] at hyl;simp at hyl;omega
   ·have nq:=hq (bq,.row 75 1 (okM E) cap) (by simp)
    simp only at nq
    have nq1:¬bb=bq:=fun e=>nq.1 e.symm
    have nq2:¬bn=bq:=fun e=>nq.2 e.symm
    simp only[go_sem,List.cons_append,List.nil_append]
    refine W5 n1 n2 nq nq1 nq2 ?_
    refine Sd ?_
    refine(hnd).val.use ?_;simp only[go_sem,n1,nq1]
    refine Sd ?_
    refine AWp.view (L':=[(bb,.row 74 3 [.agg [.sl 1 (needT E),.sl 1 (okM E),.ls bn 1 0 ps.length ps.length]] 1),(bn,.row 3 1 (List.replicate ps.length (ai 0)) ps.length)]) [true,false,false] [] ?_ (by simp) ?_
    ·simp only[pickT,pickF]
     exact .row (Vws.cons (.mkAgg (Vws.cons (.refl _) (Vws.cons (Vw.ofLs (if_pos rfl) rfl) (Vws.refl _)))) .nil) (.refl _)
    ·simp only[go_sem]
     refine Wk ?_
     refine ret_own ?_
     simp only[go_sem]
     refine⟨hC,bb,bn,n2,rfl,?_⟩
     rw[hdn,hEn]
 ·have hC:=conF_bad hv
  unfold startK
  rw[hC]
  by_cases hv1:validF ps=true
  ·have hvl:¬(ts.length:Int)=ps.length:=fun e=>hv ⟨hv1,by omega⟩
   rw[hv1] at h1
   refine MCalls.enter' 61 [.tmp 4,.tmp 5] [2,8,50] Proofs.Tryz.func24 rfl rfl rfl rfl rfl (by simp) (AWp.of ?_);simp only[go_sem]
   refine Wk ?_
   refine Sd ?_
   refine(h1).val.use ?_;simp only[go_sem,hvl]
   refine W1 hvl ?_
   refine ret_own ?_
   simp only[go_sem]
   exact .inr (by decide)
  ·rw[show validF ps=false by simpa using hv1] at h1
   refine MCalls.enter' 61 [.tmp 4,.tmp 5] [2,8,50] Proofs.Tryz.func24 rfl rfl rfl rfl rfl (by simp) (AWp.of ?_);simp only[go_sem]
   refine Wk ?_
   refine Sd ?_
   refine(h1).val.use ?_;simp only[go_sem]
   refine Wk ?_
   refine ret_own ?_
   simp only[go_sem]
   exact .inr (by decide)
theorem lostB_fin (E:Elim):lostB E (finF E)=lostF E:=by
 have h:=run_lost (run_spec E) (inE_zero E)
 cases hl:lostF E with
 | true =>
  obtain⟨q,hq,hlt⟩:=h.1 hl
  exact lostB_true hq hlt
 | false =>
  refine List.any_eq_false.2 fun q hq => ?_
  rw[hl] at h
  have h2:¬ ∃q,q<E.n∧E.top q<finF E q:=fun x=>by cases h.2 x
  intro hd
  exact h2 ⟨q,List.mem_range.1 hq,of_decide_eq_true hd⟩
theorem run_small {E:Elim} (hE:SmE E) {now fin:Nat→Nat} {st:List Stp} {l:Bool} (h:RunR E now st fin l) (hI:InE E now):∀q,q<E.n→fin q≤1000001:=by
 induction h with
 | stop h=>exact inE_small hE hI
 | lost h hl=>exact fun q hq=>(step_lost hI h hl).2 q hq (hE.top q)
 | go h hl hr ih=>exact ih (inE_step hI hl)
noncomputable def aPossR (ps:List Pr) (ts:List Pd):AV:=if conF ps ts=0 then .tup [aAns (ansOf (elimOf ps ts)),ai 0] else .tup [aAns noAns,ai (conF ps ts)]
theorem lkq {Lq L:AHeap} {b:Nat} (h:∀x ∈ Lq,x.1 ≠ b):lk (Lq ++ L) b=lk L b:=by
 induction Lq with
 | nil=>rfl
 | cons y Lq ih =>
  obtain⟨yb,yx⟩:=y
  have h0:¬b=yb:=fun e=>h (yb,yx) (by simp) e.symm
  show (if b=yb then _ else _)=_
  rw[if_neg h0]
  exact ih fun x hx=>h x (List.mem_cons_of_mem _ hx)
theorem MCalls.toPC {P:Program} {f:FuncId} {args:List AV} {K:AV→AHeap→Prop} {r':AV} (h:MCalls P f args [] K) (hv:∀r L,K r L→Vw L r r'):PC P f args r' :=
 ⟨h.1,fun n w A vs hL hr=>(h.2 n w A vs hL hr).mono fun e w' ⟨v,r,L',A',he,hK,hf,hA,hL',hk,hr'⟩ =>
  ⟨v,r',[],fun b=>A' b∨keysOf L' b,he,⟨rfl,rfl⟩,hf,fun b hb=>hb.elim (hA b) (fun ⟨x,hx,e⟩=>by subst e;exact(hk x hx).elim (fun ⟨y,hy,_⟩=>by cases hy) (fun h => .inr (.inr h))),hL'.viewed (Lf:=L') (Lk:=[]) (by simp) .nil,(by intro x hx;cases hx),hL'.view (Lf:=L') (Lk:=[]) (by simp) (hv r L' hK) hr'⟩⟩
theorem conj_PossiblyK (ps:List Pr) (hs:Sm ps) (ts:List Pd) (hz:∀t ∈ ts,szF t≤1000000) (htl:ts.length≤1000000) (K:AV→AHeap→Prop)
  (k1:conF ps ts=0→lostF (elimOf ps ts)=true→∀v Lq,AppSt 54 3 ((stepsF (elimOf ps ts)).map aStp) v Lq→K (.tup [.agg [ai 1,ab false,ai 4,anil,anil,anil,v,ai 0],ai 0]) Lq)
  (k2:conF ps ts=0→lostF (elimOf ps ts)=false→∀b,K (.tup [.agg [ai 1,ab true,ai 1,.ls b 1 0 (elimOf ps ts).n (elimOf ps ts).n,anil,anil,anil,ai 0],ai 0]) [(b,.row 3 1 (dnA (elimOf ps ts).n (finF (elimOf ps ts))) (elimOf ps ts).n)])
  (k3:conF ps ts ≠ 0→K (.tup [.agg [ai 0,ab false,ai 0,anil,anil,anil,anil,ai 0],ai (conF ps ts)]) []):MCalls Proofs.Tryz.prog 8 [aTr ps,.sl 6 (ts.map aPd)] [] K:=by
 have h1:=conj_start ps hs ts hz htl
 have hE:=elim_sm hs ts
 unfold startK at h1
 have hl:=hs.procs
 have hEn:(elimOf ps ts).n=ps.length:=rfl
 have hrun:=run_spec (elimOf ps ts)
 have hlo:=board_lost (elimOf ps ts) hE (finF (elimOf ps ts)) (run_small hE hrun (inE_zero _))
 rw[lostB_fin] at hlo
 have hst:=fun bb bn hb=>board_steps (elimOf ps ts) hE (fun _=>0) (finF (elimOf ps ts)) (inE_zero _) (stepsF (elimOf ps ts)) (lostF (elimOf ps ts)) hrun bb bn hb
 have hB:∀f bb bn,boardL (elimOf ps ts) f bb bn=[(bb,.row 74 3 [.agg [.sl 1 (needT (elimOf ps ts)),.sl 1 (okM (elimOf ps ts)),.ls bn 1 0 (elimOf ps ts).n (elimOf ps ts).n]] 1),(bn,.row 3 1 (dnA (elimOf ps ts).n f) (elimOf ps ts).n)]:=fun f bb bn=>rfl
 generalize elimOf ps ts=E at *
 generalize conF ps ts=C at *
 generalize stepsF E=st at *
 generalize finF E=fin at *
 generalize lostF E=lo at *
 refine MCalls.enter' 30 [.cell 4 34,.tmp 5] [2] Proofs.Tryz.func8 rfl rfl rfl rfl rfl (by simp) (AWp.of ?_);simp only[go_sem]
 intro b4
 refine Wk ?_
 refine MVal.pass (Lf:=[]) (Li:=[]) (Lr:=[(b4,.row 34 8 [.agg [ai 0,ab false,ai 0,anil,anil,anil,anil,ai 0]] 1)]) (by simp) (Vws.refl _) h1.val ?_
 rintro r L1 (⟨rfl,bb,bn,hb,rfl,rfl⟩|⟨hC,rfl,rfl⟩)
 ·refine⟨_,.refl _,?_⟩
  simp only[go_sem]
  refine AWp.nodup fun hnd => ?_
  have hb':¬bb=bn:=fun e=>hb e.symm
  have hn4:(¬bb=b4∧¬b4=bb)∧(¬bn=b4∧¬b4=bn):=by
   simp only[hB,List.cons_append,List.nil_append,List.map_cons,List.map_nil,List.nodup_cons,List.mem_cons,List.not_mem_nil,or_false,not_or] at hnd
   exact⟨⟨hnd.1.2,fun e=>hnd.1.2 e.symm⟩,⟨hnd.2.1,fun e=>hnd.2.1 e.symm⟩⟩
  clear hnd
  refine Wk ?_
  refine MVal.pass (Lf:=[]) (Li:=boardL E (fun _=>0) bb bn) (Lr:=[(b4,.row 34 8 [.agg [ai 0,ab false,ai 0,anil,anil,anil,anil,ai 0]] 1)]) (.refl _) (Vws.refl _) (hst bb bn hb).val ?_
  rintro r L1 ⟨Lq,hA,rfl,hq⟩
  refine⟨_,.refl _,?_⟩
  have hfo:=hA.fo
  simp only[go_sem,hfo]
  refine AWp.nodup fun hnd => ?_
  have hq4:∀x ∈ Lq,x.1 ≠ b4:=fun x hx e=>by
   rw[List.append_assoc,List.map_append,List.nodup_append] at hnd
   refine hnd.2.2 _ (List.mem_map_of_mem hx) b4 ?_ e
   simp
  clear hnd
  have hvw:Vws ((Lq ++ boardL E fin bb bn) ++ [(b4,.row 34 8 [.agg [ai 0,ab false,ai 0,anil,anil,anil,anil,ai 0]] 1)]) [.lp bb 3 0 0] [aBoard E fin]:=by
   rw[List.append_assoc]
   refine board_viewL (bn:=bn) ?_ ?_ []
   ·rw[lkq fun x hx=>(hq x hx).1,hB];simp only[List.cons_append,List.nil_append,lk,if_true]
   ·rw[lkq fun x hx=>(hq x hx).2,hB];simp only[List.cons_append,List.nil_append,lk,hb,if_false,if_true]
  refine W1 hfo ?_
  refine(PC.view hvw hlo (Own.v _) ?_).val
  rw[hB] at *
  cases lo with
  | true =>
   rcases hA.inv with ⟨e1,rfl,rfl⟩|⟨bq,cap,rfl,rfl⟩
   ·simp only[go_sem,List.nil_append]
    refine W1 hn4 ?_
    refine ret_sub [] (List.nil_sublist _) ?_
    simp only[go_sem,hn4]
    exact k1 rfl rfl _ _ hA
   ·have nq4:=hq4 (bq,.row 54 3 (st.map aStp) cap) (by simp)
    simp only at nq4
    have nq4':¬b4=bq:=fun e=>nq4 e.symm
    simp only[go_sem,List.cons_append,List.nil_append]
    refine W2 hn4 nq4' ?_
    refine ret_sub [(bq,.row 54 3 (st.map aStp) cap)] (by simp) ?_
    simp only[go_sem,hn4,nq4']
    have:=k1 rfl rfl _ _ hA
    simpa using this
  | false =>
   rcases hA.inv with ⟨e1,rfl,rfl⟩|⟨bq,cap,rfl,rfl⟩
   ·simp only[go_sem,List.nil_append]
    refine W3 hn4 hb hb' ?_
    refine ret_sub [(bn,.row 3 1 (dnA E.n fin) E.n)] (by simp) ?_
    simp only[go_sem,hn4]
    exact k2 rfl rfl _
   ·have nq4:=hq4 (bq,.row 54 3 (st.map aStp) cap) (by simp)
    simp only at nq4
    have nq4':¬b4=bq:=fun e=>nq4 e.symm
    have nq:=hq (bq,.row 54 3 (st.map aStp) cap) (by simp)
    simp only at nq
    have nqa:¬bb=bq∧¬bn=bq:=⟨fun e=>nq.1 e.symm,fun e=>nq.2 e.symm⟩
    simp only[go_sem,List.cons_append,List.nil_append]
    refine W5 hn4 nq4' hb hb' nqa ?_
    refine ret_sub [(bn,.row 3 1 (dnA E.n fin) E.n)] (by simp) ?_
    simp only[go_sem,hn4,nq4']
    exact k2 rfl rfl _
 ·refine⟨_,.refl _,?_⟩
  simp only[go_sem,List.nil_append]
  refine W1 hC ?_
  refine ret_sub [] (List.nil_sublist _) ?_
  simp only[go_sem]
  exact k3 hC
theorem conj_Possibly (ps:List Pr) (hs:Sm ps) (ts:List Pd) (hz:∀t ∈ ts,szF t≤1000000) (htl:ts.length≤1000000):PC Proofs.Tryz.prog 8 [aTr ps,.sl 6 (ts.map aPd)] (aPossR ps ts):=by
 refine(conj_PossiblyK ps hs ts hz htl (fun r L=>Vw L r (aPossR ps ts)) (fun h hl v Lq hA => ?_) (fun h hl b => ?_) (fun h => ?_)).toPC fun _ _ h=>h
 ·unfold aPossR ansOf
  rw[if_pos h,hl,if_pos rfl]
  refine .mkTup (Vws.cons (.mkAgg ?_) (Vws.refl _))
  refine Vws.cons (.refl _) (Vws.cons (.refl _) (Vws.cons (.refl _) (Vws.cons (.nil 1) (Vws.cons (.nil 1) (Vws.cons (.nil 1) (Vws.cons ?_ (Vws.refl _)))))))
  rw[← aStp_I]
  have:=hA.vw []
  rwa [List.append_nil] at this
 ·unfold aPossR ansOf
  rw[if_pos h,hl,if_neg (by decide)]
  refine .mkTup (Vws.cons (.mkAgg ?_) (Vws.refl _))
  refine Vws.cons (.refl _) (Vws.cons (.refl _) (Vws.cons (.refl _) (Vws.cons ?_ (Vws.cons (.nil 1) (Vws.cons (.nil 1) (Vws.cons (.nil 3) (Vws.refl _)))))))
  rw[← dnA_I]
  exact Vw.ofLs (if_pos rfl) (dnA_length _ _).symm
 ·unfold aPossR
  rw[if_neg h]
  refine .mkTup (Vws.cons (.mkAgg ?_) (Vws.refl _))
  exact Vws.cons (.refl _) (Vws.cons (.refl _) (Vws.cons (.refl _) (Vws.cons (.nil 1) (Vws.cons (.nil 1) (Vws.cons (.nil 1) (Vws.cons (.nil 3) (Vws.refl _)))))))
def satG (ps:List Pr) (E:Elim) (c:List Int):Bool:=isF ps c && (List.range c.length).all fun p=>E.ok p (cAt c p).toNat
theorem satG_iff {ps:List Pr} {E:Elim} {c:List Int} : satG ps E c=true↔SatD ps E c:=by
 unfold satG
 rw[Bool.and_eq_true,isF_iff,List.all_eq_true]
 constructor
 ·rintro⟨⟨h1,h2,h3⟩,h4⟩
  exact⟨h1,h2,h3,fun p hp=>h4 p (List.mem_range.2 (by omega))⟩
 ·intro h
  exact⟨⟨h.len,h.rng,h.clo⟩,fun p hp=>h.ok p (by have:=List.mem_range.1 hp;rw[h.len] at this;exact this)⟩
section
variable {ps:List Pr} {ts:List Pd}
end
def leqF (a b:List Int):Bool:=decide (a.length=b.length) && (List.range a.length).all fun i=>decide (a.getD i 0≤b.getD i 0)
theorem leqF_iff {a b:List Int} : leqF a b=true↔a.length=b.length∧∀i,i<a.length→a.getD i 0≤b.getD i 0:=by
 unfold leqF
 rw[Bool.and_eq_true,List.all_eq_true,decide_eq_true_eq]
 exact⟨fun h=>⟨h.1,fun i hi=>of_decide_eq_true (h.2 i (List.mem_range.2 hi))⟩,fun h=>⟨h.1,fun i hi=>decide_eq_true (h.2 i (List.mem_range.1 hi))⟩⟩
section
variable {ps:List Pr} {c:List Int}
variable {j:List Int} {ch:Int→Int→Int}
end
section
variable {ps:List Pr} {c:List Int}
end
def ordL (a b:List Int):Prop:=a.sum<b.sum∨(a.sum=b.sum∧cmpL a b<0)
theorem isF_given {ps:List Pr} (hv:validF ps=true) {c:List Int} : givenF ps [c] []=0↔isF ps c=true:=by
 rw[givenL,isF_iff];simp [hv]
def meetL (c d:List Int):List Int:=List.zipWith (fun x y=>if y<x then y else x) c d
theorem meet_cAt {c d:List Int} (h:c.length=d.length) {p:Nat} (hp:p<c.length):cAt (meetL c d) p=if cAt d p<cAt c p then cAt d p else cAt c p:=zw_cAt h hp
theorem meet_len {c d:List Int} (h:c.length=d.length):(meetL c d).length=c.length:=by unfold meetL;rw[List.length_zipWith];omega
theorem meet_is {ps:List Pr} (hv:validF ps=true) {c d:List Int} (hc:isF ps c=true) (hd:isF ps d=true):isF ps (meetL c d)=true:=by
 obtain⟨hcl,hcr,hcc⟩:=isF_iff.1 hc
 obtain⟨hdl,hdr,hdc⟩:=isF_iff.1 hd
 have hl:=meet_len (c:=c) (d:=d) (by omega)
 refine isF_iff.2 ⟨by omega,(inRange_iff (by omega)).2 fun p hp => ?_,closed_iff.2 fun p hp i hi hk hle => ?_⟩
 ·have h1:=(inRange_iff hcl).1 hcr p hp
  have h2:=(inRange_iff hdl).1 hdr p hp
  rw[meet_cAt (by omega) (by omega)]
  split <;> omega
 ·obtain⟨hq,j,hj,h1,_,_⟩:=recv_peer (valid_parts hv).2.2 hp hi hk
  rw[meet_cAt (by omega) (by omega)] at hle
  have g1:=closed_iff.1 hcc p hp i hi hk
  have g2:=closed_iff.1 hdc p hp i hi hk
  rw[h1] at g1 g2 ⊢
  simp only at g1 g2 ⊢
  generalize ps[p].evs[i].peer.toNat=q at *
  rw[meet_cAt (by omega) (by omega)]
  split at hle <;> split <;> omega
theorem leq_iff_at {a b:List Int} : leqF a b=true↔a.length=b.length∧∀p:Nat,p<a.length→cAt a p≤cAt b p:=leqF_iff
theorem leq_refl (a:List Int):leqF a a=true:=leq_iff_at.2 ⟨rfl,fun _ _=>Int.le_refl _⟩
theorem leq_sum:∀ {a b:List Int},leqF a b=true→a.sum≤b.sum∧(a.sum=b.sum→a=b)
 | [],[],_=>⟨Int.le_refl _,fun _=>rfl⟩
 | [],_ :: _,h=>by have:=(leqF_iff.1 h).1;simp at this
 | _ :: _,[],h=>by have:=(leqF_iff.1 h).1;simp at this
 | x :: a,y :: b,h=>by
  obtain⟨h1,h2⟩:=leqF_iff.1 h
  have h0:x≤y:=by simpa using h2 0 (by simp)
  obtain⟨i1,i2⟩:=leq_sum (a:=a) (b:=b) (leqF_iff.2 ⟨by simpa using h1,fun i hi=>by have:=h2 (i+1) (by simpa using hi);simpa using this⟩)
  rw[List.sum_cons,List.sum_cons]
  refine⟨by omega,fun h => ?_⟩
  rw[i2 (by omega),show x=y by omega]
section
variable {A:List (List Int)} (hA:A.Pairwise ordL)
include hA
end
theorem leq_anti {a b:List Int} (h:leqF a b=true) (g:leqF b a=true):a=b:=by
 obtain⟨h1,h2⟩:=leq_sum h
 exact h2 (by have:=(leq_sum g).1;omega)
theorem meet_leq {m a b:List Int} (ha:leqF m a=true) (hb:leqF m b=true):leqF m (meetL a b)=true:=by
 obtain⟨l1,h1⟩:=leq_iff_at.1 ha
 obtain⟨l2,h2⟩:=leq_iff_at.1 hb
 have hl:=meet_len (c:=a) (d:=b) (by omega)
 refine leq_iff_at.2 ⟨by omega,fun p hp => ?_⟩
 rw[meet_cAt (by omega) (by omega)]
 have:=h1 p hp
 have:=h2 p hp
 split <;> omega
theorem meet_left {a b:List Int} (h:a.length=b.length):leqF (meetL a b) a=true∧leqF (meetL a b) b=true:=by
 have hl:=meet_len (c:=a) (d:=b) h
 refine⟨leq_iff_at.2 ⟨by omega,fun p hp => ?_⟩,leq_iff_at.2 ⟨by omega,fun p hp => ?_⟩⟩
 ·rw[meet_cAt h (by omega)];split <;> omega
 ·rw[meet_cAt h (by omega)];split <;> omega
theorem join_left {a b:List Int} (h:a.length=b.length):leqF a (joinL a b)=true∧leqF b (joinL a b)=true:=by
 have hl:=join_len (c:=a) (d:=b) h
 refine⟨leq_iff_at.2 ⟨by omega,fun p hp => ?_⟩,leq_iff_at.2 ⟨by omega,fun p hp => ?_⟩⟩
 ·rw[join_cAt h (by omega)];split <;> omega
 ·rw[join_cAt h (by omega)];split <;> omega
theorem fold_meet {m:List Int} : ∀ {l:List (List Int)} {c:List Int},leqF m c=true→(∀y ∈ l,leqF m y=true)→(c=m∨m ∈ l)→l.foldl meetL c=m
 | [],c,_,_,h=>by
  rcases h with h|h
  ·exact h
  ·cases h
 | y :: l,c,hc,hl,h=>by
  have hy:=hl y (by simp)
  have hlen:c.length=y.length:=by have:=(leq_iff_at.1 hc).1;have:=(leq_iff_at.1 hy).1;omega
  have hm:=meet_leq hc hy
  obtain⟨g1,g2⟩:=meet_left hlen
  refine fold_meet (l:=l) hm (fun z hz=>hl z (List.mem_cons_of_mem _ hz)) ?_
  rcases h with h|h
  ·subst h;exact .inl (leq_anti g1 hm)
  ·rcases List.mem_cons.1 h with h|h
   ·subst h;exact .inl (leq_anti g2 hm)
   ·exact .inr h
def conj2 (a b:Pd):Pd:=.mk 16 0 0 0 ByteArray.empty [a,b]
def conjR (t:Pd) (r:List Pd):Pd:=r.foldl conj2 t
theorem truF_conj2 (o:Obs) (a b:Pd):truF o (conj2 a b)=(truF o a && truF o b):=by
 unfold conj2
 rw[truF_mk]
 rfl
theorem truF_conjR (o:Obs):∀(r:List Pd) (t:Pd),truF o (conjR t r)=(truF o t && r.all (truF o))
 | [],t=>by show truF o t=_;simp
 | x :: r,t=>by
  show truF o (conjR (conj2 t x) r)=_
  rw[truF_conjR o r,truF_conj2,List.all_cons,Bool.and_assoc]
theorem allB_conj2 {f:Pd→Bool} (hf:∀a b,f (conj2 a b)=true) {a b:Pd} (ha:allB f a=true) (hb:allB f b=true):allB f (conj2 a b)=true:=by
 have:=hf a b
 unfold conj2 at *
 rw[allB_mk,this]
 simp [ha,hb]
theorem allB_conjR {f:Pd→Bool} (hf:∀a b,f (conj2 a b)=true):∀(r:List Pd) (t:Pd),allB f t=true→(∀x ∈ r,allB f x=true)→allB f (conjR t r)=true
 | [],_,ht,_=>ht
 | x :: r,t,ht,hr=>allB_conjR hf r (conj2 t x) (allB_conj2 hf ht (hr x (by simp))) fun y hy=>hr y (List.mem_cons_of_mem _ hy)
theorem szF_conj2 (a b:Pd):szF (conj2 a b)=szF a+szF b+1:=by
 unfold conj2
 rw[szF,szL,szL,szL];omega
theorem szF_conjR {m:Nat} : ∀(r:List Pd) (t:Pd),(∀x ∈ r,szF x≤m)→szF (conjR t r)≤szF t+r.length * (m+1)
 | [],t,_=>by show szF t≤_;omega
 | x :: r,t,h=>by
  have h1:=szF_conjR r (conj2 t x) fun y hy=>h y (List.mem_cons_of_mem _ hy)
  have h2:=h x (by simp)
  rw[szF_conj2] at h1
  show szF (conjR (conj2 t x) r)≤_
  rw[List.length_cons,Nat.add_mul]
  omega
theorem lcl_nch {p:Int} (t:Pd):allB (lclB p) t=true→allB nchB t=true:=by
 induction t using Pd.ind with
 | _ k n q q' s l ih =>
  intro h
  obtain⟨h1,h2⟩:=allB_sub h
  rw[allB_mk,Bool.and_eq_true,List.all_eq_true]
  refine⟨?_,fun x hx=>ih x hx (h2 x hx)⟩
  unfold nchB
  refine decide_eq_true fun h4 => ?_
  rw[lcl_mk,if_pos (.inl h4)] at h1
  cases h1
theorem lcl_cut {ps:List Pr} {p:Nat} (hp:p<ps.length) {t:Pd} (hok:okT ps t=true) (h9:9≤t.kind) (hl:allB (lclB p) t=true) {c:List Int} (hc:c.length=ps.length):truF (cutO ps c fun _ _=>0) t=lclT ps p t (cAt c p):=by
 unfold lclT stO
 refine truF_congr t hok h9 (AllP_of_allB (f:=lclB p) (fun x hx => ?_) t hl)
 obtain⟨k,n,q,q',s,l⟩:=x
 rw[lcl_mk] at hx
 have h1:(stC ps.length p (cAt c p)).getD p 0=c.getD p 0:=by
  rw[stC_get hp,cAt_nat (by omega),List.getD_eq_getElem?_getD,List.getElem?_eq_getElem (by omega),Option.getD_some]
 have hq:(k=2∨k=3)→q=p:=fun h=>by
  rw[if_neg (by omega),if_pos h] at hx
  exact of_decide_eq_true hx
 refine⟨fun h => ?_,fun h => ?_,fun h=>rfl⟩
 ·have:=hq (.inl h)
  subst this
  unfold cutO
  simp only[Int.toNat_natCast,h1]
 ·have:=hq (.inr h)
  subst this
  unfold cutO
  simp only[Int.toNat_natCast,h1]
theorem conj_sat {ps:List Pr} {t:Pd} {r:List Pd} (hC:conF ps (t :: r)=0) {c:List Int} (hc:isF ps c=true):truF (cutO ps c fun _ _=>0) (conjR t r)=satG ps (elimOf ps (t :: r)) c:=by
 obtain⟨_,hl,hlc⟩:=conF_inv hC
 have hcl:=(isF_iff.1 hc).1
 have hcr:=(inRange_iff hcl).1 (isF_iff.1 hc).2.1
 have e:(truF (cutO ps c fun _ _=>0) t && r.all (truF (cutO ps c fun _ _=>0)))=(t :: r).all (truF (cutO ps c fun _ _=>0)):=by rw[List.all_cons]
 rw[truF_conjR,e,Bool.eq_iff_iff,List.all_eq_true,satG_iff]
 generalize t :: r=ts at *
 have key:∀p (hp:p<ts.length),truF (cutO ps c fun _ _=>0) ts[p]=(elimOf ps ts).ok p (cAt c p).toNat:=fun p hp=>by
  obtain⟨g1,_,_,_,g5,g6⟩:=lcl_ok (hlc p hp)
  have h0:=(hcr p (by omega)).1
  rw[lcl_cut (by omega) (checkF_zero g1).2.2.1 g5 g6 hcl]
  show _=(match ts[p]? with|some t=>lclT ps p t _|none=>true)
  rw[List.getElem?_eq_getElem hp]
  show _=lclT ps p ts[p] (((cAt c p).toNat:Nat):Int)
  rw[Int.toNat_of_nonneg h0]
 constructor
 ·intro h
  exact⟨hcl,(isF_iff.1 hc).2.1,(isF_iff.1 hc).2.2,fun p hp=>by rw[← key p (by omega)];exact h _ (List.getElem_mem _)⟩
 ·intro h x hx
  obtain⟨p,hp,rfl⟩:=List.getElem_of_mem hx
  rw[key p hp]
  exact h.ok p (by omega)
noncomputable def whE (ps:List Pr) (t:Pd):Int:=if checkF ps t ≠ 0 then checkF ps t else if resF t.kind ≠ 2 then 14 else if allB ntmB t=false then 15 else lstE ps
noncomputable def whF (ps:List Pr) (t:Pd):List (List Int):=(cutsF ps).filter fun c=>truF (cutO ps c fun _ _=>0) t
theorem whE_zero {ps:List Pr} {t:Pd} (h:whE ps t=0):checkF ps t=0∧9≤t.kind∧allB ntmB t=true∧lstE ps=0:=by
 unfold whE at h
 split at h
 ·rename_i h2;exact absurd h h2
 ·rename_i h2
  split at h
  ·cases h
  ·rename_i h4
   split at h
   ·cases h
   ·rename_i h5
    refine⟨by simpa using h2,?_,by simpa using h5,h⟩
    have:resF t.kind=2:=by simpa using h4
    unfold resF at this
    split at this <;> omega
theorem wh_sat {ps:List Pr} {t:Pd} {r:List Pd} (hC:conF ps (t :: r)=0):whF ps (conjR t r)=(cutsF ps).filter (satG ps (elimOf ps (t :: r))):=by
 have hv:=(conF_inv hC).1
 unfold whF
 exact List.filter_congr fun c hc=>conj_sat hC ((mem_cutsF hv).1 hc)
end Go.AL
end
