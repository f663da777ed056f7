/- Texts of this claim's proof: WMc, WMd, AlGrd, WSs, WSp, WCp, WCk, WEx, WRr, WEy, WPq, WNa, WNb, WTm, WDx, WPu, WNc, WV31, WV36, WV37, WCh2, WV1, WSq. No condition. -/
import Derived.Test.YtbegiibjiidkmaaGreatDoorM16
import Derived.Test.YtbegiibjiidkmaaGreatDoorM4
import Derived.Test.YtbegiibjiidkmaaGreatDoorM13
import Derived.Test.YtbegiibjiidkmaaGreatDoorM14
import Derived.Test.YtbegiibjiidkmaaGreatDoorM10
import Derived.Test.YtbegiibjiidkmaaGreatDoorM7
import Derived.Test.YtbegiibjiidkmaaGreatDoorM15
import Derived.Test.YtbegiibjiidkmaaGreatDoorM12
section
namespace Go.AL
open Go Go.RowKit Proofs.Tryz
set_option maxRecDepth 4000
def GrowS (n:Nat)(r:AV)(L:AHeap):Prop:=(n=0/\r=anil/\L=[])\/∃b cap,n<=cap/\r = .ls b 1 0 0 cap/\L=[(b,.row 95 1 (List.replicate n anil) cap)]
theorem rows_grow (n:Nat)(hn:n<=1000000):MCalls prog 167 [anil,ai (n:Nat)] [] (GrowS n):=by
 refine MCalls.enter' 27 [.tmp 4] [] func167 rfl rfl rfl rfl rfl (by simp) (AWp.of ?_);simp only[go_sem]
 refine Wk ?_
 intro _
 refine Wk ?_
 refine Wk ?_
 constructor<;>intro h1
 ·refine Wk ?_
  intro b cap hc
  refine Wk ?_
  refine ret_own ?_
  simp only[go_sem]
  have e:((n:Int) - (((0:Nat):Int) - ((0:Nat):Int))).toNat=n:=by omega
  rw[e]
  exact .inr ⟨b,cap,by omega,by simp,rfl⟩
 ·have:n=0:=by omega
  refine Wk ?_
  refine ret_own ?_
  simp only[go_sem]
  exact .inl ⟨this,rfl,rfl⟩
def CatS (ls:List (List (List Int)))(k:Nat)(v:AV)(L:AHeap):Prop :=
 (ls.flatten=[]/\v=anil/\L=[])\/∃b cap xs,v = .ls b 1 0 (ls.take k).flatten.length cap/\L=[(b,.row 95 1 xs cap)]/\(ls.take k).flatten.length<=xs.length/\xs.take (ls.take k).flatten.length=(ls.take k).flatten.map aInts
theorem flat_succ {ls:List (List (List Int))}{k:Nat}(hk:k<ls.length):(ls.take (k+1)).flatten=(ls.take k).flatten ++ ls[k]:=by
 rw[List.take_succ_eq_append_getElem hk,List.flatten_append];simp
theorem flat_le {ls:List (List (List Int))}(k:Nat):(ls.take k).flatten.length<=ls.flatten.length:=by
 conv=>rhs;rw[<- List.take_append_drop k ls,List.flatten_append,List.length_append]
 omega
theorem rows_concat (ls:List (List (List Int)))(hl:ls.length<=100000000)(hf:ls.flatten.length<=1000000) :
  MCalls prog 121 [.sl 1 (ls.map aRows)] [] fun r L=>CatS ls ls.length r L:=by
 have hR:∀x:List (List Int),aRows x = .sl 1 (x.map aInts):=fun _=>rfl
 refine MCalls.enter' 36 [.tmp 2] [] func121 rfl rfl rfl rfl rfl (by simp) (AWp.of ?_);simp only[go_sem]
 refine Wk ?_
 refine AWp.range' ls.length [3] [0,9,10] (fun k vs L=>L=[]/\vs=[ai ((ls.take k).flatten.length:Nat)]) (by omega) rfl rfl rfl ⟨rfl,by rw[List.take_zero];rfl⟩ ?_ ?_
 ·rintro k vs L hk - ⟨rfl,rfl⟩
  have h1:=flat_le (ls:=ls) k
  have h2:=flat_le (ls:=ls) (k+1)
  have h3:=congrArg List.length (flat_succ hk)
  rw[List.length_append] at h3
  have hg:=getD_map (f:=aRows) hk
  simp only[go_sem]
  refine W2 hg hR ?_
  intro _
  refine Wk ?_
  exact⟨_,.refl _,rfl,by rw[h3];simp⟩
 ·rintro vs L - ⟨rfl,rfl⟩
  rw[List.take_length]
  simp only[go_sem]
  refine Wk ?_
  refine(rows_grow _ hf).val.mono ?_
  intro r L hr
  have hI:CatS ls 0 r L:=by
   rcases hr with ⟨h0,rfl,rfl⟩|⟨b,cap,hc,rfl,rfl⟩
   ·exact .inl ⟨List.eq_nil_of_length_eq_zero h0,rfl,rfl⟩
   ·exact .inr ⟨b,cap,_,by simp,rfl,by simp,by simp⟩
  clear hr
  have hfo:fo r=(True,r):=by rcases hI with ⟨_,rfl,_⟩|⟨b,cap,xs,rfl,_⟩ <;> rfl
  simp only[go_sem,hfo]
  refine W1 hfo ?_
  refine AWp.range' ls.length [6] [25,26] (fun k vs L=>∃v,vs=[v]/\CatS ls k v L) (by omega) rfl rfl rfl ⟨_,rfl,hI⟩ ?_ ?_
  ·clear hI
   rintro k vs L hk - ⟨v,rfl,hC⟩
   have h2:=flat_le (ls:=ls) (k+1)
   have hs:=flat_succ hk
   have h3:=congrArg List.length hs
   rw[List.length_append] at h3
   have hg:=getD_map (f:=aRows) hk
   have hll:(ls[k].map aInts).length=ls[k].length:=List.length_map _
   rcases hC with ⟨h0,rfl,rfl⟩|⟨b,cap,xs,rfl,rfl,hx,ht⟩
   ·have he:ls[k].map aInts=[]:=by
     rw[List.flatten_eq_nil_iff.1 h0 _ (List.getElem_mem hk)];rfl
    simp only[go_sem]
    refine W3 hg hR he ?_
    exact⟨_,.refl _,_,rfl,.inl ⟨h0,rfl,rfl⟩⟩
   ·have hy:(ls.take (k+1)).flatten.map aInts=(ls.take k).flatten.map aInts ++ ls[k].map aInts:=by rw[hs,List.map_append]
    unfold CatS
    rw[hy,h3,<- ht]
    simp only[go_sem]
    refine W2 hg hR ?_
    intro b' cap' hc
    refine⟨_,.refl _,_,rfl,.inr ⟨b',cap',_,rfl,rfl,?_,?_⟩⟩
    ·rw[List.length_append,List.length_take];omega
    ·rw[List.take_of_length_le (by rw[List.length_append,List.length_take];omega)]
  ·clear hI
   rintro vs L - ⟨v,rfl,hC⟩
   have hfo:fo v=(True,v):=by rcases hC with ⟨_,rfl,_⟩|⟨b,cap,xs,rfl,_⟩ <;> rfl
   simp only[go_sem,hfo]
   refine W1 hfo ?_
   refine ret_own ?_
   simp only[go_sem,hfo]
   exact hC
noncomputable def lstE (ps:List Pr):Int:=if validF ps=true then (if (cutsF ps).length<=5000 then 0 else 16) else 1
noncomputable def lvOf (ps:List Pr):List (List (List Int)):=if lstE ps=0 then (List.range (nlev ps)).map (levF ps) else []
noncomputable def lstF (ps:List Pr):List (List Int):=if lstE ps=0 then cutsF ps else []
noncomputable def aLst (ps:List Pr):AV:=.tup [aRows (lstF ps),ai (lstE ps)]
theorem lst_zero {ps:List Pr} : lstE ps=0↔validF ps=true/\(cutsF ps).length<=5000:=by
 unfold lstE
 split
 ·split <;> simp_all
 ·simp_all
theorem aLvs_eq (ps:List Pr):aLvs ps = .tup [.sl 1 ((lvOf ps).map aRows),ai (lstE ps)]:=by
 unfold aLvs lvOf lvsF
 by_cases hv:validF ps=true
 ·by_cases h5:(cutsF ps).length<=5000
  ·rw[if_pos hv,if_pos h5,if_pos (lst_zero.2 ⟨hv,h5⟩)]
   unfold lstE
   rw[if_pos hv,if_pos h5,List.map_map];rfl
  ·rw[if_pos hv,if_neg h5,if_neg fun h=>h5 (lst_zero.1 h).2]
   unfold lstE
   rw[if_pos hv,if_neg h5];rfl
 ·rw[if_neg hv,if_neg fun h=>hv (lst_zero.1 h).1]
  unfold lstE
  rw[if_neg hv];rfl
theorem lev_nlev {ps:List Pr}(hv:validF ps=true):levF ps (nlev ps)=[]:=by
 have h1:(levF ps (off ps ps.length+1)).isEmpty=true:=by rw[levF_end hv (by omega)];rfl
 have:nlev ps<off ps ps.length+2:=by
  unfold nlev
  have:=List.findIdx_lt_length_of_exists (p:=fun k=>(levF ps k).isEmpty) (xs:=List.range (off ps ps.length+2)) ⟨off ps ps.length+1,by simp,h1⟩
  rwa [List.length_range] at this
 exact List.isEmpty_iff.1 (range_findIdx (fun k=>(levF ps k).isEmpty) _ this)
theorem nlev_le {ps:List Pr} : nlev ps<=off ps ps.length+2:=by
 have:=List.findIdx_le_length (p:=fun k=>(levF ps k).isEmpty) (xs:=List.range (off ps ps.length+2))
 rwa [List.length_range] at this
theorem cum_nlev {ps:List Pr}(hv:validF ps=true):cumF ps (nlev ps)=cutsF ps:=by
 have h:=cumF_end (lev_nlev hv)
 unfold cutsF
 rcases Nat.lt_or_ge (off ps ps.length+1) (nlev ps) with h1|h1
 ·have h2:=cumF_end (levF_end hv (show off ps ps.length<off ps ps.length+1 by omega)) (nlev ps - (off ps ps.length+1))
  rw[show off ps ps.length+1+(nlev ps - (off ps ps.length+1))=nlev ps by omega] at h2
  exact h2
 ·have:=h (off ps ps.length+1 - nlev ps)
  rw[show nlev ps+(off ps ps.length+1 - nlev ps)=off ps ps.length+1 by omega] at this
  exact this.symm
theorem lv_flat (ps:List Pr):(lvOf ps).flatten=lstF ps:=by
 unfold lvOf lstF
 split
 ·rename_i h
  rw[<- cum_nlev (lst_zero.1 h).1]
  unfold cumF
  rw[List.flatMap_def]
 ·rfl
theorem lst_len (ps:List Pr):(lstF ps).length<=5000:=by
 unfold lstF
 split
 ·rename_i h;exact(lst_zero.1 h).2
 ·exact Nat.zero_le _
theorem lv_len {ps:List Pr}(hs:Sm ps):(lvOf ps).length<=10000002:=by
 unfold lvOf
 split
 ·rename_i h
  have:=(valid_len (lst_zero.1 h).1).2
  rw[List.length_map,List.length_range]
  have:=nlev_le (ps:=ps)
  have:=off_small hs ps.length (Nat.le_refl _)
  omega
 ·exact Nat.zero_le _
theorem cuts_levels' (ps:List Pr)(hs:Sm ps):PC prog 120 [aTr ps] (.tup [.sl 1 ((lvOf ps).map aRows),ai (lstE ps)]):=by
 rw[<- aLvs_eq];exact cuts_levels ps hs
theorem Vw.pre {L:AHeap}{b k n c:Nat}{t:TypeId}{xs ys:List AV}{cap:Nat}(h:lk L b=some (.row t k xs cap))(hn:n<=xs.length)(ht:xs.take n=ys):Vw L (.ls b k 0 n c) (.sl k ys) :=
 .ls h (by omega) (by rw[List.drop_zero,ht]) (by rw[List.drop_zero,ht];exact(Vws.refl ys).2)
theorem cuts_list (ps:List Pr)(hs:Sm ps):PC prog 73 [aTr ps] (aLst ps):=by
 have h1:=cuts_levels' ps hs
 have hf:(lvOf ps).flatten.length<=1000000:=by rw[lv_flat];have:=lst_len ps;omega
 have h2:=rows_concat (lvOf ps) (by have:=lv_len hs;omega) hf
 have hR:∀x:List (List Int),aRows x = .sl 1 (x.map aInts):=fun _=>rfl
 have hfl:=lv_flat ps
 unfold aLst
 rw[<- hfl,hR]
 generalize lvOf ps=ls at *
 generalize lstE ps=e at *
 refine PE 14 [.tmp 2,.tmp 3] [1] func73 ?_;simp only[go_sem]
 refine Wk ?_
 refine Sd ?_
 refine Vu h1 ?_
 refine Wk ?_
 refine h2.val.mono ?_
 intro r L hC
 unfold CatS at hC
 rw[List.take_length] at hC
 rcases hC with ⟨h0,rfl,rfl⟩|⟨b,cap,xs,rfl,rfl,hx,ht⟩
 ·simp only[go_sem]
  refine Wk ?_
  refine ret_view [] ?_;simp only[go_sem]
  rw[h0]
  exact .mkTup (Vws.cons (.nil 1) (Vws.refl _))
 ·simp only[go_sem]
  refine Wk ?_
  refine ret_view [true] ?_;simp only[go_sem]
  exact .mkTup (Vws.cons (Vw.pre (if_pos rfl) hx ht) (Vws.refl _))
theorem cuts_List (ps:List Pr)(hs:Sm ps):PC prog 34 [aTr ps] (aLst ps):=by
 have h1:=cuts_list ps hs
 unfold aLst at *
 refine PE 8 [.tmp 2,.tmp 3] [1] func34 ?_;simp only[go_sem]
 refine Wk ?_
 refine Sd ?_
 refine Vu h1 ?_
 refine Wk ?_
 exact Rz
def fullC (ps:List Pr):List Int:=ps.map fun x=>(x.evs.length:Int)
theorem fullC_at {ps:List Pr}{p:Nat}(hp:p<ps.length):cAt (fullC ps) p=ps[p].evs.length:=by
 unfold fullC
 rw[cAt_nat (by rw[List.length_map];exact hp),List.getElem_map]
theorem fullC_is {ps:List Pr}(hv:validF ps=true):isF ps (fullC ps)=true:=by
 have hl:(fullC ps).length=ps.length:=List.length_map _
 refine isF_iff.2 ⟨hl,(inRange_iff hl).2 fun p hp=>?_,closed_iff.2 fun p hp i hi hk _=>?_⟩
 ·rw[fullC_at hp];omega
 ·obtain⟨s,hs,j,hj,e,_,_⟩:=sndr_some (recv_sndr (valid_parts hv).2.2 hp hi hk)
  rw[e]
  simp only
  rw[fullC_at hs];omega
theorem fullC_sum (ps:List Pr):(fullC ps).sum=off ps ps.length:=by
 unfold fullC off
 rw[List.take_length]
 induction ps with
 | nil=>rfl
 | cons x ps ih=>rw[List.map_cons,List.sum_cons,ih,List.map_cons,List.sum_cons];omega
end Go.AL
end
section
namespace Go.AL
open Go Go.RowKit Proofs.Tryz
def astepF (C:Cfg)(all:List Oper)(o:Oper)(ρ:Env)(L:AHeap)(K:ARes):Prop :=
 match o.guard with
 | none=>aop C o ρ L K
 | some (j,want)=>match gval all ρ j want with
  | some b=>(b=want->aop C o ρ L K)/\(b ≠ want->K (put ρ o.dst .any) L)
  | none=>False
def aregionF (C:Cfg)(all:List Oper):List Oper->Env->AHeap->ARes->Prop
 | [],ρ,L,K=>K ρ L
 | o :: rest,ρ,L,K=>astepF C all o ρ L fun ρ L=>aregionF C all rest ρ L K
def aregFK (C:Cfg)(all rest:List Oper)(K:ARes)(ρ:Env)(L:AHeap):Prop:=aregionF C all rest ρ L K
theorem aregionF_nil (C:Cfg)(all:List Oper)(ρ:Env)(L:AHeap)(K:ARes):aregionF C all [] ρ L K=K ρ L:=rfl
theorem aregionF_cons (C:Cfg)(all rest:List Oper)(o:Oper)(ρ:Env)(L:AHeap)(K:ARes):aregionF C all (o :: rest) ρ L K=astepF C all o ρ L (aregFK C all rest K):=rfl
theorem astepF_sound {C:Cfg}{ops:Array Oper}{i:Nat}{o:Oper}{ρ:Env}{L:AHeap}{K:ARes}(hi:ops[i]?=some o)(hok:operOk C.N o=true)(h:astepF C ops.toList o ρ L K):GOp C ops i ρ L K:=by
 have hd:=operOk_dst hok
 have hdef:=operOk_def hok
 unfold astepF at h
 split at h
 ·rename_i hg;exact AOp.gop hi hg (aop_sound hd hdef h)
 ·rename_i j want hg
  split at h
  ·rename_i b hv
   exact GOp.of_guard' hi hg hv hd (fun hb=>aop_sound hd hdef (h.1 hb)) h.2
  ·exact h.elim
theorem aregionF_sound {C:Cfg}{ops:Array Oper}{K:ARes}{n:Nat}{w0:World}{M A0:Foot}{Q:Exit->Act->World->Prop}(hQ:∀a w,post w0 M A0 C.N K a w->Q .normal a w)(hok:ops.toList.all (operOk C.N)=true) :
  ∀(l:List Oper) (k:Nat),(∀j,l[j]?=ops[k+j]?)->∀(ρ:Env) (L:AHeap) (a:Act) (w:World),aregionF C ops.toList l ρ L K->St w0 M A0 C.N ρ L a w->wpOpsIn (Fw C.r) n C.P ops Q (List.range' k l.length) a w
 | [],k,_,ρ,L,a,w,h,hs=>hQ a w ⟨ρ,L,h,hs⟩
 | o :: l,k,hl,ρ,L,a,w,h,hs=>by
  have h0:ops[k]?=some o:=by simpa using (hl 0).symm
  have ho:operOk C.N o=true:=List.all_eq_true.1 hok o (List.mem_of_getElem? (by simpa using h0))
  rw[List.length_cons,List.range'_succ,wpOpsIn_cons]
  refine wpOpIn_mono ?_ (astepF_sound h0 ho h n w0 M A0 a w Q hs)
  rintro a' w' ⟨ρ',L',h1,h2⟩
  exact aregionF_sound hQ hok l (k+1) (fun j=>by have:=hl (j+1);simpa [Nat.add_assoc,Nat.add_comm 1 j] using this) ρ' L' a' w' h1 h2
theorem AWp.regionF {C:Cfg}{id:Nat}{ops:Array Oper}{Q:AQ}{ρ:Env}{L:AHeap}(h:aregionF C ops.toList ops.toList ρ L (Q .normal)):AWp C (.region id ops false) Q ρ L:=fun hok n w0 M A0 a w hs=>by
 refine wpIn_region ?_
 have:=aregionF_sound (C:=C) (ops:=ops) (K:=Q .normal) (n:=n) (Q:=cq C w0 M A0 Q) (fun a w ⟨ρ',L',h1,h2⟩=>⟨ρ',L',h1,h2⟩) hok ops.toList 0 (by simp) ρ L a w h hs
 rwa [Array.length_toList,<- List.range_eq_range'] at this
attribute [go_sem] aregionF_nil aregionF_cons astepF aregFK
end Go.AL
end
section
namespace Go.AL
open Go Go.RowKit Proofs.Tryz
set_option maxRecDepth 4000
section
variable {ps:List Pr} {ts:List Pd}
end
def leqF (a b:List Int):Bool:=decide (a.length=b.length) && (List.range a.length).all fun i=>decide (a.getD i 0<=b.getD i 0)
theorem leqF_iff {a b:List Int} : leqF a b=true↔a.length=b.length/\∀i,i<a.length->a.getD i 0<=b.getD i 0:=by
 unfold leqF
 rw[Bool.and_eq_true,List.all_eq_true,decide_eq_true_eq]
 exact⟨fun h=>⟨h.1,fun i hi=>of_decide_eq_true (h.2 i (List.mem_range.2 hi))⟩,fun h=>⟨h.1,fun i hi=>decide_eq_true (h.2 i (List.mem_range.1 hi))⟩⟩
section
variable {ps:List Pr} {c:List Int}
variable {j:List Int} {ch:Int->Int->Int}
end
section
variable {ps:List Pr} {c:List Int}
end
def ordL (a b:List Int):Prop:=a.sum<b.sum\/(a.sum=b.sum/\cmpL a b<0)
theorem isF_given {ps:List Pr}(hv:validF ps=true){c:List Int} : givenF ps [c] []=0↔isF ps c=true:=by
 rw[givenL,isF_iff];simp [hv,and_assoc]
theorem leq_iff_at {a b:List Int} : leqF a b=true↔a.length=b.length/\∀p:Nat,p<a.length->cAt a p<=cAt b p:=leqF_iff
theorem leq_sum:∀ {a b:List Int},leqF a b=true->a.sum<=b.sum/\(a.sum=b.sum->a=b)
 | [],[],_=>⟨Int.le_refl _,fun _=>rfl⟩
 | [],_ :: _,h=>by have:=(leqF_iff.1 h).1;simp at this
 | _ :: _,[],h=>by have:=(leqF_iff.1 h).1;simp at this
 | x :: a,y :: b,h=>by
  obtain⟨h1,h2⟩:=leqF_iff.1 h
  have h0:x<=y:=by simpa using h2 0 (by simp)
  obtain⟨i1,i2⟩:=leq_sum (a:=a) (b:=b) (leqF_iff.2 ⟨by simpa using h1,fun i hi=>by have:=h2 (i+1) (by simpa using hi);simpa using this⟩)
  rw[List.sum_cons,List.sum_cons]
  refine⟨by omega,fun h=>?_⟩
  rw[i2 (by omega),show x=y by omega]
section
variable {A:List (List Int)} (hA:A.Pairwise ordL)
include hA
end
noncomputable def whE (ps:List Pr)(t:Pd):Int:=if checkF ps t ≠ 0 then checkF ps t else if resF t.kind ≠ 2 then 14 else if allB ntmB t=false then 15 else lstE ps
theorem whE_zero {ps:List Pr}{t:Pd}(h:whE ps t=0):checkF ps t=0/\9<=t.kind/\allB ntmB t=true/\lstE ps=0:=by
 unfold whE at h
 split at h
 ·rename_i h2;exact absurd h h2
 ·rename_i h2
  split at h
  ·cases h
  ·rename_i h4
   split at h
   ·cases h
   ·rename_i h5
    refine⟨by simpa using h2,?_,by simpa using h5,h⟩
    have:resF t.kind=2:=by simpa using h4
    unfold resF at this
    split at this <;> omega
theorem wh_truthG {ps:List Pr}(hs:Sm ps){t:Pd}(hz:szF t<=1000000)(o:List Int->Obs)(hE:whE ps t=0){c:List Int}(hc:isF ps c=true)(hl:AllP (leafOk ps c (valuesAt ps c) (o c)) t/\AllP (obsB ps (o c)) t) :
  PC prog 117 [aTr ps,aInts c] (.tup [.sl 1 ((valuesAt ps c).map aInts),ai 0])/\PC prog 118 [aView ps c (valuesAt ps c),aPd t] (ab (truF (o c) t)):=by
 obtain⟨g1,g3,g4,g5⟩:=whE_zero hE
 obtain⟨hv,g7,g8,g9⟩:=checkF_zero g1
 have hcl:=(isF_iff.1 hc).1
 have h8:=(valid_len hv).2
 have hg:=(isF_given hv).2 hc
 have h2:=variable_At ps hs c (by omega)
 unfold aAt at h2
 rw[hg,if_neg (by decide)] at h2
 exact⟨h2,view_truth ps c _ _ (by omega) t hz g8 g3 g9 g4 hl.2 hl.1⟩
theorem evaluate_allG (ps:List Pr)(hs:Sm ps)(t:Pd)(hz:szF t<=1000000)(o:List Int->Obs)(hlf:∀c,isF ps c=true->AllP (leafOk ps c (valuesAt ps c) (o c)) t/\AllP (obsB ps (o c)) t)(hE:whE ps t=0) :
  PC prog 69 [aTr ps,aPd t] (.tup [aRows (cutsF ps),.sl 1 ((cutsF ps).map fun c=>ab (truF (o c) t)),ai 0]):=by
 obtain⟨g1,g3,g4,g5⟩:=whE_zero hE
 obtain⟨hv,h5⟩:=lst_zero.1 g5
 have h1:=predtype_Check ps hs t hz
 rw[g1] at h1
 have hgt:=(checkF_zero g1).2.1
 have hgy:typedB t=true:=by
  have:=(checkF_zero g1).2.2.1
  unfold okT at this;simp only[Bool.and_eq_true] at this;exact this.2
 have h2:=evaluate_typed t hz hgt hgy 2
 have hr:resF t.kind=2:=by unfold resF;split <;> omega
 rw[if_pos hr] at h2
 have h3:=predtype_Temporal t hz
 rw[hgt,g4] at h3
 have h4:=cuts_List ps hs
 have hL:lstF ps=cutsF ps:=by unfold lstF;rw[if_pos g5]
 unfold aLst at h4
 rw[hL,g5] at h4
 have hw:=fun c hc=>wh_truthG hs hz o hE (c:=c) ((mem_cutsF hv).1 hc) (hlf c ((mem_cutsF hv).1 hc))
 have hcl:∀c ∈ cutsF ps,c.length=ps.length:=fun c hc=>(isF_iff.1 ((mem_cutsF hv).1 hc)).1
 have haR:∀x:List (List Int),aRows x = .sl 1 (x.map aInts):=fun _=>rfl
 have hTr:aTr ps = .agg [aPrs ps]:=rfl
 clear hr g1 g3 g4 hgt hgy hL hlf
 generalize cutsF ps=cs at *
 obtain⟨f,hf⟩:∃f:List Int->Bool,f=fun c=>truF (o c) t:=⟨_,rfl⟩
 have hfc:∀c,truF (o c) t=f c:=fun c=>by rw[hf]
 simp only[hfc] at hw ⊢
 clear hf hfc
 obtain⟨k,n,p,q,s,l⟩:=t
 unfold aView at hw
 simp only[aPd_mk] at *
 rw[haR] at *
 refine PE 64 [.tmp 4,.tmp 5,.tmp 6] [2,3,59] func69 ?_;simp only[go_sem]
 refine Wk ?_
 refine Sd ?_
 refine Vu h1 ?_
 refine Wk ?_
 refine Sd ?_
 refine Vu h2 ?_
 refine Wk ?_
 refine Sd ?_
 refine Vu h3 ?_
 refine Wk ?_
 refine Sd ?_
 refine Vu h4 ?_
 refine Wk ?_
 refine AWp.range' cs.length [11] [2,3,9,37,38] (fun k vs L=>∃v,vs=[v]/\AppSt 4 1 ((cs.take k).map fun c=>ab (f c)) v L) (by omega) rfl rfl rfl ⟨anil,rfl,.nil⟩ ?_ ?_
 ·rintro k vs L hk - ⟨v,rfl,hA⟩
  have hg:=getD_map (f:=aInts) hk
  obtain⟨w1,w2⟩:=hw _ (List.getElem_mem hk)
  have hst:((cs.take (k+1)).map fun c=>ab (f c))=((cs.take k).map fun c=>ab (f c)) ++ [ab (f cs[k])]:=by
   rw[List.take_succ_eq_append_getElem hk,List.map_append];rfl
  rw[hst]
  have hfo:=hA.fo
  clear hst hw
  generalize hys:((cs.take k).map fun c=>ab (f c))=ys at *
  generalize f cs[k]=b at *
  generalize cs[k]=c at *
  generalize valuesAt ps c=V at *
  have hyl:ys.length=k:=by rw[<- hys,List.length_map,List.length_take];omega
  clear hys
  rcases hA.inv with ⟨e1,rfl,rfl⟩|⟨b',cap,rfl,rfl⟩
  ·simp only[go_sem]
   refine W1 hg ?_
   refine Sd ?_
   refine Vu w1 ?_
   refine Wk ?_
   refine Sd ?_
   refine Vu w2 ?_
   refine Wk ?_
   intro b' cap' g8
   refine Wk ?_
   exact⟨_,.refl _,_,rfl,by rw[e1];exact .row _ _ _⟩
  ·simp only[go_sem]
   refine W1 hg ?_
   refine Sd ?_
   refine Vu w1 ?_
   refine Wk ?_
   refine Sd ?_
   refine Vu w2 ?_
   refine Wk ?_
   refine Sd ?_
   intro b' cap' g8
   refine Wk ?_
   exact⟨_,.refl _,_,rfl,AppSt.snoc _ _ _ rfl⟩
 ·rintro vs L - ⟨v,rfl,hA⟩
  rw[List.take_length] at hA
  generalize (cs.map fun c=>ab (f c))=ys at *
  rcases hA.inv with ⟨e1,rfl,rfl⟩|⟨b,cap,rfl,rfl⟩
  ·simp only[go_sem]
   refine Wk ?_
   refine ret_view [] ?_;simp only[go_sem]
   rw[e1]
   exact .mkTup (Vws.cons (.refl _) (Vws.cons (.nil 1) (Vws.refl _)))
  ·simp only[go_sem]
   refine Wk ?_
   refine ret_view [true] ?_;simp only[go_sem]
   exact .mkTup (Vws.cons (.refl _) (Vws.cons (Vw.ofLs (if_pos rfl) rfl) (Vws.refl _)))
theorem evaluate_all_bad (ps:List Pr)(hs:Sm ps)(t:Pd)(hz:szF t<=1000000)(hE:whE ps t ≠ 0) :
  PC prog 69 [aTr ps,aPd t] (.tup [.sl 1 [],.sl 1 [],ai (whE ps t)]):=by
 have h1:=predtype_Check ps hs t hz
 have h2:=fun a b=>evaluate_typed t hz a b 2
 have h2':checkF ps t=0->formedB t=true/\typedB t=true:=fun h=>⟨(checkF_zero h).2.1,by
  have:=(checkF_zero h).2.2.1
  unfold okT at this;simp only[Bool.and_eq_true] at this;exact this.2⟩
 have h3:=predtype_Temporal t hz
 have h4:=cuts_List ps hs
 unfold aLst at h4
 have hW:whE ps t=if checkF ps t ≠ 0 then checkF ps t else if resF t.kind ≠ 2 then 14 else if allB ntmB t=false then 15 else lstE ps:=rfl
 have haR:∀x:List (List Int),aRows x = .sl 1 (x.map aInts):=fun _=>rfl
 rw[haR] at h4
 generalize whE ps t=E at *
 generalize checkF ps t=e at *
 generalize formedB t=f at *
 generalize typedB t=y at *
 generalize resF t.kind=r at *
 generalize allB ntmB t=a at *
 generalize lstE ps=le at *
 generalize lstF ps=lf at *
 obtain⟨k,n,p,q,s,l⟩:=t
 simp only[aPd_mk] at *
 by_cases he:e=0
 ·subst he
  obtain⟨rfl,rfl⟩:=h2' rfl
  rw[if_neg (by decide)] at hW
  have h2:=h2 rfl rfl
  rw[Bool.true_and] at h3
  by_cases hr:r=2
  ·rw[if_pos hr] at h2
   rw[if_neg (by simpa using hr)] at hW
   cases a with
   | false =>
    rw[if_pos rfl] at hW
    subst hW
    refine PE 64 [.tmp 4,.tmp 5,.tmp 6] [2,3,59] func69 ?_;simp only[go_sem]
    refine Wk ?_
    refine Sd ?_
    refine Vu h1 ?_
    refine Wk ?_
    refine Sd ?_
    refine Vu h2 ?_
    refine Wk ?_
    refine Sd ?_
    refine Vu h3 ?_
    refine Wk ?_
    refine ret_view [] ?_;simp only[go_sem]
    exact .mkTup (Vws.cons (.nil 1) (Vws.cons (.nil 1) (Vws.refl _)))
   | true =>
    rw[if_neg (by decide)] at hW
    subst hW
    refine PE 64 [.tmp 4,.tmp 5,.tmp 6] [2,3,59] func69 ?_;simp only[go_sem]
    refine Wk ?_
    refine Sd ?_
    refine Vu h1 ?_
    refine Wk ?_
    refine Sd ?_
    refine Vu h2 ?_
    refine Wk ?_
    refine Sd ?_
    refine Vu h3 ?_
    refine Wk ?_
    refine Sd ?_
    refine Vu h4 ?_
    refine W1 hE ?_
    refine ret_view [] ?_;simp only[go_sem]
    exact .mkTup (Vws.cons (.nil 1) (Vws.cons (.nil 1) (Vws.refl _)))
  ·rw[if_neg hr] at h2
   rw[if_pos hr] at hW
   subst hW
   refine PE 64 [.tmp 4,.tmp 5,.tmp 6] [2,3,59] func69 ?_;simp only[go_sem]
   refine Wk ?_
   refine Sd ?_
   refine Vu h1 ?_
   refine Wk ?_
   refine Sd ?_
   refine Vu h2 ?_
   repeat(first|((with_reducible refine AWp.ofC ?_ ?_);exact rfl;simp only[go_sem,Int.reduceEq])|((with_reducible refine an ?_ ?_);exact Au))
   refine ret_view [] ?_;simp only[go_sem]
   exact .mkTup (Vws.cons (.nil 1) (Vws.cons (.nil 1) (Vws.refl _)))
 ·rw[if_pos he] at hW
  subst hW
  refine PE 64 [.tmp 4,.tmp 5,.tmp 6] [2,3,59] func69 ?_;simp only[go_sem]
  refine Wk ?_
  refine Sd ?_
  refine Vu h1 ?_
  refine W1 he ?_
  refine ret_view [] ?_;simp only[go_sem]
  exact .mkTup (Vws.cons (.nil 1) (Vws.cons (.nil 1) (Vws.refl _)))
noncomputable def undF (ps:List Pr)(c:List Int)(p q:Int):Int:=((undM ps c p.toNat q (c.getD p.toNat 0).toNat).length:Int)
theorem view_channel (ps:List Pr)(hs:Sm ps)(c:List Int)(hg:givenF ps [c] []=0)(V:List (List Int))(k n:Int)(p:Nat)(q:Int)(s:ByteArray)(l:List Pd)(hp:p<ps.length)(hq:0<=q/\q<ps.length) :
  PC prog 198 [aView ps c V,aPd (.mk k n p q s l)] (ai (undF ps c p q)):=by
 have h1:=cut_UnderWay ps hs c hg p hp q hq
 have hu:undF ps c p q=((undM ps c p q (c.getD p 0).toNat).length:Int):=by unfold undF;rw[Int.toNat_natCast]
 rw[hu]
 have hT:aTr ps = .agg [aPrs ps]:=rfl
 have hI:aInts c = .sl 1 (c.map ai):=rfl
 rw[hT,hI] at h1
 generalize undM ps c p q (c.getD p 0).toNat=ms at *
 unfold aView
 simp only[aPd_mk]
 obtain⟨vv,hvv⟩:∃vv,aRows V = .sl 1 vv:=⟨_,rfl⟩
 rw[hI,hvv]
 obtain⟨tp,htp⟩:∃tp,aPrs ps = .sl 3 tp:=⟨_,rfl⟩
 rw[htp] at h1 ⊢
 refine PE 21 [.tmp 4] [2,3] func198 ?_;simp only[go_sem]
 refine Wk ?_
 refine Sd ?_
 refine Vu h1 ?_
 refine Wk ?_
 exact Rz
theorem und_leaf (ps:List Pr)(hs:Sm ps)(c:List Int)(hg:givenF ps [c] []=0)(t:Pd)(hr:allB (resB ps) t=true) :
  AllP (leafOk ps c (valuesAt ps c) (cutO ps c (undF ps c))) t/\AllP (obsB ps (cutO ps c (undF ps c))) t/\AllP (leafR ps c (cutO ps c (undF ps c))) t:=by
 obtain⟨hv,hc,hir,_⟩:=givenF_zero hg
 have hvl:(valuesAt ps c).length=ps.length:=by unfold valuesAt;rw[List.length_map,List.length_zip];omega
 have hcg:∀i (hi:i<ps.length),c.getD i 0=c[i]'(by omega):=fun i hi=>by rw[List.getD_eq_getElem?_getD,List.getElem?_eq_getElem (by omega)];rfl
 have hvar:∀(i:Nat) (hi:i<ps.length) (s:ByteArray),(cutO ps c (undF ps c)).var i s=(stateAt ps[i] (c[i]'(by omega)).toNat).getD (varIx ps[i].vars s).toNat 0:=fun i hi s=>by
  unfold cutO;simp only[Int.toNat_natCast,List.getElem?_eq_getElem hi,hcg i hi]
 have hcnt:∀(i:Nat) (hi:i<ps.length),(cutO ps c (undF ps c)).cnt i=c[i]'(by omega):=fun i hi=>by
  unfold cutO;simp only[Int.toNat_natCast,hcg i hi]
 have hget:∀(i:Nat) (hi:i<ps.length),c[((i:Nat):Int).toNat]?=some (c[i]'(by omega)):=fun i hi=>by
  rw[Int.toNat_natCast,List.getElem?_eq_getElem (by omega)]
 refine⟨AllP_of_allB (fun x hx=>?_) t hr,AllP_of_allB (fun x hx=>?_) t hr,AllP_of_allB (fun x hx=>?_) t hr⟩
 ·obtain⟨k,n,p,q,s,l⟩:=x
  obtain⟨r2,r3,r4⟩:=res_leaf hx
  refine⟨fun e=>?_,fun e=>?_,fun e=>?_⟩
  ·obtain⟨i,rfl,hp⟩:=isPB_nat (r2 e).1
   have hvg:=valuesAt_get (c:=c) hp (by omega)
   have h:=view_variable ps hs c (valuesAt ps c) k n i q s l hp (r2 e).2 (by omega) (by rw[hvg,stateAt_length])
   rw[hvg] at h
   rw[hvar i hp];exact h
  ·obtain⟨i,rfl,hp⟩:=isPB_nat (r3 e)
   exact⟨by omega,by rw[hcnt i hp];exact hget i hp⟩
  ·obtain⟨i,rfl,hp⟩:=isPB_nat (r4 e).1
   obtain⟨j,rfl,hq⟩:=isPB_nat (r4 e).2.1
   exact view_channel ps hs c hg (valuesAt ps c) k n i j s l hp ⟨by omega,by omega⟩
 ·obtain⟨k,n,p,q,s,l⟩:=x
  obtain⟨r2,r3,r4⟩:=res_leaf hx
  refine⟨fun e=>?_,fun e=>?_,fun e=>?_⟩
  ·obtain⟨i,rfl,hp⟩:=isPB_nat (r2 e).1
   obtain⟨b1,b2⟩:=inRangeF_get hir hc hp
   have hm:=valsF_mem ps[i] (varIx ps[i].vars s).toNat (k:=(c[i]'(by omega)).toNat) (by omega)
   rw[hvar i hp]
   unfold varLo varHi
   simp only[Int.toNat_natCast,List.getElem?_eq_getElem hp]
   exact⟨minL_le hm,le_maxL hm⟩
  ·obtain⟨i,rfl,hp⟩:=isPB_nat (r3 e)
   obtain⟨b1,b2⟩:=inRangeF_get hir hc hp
   rw[hcnt i hp,evN_get hp]
   exact⟨b1,b2⟩
  ·obtain⟨i,rfl,hp⟩:=isPB_nat (r4 e).1
   show 0<=undF ps c i q/\undF ps c i q<=msgN ps i q
   have h1:=undM_len c q (c.getD i 0).toNat hp
   rw[msgN_get hp]
   unfold undF
   rw[Int.toNat_natCast]
   omega
 ·obtain⟨k,n,p,q,s,l⟩:=x
  obtain⟨r2,r3,r4⟩:=res_leaf hx
  refine⟨fun e=>?_,fun e=>?_,fun e=>?_⟩
  ·obtain⟨i,rfl,hp⟩:=isPB_nat (r2 e).1
   obtain⟨b1,b2⟩:=inRangeF_get hir hc hp
   have h1:=ref25_Index ps hs i (r2 e).1 s
   rw[varX_get hp] at h1
   obtain⟨j,hj,hjl⟩:=known_ix (known_get hp (r2 e).2)
   have h2:=ref25_Value ps hs i hp j hjl (c[i]'(by omega)).toNat (by omega) (asg_of_valid hv i hp) (dis_of_valid hv i hp)
   rw[hj] at h1
   rw[Int.toNat_of_nonneg b1] at h2
   refine⟨_,_,h1,?_,by omega,hget i hp⟩
   rw[hvar i hp,hj,Int.toNat_natCast,List.getD_eq_getElem?_getD,List.getElem?_eq_getElem (by rw[stateAt_length];exact hjl)]
   exact h2
  ·obtain⟨i,rfl,hp⟩:=isPB_nat (r3 e)
   exact⟨by omega,by rw[hcnt i hp];exact hget i hp⟩
  ·obtain⟨i,rfl,hp⟩:=isPB_nat (r4 e).1
   refine⟨_,?_,ref22_UnderWay ps hs c hg i hp q⟩
   show _=undF ps c i q
   unfold undF
   rw[Int.toNat_natCast]
theorem evaluate_allC (ps:List Pr)(hs:Sm ps)(t:Pd)(hz:szF t<=1000000)(hE:whE ps t=0) :
  PC prog 69 [aTr ps,aPd t] (.tup [aRows (cutsF ps),.sl 1 ((cutsF ps).map fun c=>ab (truF (cutO ps c (undF ps c)) t)),ai 0]):=by
 obtain⟨g1,_⟩:=whE_zero hE
 obtain⟨hv,_,g8,_⟩:=checkF_zero g1
 unfold okT at g8
 simp only[Bool.and_eq_true] at g8
 refine evaluate_allG ps hs t hz (fun c=>cutO ps c (undF ps c)) (fun c hc=>?_) hE
 obtain⟨h1,h2,_⟩:=und_leaf ps hs c ((isF_given hv).2 hc) t g8.1.2
 exact⟨h1,h2⟩
theorem ref29_TruthC (ps:List Pr)(hs:Sm ps)(t:Pd)(hz:szF t<=1000000)(hE:whE ps t=0)(c:List Int)(hc:isF ps c=true):PC prog 77 [aTr ps,aInts c,aPd t] (ab (truF (cutO ps c (undF ps c)) t)):=by
 obtain⟨g1,g3,g4,_⟩:=whE_zero hE
 obtain⟨hv,_,g8,g9⟩:=checkF_zero g1
 have g10:=g8
 unfold okT at g10
 simp only[Bool.and_eq_true] at g10
 have h8:=(valid_len hv).2
 have hcl:=(isF_iff.1 hc).1
 obtain⟨_,h2,h3⟩:=und_leaf ps hs c ((isF_given hv).2 hc) t g10.1.2
 exact ref29_Truth ps c _ (by omega) t hz g8 g3 g9 g4 h2 h3
end Go.AL
end
section
namespace Go.AL
open Go Go.RowKit Proofs.Tryz
section
variable {α:Type} (bg:α->α->Bool) (len:Nat->Nat) (f:Nat->Nat->α) (n:Nat)
def Tgt (t:Nat->Nat):Prop:=(∀p,p<n->t p<len p)/\∀p q,p<n->q<n->p ≠ q->bg (f p (t p)) (f q (t q))=true
def MonB:Prop:=∀p i j,p<n->i<=j->j<len p->∀o,bg (f p j) o=true->bg (f p i) o=true
def LeastT (a:Nat->Nat):Prop:=Tgt bg len f n a/\∀t,Tgt bg len f n t->∀p,p<n->a p<=t p
variable {bg len f n}
theorem tgt_step (hm:MonB bg len f n){a:Nat->Nat}(ha:∀t,Tgt bg len f n t->∀p,p<n->a p<=t p){p q:Nat}(hp:p<n)(hq:q<n)(hpq:p ≠ q)(h:bg (f p (a p)) (f q (a q))=false) :
  ∀t,Tgt bg len f n t->∀r,r<n->(if r=q then a q+1 else a r)<=t r:=fun t ht r hr=>by
 have h1:=ha t ht
 split
 ·rename_i e
  subst e
  have h2:=h1 r hr
  by_cases e:a r=t r
  ·exfalso
   have h3:=ht.2 p r hp hr hpq
   have h4:=hm p (a p) (t p) hp (h1 p hp) (ht.1 p hp) _ h3
   rw[<- e,h] at h4;cases h4
  ·omega
 ·exact h1 r hr
theorem tgt_none {a:Nat->Nat}(ha:∀t,Tgt bg len f n t->∀p,p<n->a p<=t p){p:Nat}(hp:p<n)(h:len p<=a p):¬ ∃t,Tgt bg len f n t:=fun ⟨t,ht⟩=>by
 have h1:=ha t ht p hp
 have h2:=ht.1 p hp
 omega
theorem least_unique {a b:Nat->Nat}(ha:LeastT bg len f n a)(hb:LeastT bg len f n b){p:Nat}(hp:p<n):a p=b p:=by
 have h1:=ha.2 b hb.1 p hp
 have h2:=hb.2 a ha.1 p hp
 omega
end
end Go.AL
end
section
namespace Go.AL
open Go Go.RowKit Proofs.Tryz
set_option maxRecDepth 4000
def spS (b:Nat->Bool)(p:Nat):Nat->List Stp × Option Nat
 | 0=>([],none)
 | k+1=>match spS b p k,b k with
  | (d,some f),true=>(d,some f)
  | (d,none),true=>(d,some k)
  | (d,some f),false=>(d ++ [(p,f,k - 1)],none)
  | (d,none),false=>(d,none)
def spC (s:List Stp × Option Nat)(p k:Nat):List Stp:=s.1 ++ (match s.2 with|some f=>[(p,f,k - 1)]|none=>[])
def spL (b:Nat->Bool)(p k:Nat):List Stp:=spC (spS b p k) p k
section
variable {b:Nat->Bool} {p:Nat}
theorem spL_zero:spL b p 0=[]:=rfl
theorem spS_cur:∀k,(spS b p k).2.isSome=(decide (0<k) && b (k - 1))
 | 0=>rfl
 | k+1=>by
  unfold spS
  simp only[Nat.zero_lt_succ,decide_true,Bool.true_and,Nat.add_sub_cancel]
  split <;> rename_i h1 h2 <;> rw[h2] <;> rfl
theorem spL_no {k:Nat}(h:b k=false):spL b p (k+1)=spL b p k:=by
 unfold spL spC
 rw[spS]
 rcases e:spS b p k with ⟨d,_|f⟩
 ·simp [h]
 ·simp [h]
theorem spL_new {k:Nat}(h:b k=true)(h0:(decide (0<k) && b (k - 1))=false):spL b p (k+1)=spL b p k ++ [(p,k,k)]:=by
 have:=spS_cur (b:=b) (p:=p) k
 unfold spL spC
 rw[spS]
 rcases e:spS b p k with ⟨d,_|f⟩
 ·simp [h]
 ·rw[e,h0] at this;cases this
theorem spL_on {k:Nat}(h:b k=true)(h0:(decide (0<k) && b (k - 1))=true):∃d f,spL b p k=d ++ [(p,f,k - 1)]/\spL b p (k+1)=d ++ [(p,f,k)]:=by
 have:=spS_cur (b:=b) (p:=p) k
 unfold spL spC
 rw[spS]
 rcases e:spS b p k with ⟨d,_|f⟩
 ·rw[e,h0] at this;cases this
 ·exact⟨d,f,by simp,by simp [h]⟩
theorem spL_len:∀k,(spL b p k).length<=k
 | 0=>Nat.le_refl 0
 | k+1=>by
  have ih:=spL_len k
  cases h:b k with
  | false=>rw[spL_no h];omega
  | true =>
   cases h0:decide (0<k) && b (k - 1) with
   | false=>rw[spL_new h h0,List.length_append];simp;omega
   | true =>
    obtain⟨d,f,e1,e2⟩:=spL_on (p:=p) h h0
    rw[e1] at ih
    rw[e2]
    simp at ih ⊢;omega
end
end Go.AL
end
