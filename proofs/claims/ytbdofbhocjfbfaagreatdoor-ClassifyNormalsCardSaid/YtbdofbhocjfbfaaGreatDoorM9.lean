/- Texts of this claim's proof: WI4, WV9, WV14, WV22, WI5, WI6, WI7, AlItr, WI8. No condition. -/
import Derived.Test.YtbdofbhocjfbfaaGreatDoorM8
import Derived.Test.YtbdofbhocjfbfaaGreatDoorM7
import Derived.Test.YtbdofbhocjfbfaaGreatDoorM4
import Derived.Maps.RangeRun
import Derived.Shelf.SlMaps.Clone
section
namespace Go.AL
open Go Go.RowKit
set_option maxRecDepth 4000
def prdF (t:Pd):Int:=if formedB t=false then 1 else if typedB t=false then 14 else if resF t.kind ≠ 2 then 14 else 0
theorem aPd_pd0:aPd pd0 = .agg [ai 0,ai 0,ai 0,ai 0,astr ByteArray.empty,.sl 6 []]:=by unfold pd0;rw[aPd_mk];rfl
theorem classify_predicate (t:Pd) (hz:szF t≤1000000):PC Proofs.Tryz.prog 31 [aPd t] (ai (prdF t)):=by
 have h1:=predtype_TypeX t hz
 have hsp:prdF t=if formedB t=false then 1 else if typedB t=false then 14 else if resF t.kind ≠ 2 then 14 else 0:=rfl
 generalize prdF t=e at *
 generalize formedB t=F at *
 generalize typedB t=T at *
 generalize resF t.kind=r at *
 obtain⟨k,n,p,q,s,l⟩:=t
 simp only[aPd_mk] at *
 cases F
 ·simp only[if_true] at h1 hsp
  refine PC.enter 17 [.tmp 2] [1] Proofs.Tryz.func31 rfl rfl rfl rfl rfl (by simp) (AWp.of ?_);simp only[go_sem]
  refine Wk ?_
  refine Sd ?_
  refine(h1).val.use ?_;simp only[go_sem]
  repeat(first|((with_reducible refine AWp.ofC ?_ ?_);exact rfl;simp only[go_sem,Int.reduceEq])|((with_reducible refine an ?_ ?_);exact Au))
  refine ret_eq ?_;simp only[go_sem]
  rw[hsp]
 ·cases T
  ·simp only[if_true,Bool.true_eq_false,if_false] at h1 hsp
   refine PC.enter 17 [.tmp 2] [1] Proofs.Tryz.func31 rfl rfl rfl rfl rfl (by simp) (AWp.of ?_);simp only[go_sem]
   refine Wk ?_
   refine Sd ?_
   refine(h1).val.use ?_;simp only[go_sem]
   repeat(first|((with_reducible refine AWp.ofC ?_ ?_);exact rfl;simp only[go_sem,Int.reduceEq])|((with_reducible refine an ?_ ?_);exact Au))
   refine ret_eq ?_;simp only[go_sem]
   rw[hsp]
  ·simp only[if_true,Bool.true_eq_false,if_false] at h1 hsp
   by_cases hr:r=2
   ·rw[if_neg (not_not_intro hr)] at hsp
    refine PC.enter 17 [.tmp 2] [1] Proofs.Tryz.func31 rfl rfl rfl rfl rfl (by simp) (AWp.of ?_);simp only[go_sem]
    refine Wk ?_
    refine Sd ?_
    refine(h1).val.use ?_;simp only[go_sem]
    refine W1 hr ?_
    refine ret_eq ?_;simp only[go_sem]
    rw[hsp]
   ·rw[if_pos hr] at hsp
    refine PC.enter 17 [.tmp 2] [1] Proofs.Tryz.func31 rfl rfl rfl rfl rfl (by simp) (AWp.of ?_);simp only[go_sem]
    refine Wk ?_
    refine Sd ?_
    refine(h1).val.use ?_;simp only[go_sem]
    refine W1 hr ?_
    refine ret_eq ?_;simp only[go_sem]
    rw[hsp]
theorem formed_loc {t:Pd} (h:formedB t=true):allB locB t=true:=by
 unfold formedB at h
 simp only[Bool.and_eq_true] at h
 exact h.2
theorem prdF_zero {t:Pd} (h:prdF t=0):formedB t=true∧typedB t=true∧9≤t.kind:=by
 unfold prdF at h
 split at h
 ·cases h
 ·rename_i h1
  split at h
  ·cases h
  ·rename_i h2
   split at h
   ·cases h
   ·rename_i h3
    refine⟨by simpa using h1,by simpa using h2,?_⟩
    have:resF t.kind=2:=by simpa using h3
    unfold resF at this
    split at this <;> omega
def nrmF (t:Pd) (b:Bool):Pd:=if prdF t=0 then normF t b else pd0
theorem classify_Normal (t:Pd) (hz:szF t≤1000000):PC Proofs.Tryz.prog 9 [aPd t] (.tup [aPd (nrmF t false),ai (prdF t)]):=by
 have h1:=classify_predicate t hz
 have h2:=fun h=>classify_normal t hz (formed_loc (prdF_zero h).1) false
 have hsp:nrmF t false=if prdF t=0 then normF t false else pd0:=rfl
 generalize nrmF t false=N at *
 generalize normF t false=M at *
 generalize prdF t=e at *
 obtain⟨k,n,p,q,s,l⟩:=t
 by_cases he:e=0
 ·have h2:=h2 he
  rw[if_pos he] at hsp
  subst hsp
  obtain⟨k2,n2,p2,q2,s2,l2⟩:=N
  simp only[aPd_mk] at *
  refine PC.enter 13 [.cell 2 24,.tmp 3] [1] Proofs.Tryz.func9 rfl rfl rfl rfl rfl (by simp) (AWp.of ?_);simp only[go_sem]
  intro b2
  refine Wk ?_
  refine Sd ?_
  refine(h1).val.use ?_;simp only[go_sem]
  refine W1 he ?_
  refine Sd ?_
  refine(h2).val.use ?_;simp only[go_sem]
  refine Wk ?_
  refine ret_eq ?_;simp only[go_sem]
 ·rw[if_neg he] at hsp
  subst hsp
  simp only[aPd_mk] at h1 ⊢
  rw[← aPd_mk]
  refine PC.enter 13 [.cell 2 24,.tmp 3] [1] Proofs.Tryz.func9 rfl rfl rfl rfl rfl (by simp) (AWp.of ?_);simp only[go_sem]
  intro b2
  refine Wk ?_
  refine Sd ?_
  refine(h1).val.use ?_;simp only[go_sem]
  refine W1 he ?_
  refine ret_view [] ?_;simp only[go_sem]
  rw[aPd_pd0]
  exact .mkTup (Vws.cons (.mkAgg (Vws.cons (.refl _) (Vws.cons (.refl _) (Vws.cons (.refl _) (Vws.cons (.refl _) (Vws.cons (.refl _) (Vws.cons (.nil 6) .nil))))))) (Vws.refl _))
theorem classify_Not (t:Pd) (hz:szF t≤1000000):PC Proofs.Tryz.prog 10 [aPd t] (.tup [aPd (nrmF t true),ai (prdF t)]):=by
 have h1:=classify_predicate t hz
 have h2:=fun h=>classify_normal t hz (formed_loc (prdF_zero h).1) true
 have hsp:nrmF t true=if prdF t=0 then normF t true else pd0:=rfl
 generalize nrmF t true=N at *
 generalize normF t true=M at *
 generalize prdF t=e at *
 obtain⟨k,n,p,q,s,l⟩:=t
 by_cases he:e=0
 ·have h2:=h2 he
  rw[if_pos he] at hsp
  subst hsp
  obtain⟨k2,n2,p2,q2,s2,l2⟩:=N
  simp only[aPd_mk] at *
  refine PC.enter 13 [.cell 2 24,.tmp 3] [1] Proofs.Tryz.func10 rfl rfl rfl rfl rfl (by simp) (AWp.of ?_);simp only[go_sem]
  intro b2
  refine Wk ?_
  refine Sd ?_
  refine(h1).val.use ?_;simp only[go_sem]
  refine W1 he ?_
  refine Sd ?_
  refine(h2).val.use ?_;simp only[go_sem]
  refine Wk ?_
  refine ret_eq ?_;simp only[go_sem]
 ·rw[if_neg he] at hsp
  subst hsp
  simp only[aPd_mk] at h1 ⊢
  rw[← aPd_mk]
  refine PC.enter 13 [.cell 2 24,.tmp 3] [1] Proofs.Tryz.func10 rfl rfl rfl rfl rfl (by simp) (AWp.of ?_);simp only[go_sem]
  intro b2
  refine Wk ?_
  refine Sd ?_
  refine(h1).val.use ?_;simp only[go_sem]
  refine W1 he ?_
  refine ret_view [] ?_;simp only[go_sem]
  rw[aPd_pd0]
  exact .mkTup (Vws.cons (.mkAgg (Vws.cons (.refl _) (Vws.cons (.refl _) (Vws.cons (.refl _) (Vws.cons (.refl _) (Vws.cons (.refl _) (Vws.cons (.nil 6) .nil))))))) (Vws.refl _))
theorem law30_empty0:PC Proofs.Tryz.prog 17 [aPd pd0] (ab true):=by
 have h:=ref28_Same pd0 (by decide)
 rw[aPd_pd0] at *
 refine PC.enter 6 [.tmp 2] [1] Proofs.Tryz.func17 rfl rfl rfl rfl rfl (by simp) (AWp.of ?_);simp only[go_sem]
 refine Wk ?_
 refine PV.view (.refl _) (Vws.cons (.refl _) (Vws.cons (.mkAgg (Vws.cons (.refl _) (Vws.cons (.refl _) (Vws.cons (.refl _) (Vws.cons (.refl _) (Vws.cons (.refl _) (Vws.cons (.nil 6) .nil))))))) .nil)) h.val (.v _) ?_
 simp only[go_sem]
 refine Wk ?_
 refine ret_eq ?_;simp only[go_sem]
theorem ref28_TypeN (t:Pd) (hz:szF t≤1000000) (h1:formedB t=true) (h2:typedB t=false):PC Proofs.Tryz.prog 30 [aPd t] (.tup [ai 0,ai 14]):=by
 have g1:=ref28_Formed t hz
 have g2:=ref28_typed t hz (formed_loc h1)
 rw[show allB typB t=false from h2] at g2
 rw[h1] at g1
 obtain⟨k,n,p,q,s,l⟩:=t
 simp only[aPd_mk,Pd.kind] at *
 refine PC.enter 12 [.tmp 2,.tmp 3] [1] Proofs.Tryz.func30 rfl rfl rfl rfl rfl (by simp) (AWp.of ?_);simp only[go_sem]
 refine Wk ?_
 refine Sd ?_
 refine(g1).val.use ?_;simp only[go_sem]
 refine Wk ?_
 refine Sd ?_
 refine(g2).val.use ?_;simp only[go_sem]
 refine Wk ?_
 refine ret_eq ?_;simp only[go_sem]
theorem ref30_Bare (t:Pd) (hz:szF t≤1000000):PC Proofs.Tryz.prog 8 [aPd t] (ai (prdF t)):=by
 have h1:=ref28_Formed t hz
 have h2:=ref28_Type t hz
 have h3:=ref28_TypeN t hz
 have hsp:prdF t=if formedB t=false then 1 else if typedB t=false then 14 else if resF t.kind ≠ 2 then 14 else 0:=rfl
 generalize prdF t=e at *
 generalize formedB t=F at *
 generalize typedB t=T at *
 generalize resF t.kind=r at *
 obtain⟨k,n,p,q,s,l⟩:=t
 simp only[aPd_mk] at *
 cases F
 ·simp only[if_true] at hsp
  refine PC.enter 19 [.tmp 2] [1] Proofs.Tryz.func8 rfl rfl rfl rfl rfl (by simp) (AWp.of ?_);simp only[go_sem]
  refine Wk ?_
  refine Sd ?_
  refine(h1).val.use ?_;simp only[go_sem]
  refine Wk ?_
  refine ret_eq ?_;simp only[go_sem]
  rw[hsp]
 ·cases T
  ·have h3:=h3 rfl rfl
   simp only[if_true,Bool.true_eq_false,if_false] at hsp
   refine PC.enter 19 [.tmp 2] [1] Proofs.Tryz.func8 rfl rfl rfl rfl rfl (by simp) (AWp.of ?_);simp only[go_sem]
   refine Wk ?_
   refine Sd ?_
   refine(h1).val.use ?_;simp only[go_sem]
   refine Wk ?_
   refine Sd ?_
   refine(h3).val.use ?_;simp only[go_sem]
   repeat(first|((with_reducible refine AWp.ofC ?_ ?_);exact rfl;simp only[go_sem,Int.reduceEq])|((with_reducible refine an ?_ ?_);exact Au))
   refine ret_eq ?_;simp only[go_sem]
   rw[hsp]
  ·have h2:=h2 rfl rfl
   simp only[Bool.true_eq_false,if_false] at hsp
   by_cases hr:r=2
   ·rw[if_neg (not_not_intro hr)] at hsp
    refine PC.enter 19 [.tmp 2] [1] Proofs.Tryz.func8 rfl rfl rfl rfl rfl (by simp) (AWp.of ?_);simp only[go_sem]
    refine Wk ?_
    refine Sd ?_
    refine(h1).val.use ?_;simp only[go_sem]
    refine Wk ?_
    refine Sd ?_
    refine(h2).val.use ?_;simp only[go_sem]
    refine W1 hr ?_
    refine ret_eq ?_;simp only[go_sem]
    rw[hsp]
   ·rw[if_pos hr] at hsp
    refine PC.enter 19 [.tmp 2] [1] Proofs.Tryz.func8 rfl rfl rfl rfl rfl (by simp) (AWp.of ?_);simp only[go_sem]
    refine Wk ?_
    refine Sd ?_
    refine(h1).val.use ?_;simp only[go_sem]
    refine Wk ?_
    refine Sd ?_
    refine(h2).val.use ?_;simp only[go_sem]
    refine W1 hr ?_
    refine ret_eq ?_;simp only[go_sem]
    rw[hsp]
theorem ref30_flip (k:Int) (h:9≤k∧k≤21∧k ≠ 15):PC Proofs.Tryz.prog 35 [ai k] (ai (oppF k)):=by
 have hk:k=9∨k=10∨k=11∨k=12∨k=13∨k=14∨k=16∨k=17∨k=18∨k=19∨k=20∨k=21:=by omega
 rcases hk with rfl|rfl|rfl|rfl|rfl|rfl|rfl|rfl|rfl|rfl|rfl|rfl
 all_goals
  refine PC.enter 26 [.tmp 2] [] Proofs.Tryz.func35 rfl rfl rfl rfl rfl (by simp) (AWp.of ?_);simp only[go_sem]
  repeat(first|((with_reducible refine AWp.ofC ?_ ?_);exact rfl;simp only[go_sem,Int.reduceEq])|((with_reducible refine an ?_ ?_);exact Au))
  refine ret_eq ?_;simp only[go_sem]
  rfl
theorem loc_plain {k n p q:Int} {s:ByteArray} {l:List Pd} (h:locB (.mk k n p q s l)=true) (hk:9≤k):k≤21∧n=0∧p=0∧q=0∧s=ByteArray.empty:=by
 unfold locB at h
 simp only[Bool.and_eq_true,decide_eq_true_eq] at h
 obtain⟨⟨h1,h2⟩,h3⟩:=h
 have hk2:k≤21:=by
  by_cases e:k≤21
  ·exact e
  ·exfalso
   have:partsF k = -1:=by unfold partsF;rw[if_neg (by omega),if_neg (by omega),if_neg (by omega)]
   omega
 unfold numB at h2
 rw[if_neg (by omega)] at h2
 unfold nameB at h3
 rw[decide_eq_false (show ¬(2≤k∧k≤4) by omega),Bool.false_or] at h3
 simp only[decide_eq_true_eq] at h2 h3
 exact⟨hk2,h2,h3⟩
theorem typ_parts {k n p q:Int} {s:ByteArray} {l:List Pd} (h:typB (.mk k n p q s l)=true) {x:Pd} (hx:x ∈ l):resF x.kind=needF k:=by
 have h1:(!l.any fun x=>tyNe k x.kind)=true:=h
 rw[Bool.not_eq_true'] at h1
 have h2:=List.any_eq_false.1 h1 x hx
 unfold tyNe at h2
 simpa using h2
theorem res_bool {k:Int} (h:resF k=2):9≤k:=by unfold resF at h;split at h <;> omega
theorem ref30_Normal (t:Pd):szF t≤1000000→allB locB t=true→allB typB t=true→9≤t.kind→∀b,PC Proofs.Tryz.prog 18 [aPd t,ab b] (aPd (normF t b)):=by
 induction t using Pd.ind with
 | _ k n p q s l ih =>
 intro hz hloc htyp h9 b
 have h9:9≤k:=h9
 have hsz:szF (.mk k n p q s l)=szL l+1:=by rw[szF]
 have hll:=szL_len l
 rw[allB_mk,Bool.and_eq_true] at hloc htyp
 obtain⟨hlc,hcl⟩:=hloc
 obtain⟨htc,hct⟩:=htyp
 have hpl:=locB_len hlc
 have hsp:=normF_mk k n p q s l b
 obtain⟨h21,rfl,rfl,rfl,rfl⟩:=loc_plain hlc h9
 have hch:=fun i (hi:i<l.length) (hn:needF k=2) b=>ih l[i] (List.getElem_mem hi) (by have:=szL_mem (List.getElem_mem hi);omega) (List.all_eq_true.1 hcl _ (List.getElem_mem hi)) (List.all_eq_true.1 hct _ (List.getElem_mem hi)) (res_bool ((typ_parts htc (List.getElem_mem hi)).trans hn)) b
 generalize normF (.mk k 0 0 0 ByteArray.empty l) b=T at *
 by_cases h15:k=15
 ·subst h15
  have h1:partsF 15=1:=by decide
  obtain⟨x,rfl⟩:=len_one (l:=l) (by omega)
  rw[if_pos rfl,hdN_one] at hsp
  have hx:=hch 0 (by simp) (by decide) (!b)
  simp only[List.getElem_cons_zero] at hx
  rw[← hsp] at hx
  clear hch
  obtain⟨k2,n2,p2,q2,s2,l2⟩:=x
  obtain⟨k3,n3,p3,q3,s3,l3⟩:=T
  simp only[aPd_mk,List.map_cons,List.map_nil] at *
  refine PC.enter 76 [.cell 4 24] [2,72] Proofs.Tryz.func18 rfl rfl rfl rfl rfl (by simp) (AWp.of ?_);simp only[go_sem]
  intro b4
  repeat(first|((with_reducible refine AWp.ofC ?_ ?_);exact rfl;simp only[go_sem,Int.reduceEq])|((with_reducible refine an ?_ ?_);exact Au))
  refine Sd ?_
  refine(hx).val.use ?_;simp only[go_sem]
  refine Wk ?_
  refine ret_eq ?_;simp only[go_sem]
 rw[if_neg h15] at hsp
 have hfl:=ref30_flip k ⟨h9,h21,h15⟩
 generalize hK:(if b=true then oppF k else k)=K at *
 refine PC.enter 76 [.cell 4 24] [2,53,72] Proofs.Tryz.func18 rfl rfl rfl rfl rfl (by simp) (AWp.of ?_);simp only[go_sem]
 intro b4
 refine W1 h15 ?_
 intro b5 g1
 have n1:¬b4=b5:=by omega
 have n2:¬b5=b4:=by omega
 refine Sd ?_
 refine AWp.cut [1,2,4,5] (fun vs L=>L=[(b5,.row 24 6 [.agg [ai K,ai 0,ai 0,ai 0,astr ByteArray.empty,anil]] 1),(b4,.row 24 6 [aPd0] 1)]∧vs=[ab b,.rp 6 [.agg [ai k,ai 0,ai 0,ai 0,astr ByteArray.empty,.sl 6 (l.map aPd)]] 0 0,.lp b4 6 0 0,.lp b5 6 0 0]) ?_ ?_
 ·cases b
  ·refine Wk ?_
   exact⟨_,List.Sublist.refl _,by rw[← hK];rfl⟩
  ·refine Wk ?_
   refine Sd ?_
   refine(hfl).val.use ?_;simp only[go_sem]
   refine W2 n1 n2 ?_
   exact⟨_,List.Sublist.refl _,by rw[← hK];rfl⟩
 rintro vs L - ⟨rfl,rfl⟩
 clear hfl hK
 by_cases hc:k≤12
 ·rw[if_neg (by omega)] at hsp
  have hp2:partsF k=2:=by unfold partsF;rw[if_neg (by omega),if_neg (by omega),if_pos (by omega)]
  obtain⟨x,y,rfl⟩:=len_two (l:=l) (by omega)
  clear hch ih
  rw[hsp]
  simp only[aPd_mk,List.map_cons,List.map_nil] at *
  obtain⟨k1,o1,p1,q1,s1,l1⟩:=x
  obtain⟨k2,o2,p2,q2,s2,l2⟩:=y
  simp only[aPd_mk]
  generalize hX:AV.agg [ai k1,ai o1,ai p1,ai q1,astr s1,.sl 6 (l1.map aPd)]=X at *
  generalize hY:AV.agg [ai k2,ai o2,ai p2,ai q2,astr s2,.sl 6 (l2.map aPd)]=Y at *
  simp only[go_sem]
  refine Wk ?_
  refine⟨fun h1 h2 => ?_,fun h1 => ?_⟩
  ·refine AWp.cutT [1,2,4,5,6,7] (fun vs L=>∃b6 b7,((¬b6=b7∧¬b7=b6)∧(¬b6=b5∧¬b5=b6)∧(¬b6=b4∧¬b4=b6)∧(¬b7=b5∧¬b5=b7)∧(¬b7=b4∧¬b4=b7)) ∧
     vs=[ab b,.rp 6 [.agg [ai k,ai 0,ai 0,ai 0,astr ByteArray.empty,.sl 6 [X,Y]]] 0 0,.lp b4 6 0 0,.lp b5 6 0 0,.lp b6 6 0 0,.lp b7 6 0 0] ∧
     (L=[(b6,.row 24 6 [X] 1),(b7,.row 24 6 [Y] 1),(b5,.row 24 6 [.agg [ai K,ai 0,ai 0,ai 0,astr ByteArray.empty,anil]] 1),(b4,.row 24 6 [aPd0] 1)] ∨
     L=[(b7,.row 24 6 [Y] 1),(b6,.row 24 6 [X] 1),(b5,.row 24 6 [.agg [ai K,ai 0,ai 0,ai 0,astr ByteArray.empty,anil]] 1),(b4,.row 24 6 [aPd0] 1)])) ?_ ?_
   ·subst hX hY
    repeat(first|(with_reducible refine AWp.seq ?_)|(with_reducible refine AWp.block ?_))
    refine AWp.mix mixed [0,1,2,3,4,5,6,7] (.step 8 (.step 9 (.step 10 (.step 11 .done .done) .done) .done) (.step 9 (.step 8 (.step 10 (.step 11 .done .done) .done) .done) .done)) (by kernel_rfl) ?_;simp only[go_sem]
    refine Sd ?_
    repeat' (first|(with_reducible refine And.intro ?_ ?_)|(with_reducible intro _))
    all_goals
     rename_i bA gA1 gA2 bB gB1 gB2 gB3
     have m1:¬bA=bB:=by omega
     have m2:¬bB=bA:=by omega
     have m3:¬bA=b5:=by omega
     have m4:¬b5=bA:=by omega
     have m5:¬bA=b4:=by omega
     have m6:¬b4=bA:=by omega
     have m7:¬bB=b5:=by omega
     have m8:¬b5=bB:=by omega
     have m9:¬bB=b4:=by omega
     have m10:¬b4=bB:=by omega
     simp only[go_sem,m1,m2,m3,m4,m5,m6,m7,m8,m9,m10]
     refine Sd ?_
     repeat(first|((with_reducible refine AWp.ofC ?_ ?_);exact rfl;simp only[go_sem,m1,m2,m3,m4,m5,m6,m7,m8,m9,m10])|((with_reducible refine an ?_ ?_);exact Au))
     first
      | exact⟨_,List.Sublist.refl _,bA,bB,⟨⟨m1,m2⟩,⟨m3,m4⟩,⟨m5,m6⟩,⟨m7,m8⟩,m9,m10⟩,rfl,.inr rfl⟩
      | exact⟨_,List.Sublist.refl _,bB,bA,⟨⟨m2,m1⟩,⟨m7,m8⟩,⟨m9,m10⟩,⟨m3,m4⟩,m5,m6⟩,rfl,.inl rfl⟩
   rintro vs L - ⟨b6,b7,⟨⟨m1,m2⟩,⟨m3,m4⟩,⟨m5,m6⟩,⟨m7,m8⟩,m9,m10⟩,rfl,hL⟩
   have hp:L.Perm [(b6,.row 24 6 [X] 1),(b7,.row 24 6 [Y] 1),(b5,.row 24 6 [.agg [ai K,ai 0,ai 0,ai 0,astr ByteArray.empty,anil]] 1),(b4,.row 24 6 [aPd0] 1)]:=by
    rcases hL with rfl|rfl
    ·exact List.Perm.refl _
    ·exact List.Perm.swap _ _ _
   refine AWp.perm hp ?_
   clear hp hL
   subst hX hY
   by_cases hsw:b=true∧11≤k
   ·obtain⟨rfl,e11⟩:=hsw
    rw[if_pos (show true=true∧(k=11∨k=12) from ⟨rfl,by omega⟩),List.reverse_cons,List.reverse_cons,List.reverse_nil,List.nil_append,List.map_append]
    simp only[List.map_cons,List.map_nil,aPd_mk,List.cons_append,List.nil_append,go_sem]
    repeat(first|((with_reducible refine AWp.ofC ?_ ?_);exact rfl;simp only[go_sem,e11,m1,m2,m3,m4,m5,m6,m7,m8,m9,m10,n1,n2,aPd0])|((with_reducible refine an ?_ ?_);exact Au))
    refine ret_eq ?_;simp only[go_sem,m6,m10,n1,n2]
   ·rw[if_neg (show ¬(b=true∧(k=11∨k=12)) by rintro⟨rfl,h⟩;exact hsw ⟨rfl,by omega⟩)]
    simp only[List.map_cons,List.map_nil,aPd_mk,go_sem]
    have hbk:b=false∨¬11≤k:=by
     cases b
     ·exact .inl rfl
     ·exact .inr fun e=>hsw ⟨rfl,e⟩
    rcases hbk with rfl|e11
    ·repeat(first|((with_reducible refine AWp.ofC ?_ ?_);exact rfl;simp only[go_sem,m1,m2,m3,m4,m5,m6,m7,m8,m9,m10,n1,n2,aPd0])|((with_reducible refine an ?_ ?_);exact Au))
     refine ret_eq ?_;simp only[go_sem,m6,m10,n1,n2]
    ·repeat(first|((with_reducible refine AWp.ofC ?_ ?_);exact rfl;simp only[go_sem,e11,m1,m2,m3,m4,m5,m6,m7,m8,m9,m10,n1,n2,aPd0])|((with_reducible refine an ?_ ?_);exact Au))
     refine ret_eq ?_;simp only[go_sem,m6,m10,n1,n2]
  ·omega
 ·rw[show (if 16≤k∧k≤21 then l.map (fun x=>normF x b) else if b=true∧(k=11∨k=12) then l.reverse else l)=l.map (fun x=>normF x b) from ?_] at hsp
  ·have hee:aPd T = .agg [ai K,ai 0,ai 0,ai 0,astr ByteArray.empty,.sl 6 ((l.map fun x=>normF x b).map aPd)]:=by rw[hsp,aPd_mk]
   rw[hee]
   clear hee hsp
   simp only[go_sem]
   have z9:12<k:=by omega
   refine W1 hc ?_
   refine AWp.block (AWp.count 8 l.length [] [1,2,4,5] (fun i vs L=>∃v Ln,L=Ln ++ [(b5,ABlk.row 24 6 [.agg [ai K,ai 0,ai 0,ai 0,astr ByteArray.empty,v]] 1),(b4,ABlk.row 24 6 [aPd0] 1)]∧AppSt 24 6 (((l.take i).map fun x=>normF x b).map aPd) v Ln∧∀x ∈ Ln,x.1 ≠ b5∧x.1 ≠ b4) rfl rfl ⟨anil,[],rfl,.nil,by simp⟩ ?_)
   rintro i vs L hi - ⟨v,Ln,rfl,hA,hne⟩
   simp only[go_sem]
   refine Wk ?_
   refine⟨fun h4 => ?_,fun h4 => ?_⟩
   ·have hil:i<l.length:=by omega
    have hgi:=getD_map (f:=aPd) hil
    have hn2:needF k=2:=by unfold needF;rw[if_neg (by omega)]
    have hxc:=hch i hil hn2 b
    have hsu:((l.take (i+1)).map fun x=>normF x b).map aPd=((l.take i).map fun x=>normF x b).map aPd ++ [aPd (normF l[i] b)]:=by
     rw[List.take_succ_eq_append_getElem hil,List.map_append,List.map_append];rfl
    have hyl:(((l.take i).map fun x=>normF x b).map aPd).length≤1000000:=by simp;omega
    clear hch ih
    generalize ((l.take i).map fun x=>normF x b).map aPd=ys at *
    generalize normF l[i] b=z at *
    generalize l[i]=x at *
    obtain⟨k2,o2,p2,q2,s2,l2⟩:=x
    obtain⟨k3,o3,p3,q3,s3,l3⟩:=z
    simp only[aPd_mk] at hgi hxc hsu
    rcases hA.inv with ⟨e1,rfl,rfl⟩|⟨bv,cap,rfl,rfl⟩
    ·refine Wk ?_
     repeat(first|(with_reducible refine AWp.seq ?_)|(with_reducible refine AWp.block ?_))
     refine AWp.mix mixed [0,2,3,4,5,6,7,8] (.step 1 (.step 9 (.step 10 (.step 11 (.step 12 .done .done) .done) .done) .done) (.step 9 (.step 1 (.step 10 (.step 11 (.step 12 .done .done) .done) .done) .done) .done)) (by kernel_rfl) ?_;simp only[go_sem,hgi,n1,n2]
     refine Sd ?_
     refine GCall.use (.agg [ai k3,ai o3,ai p3,ai q3,astr s3,.sl 6 (l3.map aPd)]) (fun _=>⟨At,(hxc).val.use ⟨rfl,rfl⟩⟩) ?_;simp only[go_sem,n1,n2]
     repeat' (first|(with_reducible refine And.intro ?_ ?_)|(with_reducible intro _))
     all_goals first|omega|skip
     all_goals
      rename_i b' cap' f1 f2 f3
      have n5:¬b5=b':=by omega
      have n6:¬b4=b':=by omega
      simp only[go_sem,n5,n6]
      refine Sd ?_
      refine W2 n5 n6 ?_
      refine⟨_,List.Sublist.refl _,_,[(b',.row 24 6 [_] cap')],rfl,?_,?_⟩
      ·rw[hsu,e1];exact .row _ [_] _
      ·intro p hp;simp at hp;subst hp;exact⟨fun e=>n5 e.symm,fun e=>n6 e.symm⟩
    ·have m1:¬bv=b5:=(hne (bv,_) List.mem_cons_self).1
     have m2:¬bv=b4:=(hne (bv,_) List.mem_cons_self).2
     have m3:¬b5=bv:=fun e=>m1 e.symm
     have m4:¬b4=bv:=fun e=>m2 e.symm
     refine Wk ?_
     repeat(first|(with_reducible refine AWp.seq ?_)|(with_reducible refine AWp.block ?_))
     refine AWp.mix mixed [0,2,3,4,5,6,7,8] (.step 1 (.step 9 (.step 10 (.step 11 (.step 12 .done .done) .done) .done) .done) (.step 9 (.step 1 (.step 10 (.step 11 (.step 12 .done .done) .done) .done) .done) .done)) (by kernel_rfl) ?_;simp only[go_sem,hgi,n1,n2,m1,m2,m3,m4]
     refine Sd ?_
     refine GCall.use (.agg [ai k3,ai o3,ai p3,ai q3,astr s3,.sl 6 (l3.map aPd)]) (fun _=>⟨At,(hxc).val.use ⟨rfl,rfl⟩⟩) ?_;simp only[go_sem,n1,n2,m1,m2,m3,m4]
     repeat' (first|(with_reducible refine And.intro ?_ ?_)|(with_reducible intro _))
     all_goals first|omega|skip
     all_goals
      rename_i b' cap' n5 n6 f3
      simp only[go_sem,n5,n6]
      refine Sd ?_
      refine W2 n5 n6 ?_
      refine⟨_,List.Sublist.refl _,_,[(b',.row 24 6 (ys ++ [_]) cap')],rfl,?_,?_⟩
      ·rw[hsu]
       have:=AppSt.row (t:=24) (k:=6) b' (ys ++ [.agg [ai k3,ai o3,ai p3,ai q3,astr s3,.sl 6 (l3.map aPd)]]) cap'
       simpa using this
      ·intro p hp;simp at hp;subst hp;exact⟨fun e=>n5 e.symm,fun e=>n6 e.symm⟩
   ·have hil:i=l.length:=by omega
    rw[hil,List.take_length] at hA
    generalize (l.map fun x=>normF x b).map aPd=ys at *
    rcases hA.inv with ⟨e1,rfl,rfl⟩|⟨bv,cap,rfl,rfl⟩
    ·repeat(first|((with_reducible refine AWp.ofC ?_ ?_);exact rfl;simp only[go_sem,n1,n2,aPd0])|((with_reducible refine an ?_ ?_);exact Au))
     refine ret_view [] ?_;simp only[go_sem,n1,n2]
     rw[e1]
     exact .mkAgg (Vws.cons (.refl _) (Vws.cons (.refl _) (Vws.cons (.refl _) (Vws.cons (.refl _) (Vws.cons (.refl _) (Vws.cons (.nil 6) .nil))))))
    ·have m1:¬b5=bv:=fun e=>(hne (bv,_) List.mem_cons_self).1 e.symm
     have m2:¬b4=bv:=fun e=>(hne (bv,_) List.mem_cons_self).2 e.symm
     repeat(first|((with_reducible refine AWp.ofC ?_ ?_);exact rfl;simp only[go_sem,n1,n2,m1,m2,aPd0])|((with_reducible refine an ?_ ?_);exact Au))
     refine ret_view [true] ?_;simp only[go_sem,n1,n2,m1,m2]
     exact .mkAgg (Vws.cons (.refl _) (Vws.cons (.refl _) (Vws.cons (.refl _) (Vws.cons (.refl _) (Vws.cons (.refl _) (Vws.cons (Vw.ofLs (if_pos rfl) rfl) .nil))))))
  ·rw[if_neg (show ¬(b=true∧(k=11∨k=12)) by rintro⟨_,h⟩;omega)]
   split
   ·rfl
   ·have h0:partsF k=0:=by
     have:k=13∨k=14:=by omega
     rcases this with rfl|rfl <;> decide
    have:l=[]:=List.length_eq_zero_iff.1 (by omega)
    rw[this];rfl
theorem intsC_index (l:List Int) (hl:l.length≤1000001) (m:Int):PC Proofs.Tryz.prog 155 [.sl 1 (l.map ai),ai m] (ai (match l.findIdx? (fun x=>decide (m=x)) with|some i=>(i:Int)|none => -1)):=by
 refine PC.enter 19 [.tmp 4] [] Proofs.Tryz.func155 rfl rfl rfl rfl rfl (by simp) (AWp.of ?_);simp only[go_sem]
 refine Wk ?_
 refine(AWp.range' l.length [] [0,1,7] (fun k vs L=>L=[]∧∀i (h:i<l.length),i<k→¬m=l[i]) (by omega) rfl rfl rfl ⟨rfl,fun _ _ h=>by omega⟩ ?_ ?_)
 ·rintro k vs L hk - ⟨rfl,hI⟩
  have hg:=getD_map (f:=ai) hk
  have hx:m=l[k]→l.findIdx? (fun x=>decide (m=x))=some k:=fun h=>by
   rw[List.findIdx?_eq_some_iff_getElem];exact⟨hk,decide_eq_true h,fun j hj=>by simpa using hI j (by omega) hj⟩
  have hI2:¬m=l[k]→∀i (h:i<l.length),i<k+1→¬m=l[i]:=fun h i hi hik=>by
   by_cases e:i=k
   ·subst e;exact h
   ·exact hI i hi (by omega)
  generalize l[k]=B at *
  simp only[go_sem]
  refine W1 hg ?_
  refine⟨fun h => ?_,fun h => ?_⟩
  ·rw[hx h]
   refine Wk ?_
   refine ret_eq ?_;simp only[go_sem]
  ·refine Wk ?_
   exact⟨_,List.Sublist.refl _,rfl,hI2 h⟩
 ·rintro vs L - ⟨rfl,hI⟩
  have:l.findIdx? (fun x=>decide (m=x))=none:=by rw[List.findIdx?_eq_none_iff];intro x hx;obtain⟨i,hi,rfl⟩:=List.getElem_of_mem hx;exact decide_eq_false (hI i hi hi)
  rw[this]
  simp only[go_sem]
  refine Wk ?_
  refine ret_eq ?_;simp only[go_sem]
theorem intsC_contains (l:List Int) (hl:l.length≤1000001) (m:Int):PC Proofs.Tryz.prog 122 [.sl 1 (l.map ai),ai m] (ab (l.any fun x=>decide (m=x))):=by
 have h1:=intsC_index l hl m
 refine PC.enter 9 [.tmp 4] [] Proofs.Tryz.func122 rfl rfl rfl rfl rfl (by simp) (AWp.of ?_);simp only[go_sem]
 refine Wk ?_
 refine Sd ?_
 refine(h1).val.use ?_;simp only[go_sem]
 refine Wk ?_
 refine ret_eq ?_;simp only[go_sem]
 congr 2;exact findIdx_any l fun x=>decide (m=x)
theorem classify_is (l:List Int):PC Proofs.Tryz.prog 86 [.sl 1 (l.map ai)] (.clo 121 [.rp 1 [.sl 1 (l.map ai)] 0 0]):=by
 refine PC.enter 4 [.tmp 2] [1] Proofs.Tryz.func86 rfl rfl rfl rfl rfl (by simp) (AWp.of ?_);simp only[go_sem]
 refine Wk ?_
 refine ret_eq ?_;simp only[go_sem]
theorem classify_is1 (l:List Int) (hl:l.length≤1000001) (t:Pd):PC Proofs.Tryz.prog 121 [aPd t,.rp 1 [.sl 1 (l.map ai)] 0 0] (ab (l.any fun x=>decide (t.kind=x))):=by
 obtain⟨k,n,p,q,s,l2⟩:=t
 have h:=intsC_contains l hl k
 show PC _ _ _ (ab (l.any fun x=>decide (k=x)))
 generalize (l.any fun x=>decide (k=x))=b at *
 simp only[aPd_mk]
 refine PC.enter 8 [.tmp 3] [2] Proofs.Tryz.func121 rfl rfl rfl rfl rfl (by simp) (AWp.of ?_);simp only[go_sem]
 refine Wk ?_
 refine Sd ?_
 refine(h).val.use ?_;simp only[go_sem]
 refine Wk ?_
 refine ret_eq ?_;simp only[go_sem]
theorem kind_temp (k:Int):([18,19,20,21]:List Int).any (fun x=>decide (k=x))=decide (18≤k∧k≤21):=by
 rw[Bool.eq_iff_iff]
 simp
 omega
theorem classify_temporal (t:Pd):PC Proofs.Tryz.prog 59 [aPd t] (ab (!ntmB t)):=by
 have h1:=classify_is [18,19,20,21]
 have h2:=classify_is1 [18,19,20,21] (by decide) t
 rw[kind_temp] at h2
 have hsp:(!ntmB t)=decide (18≤t.kind∧t.kind≤21):=by
  cases t
  show (!!_)=_
  rw[Bool.not_not]
  rfl
 rw[hsp]
 generalize decide (18≤t.kind∧t.kind≤21)=b at *
 obtain⟨k,n,p,q,s,l⟩:=t
 simp only[aPd_mk,List.map_cons,List.map_nil] at *
 have h2:=PC.clo (args:=[_]) (caps:=[_]) h2
 refine PC.enter 7 [.tmp 2] [1,3] Proofs.Tryz.func59 rfl rfl rfl rfl rfl (by simp) (AWp.of ?_);simp only[go_sem]
 repeat(first|(with_reducible refine AWp.seq ?_)|(with_reducible refine AWp.block ?_))
 refine AWp.mix mixed [2] (.step 0 (.step 1 (.step 3 (.step 4 .done .done) .done) .done) .done) (by kernel_rfl) ?_;simp only[go_sem]
 refine Sd ?_
 refine(h1).val.use ?_;simp only[go_sem]
 refine Sd ?_
 refine(h2).use ?_;simp only[go_sem]
 refine Wk ?_
 refine ret_eq ?_;simp only[go_sem]
theorem classify_channel (t:Pd):PC Proofs.Tryz.prog 58 [aPd t] (ab (!nchB t)):=by
 obtain⟨k,n,p,q,s,l⟩:=t
 have hsp:(!nchB (.mk k n p q s l))=decide (k=4):=by
  unfold nchB
  by_cases e:k=4
  ·rw[decide_eq_true e];simp [e]
  ·rw[decide_eq_false e];simp [e]
 rw[hsp]
 simp only[aPd_mk]
 refine PC.enter 6 [.tmp 2] [1] Proofs.Tryz.func58 rfl rfl rfl rfl rfl (by simp) (AWp.of ?_);simp only[go_sem]
 refine Wk ?_
 refine ret_eq ?_;simp only[go_sem]
theorem classify_containsV (F:FuncId) (f:Pd→Bool) (hg:∀x,PC Proofs.Tryz.prog F [aPd x] (ab (f x))) (t:Pd):szF t≤1000000→PC Proofs.Tryz.prog 57 [aPd t,.v (.func (.func F) #[] #[])] (ab (!allB (fun x => !f x) t)):=by
 induction t using Pd.ind with
 | _ k n p q s l ih =>
 intro hz
 have hsz:szF (.mk k n p q s l)=szL l+1:=by rw[szF]
 have hll:=szL_len l
 have hf:=(hg (.mk k n p q s l)).val
 have h1:∀x ∈ l,PV Proofs.Tryz.prog (.clo 95 [.rp 1 [.v (.func (.func F) #[] #[])] 0 0]) [aPd x] (ab (!allB (fun x => !f x) x)):=by
  intro x hx
  have hxi:=szL_mem hx
  have hch:=ih x hx (by omega)
  generalize (!allB (fun x => !f x) x)=b at *
  obtain⟨k2,n2,p2,q2,s2,l2⟩:=x
  refine PC.clo ?_
  simp only[aPd_mk] at *
  refine PC.enter 7 [.tmp 3] [2] Proofs.Tryz.func95 rfl rfl rfl rfl rfl (by simp) (AWp.of ?_);simp only[go_sem]
  refine Wk ?_
  refine Sd ?_
  refine(hch).val.use ?_;simp only[go_sem]
  refine Wk ?_
  refine ret_eq ?_;simp only[go_sem]
 have hc:=preds_containsFunc l (by omega) _ rfl (fun x => !allB (fun x => !f x) x) h1
 have hsp:(!allB (fun x => !f x) (.mk k n p q s l))=(f (.mk k n p q s l) || l.any fun x => !allB (fun x => !f x) x):=by
  rw[allB_mk,Bool.not_and,Bool.not_not,List.not_all_eq_any_not]
 rw[hsp]
 generalize f (.mk k n p q s l)=b at *
 generalize (l.any fun x => !allB (fun x => !f x) x)=c at *
 simp only[aPd_mk] at *
 refine PC.enter 14 [.tmp 4] [2,3] Proofs.Tryz.func57 rfl rfl rfl rfl rfl (by simp) (AWp.of ?_);simp only[go_sem]
 refine Wk ?_
 refine Sd ?_
 refine(hf).use ?_;simp only[go_sem]
 refine Sd ?_
 refine Gc hc ?_
 refine Sd ?_
 refine Wk ?_
 refine ret_eq ?_;simp only[go_sem]
theorem not_not_fun (g:Pd→Bool):(fun x => !(!g x))=g:=funext fun x=>Bool.not_not _
theorem classify_hasT (t:Pd) (hz:szF t≤1000000):PC Proofs.Tryz.prog 57 [aPd t,.v (.func (.func 59) #[] #[])] (ab (!allB ntmB t)):=by
 have h:=classify_containsV 59 (fun x => !ntmB x) classify_temporal t hz
 rwa [not_not_fun] at h
theorem classify_hasC (t:Pd) (hz:szF t≤1000000):PC Proofs.Tryz.prog 57 [aPd t,.v (.func (.func 58) #[] #[])] (ab (!allB nchB t)):=by
 have h:=classify_containsV 58 (fun x => !nchB x) classify_channel t hz
 rwa [not_not_fun] at h
mutual
def cnS {S:Type} (f:Pd→S→Bool × S):Pd→S→Bool × S
 | .mk k n p q s l,st=>if (f (.mk k n p q s l) st).1 then (true,(f (.mk k n p q s l) st).2) else cnL f l (f (.mk k n p q s l) st).2
def cnL {S:Type} (f:Pd→S→Bool × S):List Pd→S→Bool × S
 | [],st=>(false,st)
 | x :: r,st=>if (cnS f x st).1 then (true,(cnS f x st).2) else cnL f r (cnS f x st).2
end
theorem cnL_find {S:Type} (f:Pd→S→Bool × S):∀(l:List Pd) (st:S),(findS (cnS f) l st).1.isSome=(cnL f l st).1∧(findS (cnS f) l st).2=(cnL f l st).2
 | [],st=>by rw[findS,cnL];exact⟨rfl,rfl⟩
 | x :: r,st=>by
  have ih:=cnL_find f r (cnS f x st).2
  rw[findS,cnL]
  by_cases h:(cnS f x st).1=true
  ·rw[if_pos h,if_pos h];exact⟨rfl,rfl⟩
  ·rw[if_neg h,if_neg h];exact⟨by rw[← ih.1];simp,ih.2⟩
theorem classify_containsS {S:Type} (f:Pd→S→Bool × S) (Ls:S→AHeap) (F:FuncId) (cs:List AV) (hg:∀x st,MVal Proofs.Tryz.prog (.clo F cs) [aPd x] (Ls st) fun r L=>r=ab (f x st).1∧L=Ls (f x st).2) (t:Pd) :
  szF t≤1000000→∀st,MCalls Proofs.Tryz.prog 57 [aPd t,.clo F cs] (Ls st) fun r L=>r=ab (cnS f t st).1∧L=Ls (cnS f t st).2:=by
 induction t using Pd.ind with
 | _ k n p q s l ih =>
 intro hz st
 have hsz:szF (.mk k n p q s l)=szL l+1:=by rw[szF]
 have hll:=szL_len l
 have hf:=hg (.mk k n p q s l) st
 have h1:∀x ∈ l,∀st,True→MVal Proofs.Tryz.prog (.clo 95 [.rp 1 [.clo F cs] 0 0]) [aPd x] (Ls st) fun r L=>r=ab (cnS f x st).1∧L=Ls (cnS f x st).2:=by
  intro x hx st _
  have hxi:=szL_mem hx
  have hch:=ih x hx (by omega) st
  generalize cnS f x st=b at *
  obtain⟨k2,n2,p2,q2,s2,l2⟩:=x
  refine MCalls.clo (args:=[_]) (caps:=[_]) ?_
  simp only[aPd_mk] at *
  refine MCalls.enter' 7 [.tmp 3] [2] Proofs.Tryz.func95 rfl rfl rfl rfl rfl (by simp) (AWp.of ?_);simp only[go_sem]
  refine Wk ?_
  refine hch.val.mono ?_
  rintro r L ⟨rfl,rfl⟩
  simp only[go_sem]
  refine Wk ?_
  refine ret_own ?_
  simp only[go_sem]
 have hc:=preds_containsS (cnS f) Ls (fun _=>True) l (by omega) (.clo 95 [.rp 1 [.clo F cs] 0 0]) rfl h1 (fun _ _ _ _ _=>trivial) (f (.mk k n p q s l) st).2 trivial
 rw[(cnL_find f l _).1,(cnL_find f l _).2] at hc
 have hsp:cnS f (.mk k n p q s l) st=if (f (.mk k n p q s l) st).1 then (true,(f (.mk k n p q s l) st).2) else cnL f l (f (.mk k n p q s l) st).2:=by rw[cnS]
 rw[hsp]
 generalize f (.mk k n p q s l) st=q0 at *
 obtain⟨a,s1⟩:=q0
 generalize cnL f l s1=q1 at *
 simp only[aPd_mk] at *
 clear hsp ih h1
 cases a with
 | true =>
  simp only[if_true]
  refine MCalls.enter' 14 [.tmp 4] [2,3] Proofs.Tryz.func57 rfl rfl rfl rfl rfl (by simp) (AWp.of ?_);simp only[go_sem]
  refine AWp.seq (AWp.regionF ?_)
  simp only[go_sem]
  refine hf.mono ?_
  rintro r L ⟨rfl,rfl⟩
  simp only[go_sem]
  refine Wk ?_
  refine ret_own ?_
  simp only[go_sem]
 | false =>
  simp only[Bool.false_eq_true,if_false]
  refine MCalls.enter' 14 [.tmp 4] [2,3] Proofs.Tryz.func57 rfl rfl rfl rfl rfl (by simp) (AWp.of ?_);simp only[go_sem]
  refine AWp.seq (AWp.regionF ?_)
  simp only[go_sem]
  refine hf.mono ?_
  rintro r L ⟨rfl,rfl⟩
  simp only[go_sem]
  refine hc.val.mono ?_
  rintro r L ⟨rfl,rfl⟩
  simp only[go_sem]
  refine Wk ?_
  refine ret_own ?_
  simp only[go_sem]
def lcS:Pd→Int × Bool→Bool × (Int × Bool)
 | .mk k _ p _ _ _,st=>if k=2∨k=3 then (decide (¬p=if st.2 then st.1 else p),(if st.2 then st.1 else p,true)) else (false,st)
def lcL (b5 b4:Nat) (st:Int × Bool):AHeap:=[(b5,.row 4 1 [ab st.2] 1),(b4,.row 3 1 [ai st.1] 1)]
theorem kind_leaf (k:Int):([2,3]:List Int).any (fun x=>decide (k=x))=decide (k=2∨k=3):=by
 rw[Bool.eq_iff_iff]
 simp
theorem classify_local1 (b5 b4:Nat) (hb:¬b5=b4) (x:Pd) (st:Int × Bool):MCalls Proofs.Tryz.prog 85 [aPd x,.lp b5 1 0 0,.lp b4 1 0 0] (lcL b5 b4 st) fun r L=>r=ab (lcS x st).1∧L=lcL b5 b4 (lcS x st).2:=by
 have h1:=classify_is [2,3]
 have h2:=classify_is1 [2,3] (by decide) x
 rw[kind_leaf] at h2
 have hb2:¬b4=b5:=fun e=>hb e.symm
 obtain⟨k,n,p,q,s,l⟩:=x
 obtain⟨pr,fd⟩:=st
 have hsp:lcS (.mk k n p q s l) (pr,fd)=if k=2∨k=3 then (decide (¬p=if fd then pr else p),(if fd then pr else p,true)) else (false,(pr,fd)):=rfl
 rw[hsp]
 have hk2:decide ((Pd.mk k n p q s l).kind=2∨(Pd.mk k n p q s l).kind=3)=decide (k=2∨k=3):=rfl
 rw[hk2] at h2
 have h2:=PC.clo (args:=[_]) (caps:=[_]) h2
 generalize hB:decide (k=2∨k=3)=B at h2
 simp only[ aPd_mk,List.map_cons,List.map_nil] at h1 h2 ⊢
 unfold lcL
 by_cases hk:k=2∨k=3
 ·rw[decide_eq_true hk] at hB
  subst hB
  rw[if_pos hk]
  cases fd with
  | true =>
   simp only[if_true]
   refine MCalls.enter' 18 [.tmp 4] [3,5] Proofs.Tryz.func85 rfl rfl rfl rfl rfl (by simp) (AWp.of ?_);simp only[go_sem]
   repeat(first|(with_reducible refine AWp.seq ?_)|(with_reducible refine AWp.block ?_))
   refine AWp.mix mixed [2] (.step 0 (.step 1 (.step 3 (.step 4 .done .done) .done) .done) .done) (by kernel_rfl) ?_;simp only[go_sem]
   refine Sd ?_
   refine(h1).val.use ?_;simp only[go_sem]
   refine Sd ?_
   refine(h2).use ?_;simp only[go_sem]
   refine W2 hb hb2 ?_
   refine ret_own ?_
   simp only[go_sem]
  | false =>
   simp only[Bool.false_eq_true,if_false]
   refine MCalls.enter' 18 [.tmp 4] [3,5] Proofs.Tryz.func85 rfl rfl rfl rfl rfl (by simp) (AWp.of ?_);simp only[go_sem]
   repeat(first|(with_reducible refine AWp.seq ?_)|(with_reducible refine AWp.block ?_))
   refine AWp.mix mixed [2] (.step 0 (.step 1 (.step 3 (.step 4 .done .done) .done) .done) .done) (by kernel_rfl) ?_;simp only[go_sem]
   refine Sd ?_
   refine(h1).val.use ?_;simp only[go_sem]
   refine Sd ?_
   refine(h2).use ?_;simp only[go_sem]
   refine W2 hb hb2 ?_
   refine ret_own ?_
   simp only[go_sem]
 ·rw[decide_eq_false hk] at hB
  subst hB
  rw[if_neg hk]
  refine MCalls.enter' 18 [.tmp 4] [3,5] Proofs.Tryz.func85 rfl rfl rfl rfl rfl (by simp) (AWp.of ?_);simp only[go_sem]
  repeat(first|(with_reducible refine AWp.seq ?_)|(with_reducible refine AWp.block ?_))
  refine AWp.mix mixed [2] (.step 0 (.step 1 (.step 3 (.step 4 .done .done) .done) .done) .done) (by kernel_rfl) ?_;simp only[go_sem]
  refine Sd ?_
  refine(h1).val.use ?_;simp only[go_sem]
  refine Sd ?_
  refine(h2).use ?_;simp only[go_sem]
  refine W2 hb hb2 ?_
  refine ret_own ?_
  simp only[go_sem]
def locR (t:Pd):Int × Bool:=if (!allB ntmB t || !allB nchB t)=true then (0,false) else ((cnS lcS t (0,false)).2.1,!(cnS lcS t (0,false)).1)
theorem classify_local (t:Pd) (hz:szF t≤1000000):PC Proofs.Tryz.prog 52 [aPd t] (.tup [ai (locR t).1,ab (locR t).2]):=by
 have h1:=classify_hasT t hz
 have h2:=classify_hasC t hz
 have hcl:=fun (b5 b4:Nat) (hb:¬b5=b4)=>classify_containsS lcS (lcL b5 b4) 85 [.lp b5 1 0 0,.lp b4 1 0 0] (fun x st=>MCalls.clo (args:=[_]) (caps:=[_,_]) (classify_local1 b5 b4 hb x st)) t hz (0,false)
 have hsp:locR t=if (!allB ntmB t || !allB nchB t)=true then (0,false) else ((cnS lcS t (0,false)).2.1,!(cnS lcS t (0,false)).1):=rfl
 generalize locR t=R at *
 generalize cnS lcS t (0,false)=c at *
 generalize (!allB ntmB t)=A at *
 generalize (!allB nchB t)=B at *
 obtain⟨k,n,p,q,s,l⟩:=t
 obtain⟨o,pr,fd⟩:=c
 simp only[aPd_mk] at *
 unfold lcL at hcl
 cases A with
 | true =>
  rw[if_pos (by rfl)] at hsp
  subst hsp
  refine PC.enter 19 [.tmp 2,.tmp 3] [1] Proofs.Tryz.func52 rfl rfl rfl rfl rfl (by simp) (AWp.of ?_);simp only[go_sem]
  refine Wk ?_
  refine Sd ?_
  refine(h1).val.use ?_;simp only[go_sem]
  refine GCall.use .any (fun h=>absurd h (by simp)) ?_
  simp only[go_sem]
  refine Wk ?_
  refine ret_eq ?_;simp only[go_sem]
 | false =>
  cases B with
  | true =>
   rw[if_pos (by rfl)] at hsp
   subst hsp
   refine PC.enter 19 [.tmp 2,.tmp 3] [1] Proofs.Tryz.func52 rfl rfl rfl rfl rfl (by simp) (AWp.of ?_);simp only[go_sem]
   refine Wk ?_
   refine Sd ?_
   refine(h1).val.use ?_;simp only[go_sem]
   refine Sd ?_
   refine Gc h2 ?_
   refine Sd ?_
   refine Wk ?_
   refine ret_eq ?_;simp only[go_sem]
  | false =>
   rw[if_neg (by decide)] at hsp
   subst hsp
   refine PC.enter 19 [.tmp 2,.tmp 3] [1] Proofs.Tryz.func52 rfl rfl rfl rfl rfl (by simp) (AWp.of ?_);simp only[go_sem]
   refine Wk ?_
   refine Sd ?_
   refine(h1).val.use ?_;simp only[go_sem]
   refine Sd ?_
   refine Gc h2 ?_
   refine Sd ?_
   refine Wk ?_
   intro b4 b5 hlt
   have n1:¬b5=b4:=by omega
   have n2:¬b4=b5:=by omega
   simp only[go_sem,n1,n2]
   refine Sd ?_
   refine W2 n1 n2 ?_
   refine(hcl b5 b4 n1).val.mono ?_
   rintro r L ⟨rfl,rfl⟩
   simp only[go_sem]
   refine W2 n1 n2 ?_
   refine ret_eq ?_;simp only[go_sem]
def aPds (l:List Pd):AV:=.sl 6 (l.map aPd)
def GrowP (n:Nat) (r:AV) (L:AHeap):Prop:=(n=0∧r=anil∧L=[])∨∃b cap,n≤cap∧r = .ls b 6 0 0 cap∧L=[(b,.row 24 6 (List.replicate n aPd0) cap)]
theorem preds_grow (n:Nat) (hn:n≤1000000):MCalls Proofs.Tryz.prog 120 [anil,ai (n:Nat)] [] (GrowP n):=by
 refine MCalls.enter' 27 [.tmp 4] [] Proofs.Tryz.func120 rfl rfl rfl rfl rfl (by simp) (AWp.of ?_);simp only[go_sem]
 refine Wk ?_
 intro _
 refine Wk ?_
 refine Wk ?_
 refine⟨fun h1 => ?_,fun h1 => ?_⟩
 ·refine Wk ?_
  intro b cap hc
  refine Wk ?_
  refine ret_own ?_
  simp only[go_sem]
  have e:((n:Int) - (((0:Nat):Int) - ((0:Nat):Int))).toNat=n:=by omega
  rw[e]
  exact .inr ⟨b,cap,by omega,by simp,rfl⟩
 ·have:n=0:=by omega
  refine Wk ?_
  refine ret_own ?_
  simp only[go_sem]
  exact .inl ⟨this,rfl,rfl⟩
def CatP (ls:List (List Pd)) (k:Nat) (v:AV) (L:AHeap):Prop :=
 (ls.flatten=[]∧v=anil∧L=[])∨∃b cap xs,v = .ls b 6 0 (ls.take k).flatten.length cap∧L=[(b,.row 24 6 xs cap)]∧(ls.take k).flatten.length≤xs.length∧xs.take (ls.take k).flatten.length=(ls.take k).flatten.map aPd
theorem flatP_succ {ls:List (List Pd)} {k:Nat} (hk:k<ls.length):(ls.take (k+1)).flatten=(ls.take k).flatten ++ ls[k]:=by
 rw[List.take_succ_eq_append_getElem hk,List.flatten_append];simp
theorem flatP_le {ls:List (List Pd)} (k:Nat):(ls.take k).flatten.length≤ls.flatten.length:=by
 conv=>rhs;rw[← List.take_append_drop k ls,List.flatten_append,List.length_append]
 omega
theorem preds_concat (ls:List (List Pd)) (hl:ls.length≤100000000) (hf:ls.flatten.length≤1000000) :
  MCalls Proofs.Tryz.prog 84 [.sl 1 (ls.map aPds)] [] fun r L=>CatP ls ls.length r L:=by
 have hR:∀x:List Pd,aPds x = .sl 6 (x.map aPd):=fun _=>rfl
 refine MCalls.enter' 36 [.tmp 2] [] Proofs.Tryz.func84 rfl rfl rfl rfl rfl (by simp) (AWp.of ?_);simp only[go_sem]
 refine Wk ?_
 refine AWp.range' ls.length [3] [0,9,10] (fun k vs L=>L=[]∧vs=[ai ((ls.take k).flatten.length:Nat)]) (by omega) rfl rfl rfl ⟨rfl,by rw[List.take_zero];rfl⟩ ?_ ?_
 ·rintro k vs L hk - ⟨rfl,rfl⟩
  have h1:=flatP_le (ls:=ls) k
  have h2:=flatP_le (ls:=ls) (k+1)
  have h3:=congrArg List.length (flatP_succ hk)
  rw[List.length_append] at h3
  have hg:=getD_map (f:=aPds) hk
  simp only[go_sem]
  refine W2 hg hR ?_
  intro _
  refine Wk ?_
  exact⟨_,List.Sublist.refl _,rfl,by rw[h3];simp⟩
 ·rintro vs L - ⟨rfl,rfl⟩
  rw[List.take_length]
  simp only[go_sem]
  refine Wk ?_
  refine(preds_grow _ hf).val.mono ?_
  intro r L hr
  have hI:CatP ls 0 r L:=by
   rcases hr with ⟨h0,rfl,rfl⟩|⟨b,cap,hc,rfl,rfl⟩
   ·exact .inl ⟨List.eq_nil_of_length_eq_zero h0,rfl,rfl⟩
   ·exact .inr ⟨b,cap,_,by simp,rfl,by simp,by simp⟩
  clear hr
  have hfo:fo r=(True,r):=by rcases hI with ⟨_,rfl,_⟩|⟨b,cap,xs,rfl,_⟩ <;> rfl
  simp only[go_sem,hfo]
  refine W1 hfo ?_
  refine AWp.range' ls.length [6] [25,26] (fun k vs L=>∃v,vs=[v]∧CatP ls k v L) (by omega) rfl rfl rfl ⟨_,rfl,hI⟩ ?_ ?_
  ·clear hI
   rintro k vs L hk - ⟨v,rfl,hC⟩
   have h2:=flatP_le (ls:=ls) (k+1)
   have hs:=flatP_succ hk
   have h3:=congrArg List.length hs
   rw[List.length_append] at h3
   have hg:=getD_map (f:=aPds) hk
   have hll:(ls[k].map aPd).length=ls[k].length:=List.length_map _
   rcases hC with ⟨h0,rfl,rfl⟩|⟨b,cap,xs,rfl,rfl,hx,ht⟩
   ·have he:ls[k].map aPd=[]:=by
     rw[List.flatten_eq_nil_iff.1 h0 _ (List.getElem_mem hk)];rfl
    simp only[go_sem]
    refine W3 hg hR he ?_
    exact⟨_,List.Sublist.refl _,_,rfl,.inl ⟨h0,rfl,rfl⟩⟩
   ·have hy:(ls.take (k+1)).flatten.map aPd=(ls.take k).flatten.map aPd ++ ls[k].map aPd:=by rw[hs,List.map_append]
    unfold CatP
    rw[hy,h3,← ht]
    simp only[go_sem]
    refine W2 hg hR ?_
    intro b' cap' hc
    refine⟨_,List.Sublist.refl _,_,rfl,.inr ⟨b',cap',_,rfl,rfl,?_,?_⟩⟩
    ·rw[List.length_append,List.length_take];omega
    ·rw[List.take_of_length_le (by rw[List.length_append,List.length_take];omega)]
  ·clear hI
   rintro vs L - ⟨v,rfl,hC⟩
   have hfo:fo v=(True,v):=by rcases hC with ⟨_,rfl,_⟩|⟨b,cap,xs,rfl,_⟩ <;> rfl
   simp only[go_sem,hfo]
   refine W1 hfo ?_
   refine ret_own ?_
   simp only[go_sem,hfo]
   exact hC
theorem preds_concatP (ls:List (List Pd)) (hl:ls.length≤100000000) (hf:ls.flatten.length≤1000000):PC Proofs.Tryz.prog 84 [.sl 1 (ls.map aPds)] (aPds ls.flatten):=by
 refine(preds_concat ls hl hf).pc fun r L h => ?_
 have haR:aPds ls.flatten = .sl 6 (ls.flatten.map aPd):=rfl
 rw[haR]
 rcases h with ⟨h1,rfl,rfl⟩|⟨b,cap,xs,rfl,rfl,h1,h2⟩
 ·rw[h1];exact .nil 6
 ·rw[List.take_length] at h1 h2 ⊢
  refine .ls (if_pos rfl) (by omega) ?_ ?_
  ·rw[List.drop_zero,h2]
  ·rw[List.drop_zero,h2]
   intro i x y hx hy
   rw[hx] at hy;cases hy;exact .refl _
mutual
def prtF (kd:Int):Pd→List Pd × Bool
 | .mk k n p q s l=>if (locR (.mk k n p q s l)).2=true then ([.mk k n p q s l],true) else if k ≠ kd then ([],false) else match prtL kd l with | [a,b]=>(a.1 ++ b.1,a.2 && b.2)|_=>([],false)
def prtL (kd:Int):List Pd→List (List Pd × Bool)
 | []=>[]
 | x :: r=>prtF kd x :: prtL kd r
end
theorem prtL_map (kd:Int):∀l,prtL kd l=l.map (prtF kd)
 | []=>by rw[prtL];rfl
 | x :: r=>by rw[prtL,prtL_map kd r];rfl
theorem prtF_mk (kd k n p q:Int) (s:ByteArray) (l:List Pd):prtF kd (.mk k n p q s l)=if (locR (.mk k n p q s l)).2=true then ([.mk k n p q s l],true) else if k ≠ kd then ([],false) else match l.map (prtF kd) with | [a,b]=>(a.1 ++ b.1,a.2 && b.2)|_=>([],false):=by rw[prtF,prtL_map]
theorem prtF_len (kd:Int) (t:Pd):(prtF kd t).1.length≤szF t:=by
 induction t using Pd.ind with
 | _ k n p q s l ih =>
 have hz:=szF_pos (.mk k n p q s l)
 have hsz:szF (.mk k n p q s l)=szL l+1:=by rw[szF]
 rw[prtF_mk]
 split
 ·exact hz
 ·split
  ·exact Nat.zero_le _
  ·split
   ·rename_i a b e
    match l,e with
    | [x,y],e =>
     simp only[List.map_cons,List.map_nil,List.cons.injEq,and_true] at e
     obtain⟨rfl,rfl⟩:=e
     have h1:=ih x (by simp)
     have h2:=ih y (by simp)
     rw[hsz]
     simp only[szL,List.length_append]
     omega
   ·exact Nat.zero_le _
theorem classify_parts (kd:Int) (hkd:kd=16∨kd=17) (t:Pd):szF t≤1000000→allB locB t=true→PC Proofs.Tryz.prog 51 [aPd t,ai kd] (.tup [aPds (prtF kd t).1,ab (prtF kd t).2]):=by
 induction t using Pd.ind with
 | _ k n p q s l ih =>
 intro hz hloc
 have hsz:szF (.mk k n p q s l)=szL l+1:=by rw[szF]
 have hll:=szL_len l
 rw[allB_mk,Bool.and_eq_true] at hloc
 obtain⟨hlc,hcl⟩:=hloc
 have hpl:=locB_len hlc
 have hlo:=classify_local (.mk k n p q s l) hz
 have hsp:=prtF_mk kd k n p q s l
 have hR:∀x:List Pd,aPds x = .sl 6 (x.map aPd):=fun _=>rfl
 have hch:=fun i (hi:i<l.length)=>ih l[i] (List.getElem_mem hi) (by have:=szL_mem (List.getElem_mem hi);omega) (List.all_eq_true.1 hcl _ (List.getElem_mem hi))
 have hAP:aPd (.mk k n p q s l) = .agg [ai k,ai n,ai p,ai q,astr s,.sl 6 (l.map aPd)]:=aPd_mk ..
 by_cases hl:(locR (.mk k n p q s l)).2=true
 ·rw[if_pos hl] at hsp
  rw[hsp,hR]
  rw[hl] at hlo
  generalize (locR (.mk k n p q s l)).1=pr at *
  simp only[List.map_cons,List.map_nil,aPd_mk] at *
  refine PC.enter 50 [.tmp 4,.tmp 5] [2,19,44] Proofs.Tryz.func51 rfl rfl rfl rfl rfl (by simp) (AWp.of ?_);simp only[go_sem]
  refine Wk ?_
  refine Sd ?_
  refine(hlo).val.use ?_;simp only[go_sem]
  refine Wk ?_
  refine ret_eq ?_;simp only[go_sem]
 ·rw[if_neg hl] at hsp
  rw[show (locR (.mk k n p q s l)).2=false by simpa using hl] at hlo
  generalize (locR (.mk k n p q s l)).1=pr at *
  by_cases hk:k=kd
  ·rw[if_neg (not_not_intro hk)] at hsp
   have hp2:partsF k=2:=by rcases hkd with rfl|rfl <;> (rw[hk];decide)
   obtain⟨x,y,rfl⟩:=len_two (l:=l) (by omega)
   have hx:=hch 0 (by simp)
   have hy:=hch 1 (by simp)
   have hl1:=prtF_len kd x
   have hl2:=prtF_len kd y
   simp only[List.getElem_cons_zero,List.getElem_cons_succ,szL,List.map_cons,List.map_nil] at hx hy hsz hsp
   have hcc:=preds_concatP [(prtF kd x).1,(prtF kd y).1] (by simp) (by simp;omega)
   rw[hsp]
   generalize prtF kd x=A at *
   generalize prtF kd y=B at *
   obtain⟨a1,a2⟩:=A
   obtain⟨b1,b2⟩:=B
   simp only[List.map_cons,List.map_nil,List.flatten_cons,List.flatten_nil,List.append_nil] at hcc ⊢
   clear hch ih
   obtain⟨k1,o1,p1,q1,s1,l1⟩:=x
   obtain⟨k2,o2,p2,q2,s2,l2⟩:=y
   simp only[List.map_cons,List.map_nil,aPd_mk] at *
   rw[hR] at hx hy hcc
   have hR2:=hR b1
   have hR3:=hR (a1 ++ b1)
   rw[hR2,hR3] at hcc
   rw[hR3]
   refine PC.enter 50 [.tmp 4,.tmp 5] [2,19,44] Proofs.Tryz.func51 rfl rfl rfl rfl rfl (by simp) (AWp.of ?_);simp only[go_sem]
   refine Wk ?_
   refine Sd ?_
   refine(hlo).val.use ?_;simp only[go_sem]
   refine W1 hk ?_
   refine Sd ?_
   refine(hx).val.use ?_;simp only[go_sem]
   refine Wk ?_
   refine Sd ?_
   refine(hy).val.use ?_;simp only[go_sem]
   refine Wk ?_
   refine Sd ?_
   refine(hcc).val.use ?_;simp only[go_sem]
   refine Wk ?_
   refine ret_eq ?_;simp only[go_sem]
  ·rw[if_pos hk] at hsp
   rw[hsp,hR]
   simp only[aPd_mk] at *
   refine PC.enter 50 [.tmp 4,.tmp 5] [2,19,44] Proofs.Tryz.func51 rfl rfl rfl rfl rfl (by simp) (AWp.of ?_);simp only[go_sem]
   refine Wk ?_
   refine Sd ?_
   refine(hlo).val.use ?_;simp only[go_sem]
   refine W1 hk ?_
   refine ret_view [] ?_;simp only[go_sem]
   exact .mkTup (Vws.cons (.nil 6) (Vws.refl _))
mutual
def kpF (kd proc:Int):Pd→Pd × Bool
 | .mk k n p q s l=>if (locR (.mk k n p q s l)).2=true then (.mk k n p q s l,decide ((locR (.mk k n p q s l)).1=proc)) else match kpL kd proc l with
  | [a,b]=>if a.2=true∧b.2=true then (.mk kd 0 0 0 ByteArray.empty [a.1,b.1],true) else if a.2=true then (a.1,true) else (b.1,b.2)
  | _=>(pd0,false)
def kpL (kd proc:Int):List Pd→List (Pd × Bool)
 | []=>[]
 | x :: r=>kpF kd proc x :: kpL kd proc r
end
theorem kpL_map (kd proc:Int):∀l,kpL kd proc l=l.map (kpF kd proc)
 | []=>by rw[kpL];rfl
 | x :: r=>by rw[kpL,kpL_map kd proc r];rfl
theorem kpF_mk (kd proc k n p q:Int) (s:ByteArray) (l:List Pd):kpF kd proc (.mk k n p q s l)=if (locR (.mk k n p q s l)).2=true then (.mk k n p q s l,decide ((locR (.mk k n p q s l)).1=proc)) else match l.map (kpF kd proc) with
  | [a,b]=>if a.2=true∧b.2=true then (.mk kd 0 0 0 ByteArray.empty [a.1,b.1],true) else if a.2=true then (a.1,true) else (b.1,b.2)
  | _=>(pd0,false):=by rw[kpF,kpL_map]
theorem classify_copied (t:Pd) (hz:szF t≤1000000):PC Proofs.Tryz.prog 66 [aPd t] (aPd t):=(classify_copiedM t hz).pc fun _ _ h=>copK_vw h
theorem classify_kept (kd proc:Int) (hkd:kd=16∨kd=17) (t:Pd):szF t≤1000000→allB locB t=true→(prtF kd t).2=true→PC Proofs.Tryz.prog 96 [aPd t,ai kd,ai proc] (.tup [aPd (kpF kd proc t).1,ab (kpF kd proc t).2]):=by
 induction t using Pd.ind with
 | _ k n p q s l ih =>
 intro hz hloc hpr
 have hsz:szF (.mk k n p q s l)=szL l+1:=by rw[szF]
 have hll:=szL_len l
 rw[allB_mk,Bool.and_eq_true] at hloc
 obtain⟨hlc,hcl⟩:=hloc
 have hpl:=locB_len hlc
 have hlo:=classify_local (.mk k n p q s l) hz
 have hcp:=classify_copied (.mk k n p q s l) hz
 have hsp:=kpF_mk kd proc k n p q s l
 rw[prtF_mk] at hpr
 have hch:=fun i (hi:i<l.length)=>ih l[i] (List.getElem_mem hi) (by have:=szL_mem (List.getElem_mem hi);omega) (List.all_eq_true.1 hcl _ (List.getElem_mem hi))
 by_cases hl:(locR (.mk k n p q s l)).2=true
 ·rw[if_pos hl] at hsp
  rw[hsp]
  rw[hl] at hlo
  generalize (locR (.mk k n p q s l)).1=pr at *
  simp only[aPd_mk] at *
  refine PC.enter 60 [.cell 6 24,.tmp 7] [3,10,12,53] Proofs.Tryz.func96 rfl rfl rfl rfl rfl (by simp) (AWp.of ?_);simp only[go_sem]
  intro b6
  refine Wk ?_
  refine Sd ?_
  refine(hlo).val.use ?_;simp only[go_sem]
  refine Wk ?_
  refine Sd ?_
  refine(hcp).val.use ?_;simp only[go_sem]
  refine Wk ?_
  refine ret_eq ?_;simp only[go_sem]
 ·rw[if_neg hl] at hsp hpr
  rw[show (locR (.mk k n p q s l)).2=false by simpa using hl] at hlo
  generalize (locR (.mk k n p q s l)).1=pr at *
  by_cases hk:k=kd
  ·rw[if_neg (not_not_intro hk)] at hpr
   have hp2:partsF k=2:=by rcases hkd with rfl|rfl <;> (rw[hk];decide)
   obtain⟨x,y,rfl⟩:=len_two (l:=l) (by omega)
   simp only[List.map_cons,List.map_nil,Bool.and_eq_true] at hpr hsp
   have hx:=hch 0 (by simp) hpr.1
   have hy:=hch 1 (by simp) hpr.2
   simp only[List.getElem_cons_zero,List.getElem_cons_succ] at hx hy
   rw[hsp]
   clear hsp hch ih hcp hpr
   generalize kpF kd proc x=A at *
   generalize kpF kd proc y=B at *
   obtain⟨a,a2⟩:=A
   obtain⟨b,b2⟩:=B
   obtain⟨k1,o1,p1,q1,s1,l1⟩:=x
   obtain⟨k2,o2,p2,q2,s2,l2⟩:=y
   obtain⟨k3,o3,p3,q3,s3,l3⟩:=a
   obtain⟨k4,o4,p4,q4,s4,l4⟩:=b
   simp only[List.map_cons,List.map_nil,aPd_mk] at *
   cases a2 <;> cases b2
   all_goals
    simp only[Bool.false_eq_true,if_false,if_true,and_self,and_true,true_and,false_and,aPd_mk,List.map_cons,List.map_nil]
    refine PC.enter 60 [.cell 6 24,.tmp 7] [3,10,12,53] Proofs.Tryz.func96 rfl rfl rfl rfl rfl (by simp) (AWp.of ?_);simp only[go_sem]
    intro b6
    refine Wk ?_
    refine Sd ?_
    refine(hlo).val.use ?_;simp only[go_sem]
    refine Wk ?_
    refine Sd ?_
    refine(hx).val.use ?_;simp only[go_sem]
    refine Wk ?_
    intro b10 g10
    have n1:¬b6=b10:=by omega
    have n2:¬b10=b6:=by omega
    try simp only[go_sem,n1,n2]
    refine Sd ?_
    refine W2 n1 n2 ?_
    refine Sd ?_
    refine(hy).val.use ?_;simp only[go_sem]
    refine W2 n1 n2 ?_
    intro b12 g12
    have n3:¬b6=b12:=by omega
    have n4:¬b12=b6:=by omega
    try simp only[go_sem,n3,n4]
    refine Sd ?_
    refine W2 n3 n4 ?_
    refine ret_eq ?_;simp only[go_sem]
    try rfl
  ·rw[if_pos hk] at hpr
   exact absurd hpr (by simp)
def jnF (kd none:Int) (t:Pd) (i:Nat):Pd:=if (kpF kd i t).2=true then (kpF kd i t).1 else .mk none 0 0 0 ByteArray.empty []
def jnR (kd none:Int) (t:Pd) (i:Nat):AV:=if (kpF kd i t).2=true then aPd (kpF kd i t).1 else .agg [ai none,ai 0,ai 0,ai 0,astr ByteArray.empty,anil]
theorem jnR_vw (kd none:Int) (t:Pd) (i:Nat) (L:AHeap):Vw L (jnR kd none t i) (aPd (jnF kd none t i)):=by
 unfold jnR jnF
 split
 ·exact .refl _
 ·rw[aPd_mk]
  exact .mkAgg (Vws.cons (.refl _) (Vws.cons (.refl _) (Vws.cons (.refl _) (Vws.cons (.refl _) (Vws.cons (.refl _) (Vws.cons (.nil 6) .nil))))))
def jnL (n:Nat) (kd none:Int) (t:Pd):List Pd:=(List.range n).map (jnF kd none t)
def jnA (n:Nat) (kd none:Int) (t:Pd):List AV:=(List.range n).map (jnR kd none t)
theorem jnA_succ (n:Nat) (kd none:Int) (t:Pd):jnA (n+1) kd none t=jnA n kd none t ++ [jnR kd none t n]:=by
 unfold jnA;rw[List.range_succ,List.map_append];rfl
theorem classify_joined (ps:List Pr) (hs:Sm ps) (kd none:Int) (hkd:kd=16∨kd=17) (t:Pd) (hz:szF t≤1000000) (hloc:allB locB t=true) (hpr:(prtF kd t).2=true) :
  PC Proofs.Tryz.prog 60 [aTr ps,aPd t,ai kd,ai none] (aPds (jnL ps.length kd none t)):=by
 have hkp:=fun proc=>classify_kept kd proc hkd t hz hloc hpr
 have hps:=hs.procs
 have hA0:jnA 0 kd none t=[]:=rfl
 have hR:aPds (jnL ps.length kd none t) = .sl 6 ((jnL ps.length kd none t).map aPd):=rfl
 have hyl2:(jnA ps.length kd none t).length=ps.length:=by unfold jnA;simp
 have hjl:((jnL ps.length kd none t).map aPd).length=ps.length:=by unfold jnL;simp
 have hvw:∀(L:AHeap) (i:Nat) x y,(jnA ps.length kd none t)[i]?=some x→((jnL ps.length kd none t).map aPd)[i]?=some y→Vw L x y:=fun L i x y hx hy=>by
  unfold jnA at hx
  unfold jnL at hy
  rw[List.map_map] at hy
  by_cases hi:i<ps.length
  ·rw[List.getElem?_map,List.getElem?_range hi] at hx hy
   cases hx;cases hy
   exact jnR_vw ..
  ·rw[List.getElem?_eq_none (by simp;omega)] at hx
   cases hx
 rw[hR]
 generalize (jnL ps.length kd none t).map aPd=JL at *
 obtain⟨k,n,p,q,s,l⟩:=t
 generalize hT:(Pd.mk k n p q s l)=T at *
 have hTA:aPd T = .agg [ai k,ai n,ai p,ai q,astr s,.sl 6 (l.map aPd)]:=by rw[← hT,aPd_mk]
 rw[hTA] at hkp ⊢
 refine PC.enter 36 [.tmp 8] [4,5,32] Proofs.Tryz.func60 rfl rfl rfl rfl rfl (by simp) (AWp.of ?_);simp only[go_sem]
 refine Wk ?_
 refine AWp.range' ps.length [9] [2,3,5,15] (fun i vs L=>∃v,vs=[v]∧AppSt 24 6 (jnA i kd none T) v L) (by omega) rfl rfl rfl ⟨anil,rfl,by rw[hA0];exact .nil⟩ ?_ ?_
 ·rintro i vs L hi - ⟨v,rfl,hA⟩
  have hfo:=hA.fo
  simp only[go_sem]
  have hk1:=hkp i
  have hsu:=jnA_succ i kd none T
  have hyl:(jnA i kd none T).length=i:=by unfold jnA;simp
  unfold jnR at hsu
  generalize kpF kd i T=A at *
  generalize jnA i kd none T=ys at *
  generalize jnA (i+1) kd none T=zs at *
  obtain⟨⟨k2,o2,p2,q2,s2,l2⟩,okb⟩:=A
  simp only[aPd_mk] at hk1 hsu
  rcases hA.inv with ⟨e1,rfl,rfl⟩|⟨bv,cap,rfl,rfl⟩
  ·cases okb
   all_goals
    simp only[Bool.false_eq_true,if_false,if_true] at hsu
    refine Wk ?_
    refine Sd ?_
    refine(hk1).val.use ?_;simp only[go_sem]
    refine Wk ?_
    intro b11
    refine Sd ?_
    refine Wk ?_
    intro b' cap' g1 g2
    try have n1:¬b11=b':=by omega
    refine W1 n1 ?_
    refine⟨_,List.Sublist.cons_cons _ (List.nil_sublist _),_,rfl,?_⟩
    rw[hsu,e1]
    exact .row b' _ cap'
  ·cases okb
   all_goals
    simp only[Bool.false_eq_true,if_false,if_true] at hsu
    refine Wk ?_
    refine Sd ?_
    refine(hk1).val.use ?_;simp only[go_sem]
    refine Wk ?_
    intro b11 g11
    have n1:¬bv=b11:=by omega
    have n2:¬b11=bv:=by omega
    try simp only[go_sem,n1,n2]
    refine Sd ?_
    refine W2 n1 n2 ?_
    intro b' cap' g1 g2
    refine⟨_,List.Sublist.cons_cons _ (List.nil_sublist _),_,rfl,?_⟩
    rw[hsu]
    exact AppSt.snoc b' cap' _ rfl
 ·rintro vs L - ⟨v,rfl,hA⟩
  have hfo:=hA.fo
  simp only[go_sem,hfo]
  generalize jnA ps.length kd none T=ys at *
  rcases hA.inv with ⟨e1,rfl,rfl⟩|⟨bv,cap,rfl,rfl⟩
  ·have:JL=[]:=List.eq_nil_of_length_eq_zero (by rw[hjl,← hyl2,e1];rfl)
   subst this
   refine Wk ?_
   refine ret_view [] ?_;simp only[go_sem]
   exact .nil 6
  ·refine Wk ?_
   refine ret_view [true] ?_;simp only[go_sem]
   refine .ls (if_pos rfl) (by omega) ?_ ?_
   ·rw[List.drop_zero,List.take_length,hjl,hyl2]
   ·rw[List.drop_zero,List.take_length]
    exact hvw _
end Go.AL
end
section
namespace Go.AL
open Go Go.RowKit
theorem putObj_new {w:World} {b:Nat} {o:Obj} (h:b<w.heap.size):(w.putObj b o).heap[b]?=some o:=by
 simp [World.putObj,h]
section
variable {C:Cfg} {o:Oper} {ρ:Env} {L:AHeap} {K:ARes}
theorem AOp.rangeMap {t kt et:TypeId} {x:Operand} {ks:List Value} {vs:List AV} {s b':Nat} {z:AV} (ho:o.op = .range t x) (ht:tinfo C.P t=some ⟨.map kt et,s,b',z⟩) (hd:dstOk C o) (hx:fo (ev ρ x)=(True,.rm ks vs))
  (h:∀b,fresh L b→K (put ρ o.dst (.lp b 0 0 0)) ((b,.iter ks vs []) :: L)):AOp C o ρ L K :=
 AOp.of_run (by rw[ho];intro c e;cases e) fun w0 M A0 a w A ds hs=>by
  have rx:=fo_ok (hs.ev x) (by rw[hx];trivial)
  rw[hx] at rx
  have hu:=tinfo_map ht
  generalize hxe:a.eval x=u at rx
  cases rx with
  | rm _ _ bm es clock hA hw hk hv hbn hh =>
  have hlt:=hs.l.abnd bm hA
  have hB:BlkRel (w.alloc (.mapIter (some bm) clock #[] clock)) A w.heap.size (.iter ks vs []) :=
   ⟨bm,es,clock,#[],World.alloc_heap_new w _,hA,(Below.heap_alloc w _ bm hlt).trans hw,hk,hv,hbn.1,hbn.2,rfl,by simp,fun i x e h1 h2=>(hh i x e h1 h2).later (fun b hb=>Below.heap_alloc w _ b (hs.l.abnd b hb)) (fun _ h=>h)⟩
  have hg:(getObj bm).run C.P w = .ok (.map es clock) w:=by simp [getObj,Sem.run,hw]
  refine⟨.value (.pointer (some ⟨w.heap.size,0,none⟩)),w.alloc (.mapIter (some bm) clock #[] clock),?_,.inl ⟨_,rfl,?_⟩⟩
  ·unfold execOp;rw[ho]
   simp [Instr.range,hxe,run_underlying hu,hg]
  ·have:=(hs.alloc hB).put hd (x:=.lp w.heap.size 0 0 0) (v:=.pointer (some ⟨w.heap.size,0,none⟩)) (by have:=Rel.lp (w:=w.alloc (.mapIter (some bm) clock #[] clock)) (A:=A) w.heap.size 0 0 0;simpa using this)
   exact post_mk this (h _ hs.fresh)
theorem AOp.nextMap {x:Operand} {ks:List Value} {vs:List AV} {vis:List Nat} {b:Nat} (ho:o.op = .next x false) (hd:dstOk C o) (hx:fo (ev ρ x)=(True,.lp b 0 0 0)) (hb:lk L b=some (.iter ks vs vis))
  (h0:(∀i,i<ks.length→i ∈ vis)→K (put ρ o.dst (.tup [ab false])) L)
  (h1:∀i,i<ks.length→i ∉ vis→K (put ρ o.dst (.tup [ab true,zav (ks.getD i undef),vs.getD i .any])) (upd L b (.iter ks vs (vis ++ [i])))):AOp C o ρ L K :=
 AOp.of_run (by rw[ho];intro c e;cases e) fun w0 M A0 a w A ds hs=>by
  have rx:=fo_ok (hs.ev x) (by rw[hx];trivial)
  rw[hx] at rx
  have hxe:a.eval x = .pointer (some ⟨b,0,none⟩):=by
   generalize a.eval x=u at rx
   cases rx;rfl
  obtain⟨bm,es,clock,seen,g1,g2,g3,g4,g5,g6,g7,g8,g9,g10⟩:=hs.l.lk hb
  have hlen:es.size=ks.length:=by rw[← g4,List.length_map,Array.length_toList]
  have hseen:∀i (hi:i<es.size),(seen.contains es[i].born=true↔i ∈ vis):=fun i hi=>by
   rw[← Array.contains_toList,g8,List.contains_iff_mem]
   constructor
   ·intro hm
    obtain⟨j,hj,e⟩:=List.mem_map.1 hm
    have hjl:=g9 j hj
    have hjl':j<(es.toList.map (·.born)).length:=by simp;omega
    rw[List.getD_eq_getElem?_getD,List.getElem?_eq_getElem hjl'] at e
    have hil':i<(es.toList.map (·.born)).length:=by simp;omega
    have e2:(es.toList.map (·.born))[j]=(es.toList.map (·.born))[i]:=by simpa using e
    have e3:j=i:=by
     by_cases c:j<i
     ·exact absurd e2 (List.pairwise_iff_getElem.1 g7 j i hjl' hil' c)
     ·by_cases c2:i<j
      ·exact absurd e2.symm (List.pairwise_iff_getElem.1 g7 i j hil' hjl' c2)
      ·omega
    rw[← e3];exact hj
   ·intro hm
    exact List.mem_map.2 ⟨i,hm,by simp [List.getD_eq_getElem?_getD,hi]⟩
  have hbm:b ≠ bm:=fun e=>hs.l.disj _ (lk_mem hb) (e ▸ g2)
  rcases run_next_at (P:=C.P) w o.type b bm clock clock seen es clock g1 g3 (fun x hx=>g6 x hx) (Nat.le_refl _) with ⟨hz,hrun⟩|⟨e,he,w1,hw1,hrun⟩
  ·have hall:∀i,i<ks.length→i ∈ vis:=fun i hi=>by
    have hi':i<es.size:=by omega
    refine(hseen i hi').1 ?_
    unfold leftOf at hz
    have:=Array.eq_empty_of_size_eq_zero hz
    rw[Array.filter_eq_empty_iff] at this
    have:=this es[i] (Array.getElem_mem hi')
    simpa using this
   refine⟨.value (.tuple #[.bool false]),w,?_,.inl ⟨_,rfl,?_⟩⟩
   ·unfold execOp;rw[ho]
    simp [hxe,hrun]
   ·exact post_mk (hs.put hd (.tup _ _ rfl fun i c u hc hu=>by
     match i with
     | 0=>simp at hc hu;subst hc;subst hu;exact .v _
     | i+1=>simp at hc)) (h0 hall)
  ·unfold leftOf at he
   simp only[Array.toList_filter,List.mem_filter,Bool.not_eq_true'] at he
   obtain⟨he1,he2⟩:=he
   obtain⟨i,hi,hie⟩:=List.getElem_of_mem he1
   have hi':i<es.size:=by simpa using hi
   have hie:es[i]=e:=by simpa using hie
   subst hie
   have hnv:i ∉ vis:=fun hm=>by rw[(hseen i hi').2 hm] at he2;cases he2
   have hik:i<ks.length:=by omega
   have hw1h:w1.heap=w.heap:=by rcases hw1 with rfl|rfl <;> rfl
   have hs1:StW w0 M A0 C.N ρ L a w1 A ds:=by
    rcases hw1 with rfl|rfl
    ·exact hs
    ·exact hs.drew
   have hput:ChangeMaps.setBlock w1 b (.mapIter (some bm) clock (seen.push es[i].born) clock)=w1.putObj b (.mapIter (some bm) clock (seen.push es[i].born) clock):=rfl
   rw[hput] at hrun
   have hblt:b<w1.heap.size:=by rw[hw1h];exact(hs.l.lk hb).lt
   have hnew:(w1.putObj b (.mapIter (some bm) clock (seen.push es[i].born) clock)).heap[b]?=some (.mapIter (some bm) clock (seen.push es[i].born) clock):=putObj_new hblt
   have hoth:∀m,m ≠ b→(w1.putObj b (.mapIter (some bm) clock (seen.push es[i].born) clock)).heap[m]?=w1.heap[m]?:=fun m hm=>World.putObj_heap_other hm
   have hB:BlkRel (w1.putObj b (.mapIter (some bm) clock (seen.push es[i].born) clock)) A b (.iter ks vs (vis ++ [i])):=by
    refine⟨bm,es,clock,seen.push es[i].born,hnew,g2,?_,g4,g5,g6,g7,?_,?_,fun j x e hx he => ?_⟩
    ·rw[hoth bm (Ne.symm hbm),hw1h];exact g3
    ·rw[Array.toList_push,g8,List.map_append]
     simp [List.getD_eq_getElem?_getD,hi']
    ·intro j hj
     rcases List.mem_append.1 hj with hj|hj
     ·exact g9 j hj
     ·rw[List.mem_singleton.1 hj];exact hik
    ·exact(g10 j x e hx he).later (fun c hc=>by rw[hoth c (fun e=>hs.l.disj _ (lk_mem hb) (e ▸ hc)),hw1h]) (fun _ h=>h)
   have hs2:=hs1.set hb (x:=.iter ks vs (vis ++ [i])) (w':=w1.putObj b (.mapIter (some bm) clock (seen.push es[i].born) clock)) hoth (by simp) rfl rfl rfl rfl hB
   have hkey:ks[i]?.getD undef=es[i].key:=by
    rw[← g4];simp [hi']
   refine⟨.value (.tuple #[.bool true,es[i].key,es[i].val]),w1.putObj b (.mapIter (some bm) clock (seen.push es[i].born) clock),?_,.inl ⟨_,rfl,?_⟩⟩
   ·unfold execOp;rw[ho]
    simp [hxe,hrun]
   ·refine post_mk (hs2.put hd (.tup _ _ rfl fun j c u hc hu => ?_)) (h1 i hik hnv)
    match j with
    | 0=>simp at hc hu;subst hc;subst hu;exact .v _
    | 1=>simp only[List.getElem?_cons_succ,List.getElem?_cons_zero,Option.some.injEq] at hc;simp at hu;subst hc;subst hu;rw[List.getD_eq_getElem?_getD,hkey];exact zav_rel _
    | 2 =>
     simp only[List.getElem?_cons_succ,List.getElem?_cons_zero,Option.some.injEq] at hc;simp at hu;subst hc;subst hu
     refine(g10 i _ _ ?_ (Array.getElem?_eq_getElem hi')).later (fun c hc=>by rw[hoth c (fun e=>hs.l.disj _ (lk_mem hb) (e ▸ hc)),hw1h]) (fun _ h=>h)
     rw[List.getD_eq_getElem?_getD,List.getElem?_eq_getElem (show i<vs.length by omega)];rfl
    | j+3=>simp at hc
theorem AOp.entryMap {x:Operand} {ks:List Value} {vs:List AV} {vis:List Nat} {i b:Nat} (ho:o.op = .entry x) (hd:dstOk C o) (hx:fo (ev ρ x)=(True,.lp b 0 0 0)) (hb:lk L b=some (.iter ks vs (vis ++ [i])))
  (h:K (put ρ o.dst (.tup [zav (ks.getD i undef),vs.getD i .any])) L):AOp C o ρ L K :=
 AOp.of_run (by rw[ho];intro c e;cases e) fun w0 M A0 a w A ds hs=>by
  have rx:=fo_ok (hs.ev x) (by rw[hx];trivial)
  rw[hx] at rx
  have hxe:a.eval x = .pointer (some ⟨b,0,none⟩):=by
   generalize a.eval x=u at rx
   cases rx;rfl
  obtain⟨bm,es,clock,seen,g1,g2,g3,g4,g5,g6,g7,g8,g9,g10⟩:=hs.l.lk hb
  have hi:i<es.size:=by
   have:=g9 i (by simp)
   rw[← g4,List.length_map,Array.length_toList] at this;exact this
  have hsn:seen=(seen.pop).push es[i].born:=by
   rw[List.map_append] at g8
   apply Array.ext'
   rw[Array.toList_push,Array.toList_pop,g8]
   simp [List.getD_eq_getElem?_getD,hi]
  rw[hsn] at g1
  have hrun:=run_entry_at (P:=C.P) w b bm clock seen.pop es clock es[i] g1 g3 (by simp) g7
  have hkey:ks[i]?.getD undef=es[i].key:=by
   rw[← g4];simp [hi]
  have hvl:vs.length=es.size:=by rw[g5,← g4,List.length_map,Array.length_toList]
  refine⟨.value (.tuple #[es[i].key,es[i].val]),w,?_,.inl ⟨_,rfl,?_⟩⟩
  ·unfold execOp;rw[ho]
   simp [hxe,hrun]
  ·refine post_mk (hs.put hd (.tup _ _ rfl fun j c u hc hu => ?_)) h
   match j with
   | 0=>simp at hc hu;subst hc;subst hu;rw[hkey];exact zav_rel _
   | 1 =>
    simp only[List.getElem?_cons_succ,List.getElem?_cons_zero,Option.some.injEq] at hc;simp at hu;subst hc;subst hu
    refine g10 i _ _ ?_ (Array.getElem?_eq_getElem hi)
    rw[List.getD_eq_getElem?_getD,List.getElem?_eq_getElem (show i<vs.length by omega)];rfl
   | j+2=>simp at hc
end
end Go.AL
end
section
namespace Go.AL
open Go Go.RowKit Go.Shelf Go.Proofs
set_option maxRecDepth 4000
def cloneRen:Go.Shelf.Ren:=⟨fun|5=>157|7=>192|n=>n,fun|4=>4|20=>20|23=>115|25=>121|3=>3|n=>n,fun|n=>n⟩
theorem cloneLay:Go.Proofs.SlLaysW.n5 Proofs.Tryz.prog cloneRen where
 mixed:=by kernel_rfl
 f5:=⟨"maps.Clone[map[antecede/classify.atom]int,antecede/classify.atom,int]",by decide,Proofs.Tryz.func157.trans (congrArg some (by kernel_rfl))⟩
 f7:=Proofs.Tryz.func192.trans (congrArg some (by kernel_rfl))
 t4:=Proofs.Tryz.underlying4
 a4:=Proofs.Tryz.isAgg4
 z4:=Proofs.Tryz.sizeOf4
 v4:=Proofs.Tryz.zeroValue4
 t20:=Proofs.Tryz.underlying20
 a20:=Proofs.Tryz.isAgg20
 z20:=Proofs.Tryz.sizeOf20
 v20:=Proofs.Tryz.zeroValue20
 t23:=Proofs.Tryz.underlying115
 a23:=Proofs.Tryz.isAgg115
 z23:=Proofs.Tryz.sizeOf115
 v23:=Proofs.Tryz.zeroValue115
theorem maps_Clone (ks:List Value) (vs:List AV):MCalls Proofs.Tryz.prog 157 [.rm ks vs] [] fun r L=>∃b,r = .lm b∧L=[(b,.amap ks vs)]:=by
 refine⟨cloneLay.f5.enters rfl,fun n w A us hL hr=>callsIn_wide.2 ?_⟩
 obtain⟨u,us',rfl,h1,h2⟩:=hr.inv_cons
 obtain rfl:=h2.inv_nil
 cases h1 with
 | rm _ _ bm es clock hA hw hk hv hbn hh =>
 refine(AnyW.maps_Clone cloneLay bm es clock w hw).mono ?_
 rintro e w' ⟨rfl,rfl⟩
 have keep:∀b,A b→(w.alloc (.map es clock)).heap[b]?=w.heap[b]?:=fun b hb=>Below.heap_alloc w _ b (hL.abnd b hb)
 have hB:BlkRel (w.alloc (.map es clock)) A w.heap.size (.amap ks vs):=⟨es,clock,World.alloc_heap_new w _,hk,hv,hbn.1,hbn.2,fun i x e hx he=>(hh i x e hx he).later keep fun _ h=>h⟩
 refine⟨_,.lm w.heap.size,[(w.heap.size,.amap ks vs)],A,rfl,⟨_,rfl,rfl⟩,Fr.alloc w _ _,fun b hb => .inl hb,hL.alloc hB,fun x hx => ?_,.lm _⟩
 obtain rfl:=List.mem_singleton.1 hx
 exact .inr (Nat.le_refl _)
def NumB (n:Int):Prop:=-1125899906842624≤n∧n≤1125899906842624
instance (n:Int):Decidable (NumB n):=inferInstanceAs (Decidable (_∧_))
theorem number_is (n:Int):PC Proofs.Tryz.prog 193 [ai n] (ab (decide (NumB n))):=by
 generalize hb:decide (NumB n)=b
 refine PC.enter 9 [.tmp 2] [] Proofs.Tryz.func193 rfl rfl rfl rfl rfl (by simp) (AWp.of ?_);simp only[go_sem]
 refine Wk ?_
 refine ret_eq ?_;simp only[go_sem]
 rw[← hb]
 congr 2
 rw[Bool.eq_iff_iff]
 simp [NumB]
 exact decide_eq_true_iff.symm
theorem number_limited (n:Int):PC Proofs.Tryz.prog 195 [ai n] (.tup [ai (if NumB n then n else 0),ai (if NumB n then 0 else 9)]):=by
 have h:=number_is n
 by_cases hb:NumB n
 ·rw[decide_eq_true hb] at h
  rw[if_pos hb,if_pos hb]
  refine PC.enter 8 [.tmp 2,.tmp 3] [] Proofs.Tryz.func195 rfl rfl rfl rfl rfl (by simp) (AWp.of ?_);simp only[go_sem]
  refine Wk ?_
  refine Sd ?_
  refine(h).val.use ?_;simp only[go_sem]
  refine Wk ?_
  refine ret_eq ?_;simp only[go_sem]
 ·rw[decide_eq_false hb] at h
  rw[if_neg hb,if_neg hb]
  refine PC.enter 8 [.tmp 2,.tmp 3] [] Proofs.Tryz.func195 rfl rfl rfl rfl rfl (by simp) (AWp.of ?_);simp only[go_sem]
  refine Wk ?_
  refine Sd ?_
  refine(h).val.use ?_;simp only[go_sem]
  refine Wk ?_
  refine ret_eq ?_;simp only[go_sem]
theorem number_Add (x y:Int) (hx:NumB x) (hy:NumB y):PC Proofs.Tryz.prog 160 [ai x,ai y] (.tup [ai (if NumB (x+y) then x+y else 0),ai (if NumB (x+y) then 0 else 9)]):=by
 have h1:=number_is x
 have h2:=number_is y
 have h3:=number_limited (x+y)
 rw[decide_eq_true hx] at h1
 rw[decide_eq_true hy] at h2
 generalize (if NumB (x+y) then x+y else 0)=A at *
 generalize (if NumB (x+y) then (0:Int) else 9)=B at *
 unfold NumB at hx hy
 refine PC.enter 20 [.tmp 4,.tmp 5] [] Proofs.Tryz.func160 rfl rfl rfl rfl rfl (by simp) (AWp.of ?_);simp only[go_sem]
 refine Wk ?_
 refine Sd ?_
 refine(h1).val.use ?_;simp only[go_sem]
 refine Sd ?_
 refine Gc h2 ?_
 refine Sd ?_
 refine Wk ?_
 refine Sd ?_
 refine(h3).val.use ?_;simp only[go_sem]
 refine Wk ?_
 refine ret_eq ?_;simp only[go_sem]
theorem number_abs (a:Int) (ha : -1125899906842625≤a∧a≤1125899906842625):PC Proofs.Tryz.prog 194 [ai a] (ai (absF a)):=by
 have hA:absF a=if a < -a then -a else a:=rfl
 rw[hA]
 refine PC.enter 7 [.tmp 2] [] Proofs.Tryz.func194 rfl rfl rfl rfl rfl (by simp) (AWp.of ?_);simp only[go_sem]
 refine Wk ?_
 refine ret_eq ?_;simp only[go_sem]
def mulF (a b:Int):Int × Int:=if a=0∨b=0 then (0,0) else if 1125899906842624 / absF b<absF a then (0,9) else (a * b,0)
theorem number_Mul (a b:Int) (ha:NumB a) (hb:NumB b):PC Proofs.Tryz.prog 159 [ai a,ai b] (.tup [ai (mulF a b).1,ai (mulF a b).2]):=by
 have i1:=number_is a
 have i2:=number_is b
 rw[decide_eq_true ha] at i1
 rw[decide_eq_true hb] at i2
 unfold NumB at ha hb
 have h1:=number_abs a (by omega)
 have h2:=number_abs b (by omega)
 have hsp:mulF a b=if a=0∨b=0 then (0,0) else if 1125899906842624 / absF b<absF a then (0,9) else (a * b,0):=rfl
 have hms:=fun h=>mul_small (a:=a) (b:=b) h
 have hpos:b ≠ 0→0<absF b:=fun h=>by rw[absF_eq];omega
 have hquo:=fun h=>quo_eq (a:=1125899906842624) (b:=absF b) (by decide) (by decide) h
 have hmw:=fun h=>mulW_eq (a:=a) (b:=b) h
 generalize mulF a b=r at *
 generalize absF a=A at *
 generalize absF b=B at *
 refine PC.enter 32 [.tmp 4,.tmp 5] [] Proofs.Tryz.func159 rfl rfl rfl rfl rfl (by simp) (AWp.of ?_);simp only[go_sem]
 refine Wk ?_
 refine Sd ?_
 refine(i1).val.use ?_;simp only[go_sem]
 refine Sd ?_
 refine Gc i2 ?_
 refine Sd ?_
 refine Wk ?_
 refine Wk ?_
 refine⟨fun h3 => ?_,fun h3 => ?_⟩
 ·refine Wk ?_
  refine ret_eq ?_;simp only[go_sem]
  rw[hsp,if_pos h3]
 intro h3'
 rw[if_neg (by intro h;rcases h with h|h;exact h3 h;exact h3' h)] at hsp
 have hB:=hpos h3'
 have hq:=hquo hB
 refine Wk ?_
 refine Sd ?_
 refine(h1).val.use ?_;simp only[go_sem]
 refine Wk ?_
 refine Sd ?_
 refine(h2).val.use ?_;simp only[go_sem]
 refine W1 hq ?_
 refine⟨fun h4 => ?_,fun h4 => ?_⟩
 ·rw[if_pos h4] at hsp
  refine Wk ?_
  refine ret_eq ?_;simp only[go_sem]
  rw[hsp]
 rw[if_neg h4] at hsp
 have hm:=hms h3' h4
 refine Wk ?_
 refine ret_eq ?_;simp only[go_sem]
 rw[hsp,hmw (by unfold I64;omega)]
theorem mulF_InB {a b:Int} : NumB (mulF a b).1:=by
 unfold mulF
 split
 ·unfold NumB;decide
 ·rename_i h0
  split
  ·unfold NumB;decide
  ·rename_i h1
   have:=mul_small (a:=a) (b:=b) (fun h=>h0 (.inr h)) h1
   unfold NumB
   show _≤a * b∧a * b≤_
   omega
def sumF (k x y:Int):Int × Bool:=if (mulF k y).2 ≠ 0 then (0,false) else (if NumB (x+(mulF k y).1) then x+(mulF k y).1 else 0,decide (NumB (x+(mulF k y).1)))
theorem classify_add1 (k x y:Int) (hk:NumB k) (hx:NumB x) (hy:NumB y):PC Proofs.Tryz.prog 158 [ai x,ai y,.rp 1 [ai k] 0 0] (.tup [ai (sumF k x y).1,ab (sumF k x y).2]):=by
 have h1:=number_Mul k y hk hy
 have h2:=number_Add x (mulF k y).1 hx mulF_InB
 have hsp:sumF k x y=if (mulF k y).2 ≠ 0 then (0,false) else (if NumB (x+(mulF k y).1) then x+(mulF k y).1 else 0,decide (NumB (x+(mulF k y).1))):=rfl
 generalize sumF k x y=R at *
 generalize mulF k y=M at *
 obtain⟨m,e⟩:=M
 by_cases he:e=0
 ·rw[if_neg (not_not_intro he)] at hsp
  subst hsp
  by_cases hb:NumB (x+m)
  ·rw[if_pos hb,if_pos hb] at h2
   rw[if_pos hb,decide_eq_true hb]
   refine PC.enter 27 [.tmp 5,.tmp 6] [] Proofs.Tryz.func158 rfl rfl rfl rfl rfl (by simp) (AWp.of ?_);simp only[go_sem]
   refine Wk ?_
   refine Sd ?_
   refine(h1).val.use ?_;simp only[go_sem]
   refine W1 he ?_
   refine Sd ?_
   refine(h2).val.use ?_;simp only[go_sem]
   repeat(first|((with_reducible refine AWp.ofC ?_ ?_);exact rfl;simp only[go_sem,Int.reduceEq])|((with_reducible refine an ?_ ?_);exact Au))
   refine ret_eq ?_;simp only[go_sem]
  ·rw[if_neg hb,if_neg hb] at h2
   rw[if_neg hb,decide_eq_false hb]
   refine PC.enter 27 [.tmp 5,.tmp 6] [] Proofs.Tryz.func158 rfl rfl rfl rfl rfl (by simp) (AWp.of ?_);simp only[go_sem]
   refine Wk ?_
   refine Sd ?_
   refine(h1).val.use ?_;simp only[go_sem]
   refine W1 he ?_
   refine Sd ?_
   refine(h2).val.use ?_;simp only[go_sem]
   repeat(first|((with_reducible refine AWp.ofC ?_ ?_);exact rfl;simp only[go_sem,Int.reduceEq])|((with_reducible refine an ?_ ?_);exact Au))
   refine ret_eq ?_;simp only[go_sem]
 ·rw[if_pos he] at hsp
  subst hsp
  refine PC.enter 27 [.tmp 5,.tmp 6] [] Proofs.Tryz.func158 rfl rfl rfl rfl rfl (by simp) (AWp.of ?_);simp only[go_sem]
  refine Wk ?_
  refine Sd ?_
  refine(h1).val.use ?_;simp only[go_sem]
  refine W1 he ?_
  refine ret_eq ?_;simp only[go_sem]
end Go.AL
end
