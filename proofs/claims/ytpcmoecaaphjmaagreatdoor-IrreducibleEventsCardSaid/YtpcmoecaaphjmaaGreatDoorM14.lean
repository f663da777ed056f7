/- Texts of this claim's proof: WI3, WI4, WV9, WV14, WV22, WI5, WI6. No condition. -/
import Derived.Test.YtpcmoecaaphjmaaGreatDoorM13
import Derived.Test.YtpcmoecaaphjmaaGreatDoorM10
import Derived.Test.YtpcmoecaaphjmaaGreatDoorM8
import Derived.Test.YtpcmoecaaphjmaaGreatDoorM11
section
namespace Go.AL
open Go Go.RowKit
set_option maxRecDepth 4000
theorem dpL_mem {l:List Pd} {x:Pd} (h:x ∈ l):dpF x≤dpL l:=by
 induction l with
 | nil=>cases h
 | cons y l ih =>
  rw[dpL]
  rcases List.mem_cons.1 h with rfl|h
  ·omega
  ·have:=ih h;omega
def nngB:Pd→Bool | .mk k _ _ _ _ _=>decide (¬k=15)
def prdF (t:Pd):Int:=if formedB t=false then 1 else if typedB t=false then 14 else if resF t.kind ≠ 2 then 14 else 0
theorem aPd_pd0:aPd pd0 = .agg [ai 0,ai 0,ai 0,ai 0,astr ByteArray.empty,.sl 6 []]:=by unfold pd0;rw[aPd_mk];rfl
theorem classify_predicate (t:Pd) (hz:szF t≤1000000):PC Proofs.Tryz.prog 145 [aPd t] (ai (prdF t)):=by
 have h1:=predtype_TypeX t hz
 have hsp:prdF t=if formedB t=false then 1 else if typedB t=false then 14 else if resF t.kind ≠ 2 then 14 else 0:=rfl
 generalize prdF t=e at *
 generalize formedB t=F at *
 generalize typedB t=T at *
 generalize resF t.kind=r at *
 obtain⟨k,n,p,q,s,l⟩:=t
 simp only[aPd_mk] at *
 cases F
 ·simp only[if_true] at h1 hsp
  refine PC.enter 17 [.tmp 2] [1] Proofs.Tryz.func145 rfl rfl rfl rfl rfl (by simp) (AWp.of ?_);simp only[go_sem]
  refine Wk ?_
  refine Sd ?_
  refine(h1).val.use ?_;simp only[go_sem]
  repeat(first|((with_reducible refine AWp.ofC ?_ ?_);exact rfl;simp only[go_sem,Int.reduceEq])|((with_reducible refine an ?_ ?_);exact Au))
  refine ret_eq ?_;simp only[go_sem]
  rw[hsp]
 ·cases T
  ·simp only[if_true,Bool.true_eq_false,if_false] at h1 hsp
   refine PC.enter 17 [.tmp 2] [1] Proofs.Tryz.func145 rfl rfl rfl rfl rfl (by simp) (AWp.of ?_);simp only[go_sem]
   refine Wk ?_
   refine Sd ?_
   refine(h1).val.use ?_;simp only[go_sem]
   repeat(first|((with_reducible refine AWp.ofC ?_ ?_);exact rfl;simp only[go_sem,Int.reduceEq])|((with_reducible refine an ?_ ?_);exact Au))
   refine ret_eq ?_;simp only[go_sem]
   rw[hsp]
  ·simp only[if_true,Bool.true_eq_false,if_false] at h1 hsp
   by_cases hr:r=2
   ·rw[if_neg (not_not_intro hr)] at hsp
    refine PC.enter 17 [.tmp 2] [1] Proofs.Tryz.func145 rfl rfl rfl rfl rfl (by simp) (AWp.of ?_);simp only[go_sem]
    refine Wk ?_
    refine Sd ?_
    refine(h1).val.use ?_;simp only[go_sem]
    refine W1 hr ?_
    refine ret_eq ?_;simp only[go_sem]
    rw[hsp]
   ·rw[if_pos hr] at hsp
    refine PC.enter 17 [.tmp 2] [1] Proofs.Tryz.func145 rfl rfl rfl rfl rfl (by simp) (AWp.of ?_);simp only[go_sem]
    refine Wk ?_
    refine Sd ?_
    refine(h1).val.use ?_;simp only[go_sem]
    refine W1 hr ?_
    refine ret_eq ?_;simp only[go_sem]
    rw[hsp]
theorem formed_loc {t:Pd} (h:formedB t=true):allB locB t=true:=by
 unfold formedB at h
 simp only[Bool.and_eq_true] at h
 exact h.2
theorem prdF_zero {t:Pd} (h:prdF t=0):formedB t=true∧typedB t=true∧9≤t.kind:=by
 unfold prdF at h
 split at h
 ·cases h
 ·rename_i h1
  split at h
  ·cases h
  ·rename_i h2
   split at h
   ·cases h
   ·rename_i h3
    refine⟨by simpa using h1,by simpa using h2,?_⟩
    have:resF t.kind=2:=by simpa using h3
    unfold resF at this
    split at this <;> omega
def nrmF (t:Pd) (b:Bool):Pd:=if prdF t=0 then normF t b else pd0
theorem classify_Normal (t:Pd) (hz:szF t≤1000000):PC Proofs.Tryz.prog 88 [aPd t] (.tup [aPd (nrmF t false),ai (prdF t)]):=by
 have h1:=classify_predicate t hz
 have h2:=fun h=>classify_normal t hz (formed_loc (prdF_zero h).1) false
 have hsp:nrmF t false=if prdF t=0 then normF t false else pd0:=rfl
 generalize nrmF t false=N at *
 generalize normF t false=M at *
 generalize prdF t=e at *
 obtain⟨k,n,p,q,s,l⟩:=t
 by_cases he:e=0
 ·have h2:=h2 he
  rw[if_pos he] at hsp
  subst hsp
  obtain⟨k2,n2,p2,q2,s2,l2⟩:=N
  simp only[aPd_mk] at *
  refine PC.enter 13 [.cell 2 27,.tmp 3] [1] Proofs.Tryz.func88 rfl rfl rfl rfl rfl (by simp) (AWp.of ?_);simp only[go_sem]
  intro b2
  refine Wk ?_
  refine Sd ?_
  refine(h1).val.use ?_;simp only[go_sem]
  refine W1 he ?_
  refine Sd ?_
  refine(h2).val.use ?_;simp only[go_sem]
  refine Wk ?_
  refine ret_eq ?_;simp only[go_sem]
 ·rw[if_neg he] at hsp
  subst hsp
  simp only[aPd_mk] at h1 ⊢
  rw[← aPd_mk]
  refine PC.enter 13 [.cell 2 27,.tmp 3] [1] Proofs.Tryz.func88 rfl rfl rfl rfl rfl (by simp) (AWp.of ?_);simp only[go_sem]
  intro b2
  refine Wk ?_
  refine Sd ?_
  refine(h1).val.use ?_;simp only[go_sem]
  refine W1 he ?_
  refine ret_view [] ?_;simp only[go_sem]
  rw[aPd_pd0]
  exact .mkTup (Vws.cons (.mkAgg (Vws.cons (.refl _) (Vws.cons (.refl _) (Vws.cons (.refl _) (Vws.cons (.refl _) (Vws.cons (.refl _) (Vws.cons (.nil 6) .nil))))))) (Vws.refl _))
theorem loc_plain {k n p q:Int} {s:ByteArray} {l:List Pd} (h:locB (.mk k n p q s l)=true) (hk:9≤k):k≤21∧n=0∧p=0∧q=0∧s=ByteArray.empty:=by
 unfold locB at h
 simp only[Bool.and_eq_true,decide_eq_true_eq] at h
 obtain⟨⟨h1,h2⟩,h3⟩:=h
 have hk2:k≤21:=by
  by_cases e:k≤21
  ·exact e
  ·exfalso
   have:partsF k = -1:=by unfold partsF;rw[if_neg (by omega),if_neg (by omega),if_neg (by omega)]
   omega
 unfold numB at h2
 rw[if_neg (by omega)] at h2
 unfold nameB at h3
 rw[decide_eq_false (show ¬(2≤k∧k≤4) by omega),Bool.false_or] at h3
 simp only[decide_eq_true_eq] at h2 h3
 exact⟨hk2,h2,h3⟩
theorem typ_parts {k n p q:Int} {s:ByteArray} {l:List Pd} (h:typB (.mk k n p q s l)=true) {x:Pd} (hx:x ∈ l):resF x.kind=needF k:=by
 have h1:(!l.any fun x=>tyNe k x.kind)=true:=h
 rw[Bool.not_eq_true'] at h1
 have h2:=List.any_eq_false.1 h1 x hx
 unfold tyNe at h2
 simpa using h2
theorem res_bool {k:Int} (h:resF k=2):9≤k:=by unfold resF at h;split at h <;> omega
theorem intsC_index (l:List Int) (hl:l.length≤1000001) (m:Int):PC Proofs.Tryz.prog 298 [.sl 1 (l.map ai),ai m] (ai (match l.findIdx? (fun x=>decide (m=x)) with|some i=>(i:Int)|none => -1)):=by
 refine PC.enter 19 [.tmp 4] [] Proofs.Tryz.func298 rfl rfl rfl rfl rfl (by simp) (AWp.of ?_);simp only[go_sem]
 refine Wk ?_
 refine(AWp.range' l.length [] [0,1,7] (fun k vs L=>L=[]∧∀i (h:i<l.length),i<k→¬m=l[i]) (by omega) rfl rfl rfl ⟨rfl,fun _ _ h=>by omega⟩ ?_ ?_)
 ·rintro k vs L hk - ⟨rfl,hI⟩
  have hg:=getD_map (f:=ai) hk
  have hx:m=l[k]→l.findIdx? (fun x=>decide (m=x))=some k:=fun h=>by
   rw[List.findIdx?_eq_some_iff_getElem];exact⟨hk,decide_eq_true h,fun j hj=>by simpa using hI j (by omega) hj⟩
  have hI2:¬m=l[k]→∀i (h:i<l.length),i<k+1→¬m=l[i]:=fun h i hi hik=>by
   by_cases e:i=k
   ·subst e;exact h
   ·exact hI i hi (by omega)
  generalize l[k]=B at *
  simp only[go_sem]
  refine W1 hg ?_
  refine⟨fun h => ?_,fun h => ?_⟩
  ·rw[hx h]
   refine Wk ?_
   refine ret_eq ?_;simp only[go_sem]
  ·refine Wk ?_
   exact⟨_,List.Sublist.refl _,rfl,hI2 h⟩
 ·rintro vs L - ⟨rfl,hI⟩
  have:l.findIdx? (fun x=>decide (m=x))=none:=by rw[List.findIdx?_eq_none_iff];intro x hx;obtain⟨i,hi,rfl⟩:=List.getElem_of_mem hx;exact decide_eq_false (hI i hi hi)
  rw[this]
  simp only[go_sem]
  refine Wk ?_
  refine ret_eq ?_;simp only[go_sem]
theorem intsC_contains (l:List Int) (hl:l.length≤1000001) (m:Int):PC Proofs.Tryz.prog 270 [.sl 1 (l.map ai),ai m] (ab (l.any fun x=>decide (m=x))):=by
 have h1:=intsC_index l hl m
 refine PC.enter 9 [.tmp 4] [] Proofs.Tryz.func270 rfl rfl rfl rfl rfl (by simp) (AWp.of ?_);simp only[go_sem]
 refine Wk ?_
 refine Sd ?_
 refine(h1).val.use ?_;simp only[go_sem]
 refine Wk ?_
 refine ret_eq ?_;simp only[go_sem]
 congr 2;exact findIdx_any l fun x=>decide (m=x)
theorem classify_is (l:List Int):PC Proofs.Tryz.prog 207 [.sl 1 (l.map ai)] (.clo 269 [.rp 1 [.sl 1 (l.map ai)] 0 0]):=by
 refine PC.enter 4 [.tmp 2] [1] Proofs.Tryz.func207 rfl rfl rfl rfl rfl (by simp) (AWp.of ?_);simp only[go_sem]
 refine Wk ?_
 refine ret_eq ?_;simp only[go_sem]
theorem classify_is1 (l:List Int) (hl:l.length≤1000001) (t:Pd):PC Proofs.Tryz.prog 269 [aPd t,.rp 1 [.sl 1 (l.map ai)] 0 0] (ab (l.any fun x=>decide (t.kind=x))):=by
 obtain⟨k,n,p,q,s,l2⟩:=t
 have h:=intsC_contains l hl k
 show PC _ _ _ (ab (l.any fun x=>decide (k=x)))
 generalize (l.any fun x=>decide (k=x))=b at *
 simp only[aPd_mk]
 refine PC.enter 8 [.tmp 3] [2] Proofs.Tryz.func269 rfl rfl rfl rfl rfl (by simp) (AWp.of ?_);simp only[go_sem]
 refine Wk ?_
 refine Sd ?_
 refine(h).val.use ?_;simp only[go_sem]
 refine Wk ?_
 refine ret_eq ?_;simp only[go_sem]
theorem kind_temp (k:Int):([18,19,20,21]:List Int).any (fun x=>decide (k=x))=decide (18≤k∧k≤21):=by
 rw[Bool.eq_iff_iff]
 simp
 omega
theorem classify_temporal (t:Pd):PC Proofs.Tryz.prog 143 [aPd t] (ab (!ntmB t)):=by
 have h1:=classify_is [18,19,20,21]
 have h2:=classify_is1 [18,19,20,21] (by decide) t
 rw[kind_temp] at h2
 have hsp:(!ntmB t)=decide (18≤t.kind∧t.kind≤21):=by
  cases t
  show (!!_)=_
  rw[Bool.not_not]
  rfl
 rw[hsp]
 generalize decide (18≤t.kind∧t.kind≤21)=b at *
 obtain⟨k,n,p,q,s,l⟩:=t
 simp only[aPd_mk,List.map_cons,List.map_nil] at *
 have h2:=PC.clo (args:=[_]) (caps:=[_]) h2
 refine PC.enter 7 [.tmp 2] [1,3] Proofs.Tryz.func143 rfl rfl rfl rfl rfl (by simp) (AWp.of ?_);simp only[go_sem]
 repeat(first|(with_reducible refine AWp.seq ?_)|(with_reducible refine AWp.block ?_))
 refine AWp.mix mixed [2] (.step 0 (.step 1 (.step 3 (.step 4 .done .done) .done) .done) .done) (by kernel_rfl) ?_;simp only[go_sem]
 refine Sd ?_
 refine(h1).val.use ?_;simp only[go_sem]
 refine Sd ?_
 refine(h2).use ?_;simp only[go_sem]
 refine Wk ?_
 refine ret_eq ?_;simp only[go_sem]
theorem classify_channel (t:Pd):PC Proofs.Tryz.prog 142 [aPd t] (ab (!nchB t)):=by
 obtain⟨k,n,p,q,s,l⟩:=t
 have hsp:(!nchB (.mk k n p q s l))=decide (k=4):=by
  unfold nchB
  by_cases e:k=4
  ·rw[decide_eq_true e];simp [e]
  ·rw[decide_eq_false e];simp [e]
 rw[hsp]
 simp only[aPd_mk]
 refine PC.enter 6 [.tmp 2] [1] Proofs.Tryz.func142 rfl rfl rfl rfl rfl (by simp) (AWp.of ?_);simp only[go_sem]
 refine Wk ?_
 refine ret_eq ?_;simp only[go_sem]
theorem classify_containsV (F:FuncId) (f:Pd→Bool) (hg:∀x,PC Proofs.Tryz.prog F [aPd x] (ab (f x))) (t:Pd):szF t≤1000000→PC Proofs.Tryz.prog 141 [aPd t,.v (.func (.func F) #[] #[])] (ab (!allB (fun x => !f x) t)):=by
 induction t using Pd.ind with
 | _ k n p q s l ih =>
 intro hz
 have hsz:szF (.mk k n p q s l)=szL l+1:=by rw[szF]
 have hll:=szL_len l
 have hf:=(hg (.mk k n p q s l)).val
 have h1:∀x ∈ l,PV Proofs.Tryz.prog (.clo 216 [.rp 1 [.v (.func (.func F) #[] #[])] 0 0]) [aPd x] (ab (!allB (fun x => !f x) x)):=by
  intro x hx
  have hxi:=szL_mem hx
  have hch:=ih x hx (by omega)
  generalize (!allB (fun x => !f x) x)=b at *
  obtain⟨k2,n2,p2,q2,s2,l2⟩:=x
  refine PC.clo ?_
  simp only[aPd_mk] at *
  refine PC.enter 7 [.tmp 3] [2] Proofs.Tryz.func216 rfl rfl rfl rfl rfl (by simp) (AWp.of ?_);simp only[go_sem]
  refine Wk ?_
  refine Sd ?_
  refine(hch).val.use ?_;simp only[go_sem]
  refine Wk ?_
  refine ret_eq ?_;simp only[go_sem]
 have hc:=preds_containsFunc l (by omega) _ rfl (fun x => !allB (fun x => !f x) x) h1
 have hsp:(!allB (fun x => !f x) (.mk k n p q s l))=(f (.mk k n p q s l) || l.any fun x => !allB (fun x => !f x) x):=by
  rw[allB_mk,Bool.not_and,Bool.not_not,List.not_all_eq_any_not]
 rw[hsp]
 generalize f (.mk k n p q s l)=b at *
 generalize (l.any fun x => !allB (fun x => !f x) x)=c at *
 simp only[aPd_mk] at *
 refine PC.enter 14 [.tmp 4] [2,3] Proofs.Tryz.func141 rfl rfl rfl rfl rfl (by simp) (AWp.of ?_);simp only[go_sem]
 refine Wk ?_
 refine Sd ?_
 refine(hf).use ?_;simp only[go_sem]
 refine Sd ?_
 refine Gc hc ?_
 refine Sd ?_
 refine Wk ?_
 refine ret_eq ?_;simp only[go_sem]
theorem not_not_fun (g:Pd→Bool):(fun x => !(!g x))=g:=funext fun x=>Bool.not_not _
theorem classify_hasT (t:Pd) (hz:szF t≤1000000):PC Proofs.Tryz.prog 141 [aPd t,.v (.func (.func 143) #[] #[])] (ab (!allB ntmB t)):=by
 have h:=classify_containsV 143 (fun x => !ntmB x) classify_temporal t hz
 rwa [not_not_fun] at h
theorem classify_hasC (t:Pd) (hz:szF t≤1000000):PC Proofs.Tryz.prog 141 [aPd t,.v (.func (.func 142) #[] #[])] (ab (!allB nchB t)):=by
 have h:=classify_containsV 142 (fun x => !nchB x) classify_channel t hz
 rwa [not_not_fun] at h
mutual
def cnS {S:Type} (f:Pd→S→Bool × S):Pd→S→Bool × S
 | .mk k n p q s l,st=>if (f (.mk k n p q s l) st).1 then (true,(f (.mk k n p q s l) st).2) else cnL f l (f (.mk k n p q s l) st).2
def cnL {S:Type} (f:Pd→S→Bool × S):List Pd→S→Bool × S
 | [],st=>(false,st)
 | x :: r,st=>if (cnS f x st).1 then (true,(cnS f x st).2) else cnL f r (cnS f x st).2
end
theorem cnL_find {S:Type} (f:Pd→S→Bool × S):∀(l:List Pd) (st:S),(findS (cnS f) l st).1.isSome=(cnL f l st).1∧(findS (cnS f) l st).2=(cnL f l st).2
 | [],st=>by rw[findS,cnL];exact⟨rfl,rfl⟩
 | x :: r,st=>by
  have ih:=cnL_find f r (cnS f x st).2
  rw[findS,cnL]
  by_cases h:(cnS f x st).1=true
  ·rw[if_pos h,if_pos h];exact⟨rfl,rfl⟩
  ·rw[if_neg h,if_neg h];exact⟨by rw[← ih.1];simp,ih.2⟩
theorem classify_containsS {S:Type} (f:Pd→S→Bool × S) (Ls:S→AHeap) (F:FuncId) (cs:List AV) (hg:∀x st,MVal Proofs.Tryz.prog (.clo F cs) [aPd x] (Ls st) fun r L=>r=ab (f x st).1∧L=Ls (f x st).2) (t:Pd) :
  szF t≤1000000→∀st,MCalls Proofs.Tryz.prog 141 [aPd t,.clo F cs] (Ls st) fun r L=>r=ab (cnS f t st).1∧L=Ls (cnS f t st).2:=by
 induction t using Pd.ind with
 | _ k n p q s l ih =>
 intro hz st
 have hsz:szF (.mk k n p q s l)=szL l+1:=by rw[szF]
 have hll:=szL_len l
 have hf:=hg (.mk k n p q s l) st
 have h1:∀x ∈ l,∀st,True→MVal Proofs.Tryz.prog (.clo 216 [.rp 1 [.clo F cs] 0 0]) [aPd x] (Ls st) fun r L=>r=ab (cnS f x st).1∧L=Ls (cnS f x st).2:=by
  intro x hx st _
  have hxi:=szL_mem hx
  have hch:=ih x hx (by omega) st
  generalize cnS f x st=b at *
  obtain⟨k2,n2,p2,q2,s2,l2⟩:=x
  refine MCalls.clo (args:=[_]) (caps:=[_]) ?_
  simp only[aPd_mk] at *
  refine MCalls.enter' 7 [.tmp 3] [2] Proofs.Tryz.func216 rfl rfl rfl rfl rfl (by simp) (AWp.of ?_);simp only[go_sem]
  refine Wk ?_
  refine hch.val.mono ?_
  rintro r L ⟨rfl,rfl⟩
  simp only[go_sem]
  refine Wk ?_
  refine ret_own ?_
  simp only[go_sem]
 have hc:=preds_containsS (cnS f) Ls (fun _=>True) l (by omega) (.clo 216 [.rp 1 [.clo F cs] 0 0]) rfl h1 (fun _ _ _ _ _=>trivial) (f (.mk k n p q s l) st).2 trivial
 rw[(cnL_find f l _).1,(cnL_find f l _).2] at hc
 have hsp:cnS f (.mk k n p q s l) st=if (f (.mk k n p q s l) st).1 then (true,(f (.mk k n p q s l) st).2) else cnL f l (f (.mk k n p q s l) st).2:=by rw[cnS]
 rw[hsp]
 generalize f (.mk k n p q s l) st=q0 at *
 obtain⟨a,s1⟩:=q0
 generalize cnL f l s1=q1 at *
 simp only[aPd_mk] at *
 clear hsp ih h1
 cases a with
 | true =>
  simp only[if_true]
  refine MCalls.enter' 14 [.tmp 4] [2,3] Proofs.Tryz.func141 rfl rfl rfl rfl rfl (by simp) (AWp.of ?_);simp only[go_sem]
  refine AWp.seq (AWp.regionF ?_)
  simp only[go_sem]
  refine hf.mono ?_
  rintro r L ⟨rfl,rfl⟩
  simp only[go_sem]
  refine Wk ?_
  refine ret_own ?_
  simp only[go_sem]
 | false =>
  simp only[Bool.false_eq_true,if_false]
  refine MCalls.enter' 14 [.tmp 4] [2,3] Proofs.Tryz.func141 rfl rfl rfl rfl rfl (by simp) (AWp.of ?_);simp only[go_sem]
  refine AWp.seq (AWp.regionF ?_)
  simp only[go_sem]
  refine hf.mono ?_
  rintro r L ⟨rfl,rfl⟩
  simp only[go_sem]
  refine hc.val.mono ?_
  rintro r L ⟨rfl,rfl⟩
  simp only[go_sem]
  refine Wk ?_
  refine ret_own ?_
  simp only[go_sem]
def lcS:Pd→Int × Bool→Bool × (Int × Bool)
 | .mk k _ p _ _ _,st=>if k=2∨k=3 then (decide (¬p=if st.2 then st.1 else p),(if st.2 then st.1 else p,true)) else (false,st)
def lcL (b5 b4:Nat) (st:Int × Bool):AHeap:=[(b5,.row 4 1 [ab st.2] 1),(b4,.row 3 1 [ai st.1] 1)]
theorem kind_leaf (k:Int):([2,3]:List Int).any (fun x=>decide (k=x))=decide (k=2∨k=3):=by
 rw[Bool.eq_iff_iff]
 simp
theorem classify_local1 (b5 b4:Nat) (hb:¬b5=b4) (x:Pd) (st:Int × Bool):MCalls Proofs.Tryz.prog 206 [aPd x,.lp b5 1 0 0,.lp b4 1 0 0] (lcL b5 b4 st) fun r L=>r=ab (lcS x st).1∧L=lcL b5 b4 (lcS x st).2:=by
 have h1:=classify_is [2,3]
 have h2:=classify_is1 [2,3] (by decide) x
 rw[kind_leaf] at h2
 have hb2:¬b4=b5:=fun e=>hb e.symm
 obtain⟨k,n,p,q,s,l⟩:=x
 obtain⟨pr,fd⟩:=st
 have hsp:lcS (.mk k n p q s l) (pr,fd)=if k=2∨k=3 then (decide (¬p=if fd then pr else p),(if fd then pr else p,true)) else (false,(pr,fd)):=rfl
 rw[hsp]
 have hk2:decide ((Pd.mk k n p q s l).kind=2∨(Pd.mk k n p q s l).kind=3)=decide (k=2∨k=3):=rfl
 rw[hk2] at h2
 have h2:=PC.clo (args:=[_]) (caps:=[_]) h2
 generalize hB:decide (k=2∨k=3)=B at h2
 simp only[ aPd_mk,List.map_cons,List.map_nil] at h1 h2 ⊢
 unfold lcL
 by_cases hk:k=2∨k=3
 ·rw[decide_eq_true hk] at hB
  subst hB
  rw[if_pos hk]
  cases fd with
  | true =>
   simp only[if_true]
   refine MCalls.enter' 18 [.tmp 4] [3,5] Proofs.Tryz.func206 rfl rfl rfl rfl rfl (by simp) (AWp.of ?_);simp only[go_sem]
   repeat(first|(with_reducible refine AWp.seq ?_)|(with_reducible refine AWp.block ?_))
   refine AWp.mix mixed [2] (.step 0 (.step 1 (.step 3 (.step 4 .done .done) .done) .done) .done) (by kernel_rfl) ?_;simp only[go_sem]
   refine Sd ?_
   refine(h1).val.use ?_;simp only[go_sem]
   refine Sd ?_
   refine(h2).use ?_;simp only[go_sem]
   refine W2 hb hb2 ?_
   refine ret_own ?_
   simp only[go_sem]
  | false =>
   simp only[Bool.false_eq_true,if_false]
   refine MCalls.enter' 18 [.tmp 4] [3,5] Proofs.Tryz.func206 rfl rfl rfl rfl rfl (by simp) (AWp.of ?_);simp only[go_sem]
   repeat(first|(with_reducible refine AWp.seq ?_)|(with_reducible refine AWp.block ?_))
   refine AWp.mix mixed [2] (.step 0 (.step 1 (.step 3 (.step 4 .done .done) .done) .done) .done) (by kernel_rfl) ?_;simp only[go_sem]
   refine Sd ?_
   refine(h1).val.use ?_;simp only[go_sem]
   refine Sd ?_
   refine(h2).use ?_;simp only[go_sem]
   refine W2 hb hb2 ?_
   refine ret_own ?_
   simp only[go_sem]
 ·rw[decide_eq_false hk] at hB
  subst hB
  rw[if_neg hk]
  refine MCalls.enter' 18 [.tmp 4] [3,5] Proofs.Tryz.func206 rfl rfl rfl rfl rfl (by simp) (AWp.of ?_);simp only[go_sem]
  repeat(first|(with_reducible refine AWp.seq ?_)|(with_reducible refine AWp.block ?_))
  refine AWp.mix mixed [2] (.step 0 (.step 1 (.step 3 (.step 4 .done .done) .done) .done) .done) (by kernel_rfl) ?_;simp only[go_sem]
  refine Sd ?_
  refine(h1).val.use ?_;simp only[go_sem]
  refine Sd ?_
  refine(h2).use ?_;simp only[go_sem]
  refine W2 hb hb2 ?_
  refine ret_own ?_
  simp only[go_sem]
def locR (t:Pd):Int × Bool:=if (!allB ntmB t || !allB nchB t)=true then (0,false) else ((cnS lcS t (0,false)).2.1,!(cnS lcS t (0,false)).1)
theorem classify_local (t:Pd) (hz:szF t≤1000000):PC Proofs.Tryz.prog 136 [aPd t] (.tup [ai (locR t).1,ab (locR t).2]):=by
 have h1:=classify_hasT t hz
 have h2:=classify_hasC t hz
 have hcl:=fun (b5 b4:Nat) (hb:¬b5=b4)=>classify_containsS lcS (lcL b5 b4) 206 [.lp b5 1 0 0,.lp b4 1 0 0] (fun x st=>MCalls.clo (args:=[_]) (caps:=[_,_]) (classify_local1 b5 b4 hb x st)) t hz (0,false)
 have hsp:locR t=if (!allB ntmB t || !allB nchB t)=true then (0,false) else ((cnS lcS t (0,false)).2.1,!(cnS lcS t (0,false)).1):=rfl
 generalize locR t=R at *
 generalize cnS lcS t (0,false)=c at *
 generalize (!allB ntmB t)=A at *
 generalize (!allB nchB t)=B at *
 obtain⟨k,n,p,q,s,l⟩:=t
 obtain⟨o,pr,fd⟩:=c
 simp only[aPd_mk] at *
 unfold lcL at hcl
 cases A with
 | true =>
  rw[if_pos (by rfl)] at hsp
  subst hsp
  refine PC.enter 19 [.tmp 2,.tmp 3] [1] Proofs.Tryz.func136 rfl rfl rfl rfl rfl (by simp) (AWp.of ?_);simp only[go_sem]
  refine Wk ?_
  refine Sd ?_
  refine(h1).val.use ?_;simp only[go_sem]
  refine GCall.use .any (fun h=>absurd h (by simp)) ?_
  simp only[go_sem]
  refine Wk ?_
  refine ret_eq ?_;simp only[go_sem]
 | false =>
  cases B with
  | true =>
   rw[if_pos (by rfl)] at hsp
   subst hsp
   refine PC.enter 19 [.tmp 2,.tmp 3] [1] Proofs.Tryz.func136 rfl rfl rfl rfl rfl (by simp) (AWp.of ?_);simp only[go_sem]
   refine Wk ?_
   refine Sd ?_
   refine(h1).val.use ?_;simp only[go_sem]
   refine Sd ?_
   refine Gc h2 ?_
   refine Sd ?_
   refine Wk ?_
   refine ret_eq ?_;simp only[go_sem]
  | false =>
   rw[if_neg (by decide)] at hsp
   subst hsp
   refine PC.enter 19 [.tmp 2,.tmp 3] [1] Proofs.Tryz.func136 rfl rfl rfl rfl rfl (by simp) (AWp.of ?_);simp only[go_sem]
   refine Wk ?_
   refine Sd ?_
   refine(h1).val.use ?_;simp only[go_sem]
   refine Sd ?_
   refine Gc h2 ?_
   refine Sd ?_
   refine Wk ?_
   intro b4 b5 hlt
   have n1:¬b5=b4:=by omega
   have n2:¬b4=b5:=by omega
   simp only[go_sem,n1,n2]
   refine Sd ?_
   refine W2 n1 n2 ?_
   refine(hcl b5 b4 n1).val.mono ?_
   rintro r L ⟨rfl,rfl⟩
   simp only[go_sem]
   refine W2 n1 n2 ?_
   refine ret_eq ?_;simp only[go_sem]
end Go.AL
end
