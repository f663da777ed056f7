/- Texts of this claim's proof: WZ14, WZ15, WI14, WI15, WRt, WRt2, WRt7. No condition. -/
import Derived.Test.YtbdofbhocjfbfaaGreatDoorM19
import Derived.Test.YtbdofbhocjfbfaaGreatDoorM12
import Derived.Test.YtbdofbhocjfbfaaGreatDoorM18
import Derived.Test.YtbdofbhocjfbfaaGreatDoorM14
import Derived.Test.YtbdofbhocjfbfaaGreatDoorM10
import Derived.Test.YtbdofbhocjfbfaaGreatDoorM4
import Derived.Test.YtbdofbhocjfbfaaGreatDoorM5
section
namespace Go.AL
open Go Go.RowKit
set_option maxRecDepth 4000
theorem ref28_temporal (t:Pd):szF t≤1000000→PC Proofs.Tryz.prog 41 [aPd t] (ab (!allB ntmB t)):=by
 induction t using Pd.ind with
 | _ k n p q s l ih =>
 intro hz
 have hsz:szF (.mk k n p q s l)=szL l+1:=by rw[szF]
 have hll:=szL_len l
 have hsp:allB ntmB (.mk k n p q s l)=((!decide (18≤k∧k≤21)) && l.all (allB ntmB)):=by rw[allB_mk];rfl
 by_cases c1:18≤k∧k≤21
 ·rw[decide_eq_true c1,Bool.not_true,Bool.false_and] at hsp
  rw[hsp]
  obtain⟨c1,c2⟩:=c1
  clear hsp ih
  simp only[aPd_mk] at *
  refine PC.enter 25 [.tmp 2] [1] Proofs.Tryz.func41 rfl rfl rfl rfl rfl (by simp) (AWp.of ?_);simp only[go_sem]
  refine W2 c1 c2 ?_
  refine ret_eq ?_;simp only[go_sem]
 ·rw[decide_eq_false c1,Bool.not_false,Bool.true_and] at hsp
  have c3:(decide (18≤k) && decide (k≤21))=false:=by
   rw[Bool.and_eq_false_iff,decide_eq_false_iff_not,decide_eq_false_iff_not];omega
  generalize allB ntmB (.mk k n p q s l)=B at *
  have c4:18≤k→¬k≤21:=fun h h'=>c1 ⟨h,h'⟩
  simp only[aPd_mk] at *
  refine PC.enter 25 [.tmp 2] [1] Proofs.Tryz.func41 rfl rfl rfl rfl rfl (by simp) (AWp.of ?_);simp only[go_sem]
  refine W1 c3 ?_
  refine AWp.block (AWp.count 3 l.length [] [1] (fun i vs L=>L=[]∧∀j (hj:j<l.length),j<i→allB ntmB l[j]=true) rfl rfl ⟨rfl,by omega⟩ ?_)
  rintro i vs L hi - ⟨rfl,hI⟩
  simp only[go_sem]
  refine Wk ?_
  refine⟨fun h4 => ?_,fun h4 => ?_⟩
  ·have hil:i<l.length:=by omega
   have hgi:=getD_map (f:=aPd) hil
   have hzi:=szL_mem (List.getElem_mem hil)
   have hch:=ih l[i] (List.getElem_mem hil) (by omega)
   have hnx:=all_next hI hil
   have hno:=all_not (f:=allB ntmB) hil
   generalize l[i]=x at *
   generalize allB ntmB x=bx at *
   obtain⟨k2,n2,p2,q2,s2,l2⟩:=x
   simp only[aPd_mk] at hgi hch
   refine W1 hgi ?_
   refine Sd ?_
   refine(hch).val.use ?_;simp only[go_sem]
   cases bx with
   | false =>
    refine Wk ?_
    refine ret_eq ?_;simp only[go_sem]
    rw[hsp,hno rfl];rfl
   | true =>
    refine Wk ?_
    exact⟨_,List.Sublist.refl _,rfl,hnx rfl⟩
  ·have:B=true:=by
    rw[hsp,List.all_eq_true]
    intro x hx
    obtain⟨j,hj,rfl⟩:=List.getElem_of_mem hx
    exact hI j hj (by omega)
   rw[this]
   refine Wk ?_
   refine ret_eq ?_;simp only[go_sem]
theorem ref28_Temporal (t:Pd) (hz:szF t≤1000000):PC Proofs.Tryz.prog 21 [aPd t] (ab (formedB t && !allB ntmB t)):=by
 have h1:=ref28_Formed t hz
 have h2:=ref28_temporal t hz
 generalize formedB t=f at *
 generalize (!allB ntmB t)=g at *
 obtain⟨k,n,p,q,s,l⟩:=t
 simp only[aPd_mk] at *
 refine PC.enter 9 [.tmp 2] [1] Proofs.Tryz.func21 rfl rfl rfl rfl rfl (by simp) (AWp.of ?_);simp only[go_sem]
 refine Wk ?_
 refine Sd ?_
 refine(h1).val.use ?_;simp only[go_sem]
 refine Sd ?_
 refine Gc h2 ?_
 refine Sd ?_
 refine Wk ?_
 refine ret_eq ?_;simp only[go_sem]
theorem ref28_Check_bad {ps:List Pr} (hva:PC Proofs.Tryz.prog 42 [aTr ps] (ab false)) (t:Pd):PC Proofs.Tryz.prog 40 [aTr ps,aPd t] (ai 1):=by
 obtain⟨k,n,p,q,s,l⟩:=t
 simp only[aPd_mk]
 refine PC.enter 24 [.tmp 4] [2,3] Proofs.Tryz.func40 rfl rfl rfl rfl rfl (by simp) (AWp.of ?_);simp only[go_sem]
 refine Wk ?_
 refine Sd ?_
 refine(hva).val.use ?_;simp only[go_sem]
 refine GCall.use .any (fun h=>absurd h (by simp)) ?_
 simp only[go_sem]
 refine Wk ?_
 refine ret_eq ?_;simp only[go_sem]
def nm40v (v:ByteArray × Int):Bool:=decide (40<(v.1.size:Int))
def fpB (x:Pr):Bool:=!((((decide (12<(x.vars.length:Int)) || decide (40<(x.name.size:Int))) || x.evs.any asg12)) || x.vars.any nm40v)
def fwB (ps:List Pr):Bool:=((List.range ps.length).all fun k => !decide (40<smW ps (k+1)) && fpB (ps.getD k ⟨ByteArray.empty,[],[]⟩)) && decide (ps.length≤10)
theorem fwB_sm {ps:List Pr} (h:fwB ps=true):smF ps 40=true:=by
 unfold fwB at h
 rw[Bool.and_eq_true,List.all_eq_true,decide_eq_true_eq] at h
 obtain⟨h1,h2⟩:=h
 unfold smF
 rw[decide_eq_true h2,Bool.true_and,Bool.and_eq_true,List.all_eq_true,decide_eq_true_eq]
 refine⟨fun x hx => ?_,?_⟩
 ·obtain⟨j,hj,rfl⟩:=List.getElem_of_mem hx
  have:=h1 j (List.mem_range.2 hj)
  rw[Bool.and_eq_true,List.getD_eq_getElem?_getD,List.getElem?_eq_getElem hj,Option.getD_some] at this
  have h3:=this.2
  unfold fpB at h3
  unfold smP
  rw[Bool.not_eq_true',Bool.or_eq_false_iff,Bool.or_eq_false_iff,Bool.or_eq_false_iff] at h3
  rw[Bool.not_eq_true',Bool.or_eq_false_iff]
  exact⟨h3.1.1.1,h3.1.2⟩
 ·by_cases h0:ps.length=0
  ·rw[h0];show (0:Int)≤40;decide
  ·have:=h1 (ps.length - 1) (List.mem_range.2 (by omega))
   rw[Bool.and_eq_true,Bool.not_eq_true',decide_eq_false_iff_not,Nat.sub_add_cancel (by omega)] at this
   omega
theorem law30_few1 (e:Ev):PC Proofs.Tryz.prog 37 [aEv e] (ab (asg12 e)):=by
 refine PC.enter 7 [.tmp 2] [1] Proofs.Tryz.func37 rfl rfl rfl rfl rfl (by simp) (AWp.of ?_);simp only[go_sem]
 refine Wk ?_
 refine ret_eq ?_;simp only[go_sem]
 rfl
theorem law30_few2 (v:ByteArray × Int):PC Proofs.Tryz.prog 39 [aVar v] (ab (nm40v v)):=by
 refine PC.enter 7 [.tmp 2] [1] Proofs.Tryz.func39 rfl rfl rfl rfl rfl (by simp) (AWp.of ?_);simp only[go_sem]
 refine Wk ?_
 refine ret_eq ?_;simp only[go_sem]
 rfl
theorem law30_few (ps:List Pr) (hpl:ps.length≤9223372036854775807) (hl:∀p ∈ ps,p.evs.length≤9223372036854775807):PC Proofs.Tryz.prog 19 [aTr ps] (ab (fwB ps)):=by
 have hsf:fwB ps=(((List.range ps.length).all fun k => !decide (40<smW ps (k+1)) && fpB (ps.getD k ⟨ByteArray.empty,[],[]⟩)) && decide (ps.length≤10)):=rfl
 have hno:∀k (hk:k<ps.length),(40<smW ps (k+1)∨fpB ps[k]=false)→fwB ps=false:=fun k hk h=>by
  rw[hsf,Bool.and_eq_false_iff]
  left
  refine List.all_eq_false.2 ⟨k,List.mem_range.2 hk,?_⟩
  rw[List.getD_eq_getElem?_getD,List.getElem?_eq_getElem hk,Option.getD_some]
  rcases h with h|h
  ·simp [h]
  ·simp [h]
 have hyes:(∀k (hk:k<ps.length),¬40<smW ps (k+1)∧fpB ps[k]=true)→fwB ps=decide (ps.length≤10):=fun h=>by
  rw[hsf,show ((List.range ps.length).all fun k => !decide (40<smW ps (k+1)) && fpB (ps.getD k ⟨ByteArray.empty,[],[]⟩))=true from ?_,Bool.true_and]
  rw[List.all_eq_true]
  intro k hk
  have hk:=List.mem_range.1 hk
  obtain⟨h1,h2⟩:=h k hk
  rw[List.getD_eq_getElem?_getD,List.getElem?_eq_getElem hk,Option.getD_some,h2,decide_eq_false h1];rfl
 clear hsf
 generalize fwB ps=Z at *
 refine PC.enter 47 [.tmp 2] [1,5] Proofs.Tryz.func19 rfl rfl rfl rfl rfl (by simp) (AWp.of ?_);simp only[go_sem]
 refine Wk ?_
 refine AWp.range1' ps.length [3] [1,7,8] (fun k vs L=>L=[]∧vs=[ai (smW ps k)]∧∀(j:Nat) (hj:j<ps.length),j<k→¬40<smW ps (j+1)∧fpB ps[j]=true) hpl rfl rfl rfl ⟨rfl,rfl,fun _ _ h=>by omega⟩ ?_ ?_
 ·rintro k vs L hk - ⟨rfl,rfl,hI⟩
  have hgp:=getD_map (f:=aPr) hk
  have hfp:fpB ps[k] = !((((decide (12<(ps[k].vars.length:Int)) || decide (40<(ps[k].name.size:Int))) || ps[k].evs.any asg12)) || ps[k].vars.any nm40v):=rfl
  have hsw:smW ps (k+1)=addW (smW ps k) ps[k].evs.length:=by rw[← nev_get hk];rfl
  have hin:=smW_in ps k
  have hel:=hl _ (List.getElem_mem hk)
  have hno:=hno k hk
  have hI':¬40<smW ps (k+1)→fpB ps[k]=true→∀(j:Nat) (hj:j<ps.length),j<k+1→¬40<smW ps (j+1)∧fpB ps[j]=true:=fun h1 h2 j hj hjk=>by
   by_cases e:j=k
   ·subst e;exact⟨h1,h2⟩
   ·exact hI j hj (by omega)
  have hcf:=events_containsFuncB ps[k].evs hel (.v (.func (.func 37) #[] #[])) rfl asg12 fun e _=>(law30_few1 e).val
  have hcv:=fun (hv:ps[k].vars.length≤1000000)=>vars_containsFunc ps[k].vars hv (.v (.func (.func 39) #[] #[])) rfl nm40v fun v _=>(law30_few2 v).val
  clear hI
  generalize ps[k]=x at *
  simp only[go_sem]
  refine Sd ?_
  refine AWp.of ?_;simp only[go_sem,hgp]
  refine Sd ?_
  intros
  refine AWp.seq (AWp.regionW ?_)
  simp only[go_sem]
  rw[← hsw]
  generalize smW ps (k+1)=z' at *
  generalize smW ps k=z at *
  refine Wk ?_
  refine Sd ?_
  refine Gc hcf ?_
  refine GCall.use (ab (x.vars.any nm40v)) (fun g=>⟨At,(hcv (by omega)).val.use ⟨rfl,rfl⟩⟩) ?_
  simp only[go_sem]
  refine Wk ?_
  refine⟨fun h => ?_,fun h1 h2 h3 h4 h5 => ?_⟩
  ·have hZ:Z=false:=by
    by_cases h40:40<z'
    ·exact hno (.inl h40)
    ·refine hno (.inr ?_)
     rw[hfp,Bool.not_eq_false']
     simp only[h40,false_or] at h
     simpa using h
   rw[hZ]
   refine Wk ?_
   refine ret_eq ?_;simp only[go_sem]
  ·have hx:fpB x=true:=by
    rw[hfp,h4,h5,decide_eq_false h2,decide_eq_false h3];rfl
   refine Wk ?_
   exact⟨_,List.Sublist.refl _,rfl,hI' h1 hx⟩
 ·rintro vs L - ⟨rfl,rfl,hI⟩
  rw[hyes fun k hk=>hI k hk hk]
  simp only[go_sem]
  refine Wk ?_
  refine ret_eq ?_;simp only[go_sem]
  congr 2
  rw[Bool.eq_iff_iff]
  simp
  omega
theorem ref30_Fault (ps:List Pr) (hs:Sm ps) (t:Pd) (hz:szF t≤1000000):PC Proofs.Tryz.prog 20 [aTr ps,aPd t] (ai (treeF ps t 2)):=by
 have h1:=ref28_Check ps hs t hz
 have hsp:treeF ps t 2=if checkF ps t ≠ 0 then checkF ps t else if resF t.kind ≠ 2 then 14 else 0:=rfl
 have h2:checkF ps t=0→PC Proofs.Tryz.prog 30 [aPd t] (.tup [ai (resF t.kind),ai 0]):=fun h=>by
  obtain⟨_,g2,g3,_⟩:=checkF_zero h
  refine ref28_Type t hz g2 ?_
  unfold okT at g3
  simp only[Bool.and_eq_true] at g3
  exact g3.2
 generalize treeF ps t 2=R at *
 generalize checkF ps t=e at *
 generalize resF t.kind=r at *
 obtain⟨k,n,p,q,s,X,hT⟩:=aPd_shape t
 have hTr:aTr ps = .agg [.sl 3 (ps.map aPr)]:=rfl
 rw[hTr,hT] at h1
 rw[hT] at h2
 rw[hTr,hT]
 by_cases he:e=0
 ·have h2:=h2 he
  rw[if_neg (not_not_intro he)] at hsp
  by_cases hr:r=2
  ·rw[if_neg (not_not_intro hr)] at hsp
   rw[hsp]
   refine PC.enter 21 [.tmp 4] [2,3] Proofs.Tryz.func20 rfl rfl rfl rfl rfl (by simp) (AWp.of ?_);simp only[go_sem]
   refine Wk ?_
   refine Sd ?_
   refine(h1).val.use ?_;simp only[go_sem]
   refine W1 he ?_
   refine Sd ?_
   refine(h2).val.use ?_;simp only[go_sem]
   refine W1 hr ?_
   refine ret_eq ?_;simp only[go_sem]
  ·rw[if_pos hr] at hsp
   rw[hsp]
   refine PC.enter 21 [.tmp 4] [2,3] Proofs.Tryz.func20 rfl rfl rfl rfl rfl (by simp) (AWp.of ?_);simp only[go_sem]
   refine Wk ?_
   refine Sd ?_
   refine(h1).val.use ?_;simp only[go_sem]
   refine W1 he ?_
   refine Sd ?_
   refine(h2).val.use ?_;simp only[go_sem]
   refine W1 hr ?_
   refine ret_eq ?_;simp only[go_sem]
 ·rw[if_pos he] at hsp
  rw[hsp]
  refine PC.enter 21 [.tmp 4] [2,3] Proofs.Tryz.func20 rfl rfl rfl rfl rfl (by simp) (AWp.of ?_);simp only[go_sem]
  refine Wk ?_
  refine Sd ?_
  refine(h1).val.use ?_;simp only[go_sem]
  refine W1 he ?_
  refine ret_eq ?_;simp only[go_sem]
theorem ref30_FaultN {ps:List Pr} (hva:PC Proofs.Tryz.prog 42 [aTr ps] (ab false)) (t:Pd):PC Proofs.Tryz.prog 20 [aTr ps,aPd t] (ai 1):=by
 have h1:=ref28_Check_bad hva t
 obtain⟨k,n,p,q,s,X,hT⟩:=aPd_shape t
 have hTr:aTr ps = .agg [.sl 3 (ps.map aPr)]:=rfl
 rw[hTr,hT] at h1
 rw[hTr,hT]
 refine PC.enter 21 [.tmp 4] [2,3] Proofs.Tryz.func20 rfl rfl rfl rfl rfl (by simp) (AWp.of ?_);simp only[go_sem]
 refine Wk ?_
 refine Sd ?_
 refine(h1).val.use ?_;simp only[go_sem]
 repeat(first|((with_reducible refine AWp.ofC ?_ ?_);exact rfl;simp only[go_sem,Int.reduceEq])|((with_reducible refine an ?_ ?_);exact Au))
 refine ret_eq ?_;simp only[go_sem]
theorem evaluate_BoolC (ps:List Pr) (hs:Sm ps) (c:List Int) (hcl:c.length≤1000000) (t:Pd) (hz:szF t≤1000000) (hE:atE ps c t 2=0):PC Proofs.Tryz.prog 23 [aTr ps,aInts c,aPd t] (.tup [ab (truF (cutO ps c (undF ps c)) t),ai 0]):=by
 have h1:=evaluate_at ps hs c hcl t hz 2
 rw[hE] at h1
 obtain⟨g1,g2,g3,g4,g5⟩:=atE_zero hE
 obtain⟨g6,g7,g8,g9⟩:=checkF_zero g1
 have h3:atV ps c t=aView ps c (valuesAt ps c):=by unfold atV;rw[if_neg (by rintro(h|h|h);exact h g5;exact h g1;exact h g2)]
 have g10:=g8
 unfold okT at g10
 simp only[Bool.and_eq_true] at g10
 obtain⟨l1,l2,_⟩:=und_leaf ps hs c g2 t g10.1.2
 have h2:=view_truth ps c _ _ hcl t hz g8 g3 g9 g4 l2 l1
 rw[h3] at h1
 generalize truF (cutO ps c (undF ps c)) t=b at *
 obtain⟨k,n,p,q,s,l⟩:=t
 unfold aView at *
 simp only[aPd_mk] at *
 refine PC.enter 23 [.tmp 6,.tmp 7] [3,5,8] Proofs.Tryz.func23 rfl rfl rfl rfl rfl (by simp) (AWp.of ?_);simp only[go_sem]
 refine Wk ?_
 refine Sd ?_
 refine(h1).val.use ?_;simp only[go_sem]
 refine Wk ?_
 intro b8
 refine Wk ?_
 refine Sd ?_
 refine(h2).val.use ?_;simp only[go_sem]
 refine Wk ?_
 refine ret_eq ?_;simp only[go_sem]
theorem ref29_TruthD (ps:List Pr) (hs:Sm ps) (c:List Int) (hcl:c.length≤1000000) (t:Pd) (hz:szF t≤1000000) (hE:atE ps c t 2=0):PC Proofs.Tryz.prog 24 [aTr ps,aInts c,aPd t] (ab (truF (cutO ps c (undF ps c)) t)):=by
 obtain⟨g1,g2,g3,g4,g5⟩:=atE_zero hE
 obtain⟨g6,g7,g8,g9⟩:=checkF_zero g1
 have g10:=g8
 unfold okT at g10
 simp only[Bool.and_eq_true] at g10
 obtain⟨_,h2,h3⟩:=und_leaf ps hs c g2 t g10.1.2
 exact ref29_Truth ps c _ hcl t hz g8 g3 g9 g4 h2 h3
theorem check_norm {ps:List Pr} {t:Pd} (h:checkF ps t=0) (hp:prdF t=0) (b:Bool):checkF ps (normF t b)=0:=by
 obtain⟨h1,h2,h3,h4⟩:=checkF_zero h
 unfold okT at h3
 simp only[Bool.and_eq_true] at h3
 have hn:=norm_prd hp b
 unfold checkF
 rw[h1,hn.2,norm_res ps t (prd_ok hp) h3.1.2 b,show typedB (normF t b)=true from (norm_ok t (prd_ok hp) b).ok.2.1,norm_fit ps t (prd_ok hp) h4 b]
 rfl
theorem prd_of_check {ps:List Pr} {t:Pd} (h:treeF ps t 2=0):checkF ps t=0∧prdF t=0:=by
 unfold treeF at h
 split at h
 ·rename_i h1;exact absurd h h1
 ·rename_i h1
  split at h
  ·cases h
  ·rename_i h2
   have h1:checkF ps t=0:=by simpa using h1
   obtain⟨_,g2,g3,_⟩:=checkF_zero h1
   unfold okT at g3
   simp only[Bool.and_eq_true] at g3
   refine⟨h1,?_⟩
   unfold prdF
   rw[g2,show typedB t=true from g3.2,if_neg (by decide),if_neg (by decide),if_neg h2]
theorem atE_norm {ps:List Pr} {c:List Int} {t:Pd} (h:atE ps c t 2=0) (hp:prdF t=0) (b:Bool):atE ps c (normF t b) 2=0:=by
 obtain⟨g1,g2,g3,g4,g5⟩:=atE_zero h
 have hk:=(norm_ok t (prd_ok hp) b).ok.2.2
 unfold atE
 rw[if_neg (by omega),check_norm g1 hp b,if_neg (by decide),g2,if_neg (by decide),res_of_bool hk,if_neg (by decide),norm_ntm t (prd_ok hp) g4 b]
 rfl
set_option maxHeartbeats 2000000 in
theorem law30_ClassifyTruth (ps:List Pr) (t:Pd) (c:List Int) (hpl:ps.length≤9223372036854775807) (hev:∀p ∈ ps,p.evs.length≤9223372036854775807):PC Proofs.Tryz.prog 5 [aTr ps,aPd t,aInts c] (ab true):=by
 have hA:=law30_awake
 have hF:=law30_few ps hpl hev
 have hS:=law30_small t
 obtain⟨k,n,p,q,s,XT,hT⟩:=aPd_shape t
 have hTr:aTr ps = .agg [.sl 3 (ps.map aPr)]:=rfl
 cases hfw:fwB ps with
 | false =>
  rw[hfw,hTr] at hF
  rw[hT] at hS ⊢
  rw[hTr]
  refine PC.enter 109 [.tmp 6] [3,4,7,9] Proofs.Tryz.func5 rfl rfl rfl rfl rfl (by simp) (AWp.of ?_);simp only[go_sem]
  refine Wk ?_
  refine Sd ?_
  refine(hA).val.use ?_;simp only[go_sem]
  refine Sd ?_
  refine Gc hF ?_
  refine Sd ?_
  refine GCall.use (ab false) (fun h=>absurd h (by simp)) ?_
  simp only[go_sem]
  refine GCall.use (ai 0) (fun h=>absurd h (by simp)) ?_
  simp only[go_sem]
  refine GCall.use (ab false) (fun h=>absurd h (by simp)) ?_
  simp only[go_sem]
  refine GCall.use (ab false) (fun h=>absurd h (by simp)) ?_
  simp only[go_sem]
  refine Wk ?_
  refine Sd ?_
  refine(hA).val.use ?_;simp only[go_sem]
  refine Wk ?_
  refine ret_eq ?_;simp only[go_sem]
 | true =>
 rw[hfw,hTr] at hF
 have hvd:=vd_of (fwB_sm hfw)
 by_cases hsm:smlB t=true
 rotate_left
 ·rw[show smlB t=false by simpa using hsm] at hS
  rw[hT] at hS ⊢
  rw[hTr]
  refine PC.enter 109 [.tmp 6] [3,4,7,9] Proofs.Tryz.func5 rfl rfl rfl rfl rfl (by simp) (AWp.of ?_);simp only[go_sem]
  refine Wk ?_
  refine Sd ?_
  refine(hA).val.use ?_;simp only[go_sem]
  refine Sd ?_
  refine Gc hF ?_
  refine Sd ?_
  refine Sd ?_
  refine Gc hS ?_
  refine Sd ?_
  refine GCall.use (ai 0) (fun h=>absurd h (by simp)) ?_
  simp only[go_sem]
  refine GCall.use (ab false) (fun h=>absurd h (by simp)) ?_
  simp only[go_sem]
  refine GCall.use (ab false) (fun h=>absurd h (by simp)) ?_
  simp only[go_sem]
  refine Wk ?_
  refine Sd ?_
  refine(hA).val.use ?_;simp only[go_sem]
  refine Wk ?_
  refine ret_eq ?_;simp only[go_sem]
 have hz:=sml_size hsm
 rw[hsm] at hS
 cases hv:validF ps with
 | false =>
  have h1:=hvd.rval
  rw[hv] at h1
  have h2:=ref30_FaultN h1 t
  rw[hTr,hT] at h2
  rw[hT] at hS ⊢
  rw[hTr]
  refine PC.enter 109 [.tmp 6] [3,4,7,9] Proofs.Tryz.func5 rfl rfl rfl rfl rfl (by simp) (AWp.of ?_);simp only[go_sem]
  refine Wk ?_
  refine Sd ?_
  refine(hA).val.use ?_;simp only[go_sem]
  refine Sd ?_
  refine Gc hF ?_
  refine Sd ?_
  refine Sd ?_
  refine Gc hS ?_
  refine Sd ?_
  refine Sd ?_
  refine Gc h2 ?_
  refine Sd ?_
  refine GCall.use (ab false) (fun h=>absurd h (by simp)) ?_
  simp only[go_sem]
  refine GCall.use (ab false) (fun h=>absurd h (by simp)) ?_
  simp only[go_sem]
  repeat(first|((with_reducible refine AWp.ofC ?_ ?_);exact rfl;simp only[go_sem,Int.reduceEq])|((with_reducible refine an ?_ ?_);exact Au))
  refine Sd ?_
  refine(hA).val.use ?_;simp only[go_sem]
  refine Wk ?_
  refine ret_eq ?_;simp only[go_sem]
 | true =>
 have hs:=hvd.sm hv
 have hFa:=ref30_Fault ps hs t hz
 by_cases hE:treeF ps t 2=0
 rotate_left
 ·generalize treeF ps t 2=e at *
  rw[hTr,hT] at hFa
  rw[hT] at hS ⊢
  rw[hTr]
  refine PC.enter 109 [.tmp 6] [3,4,7,9] Proofs.Tryz.func5 rfl rfl rfl rfl rfl (by simp) (AWp.of ?_);simp only[go_sem]
  refine Wk ?_
  refine Sd ?_
  refine(hA).val.use ?_;simp only[go_sem]
  refine Sd ?_
  refine Gc hF ?_
  refine Sd ?_
  refine Sd ?_
  refine Gc hS ?_
  refine Sd ?_
  refine Sd ?_
  refine GCall.use (ai e) (fun _=>⟨At,(hFa).val.use ⟨rfl,rfl⟩⟩) ?_;simp only[go_sem,hE]
  refine Sd ?_
  refine GCall.use (ab false) (fun h=>absurd h (by simp [hE])) ?_
  simp only[go_sem]
  refine GCall.use (ab false) (fun h=>absurd h (by simp [hE])) ?_
  simp only[go_sem]
  refine W1 hE ?_
  refine Sd ?_
  refine(hA).val.use ?_;simp only[go_sem]
  refine Wk ?_
  refine ret_eq ?_;simp only[go_sem]
 rw[hE] at hFa
 obtain⟨hck,hp⟩:=prd_of_check hE
 have hTm:=ref28_Temporal t hz
 rw[(prdF_zero hp).1,Bool.true_and] at hTm
 cases hnt:allB ntmB t with
 | false =>
  rw[hnt] at hTm
  rw[hTr,hT] at hFa
  rw[hT] at hS hTm ⊢
  rw[hTr]
  refine PC.enter 109 [.tmp 6] [3,4,7,9] Proofs.Tryz.func5 rfl rfl rfl rfl rfl (by simp) (AWp.of ?_);simp only[go_sem]
  refine Wk ?_
  refine Sd ?_
  refine(hA).val.use ?_;simp only[go_sem]
  refine Sd ?_
  refine Gc hF ?_
  refine Sd ?_
  refine Sd ?_
  refine Gc hS ?_
  refine Sd ?_
  refine Sd ?_
  refine Gc hFa ?_
  refine Sd ?_
  refine Sd ?_
  refine Gc hTm ?_
  refine Sd ?_
  refine GCall.use (ab false) (fun h=>absurd h (by simp)) ?_
  simp only[go_sem]
  refine Wk ?_
  refine Sd ?_
  refine(hA).val.use ?_;simp only[go_sem]
  refine Wk ?_
  refine ret_eq ?_;simp only[go_sem]
 | true =>
 rw[hnt] at hTm
 have hC:=ref22_Consistent ps hs hv c
 cases hc:isF ps c with
 | false =>
  rw[hc] at hC
  rw[hTr] at hC
  rw[hTr,hT] at hFa
  rw[hT] at hS hTm ⊢
  rw[hTr]
  refine PC.enter 109 [.tmp 6] [3,4,7,9] Proofs.Tryz.func5 rfl rfl rfl rfl rfl (by simp) (AWp.of ?_);simp only[go_sem]
  refine Wk ?_
  refine Sd ?_
  refine(hA).val.use ?_;simp only[go_sem]
  refine Sd ?_
  refine Gc hF ?_
  refine Sd ?_
  refine Sd ?_
  refine Gc hS ?_
  refine Sd ?_
  refine Sd ?_
  refine Gc hFa ?_
  refine Sd ?_
  refine Sd ?_
  refine Gc hTm ?_
  refine Sd ?_
  refine Sd ?_
  refine Gc hC ?_
  refine Sd ?_
  refine Wk ?_
  refine Sd ?_
  refine(hA).val.use ?_;simp only[go_sem]
  refine Wk ?_
  refine ret_eq ?_;simp only[go_sem]
 | true =>
 rw[hc,hTr] at hC
 have hps:=hs.procs
 have hcl:c.length≤1000000:=by have:=(isF_iff.1 hc).1;omega
 have hat:atE ps c t 2=0:=by
  unfold atE
  rw[if_neg (by rw[(isF_iff.1 hc).1];simp),hck,if_neg (by decide),(isF_given hv).2 hc,if_neg (by decide),res_of_bool (prdF_zero hp).2.2,if_neg (by decide),hnt]
  rfl
 obtain⟨hn1,hm1⟩:=nrm_of hp hz
 have hzn:=sml_size (sml_norm hp hsm false)
 have hzm:=sml_size (sml_norm hp hsm true)
 have g1:=evaluate_BoolC ps hs c hcl t hz hat
 have g2:=evaluate_BoolC ps hs c hcl _ hzn (atE_norm hat hp false)
 have g3:=evaluate_BoolC ps hs c hcl _ hzm (atE_norm hat hp true)
 have g4:=ref29_TruthD ps hs c hcl t hz hat
 rw[norm_tru _ t (prd_ok hp) hnt] at g2 g3
 generalize truF (cutO ps c (undF ps c)) t=x at *
 obtain⟨kn,nn,pn,qn,sn,XN,hN⟩:=aPd_shape (normF t false)
 obtain⟨km,nm,pm,qm,sm,XM,hM⟩:=aPd_shape (normF t true)
 rw[hT] at hn1 hm1 hS hTm ⊢
 rw[hTr,hT] at hFa g1 g4
 rw[hN] at hn1
 rw[hM] at hm1
 rw[hTr,hN] at g2
 rw[hTr,hM] at g3
 rw[hTr]
 refine PC.enter 109 [.tmp 6] [3,4,7,9] Proofs.Tryz.func5 rfl rfl rfl rfl rfl (by simp) (AWp.of ?_);simp only[go_sem]
 refine Wk ?_
 refine Sd ?_
 refine(hA).val.use ?_;simp only[go_sem]
 refine Sd ?_
 refine Gc hF ?_
 refine Sd ?_
 refine Sd ?_
 refine Gc hS ?_
 refine Sd ?_
 refine Sd ?_
 refine Gc hFa ?_
 refine Sd ?_
 refine Sd ?_
 refine Gc hTm ?_
 refine Sd ?_
 refine Sd ?_
 refine Gc hC ?_
 refine Sd ?_
 refine Wk ?_
 refine Sd ?_
 refine(hn1).val.use ?_;simp only[go_sem]
 refine Wk ?_
 intro b3
 refine Sd ?_
 refine Wk ?_
 refine Sd ?_
 refine(hm1).val.use ?_;simp only[go_sem]
 refine Wk ?_
 intro b5
 refine Sd ?_
 refine Wk ?_
 refine Sd ?_
 refine(g1).val.use ?_;simp only[go_sem]
 refine Wk ?_
 refine Sd ?_
 refine(g2).val.use ?_;simp only[go_sem]
 refine Wk ?_
 refine Sd ?_
 refine(g3).val.use ?_;simp only[go_sem]
 refine Wk ?_
 refine Sd ?_
 refine Gc g4 ?_
 refine Sd ?_
 refine Wk ?_
 refine ret_eq ?_;simp only[go_sem]
 cases x <;> rfl
end Go.AL
end
section
namespace Go.AL
open Go Go.RowKit
set_option maxRecDepth 100000
section
variable {H:Type} {enc:TypeId × Value→H} {W:World}
theorem rdInts:Rd enc Proofs.Tryz.prog W 42 1 aInts (fun l=>l.length≤maxLen) :=
 (Rd.slice Proofs.Tryz.underlying42 (by kernel_rfl:Program.cellsOf Proofs.Tryz.prog 3=1) (by decide) (Rd.int Proofs.Tryz.underlying3)).map id (fun _=>rfl) (fun _ h=>h.1)
theorem rdAsg:Rd enc Proofs.Tryz.prog W 149 2 aAsg (fun _=>True) :=
 (Rd.struct (ts:=[3,3]) Proofs.Tryz.underlying149 rfl rfl (by kernel_rfl) (by kernel_rfl)
  (.cons (Rd.int Proofs.Tryz.underlying3) (fun _=>⟨rfl,rfl⟩) (.cons (Rd.int Proofs.Tryz.underlying3) (fun _=>⟨rfl,rfl⟩) .nil))).map (fun (y:Int × Int × Unit)=>(y.1,y.2.1)) (fun _=>rfl) (fun _ _=>trivial)
theorem rdAsgs:Rd enc Proofs.Tryz.prog W 71 1 aAsgs (fun _=>True) :=
 (Rd.slice Proofs.Tryz.underlying71 (by kernel_rfl:Program.cellsOf Proofs.Tryz.prog 149=2) (by decide) rdAsg).map id (fun _=>rfl) (fun _ _=>trivial)
theorem rdVar:Rd enc Proofs.Tryz.prog W 51 2 aVar (fun _=>True) :=
 (Rd.struct (ts:=[9,3]) Proofs.Tryz.underlying51 rfl rfl (by kernel_rfl) (by kernel_rfl)
  (.cons (Rd.str Proofs.Tryz.underlying9) (fun _=>⟨rfl,rfl⟩) (.cons (Rd.int Proofs.Tryz.underlying3) (fun _=>⟨rfl,rfl⟩) .nil))).map (fun (y:ByteArray × Int × Unit)=>(y.1,y.2.1)) (fun _=>rfl) (fun _ _=>trivial)
theorem rdVars:Rd enc Proofs.Tryz.prog W 52 1 aVars (fun _=>True) :=
 (Rd.slice Proofs.Tryz.underlying52 (by kernel_rfl:Program.cellsOf Proofs.Tryz.prog 51=2) (by decide) rdVar).map id (fun _=>rfl) (fun _ _=>trivial)
theorem rdEv:Rd enc Proofs.Tryz.prog W 73 5 aEv (fun _=>True) :=
 (Rd.struct (ts:=[3,3,3,3,71]) Proofs.Tryz.underlying73 rfl rfl (by kernel_rfl) (by kernel_rfl)
  (.cons (Rd.int Proofs.Tryz.underlying3) (fun _=>⟨rfl,rfl⟩) (.cons (Rd.int Proofs.Tryz.underlying3) (fun _=>⟨rfl,rfl⟩) (.cons (Rd.int Proofs.Tryz.underlying3) (fun _=>⟨rfl,rfl⟩)
   (.cons (Rd.int Proofs.Tryz.underlying3) (fun _=>⟨rfl,rfl⟩) (.cons rdAsgs (fun _=>⟨rfl,rfl⟩) .nil)))))).map (fun (y:Int × Int × Int × Int × List (Int × Int) × Unit)=>⟨y.1,y.2.1,y.2.2.1,y.2.2.2.1,y.2.2.2.2.1⟩) (fun _=>rfl) (fun _ _=>trivial)
end
end Go.AL
end
section
namespace Go.AL
open Go Go.RowKit
set_option maxRecDepth 100000
def aPdC:Pd→List AV | .mk k n p q s l=>[ai k,ai n,ai p,ai q,astr s,.sl 6 (l.map aPd)]
theorem aPd_agg:∀y,aPd y = .agg (aPdC y):=fun ⟨k,n,p,q,s,l⟩=>by rw[aPd_mk];rfl
section
variable {H:Type} {enc:TypeId × Value→H} {W:World}
theorem rdPredN:∀N,RdF enc Proofs.Tryz.prog W N 24 6 aPd (fun _=>True)
 | 0 => .zero
 | N+1 =>
  (RdF.struct (ts:=[3,3,3,3,9,22]) Proofs.Tryz.underlying24 rfl rfl (by kernel_rfl) (by kernel_rfl)
   (.cons ((Rd.int Proofs.Tryz.underlying3).bounded N) (fun _=>⟨rfl,rfl⟩) (.cons ((Rd.int Proofs.Tryz.underlying3).bounded N) (fun _=>⟨rfl,rfl⟩) (.cons ((Rd.int Proofs.Tryz.underlying3).bounded N) (fun _=>⟨rfl,rfl⟩)
    (.cons ((Rd.int Proofs.Tryz.underlying3).bounded N) (fun _=>⟨rfl,rfl⟩) (.cons ((Rd.str Proofs.Tryz.underlying9).bounded N) (fun _=>⟨rfl,rfl⟩)
     (.cons ((RdF.slice Proofs.Tryz.underlying22 (by kernel_rfl:Program.cellsOf Proofs.Tryz.prog 24=6) (by decide) (rdPredN N)).mono (Nat.le_succ N)) (fun _=>⟨rfl,rfl⟩) .nil))))))).map
   (fun (y:Int × Int × Int × Int × ByteArray × List Pd × Unit)=>Pd.mk y.1 y.2.1 y.2.2.1 y.2.2.2.1 y.2.2.2.2.1 y.2.2.2.2.2.1) (fun _=>(aPd_mk _ _ _ _ _ _).symm) (fun _ _=>trivial)
theorem rdPred:Rd enc Proofs.Tryz.prog W 24 6 aPd (fun _=>True):=RdF.all rdPredN
end
end Go.AL
end
section
namespace Go.AL
open Go Go.RowKit
set_option maxRecDepth 100000
section
variable {H:Type} {enc:TypeId × Value→H} {W:World}
theorem rdEvsM:Rd enc Proofs.Tryz.prog W 53 1 aEvs (fun l=>l.length≤maxLen) :=
 (Rd.slice Proofs.Tryz.underlying53 (by kernel_rfl:Program.cellsOf Proofs.Tryz.prog 73=5) (by decide) rdEv).map id (fun _=>rfl) (fun _ h=>h.1)
theorem rdPrM:Rd enc Proofs.Tryz.prog W 55 3 aPr (fun p=>p.evs.length≤maxLen) :=
 (Rd.struct (ts:=[9,52,53]) Proofs.Tryz.underlying55 rfl rfl (by kernel_rfl) (by kernel_rfl)
  (.cons (Rd.str Proofs.Tryz.underlying9) (fun _=>⟨rfl,rfl⟩) (.cons rdVars (fun _=>⟨rfl,rfl⟩) (.cons rdEvsM (fun _=>⟨rfl,rfl⟩) .nil)))).map (fun (y:ByteArray × List (ByteArray × Int) × List Ev × Unit)=>⟨y.1,y.2.1,y.2.2.1⟩) (fun _=>rfl) (fun _ h=>h.2.2.1)
theorem rdPrsM:Rd enc Proofs.Tryz.prog W 39 1 aPrs (fun l=>l.length≤maxLen∧∀p ∈ l,p.evs.length≤9223372036854775807) :=
 (Rd.slice Proofs.Tryz.underlying39 (by kernel_rfl:Program.cellsOf Proofs.Tryz.prog 55=3) (by decide) rdPrM).map id (fun _=>rfl) (fun _ h=>h)
theorem rdTrM:Rd enc Proofs.Tryz.prog W 41 1 aTr (fun l=>l.length≤maxLen∧∀p ∈ l,p.evs.length≤9223372036854775807) :=
 (Rd.struct (ts:=[39]) Proofs.Tryz.underlying41 rfl rfl (by kernel_rfl) (by kernel_rfl) (.cons rdPrsM (fun _=>⟨rfl,rfl⟩) .nil)).map (fun (y:List Pr × Unit)=>y.1) (fun _=>rfl) (fun _ h=>h.1)
end
end Go.AL
end
