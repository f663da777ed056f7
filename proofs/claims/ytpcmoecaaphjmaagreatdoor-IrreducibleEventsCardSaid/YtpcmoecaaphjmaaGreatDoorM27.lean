/- Texts of this claim's proof: WK20, WK15, WZ2, WZ3, WZ4, AlWrn, WZ5, WJ1, WZ8, WJ2, WJ3, WJ4, WJ5, WZ6, WZ7, WY30, WZ13, WVec, WVec2, WPk2, WJ6, WK16, WK18. No condition. -/
import Derived.Test.YtpcmoecaaphjmaaGreatDoorM26
import Derived.Test.YtpcmoecaaphjmaaGreatDoorM11
import Derived.Test.YtpcmoecaaphjmaaGreatDoorM10
import Derived.Test.YtpcmoecaaphjmaaGreatDoorM24
import Derived.Test.YtpcmoecaaphjmaaGreatDoorM18
import Derived.Test.YtpcmoecaaphjmaaGreatDoorM13
import Derived.Test.YtpcmoecaaphjmaaGreatDoorM17
import Derived.Test.YtpcmoecaaphjmaaGreatDoorM7
import Derived.Test.YtpcmoecaaphjmaaGreatDoorM5
import Derived.Test.YtpcmoecaaphjmaaGreatDoorM8
section
namespace Go.AL
open Go Go.RowKit
set_option maxRecDepth 4000
theorem stp_mem {l0:List Int} {E:List (List Int)} {o:Option (List Int)} {c:List Int} : c ∈ stpL l0 E o↔c ∈ E∨(¬c=l0∧o=some c):=by
 unfold stpL
 cases o with
 | none=>simp
 | some d =>
  by_cases h:d=l0∨d ∈ E
  ·simp only[if_pos h]
   refine⟨.inl,fun h' => ?_⟩
   rcases h' with h'|⟨h1,h2⟩
   ·exact h'
   ·obtain rfl:=Option.some.inj h2
    rcases h with h|h
    ·exact absurd h h1
    ·exact h
  ·simp only[if_neg h]
   rw[List.mem_append,List.mem_singleton]
   refine or_congr Iff.rfl ⟨fun e => ?_,fun e=>(Option.some.inj e.2).symm⟩
   subst e
   exact⟨fun e=>h (.inl e),rfl⟩
theorem stpl_mem {l0:List Int} {c:List Int} : ∀(l:List (Option (List Int))) (E:List (List Int)),c ∈ l.foldl (stpL l0) E↔c ∈ E∨(¬c=l0∧some c ∈ l)
 | [],E=>by simp
 | o :: l,E=>by
  rw[List.foldl_cons,stpl_mem l,stp_mem,List.mem_cons]
  constructor
  ·rintro((h|⟨h1,h2⟩)|⟨h1,h2⟩)
   ·exact .inl h
   ·exact .inr ⟨h1,.inl h2.symm⟩
   ·exact .inr ⟨h1,.inr h2⟩
  ·rintro(h|⟨h1,h2|h2⟩)
   ·exact .inl (.inl h)
   ·exact .inl (.inr ⟨h1,h2.symm⟩)
   ·exact .inr ⟨h1,h2⟩
theorem stpl_nd {l0:List Int} : ∀(l:List (Option (List Int))) (E:List (List Int)),E.Nodup→(l.foldl (stpL l0) E).Nodup
 | [],_,h=>h
 | o :: l,E,h=>by
  rw[List.foldl_cons]
  refine stpl_nd l _ ?_
  unfold stpL
  split
  ·split
   ·exact h
   ·rename_i d hd
    rw[List.nodup_append]
    refine⟨h,by simp,fun a ha b hb e => ?_⟩
    rw[List.mem_singleton.1 hb] at e
    exact hd (.inr (e ▸ ha))
  ·exact h
theorem up_mem {ps:List Pr} {T:List Int→Prop} {l0 c:List Int} : ∀p,c ∈ upL ps T l0 p↔¬c=l0∧∃q,q<p∧∃i,i<nev ps q∧lstQ ps T (ptF ps q i)=some c
 | 0=>by simp [upL]
 | p+1=>by
  rw[upL,stpl_mem,up_mem p]
  have hr:some c ∈ rowO ps T p (nev ps p)↔∃i,i<nev ps p∧lstQ ps T (ptF ps p i)=some c:=by
   unfold rowO
   rw[List.mem_map]
   exact⟨fun ⟨i,h1,h2⟩=>⟨i,List.mem_range.1 h1,h2⟩,fun ⟨i,h1,h2⟩=>⟨i,List.mem_range.2 h1,h2⟩⟩
  rw[hr]
  constructor
  ·rintro(⟨h1,q,hq,h2⟩|⟨h1,h2⟩)
   ·exact⟨h1,q,by omega,h2⟩
   ·exact⟨h1,p,by omega,h2⟩
  ·rintro⟨h1,q,hq,h2⟩
   by_cases e:q=p
   ·subst e;exact .inr ⟨h1,h2⟩
   ·exact .inl ⟨h1,q,by omega,h2⟩
theorem up_nd {ps:List Pr} {T:List Int→Prop} {l0:List Int} : ∀p,(upL ps T l0 p).Nodup
 | 0=>List.nodup_nil
 | p+1=>stpl_nd _ _ (up_nd p)
theorem lis_mem {ps:List Pr} {T:List Int→Prop} {c:List Int} : c ∈ lisF ps T↔∃l0,lstQ ps T (List.replicate ps.length 0)=some l0∧¬c=l0∧∃q,q<ps.length∧∃i,i<nev ps q∧lstQ ps T (ptF ps q i)=some c:=by
 unfold lisF
 cases lstQ ps T (List.replicate ps.length 0) with
 | none=>simp
 | some l0 =>
  show c ∈ sortBy cmpC (upL ps T l0 ps.length)↔_
  rw[(sortBy_perm cmpC _).mem_iff,up_mem]
  exact⟨fun h=>⟨l0,rfl,h⟩,fun ⟨l,e,h⟩=>by cases e;exact h⟩
theorem lis_is {ps:List Pr} {T:List Int→Prop} {c:List Int} (h:c ∈ lisF ps T):isF ps c=true:=by
 obtain⟨_,_,_,_,_,_,_,h⟩:=lis_mem.1 h
 exact(lsq_some h).is
theorem lis_len {ps:List Pr} {T:List Int→Prop} : (lisF ps T).length≤off ps ps.length:=by
 unfold lisF
 cases lstQ ps T (List.replicate ps.length 0) with
 | none=>exact Nat.zero_le _
 | some l0 =>
  show (sortBy cmpC (upL ps T l0 ps.length)).length≤_
  rw[(sortBy_perm cmpC _).length_eq]
  exact up_len _ (Nat.le_refl _)
theorem lis_ord {ps:List Pr} {T:List Int→Prop} : (lisF ps T).Pairwise ordL:=by
 unfold lisF
 cases lstQ ps T (List.replicate ps.length 0) with
 | none=>exact List.Pairwise.nil
 | some l0 =>
  show (sortBy cmpC (upL ps T l0 ps.length)).Pairwise ordL
  have h1:=sortBy_pair swoC (upL ps T l0 ps.length)
  have h2:(sortBy cmpC (upL ps T l0 ps.length)).Nodup:=(sortBy_perm cmpC _).nodup_iff.2 (up_nd _)
  refine List.Pairwise.imp₂ (R:=fun x y=>¬cmpC y x<0) (S:=fun x y=>x ≠ y) (fun a b h g => ?_) h1 h2
  have hlt:cmpC a b<0:=Decidable.byContradiction fun hn=>g (cmpC_anti a b hn h)
  unfold cmpC at hlt
  unfold ordL
  split at hlt
  ·exact .inr ⟨by omega,hlt⟩
  ·exact .inl (by omega)
noncomputable def isE (ps:List Pr) (t:Pd) (c:List Int):Int:=if checkF ps t=1∨¬c.length=ps.length then 1 else if ¬checkF ps t=0 then checkF ps t else if ¬givenF ps [c] []=0 then givenF ps [c] [] else mdE ps t 32
noncomputable def isB (ps:List Pr) (t:Pd) (c:List Int):Bool:=if isE ps t c=0 then decide (c ∈ lirF ps t) else false
theorem irr_Is1 (x d:List Int) (hd:d.length≤1000000):PC Proofs.Tryz.prog 64 [aInts x,.rp 1 [aInts d] 0 0] (ab (decide (d=x))):=by
 have h1:=ints_equal d x hd
 refine PC.enter 7 [.tmp 3] [] Proofs.Tryz.func64 rfl rfl rfl rfl rfl (by simp) (AWp.of ?_);simp only[go_sem]
 refine Wk ?_
 refine Sd ?_
 refine(h1).val.use ?_;simp only[go_sem]
 refine Wk ?_
 refine ret_eq ?_;simp only[go_sem]
theorem lir_len (ps:List Pr) (hof:off ps ps.length≤1000000) (t:Pd):(lirF ps t).length≤1000000:=by
 unfold lirF
 split
 ·exact Nat.le_trans lis_len hof
 ·exact Nat.zero_le _
set_option maxHeartbeats 2000000 in
theorem irr_Is (ps:List Pr) (hs:Sm ps) (hof:off ps ps.length≤1000000) (t:Pd) (hz:szF t≤1000000) (c:List Int) (hcl:c.length≤1000000):PC Proofs.Tryz.prog 20 [aTr ps,aPd t,aInts c] (.tup [ab (isB ps t c),ai (isE ps t c)]):=by
 have h1:=predtype_Check ps hs t hz
 have hTr:aTr ps = .agg [.sl 3 (ps.map aPr)]:=rfl
 have hI:aInts c = .sl 1 (c.map ai):=rfl
 by_cases hc1:checkF ps t=1
 ·have e:isE ps t c=1:=by unfold isE;rw[if_pos (.inl hc1)]
  have e2:isB ps t c=false:=by unfold isB;rw[e];rfl
  rw[hc1] at h1
  rw[e,e2]
  obtain⟨k,n,p,q,s,X,hT⟩:=aPd_shape t
  rw[hT,hTr] at h1 ⊢
  rw[hI]
  refine PC.enter 47 [.tmp 6,.tmp 7] [3,4,5] Proofs.Tryz.func20 rfl rfl rfl rfl rfl (by simp) (AWp.of ?_);simp only[go_sem]
  refine Wk ?_
  refine Sd ?_
  refine(h1).val.use ?_;simp only[go_sem]
  repeat(first|((with_reducible refine AWp.ofC ?_ ?_);exact rfl;simp only[go_sem,Int.reduceEq])|((with_reducible refine an ?_ ?_);exact Au))
  refine ret_eq ?_;simp only[go_sem]
 by_cases hlen:c.length=ps.length
 rotate_left
 ·have e:isE ps t c=1:=by unfold isE;rw[if_pos (.inr hlen)]
  have e2:isB ps t c=false:=by unfold isB;rw[e];rfl
  rw[e,e2]
  have hlen':¬((c.length:Int)=ps.length):=by omega
  generalize checkF ps t=E at *
  obtain⟨k,n,p,q,s,X,hT⟩:=aPd_shape t
  rw[hT,hTr] at h1 ⊢
  rw[hI]
  refine PC.enter 47 [.tmp 6,.tmp 7] [3,4,5] Proofs.Tryz.func20 rfl rfl rfl rfl rfl (by simp) (AWp.of ?_);simp only[go_sem]
  refine Wk ?_
  refine Sd ?_
  refine(h1).val.use ?_;simp only[go_sem]
  repeat(first|((with_reducible refine AWp.ofC ?_ ?_);exact rfl;simp only[go_sem,hc1,hlen',Int.reduceEq])|((with_reducible refine an ?_ ?_);exact Au))
  refine ret_eq ?_;simp only[go_sem]
 have hlen':(c.length:Int)=ps.length:=by omega
 have hE:isE ps t c=if ¬checkF ps t=0 then checkF ps t else if ¬givenF ps [c] []=0 then givenF ps [c] [] else mdE ps t 32:=by unfold isE;rw[if_neg (fun h=>h.elim hc1 fun h=>h hlen)]
 by_cases hck:checkF ps t=0
 rotate_left
 ·rw[if_pos hck] at hE
  have e2:isB ps t c=false:=by unfold isB;rw[hE,if_neg hck]
  rw[hE,e2]
  clear hE e2
  generalize checkF ps t=E at *
  obtain⟨k,n,p,q,s,X,hT⟩:=aPd_shape t
  rw[hT,hTr] at h1 ⊢
  rw[hI]
  refine PC.enter 47 [.tmp 6,.tmp 7] [3,4,5] Proofs.Tryz.func20 rfl rfl rfl rfl rfl (by simp) (AWp.of ?_);simp only[go_sem]
  refine Wk ?_
  refine Sd ?_
  refine(h1).val.use ?_;simp only[go_sem]
  refine W3 hc1 hlen' hck ?_
  refine ret_eq ?_;simp only[go_sem]
 rw[hck] at h1
 rw[if_neg (fun h=>h hck)] at hE
 have h2:=cut_Frontier ps hs c hcl
 unfold aFront at h2
 by_cases hg:givenF ps [c] []=0
 rotate_left
 ·rw[if_pos hg] at hE h2
  have e2:isB ps t c=false:=by unfold isB;rw[hE,if_neg hg]
  rw[hE,e2]
  clear hE e2
  generalize givenF ps [c] []=E at *
  obtain⟨k,n,p,q,s,X,hT⟩:=aPd_shape t
  rw[hTr,hI] at h2
  rw[hT,hTr] at h1 ⊢
  rw[hI]
  refine PC.enter 47 [.tmp 6,.tmp 7] [3,4,5] Proofs.Tryz.func20 rfl rfl rfl rfl rfl (by simp) (AWp.of ?_);simp only[go_sem]
  refine Wk ?_
  refine Sd ?_
  refine(h1).val.use ?_;simp only[go_sem]
  refine W1 hlen' ?_
  refine Sd ?_
  refine(h2).val.use ?_;simp only[go_sem]
  refine W1 hg ?_
  refine ret_eq ?_;simp only[go_sem]
 rw[if_neg (fun h=>h hg)] at hE h2
 have hv:=(checkF_zero hck).1
 have h3:=irr_List ps hs t hz
 have hEq:aRows (lirF ps t) = .sl 1 ((lirF ps t).map aInts):=rfl
 have hFr:aEids (frontL 0 c) = .sl 2 ((frontL 0 c).map aEid):=rfl
 rw[hFr,hTr,hI] at h2
 by_cases hm:mdE ps t 32=0
 rotate_left
 ·have e2:isB ps t c=false:=by unfold isB;rw[hE,if_neg hm]
  rw[hE,e2]
  clear hE e2
  rw[hEq] at h3
  generalize mdE ps t 32=E at *
  generalize (lirF ps t).map aInts=Y at *
  generalize (frontL 0 c).map aEid=Z at *
  obtain⟨k,n,p,q,s,X,hT⟩:=aPd_shape t
  rw[hT,hTr] at h1 h3 ⊢
  rw[hI]
  refine PC.enter 47 [.tmp 6,.tmp 7] [3,4,5] Proofs.Tryz.func20 rfl rfl rfl rfl rfl (by simp) (AWp.of ?_);simp only[go_sem]
  refine Wk ?_
  refine Sd ?_
  refine(h1).val.use ?_;simp only[go_sem]
  refine W1 hlen' ?_
  refine Sd ?_
  refine(h2).val.use ?_;simp only[go_sem]
  refine Wk ?_
  refine Sd ?_
  refine(h3).val.use ?_;simp only[go_sem]
  refine W1 hm ?_
  refine ret_eq ?_;simp only[go_sem]
 have e2:isB ps t c=(lirF ps t).any fun x=>decide (c=x):=by
  unfold isB
  rw[hE,if_pos hm,Bool.eq_iff_iff,decide_eq_true_iff,List.any_eq_true]
  exact⟨fun h=>⟨c,h,decide_eq_true rfl⟩,fun ⟨x,h,e⟩=>by rw[of_decide_eq_true e];exact h⟩
 have hcf:PC Proofs.Tryz.prog 25 [.sl 1 ((lirF ps t).map aInts),.clo 64 [.rp 1 [.sl 1 (c.map ai)] 0 0]] (ab ((lirF ps t).any fun x=>decide (c=x))) :=
  rows_containsFunc (lirF ps t) (lir_len ps hof t) _ rfl (fun x=>decide (c=x)) fun x _=>(irr_Is1 x c hcl).clo
 rw[hE,hm,e2]
 rw[hm,hEq] at h3
 clear hE e2 hEq
 generalize ((lirF ps t).any fun x=>decide (c=x))=B at *
 generalize (lirF ps t).map aInts=Y at *
 generalize (frontL 0 c).map aEid=Z at *
 obtain⟨k,n,p,q,s,X,hT⟩:=aPd_shape t
 rw[hT,hTr] at h1 h3 ⊢
 rw[hI]
 refine PC.enter 47 [.tmp 6,.tmp 7] [3,4,5] Proofs.Tryz.func20 rfl rfl rfl rfl rfl (by simp) (AWp.of ?_);simp only[go_sem]
 refine Wk ?_
 refine Sd ?_
 refine(h1).val.use ?_;simp only[go_sem]
 refine W1 hlen' ?_
 refine Sd ?_
 refine(h2).val.use ?_;simp only[go_sem]
 refine Wk ?_
 refine Sd ?_
 refine(h3).val.use ?_;simp only[go_sem]
 refine Wk ?_
 refine Sd ?_
 refine(hcf).val.use ?_;simp only[go_sem]
 refine Wk ?_
 refine ret_eq ?_;simp only[go_sem]
theorem is_zero {ps:List Pr} {t:Pd} {c:List Int} (hm:mdE ps t 32=0) (hc:isF ps c=true):isE ps t c=0∧isB ps t c=decide (c ∈ lirF ps t):=by
 obtain⟨hck,_⟩:=mdE_zero hm
 have h:isE ps t c=0:=by
  unfold isE
  rw[hck,if_neg (fun h=>h.elim (by decide) fun h=>h (isF_iff.1 hc).1),if_neg (fun h=>h rfl),(isF_given (checkF_zero hck).1).2 hc,if_neg (fun h=>h rfl),hm]
 exact⟨h,by unfold isB;rw[if_pos h]⟩
def lcE:Ev:=⟨1,0,0,0,[]⟩
def psI:List Pr:=[⟨⟨#[112]⟩,[],[lcE]⟩,⟨⟨#[113]⟩,[],[lcE]⟩]
def cntI (p:Int):Pd:=.mk 3 0 p 0 ByteArray.empty []
def tI:Pd:=nd 9 [cntI 0,cntI 1]
def tY:Pd:=nd 13 []
theorem psI_valid:validF psI=true:=by
 unfold validF faultF
 rw[if_neg (by decide),show procFirst psI=none from rfl,show evFirst psI=none from rfl,show msgF psI=none from rfl,cycF_rank (fun x=>x.2) (by decide)]
 rfl
theorem psI_sm:Sm psI:=⟨by decide,by decide,by decide,by decide⟩
theorem psI_cut {c:List Int} (h:isF psI c=true):c=[0,0]∨c=[0,1]∨c=[1,0]∨c=[1,1]:=by
 obtain⟨h1,h2,_⟩:=isF_iff.1 h
 obtain⟨a,b,rfl⟩:=ln2 (l:=c) h1
 obtain⟨a1,a2⟩:=inRangeF_get h2 h1 (p:=0) (by decide)
 obtain⟨b1,b2⟩:=inRangeF_get h2 h1 (p:=1) (by decide)
 have a1:0≤a:=a1
 have a2:a≤1:=a2
 have b1:0≤b:=b1
 have b2:b≤1:=b2
 have ha:a=0∨a=1:=by omega
 have hb:b=0∨b=1:=by omega
 rcases ha with rfl|rfl <;> rcases hb with rfl|rfl <;> simp
theorem psI_00:isF psI [0,0]=true:=by rfl
theorem psI_01:isF psI [0,1]=true:=by rfl
theorem psI_10:isF psI [1,0]=true:=by rfl
theorem psI_11:isF psI [1,1]=true:=by rfl
theorem tI_tru (a b:Int):truF (obC psI [a,b]) tI=decide (a=b):=rfl
theorem tI_formed:formedB tI=true:=by decide
theorem tI_check:checkF psI tI=0:=check_of psI_valid tI_formed (by decide) (by decide) (by rfl)
theorem tY_check {ps:List Pr} (hv:validF ps=true):checkF ps tY=0:=check_of hv (by decide) (by rfl) (by decide) (by rfl)
theorem tI_lin:lnrF tI=true:=by rfl
theorem tI_pln:plnF tI=true:=by rfl
theorem tI_mad (cl:Int) (h:cl=8∨cl=32):madE tI cl=0:=by
 unfold madE
 rw[if_neg (by rw[show prdF tI=0 from prd_of tI_check (by decide)];decide),if_pos]
 refine⟨?_,by decide⟩
 unfold clsB
 rw[show normF tI false=tI from rfl,tI_lin,tI_pln]
 rcases h with rfl|rfl <;> rfl
theorem tY_mad (cl:Int) (h:cl=8∨cl=32):madE tY cl=0:=by
 unfold madE
 rw[if_neg (by rw[show prdF tY=0 from by decide];decide),if_pos]
 refine⟨?_,by decide⟩
 unfold clsB
 rw[show normF tY false=tY from rfl,show lnrF tY=true from rfl,show plnF tY=true from rfl]
 rcases h with rfl|rfl <;> rfl
theorem leC_2 {a b c d:Int} (h1:a≤c) (h2:b≤d):leC [a,b] [c,d]:=fun p=>by
 match p with
 | 0=>exact h1
 | 1=>exact h2
 | p+2=>exact Int.le_refl _
theorem leC_inv {a b c d:Int} (h:leC [a,b] [c,d]):a≤c∧b≤d:=⟨h 0,h 1⟩
theorem tI_lst00:lstQ psI (TruP psI tI) [0,0]=some [0,0]:=lsq_eq ⟨psI_00,.refl _,rfl,fun e _ h _=>h⟩
theorem tI_low {a b:Int} (h1:0≤a∧a≤1) (h2:0≤b∧b≤1) (h:¬a=b):lstQ psI (TruP psI tI) [a,b]=some [1,1]:=lsq_eq ⟨psI_11,leC_2 h1.2 h2.2,rfl,fun e he hle ht=>by
 have ht:truF (obC psI e) tI=true:=ht
 rcases psI_cut he with rfl|rfl|rfl|rfl
 ·obtain⟨g1,g2⟩:=leC_inv hle;omega
 ·rw[tI_tru] at ht;exact absurd (of_decide_eq_true ht) (by decide)
 ·rw[tI_tru] at ht;exact absurd (of_decide_eq_true ht) (by decide)
 ·exact .refl _⟩
theorem tY_lst {ps:List Pr} {c:List Int} (h:isF ps c=true):lstQ ps (TruP ps tY) c=some c:=lsq_eq ⟨h,.refl _,rfl,fun e _ h _=>h⟩
theorem pt_I0:ptF psI 0 0=[1,0]:=by rfl
theorem pt_I1:ptF psI 1 0=[0,1]:=by rfl
theorem tI_list:lirF psI tI=[[1,1]]:=by
 unfold lirF
 rw[if_pos (by unfold mdE;rw[if_neg (fun h=>h tI_check),tI_mad 32 (.inr rfl)])]
 unfold lisF
 rw[show List.replicate psI.length (0:Int)=[0,0] from rfl,tI_lst00]
 have e0:rowO psI (TruP psI tI) 0 (nev psI 0)=[some [1,1]]:=by show [lstQ psI (TruP psI tI) (ptF psI 0 0)]=_;rw[pt_I0,tI_low (by decide) (by decide) (by decide)]
 have e1:rowO psI (TruP psI tI) 1 (nev psI 1)=[some [1,1]]:=by show [lstQ psI (TruP psI tI) (ptF psI 1 0)]=_;rw[pt_I1,tI_low (by decide) (by decide) (by decide)]
 have e:upL psI (TruP psI tI) [0,0] psI.length=[[1,1]]:=by
  show upL psI (TruP psI tI) [0,0] 2=_
  rw[upL,upL,upL,e0,e1]
  decide
 show sortBy cmpC (upL psI (TruP psI tI) [0,0] psI.length)=_
 rw[e]
 exact List.perm_singleton.1 (sortBy_perm cmpC _)
theorem tY_list:lirF psI tY=[[0,1],[1,0]]:=by
 unfold lirF
 rw[if_pos (by unfold mdE;rw[if_neg (fun h=>h (tY_check psI_valid)),tY_mad 32 (.inr rfl)])]
 unfold lisF
 rw[show List.replicate psI.length (0:Int)=[0,0] from rfl,tY_lst psI_00]
 have e0:rowO psI (TruP psI tY) 0 (nev psI 0)=[some [1,0]]:=by show [lstQ psI (TruP psI tY) (ptF psI 0 0)]=_;rw[pt_I0,tY_lst psI_10]
 have e1:rowO psI (TruP psI tY) 1 (nev psI 1)=[some [0,1]]:=by show [lstQ psI (TruP psI tY) (ptF psI 1 0)]=_;rw[pt_I1,tY_lst psI_01]
 have e:upL psI (TruP psI tY) [0,0] psI.length=[[1,0],[0,1]]:=by
  show upL psI (TruP psI tY) [0,0] 2=_
  rw[upL,upL,upL,e0,e1]
  decide
 show sortBy cmpC (upL psI (TruP psI tY) [0,0] psI.length)=_
 rw[e]
 exact(sortBy_eq swoC cmpC_anti (List.Perm.swap _ _ _) (by decide)).symm
theorem tI_least:lesE psI tI (0,1)=0∧lesF psI tI (0,1)=some [1,1]:=by
 have hp:pstE psI (0,1)=0:=by unfold pstE;rw[if_pos psI_valid];rfl
 have hF:pstF psI (0,1)=[1,0]:=by unfold pstF;rw[if_pos hp];exact pt_I0
 have hE:lesE psI tI (0,1)=0:=by
  unfold lesE
  rw[if_neg (fun h=>h tI_check),if_neg (fun h=>h hp),if_neg (fun h=>h (tI_mad 8 (.inl rfl))),hF,tI_low (by decide) (by decide) (by decide)]
  rfl
 refine⟨hE,?_⟩
 unfold lesF
 rw[if_pos hE,hF,tI_low (by decide) (by decide) (by decide)]
end Go.AL
end
section
namespace Go.AL
open Go Go.RowKit
def aNegW (C:Cfg) (o:Oper) (x:AV) (ρ:Env) (L:AHeap) (K:ARes):Prop :=
 match x with
 | .v (.int .u64 a)=>K (put ρ o.dst (.v (.int .u64 (IntKind.u64.wrap (-a))))) L
 | _=>False
def aopN (C:Cfg) (o:Oper) (ρ:Env) (L:AHeap) (K:ARes):Prop :=
 match o.op with
 | .unOp .neg _ x=>aNegW C o (ev ρ x) ρ L K
 | _=>aop C o ρ L K
def aregionN (C:Cfg):List Oper→Env→AHeap→ARes→Prop
 | [],ρ,L,K=>K ρ L
 | o :: rest,ρ,L,K=>o.guard=none∧aopN C o ρ L fun ρ L=>aregionN C rest ρ L K
def aregNK (C:Cfg) (rest:List Oper) (K:ARes) (ρ:Env) (L:AHeap):Prop:=aregionN C rest ρ L K
theorem aregionN_nil (C:Cfg) (ρ:Env) (L:AHeap) (K:ARes):aregionN C [] ρ L K=K ρ L:=rfl
theorem aregionN_cons (C:Cfg) (rest:List Oper) (o:Oper) (ρ:Env) (L:AHeap) (K:ARes):aregionN C (o :: rest) ρ L K=(o.guard=none∧aopN C o ρ L (aregNK C rest K)):=rfl
attribute [go_sem] aregionN_nil aregionN_cons aregNK aopN aNegW
end Go.AL
end
section
namespace Go.AL
open Go Go.RowKit
set_option maxRecDepth 4000
def FamW (tO tI:TypeId) (N n:Nat) (Y:Nat→List AV) (v:AV) (L:AHeap):Prop :=
 ∃(Lv:AHeap) (V:Nat→AV) (Ls:Nat→AHeap),L.Perm (Lv ++ famL n Ls)∧AppSt tO 2 ((List.range n).map fun q => .agg [ai N,V q]) v Lv∧∀q,q<n→AppSt tI 1 (Y q) (V q) (Ls q)
section
variable {tO tI:TypeId} {N n:Nat} {Y:Nat→List AV} {v:AV} {L:AHeap}
theorem FamW.nil (Y:Nat→List AV):FamW tO tI N 0 Y anil []:=⟨[],fun _=>anil,fun _=>[],by simp [famL],.nil,fun q h=>by omega⟩
theorem FamW.snoc {V:Nat→AV} {Ls:Nat→AHeap} {x v':AV} {Lx Lv' L':AHeap} (hF:∀q,q<n→AppSt tI 1 (Y q) (V q) (Ls q)) (hx:AppSt tI 1 (Y n) x Lx) (hA:AppSt tO 2 (((List.range n).map fun q => .agg [ai N,V q]) ++ [.agg [ai N,x]]) v' Lv') (hp:L'.Perm (Lv' ++ (Lx ++ famL n Ls))):FamW tO tI N (n+1) Y v' L':=by
 refine⟨Lv',fun q=>if q=n then x else V q,fun q=>if q=n then Lx else Ls q,hp.trans (List.Perm.append_left _ (fam_more Lx).symm),?_,fun q hq => ?_⟩
 ·have e:((List.range (n+1)).map fun q=>AV.agg [ai N,if q=n then x else V q])=((List.range n).map fun q => .agg [ai N,V q]) ++ [.agg [ai N,x]]:=by
   rw[List.range_succ,List.map_append]
   congr 1
   ·exact List.map_congr_left fun q hq=>by rw[if_neg (by have:=List.mem_range.1 hq;omega)]
   ·simp
  rw[e];exact hA
 ·by_cases e:q=n
  ·subst e;dsimp only;rw[if_pos rfl,if_pos rfl];exact hx
  ·dsimp only;rw[if_neg e,if_neg e];exact hF q (by omega)
theorem FamW.congr {Y':Nat→List AV} (h:FamW tO tI N n Y v L) (e:∀q,q<n→Y' q=Y q):FamW tO tI N n Y' v L:=by
 obtain⟨Lv,V,Ls,h1,h2,h3⟩:=h
 exact⟨Lv,V,Ls,h1,h2,fun q hq=>by rw[e q hq];exact h3 q hq⟩
theorem FamW.perm {L':AHeap} (h:FamW tO tI N n Y v L) (hp:L'.Perm L):FamW tO tI N n Y v L':=by
 obtain⟨Lv,V,Ls,h1,h2,h3⟩:=h
 exact⟨Lv,V,Ls,hp.trans h1,h2,h3⟩
theorem FamW.fo (h:FamW tO tI N n Y v L):fo v=(True,v):=by
 obtain⟨Lv,V,Ls,h1,h2,h3⟩:=h
 exact h2.fo
theorem FamW.shape (h:FamW tO tI N n Y v L):v=anil∨∃b c,v = .ls b 2 0 n c:=by
 obtain⟨Lv,V,Ls,h1,h2,h3⟩:=h
 rcases h2.inv with ⟨e1,e2,e3⟩|⟨bo,cap,e2,e3⟩
 ·exact .inl e2
 ·rw[List.length_map,List.length_range] at e2
  exact .inr ⟨_,_,e2⟩
theorem FamW.one (h:FamW tO tI N n Y v L) {p:Nat} (hp:p<n) (hY:Y p ≠ []) :
  ∃bo cap V bp cp X,v = .ls bo 2 0 n cap∧V.length=n∧V.getD p .any = .agg [ai N,.ls bp 1 0 (Y p).length cp]∧L.Perm ((bo,.row tO 2 V cap) :: (bp,.row tI 1 (Y p) cp) :: X) ∧
   ∀(Y':Nat→List AV) (L':AHeap),(∀q,q ≠ p→Y' q=Y q)→(Y' p).length=(Y p).length→L'.Perm ((bo,.row tO 2 V cap) :: (bp,.row tI 1 (Y' p) cp) :: X)→FamW tO tI N n Y' v L':=by
 obtain⟨Lv,V,Ls,h1,h2,h3⟩:=h
 have hlen:((List.range n).map fun q=>AV.agg [ai N,V q]).length=n:=by simp
 rcases h2.inv with ⟨e1,_,_⟩|⟨bo,cap,e2,e3⟩
 ·have h0:n=0:=by have:=congrArg List.length e1;simpa using this
  omega
 rw[hlen] at e2
 subst e3
 rcases (h3 p hp).inv with ⟨e1,_,_⟩|⟨bp,cp,e4,e5⟩
 ·exact absurd e1 hY
 refine⟨bo,cap,(List.range n).map fun q => .agg [ai N,V q],bp,cp,famR n p Ls,e2,hlen,by rw[map_range_getD hp,e4],?_,fun Y' L' hY' hl hL => ?_⟩
 ·have hf:=fam_split hp Ls
  rw[e5] at hf
  exact h1.trans (List.Perm.cons _ hf)
 ·refine⟨[(bo,.row tO 2 ((List.range n).map fun q => .agg [ai N,V q]) cap)],V,fun r=>if r=p then [(bp,.row tI 1 (Y' p) cp)] else Ls r,?_,?_,fun r hr => ?_⟩
  ·refine hL.trans (List.Perm.cons _ ?_)
   have hsp:=fam_split hp (fun r=>if r=p then [(bp,ABlk.row tI 1 (Y' p) cp)] else Ls r)
   rw[if_pos rfl,famR_congr (Ls:=Ls) (fun q hq=>if_neg hq)] at hsp
   exact hsp.symm
  ·have:=AppSt.row (t:=tO) (k:=2) bo ((List.range n).map fun q=>AV.agg [ai N,V q]) cap
   rw[hlen] at this
   rw[e2];exact this
  ·by_cases e:r=p
   ·subst e;dsimp only;rw[if_pos rfl,e4,← hl];exact .row _ _ _
   ·dsimp only;rw[if_neg e,hY' r e];exact h3 r hr
theorem FamW.vw (h:FamW tO tI N n Y v L) (hn:(L.map (·.1)).Nodup):Vw L v (.sl 2 ((List.range n).map fun q => .agg [ai N,.sl 1 (Y q)])):=by
 obtain⟨Lv,V,Ls,h1,h2,h3⟩:=h
 rcases h2.inv with ⟨e1,e2,e3⟩|⟨bo,cap,e2,e3⟩
 ·have h0:n=0:=by have:=congrArg List.length e1;simpa using this
  subst h0
  rw[e2];exact .nil 2
 ·rw[e2]
  refine Vw.ofLs' (t:=tO) (cap:=cap) (lk_of_mem hn (h1.mem_iff.2 (List.mem_append_left _ (by rw[e3];exact List.mem_singleton_self _)))) rfl ⟨by simp,fun i x y hx hy => ?_⟩
  by_cases hi:i<n
  ·rw[List.getElem?_map,List.getElem?_range hi] at hx hy
   cases hx;cases hy
   refine .mkAgg (Vws.cons (.refl _) (Vws.cons ?_ .nil))
   rcases (h3 i hi).inv with ⟨e4,e5,_⟩|⟨b,c,e5,e6⟩
   ·rw[e4,e5];exact .nil 1
   ·rw[e5]
    refine Vw.ofLs (t:=tI) (cap:=c) (lk_of_mem hn (h1.mem_iff.2 (List.mem_append_right _ ?_))) rfl
    unfold famL
    exact List.mem_flatMap.2 ⟨i,List.mem_range.2 hi,by rw[e6];exact List.mem_singleton_self _⟩
  ·have:(List.range n)[i]?=none:=by simp;omega
   rw[List.getElem?_map,this] at hx;cases hx
end
section
variable (n:Nat) (hn:n≤512) (F:Nat→Nat→Bool) (hirr:∀i,i<n→F i i=false) (htr:∀i j k,i<n→j<n→k<n→F i j=true→F j k=true→F i k=true) (f:Nat→Bool)
include hn hirr htr
end
section
variable {ps:List Pr} (hv:validF ps=true) {l:List Syn} (hl:SynOk ps l) (hW:WhlX ps (exF ps l))
include hv hl hW
end
def VSt (n bo bs:Nat) (S:Nat→List (List Int)) (T:Int→AV) (L:AHeap):Prop :=
 ∃(V:Nat→AV) (Ls:Nat→AHeap) (SV:List AV),L.Perm ((bs,.row 33 1 SV 200) :: (bo,.row 42 1 ((List.range n).map V) n) :: famL n Ls) ∧
  (∀p,p<n→AppSt 33 1 ((S p).map aInts) (V p) (Ls p))∧SV.length=200∧∀m:Int,0≤m→m≤199→SV.getD m.toNat .any=T m
theorem VSt.perm {n bo bs:Nat} {S:Nat→List (List Int)} {T:Int→AV} {L L':AHeap} (hp:L'.Perm L) (h:VSt n bo bs S T L):VSt n bo bs S T L' :=
 let ⟨V,Ls,SV,h1,h2⟩:=h
 ⟨V,Ls,SV,hp.trans h1,h2⟩
theorem VSt.open {n bo bs:Nat} {S:Nat→List (List Int)} {T:Int→AV} {L:AHeap} (h:VSt n bo bs S T L) {p:Nat} (hp:p<n) :
  ∃(V:Nat→AV) (Ls:Nat→AHeap) (SV:List AV),L.Perm ((bs,.row 33 1 SV 200) :: (bo,.row 42 1 ((List.range n).map V) n) :: (Ls p ++ famR n p Ls)) ∧
   AppSt 33 1 ((S p).map aInts) (V p) (Ls p)∧SV.length=200∧(∀m:Int,0≤m→m≤199→SV.getD m.toNat .any=T m) ∧
   ∀(S':Nat→List (List Int)) (T':Int→AV) (x:AV) (Lp:AHeap) (SV':List AV) (L':AHeap),(∀q,q ≠ p→S' q=S q)→AppSt 33 1 ((S' p).map aInts) x Lp→SV'.length=200→(∀m:Int,0≤m→m≤199→SV'.getD m.toNat .any=T' m) →
    L'.Perm ((bs,.row 33 1 SV' 200) :: (bo,.row 42 1 (((List.range n).map V).set p x) n) :: (Lp ++ famR n p Ls))→VSt n bo bs S' T' L':=by
 obtain⟨V,Ls,SV,h1,h2,h3,h4⟩:=h
 refine⟨V,Ls,SV,h1.trans (((fam_split hp Ls).cons _).cons _),h2 p hp,h3,h4,fun S' T' x Lp SV' L' hS hA hl hT hL => ?_⟩
 refine⟨fun q=>if q=p then x else V q,fun q=>if q=p then Lp else Ls q,SV',?_,fun q hq => ?_,hl,hT⟩
 ·refine hL.trans ?_
  rw[map_range_set]
  refine(List.Perm.cons _ (List.Perm.cons _ ?_))
  have hsp:=fam_split hp (fun q=>if q=p then Lp else Ls q)
  rw[if_pos rfl,famR_congr (Ls:=Ls) (fun q hq=>if_neg hq)] at hsp
  exact hsp.symm
 ·by_cases e:q=p
  ·subst e;dsimp only;rw[if_pos rfl,if_pos rfl];exact hA
  ·dsimp only;rw[if_neg e,if_neg e,hS q e];exact h2 q hq
theorem Vws.set {L:AHeap} {xs ys:List AV} {a b:AV} (h:Vws L xs ys) (hab:Vw L a b) (i:Nat):Vws L (xs.set i a) (ys.set i b):=by
 refine⟨by rw[List.length_set,List.length_set];exact h.1,fun j x y hx hy => ?_⟩
 rw[List.getElem?_set] at hx hy
 by_cases e:i=j
 ·subst e
  rw[if_pos rfl] at hx hy
  split at hx
  ·split at hy
   ·cases hx;cases hy;exact hab
   ·cases hy
  ·cases hx
 ·rw[if_neg e] at hx hy;exact h.2 j x y hx hy
def badP (n:Nat) (p:Int):Bool:=decide (p<0) || decide ((n:Int)≤p)
open Classical in
noncomputable def aPeak (ps:List Pr) (order:List Int):AV :=
 if validF ps=false then .tup [ai 0,ai 1] else if order.any (badP ps.length)=true then .tup [ai 0,ai 2] else if RunOk ps order order.length then .tup [ai (peakF ps order order.length),ai 0] else .tup [ai 0,ai 11]
end Go.AL
end
section
namespace Go.AL
open Go Go.RowKit
set_option maxRecDepth 4000
theorem ref13_EventsW (ps:List Pr) (hpl:ps.length≤9223372036854775807) (hev:∀p ∈ ps,p.evs.length≤9223372036854775807):PC Proofs.Tryz.prog 42 [aTr ps] (ai (smW ps ps.length)):=by
 refine PC.enter 22 [.tmp 2] [1] Proofs.Tryz.func42 rfl rfl rfl rfl rfl (by simp) (AWp.of ?_);simp only[go_sem]
 refine Wk ?_
 refine AWp.block (AWp.count 4 ps.length [3] [1] (fun p vs L=>L=[]∧vs=[ai (smW ps p)]) rfl rfl ⟨rfl,rfl⟩ ?_)
 rintro p vs L hp - ⟨rfl,rfl⟩
 simp only[go_sem]
 refine Wk ?_
 refine⟨fun h1 => ?_,fun h1 => ?_⟩
 ·have hpp:p<ps.length:=by omega
  have hg:=getD_map (f:=aPr) hpp
  have hel:=hev _ (List.getElem_mem hpp)
  have hsw:smW ps (p+1)=addW (smW ps p) ps[p].evs.length:=by rw[← nev_get hpp];rfl
  have hin:=smW_in ps p
  have hin2:=smW_in ps (p+1)
  rw[hsw] at hin2
  repeat(first|(with_reducible refine AWp.seq ?_)|(with_reducible refine AWp.block ?_))
  refine AWp.regionW ?_
  simp only[go_sem,hg]
  refine Sd ?_
  refine Wk ?_
  exact⟨_,List.Sublist.refl _,rfl,by rw[hsw]⟩
 ·have:p=ps.length:=by omega
  subst this
  refine Wk ?_
  refine ret_eq ?_;simp only[go_sem]
def aHuge3 (bn bw:Nat):AV:=.clo 47 [.lp bn 1 0 0,.lp bw 1 0 0]
def LhPd3 (bn bw:Nat) (c:Int):AHeap:=[(bw,.row 89 1 [aHuge3 bn bw] 1),(bn,.row 3 1 [ai c] 1)]
theorem law33_huge1 (bn bw:Nat) (hb:¬bn=bw) (t:Pd):∀d c:Int,0≤d→d≤41→0≤c→c≤300 →
  MCalls Proofs.Tryz.prog 47 [aPd t,ai d,.lp bn 1 0 0,.lp bw 1 0 0] (LhPd3 bn bw c) fun r L=>r = .tup []∧L=LhPd3 bn bw (hugeF t d c):=by
 induction t using Pd.ind with
 | _ k n p q s l ih =>
 intro d c d0 d1 c0 c1
 have hb':¬bw=bn:=fun e=>hb e.symm
 have hsp:hugeF (.mk k n p q s l) d c=hugeL l (d+1) (if 40<d then 1000 else c+1):=by rw[hugeF]
 unfold LhPd3 aHuge3 at *
 refine MCalls.enter' 31 [] [4] Proofs.Tryz.func47 rfl rfl rfl rfl rfl (by simp) (AWp.of ?_);simp only[go_sem]
 generalize hugeF (.mk k n p q s l) d c=z at *
 refine Sd ?_
 refine AWp.of ?_;simp only[go_sem,hb]
 refine Sd ?_
 refine AWp.cut [1,2,3,4] (fun vs L=>vs=[ai d,.lp bn 1 0 0,.lp bw 1 0 0,.rp 6 [aPd (.mk k n p q s l)] 0 0]∧L=[(bw,ABlk.row 89 1 [.clo 47 [.lp bn 1 0 0,.lp bw 1 0 0]] 1),(bn,ABlk.row 3 1 [ai (if 40<d then 1000 else c+1)] 1)]) ?_ ?_
 ·refine W1 hb ?_
  refine⟨fun h1 => ?_,fun h1 => ?_⟩
  ·refine Wk ?_
   exact⟨_,List.Sublist.refl _,by rw[if_pos h1]⟩
  ·exact⟨_,List.Sublist.refl _,by rw[if_neg h1]⟩
 rintro vs L - ⟨rfl,rfl⟩
 have hd40:(if 40<d then 1000 else c+1)≤300→d≤40:=by split <;> omega
 have hC:0≤(if 40<d then 1000 else c+1)∧(if 40<d then 1000 else c+1)≤1000:=by split <;> omega
 generalize (if 40<d then 1000 else c+1)=C at *
 simp only[go_sem]
 refine Wk ?_
 refine AWp.block (AWp.count 6 l.length [] [1,2,3,4] (fun i vs L=>(i:Int)≤hugeL (l.take i) (d+1) C∧C≤hugeL (l.take i) (d+1) C∧hugeL (l.take i) (d+1) C≤1000∧L=[(bw,ABlk.row 89 1 [.clo 47 [.lp bn 1 0 0,.lp bw 1 0 0]] 1),(bn,ABlk.row 3 1 [ai (hugeL (l.take i) (d+1) C)] 1)]) rfl rfl (by rw[List.take_zero,hugeL_nil];exact⟨by omega,by omega,by omega,rfl⟩) ?_)
 rintro i vs L hi - ⟨hi1,hi2,hi3,rfl⟩
 have hfull:=fun h=>hugeL_full (l:=l) (d:=d+1) (c:=C) (i:=i) h
 have htk:=fun (h:i<l.length)=>hugeL_take (l:=l) (d:=d+1) (c:=C) h
 have hend:i=l.length→hugeL (l.take i) (d+1) C=hugeL l (d+1) C:=fun h=>by rw[h,List.take_length]
 generalize hugeL (l.take i) (d+1) C=ci at *
 simp only[go_sem]
 refine W1 hb ?_
 refine⟨fun h4 h5 => ?_,fun h4 => ?_⟩
 ·have hil:i<l.length:=by omega
  have hgi:=getD_map (f:=aPd) hil
  have hch:=ih l[i] (List.getElem_mem hil) (d+1) ci (by omega) (by omega) (by omega) h5
  have htk:=htk hil
  rw[if_pos h5] at htk
  obtain⟨g1,g2,_⟩:=hugeF_spec l[i] (d+1) ci (by omega) h5
  generalize hugeF l[i] (d+1) ci=cn at *
  generalize l[i]=x at *
  obtain⟨k2,n2,p2,q2,s2,l2⟩:=x
  simp only[aPd_mk] at hgi hch
  refine AWp.seq (AWp.block ?_)
  repeat(first|(with_reducible refine AWp.seq ?_)|(with_reducible refine AWp.block ?_))
  refine AWp.mix mixed [1,2,3,4,5,6,7] (.step 0 (.step 8 .done .done) .done) (by kernel_rfl) ?_;simp only[go_sem,hgi,hb']
  refine Sd ?_
  refine(MCalls.clo hch).mono ?_
  rintro r L ⟨rfl,rfl⟩
  simp only[go_sem]
  refine Wk ?_
  exact⟨_,List.Sublist.refl _,by rw[htk];omega,by rw[htk];omega,by rw[htk];exact g2,by rw[htk]⟩
 ·refine Wk ?_
  have hz:z=ci:=by
   rw[hsp]
   by_cases e:ci≤300
   ·have:¬(i:Int)<l.length:=fun h=>h4 h e
    rw[hend (by omega)]
   ·exact hfull e
  refine ret_own ?_
  simp only[go_sem]
  rw[hz]
theorem law33_huge (t:Pd):PC Proofs.Tryz.prog 8 [aPd t] (ab (decide (300<hugeF t 0 0))):=by
 have hw:=fun bn bw hb=>law33_huge1 bn bw hb t 0 0 (by decide) (by decide) (by decide) (by decide)
 unfold LhPd3 aHuge3 at hw
 generalize hugeF t 0 0=w at *
 obtain⟨k,n,p,q,s,l⟩:=t
 simp only[aPd_mk] at *
 refine PC.enter 11 [.tmp 2] [1] Proofs.Tryz.func8 rfl rfl rfl rfl rfl (by simp) (AWp.of ?_);simp only[go_sem]
 refine Wk ?_
 intro bn
 refine Wk ?_
 intro bw hlt
 have hb:¬bw=bn:=by omega
 have hb':¬bn=bw:=by omega
 refine W1 hb ?_
 refine Sd ?_
 refine(MCalls.clo (hw bn bw hb')).mono ?_
 rintro r L ⟨rfl,rfl⟩
 simp only[go_sem]
 refine W1 hb' ?_
 refine ret_eq ?_;simp only[go_sem]
def bg3P (x:Pr):Bool:=decide (40<(x.evs.length:Int)) || (decide (20<(x.vars.length:Int)) || x.evs.any asg20)
def bg3F (ps:List Pr):Bool:=decide (40<smW ps ps.length) || (decide (10<(ps.length:Int)) || ps.any bg3P)
theorem bg3_sm {ps:List Pr} (h:bg3F ps=false):Sm ps∧ps.length≤10∧∀p ∈ ps,p.evs.length≤40:=by
 simp only[bg3F,Bool.or_eq_false_iff,decide_eq_false_iff_not,List.any_eq_false,bg3P,asg20,Bool.or_eq_true,decide_eq_true_eq,not_or,Bool.not_eq_true] at h
 obtain⟨h0,h1,h2⟩:=h
 exact⟨⟨by omega,fun p hp=>by have:=(h2 p hp).1;omega,fun p hp=>by have:=(h2 p hp).2.1;omega,fun p hp e he=>by have:=(h2 p hp).2.2 e he;omega⟩,by omega,fun p hp=>by have:=(h2 p hp).1;omega⟩
theorem law33_big11 (e:Ev):PC Proofs.Tryz.prog 46 [aEv e] (ab (asg20 e)):=by
 refine PC.enter 7 [.tmp 2] [1] Proofs.Tryz.func46 rfl rfl rfl rfl rfl (by simp) (AWp.of ?_);simp only[go_sem]
 refine Wk ?_
 refine ret_eq ?_;simp only[go_sem]
 rfl
theorem law33_big1 (x:Pr):PC Proofs.Tryz.prog 44 [aPr x] (ab (bg3P x)):=by
 refine PC.enter 18 [.tmp 2] [1] Proofs.Tryz.func44 rfl rfl rfl rfl rfl (by simp) (AWp.of ?_);simp only[go_sem]
 refine Wk ?_
 refine GCall.use (ab (x.evs.any asg20)) (fun hg=>⟨by have:=hg;simp at this ⊢;omega,(events_containsFunc x.evs (by have:=hg;simp at this;omega) _ rfl asg20 fun e _=>(law33_big11 e).val).val.use ⟨rfl,rfl⟩⟩) ?_;simp only[go_sem]
 refine Wk ?_
 refine ret_eq ?_;simp only[go_sem]
 unfold bg3P;rw[Bool.or_assoc]
theorem law33_big (ps:List Pr) (hpl:ps.length≤9223372036854775807) (hev:∀p ∈ ps,p.evs.length≤9223372036854775807):PC Proofs.Tryz.prog 7 [aTr ps] (ab (bg3F ps)):=by
 have h1:=ref13_EventsW ps hpl hev
 have hb:bg3F ps=(decide (40<smW ps ps.length) || (decide (10<(ps.length:Int)) || ps.any bg3P)):=rfl
 rw[hb]
 generalize smW ps ps.length=E at *
 have hT:aTr ps = .agg [.sl 3 (ps.map aPr)]:=rfl
 rw[hT] at h1 ⊢
 refine PC.enter 17 [.tmp 2] [1] Proofs.Tryz.func7 rfl rfl rfl rfl rfl (by simp) (AWp.of ?_);simp only[go_sem]
 refine Wk ?_
 refine Sd ?_
 refine(h1).val.use ?_;simp only[go_sem]
 refine Wk ?_
 refine GCall.use (ab (ps.any bg3P)) (fun hg=>⟨by have:=hg;simp at this ⊢;omega,(procs_containsFunc ps (by have:=hg;simp at this;omega) _ rfl bg3P fun e _=>(law33_big1 e).val).val.use ⟨rfl,rfl⟩⟩) ?_;simp only[go_sem]
 refine Wk ?_
 refine ret_eq ?_;simp only[go_sem]
 rw[Bool.or_assoc]
set_option maxHeartbeats 1000000 in
theorem law33_awake:PC Proofs.Tryz.prog 6 [] (ab true):=by
 have h1:=irr_List psI psI_sm tI (by decide)
 have h2:=irr_List psI psI_sm tY (by decide)
 have h3:=irr_Least psI psI_sm tI (by decide) (0,1)
 have e1:mdE psI tI 32=0:=by unfold mdE;rw[if_neg (fun h=>h tI_check),tI_mad 32 (.inr rfl)]
 have e2:mdE psI tY 32=0:=by unfold mdE;rw[if_neg (fun h=>h (tY_check psI_valid)),tY_mad 32 (.inr rfl)]
 rw[tI_list,e1] at h1
 rw[tY_list,e2] at h2
 rw[tI_least.1,tI_least.2] at h3
 have h4:=ref24_Same [[1,1]] [[1,1]] (by decide) (by decide)
 have h5:=ref24_Same [[0,1],[1,0]] [[0,1],[1,0]] (by decide) (by decide)
 have h6:=ints_equal [1,1] [1,1] (by decide)
 rw[decide_eq_true rfl] at h4 h5 h6
 have hT:aTr psI = .agg [.sl 3 [.agg [astr ⟨#[112]⟩,.sl 2 [],.sl 5 [.agg [ai 1,ai 0,ai 0,ai 0,.sl 2 []]]],.agg [astr ⟨#[113]⟩,.sl 2 [],.sl 5 [.agg [ai 1,ai 0,ai 0,ai 0,.sl 2 []]]]]]:=rfl
 have hI:aPd tI = .agg [ai 9,ai 0,ai 0,ai 0,astr ByteArray.empty,.sl 6 [.agg [ai 3,ai 0,ai 0,ai 0,astr ByteArray.empty,.sl 6 []],.agg [ai 3,ai 0,ai 1,ai 0,astr ByteArray.empty,.sl 6 []]]]:=by
  unfold tI nd cntI
  rw[aPd_mk,List.map_cons,List.map_cons,List.map_nil,aPd_mk,aPd_mk];rfl
 have hY:aPd tY = .agg [ai 13,ai 0,ai 0,ai 0,astr ByteArray.empty,.sl 6 []]:=by unfold tY nd;rw[aPd_mk];rfl
 rw[hT,hI] at h1 h3
 rw[hT,hY] at h2
 refine PC.enter 68 [.tmp 0] [1,2,10,13,15,19,44,45,54,55,56,65] Proofs.Tryz.func6 rfl rfl rfl rfl rfl (by simp) (AWp.of ?_);simp only[go_sem]
 refine Wk ?_
 intro b1
 refine Sd ?_
 refine AWp.view [] [(1,.rp 1 [aTr psI] 0 0)] (LVw.refl _) ?_ ?_
 ·intro p hp
  simp only[List.mem_singleton] at hp
  subst hp
  show Vw [] _ (.rp 1 [aTr psI] 0 0)
  rw[hT]
  simp only[go_sem]
  refine Vw.mkRp ?_
  repeat(first|exact Vw.refl _|exact Vws.nil|exact Vw.nil _|refine Vws.cons ?_ ?_|refine Vw.mkAgg ?_|refine Vw.mkSl ?_)
 rw[hT]
 generalize [AV.agg [astr ⟨#[112]⟩,.sl 2 [],.sl 5 [.agg [ai 1,ai 0,ai 0,ai 0,.sl 2 []]]],.agg [astr ⟨#[113]⟩,.sl 2 [],.sl 5 [.agg [ai 1,ai 0,ai 0,ai 0,.sl 2 []]]]]=T at *
 refine AWp.only [0,1] ?_
 simp only[go_sem]
 refine Wk ?_
 intro b2
 refine Sd ?_
 refine AWp.view [] [(2,.rp 6 [aPd tI] 0 0)] (LVw.refl _) ?_ ?_
 ·intro p hp
  simp only[List.mem_singleton] at hp
  subst hp
  show Vw [] _ (.rp 6 [aPd tI] 0 0)
  rw[hI]
  simp only[go_sem]
  refine Vw.mkRp ?_
  repeat(first|exact Vw.refl _|exact Vws.nil|exact Vw.nil _|refine Vws.cons ?_ ?_|refine Vw.mkAgg ?_|refine Vw.mkSl ?_)
 rw[hI]
 have h2:PC Proofs.Tryz.prog 21 [.agg [.sl 3 T],.agg [ai 13,ai 0,ai 0,ai 0,astr ByteArray.empty,anil]] (.tup [aRows [[0,1],[1,0]],ai 0]):=PC.vw0 (Vws.cons (.refl _) (Vws.cons (.mkAgg (by repeat(first|exact Vw.refl _|exact Vws.nil|exact Vw.nil _|refine Vws.cons ?_ ?_))) .nil)) h2
 generalize [AV.agg [ai 3,ai 0,ai 0,ai 0,astr ByteArray.empty,.sl 6 []],.agg [ai 3,ai 0,ai 1,ai 0,astr ByteArray.empty,.sl 6 []]]=X at *
 refine AWp.only [0,1,2] ?_
 simp only[go_sem]
 refine Wk ?_
 refine Sd ?_
 refine(h1).val.use ?_;simp only[go_sem]
 refine Wk ?_
 refine Sd ?_
 refine(h2).val.use ?_;simp only[go_sem]
 refine Wk ?_
 refine Sd ?_
 refine(h3).val.use ?_;simp only[go_sem]
 simp only[aOpt]
 refine Wk ?_
 refine Sd ?_
 refine Gc h4 ?_
 refine Sd ?_
 refine Sd ?_
 refine Gc h5 ?_
 refine Sd ?_
 refine Sd ?_
 refine Gc h6 ?_
 refine Sd ?_
 refine Wk ?_
 refine ret_eq ?_;simp only[go_sem]
noncomputable def blE (ps:List Pr) (c:List Int) (t:Pd):Int:=atE ps c t 2
noncomputable def blF (ps:List Pr) (c:List Int) (t:Pd):Bool:=if atE ps c t 2=0 then truF (obC ps c) t else false
theorem bl_of {ps:List Pr} {c:List Int} {t:Pd} (hck:checkF ps t=0) (hp:prdF t=0) (ht:allB ntmB t=true) (hc:isF ps c=true):blE ps c t=0∧blF ps c t=truF (obC ps c) t:=by
 have hv:=(checkF_zero hck).1
 have hE:atE ps c t 2=0:=by
  unfold atE
  rw[if_neg (by have:=(isF_iff.1 hc).1;omega),hck,if_neg (by decide),(isF_given hv).2 hc,if_neg (by decide),res_of_bool (prdF_zero hp).2.2,if_neg (by decide),ht]
  rfl
 exact⟨hE,by unfold blF;rw[if_pos hE]⟩
theorem leq_leC {a b:List Int} (hl:a.length=b.length) (h:leC a b):leqF a b=true:=by
 rw[leqF_iff]
 exact⟨hl,fun i _=>h i⟩
end Go.AL
end
