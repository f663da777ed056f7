/- Texts of this claim's proof: WPi, WVt, WVb, WJn, WPw, WPw2, WTl, WEf, WSg, AlBr, AlBr2, AlBr3, AlBr4, AlSrt, WLsf, WCx, AlCutf, AlRed, WCf, WEl, WBd, WCl, WRe, WLo. No condition. -/
import Derived.Test.YtbegiibjiidkmaaGreatDoorM8
import Derived.Test.YtbegiibjiidkmaaGreatDoorM7
import Derived.Test.YtbegiibjiidkmaaGreatDoorM6
import Derived.Test.YtbegiibjiidkmaaGreatDoorM5
import Derived.Test.YtbegiibjiidkmaaGreatDoorM4
import Derived.ProofKit
import Derived.Lib.LaidTab
import Derived.Shelf.SlSortCmp.Whole1
import Derived.Test.YtbegiibjiidkmaaGreatDoorProg
import Derived.Shelf.SlGeneric
section
namespace Go.AL
open Go Go.RowKit Proofs.Tryz
set_option maxRecDepth 4000
theorem predtype_small (ps:List Pr)(hs:Sm ps)(hv:validF ps=true)(t:Pd):szF t<=1000000->okT ps t=true->PC prog 152 [aTr ps,aPd t] (ab (fitB ps t)):=by
 induction t using Pd.ind with
 | _ k n p q s l ih =>
 intro hz ht
 have hsz:szF (.mk k n p q s l)=szL l+1:=by rw[szF]
 have hll:=szL_len l
 have hsp:=fitB_mk ps k n p q s l
 have hr:=predtype_result k
 have hbd:=fun h=>predtype_bounds ps hs hv (.mk k n p q s l) hz ht h
 have h1:∀x ∈ l,PV prog (.clo 193 [.rp 1 [aTr ps] 0 0]) [aPd x] (ab (!fitB ps x)):=by
  intro x hx
  have hxi:=szL_mem hx
  have hch:=ih x hx (by omega) ((okT_sub ht).2.2.2 x hx).1
  generalize fitB ps x=b at *
  obtain⟨k2,n2,p2,q2,s2,l2⟩:=x
  refine PC.clo ?_
  simp only[aPd_mk] at *
  refine PE 8 [.tmp 3] [2] func193 ?_;simp only[go_sem]
  refine Wk ?_
  refine Sd ?_
  refine Vu hch ?_
  refine Wk ?_
  exact Rz
 have hc:=preds_containsFunc l (by omega) _ rfl (fun x=>!fitB ps x) h1
 have hall:l.all (fitB ps) = !l.any fun x=>!fitB ps x:=by rw[List.all_eq_not_any_not]
 rw[hall] at hsp
 generalize (l.any fun x=>!fitB ps x)=c at *
 generalize fitB ps (.mk k n p q s l)=F at *
 simp only[Pd.kind] at hbd
 have hrk:resF k=1↔k<=8:=by unfold resF;split <;> omega
 generalize resF k=r at *
 generalize intF ps (.mk k n p q s l)=I at *
 unfold aBd aIv at hbd
 simp only[aPd_mk] at *
 refine PE 23 [.tmp 4] [2,3,5] func152 ?_;simp only[go_sem]
 refine Wk ?_
 refine Sd ?_
 refine Vu hr ?_
 refine Wk ?_
 constructor<;>intro h2
 ·have hk:=hrk.1 h2
  rw[if_pos hk] at hsp
  have hbd:=hbd hk
  refine Wk ?_
  refine Sd ?_
  refine Vu hbd ?_
  refine Wk ?_
  intro b5
  refine Wk ?_
  refine Rq ?_
  rw[hsp]
 ·rw[if_neg (fun h=>h2 (hrk.2 h))] at hsp
  refine Wk ?_
  refine Sd ?_
  refine Vu hc ?_
  refine Wk ?_
  refine Rq ?_
  rw[hsp]
theorem predtype_Check (ps:List Pr)(hs:Sm ps)(t:Pd)(hz:szF t<=1000000):PC prog 114 [aTr ps,aPd t] (ai (checkF ps t)):=by
 have h1:=trace_Valid ps hs
 have h2:=predtype_formed t hz
 have h3:=predtype_resolved ps hs t hz
 have h4:=predtype_typed t hz
 have h5:=fun h1 h2=>predtype_small ps hs h1 t hz h2
 have hsp:checkF ps t=if (validF ps && formedB t)=false then 1 else if allB (resB ps) t=false then 13 else if typedB t=false then 14 else if fitB ps t=false then 9 else 0:=rfl
 have hok:formedB t=true->allB (resB ps) t=true->typedB t=true->okT ps t=true:=fun a b c=>by
  unfold okT;unfold formedB at a;unfold typedB at c
  simp only[Bool.and_eq_true] at a ⊢
  exact⟨⟨a.2,b⟩,c⟩
 generalize checkF ps t=r at *
 generalize okT ps t=O at *
 generalize validF ps=V at *
 generalize formedB t=F at *
 generalize allB (resB ps) t=R at *
 generalize typedB t=T at *
 generalize fitB ps t=S at *
 obtain⟨k,n,p,q,s,l⟩:=t
 simp only[aPd_mk] at *
 refine PE 28 [.tmp 4] [2,3] func114 ?_;simp only[go_sem]
 refine Wk ?_
 refine Sd ?_
 refine Vu h1 ?_
 refine Sd ?_
 refine Gc h2 ?_
 refine Sd ?_
 refine Wk ?_
 constructor<;>intro h6
 ·refine Wk ?_
  refine Rq ?_
  rw[hsp,if_pos (by cases V <;> simp_all)]
 intro h7
 rw[if_neg (by rw[h6,h7];decide)] at hsp
 refine Wk ?_
 refine Sd ?_
 refine Vu h3 ?_
 refine Wk ?_
 constructor<;>intro h8
 ·refine Wk ?_
  refine Rq ?_
  rw[hsp,if_pos h8]
 rw[if_neg (by rw[h8];decide)] at hsp
 refine Wk ?_
 refine Sd ?_
 refine Vu h4 ?_
 refine Wk ?_
 constructor<;>intro h9
 ·refine Wk ?_
  refine Rq ?_
  rw[hsp,if_pos h9]
 rw[if_neg (by rw[h9];decide)] at hsp
 have h5:=h5 h6 (hok h7 h8 h9)
 refine Wk ?_
 refine Sd ?_
 refine Vu h5 ?_
 refine Wk ?_
 constructor<;>intro h10
 ·refine Wk ?_
  refine Rq ?_
  rw[hsp,if_pos h10]
 rw[if_neg (by rw[h10];decide)] at hsp
 refine Wk ?_
 refine Rq ?_
 rw[hsp]
theorem fit_child {ps:List Pr}{k n p q:Int}{s:ByteArray}{l:List Pd}(h:fitB ps (.mk k n p q s l)=true)(hk:9<=k):∀x ∈ l,fitB ps x=true:=by
 rw[fitB_mk,if_neg (by omega),List.all_eq_true] at h;exact h
theorem fit_int {ps:List Pr}{x:Pd}(h:fitB ps x=true)(hk:x.kind<=8):(intF ps x).2.2=true:=by
 obtain⟨k,n,p,q,s,l⟩:=x
 simp only[Pd.kind] at hk
 rw[fitB_mk,if_pos hk] at h;exact h
theorem view_truth (ps:List Pr)(c:List Int)(V:List (List Int))(o:Obs)(hcl:c.length<=1000000)(t:Pd):szF t<=1000000->okT ps t=true->9<=t.kind->fitB ps t=true->allB ntmB t=true->AllP (obsB ps o) t->AllP (leafOk ps c V o) t ->
  PC prog 118 [aView ps c V,aPd t] (ab (truF o t)):=by
 induction t using Pd.ind with
 | _ k n p q s l ih =>
 intro hz ht hk hi htm hob hlf
 obtain⟨o1,o2,o3,o4⟩:=okT_sub ht
 obtain⟨hpl,_⟩:=loc_len o1
 simp only[Pd.kind] at hk
 obtain⟨ht1,ht2⟩:=allB_sub htm
 have hnt:¬(18<=k/\k<=21):=by unfold ntmB tempB at ht1;simp at ht1;omega
 have hsz:szF (.mk k n p q s l)=szL l+1:=by rw[szF]
 have hsp:=truF_mk o k n p q s l
 have hfc:=fit_child hi hk
 obtain⟨_,hls⟩:=AllP_sub hlf
 obtain⟨_,hos⟩:=AllP_sub hob
 generalize truF o (.mk k n p q s l)=R at *
 unfold truN at hsp
 by_cases h12:k<=12
 ·have hch:=child_le ht h12
  obtain⟨a,b,rfl⟩:=len2 (l:=l) (by rcases parts_cases k with ⟨e,hc⟩|⟨e,hc⟩|⟨e,hc⟩|e <;> omega)
  obtain⟨c1,c2⟩:=hch a (by simp)
  obtain⟨c3,c4⟩:=hch b (by simp)
  have hza:=szL_mem (l:=[a,b]) (x:=a) (by simp)
  have hzb:=szL_mem (l:=[a,b]) (x:=b) (by simp)
  have hca:=view_number ps c V o hcl a (by omega) c1 c2 (fit_int (hfc a (by simp)) c2) (hos a (by simp)) (hls a (by simp))
  have hcc:=view_number ps c V o hcl b (by omega) c3 c4 (fit_int (hfc b (by simp)) c4) (hos b (by simp)) (hls b (by simp))
  simp only[List.map_cons,List.map_nil,List.getD_cons_zero,List.getD_cons_succ] at hsp
  generalize valF o a=A at *
  generalize valF o b=B at *
  clear ih hlf hls hob hos htm ht2 hch hfc
  unfold aView at *
  obtain⟨ka,na,pa,qa,sa,la⟩:=a
  obtain⟨kb,nb,pb,qb,sb,lb⟩:=b
  simp only[aPd_mk,List.map_cons,List.map_nil] at *
  refine PE 112 [.tmp 4] [2,3] func118 ?_;simp only[go_sem]
  by_cases h9:k=9
  ·rw[if_pos h9] at hsp
   repeat(first|((with_reducible refine AWp.ofC ?_ ?_);exact rfl;simp only[go_sem,(eq_true h9)])|((with_reducible refine an ?_ ?_);exact Au))
   refine Sq ?_
   refine AWp.mix mixed [0,1,2,3,4,5,6,7,8,9,10,11,12,13] .done (by kernel_rfl) ?_;simp only[go_sem]
   refine Sd ?_
   refine Gc hca ?_
   refine Sd ?_
   refine Gc hcc ?_
   refine Sd ?_
   refine Wk ?_
   refine Rq ?_
   rw[hsp]
  by_cases h10:k=10
  ·rw[if_neg h9,if_pos h10] at hsp
   repeat(first|((with_reducible refine AWp.ofC ?_ ?_);exact rfl;simp only[go_sem,(eq_true h10),h9])|((with_reducible refine an ?_ ?_);exact Au))
   refine Sq ?_
   refine AWp.mix mixed [0,1,2,3,4,5,6,7,8,9,10,11,12,13] .done (by kernel_rfl) ?_;simp only[go_sem]
   refine Sd ?_
   refine Gc hca ?_
   refine Sd ?_
   refine Gc hcc ?_
   refine Sd ?_
   refine Wk ?_
   refine Rq ?_
   rw[hsp]
  by_cases h11:k=11
  ·rw[if_neg h9,if_neg h10,if_pos h11] at hsp
   repeat(first|((with_reducible refine AWp.ofC ?_ ?_);exact rfl;simp only[go_sem,(eq_true h11),h9,h10])|((with_reducible refine an ?_ ?_);exact Au))
   refine Sq ?_
   refine AWp.mix mixed [0,1,2,3,4,5,6,7,8,9,10,11,12,13] .done (by kernel_rfl) ?_;simp only[go_sem]
   refine Sd ?_
   refine Gc hca ?_
   refine Sd ?_
   refine Gc hcc ?_
   refine Sd ?_
   refine Wk ?_
   refine Rq ?_
   rw[hsp]
  have h12:k=12:=by omega
  rw[if_neg h9,if_neg h10,if_neg h11,if_pos h12] at hsp
  repeat(first|((with_reducible refine AWp.ofC ?_ ?_);exact rfl;simp only[go_sem,(eq_true h12),h9,h10,h11])|((with_reducible refine an ?_ ?_);exact Au))
  refine Sq ?_
  refine AWp.mix mixed [0,1,2,3,4,5,6,7,8,9,10,11,12,13] .done (by kernel_rfl) ?_;simp only[go_sem]
  refine Sd ?_
  refine Gc hca ?_
  refine Sd ?_
  refine Gc hcc ?_
  refine Sd ?_
  refine Wk ?_
  refine Rq ?_
  rw[hsp]
 have h9:¬k=9:=by omega
 have h10:¬k=10:=by omega
 have h11:¬k=11:=by omega
 have h12:¬k=12:=by omega
 rw[if_neg h9,if_neg h10,if_neg h11,if_neg h12] at hsp
 have hch:=child_bool ht (by omega)
 rcases parts_cases k with ⟨e,hc⟩|⟨e,hc⟩|⟨e,hc⟩|e
 ·obtain rfl:=len0 (l:=l) (by omega)
  unfold aView
  simp only[aPd_mk,List.map_nil] at *
  refine PE 112 [.tmp 4] [2,3] func118 ?_;simp only[go_sem]
  by_cases h13:k=13
  ·rw[if_pos h13] at hsp
   repeat(first|((with_reducible refine AWp.ofC ?_ ?_);exact rfl;simp only[go_sem,(eq_true h13),h9,h10,h11,h12])|((with_reducible refine an ?_ ?_);exact Au))
   refine Rq ?_
   rw[hsp]
  ·have h14:k=14:=by omega
   rw[if_neg h13,if_pos h14] at hsp
   repeat(first|((with_reducible refine AWp.ofC ?_ ?_);exact rfl;simp only[go_sem,(eq_true h14),h9,h10,h11,h12,h13])|((with_reducible refine an ?_ ?_);exact Au))
   refine Rq ?_
   rw[hsp]
 ·obtain⟨a,rfl⟩:=len1 (l:=l) (by omega)
  have h13:¬k=13:=by omega
  have h14:¬k=14:=by omega
  have h15:k=15:=by omega
  obtain⟨c1,c2⟩:=hch a (by simp)
  have hza:=szL_mem (l:=[a]) (x:=a) (by simp)
  have hca:=ih a (by simp) (by omega) c1 c2 (hfc a (by simp)) (ht2 a (by simp)) (hos a (by simp)) (hls a (by simp))
  simp only[List.map_cons,List.map_nil,List.getD_cons_zero,if_neg h13,if_neg h14,if_pos h15] at hsp
  generalize truF o a=A at *
  clear ih hlf hls hob hos htm ht2 hch hfc
  unfold aView at *
  obtain⟨ka,na,pa,qa,sa,la⟩:=a
  simp only[aPd_mk,List.map_cons,List.map_nil] at *
  refine PE 112 [.tmp 4] [2,3] func118 ?_;simp only[go_sem]
  repeat(first|((with_reducible refine AWp.ofC ?_ ?_);exact rfl;simp only[go_sem,(eq_true h15),h9,h10,h11,h12,h13,h14])|((with_reducible refine an ?_ ?_);exact Au))
  refine Sq ?_
  refine AWp.mix mixed [0,1,2,3,4,5,6,7] .done (by kernel_rfl) ?_;simp only[go_sem]
  refine Sd ?_
  refine Gc hca ?_
  refine Sd ?_
  refine Wk ?_
  refine Rq ?_
  rw[hsp]
 ·obtain⟨a,b,rfl⟩:=len2 (l:=l) (by omega)
  have h13:¬k=13:=by omega
  have h14:¬k=14:=by omega
  have h15:¬k=15:=by omega
  obtain⟨c1,c2⟩:=hch a (by simp)
  obtain⟨c3,c4⟩:=hch b (by simp)
  have hza:=szL_mem (l:=[a,b]) (x:=a) (by simp)
  have hzb:=szL_mem (l:=[a,b]) (x:=b) (by simp)
  have hca:=ih a (by simp) (by omega) c1 c2 (hfc a (by simp)) (ht2 a (by simp)) (hos a (by simp)) (hls a (by simp))
  have hcc:=ih b (by simp) (by omega) c3 c4 (hfc b (by simp)) (ht2 b (by simp)) (hos b (by simp)) (hls b (by simp))
  simp only[List.map_cons,List.map_nil,List.getD_cons_zero,List.getD_cons_succ,if_neg h13,if_neg h14,if_neg h15] at hsp
  generalize truF o a=A at *
  generalize truF o b=B at *
  clear ih hlf hls hob hos htm ht2 hch hfc
  unfold aView at *
  obtain⟨ka,na,pa,qa,sa,la⟩:=a
  obtain⟨kb,nb,pb,qb,sb,lb⟩:=b
  simp only[aPd_mk,List.map_cons,List.map_nil] at *
  refine PE 112 [.tmp 4] [2,3] func118 ?_;simp only[go_sem]
  by_cases h16:k=16
  ·rw[if_pos h16] at hsp
   repeat(first|((with_reducible refine AWp.ofC ?_ ?_);exact rfl;simp only[go_sem,(eq_true h16),h9,h10,h11,h12,h13,h14,h15])|((with_reducible refine an ?_ ?_);exact Au))
   refine Sq ?_
   refine AWp.mix mixed [0,1,2,3,4,5,6,7,8,9,10,11,12,13,14] .done (by kernel_rfl) ?_;simp only[go_sem]
   refine Sd ?_
   refine Gc hca ?_
   refine Sd ?_
   refine Gc hcc ?_
   refine Sd ?_
   refine Wk ?_
   refine Rq ?_
   rw[hsp]
  ·rw[if_neg h16] at hsp
   repeat(first|((with_reducible refine AWp.ofC ?_ ?_);exact rfl;simp only[go_sem,h9,h10,h11,h12,h13,h14,h15,h16])|((with_reducible refine an ?_ ?_);exact Au))
   refine AWp.seq ?_
   refine Sq ?_
   refine AWp.mix mixed [0,1,2,3,4,5,6,7,8,9,10,11,12,13,14] .done (by kernel_rfl) ?_;simp only[go_sem]
   refine Sd ?_
   refine Gc hca ?_
   refine Sd ?_
   refine Gc hcc ?_
   refine Sd ?_
   refine Wk ?_
   refine Rq ?_
   rw[hsp]
 ·omega
theorem evaluate_typed (t:Pd)(hz:szF t<=1000000)(h1:formedB t=true)(h2:typedB t=true)(w:Int):PC prog 115 [aPd t,ai w] (ai (if resF t.kind=w then 0 else 14)):=by
 have ht:=predtype_TypeX t hz
 rw[h1,h2] at ht
 rw[if_neg (by decide),if_neg (by decide),if_neg (by decide),if_neg (by decide)] at ht
 generalize resF t.kind=r at *
 obtain⟨k,n,p,q,s,l⟩:=t
 simp only[aPd_mk] at *
 refine PE 19 [.tmp 4] [2] func115 ?_;simp only[go_sem]
 refine Wk ?_
 refine Sd ?_
 refine Vu ht ?_
 refine Wk ?_
 constructor<;>intro h3
 ·refine Wk ?_
  refine Rq ?_
  rw[if_neg h3]
 ·refine Wk ?_
  refine Rq ?_
  rw[if_pos h3]
open Classical in
noncomputable def atV (ps:List Pr)(c:List Int)(t:Pd):AV:=if c.length ≠ ps.length\/checkF ps t ≠ 0\/givenF ps [c] [] ≠ 0 then aView [] [] [] else aView ps c (valuesAt ps c)
def andB (f g:Pd->Bool)(x:Pd):Bool:=f x && g x
theorem allB_and {f g:Pd->Bool}(t:Pd):allB f t=true->allB g t=true->allB (andB f g) t=true:=by
 induction t using Pd.ind with
 | _ k n p q s l ih =>
  intro hf hg
  obtain⟨f1,f2⟩:=allB_sub hf
  obtain⟨g1,g2⟩:=allB_sub hg
  rw[allB_mk,Bool.and_eq_true,List.all_eq_true]
  exact⟨by unfold andB;rw[f1,g1];rfl,fun x hx=>ih x hx (f2 x hx) (g2 x hx)⟩
end Go.AL
end
section
namespace Go.AL
open Go Go.RowKit Proofs.Tryz
set_option maxRecDepth 4000
def fillZ (l:List Int)(n i:Nat):List Int:=l.take i ++ List.replicate (n - i) 0
theorem fillZ_set {l:List Int}{n i:Nat}(hl:l.length=n)(hi:i<n):(fillZ l n i).set i (l[i]'(by omega))=fillZ l n (i+1):=by
 unfold fillZ
 have e:n - i=(n - (i+1))+1:=by omega
 rw[List.set_append_right _ _ (by rw[List.length_take];omega),List.length_take,show i - min i l.length=0 by omega,e,List.replicate_succ,List.set_cons_zero,List.take_succ_eq_append_getElem (by omega),List.append_assoc]
 rfl
theorem fillZ_zero (l:List Int)(n:Nat):fillZ l n 0=List.replicate n 0:=by unfold fillZ;simp
theorem fillZ_full {l:List Int}{n:Nat}(h:l.length=n):fillZ l n n=l:=by unfold fillZ;subst h;simp
theorem fillZ_length {l:List Int}{n i:Nat}(hl:l.length=n)(hi:i<=n):(fillZ l n i).length=n:=by unfold fillZ;rw[List.length_append,List.length_take,List.length_replicate];omega
theorem map_set_ai (l:List Int)(i:Nat)(v:Int):(l.map ai).set i (ai v)=(l.set i v).map ai:=by rw[List.map_set]
theorem replicate_ai (n:Nat):(List.replicate n (0:Int)).map ai=List.replicate n (ai 0):=by rw[List.map_replicate]
theorem givenL {ps:List Pr}{l:List (List Int)} : givenF ps l []=0↔(validF ps=true/\∀c ∈ l,c.length=ps.length)/\(∀c ∈ l,inRangeF ps c=true)/\∀c ∈ l,closedF ps c=true:=by
 have h1:sizedF ps l=true↔validF ps=true/\∀c ∈ l,c.length=ps.length:=by
  refine⟨sizedF_inv,fun h=>?_⟩
  unfold sizedF
  rw[h.1,Bool.true_and,Bool.not_eq_true',List.any_eq_false]
  intro c hc
  rw[decide_eq_true (h.2 c hc)];decide
 have h2:=List.all_eq_true (l:=l) (p:=inRangeF ps)
 have h3:=List.all_eq_true (l:=l) (p:=closedF ps)
 rw[<- h1,<- h2,<- h3]
 unfold givenF
 cases sizedF ps l <;> cases l.all (inRangeF ps) <;> cases l.all (closedF ps) <;> simp
mutual
def rwF (c:List Int):Pd->Pd
 | .mk k n p q s l=>if k=3 then .mk 6 0 0 0 ByteArray.empty [.mk k n p q s l,.mk 1 (c.getD p.toNat 0) 0 0 ByteArray.empty []] else .mk k n p q s (rwL c l)
def rwL (c:List Int):List Pd->List Pd
 | []=>[]
 | x :: r=>rwF c x :: rwL c r
end
theorem closed_iff {ps:List Pr}{c:List Int} : closedF ps c=true↔∀(p:Nat) (hp:p<ps.length) (i:Nat) (hi:i<ps[p].evs.length),ps[p].evs[i].kind=3->(i:Int)+1<=cAt c p->(sndr ps ps[p].evs[i].msg).2<=cAt c (sndr ps ps[p].evs[i].msg).1:=by
 unfold closedF
 rw[Bool.not_eq_true',List.any_eq_false]
 constructor
 ·intro h p hp i hi hk hc
  have:=h _ (List.mem_of_getElem? (evIds_get hp hi))
  unfold badEv at this
  simp only[Bool.and_eq_true,decide_eq_true_eq,not_and] at this
  have:=this ⟨hk,hc⟩
  unfold sndr
  omega
 ·intro h x hx
  obtain⟨k,hk⟩:=List.getElem?_of_mem hx
  obtain⟨p,hp,i,hi,_,rfl⟩:=evIds_inv hk
  unfold badEv
  simp only[Bool.and_eq_true,decide_eq_true_eq,not_and]
  rintro⟨h1,h2⟩
  have:=h p hp i hi h1 h2
  unfold sndr at this
  omega
theorem inRange_iff {ps:List Pr}{c:List Int}(hc:c.length=ps.length):inRangeF ps c=true↔∀(p:Nat) (hp:p<ps.length),0<=cAt c p/\cAt c p<=ps[p].evs.length:=by
 constructor
 ·intro h p hp
  obtain⟨h1,h2⟩:=inRangeF_get h hc hp
  rw[cAt_nat (show p<c.length by omega)]
  exact⟨h1,h2⟩
 ·intro h
  unfold inRangeF
  rw[List.all_eq_true]
  intro p hp
  have hpc:=List.mem_range.1 hp
  have hpp:p<ps.length:=by omega
  have:=h p hpp
  rw[cAt_nat hpc] at this
  unfold cntOk
  simp only[List.getElem?_eq_getElem hpc,List.getElem?_eq_getElem hpp,Bool.and_eq_true,decide_eq_true_eq]
  exact this
def joinL (c d:List Int):List Int:=List.zipWith (fun x y=>if x<y then y else x) c d
theorem zw_cAt {c d:List Int}{g:Int->Int->Int}(h:c.length=d.length){p:Nat}(hp:p<c.length):cAt (List.zipWith g c d) p=g (cAt c p) (cAt d p):=by
 rw[cAt_nat (show p<(List.zipWith g c d).length by rw[List.length_zipWith];omega),cAt_nat hp,cAt_nat (show p<d.length by omega),List.getElem_zipWith]
theorem join_cAt {c d:List Int}(h:c.length=d.length){p:Nat}(hp:p<c.length):cAt (joinL c d) p=if cAt c p<cAt d p then cAt d p else cAt c p:=zw_cAt h hp
theorem join_len {c d:List Int}(h:c.length=d.length):(joinL c d).length=c.length:=by unfold joinL;rw[List.length_zipWith];omega
theorem join_given {ps:List Pr}{c d:List Int}(hc:givenF ps [c] []=0)(hd:givenF ps [d] []=0):givenF ps [joinL c d] []=0:=by
 obtain⟨hv,hcl,hcr,hcc⟩:=givenF_zero hc
 obtain⟨_,hdl,hdr,hdc⟩:=givenF_zero hd
 have hl:=join_len (c:=c) (d:=d) (by omega)
 rw[givenL]
 refine⟨⟨hv,fun x hx=>?_⟩,fun x hx=>?_,fun x hx=>?_⟩ <;> (simp only[List.mem_singleton] at hx;subst hx)
 ·omega
 ·rw[inRange_iff (by omega)]
  intro p hp
  have h1:=(inRange_iff hcl).1 hcr p hp
  have h2:=(inRange_iff hdl).1 hdr p hp
  rw[join_cAt (by omega) (by omega)]
  split <;> omega
 ·rw[closed_iff]
  intro p hp i hi hk hle
  obtain⟨hq,j,hj,h1,_,_⟩:=recv_peer (valid_parts hv).2.2 hp hi hk
  rw[join_cAt (by omega) (by omega)] at hle
  have g1:=closed_iff.1 hcc p hp i hi hk
  have g2:=closed_iff.1 hdc p hp i hi hk
  rw[h1] at g1 g2 ⊢
  simp only at g1 g2 ⊢
  generalize ps[p].evs[i].peer.toNat=q at *
  rw[join_cAt (by omega) (by omega)]
  split at hle <;> split <;> omega
section
variable {ps:List Pr} {c j:List Int}
end
def closeN (ps:List Pr):Nat->List Int->List Int
 | 0,c=>c
 | n+1,c=>match missF ps c with
  | none=>c
  | some x=>closeN ps n (c.set x.1.1.toNat x.1.2)
def closeF (ps:List Pr)(c:List Int):List Int:=closeN ps (off ps ps.length) c
theorem sumN_set:∀(l:List Nat) (i x:Nat) (h:i<l.length),(l.set i x).sum+l[i]=l.sum+x
 | a :: r,0,x,_=>by simp only[List.set_cons_zero,List.sum_cons,List.getElem_cons_zero];omega
 | a :: r,i+1,x,h=>by
  have:=sumN_set r i x (by simpa using h)
  simp only[List.set_cons_succ,List.sum_cons,List.getElem_cons_succ];omega
def totC (c:List Int):Nat:=(c.map Int.toNat).sum
theorem totC_set {c:List Int}{q:Nat}{x:Int}(hq:q<c.length):totC (c.set q x)+(c[q]).toNat=totC c+x.toNat:=by
 unfold totC
 rw[List.map_set]
 have:=sumN_set (c.map Int.toNat) q x.toNat (by simpa using hq)
 simpa using this
theorem totC_le0:∀(l:List Pr) (c:List Int),c.length=l.length->(∀p (hp:p<l.length),c.getD p 0<=l[p].evs.length)->totC c<=(l.map fun x=>x.evs.length).sum
 | [],[],_,_=>Nat.le_refl _
 | x :: l,a :: c,hl,h=>by
  have h0:=h 0 (by simp)
  have ht:=totC_le0 l c (by simpa using hl) fun p hp=>by
   have:=h (p+1) (by simpa using hp)
   simpa using this
  simp only[List.getElem_cons_zero,List.getD_cons_zero] at h0
  unfold totC at *
  simp only[List.map_cons,List.sum_cons]
  omega
theorem totC_le {ps:List Pr}{c:List Int}(hc:c.length=ps.length)(hr:inRangeF ps c=true):totC c<=off ps ps.length:=by
 unfold off
 rw[List.take_length]
 refine totC_le0 ps c hc fun p hp=>?_
 have:=((inRange_iff hc).1 hr p hp).2
 unfold cAt at this
 simpa using this
theorem miss_inv {ps:List Pr}(hv:validF ps=true){c:List Int}(hc:c.length=ps.length){x:Eid × Eid}(h:missF ps c=some x) :
  ∃(p:Nat) (_:p<ps.length) (i:Nat) (_:i<ps[p].evs.length) (q:Nat) (_:q<ps.length) (j:Nat) (_:j<ps[q].evs.length),ps[p].evs[i].kind=3/\(i:Int)+1<=cAt c p/\sndr ps ps[p].evs[i].msg=((q:Int),(j:Int)+1)/\x=(((q:Int),(j:Int)+1),((p:Int),(i:Int)+1))/\cAt c q<(j:Int)+1:=by
 unfold missF at h
 rw[Option.map_eq_some_iff] at h
 obtain⟨y,hy,rfl⟩:=h
 have hb:=List.find?_some hy
 obtain⟨k,hk⟩:=List.getElem?_of_mem (List.mem_of_find?_eq_some hy)
 obtain⟨p,hp,i,hi,_,rfl⟩:=evIds_inv hk
 unfold badEv at hb
 simp only[Bool.and_eq_true,decide_eq_true_eq] at hb
 obtain⟨⟨h1,h2⟩,h3⟩:=hb
 obtain⟨hq,j,hj,e,_,_⟩:=recv_peer (valid_parts hv).2.2 hp hi h1
 have e':findIn (evIds ps) 2 ps[p].evs[i].msg=((ps[p].evs[i].peer.toNat:Int),(j:Int)+1):=e
 rw[e'] at h3
 exact⟨p,hp,i,hi,_,hq,j,hj,h1,h2,e,by rw[e'],h3⟩
theorem miss_next {ps:List Pr}(hv:validF ps=true){c:List Int}(hc:c.length=ps.length)(hr:inRangeF ps c=true){x:Eid × Eid}(h:missF ps c=some x) :
  (c.set x.1.1.toNat x.1.2).length=ps.length/\inRangeF ps (c.set x.1.1.toNat x.1.2)=true/\totC c<totC (c.set x.1.1.toNat x.1.2):=by
 obtain⟨p,hp,i,hi,q,hq,j,hj,_,_,_,rfl,h1⟩:=miss_inv hv hc h
 have hl:(c.set q ((j:Int)+1)).length=ps.length:=by rw[List.length_set];exact hc
 refine⟨hl,?_,?_⟩
 ·rw[Int.toNat_natCast,inRange_iff hl]
  intro r hr'
  rw[cAt_nat (show r<(c.set q ((j:Int)+1)).length by omega),List.getElem_set]
  split
  ·rename_i e;subst e;omega
  ·have:=(inRange_iff hc).1 hr r hr'
   rw[cAt_nat (show r<c.length by omega)] at this
   exact this
 ·have:=totC_set (c:=c) (q:=q) (x:=(j:Int)+1) (by omega)
  rw[cAt_nat (show q<c.length by omega)] at h1
  have h0:=((inRange_iff hc).1 hr q hq).1
  rw[cAt_nat (show q<c.length by omega)] at h0
  simp only[Int.toNat_natCast]
  have h3:((j:Int)+1).toNat=j+1:=by omega
  rw[h3] at this
  omega
theorem closeN_more {ps:List Pr}(hv:validF ps=true):∀(n:Nat) (c:List Int),c.length=ps.length->inRangeF ps c=true->off ps ps.length<=totC c+n->closeN ps (n+1) c=closeN ps n c
 | 0,c,hc,hr,hn=>by
  unfold closeN
  cases h:missF ps c with
  | none=>rfl
  | some x =>
   obtain⟨a1,a2,a3⟩:=miss_next hv hc hr h
   have:=totC_le a1 a2
   omega
 | n+1,c,hc,hr,hn=>by
  rw[closeN]
  conv=>rhs;rw[closeN]
  cases h:missF ps c with
  | none=>rfl
  | some x =>
   obtain⟨a1,a2,a3⟩:=miss_next hv hc hr h
   exact closeN_more hv n _ a1 a2 (by omega)
theorem closeN_of {ps:List Pr}(hv:validF ps=true){c:List Int}(hc:c.length=ps.length)(hr:inRangeF ps c=true){n:Nat}(h:off ps ps.length<=totC c+n):∀k,closeN ps (n+k) c=closeN ps n c
 | 0=>rfl
 | k+1=>by rw[<- Nat.add_assoc,closeN_more hv (n+k) c hc hr (by omega),closeN_of hv hc hr h k]
theorem closeF_step {ps:List Pr}(hv:validF ps=true){c:List Int}(hc:c.length=ps.length)(hr:inRangeF ps c=true){x:Eid × Eid}(h:missF ps c=some x):closeF ps c=closeF ps (c.set x.1.1.toNat x.1.2):=by
 obtain⟨a1,a2,a3⟩:=miss_next hv hc hr h
 have hle:=totC_le a1 a2
 unfold closeF
 obtain⟨m,hm⟩:∃m,off ps ps.length=m+1:=⟨off ps ps.length - 1,by omega⟩
 rw[hm]
 conv=>lhs;rw[closeN]
 rw[h]
 exact(closeN_of hv a1 a2 (n:=m) (by omega) 1).symm
theorem closeF_none {ps:List Pr}{c:List Int}(h:missF ps c=none):closeF ps c=c:=by
 unfold closeF
 cases off ps ps.length with
 | zero=>rfl
 | succ n=>rw[closeN,h]
theorem miss_ind {ps:List Pr}(hv:validF ps=true){M:List Int->Prop}(h0:∀c,c.length=ps.length->inRangeF ps c=true->missF ps c=none->M c)
  (h1:∀c,c.length=ps.length->inRangeF ps c=true->∀x,missF ps c=some x->M (c.set x.1.1.toNat x.1.2)->M c):∀c,c.length=ps.length->inRangeF ps c=true->M c:=by
 suffices H:∀n c,c.length=ps.length->inRangeF ps c=true->off ps ps.length - totC c=n->M c from fun c hc hr=>H _ c hc hr rfl
 intro n
 induction n using Nat.strongRecOn with
 | _ n ih =>
  intro c hc hr hn
  cases h:missF ps c with
  | none=>exact h0 c hc hr h
  | some x =>
   obtain⟨a1,a2,a3⟩:=miss_next hv hc hr h
   have:=totC_le a1 a2
   exact h1 c hc hr x h (ih _ (by omega) _ a1 a2 rfl)
theorem closeF_ok {ps:List Pr}(hv:validF ps=true){c:List Int}(hc:c.length=ps.length)(hr:inRangeF ps c=true):(closeF ps c).length=ps.length/\inRangeF ps (closeF ps c)=true/\missF ps (closeF ps c)=none:=by
 refine miss_ind hv (M:=fun c=>(closeF ps c).length=ps.length/\inRangeF ps (closeF ps c)=true/\missF ps (closeF ps c)=none) (fun c hc hr h=>?_) (fun c hc hr x h hm=>?_) c hc hr
 ·rw[closeF_none h];exact⟨hc,hr,h⟩
 ·rw[closeF_step hv hc hr h];exact hm
theorem closeF_ge {ps:List Pr}(hv:validF ps=true){c:List Int}(hc:c.length=ps.length)(hr:inRangeF ps c=true):∀p,p<ps.length->cAt c p<=cAt (closeF ps c) p:=by
 refine miss_ind hv (M:=fun c=>∀p,p<ps.length->cAt c p<=cAt (closeF ps c) p) (fun c hc hr h p hp=>?_) (fun c hc hr x h hm p hp=>?_) c hc hr
 ·rw[closeF_none h];exact Int.le_refl _
 ·rw[closeF_step hv hc hr h]
  refine Int.le_trans ?_ (hm p hp)
  obtain⟨_,_,_,_,q,hq,j,hj,_,_,_,rfl,h1⟩:=miss_inv hv hc h
  rw[Int.toNat_natCast,cAt_nat (show p<(c.set q ((j:Int)+1)).length by rw[List.length_set];omega),List.getElem_set]
  split
  ·rename_i e;subst e;omega
  ·rw[cAt_nat (show p<c.length by omega)];exact Int.le_refl _
theorem closeF_least {ps:List Pr}(hv:validF ps=true){d:List Int}(hd:d.length=ps.length)(hcl:closedF ps d=true){c:List Int}(hc:c.length=ps.length)(hr:inRangeF ps c=true) :
  (∀p,p<ps.length->cAt c p<=cAt d p)->∀p,p<ps.length->cAt (closeF ps c) p<=cAt d p:=by
 refine miss_ind hv (M:=fun c=>(∀p,p<ps.length->cAt c p<=cAt d p)->∀p,p<ps.length->cAt (closeF ps c) p<=cAt d p) (fun c hc hr h hle=>?_) (fun c hc hr x h hm hle=>?_) c hc hr
 ·rw[closeF_none h];exact hle
 ·rw[closeF_step hv hc hr h]
  refine hm fun p hp=>?_
  obtain⟨a,ha,i,hi,q,hq,j,hj,g1,g2,g3,rfl,h1⟩:=miss_inv hv hc h
  rw[Int.toNat_natCast,cAt_nat (show p<(c.set q ((j:Int)+1)).length by rw[List.length_set];omega),List.getElem_set]
  split
  ·rename_i e;subst e
   have:=closed_iff.1 hcl a ha i hi g1 (Int.le_trans g2 (hle a ha))
   rw[g3] at this
   exact this
  ·have:=hle p hp
   rw[cAt_nat (show p<c.length by omega)] at this
   exact this
theorem closeF_closed {ps:List Pr}(hv:validF ps=true){c:List Int}(hc:c.length=ps.length)(hr:inRangeF ps c=true):closedF ps (closeF ps c)=true:=by
 rw[closedF_iff,(closeF_ok hv hc hr).2.2];rfl
end Go.AL
end
section
namespace Go.AL
open Go Go.RowKit Go.ChangeShapes Go.WideShapes Go.ChangeAt Proofs.Tryz
theorem Fr.below {W W':World}(h:Fr W (keysOf []) W'):Below W.heap.size W W':=⟨h.os,h.tape,h.output,h.size,fun k hk=>h.block k hk (by rintro⟨x,hx,_⟩;cases hx)⟩
theorem LRel.empty (W:World)(hg:∀g x,GV g=some x->Rel W (fun b=>b<W.heap.size) x (.pointer (some ⟨g,0,none⟩))):LRel W (fun b=>b<W.heap.size) []:=⟨fun _ h=>h,(by intro x hx;cases hx),List.nodup_nil,(by intro x hx;cases hx),hg⟩
theorem PC.calls {P:Program}{f:FuncId}{args:List AV}{x:Value}(h:PC P f args (.v x)){W:World}{vs:List Value}(hg:∀g x,GV g=some x->Rel W (fun b=>b<W.heap.size) x (.pointer (some ⟨g,0,none⟩)))(hr:Rels W (fun b=>b<W.heap.size) args vs) :
  Calls P f vs.toArray W fun e W'=>e = .returned x/\Below W.heap.size W W' :=
 ((h.2 0 W _ vs (LRel.empty W hg) hr).calls (fun _ d hd=>by cases hd)).mono fun e W' ⟨v,r,L',A',he,⟨hr,_⟩,hf,_,_,_,hv⟩=>by
  subst he hr
  cases hv
  exact⟨rfl,hf.below⟩
def Rd {H:Type}(enc:TypeId × Value->H)(P:Program)(W:World)(t:TypeId)(k:Nat){α:Type}(E:α->AV)(ok:α->Prop):Prop :=
 ∀fuel cs x,DataW.trod enc P W 0 (fun _=>true) true fuel t cs=some x->∃y,ok y/\elOk k (E y)/\cs.length=k/\∀(i:Nat) c u,(E y).cells[i]?=some c->cs[i]?=some u->Rel W (fun b=>b<W.heap.size) c u
section
variable {H:Type} {enc:TypeId × Value->H} {P:Program} {W:World} {t:TypeId}
theorem Rd.int (ht:P.underlying t=some (.int .i64)):Rd enc P W t 1 ai (fun n=>(Lit.int .i64 n).wf=true):=by
 intro fuel cs x h
 obtain⟨n,rfl,_,hw⟩:=DataW.trod_int ht h
 refine⟨n,hw,⟨rfl,rfl⟩,rfl,fun i c u h1 h2=>?_⟩
 cases i with
 | zero=>cases h1;cases h2;exact .v _
 | succ i=>cases h2
theorem Rd.str (ht:P.underlying t=some .string):Rd enc P W t 1 (fun s=>.v (.string s)) (fun _=>True):=by
 intro fuel cs x h
 obtain⟨s,rfl,_,hw⟩:=DataW.trod_string ht h
 refine⟨s,trivial,⟨rfl,rfl⟩,rfl,fun i c u h1 h2=>?_⟩
 cases i with
 | zero=>cases h1;cases h2;exact .v _
 | succ i=>cases h2
theorem ofFin {α:Type}{len:Nat}{Q:Nat->α->Prop}(h:∀i,i<len->∃y,Q i y):∃l:List α,l.length=len/\∀(i:Nat) (hi:i<l.length),Q i l[i]:=by
 refine⟨List.ofFn fun i:Fin len=>Classical.choose (h i i.2),List.length_ofFn,fun i hi=>?_⟩
 rw[List.getElem_ofFn]
 exact Classical.choose_spec (h i (by simpa using hi))
theorem add_none (b off n:Nat):(⟨b,off,none⟩:Addr).add n=⟨b,off+n,none⟩:=by
 unfold Addr.add;split
 ·rename_i h;rw[h];rfl
 ·rfl
theorem Rd.slice {α:Type}{E:α->AV}{ok:α->Prop}{e:TypeId}{k:Nat}(ht:P.underlying t=some (.slice e))(hk:P.cellsOf e=k)(h0:0<k)(he:Rd enc P W e k E ok) :
  Rd enc P W t 1 (fun l:List α=>.sl k (l.map E)) (fun l=>l.length<=maxLen/\∀y ∈ l,ok y):=by
 intro fuel cs x h
 rcases DataW.trod_slice ht h with ⟨rfl,_⟩|⟨a,len,cap,elems,rest,n,_,rfl,_,_,hl,hm,hlen,hel,_,_⟩
 ·refine⟨[],⟨by simp,by simp⟩,⟨rfl,rfl⟩,rfl,fun i c u h1 h2=>?_⟩
  cases i with
  | zero=>cases h1;cases h2;exact .sl0 k none 0 (by simp)
  | succ i=>cases h2
 ·rw[hk] at hel
  obtain⟨l,hll,hli⟩:=ofFin (len:=len) (Q:=fun i y=>∃cs:List Value,ok y/\elOk k (E y)/\cs.length=k/\(∀m,m<k->W.cell? ((a.add (i * k)).add m)=cs[m]?)/\∀(m:Nat) c u,(E y).cells[m]?=some c->cs[m]?=some u->Rel W (fun b=>b<W.heap.size) c u) fun i hi=>by
   have h1:=hel i hi
   rw[List.getElem?_eq_getElem (by omega),Option.bind_eq_some_iff] at h1
   obtain⟨cs,hc,ht⟩:=h1
   obtain⟨y,k1,k2,k3,k4⟩:=he _ _ _ ht
   exact⟨y,cs,k1,k2,k3,(World.cells?_some hc).2.2,k4⟩
  refine⟨l,⟨by omega,fun y hy=>?_⟩,⟨rfl,rfl⟩,rfl,fun i c u h1 h2=>?_⟩
  ·obtain⟨i,hi,rfl⟩:=List.getElem_of_mem hy
   obtain⟨_,h,_⟩:=hli i (by omega);exact h
  ·cases i with
   | succ i=>cases h2
   | zero =>
    cases h1;cases h2
    by_cases hz:len=0
    ·subst hz
     rw[List.length_eq_zero_iff.1 hll]
     exact .sl0 k _ cap hm
    ·obtain⟨b,off,spot⟩:=a
     obtain⟨cs0,_,_,c3,c4,_⟩:=hli 0 (by omega)
     have hs:spot=none:=by
      have:=c4 0 h0
      have e0:∀a:Addr,a.add 0=a:=fun _=>rfl
      rw[Nat.zero_mul,e0,e0,List.getElem?_eq_getElem (by omega)] at this
      cases spot with
      | none=>rfl
      | some s =>
       exfalso
       unfold World.cell? at this
       split at this
       ·rw[if_pos (show (some s).isSome=true from rfl)] at this;cases this
       ·cases this
     subst hs
     have cell:∀(i:Nat) (hi:i<len) (m:Nat),m<k->∃u,W.cell? ⟨b,off+(i * k+m),none⟩=some u/\∀c,(E (l[i]'(by omega))).cells[m]?=some c->Rel W (fun b=>b<W.heap.size) c u:=fun i hi m hm=>by
      obtain⟨cs,_,_,c3,c4,c5⟩:=hli i (by omega)
      have:=c4 m hm
      rw[add_none,add_none,Nat.add_assoc,List.getElem?_eq_getElem (by omega)] at this
      exact⟨_,this,fun c hc=>c5 m c _ hc (List.getElem?_eq_getElem (by omega))⟩
     have hA:b<W.heap.size:=by
      obtain⟨u,hu,_⟩:=cell 0 (by omega) 0 h0
      unfold World.cell? at hu
      cases hb:W.heap[b]? with
      | none=>simp [hb] at hu
      | some o=>exact(Array.getElem?_eq_some_iff.1 hb).1
     have:=Rel.sl (w:=W) (A:=fun b=>b<W.heap.size) k (l.map E) b off cap (fun j=>(W.cell? ⟨b,off+j,none⟩).getD undef) hA (by rw[List.length_map];omega) hm
      (fun x hx=>by
       obtain⟨y,hy,rfl⟩:=List.mem_map.1 hx
       obtain⟨i,hi,rfl⟩:=List.getElem_of_mem hy
       obtain⟨cs,_,c2,_⟩:=hli i (by omega)
       exact c2)
      (fun j hj=>by
       rw[List.length_map,hll] at hj
       have h1:j / k<len:=(Nat.div_lt_iff_lt_mul h0).2 hj
       obtain⟨u,hu,_⟩:=cell (j / k) h1 (j % k) (Nat.mod_lt _ h0)
       have e:j / k * k+j % k=j:=Nat.div_add_mod' j k
       rw[e] at hu
       rw[hu];rfl)
      (fun i x j y hx hy=>by
       rw[List.getElem?_map,Option.map_eq_some_iff] at hx
       obtain⟨z,hz,rfl⟩:=hx
       obtain⟨hi,rfl⟩:=List.getElem?_eq_some_iff.1 hz
       obtain⟨cs,_,c2,_⟩:=hli i (by omega)
       have hj:j<k:=by have:=(List.getElem?_eq_some_iff.1 hy).1;have:=c2.1;omega
       obtain⟨u,hu,hr⟩:=cell i (by omega) j hj
       rw[hu]
       exact hr _ hy)
     rw[List.length_map,hll] at this
     exact this
theorem trodAll_stays {W':World}(hl:laidOutB P=true)(hb:Below W.heap.size W W'):∀ {ts:List TypeId} {vs:List Value} {ds:List (DataW H)} {ps:List MemPlace},(∀t ∈ ts,P.readableRec t=true/\t<P.types.size)->DataW.TrodAll enc P W 0 (fun _=>true) true ts vs ds ps ->
  DataW.TrodAll enc P W' 0 (fun b=>decide (b<W.heap.size)) true ts vs ds ps
 | [],_,_,_,_,h=>by
  obtain⟨rfl,rfl,rfl⟩:=trodAll_nil h
  rfl
 | t :: ts,_,_,_,ht,h=>by
  have hlt:=h.lt
  obtain⟨v,vs1,d,ds1,a,b,rfl,rfl,rfl,h1,h2⟩:=trodAll_cons h
  exact⟨a,b,Below.trod hl (ht t List.mem_cons_self).1 (ht t List.mem_cons_self).2 h1 hb (fun x hx=>hlt x (List.mem_append_left _ hx)),trodAll_stays hl hb (fun t' ht'=>ht t' (List.mem_cons_of_mem _ ht')) h2,rfl⟩
theorem post_true {f:Func}{s:ChangeSpec}{fresh handsOn:Bool}{W':World}{args:Array Value}{ds:List (DataW H)}{before:List MemPlace}{tb:TypeId}(hl:laidOutB P=true)
  (hW:DataW.Whole enc P f.params.toList s.vars false W args.toList ds [] before) (hv:s.vars=[]) (hs:s.fn H (ds ++ []) = { results:=[.lit (.bool true)],args:=ds })
  (hr:f.resultTypes = #[tb]) (ht:P.underlying tb=some .bool) (hp:∀t ∈ f.params.toList,P.readableRec t=true/\t<P.types.size) (hb:Below W.heap.size W W') :
  s.post enc P f false fresh handsOn false W args (.bool true) W':=by
 have hW0:=hW
 obtain⟨p,q,hA,hV,rfl,_,_⟩:=hW0
 refine⟨ds,[],p ++ q,[],p,[],hW,?_,?_,?_,hb.frame _,fun h=>by cases h⟩
 ·rw[hs,hr]
  exact⟨[],[],⟨1,by simp [DataW.trod,Value.cells,ht]⟩,rfl,rfl⟩
 ·rw[hs]
  exact trodAll_stays hl hb hp hA
 ·rw[hs,hv];rfl
end
end Go.AL
end
section
namespace Go.AL
open Go Go.RowKit Go.ChangeShapes Go.WideShapes Go.ChangeAt Proofs.Tryz
section
variable {H:Type} {enc:TypeId × Value->H} {P:Program} {W:World} {t:TypeId}
theorem Rd.map {α β:Type}{k:Nat}{E:α->AV}{E':β->AV}{ok:α->Prop}{ok':β->Prop}(f:α->β)(hE:∀y,E y=E' (f y))(hok:∀y,ok y->ok' (f y))(h:Rd enc P W t k E ok):Rd enc P W t k E' ok':=by
 intro fuel cs x hx
 obtain⟨y,k1,k2,k3,k4⟩:=h fuel cs x hx
 exact⟨f y,hok y k1,by rw[<- hE];exact k2,k3,by rw[<- hE];exact k4⟩
def RdL (enc:TypeId × Value->H)(P:Program)(W:World)(ts:List TypeId){α:Type}(E:α->List AV)(ok:α->Prop):Prop :=
 ∀(n:Nat) (cs:List Value) (xs:List (DataW H × List MemPlace)),xs.length=ts.length->cs.length=ts.length ->
  (∀(i:Nat) t,ts[i]?=some t->DataW.trod enc P W 0 (fun _=>true) true n t ((cs.drop i).take 1)=xs[i]?) ->
  ∃y,ok y/\(E y).length=ts.length/\(E y).all one=true/\∀(i:Nat) c u,(E y)[i]?=some c->cs[i]?=some u->Rel W (fun b=>b<W.heap.size) c u
theorem RdL.nil:RdL enc P W [] (fun _:Unit=>[]) (fun _=>True):=by
 intro n cs xs _ _ _
 exact⟨(),trivial,rfl,rfl,fun i c u h=>by simp at h⟩
theorem RdL.cons {α β:Type}{E:α->AV}{ok:α->Prop}{ts:List TypeId}{F:β->List AV}{ok':β->Prop}(h:Rd enc P W t 1 E ok)(h1:∀y,one (E y)=true/\(E y).cells=[E y])(hs:RdL enc P W ts F ok') :
  RdL enc P W (t :: ts) (fun y:α × β=>E y.1 :: F y.2) (fun y=>ok y.1/\ok' y.2):=by
 intro n cs xs hx hc hi
 match xs,cs,hx,hc with
 | x :: xs,u :: cs,hx,hc =>
  have h0:=hi 0 t rfl
  simp only[List.drop_zero,List.take_succ_cons,List.take_zero,List.getElem?_cons_zero] at h0
  obtain⟨y,k1,_,_,k4⟩:=h _ _ _ h0
  obtain⟨z,g1,g2,g3,g4⟩:=hs n cs xs (by simpa using hx) (by simpa using hc) fun i t' ht=>by
   have:=hi (i+1) t' (by simpa using ht)
   simpa using this
  refine⟨(y,z),⟨k1,g1⟩,by simp [g2],by simp [g3,(h1 y).1],fun i c u' hcc hu=>?_⟩
  cases i with
  | zero=>cases hcc;cases hu;exact k4 0 _ _ (by rw[(h1 y).2];rfl) rfl
  | succ i=>exact g4 i c u' (by simpa using hcc) (by simpa using hu)
theorem Rd.struct {fs:Array Field}{α:Type}{ts:List TypeId}{F:α->List AV}{ok:α->Prop}(ht:P.underlying t=some (.struct fs))(hts:fs.toList.map (·.type)=ts)(hof:fs.toList.map (·.offset)=List.range ts.length)(hk:P.cellsOf t=ts.length)
  (hc:(ts.all fun t=>P.cellsOf t == 1)=true) (h:RdL enc P W ts F ok):Rd enc P W t ts.length (fun y=>.agg (F y)) ok:=by
 intro fuel cs x hx
 obtain⟨xs,n,_,_,hl,hlen,hf⟩:=DataW.trod_struct ht hx
 have hfl:fs.size=ts.length:=by rw[<- hts];simp
 obtain⟨y,k1,k2,k3,k4⟩:=h n cs xs (by omega) (by omega) fun i t' ht'=>by
  have hi:i<ts.length:=(List.getElem?_eq_some_iff.1 ht').1
  have hg:fs[i]?=some fs[i]:=Array.getElem?_eq_getElem (by omega)
  have e1:(fs[i]).type=t':=by
   rw[<- hts,List.getElem?_map,Array.getElem?_toList,hg] at ht'
   exact Option.some.inj ht'
  have e2:(fs[i]).offset=i:=by
   have:(fs.toList.map (·.offset))[i]?=some i:=by rw[hof,List.getElem?_range hi]
   rw[List.getElem?_map,Array.getElem?_toList,hg] at this
   exact Option.some.inj this
  have:=hf i _ hg
  have hct:P.cellsOf t'=1:=by
   have:=List.all_eq_true.1 hc _ (List.mem_of_getElem? ht')
   simpa using this
  rw[e1,e2,hct] at this
  exact this
 exact⟨y,k1,⟨k2,k3⟩,by omega,k4⟩
theorem Rd.agg {α:Type}{k:Nat}{E:α->AV}{F:α->List AV}{ok:α->Prop}(hE:∀y,E y = .agg (F y))(h:Rd enc P W t k E ok){v:Value}{d:DataW H}{ps:List MemPlace}(ha:∃us,v = .agg us)
  (hd:DataW.Trod enc P W 0 (fun _=>true) true t v d ps):∃y,ok y/\Rel W (fun b=>b<W.heap.size) (E y) v:=by
 obtain⟨us,rfl⟩:=ha
 obtain⟨fuel,hf⟩:=hd
 obtain⟨y,k1,k2,k3,k4⟩:=h _ _ _ hf
 refine⟨y,k1,?_⟩
 have e1:(E y).cells=F y:=by rw[hE];rfl
 have e2:(Value.agg us).cells.toList=us.toList:=rfl
 have k5:=k2.1
 rw[e1] at k4 k5
 rw[e2] at k3 k4
 rw[hE]
 refine .agg _ _ ?_ fun i c u h1 h2=>k4 i c u h1 (by simpa using h2)
 rw[k5,<- k3];simp
theorem okWide_agg {r:Go.Reach}{b:Nat}{fs:Array Field}{v:Value}(ht:P.underlying t=some (.struct fs))(h:Value.okWide P W r b t v):∃us,v = .agg us:=by
 unfold Value.okWide at h
 rw[ht] at h
 obtain⟨cs,h1,_⟩:=h
 exact⟨cs,h1⟩
theorem Rd.one {α:Type}{E:α->AV}{ok:α->Prop}(h:Rd enc P W t 1 E ok)(h1:∀y,(E y).cells=[E y]){v:Value}{d:DataW H}{ps:List MemPlace}(hc:v.cells = #[v])
  (hd:DataW.Trod enc P W 0 (fun _=>true) true t v d ps):∃y,ok y/\Rel W (fun b=>b<W.heap.size) (E y) v:=by
 obtain⟨fuel,hf⟩:=hd
 rw[hc] at hf
 obtain⟨y,k1,_,_,k4⟩:=h _ _ _ hf
 exact⟨y,k1,k4 0 _ _ (by rw[h1];rfl) rfl⟩
theorem okWide_cells {r:Go.Reach}{b:Nat}{e:TypeId}{v:Value}(ht:P.underlying t=some (.slice e))(h:Value.okWide P W r b t v):v.cells = #[v]:=by
 cases v with
 | agg cs =>
  exfalso
  simp only[Value.okWide,ht,Cell.okWide,Cell.ok] at h
 | _=>rfl
end
end Go.AL
end
section
namespace Go.AL
open Go Go.RowKit Go.ChangeShapes Go.WideShapes Go.ChangeAt Proofs.Tryz
section
variable {H:Type} {enc:TypeId × Value->H} {P:Program} {W:World} {t:TypeId}
end
end Go.AL
end
section
namespace Go.AL
open Go Go.RowKit Proofs.Tryz
theorem Rel.tabK {P:Program}{W:World}{name:String}{k:IntKind}{zs:List Int}{g:Nat}(h:Lib.TabIs P W name k zs)(hg:P.globalNamed name=some g)(hz:0<zs.length) :
  Rel W (fun b=>b<W.heap.size) (.rp 1 (zs.map fun z=>.v (.int k z)) 0 0) (.pointer (some ⟨g,0,none⟩)):=by
 have hA:g<W.heap.size:=by
  have hu:=h.cell hg 0 hz
  unfold World.cell? at hu
  cases hb:W.heap[g]? with
  | none=>simp [hb] at hu
  | some o=>exact(Array.getElem?_eq_some_iff.1 hb).1
 have:=Rel.rp (w:=W) (A:=fun b=>b<W.heap.size) 1 (zs.map fun z=>.v (.int k z)) 0 0 g 0 (fun i=>.int k (zs.getD i 0)) hA
  (fun x hx=>by obtain⟨z,_,rfl⟩:=List.mem_map.1 hx;exact⟨rfl,rfl⟩)
  (fun i hi=>by
   rw[List.length_map] at hi
   have:=h.cell hg i (by omega)
   simpa using this)
  (fun i x j y hx hy=>by
   rw[List.getElem?_map,Option.map_eq_some_iff] at hx
   obtain⟨z,hz,rfl⟩:=hx
   cases j with
   | succ j=>cases hy
   | zero =>
    cases hy
    have e:zs.getD i 0=z:=by rw[List.getD_eq_getElem?_getD,hz];rfl
    simp only[Nat.mul_one,Nat.add_zero,e]
    exact .v _)
 exact this
theorem laid_tail {P:Program}{W:World}{x:String × DataW Unit}{r:List (String × DataW Unit)}(h:laidMet P (x :: r) W):laidMet P r W:=by
 obtain⟨n,d⟩:=x
 obtain⟨ps,⟨g,t,cs,fuel,p,q,_,_,_,_,hr,rfl⟩,hnd,hall⟩:=h
 exact⟨q,hr,(List.nodup_append.1 hnd).2.1,fun b off hb=>hall b off (List.mem_append_right _ hb)⟩
end Go.AL
end
section
namespace Go.AL
open Go Go.RowKit Go.Lib Go.Sort Go.Proofs Go.Shelf Proofs.Tryz
structure Item (w:World)(A:Foot){β:Type}(av:β->AV)(Q:β->Prop) where
 u:Value
 x:β
 rel:Rel w A (av x) u
 ok:Q x
end Go.AL
end
section
namespace Go.AL
open Go Go.RowKit Go.Lib Go.Sort Go.Proofs Go.Shelf Proofs.Tryz
end Go.AL
end
section
namespace Go.AL
open Go Go.RowKit Go.Sort Go.Proofs Proofs.Tryz
set_option maxRecDepth 4000
def cmpL:List Int->List Int->Int
 | [],[]=>0
 | [],_ :: _=>-1
 | _ :: _,[]=>1
 | x :: xs,y :: ys=>if x<y then -1 else if y<x then 1 else cmpL xs ys
end Go.AL
end
section
namespace Go.AL
open Go Go.RowKit Proofs.Tryz
variable {C:Cfg} {a b:Code} {Q:AQ} {ρ:Env} {L:AHeap}
theorem AWp.viewA {c:Code}{t:TypeId}{k j:Nat}{ys:List AV}{v:AV}{L1:AHeap}(hA:AppSt t k ys v L1)(hj:get ρ j=v)(h:AWp C c Q ((j,.sl k ys) :: ρ) L):AWp C c Q ρ (L ++ L1):=by
 refine AWp.viewP (Lf:=L1) (Lk:=L) (L':=L) List.perm_append_comm (LVw.refl _) [(j,.sl k ys)] (fun p hp=>?_) h
 obtain rfl:=List.mem_singleton.1 hp
 have:=hA.vw []
 rw[List.append_nil] at this
 rw[hj];exact this
theorem AWp.capOk {c:Code}{b k cap:Nat}{t:TypeId}{xs:List AV}(hl:lk L b=some (.row t k xs cap))(h:xs.length<=cap->AWp C c Q ρ L):AWp C c Q ρ L:=fun hok n w0 M A0 a w hs=>by
 obtain⟨A,ds,h1,h2,h3,h4⟩:=hs
 obtain⟨_,_,_,h5,_⟩:=BlkRel.row_iff.1 (h3.lk hl)
 exact h h5 hok n w0 M A0 a w ⟨A,ds,h1,h2,h3,h4⟩
end Go.AL
end
section
namespace Go.AL
open Go Go.RowKit Proofs.Tryz
def aNilR (P:Program)(op:BinOp)(t:TypeId)(x y:AV):Option (Prop × AV) :=
 match x,y,tinfo P t with
 | .sl _ xs,.v (.slice none 0 0),some ⟨.slice _,_,_,_⟩=>match op with
  | .eql=>some (xs ≠ [],ab false)
  | .neq=>some (xs ≠ [],ab true)
  | _=>none
 | _,_,_=>none
def avalR (P:Program)(ρ:Env)(L:AHeap)(op:Op):Option (Prop × AV) :=
 match aval P ρ L op with
 | some z=>some z
 | none=>match op with
  | .binOp b t x y _=>w2 (ev ρ x) (ev ρ y) (aNilR P b t)
  | _=>none
theorem avalR_congr {P:Program}{ρ ρ':Env}{L:AHeap}{op:Op}(h:∀x ∈ op.operands,ev ρ' x=ev ρ x):avalR P ρ' L op=avalR P ρ L op:=by
 unfold avalR
 rw[aval_congr h]
 cases op with
 | binOp b t x y t' =>
  have e1:=h x (by simp [Op.operands])
  have e2:=h y (by simp [Op.operands])
  simp only[e1,e2]
 | _=>rfl
theorem aNilR_sound {C:Cfg}{o:Oper}{ρ:Env}{L:AHeap}{op:BinOp}{t t':TypeId}{x y:Operand}(ho:o.op = .binOp op t x y t')(hd:dstOk C o){c:Prop}{z:AV}(h:w2 (ev ρ x) (ev ρ y) (aNilR C.P op t)=some (c,z))(hc:c) :
  AOp C o ρ L fun ρ' L'=>ρ'=put ρ o.dst z/\L'=L:=by
 obtain⟨h1,h2,c',h3,h4⟩:=w2_inv h hc
 unfold aNilR at h3
 split at h3
 ·rename_i k xs e _ _ _ hx hy hti
  have hu:=tinfo_slice hti
  have main:∀(f:Bool->Bool),((op = .eql/\f=id)\/(op = .neq/\f=not))->xs ≠ []->z=ab (f false)->AOp C o ρ L fun ρ' L'=>ρ'=put ρ o.dst z/\L'=L:=fun f hf hne hz =>
   AOp.of_run (fun c e=>by rw[ho] at e;cases e) fun w0 M A0 a w A ds hs=>by
    have rx:=fo_ok (hs.ev x) h1;rw[hx] at rx
    have ry:=fo_ok (hs.ev y) h2;rw[hy] at ry
    have ry:=ry.inv_v
    have hval:∃a0 n m,a.eval x = .slice a0 n m/\a0.isNone=false:=by
     generalize a.eval x=u at rx
     cases rx with
     | sl0 _ a0 cap hc=>exact absurd rfl hne
     | sl _ _ b off cap=>exact⟨_,_,_,rfl,rfl⟩
    obtain⟨a0,n,m,e,hne⟩:=hval
    refine⟨_,w,?_,.inl ⟨.bool (f a0.isNone),rfl,_,_,⟨by rw[hz],rfl⟩,st_iff.2 ⟨A,ds,hs.put hd (by rw[hne];exact .v _)⟩⟩⟩
    unfold execOp
    rw[ho]
    rcases hf with ⟨rfl,rfl⟩|⟨rfl,rfl⟩
    ·simp [e,ry,eqGuard_slice,binOp,equal_slice_nil hu]
    ·simp [e,ry,eqGuard_slice,binOp,equal_slice_nil hu]
  split at h3
  ·cases h3;exact main id (.inl ⟨rfl,rfl⟩) h4 rfl
  ·cases h3;exact main not (.inr ⟨rfl,rfl⟩) h4 rfl
  ·cases h3
 ·cases h3
theorem avalR_sound {C:Cfg}{o:Oper}{ρ:Env}{L:AHeap}{c:Prop}{x:AV}(hv:avalR C.P ρ L o.op=some (c,x))(hc:c)(hd:dstOk C o)(hdef:∀c,o.op ≠ .defer c):AOp C o ρ L fun ρ' L'=>ρ'=put ρ o.dst x/\L'=L:=by
 unfold avalR at hv
 split at hv
 ·rename_i z hz
  cases hv
  exact aval_sound hz hc hd hdef
 ·split at hv
  ·rename_i ho
   exact aNilR_sound ho hd hv hc
  ·cases hv
def YldL (C:Cfg)(ops:Array Oper)(i:Nat)(o:Oper)(x:AV)(ρ:Env)(L:AHeap):Prop :=
 ∀ρ',(∀t ∈ o.looksAt ops,get ρ' t=get ρ t)->GOp C ops i ρ' L fun ρ2 L2=>ρ2=put ρ' o.dst x/\L2=L
def aqL (C:Cfg)(all:List Oper)(o:Oper)(ρ:Env)(L:AHeap)(K:Env->Prop):Prop :=
 match o.guard with
 | none=>match avalR C.P ρ L o.op with
  | some (c,x)=>c/\K (put ρ o.dst x)
  | none=>match o.op with
   | .call c=>match c.callee with
    | .value g=>GCall C.P True ((fo (ev ρ g)).1/\fos (c.args.toList.map (ev ρ))) (fo (ev ρ g)).2 (c.args.toList.map fun x=>(fo (ev ρ x)).2) L (putQ K ρ o.dst)
    | _=>False
   | _=>False
 | some (j,want)=>match gval all ρ j want with
  | some b=>match avalR C.P ρ L o.op with
   | some (c,x)=>(b=want->c)/\K (put ρ o.dst (.cond (b == want) x))
   | none=>match o.op with
    | .call c=>match c.callee with
     | .value g=>GCall C.P (b=want) ((fo (ev ρ g)).1/\fos (c.args.toList.map (ev ρ))) (fo (ev ρ g)).2 (c.args.toList.map fun x=>(fo (ev ρ x)).2) L (putQC K ρ o.dst (b == want))
     | _=>b ≠ want/\K (put ρ o.dst (.cond (b == want) .any))
    | _=>b ≠ want/\K (put ρ o.dst (.cond (b == want) .any))
  | none=>False
def aqLRun (C:Cfg)(all:List Oper)(L:AHeap):List Nat->(Env->Prop)->Env->Prop
 | [],K,ρ=>K ρ
 | i :: r,K,ρ=>match all[i]? with
  | some o=>aqL C all o ρ L (aqLRun C all L r K)
  | none=>False
section
variable {C:Cfg} {ops:Array Oper} {L:AHeap}
theorem aqL_yields {i:Nat}{o:Oper}{ρ:Env}{K:Env->Prop}(hi:ops[i]?=some o)(hok:operOk C.N o=true)(h:aqL C ops.toList o ρ L K):∃x,YldL C ops i o x ρ L/\K (put ρ o.dst x):=by
 have hd:=operOk_dst hok
 have hdef:=operOk_def hok
 unfold aqL at h
 split at h
 ·rename_i hg
  split at h
  ·rename_i c x hv
   exact⟨x,fun ρ' hag=>AOp.gop hi hg (avalR_sound (by rw[avalR_congr (agree_ops hag)];exact hv) h.1 hd hdef),h.2⟩
  ·split at h
   ·rename_i cl ho
    split at h
    ·rename_i g h0
     obtain⟨r,h1,h2⟩:=h
     refine⟨r,fun ρ' hag=>AOp.gop hi hg ?_,h2⟩
     have hag':=agree_ops hag
     rw[ho] at hag'
     obtain⟨e1,e2,e3⟩:=call_congr h0 hag'
     exact call_sound ho h0 hd (by rw[e1,e2,e3];exact⟨(h1 trivial).1.1,(h1 trivial).1.2,(h1 trivial).2⟩)
    ·exact h.elim
   ·exact h.elim
 ·rename_i j want hg
  split at h
  ·rename_i b hv
   split at h
   ·rename_i c x ha
    refine⟨_,fun ρ' hag=>GOp.of_cond hi hg (by rw[agree_guard hag hg];exact hv) hd fun hb=>avalR_sound (by rw[avalR_congr (agree_ops hag)];exact ha) (h.1 hb) hd hdef,h.2⟩
   ·split at h
    ·rename_i cl ho
     split at h
     ·rename_i g h0
      obtain⟨r,h1,h2⟩:=h
      refine⟨_,fun ρ' hag=>GOp.of_cond hi hg (by rw[agree_guard hag hg];exact hv) hd fun hb=>?_,h2⟩
      have hag':=agree_ops hag
      rw[ho] at hag'
      obtain⟨e1,e2,e3⟩:=call_congr h0 hag'
      exact call_sound ho h0 hd (by rw[e1,e2,e3];exact⟨(h1 hb).1.1,(h1 hb).1.2,(h1 hb).2⟩)
     ·refine⟨_,fun ρ' hag=>GOp.of_cond hi hg (by rw[agree_guard hag hg];exact hv) hd fun hb=>absurd hb h.1,h.2⟩
    ·refine⟨_,fun ρ' hag=>GOp.of_cond hi hg (by rw[agree_guard hag hg];exact hv) hd fun hb=>absurd hb h.1,h.2⟩
  ·exact h.elim
def QFactL (C:Cfg)(ops:Array Oper)(ρ:Env)(L:AHeap)(q:Nat):Prop:=∃o x,ops[q]?=some o/\YldL C ops q o x ρ L/\∀d,o.dst=some d->get ρ d=x
theorem YldL.of_agree {i:Nat}{o:Oper}{x:AV}{ρ ρ':Env}(h:YldL C ops i o x ρ L)(he:∀t ∈ o.looksAt ops,get ρ' t=get ρ t):YldL C ops i o x ρ' L :=
 fun ρ2 hag=>h ρ2 fun t ht=>(hag t ht).trans (he t ht)
theorem aqLRun_facts {qs0:List Nat}(hm:mixOk ops qs0=true)(hok:ops.toList.all (operOk C.N)=true):∀(qs:List Nat) (ρ:Env) (K:Env->Prop),(∀q ∈ qs,q ∈ qs0)->ascend qs=true->aqLRun C ops.toList L qs K ρ ->
  ∃ρq,K ρq/\(∀q ∈ qs,QFactL C ops ρq L q)/\∀s,(∀q ∈ qs,dstOf ops q ≠ some s)->get ρq s=get ρ s
 | [],ρ,K,_,_,h=>⟨ρ,h,fun q hq=>(by cases hq),fun _ _=>rfl⟩
 | i :: r,ρ,K,hsub,hasc,h=>by
  obtain⟨hlt,hasc'⟩:=ascend_cons hasc
  simp only[aqLRun] at h
  cases ho:ops.toList[i]? with
  | none=>rw[ho] at h;exact h.elim
  | some o =>
   rw[ho] at h
   have ho':ops[i]?=some o:=by simpa using ho
   obtain⟨x,hy,hK⟩:=aqL_yields ho' (List.all_eq_true.1 hok o (List.mem_of_getElem? ho)) h
   obtain⟨ρq,h1,h2,h3⟩:=aqLRun_facts hm hok r _ K (fun q hq=>hsub q (List.mem_cons_of_mem _ hq)) hasc' hK
   obtain⟨p1,p2,_⟩:=mix_at hm ho'
   have hself:∀d,o.dst=some d->d ∉ o.looksAt ops:=fun d hd hm'=>by
    have:=(p2 i (hsub i List.mem_cons_self) d (by simp [dstOf,ho',hd])).1 hm'
    exact absurd (p1 i this) (Nat.lt_irrefl i)
   refine⟨ρq,h1,fun q hq=>?_,fun s hs=>?_⟩
   ·rcases List.mem_cons.1 hq with rfl|hq
    ·refine⟨o,x,ho',hy.of_agree fun t ht=>?_,fun d hd=>?_⟩
     ·rw[h3 t fun q' hq' he=>?_,get_put,if_neg fun he=>hself t he ht]
      have:=(p2 q' (hsub q' (List.mem_cons_of_mem _ hq')) t he).1 ht
      have:=p1 q' this;have:=hlt q' hq';omega
     ·rw[h3 d fun q' hq' he=>?_,get_put,if_pos hd]
      exact(p2 q' (hsub q' (List.mem_cons_of_mem _ hq')) d he).2 (by have:=hlt q' hq';omega) hd
    ·exact h2 q hq
   ·rw[h3 s fun q hq=>hs q (List.mem_cons_of_mem _ hq),get_put,if_neg]
    have:=hs i List.mem_cons_self
    simpa [dstOf,ho'] using this
theorem read_sound {qs:List Nat}(hm:mixOk ops qs=true)(hall:∀i,i<ops.size->i ∈ qs){K:ARes}{n:Nat}{w0:World}{M A0:Foot}{Q:Exit->Act->World->Prop}(hQ:∀a w,post w0 M A0 C.N K a w->Q .normal a w){ρT:Env}(hK:K ρT L) :
  ∀(f:Nat) (listed:Array Bool) (a:Act) (w:World),listed.size=ops.size ->
   (∀l:List Nat,l.Nodup->(∀i ∈ l,listed.getD i true=false)->l.length<=f) ->
   (∀q ∈ qs,listed.getD q true=false->QFactL C ops ρT L q)->St w0 M A0 C.N (mask ops qs listed ρT) L a w ->
   wpAnyIn (Fw C.r) n C.P .any ops Q f listed a w:=by
 have fin:∀(listed:Array Bool) (a:Act) (w:World),listed.size=ops.size->St w0 M A0 C.N (mask ops qs listed ρT) L a w->Region.ready .any ops listed=[]->Q .normal a w:=by
  intro listed a w hsz hs hr
  have all:∀i,listed.getD i true=true:=by
   intro i
   induction i using Nat.strongRecOn with
   | _ i ih =>
    cases hi:listed.getD i true with
    | true=>rfl
    | false =>
     exfalso
     have hlt:i<ops.size:=by
      rw[<- hsz]
      by_cases h:i<listed.size
      ·exact h
      ·simp [Array.getD,h] at hi
     have ho:ops[i]?=some ops[i]:=Array.getElem?_eq_getElem hlt
     have:i ∈ Region.ready .any ops listed:=mem_ready.2 ⟨hi,_,ho,fun e he hb=>by
      have hp:=(mix_at hm ho).1 e.on (List.mem_map.2 ⟨e,List.mem_filter.2 ⟨by simpa using he,hb⟩,rfl⟩)
      exact getD_ft (by omega) (ih _ hp)⟩
     rw[hr] at this;cases this
  refine hQ a w ⟨ρT,L,hK,st_forget hs fun i=>.inr ?_⟩
  rw[mask_out fun q _ hl=>by rw[all q] at hl;cases hl]
 intro f
 induction f with
 | zero =>
  intro listed a w hsz hcnt hfact hs
  have hr:Region.ready .any ops listed=[]:=by
   cases hh:Region.ready .any ops listed with
   | nil=>rfl
   | cons j r =>
    have hj:j ∈ Region.ready .any ops listed:=by rw[hh];exact List.mem_cons_self
    have:=hcnt [j] (by simp) (fun i hi=>by simp at hi;subst hi;exact(mem_ready.1 hj).1)
    simp at this
  exact⟨hr,fin listed a w hsz hs hr⟩
 | succ f ih =>
  intro listed a w hsz hcnt hfact hs
  refine⟨fin listed a w hsz hs,fun i hi=>?_⟩
  obtain⟨hun,o,ho,hpre⟩:=mem_ready.1 hi
  have hlt:i<ops.size:=(Array.getElem?_eq_some_iff.1 ho).1
  obtain⟨m1,m2,m3⟩:=mix_at hm ho
  have hlooks:∀t ∈ o.looksAt ops,get (mask ops qs listed ρT) t=get ρT t:=fun t ht=>mask_out fun q hq hl hd=>by
   have hp:=(m2 q hq t hd).1 ht
   obtain⟨e,he,rfl⟩:=List.mem_map.1 hp
   obtain⟨he1,he2⟩:=List.mem_filter.1 he
   have:=getD_tf (hpre e (by simpa using he1) he2)
   rw[hl] at this;cases this
  have hcnt':∀l:List Nat,l.Nodup->(∀j ∈ l,(listed.setIfInBounds i true).getD j true=false)->l.length<=f:=fun l hn hl=>by
   have hil:i ∉ l:=fun h=>by
    have:=hl i h
    simp [Array.getD,show i<listed.size by omega] at this
   have:=hcnt (i :: l) (List.nodup_cons.2 ⟨hil,hn⟩) (fun j hj=>by
    rcases List.mem_cons.1 hj with rfl|hj
    ·exact hun
    ·have:=hl j hj
     have hne:i ≠ j:=fun e=>hil (e ▸ hj)
     rwa [getD_set_ne true hne] at this)
   simp at this;omega
  have hset:∀j,j ≠ i->(listed.setIfInBounds i true).getD j true=listed.getD j true:=fun j hj=>getD_set_ne true (Ne.symm hj)
  have hq:=hall i hlt
  obtain⟨o',x,ho',hy,hgx⟩:=hfact i hq hun
  rw[ho] at ho';cases ho'
  refine wpOpIn_mono ?_ (hy _ hlooks n w0 M A0 a w Q hs)
  rintro a' w' ⟨ρ2,L2,⟨rfl,rfl⟩,hs2⟩
  refine ih _ a' w' (by simpa using hsz) hcnt' (fun q hq' hl=>hfact q hq' (by
   by_cases e:q=i
   ·subst e;exact hun
   ·rwa [hset q e] at hl)) (st_forget hs2 fun s=>?_)
  rcases mask_or (ops:=ops) qs (listed.setIfInBounds i true) ρT s with ⟨h1,_⟩|⟨h1,h2⟩
  ·exact .inl h1
  ·refine .inr ?_
   rw[h1,get_put]
   by_cases hd:o.dst=some s
   ·rw[if_pos hd];exact hgx s hd
   ·rw[if_neg hd,mask_out fun q hq' hl hds=>?_]
    by_cases e:q=i
    ·subst e;exact hd (by simpa [dstOf,ho] using hds)
    ·exact h2 q hq' (by rw[hset q e];exact hl) hds
end
def readAll (ops:Array Oper)(qs:List Nat):Bool:=mixOk ops qs && (List.range ops.size).all fun i=>qs.contains i
def readK (K:ARes)(L:AHeap)(ρ:Env):Prop:=K ρ L
theorem AWp.read {C:Cfg}{id:Nat}{ops:Array Oper}{Q:AQ}{ρ:Env}{L:AHeap}(hmx:C.P.follows .mixedOrders=true)(qs:List Nat)(hT:readAll ops qs=true)(h:aqLRun C ops.toList L qs (readK (Q .normal) L) ρ) :
  AWp C (.region id ops true) Q ρ L:=fun hok n w0 M A0 a w hs=>by
 simp only[readAll,Bool.and_eq_true,List.all_eq_true,List.contains_eq_mem,decide_eq_true_eq] at hT
 obtain⟨hm,hal⟩:=hT
 have hasc:=mix_asc hm
 obtain⟨ρq,hK,hF,hother⟩:=aqLRun_facts hm hok qs ρ _ (fun _ h=>h) hasc.1 h
 refine wpIn_region_any hmx ?_
 obtain⟨A,ds,hs'⟩:=st_iff.1 hs
 refine read_sound hm (fun i hi=>hal i (List.mem_range.2 hi)) (K:=Q .normal) (fun a w ⟨ρ',L',h1,h2⟩=>⟨ρ',L',h1,h2⟩) hK ops.size _ a _ (by simp) ?_ (fun q hq _=>hF q hq) (st_forget (st_iff.2 ⟨A,ds,hs'.drew⟩) fun s=>?_)
 ·intro l hn hl
  have:=List.Nodup.length_le_of_subset hn (l₂:=List.range ops.size) (fun i hi=>by
   have:=hl i hi
   rw[List.mem_range]
   by_cases h:i<ops.size
   ·exact h
   ·simp [Array.getD,h] at this)
  simpa using this
 ·rcases mask_or (ops:=ops) qs (Array.replicate ops.size false) ρq s with ⟨h1,_⟩|⟨h1,h2⟩
  ·exact .inl h1
  ·refine .inr ?_
   rw[h1]
   exact hother s fun q hq hd=>h2 q hq (by simp [Array.getD,hasc.2 q hq]) hd
theorem aqLRun_nil (C:Cfg)(all:List Oper)(L:AHeap)(K:Env->Prop)(ρ:Env):aqLRun C all L [] K ρ=K ρ:=rfl
theorem aqLRun_cons (C:Cfg)(all:List Oper)(L:AHeap)(i:Nat)(r:List Nat)(K:Env->Prop)(ρ:Env):aqLRun C all L (i :: r) K ρ=(match all[i]? with|some o=>aqL C all o ρ L (aqLRun C all L r K)|none=>False):=rfl
attribute [go_sem] aqLRun_nil aqLRun_cons aqL readK avalR aNilR
end Go.AL
end
section
namespace Go.AL
open Go Go.RowKit Proofs.Tryz
set_option maxRecDepth 4000
structure Elim where
 n:Nat
 top:Nat->Nat
 ok:Nat->Nat->Bool
 need:Nat->Nat->Nat->Int
def exB (E:Elim)(now:Nat->Nat)(p k:Nat):Bool:=!E.ok p k || (List.range E.n).any fun q=>decide (q ≠ p) && decide ((k:Int)<E.need q (now q) p)
def nextF (ex:Nat->Bool)(top:Nat):Nat->Nat->Nat
 | 0,k=>k
 | m+1,k=>if k<=top/\ex k=true then nextF ex top m (k+1) else k
def nextK (ex:Nat->Bool)(top k:Nat):Nat:=nextF ex top (top+1 - k) k
section
variable {ex:Nat->Bool} {top k:Nat}
theorem nextK_hit (h:k<=top)(he:ex k=true):nextK ex top k=nextK ex top (k+1):=by
 unfold nextK
 obtain⟨m,hm⟩:∃m,top+1 - k=m+1:=⟨top - k,by omega⟩
 rw[hm,nextF,if_pos ⟨h,he⟩,show top+1 - (k+1)=m by omega]
theorem nextK_stop (h:¬(k<=top/\ex k=true)):nextK ex top k=k:=by
 unfold nextK
 cases top+1 - k with
 | zero=>rfl
 | succ m=>rw[nextF,if_neg h]
theorem nextK_spec:∀(m k:Nat),top+1 - k=m->k<=top+1->k<=nextK ex top k/\nextK ex top k<=top+1/\(∀j,k<=j->j<nextK ex top k->ex j=true)/\(nextK ex top k<=top->ex (nextK ex top k)=false)
 | 0,k,hm,hk=>by
  rw[nextK_stop (by omega)]
  exact⟨Nat.le_refl _,hk,fun j _ _=>by omega,fun h=>by omega⟩
 | m+1,k,hm,hk=>by
  by_cases he:ex k=true
  ·rw[nextK_hit (by omega) he]
   obtain⟨a1,a2,a3,a4⟩:=nextK_spec m (k+1) (by omega) (by omega)
   refine⟨by omega,a2,fun j h1 h2=>?_,a4⟩
   by_cases e:j=k
   ·subst e;exact he
   ·exact a3 j (by omega) h2
  ·rw[nextK_stop (fun h=>he h.2)]
   exact⟨Nat.le_refl _,hk,fun j _ _=>by omega,fun _=>by simpa using he⟩
end
def stepP (E:Elim)(now:Nat->Nat):Option Nat:=(List.range E.n).find? fun p=>exB E now p (now p)
def goF (E:Elim)(now:Nat->Nat)(p:Nat):Nat:=nextK (exB E now p) (E.top p) (now p)
def updN (f:Nat->Nat)(p x:Nat):Nat->Nat:=fun q=>if q=p then x else f q
theorem updN_self (f:Nat->Nat)(p x:Nat):updN f p x p=x:=if_pos rfl
theorem updN_ne {f:Nat->Nat}{p x q:Nat}(h:q ≠ p):updN f p x q=f q:=if_neg h
theorem find_range {n:Nat}{f:Nat->Bool}{p:Nat}(h:(List.range n).find? f=some p):p<n/\f p=true/\∀q,q<p->f q=false:=by
 rw[List.find?_eq_some_iff_getElem] at h
 obtain⟨h1,i,hi,e,h2⟩:=h
 rw[List.getElem_range] at e
 subst e
 refine⟨by simpa using hi,h1,fun q hq=>?_⟩
 have:=h2 q hq
 rw[List.getElem_range] at this
 simpa using this
theorem find_range_none {n:Nat}{f:Nat->Bool}(h:(List.range n).find? f=none):∀q,q<n->f q=false:=fun q hq=>by
 rw[List.find?_eq_none] at h
 simpa using h q (List.mem_range.2 hq)
theorem find_range_of {n:Nat}{f:Nat->Bool}{p:Nat}(hp:p<n)(h:f p=true)(h0:∀q,q<p->f q=false):(List.range n).find? f=some p:=by
 rw[List.find?_eq_some_iff_getElem]
 exact⟨h,p,by simpa using hp,List.getElem_range _,fun j hj=>by rw[List.getElem_range,h0 j hj];rfl⟩
theorem find_range_no {n:Nat}{f:Nat->Bool}(h0:∀q,q<n->f q=false):(List.range n).find? f=none:=by
 rw[List.find?_eq_none]
 intro x hx
 rw[h0 x (List.mem_range.1 hx)];decide
abbrev Stp:=Nat × Nat × Nat
inductive RunR (E:Elim):(Nat->Nat)->List Stp->(Nat->Nat)->Bool->Prop
 | stop {now:Nat->Nat} (h:stepP E now=none):RunR E now [] now false
 | lost {now:Nat->Nat} {p:Nat} (h:stepP E now=some p) (hl:E.top p<goF E now p):RunR E now [(p,now p,goF E now p - 1)] (updN now p (goF E now p)) true
 | go {now fin:Nat->Nat} {p:Nat} {st:List Stp} {l:Bool} (h:stepP E now=some p) (hl:goF E now p<=E.top p) (hr:RunR E (updN now p (goF E now p)) st fin l):RunR E now ((p,now p,goF E now p - 1) :: st) fin l
def InE (E:Elim)(now:Nat->Nat):Prop:=∀q,q<E.n->now q<=E.top q
def roomE (E:Elim)(now:Nat->Nat):Nat:=totS E.n fun q=>E.top q+1 - now q
theorem totS_lt {c c':Nat->Nat}{p:Nat}(h:∀q,q ≠ p->c' q=c q)(hp:c' p<c p):∀n,totS n c'+(if p<n then 1 else 0)<=totS n c
 | 0=>by simp [totS]
 | n+1=>by
  have:=totS_lt h hp n
  rw[totS_succ,totS_succ]
  by_cases e:n=p
  ·subst e
   rw[if_neg (by omega)] at this
   rw[if_pos (by omega)];omega
  ·rw[h n e]
   by_cases e2:p<n
   ·rw[if_pos e2] at this;rw[if_pos (by omega)];omega
   ·rw[if_neg e2] at this;rw[if_neg (by omega)];omega
theorem step_inv {E:Elim}{now:Nat->Nat}(hI:InE E now){p:Nat}(h:stepP E now=some p) :
  p<E.n/\exB E now p (now p)=true/\(∀q,q<p->exB E now q (now q)=false)/\now p<goF E now p/\goF E now p<=E.top p+1/\(∀j,now p<=j->j<goF E now p->exB E now p j=true)/\roomE E (updN now p (goF E now p))<roomE E now:=by
 obtain⟨h1,h2,h3⟩:=find_range h
 have hle:=hI p h1
 obtain⟨a1,a2,a3,a4⟩:=nextK_spec (ex:=exB E now p) (top:=E.top p) _ (now p) rfl (by omega)
 have hlt:now p<goF E now p:=by
  unfold goF
  rw[nextK_hit hle h2]
  obtain⟨b1,_⟩:=nextK_spec (ex:=exB E now p) (top:=E.top p) _ (now p+1) rfl (by omega)
  omega
 refine⟨h1,h2,h3,hlt,a2,a3,?_⟩
 unfold roomE
 have:=totS_lt (c:=fun q=>E.top q+1 - now q) (c':=fun q=>E.top q+1 - updN now p (goF E now p) q) (p:=p) (fun q hq=>by rw[updN_ne hq]) (by rw[updN_self];omega) E.n
 rw[if_pos h1] at this
 omega
theorem inE_step {E:Elim}{now:Nat->Nat}(hI:InE E now){p:Nat}(hl:goF E now p<=E.top p):InE E (updN now p (goF E now p)):=fun q hq=>by
 by_cases e:q=p
 ·subst e;rw[updN_self];exact hl
 ·rw[updN_ne e];exact hI q hq
theorem run_ex (E:Elim):∀(m:Nat) (now:Nat->Nat),InE E now->roomE E now<=m->∃st fin l,RunR E now st fin l:=by
 intro m
 induction m with
 | zero =>
  intro now hI hm
  cases h:stepP E now with
  | none=>exact⟨_,_,_,.stop h⟩
  | some p=>have:=(step_inv hI h).2.2.2.2.2.2;omega
 | succ m ih =>
  intro now hI hm
  cases h:stepP E now with
  | none=>exact⟨_,_,_,.stop h⟩
  | some p =>
   have h7:=(step_inv hI h).2.2.2.2.2.2
   by_cases hl:goF E now p<=E.top p
   ·obtain⟨st,fin,l,hr⟩:=ih _ (inE_step hI hl) (by omega)
    exact⟨_,_,_,.go h hl hr⟩
   ·exact⟨_,_,_,.lost h (by omega)⟩
theorem inE_zero (E:Elim):InE E fun _=>0:=fun _ _=>Nat.zero_le _
open Classical in
noncomputable def stepsF (E:Elim):List Stp:=Classical.choose (run_ex E _ _ (inE_zero E) (Nat.le_refl _))
open Classical in
noncomputable def finF (E:Elim):Nat->Nat:=Classical.choose (Classical.choose_spec (run_ex E _ _ (inE_zero E) (Nat.le_refl _)))
open Classical in
noncomputable def lostF (E:Elim):Bool:=Classical.choose (Classical.choose_spec (Classical.choose_spec (run_ex E _ _ (inE_zero E) (Nat.le_refl _))))
end Go.AL
end
section
namespace Go.AL
open Go Go.RowKit Proofs.Tryz
set_option maxRecDepth 4000
section
variable {E:Elim} {p q m k:Nat}
end
theorem stC_ok {ps:List Pr}{p:Nat}{k:Int}(hp:p<ps.length)(h0:0<=k)(hk:k<=ps[p].evs.length):(stC ps.length p k).length=ps.length/\inRangeF ps (stC ps.length p k)=true:=by
 have hl:(stC ps.length p k).length=ps.length:=by unfold stC;rw[List.length_set,List.length_replicate]
 refine⟨hl,?_⟩
 rw[inRange_iff hl]
 intro q hq
 unfold cAt stC
 rw[Int.toNat_natCast,getD_set0]
 split
 ·rename_i e;obtain⟨rfl,_⟩:=e;omega
 ·rw[List.getD_eq_getElem?_getD,List.getElem?_replicate,if_pos hq]
  exact⟨Int.le_refl 0,by simp⟩
theorem ref25_Index (ps:List Pr)(hs:Sm ps)(p:Int)(hpb:isPB ps.length p=true)(s:ByteArray):PC prog 175 [aTr ps,ai p,astr s] (ai (varX ps p s)):=by
 obtain⟨p,rfl,hp⟩:=isPB_nat hpb
 rw[varX_get hp]
 have hm:=List.getElem_mem hp
 have hvl:=hs.vars _ hm
 have hgp:=getD_map (f:=aPr) hp
 have hhit:∀i (hi:i<ps[p].vars.length),(∀j (hj:j<ps[p].vars.length),j<i->nmB s ps[p].vars[j]=false)->nmB s ps[p].vars[i]=true->varIx ps[p].vars s=i:=by
  intro i hi h0 h1
  have:ps[p].vars.findIdx? (nmB s)=some i:=by rw[List.findIdx?_eq_some_iff_getElem];exact⟨hi,h1,fun j hj=>by simpa using h0 j (by omega) hj⟩
  unfold varIx;rw[this]
 have hno:(∀j (hj:j<ps[p].vars.length),nmB s ps[p].vars[j]=false)->varIx ps[p].vars s = -1:=by
  intro h0
  have:ps[p].vars.findIdx? (nmB s)=none:=by
   rw[List.findIdx?_eq_none_iff];intro x hx;obtain⟨i,hi,rfl⟩:=List.getElem_of_mem hx;exact h0 i hi
  unfold varIx;rw[this]
 generalize varIx ps[p].vars s=r at *
 refine PE 29 [.tmp 6] [3] func175 ?_;simp only[go_sem]
 refine W1 hgp ?_
 refine AWp.block (AWp.count 8 ps[p].vars.length [] [2,7] (fun i vs L=>L=[]/\∀j (hj:j<ps[p].vars.length),j<i->nmB s ps[p].vars[j]=false) rfl rfl ⟨rfl,by omega⟩ ?_)
 rintro i vs L hi - ⟨rfl,hI⟩
 simp only[go_sem]
 refine Wk ?_
 constructor<;>intro h1
 ·have hiv:i<ps[p].vars.length:=by omega
  have hgv:=getD_map (f:=aVar) hiv
  refine W1 hgv ?_
  constructor<;>intro h2
  ·refine Wk ?_
   refine Rq ?_
   rw[hhit i hiv hI (decide_eq_true h2)]
  ·refine Wk ?_
   refine⟨_,.refl _,rfl,fun j hj hji=>?_⟩
   by_cases e:j=i
   ·subst e;exact decide_eq_false h2
   ·exact hI j hj (by omega)
 ·refine Wk ?_
  refine Rq ?_
  rw[hno fun j hj=>hI j hj (by omega)]
def leafR (ps:List Pr)(c:List Int)(o:Obs):Pd->Prop
 | .mk k _ p q s _=>(k=2->∃ix cv:Int,PC prog 175 [aTr ps,ai p,astr s] (ai ix)/\PC prog 174 [aTr ps,ai p,ai ix,ai cv] (ai (o.var p s))/\0<=p/\c[p.toNat]?=some cv)/\(k=3->0<=p/\c[p.toNat]?=some (o.cnt p))/\(k=4->∃ms:List AV,(ms.length:Int)=o.chn p q/\PC prog 176 [aTr ps,aInts c,ai p,ai q] (.sl 1 ms))
theorem lcl_mk (pr k n p q:Int)(s:ByteArray)(l:List Pd):lclB pr (.mk k n p q s l)=if k=4\/(18<=k/\k<=21) then false else if k=2\/k=3 then decide (p=pr) else true:=rfl
theorem evaluate_local (pr:Int)(t:Pd):szF t<=1000000->allB locB t=true->PC prog 180 [ai pr,aPd t] (ab (allB (lclB pr) t)):=by
 induction t using Pd.ind with
 | _ k n p q s l ih =>
 intro hz ht
 have hsz:szF (.mk k n p q s l)=szL l+1:=by rw[szF]
 have hll:=szL_len l
 obtain⟨ht1,ht2⟩:=allB_sub ht
 obtain⟨hpl,_⟩:=loc_len ht1
 have hsp:allB (lclB pr) (.mk k n p q s l)=((if k=4\/(18<=k/\k<=21) then false else if k=2\/k=3 then decide (p=pr) else true) && l.all (allB (lclB pr))):=by rw[allB_mk,lcl_mk]
 have h1:∀x ∈ l,PV prog (.clo 221 [.rp 1 [ai pr] 0 0]) [aPd x] (ab (!allB (lclB pr) x)):=by
  intro x hx
  have hxi:=szL_mem hx
  have hch:=ih x hx (by omega) (ht2 x hx)
  generalize allB (lclB pr) x=b at *
  obtain⟨k2,n2,p2,q2,s2,l2⟩:=x
  refine PC.clo ?_
  simp only[aPd_mk] at *
  refine PE 8 [.tmp 3] [2] func221 ?_;simp only[go_sem]
  refine Wk ?_
  refine Sd ?_
  refine Vu hch ?_
  refine Wk ?_
  exact Rz
 have hc:=preds_containsFunc l (by omega) _ rfl (fun x=>!allB (lclB pr) x) h1
 have hall:l.all (allB (lclB pr)) = !l.any fun x=>!allB (lclB pr) x:=by rw[List.all_eq_not_any_not]
 rw[hall] at hsp
 clear h1 ih
 by_cases c1:k=4\/k=18\/k=19\/k=20\/k=21
 ·rw[if_pos (by omega),Bool.false_and] at hsp
  rw[hsp]
  clear hsp hall hc
  simp only[aPd_mk] at *
  rcases c1 with rfl|rfl|rfl|rfl|rfl
  all_goals refine PE 25 [.tmp 4] [2,3] func180 ?_;simp only[go_sem]
  all_goals repeat(first|((with_reducible refine AWp.ofC ?_ ?_);exact rfl;simp only[go_sem,Int.reduceEq])|((with_reducible refine an ?_ ?_);exact Au))
  all_goals refine ret_eq ?_;simp only[go_sem]
 rw[if_neg (by omega)] at hsp
 by_cases c2:k=2\/k=3
 ·have hl0:l=[]:=by
   have:partsF k=0:=by rcases c2 with rfl|rfl <;> rfl
   exact len0 (by omega)
  subst hl0
  rw[if_pos c2] at hsp
  simp only[List.any_nil,Bool.not_false,Bool.and_true] at hsp
  rw[hsp]
  clear hsp hall hc
  simp only[aPd_mk] at *
  rcases c2 with rfl|rfl
  all_goals refine PE 25 [.tmp 4] [2,3] func180 ?_;simp only[go_sem]
  all_goals repeat(first|((with_reducible refine AWp.ofC ?_ ?_);exact rfl;simp only[go_sem,Int.reduceEq])|((with_reducible refine an ?_ ?_);exact Au))
  all_goals refine ret_eq ?_;simp only[go_sem]
 rw[if_neg c2,Bool.true_and] at hsp
 rw[hsp]
 generalize (l.any fun x=>!allB (lclB pr) x)=b at *
 clear hsp hall
 have a4:¬k=4:=by omega
 have a18:¬k=18:=by omega
 have a19:¬k=19:=by omega
 have a20:¬k=20:=by omega
 have a21:¬k=21:=by omega
 have a2:¬k=2:=by omega
 have a3:¬k=3:=by omega
 simp only[aPd_mk] at *
 refine PE 25 [.tmp 4] [2,3] func180 ?_;simp only[go_sem]
 repeat(first|((with_reducible refine AWp.ofC ?_ ?_);exact rfl;simp only[go_sem,a2,a3,a4,a18,a19,a20,a21])|((with_reducible refine an ?_ ?_);exact Au))
 refine Sd ?_
 refine Vu hc ?_
 refine Wk ?_
 exact Rz
theorem evaluate_check (ps:List Pr)(hs:Sm ps)(pr k:Int)(t:Pd)(hz:szF t<=1000000):PC prog 140 [aTr ps,ai pr,ai k,aPd t] (ai (lclF ps pr k t)):=by
 have h1:=predtype_Check ps hs t hz
 have h2:=fun a b=>evaluate_typed t hz a b 2
 have h3:=fun a=>evaluate_local pr t hz a
 have hl:=hs.procs
 have hel:=fun x hx=>hs.evs x hx
 have hck:checkF ps t=0->formedB t=true/\typedB t=true/\allB locB t=true:=fun h=>by
  obtain⟨_,f2,f3,_⟩:=checkF_zero h
  unfold okT at f3
  simp only[Bool.and_eq_true] at f3
  exact⟨f2,f3.2,f3.1.1⟩
 have hn1:checkF ps t=0->1<=ps.length:=fun h=>(valid_len (checkF_zero h).1).1
 have hE:lclF ps pr k t=if checkF ps t ≠ 0 then checkF ps t else if ¬(0<=pr/\pr<ps.length/\0<=k/\k<=evN ps pr) then 2 else if t.kind<=8 then 14 else if allB (lclB pr) t=false then 15 else 0:=rfl
 have hr:resF t.kind=2↔¬t.kind<=8:=by unfold resF;split <;> omega
 generalize lclF ps pr k t=E at *
 generalize checkF ps t=e at *
 generalize formedB t=f at *
 generalize typedB t=y at *
 generalize allB locB t=lb at *
 generalize allB (lclB pr) t=a at *
 generalize t.kind=kd at *
 obtain⟨k0,n,p,q,s,l⟩:=t
 simp only[aPd_mk] at *
 by_cases he:e=0
 ·subst he
  rw[if_neg (by decide)] at hE
  obtain⟨c1,c2,c3⟩:=hck rfl
  have hn1:=hn1 rfl
  have h2:=h2 c1 c2
  have h3:=h3 c3
  by_cases hp:0<=pr/\pr<ps.length
  ·obtain⟨i,rfl⟩:∃i:Nat,pr=i:=⟨pr.toNat,by omega⟩
   have hpi:i<ps.length:=by omega
   have hgp:=getD_map (f:=aPr) hpi
   rw[evN_get hpi] at hE
   have n1:¬(i:Int)<0:=by omega
   have n2:¬(ps.length:Int)<=i:=by omega
   by_cases hk:0<=k/\k<=ps[i].evs.length
   ·rw[if_neg (by omega)] at hE
    have n3:¬k<0:=by omega
    have n4:¬(ps[i].evs.length:Int)<k:=by omega
    by_cases hk8:kd<=8
    ·rw[if_pos hk8] at hE
     rw[if_neg (fun h=>hr.1 h hk8)] at h2
     refine PE 50 [.tmp 8] [4,7] func140 ?_;simp only[go_sem]
     refine Wk ?_
     refine Sd ?_
     refine(h1).val.use ?_;simp only[go_sem,n1,n2,n3,n4,hgp]
     refine W5 n1 n2 n3 n4 hgp ?_
     refine Sd ?_
     refine Vu h2 ?_
     repeat(first|((with_reducible refine AWp.ofC ?_ ?_);exact rfl;simp only[go_sem,Int.reduceEq])|((with_reducible refine an ?_ ?_);exact Au))
     refine Rq ?_
     rw[hE]
    rw[if_neg hk8] at hE
    rw[if_pos (hr.2 hk8)] at h2
    refine PE 50 [.tmp 8] [4,7] func140 ?_;simp only[go_sem]
    refine Wk ?_
    refine Sd ?_
    refine(h1).val.use ?_;simp only[go_sem,n1,n2,n3,n4,hgp]
    refine W5 n1 n2 n3 n4 hgp ?_
    refine Sd ?_
    refine Vu h2 ?_
    repeat(first|((with_reducible refine AWp.ofC ?_ ?_);exact rfl;simp only[go_sem,Int.reduceEq])|((with_reducible refine an ?_ ?_);exact Au))
    refine Sd ?_
    refine Vu h3 ?_
    refine Wk ?_
    constructor<;>intro h5
    ·rw[if_pos h5] at hE
     refine Wk ?_
     refine Rq ?_
     rw[hE]
    ·rw[if_neg (by rw[h5];decide)] at hE
     refine Wk ?_
     refine Rq ?_
     rw[hE]
   ·rw[if_pos (by omega)] at hE
    refine PE 50 [.tmp 8] [4,7] func140 ?_;simp only[go_sem]
    refine Wk ?_
    refine Sd ?_
    refine(h1).val.use ?_;simp only[go_sem,n1,n2,hgp]
    refine W3 n1 n2 hgp ?_
    constructor<;>intro h5
    ·refine Wk ?_
     refine Rq ?_
     rw[hE]
    ·intros;omega
  ·rw[if_pos (by omega)] at hE
   by_cases hp0:pr<0
   ·have hgx:(ps.map aPr).getD pr.toNat .any=aPr (ps[0]'(by omega)):=by
     rw[show pr.toNat=0 by omega];exact getD_map (by omega)
    refine PE 50 [.tmp 8] [4,7] func140 ?_;simp only[go_sem]
    refine Wk ?_
    refine Sd ?_
    refine(h1).val.use ?_;simp only[go_sem,hp0,hgx]
    refine W2 hp0 hgx ?_
    refine Rq ?_
    rw[hE]
   ·have hp1:(ps.length:Int)<=pr:=by omega
    have hgx:(ps.map aPr).getD pr.toNat .any = .any:=by
     rw[List.getD_eq_getElem?_getD,List.getElem?_eq_none (by rw[List.length_map];omega)];rfl
    refine PE 50 [.tmp 8] [4,7] func140 ?_;simp only[go_sem]
    refine Wk ?_
    refine Sd ?_
    refine(h1).val.use ?_;simp only[go_sem,hp0,hp1,hgx,List.getD_nil]
    repeat(first|((with_reducible refine AWp.ofC ?_ ?_);exact rfl;simp only[go_sem,hp0,hp1,hgx,List.getD_nil])|((with_reducible refine an ?_ ?_);exact Au))
    refine Rq ?_
    rw[hE]
 ·rw[if_pos he] at hE
  refine PE 50 [.tmp 8] [4,7] func140 ?_;simp only[go_sem]
  refine Wk ?_
  refine Sd ?_
  refine Vu h1 ?_
  refine W1 he ?_
  refine Rq ?_
  rw[hE]
end Go.AL
end
