/- Texts of this claim's proof: WPi, WVt, WVb, WRf8, WDl, WJn, WPw, WPw2, WTl, WEf, WCl, AlRed, AlBr, AlBr2. No condition. -/
import Derived.Test.YtbegiibjiidkmaaGreatDoorM9
import Derived.Test.YtbegiibjiidkmaaGreatDoorM7
import Derived.Test.YtbegiibjiidkmaaGreatDoorM8
import Derived.Test.YtbegiibjiidkmaaGreatDoorM5
import Derived.Test.YtbegiibjiidkmaaGreatDoorM4
import Derived.ProofKit
section
namespace Go.AL
open Go Go.RowKit Proofs.Tryz
set_option maxRecDepth 4000
theorem predtype_small (ps:List Pr)(hs:Sm ps)(hv:validF ps=true)(t:Pd):szF t<=1000000->okT ps t=true->PC prog 152 [aTr ps,aPd t] (ab (fitB ps t)):=by
 induction t using Pd.ind with
 | _ k n p q s l ih =>
 intro hz ht
 have hsz:szF (.mk k n p q s l)=szL l+1:=by rw[szF]
 have hll:=szL_len l
 have hsp:=fitB_mk ps k n p q s l
 have hr:=predtype_result k
 have hbd:=fun h=>predtype_bounds ps hs hv (.mk k n p q s l) hz ht h
 have h1:∀x ∈ l,PV prog (.clo 193 [.rp 1 [aTr ps] 0 0]) [aPd x] (ab (!fitB ps x)):=by
  intro x hx
  have hxi:=szL_mem hx
  have hch:=ih x hx (by omega) ((okT_sub ht).2.2.2 x hx).1
  generalize fitB ps x=b at *
  obtain⟨k2,n2,p2,q2,s2,l2⟩:=x
  refine PC.clo ?_
  simp only[aPd_mk] at *
  refine PE 8 [.tmp 3] [2] func193 ?_;simp only[go_sem]
  refine Wk ?_
  refine Sd ?_
  refine Vu hch ?_
  refine Wk ?_
  exact Rz
 have hc:=preds_containsFunc l (by omega) _ rfl (fun x=>!fitB ps x) h1
 have hall:l.all (fitB ps) = !l.any fun x=>!fitB ps x:=by rw[List.all_eq_not_any_not]
 rw[hall] at hsp
 generalize (l.any fun x=>!fitB ps x)=c at *
 generalize fitB ps (.mk k n p q s l)=F at *
 simp only[Pd.kind] at hbd
 have hrk:resF k=1↔k<=8:=by unfold resF;split <;> omega
 generalize resF k=r at *
 generalize intF ps (.mk k n p q s l)=I at *
 unfold aBd aIv at hbd
 simp only[aPd_mk] at *
 refine PE 23 [.tmp 4] [2,3,5] func152 ?_;simp only[go_sem]
 refine Wk ?_
 refine Sd ?_
 refine Vu hr ?_
 refine Wk ?_
 constructor<;>intro h2
 ·have hk:=hrk.1 h2
  rw[if_pos hk] at hsp
  have hbd:=hbd hk
  refine Wk ?_
  refine Sd ?_
  refine Vu hbd ?_
  refine Wk ?_
  intro b5
  refine Wk ?_
  refine Rq ?_
  rw[hsp]
 ·rw[if_neg (fun h=>h2 (hrk.2 h))] at hsp
  refine Wk ?_
  refine Sd ?_
  refine Vu hc ?_
  refine Wk ?_
  refine Rq ?_
  rw[hsp]
theorem predtype_Check (ps:List Pr)(hs:Sm ps)(t:Pd)(hz:szF t<=1000000):PC prog 114 [aTr ps,aPd t] (ai (checkF ps t)):=by
 have h1:=trace_Valid ps hs
 have h2:=predtype_formed t hz
 have h3:=predtype_resolved ps hs t hz
 have h4:=predtype_typed t hz
 have h5:=fun h1 h2=>predtype_small ps hs h1 t hz h2
 have hsp:checkF ps t=if (validF ps && formedB t)=false then 1 else if allB (resB ps) t=false then 13 else if typedB t=false then 14 else if fitB ps t=false then 9 else 0:=rfl
 have hok:formedB t=true->allB (resB ps) t=true->typedB t=true->okT ps t=true:=fun a b c=>by
  unfold okT;unfold formedB at a;unfold typedB at c
  simp only[Bool.and_eq_true] at a ⊢
  exact⟨⟨a.2,b⟩,c⟩
 generalize checkF ps t=r at *
 generalize okT ps t=O at *
 generalize validF ps=V at *
 generalize formedB t=F at *
 generalize allB (resB ps) t=R at *
 generalize typedB t=T at *
 generalize fitB ps t=S at *
 obtain⟨k,n,p,q,s,l⟩:=t
 simp only[aPd_mk] at *
 refine PE 28 [.tmp 4] [2,3] func114 ?_;simp only[go_sem]
 refine Wk ?_
 refine Sd ?_
 refine Vu h1 ?_
 refine Sd ?_
 refine Gc h2 ?_
 refine Sd ?_
 refine Wk ?_
 constructor<;>intro h6
 ·refine Wk ?_
  refine Rq ?_
  rw[hsp,if_pos (by cases V <;> simp_all)]
 intro h7
 rw[if_neg (by rw[h6,h7];decide)] at hsp
 refine Wk ?_
 refine Sd ?_
 refine Vu h3 ?_
 refine Wk ?_
 constructor<;>intro h8
 ·refine Wk ?_
  refine Rq ?_
  rw[hsp,if_pos h8]
 rw[if_neg (by rw[h8];decide)] at hsp
 refine Wk ?_
 refine Sd ?_
 refine Vu h4 ?_
 refine Wk ?_
 constructor<;>intro h9
 ·refine Wk ?_
  refine Rq ?_
  rw[hsp,if_pos h9]
 rw[if_neg (by rw[h9];decide)] at hsp
 have h5:=h5 h6 (hok h7 h8 h9)
 refine Wk ?_
 refine Sd ?_
 refine Vu h5 ?_
 refine Wk ?_
 constructor<;>intro h10
 ·refine Wk ?_
  refine Rq ?_
  rw[hsp,if_pos h10]
 rw[if_neg (by rw[h10];decide)] at hsp
 refine Wk ?_
 refine Rq ?_
 rw[hsp]
theorem ref28_kind (k n p q:Int)(s:ByteArray)(l:List Pd):PC prog 171 [aPd (.mk k n p q s l)] (ai (resF k)):=by
 have hr:resF k=if k<=8 then 1 else 2:=rfl
 generalize resF k=r at *
 refine PE 6 [.tmp 2] [1] func171 ?_;simp only[go_sem]
 refine Wk ?_
 constructor<;>intro h1
 ·refine Wk ?_
  refine Rq ?_
  rw[hr,if_pos h1]
 ·refine Wk ?_
  refine Rq ?_
  rw[hr,if_neg h1]
theorem all_and2 {α:Type}(f g:α->Bool)(l:List α):(l.all f && l.all g)=l.all fun x=>f x && g x:=by
 induction l with
 | nil=>rfl
 | cons a r ih=>rw[List.all_cons,List.all_cons,List.all_cons,<- ih];cases f a <;> cases g a <;> cases r.all f <;> rfl
theorem ref28_typed (t:Pd):szF t<=1000000->allB locB t=true->PC prog 169 [aPd t] (ab (allB typB t)):=by
 induction t using Pd.ind with
 | _ k n p q s l ih =>
 intro hz ht
 have hsz:szF (.mk k n p q s l)=szL l+1:=by rw[szF]
 have hll:=szL_len l
 obtain⟨ht1,ht2⟩:=allB_sub ht
 obtain⟨hpl,_⟩:=loc_len ht1
 have hsp:allB typB (.mk k n p q s l)=l.all fun x=>!tyNe k x.kind && allB typB x:=by
  rw[allB_mk]
  show ((!l.any fun x=>tyNe k x.kind) && l.all (allB typB))=_
  rw[List.not_any_eq_all_not,all_and2]
 generalize allB typB (.mk k n p q s l)=B at *
 obtain⟨pB,hpB⟩:∃pB:Pd->Bool,pB=fun x=>!tyNe k x.kind && allB typB x:=⟨_,rfl⟩
 rw[<- hpB] at hsp
 refine PE 32 [.tmp 2] [1] func169 ?_;simp only[go_sem]
 refine Wk ?_
 refine AWp.block (AWp.count 3 l.length [] [1] (fun i vs L=>L=[]/\∀j (hj:j<l.length),j<i->pB l[j]=true) rfl rfl ⟨rfl,by omega⟩ ?_)
 rintro i vs L hi - ⟨rfl,hI⟩
 simp only[go_sem]
 refine Wk ?_
 constructor<;>intro h4
 ·have hil:i<l.length:=by omega
  have hk:needF k=if 15<=k then 2 else 1:=by
   unfold needF
   rcases parts_cases k with ⟨e,hc⟩|⟨e,hc⟩|⟨e,hc⟩|e
   ·omega
   ·split <;> split <;> omega
   ·split <;> split <;> omega
   ·omega
  have hgi:=getD_map (f:=aPd) hil
  have hzi:=szL_mem (List.getElem_mem hil)
  have hch:=ih l[i] (List.getElem_mem hil) (by omega) (ht2 _ (List.getElem_mem hil))
  have hnx:=all_next (f:=pB) hI hil
  have hno:=all_not (f:=pB) hil
  have hxt:pB l[i]=true↔resF l[i].kind=needF k/\allB typB l[i]=true:=by rw[hpB];simp only[tyNe,Bool.and_eq_true,Bool.not_eq_true',decide_eq_false_iff_not,Decidable.not_not]
  generalize l[i]=x at *
  generalize allB typB x=bx at *
  obtain⟨k2,n2,p2,q2,s2,l2⟩:=x
  have hkd:=ref28_kind k2 n2 p2 q2 s2 l2
  simp only[aPd_mk,Pd.kind] at hgi hch hkd hxt
  generalize resF k2=r at *
  by_cases h15:15<=k
  ·have hk:needF k=2:=by rw[hk,if_pos h15]
   rw[hk] at hxt
   repeat(first|((with_reducible refine AWp.ofC ?_ ?_);exact rfl;simp only[go_sem,(eq_true h15),hgi])|((with_reducible refine an ?_ ?_);exact Au))
   refine Sd ?_
   refine(hkd).val.use ?_;simp only[go_sem,hgi]
   refine Sd ?_
   refine Gc hch ?_
   refine Sd ?_
   refine Wk ?_
   constructor<;>intro h5
   ·refine Wk ?_
    refine Rq ?_
    rw[hsp,hno (by rw[<- Bool.not_eq_true,hxt];rintro⟨e1,e2⟩;rcases h5 with h5|h5;exact h5 e1;rw[h5] at e2;cases e2)]
   ·intro h6
    refine Wk ?_
    exact⟨_,.refl _,rfl,hnx (hxt.2 ⟨h5,h6⟩)⟩
  ·have hk:needF k=1:=by rw[hk,if_neg h15]
   rw[hk] at hxt
   refine W2 h15 hgi ?_
   refine Sd ?_
   refine(hkd).val.use ?_;simp only[go_sem,hgi]
   refine Sd ?_
   refine Gc hch ?_
   refine Sd ?_
   refine Wk ?_
   constructor<;>intro h5
   ·refine Wk ?_
    refine Rq ?_
    rw[hsp,hno (by rw[<- Bool.not_eq_true,hxt];rintro⟨e1,e2⟩;rcases h5 with h5|h5;exact h5 e1;rw[h5] at e2;cases e2)]
   ·intro h6
    refine Wk ?_
    exact⟨_,.refl _,rfl,hnx (hxt.2 ⟨h5,h6⟩)⟩
 ·refine Wk ?_
  refine Rq ?_
  rw[hsp,all_of hI (by omega)]
theorem ref28_fits (ps:List Pr)(hs:Sm ps)(hv:validF ps=true)(t:Pd):szF t<=1000000->okT ps t=true->PC prog 170 [aTr ps,aPd t] (ab (fitB ps t)):=by
 induction t using Pd.ind with
 | _ k n p q s l ih =>
 intro hz ht
 have hsz:szF (.mk k n p q s l)=szL l+1:=by rw[szF]
 have hll:=szL_len l
 have hsp:=fitB_mk ps k n p q s l
 have hr:=ref28_kind k n p q s l
 have hbd:=fun h=>ref28_interval ps hs hv (.mk k n p q s l) hz ht h
 generalize fitB ps (.mk k n p q s l)=F at *
 simp only[Pd.kind] at hbd
 have hrk:resF k=1↔k<=8:=by unfold resF;split <;> omega
 generalize resF k=r at *
 generalize intF ps (.mk k n p q s l)=I at *
 unfold aBd3 at hbd
 simp only[aPd_mk] at hr hbd
 refine PE 35 [.tmp 4] [2,3] func170 ?_;simp only[go_sem]
 refine Wk ?_
 refine Sd ?_
 refine Vu hr ?_
 refine Wk ?_
 constructor<;>intro h2
 ·have hk:=hrk.1 h2
  rw[if_pos hk] at hsp
  have hbd:=hbd hk
  refine Wk ?_
  refine Sd ?_
  refine Vu hbd ?_
  refine Wk ?_
  refine Rq ?_
  rw[hsp]
 rw[if_neg (fun h=>h2 (hrk.2 h))] at hsp
 refine Wk ?_
 refine AWp.block (AWp.count 8 l.length [] [2,3] (fun i vs L=>L=[]/\∀j (hj:j<l.length),j<i->fitB ps l[j]=true) rfl rfl ⟨rfl,by omega⟩ ?_)
 rintro i vs L hi - ⟨rfl,hI⟩
 simp only[go_sem]
 refine Wk ?_
 constructor<;>intro h4
 ·have hil:i<l.length:=by omega
  have hgi:=getD_map (f:=aPd) hil
  have hzi:=szL_mem (List.getElem_mem hil)
  have hch:=ih l[i] (List.getElem_mem hil) (by omega) ((okT_sub ht).2.2.2 _ (List.getElem_mem hil)).1
  have hnx:=all_next hI hil
  have hno:=all_not (f:=fitB ps) hil
  generalize l[i]=x at *
  generalize fitB ps x=bx at *
  obtain⟨k2,n2,p2,q2,s2,l2⟩:=x
  simp only[aPd_mk] at hgi hch
  refine AWp.seq (AWp.block (AWp.seq ?_))
  refine Sq ?_
  refine AWp.mix mixed [0,1,2,3,4,5,6,7] .done (by kernel_rfl) ?_;simp only[go_sem,hgi]
  refine Sd ?_
  refine Gc hch ?_
  refine Sd ?_
  refine Wk ?_
  constructor<;>intro h5
  ·refine Wk ?_
   refine Rq ?_
   rw[hsp,hno h5]
  ·refine Wk ?_
   exact⟨_,.refl _,rfl,hnx h5⟩
 ·refine Wk ?_
  refine Rq ?_
  rw[hsp,all_of hI (by omega)]
theorem ref28_Check (ps:List Pr)(hs:Sm ps)(t:Pd)(hz:szF t<=1000000):PC prog 122 [aTr ps,aPd t] (ai (checkF ps t)):=by
 have h1:=ref12_Valid ps hs
 have h2:=ref28_Formed t hz
 have h3:=ref28_Resolved ps hs t hz
 have h4:formedB t=true->PC prog 169 [aPd t] (ab (typedB t)):=fun h=>by
  unfold formedB at h;simp only[Bool.and_eq_true] at h
  exact ref28_typed t hz h.2
 have h5:=fun h1 h2=>ref28_fits ps hs h1 t hz h2
 have hsp:checkF ps t=if (validF ps && formedB t)=false then 1 else if allB (resB ps) t=false then 13 else if typedB t=false then 14 else if fitB ps t=false then 9 else 0:=rfl
 have hok:formedB t=true->allB (resB ps) t=true->typedB t=true->okT ps t=true:=fun a b c=>by
  unfold okT;unfold formedB at a;unfold typedB at c
  simp only[Bool.and_eq_true] at a ⊢
  exact⟨⟨a.2,b⟩,c⟩
 generalize checkF ps t=r at *
 generalize okT ps t=O at *
 generalize validF ps=V at *
 generalize formedB t=F at *
 generalize allB (resB ps) t=R at *
 generalize typedB t=T at *
 generalize fitB ps t=S at *
 obtain⟨k,n,p,q,s,l⟩:=t
 simp only[aPd_mk] at *
 refine PE 24 [.tmp 4] [2,3] func122 ?_;simp only[go_sem]
 refine Wk ?_
 refine Sd ?_
 refine Vu h1 ?_
 refine Sd ?_
 refine Gc h2 ?_
 refine Sd ?_
 refine Wk ?_
 constructor<;>intro h6
 ·refine Wk ?_
  refine Rq ?_
  rw[hsp,if_pos (by cases V <;> simp_all)]
 intro h7
 rw[if_neg (by rw[h6,h7];decide)] at hsp
 have h4:=h4 h7
 refine Wk ?_
 refine Sd ?_
 refine Vu h3 ?_
 refine Wk ?_
 constructor<;>intro h8
 ·refine Wk ?_
  refine Rq ?_
  rw[hsp,if_pos h8]
 rw[if_neg (by rw[h8];decide)] at hsp
 refine Wk ?_
 refine Sd ?_
 refine Vu h4 ?_
 refine Wk ?_
 constructor<;>intro h9
 ·refine Wk ?_
  refine Rq ?_
  rw[hsp,if_pos h9]
 rw[if_neg (by rw[h9];decide)] at hsp
 have h5:=h5 h6 (hok h7 h8 h9)
 refine Wk ?_
 refine Sd ?_
 refine Vu h5 ?_
 refine Wk ?_
 constructor<;>intro h10
 ·refine Wk ?_
  refine Rq ?_
  rw[hsp,if_pos h10]
 rw[if_neg (by rw[h10];decide)] at hsp
 refine Wk ?_
 refine Rq ?_
 rw[hsp]
theorem fit_child {ps:List Pr}{k n p q:Int}{s:ByteArray}{l:List Pd}(h:fitB ps (.mk k n p q s l)=true)(hk:9<=k):∀x ∈ l,fitB ps x=true:=by
 rw[fitB_mk,if_neg (by omega),List.all_eq_true] at h;exact h
theorem fit_int {ps:List Pr}{x:Pd}(h:fitB ps x=true)(hk:x.kind<=8):(intF ps x).2.2=true:=by
 obtain⟨k,n,p,q,s,l⟩:=x
 simp only[Pd.kind] at hk
 rw[fitB_mk,if_pos hk] at h;exact h
theorem view_truth (ps:List Pr)(c:List Int)(V:List (List Int))(o:Obs)(hcl:c.length<=1000000)(t:Pd):szF t<=1000000->okT ps t=true->9<=t.kind->fitB ps t=true->allB ntmB t=true->AllP (obsB ps o) t->AllP (leafOk ps c V o) t ->
  PC prog 118 [aView ps c V,aPd t] (ab (truF o t)):=by
 induction t using Pd.ind with
 | _ k n p q s l ih =>
 intro hz ht hk hi htm hob hlf
 obtain⟨o1,o2,o3,o4⟩:=okT_sub ht
 obtain⟨hpl,_⟩:=loc_len o1
 simp only[Pd.kind] at hk
 obtain⟨ht1,ht2⟩:=allB_sub htm
 have hnt:¬(18<=k/\k<=21):=by unfold ntmB tempB at ht1;simp at ht1;omega
 have hsz:szF (.mk k n p q s l)=szL l+1:=by rw[szF]
 have hsp:=truF_mk o k n p q s l
 have hfc:=fit_child hi hk
 obtain⟨_,hls⟩:=AllP_sub hlf
 obtain⟨_,hos⟩:=AllP_sub hob
 generalize truF o (.mk k n p q s l)=R at *
 unfold truN at hsp
 by_cases h12:k<=12
 ·have hch:=child_le ht h12
  obtain⟨a,b,rfl⟩:=len2 (l:=l) (by rcases parts_cases k with ⟨e,hc⟩|⟨e,hc⟩|⟨e,hc⟩|e <;> omega)
  obtain⟨c1,c2⟩:=hch a (by simp)
  obtain⟨c3,c4⟩:=hch b (by simp)
  have hza:=szL_mem (l:=[a,b]) (x:=a) (by simp)
  have hzb:=szL_mem (l:=[a,b]) (x:=b) (by simp)
  have hca:=view_number ps c V o hcl a (by omega) c1 c2 (fit_int (hfc a (by simp)) c2) (hos a (by simp)) (hls a (by simp))
  have hcc:=view_number ps c V o hcl b (by omega) c3 c4 (fit_int (hfc b (by simp)) c4) (hos b (by simp)) (hls b (by simp))
  simp only[List.map_cons,List.map_nil,List.getD_cons_zero,List.getD_cons_succ] at hsp
  generalize valF o a=A at *
  generalize valF o b=B at *
  clear ih hlf hls hob hos htm ht2 hch hfc
  unfold aView at *
  obtain⟨ka,na,pa,qa,sa,la⟩:=a
  obtain⟨kb,nb,pb,qb,sb,lb⟩:=b
  simp only[aPd_mk,List.map_cons,List.map_nil] at *
  refine PE 112 [.tmp 4] [2,3] func118 ?_;simp only[go_sem]
  by_cases h9:k=9
  ·rw[if_pos h9] at hsp
   repeat(first|((with_reducible refine AWp.ofC ?_ ?_);exact rfl;simp only[go_sem,(eq_true h9)])|((with_reducible refine an ?_ ?_);exact Au))
   refine Sq ?_
   refine AWp.mix mixed [0,1,2,3,4,5,6,7,8,9,10,11,12,13] .done (by kernel_rfl) ?_;simp only[go_sem]
   refine Sd ?_
   refine Gc hca ?_
   refine Sd ?_
   refine Gc hcc ?_
   refine Sd ?_
   refine Wk ?_
   refine Rq ?_
   rw[hsp]
  by_cases h10:k=10
  ·rw[if_neg h9,if_pos h10] at hsp
   repeat(first|((with_reducible refine AWp.ofC ?_ ?_);exact rfl;simp only[go_sem,(eq_true h10),h9])|((with_reducible refine an ?_ ?_);exact Au))
   refine Sq ?_
   refine AWp.mix mixed [0,1,2,3,4,5,6,7,8,9,10,11,12,13] .done (by kernel_rfl) ?_;simp only[go_sem]
   refine Sd ?_
   refine Gc hca ?_
   refine Sd ?_
   refine Gc hcc ?_
   refine Sd ?_
   refine Wk ?_
   refine Rq ?_
   rw[hsp]
  by_cases h11:k=11
  ·rw[if_neg h9,if_neg h10,if_pos h11] at hsp
   repeat(first|((with_reducible refine AWp.ofC ?_ ?_);exact rfl;simp only[go_sem,(eq_true h11),h9,h10])|((with_reducible refine an ?_ ?_);exact Au))
   refine Sq ?_
   refine AWp.mix mixed [0,1,2,3,4,5,6,7,8,9,10,11,12,13] .done (by kernel_rfl) ?_;simp only[go_sem]
   refine Sd ?_
   refine Gc hca ?_
   refine Sd ?_
   refine Gc hcc ?_
   refine Sd ?_
   refine Wk ?_
   refine Rq ?_
   rw[hsp]
  have h12:k=12:=by omega
  rw[if_neg h9,if_neg h10,if_neg h11,if_pos h12] at hsp
  repeat(first|((with_reducible refine AWp.ofC ?_ ?_);exact rfl;simp only[go_sem,(eq_true h12),h9,h10,h11])|((with_reducible refine an ?_ ?_);exact Au))
  refine Sq ?_
  refine AWp.mix mixed [0,1,2,3,4,5,6,7,8,9,10,11,12,13] .done (by kernel_rfl) ?_;simp only[go_sem]
  refine Sd ?_
  refine Gc hca ?_
  refine Sd ?_
  refine Gc hcc ?_
  refine Sd ?_
  refine Wk ?_
  refine Rq ?_
  rw[hsp]
 have h9:¬k=9:=by omega
 have h10:¬k=10:=by omega
 have h11:¬k=11:=by omega
 have h12:¬k=12:=by omega
 rw[if_neg h9,if_neg h10,if_neg h11,if_neg h12] at hsp
 have hch:=child_bool ht (by omega)
 rcases parts_cases k with ⟨e,hc⟩|⟨e,hc⟩|⟨e,hc⟩|e
 ·obtain rfl:=len0 (l:=l) (by omega)
  unfold aView
  simp only[aPd_mk,List.map_nil] at *
  refine PE 112 [.tmp 4] [2,3] func118 ?_;simp only[go_sem]
  by_cases h13:k=13
  ·rw[if_pos h13] at hsp
   repeat(first|((with_reducible refine AWp.ofC ?_ ?_);exact rfl;simp only[go_sem,(eq_true h13),h9,h10,h11,h12])|((with_reducible refine an ?_ ?_);exact Au))
   refine Rq ?_
   rw[hsp]
  ·have h14:k=14:=by omega
   rw[if_neg h13,if_pos h14] at hsp
   repeat(first|((with_reducible refine AWp.ofC ?_ ?_);exact rfl;simp only[go_sem,(eq_true h14),h9,h10,h11,h12,h13])|((with_reducible refine an ?_ ?_);exact Au))
   refine Rq ?_
   rw[hsp]
 ·obtain⟨a,rfl⟩:=len1 (l:=l) (by omega)
  have h13:¬k=13:=by omega
  have h14:¬k=14:=by omega
  have h15:k=15:=by omega
  obtain⟨c1,c2⟩:=hch a (by simp)
  have hza:=szL_mem (l:=[a]) (x:=a) (by simp)
  have hca:=ih a (by simp) (by omega) c1 c2 (hfc a (by simp)) (ht2 a (by simp)) (hos a (by simp)) (hls a (by simp))
  simp only[List.map_cons,List.map_nil,List.getD_cons_zero,if_neg h13,if_neg h14,if_pos h15] at hsp
  generalize truF o a=A at *
  clear ih hlf hls hob hos htm ht2 hch hfc
  unfold aView at *
  obtain⟨ka,na,pa,qa,sa,la⟩:=a
  simp only[aPd_mk,List.map_cons,List.map_nil] at *
  refine PE 112 [.tmp 4] [2,3] func118 ?_;simp only[go_sem]
  repeat(first|((with_reducible refine AWp.ofC ?_ ?_);exact rfl;simp only[go_sem,(eq_true h15),h9,h10,h11,h12,h13,h14])|((with_reducible refine an ?_ ?_);exact Au))
  refine Sq ?_
  refine AWp.mix mixed [0,1,2,3,4,5,6,7] .done (by kernel_rfl) ?_;simp only[go_sem]
  refine Sd ?_
  refine Gc hca ?_
  refine Sd ?_
  refine Wk ?_
  refine Rq ?_
  rw[hsp]
 ·obtain⟨a,b,rfl⟩:=len2 (l:=l) (by omega)
  have h13:¬k=13:=by omega
  have h14:¬k=14:=by omega
  have h15:¬k=15:=by omega
  obtain⟨c1,c2⟩:=hch a (by simp)
  obtain⟨c3,c4⟩:=hch b (by simp)
  have hza:=szL_mem (l:=[a,b]) (x:=a) (by simp)
  have hzb:=szL_mem (l:=[a,b]) (x:=b) (by simp)
  have hca:=ih a (by simp) (by omega) c1 c2 (hfc a (by simp)) (ht2 a (by simp)) (hos a (by simp)) (hls a (by simp))
  have hcc:=ih b (by simp) (by omega) c3 c4 (hfc b (by simp)) (ht2 b (by simp)) (hos b (by simp)) (hls b (by simp))
  simp only[List.map_cons,List.map_nil,List.getD_cons_zero,List.getD_cons_succ,if_neg h13,if_neg h14,if_neg h15] at hsp
  generalize truF o a=A at *
  generalize truF o b=B at *
  clear ih hlf hls hob hos htm ht2 hch hfc
  unfold aView at *
  obtain⟨ka,na,pa,qa,sa,la⟩:=a
  obtain⟨kb,nb,pb,qb,sb,lb⟩:=b
  simp only[aPd_mk,List.map_cons,List.map_nil] at *
  refine PE 112 [.tmp 4] [2,3] func118 ?_;simp only[go_sem]
  by_cases h16:k=16
  ·rw[if_pos h16] at hsp
   repeat(first|((with_reducible refine AWp.ofC ?_ ?_);exact rfl;simp only[go_sem,(eq_true h16),h9,h10,h11,h12,h13,h14,h15])|((with_reducible refine an ?_ ?_);exact Au))
   refine Sq ?_
   refine AWp.mix mixed [0,1,2,3,4,5,6,7,8,9,10,11,12,13,14] .done (by kernel_rfl) ?_;simp only[go_sem]
   refine Sd ?_
   refine Gc hca ?_
   refine Sd ?_
   refine Gc hcc ?_
   refine Sd ?_
   refine Wk ?_
   refine Rq ?_
   rw[hsp]
  ·rw[if_neg h16] at hsp
   repeat(first|((with_reducible refine AWp.ofC ?_ ?_);exact rfl;simp only[go_sem,h9,h10,h11,h12,h13,h14,h15,h16])|((with_reducible refine an ?_ ?_);exact Au))
   refine AWp.seq ?_
   refine Sq ?_
   refine AWp.mix mixed [0,1,2,3,4,5,6,7,8,9,10,11,12,13,14] .done (by kernel_rfl) ?_;simp only[go_sem]
   refine Sd ?_
   refine Gc hca ?_
   refine Sd ?_
   refine Gc hcc ?_
   refine Sd ?_
   refine Wk ?_
   refine Rq ?_
   rw[hsp]
 ·omega
theorem evaluate_typed (t:Pd)(hz:szF t<=1000000)(h1:formedB t=true)(h2:typedB t=true)(w:Int):PC prog 115 [aPd t,ai w] (ai (if resF t.kind=w then 0 else 14)):=by
 have ht:=predtype_TypeX t hz
 rw[h1,h2] at ht
 rw[if_neg (by decide),if_neg (by decide),if_neg (by decide),if_neg (by decide)] at ht
 generalize resF t.kind=r at *
 obtain⟨k,n,p,q,s,l⟩:=t
 simp only[aPd_mk] at *
 refine PE 19 [.tmp 4] [2] func115 ?_;simp only[go_sem]
 refine Wk ?_
 refine Sd ?_
 refine Vu ht ?_
 refine Wk ?_
 constructor<;>intro h3
 ·refine Wk ?_
  refine Rq ?_
  rw[if_neg h3]
 ·refine Wk ?_
  refine Rq ?_
  rw[if_pos h3]
theorem predtype_temporal (k:Int):PC prog 156 [ai k] (ab (decide (18<=k/\k<=21))):=by
 generalize hb:decide (18<=k/\k<=21)=b
 refine PE 9 [.tmp 2] [] func156 ?_;simp only[go_sem]
 refine Wk ?_
 refine Rq ?_
 rw[<- hb]
 congr 2
 rw[Bool.eq_iff_iff];simp
theorem predtype_Temporal1 (x:Pd):PC prog 155 [aPd x] (ab (ntmB x)):=by
 obtain⟨k,n,p,q,s,l⟩:=x
 have h:=predtype_temporal k
 have hsp:ntmB (.mk k n p q s l) = !decide (18<=k/\k<=21):=rfl
 rw[hsp]
 generalize decide (18<=k/\k<=21)=b at *
 refine PE 7 [.tmp 2] [1] func155 ?_;simp only[go_sem]
 refine Wk ?_
 refine Sd ?_
 refine Vu h ?_
 refine Wk ?_
 exact Rz
theorem predtype_Temporal (t:Pd)(hz:szF t<=1000000):PC prog 116 [aPd t] (ab (formedB t && !allB ntmB t)):=by
 have hf:=predtype_formed t hz
 have he:=predtype_eachV ntmB 155 (fun x hx=>(predtype_Temporal1 x).val) t hz
 generalize formedB t=f at *
 generalize allB ntmB t=a at *
 obtain⟨k,n,p,q,s,l⟩:=t
 simp only[aPd_mk] at *
 refine PE 10 [.tmp 2] [1] func116 ?_;simp only[go_sem]
 refine Wk ?_
 refine Sd ?_
 refine Vu hf ?_
 refine Sd ?_
 refine Gc he ?_
 refine Sd ?_
 refine Wk ?_
 exact Rz
open Classical in
noncomputable def atV (ps:List Pr)(c:List Int)(t:Pd):AV:=if c.length ≠ ps.length\/checkF ps t ≠ 0\/givenF ps [c] [] ≠ 0 then aView [] [] [] else aView ps c (valuesAt ps c)
def andB (f g:Pd->Bool)(x:Pd):Bool:=f x && g x
theorem allB_and {f g:Pd->Bool}(t:Pd):allB f t=true->allB g t=true->allB (andB f g) t=true:=by
 induction t using Pd.ind with
 | _ k n p q s l ih =>
  intro hf hg
  obtain⟨f1,f2⟩:=allB_sub hf
  obtain⟨g1,g2⟩:=allB_sub hg
  rw[allB_mk,Bool.and_eq_true,List.all_eq_true]
  exact⟨by unfold andB;rw[f1,g1];rfl,fun x hx=>ih x hx (f2 x hx) (g2 x hx)⟩
end Go.AL
end
section
namespace Go.AL
open Go Go.RowKit Proofs.Tryz
set_option maxRecDepth 4000
theorem cntOk_get {ps:List Pr}{c:List Int}{p:Nat}(hp:p<ps.length)(hc:p<c.length):cntOk ps c p=(decide (0<=c[p]) && decide (c[p]<=ps[p].evs.length)):=by
 simp only[cntOk,List.getElem?_eq_getElem hp,List.getElem?_eq_getElem hc]
theorem ref12_Cut (ps:List Pr)(hs:Sm ps)(c:List Int):PC prog 144 [aTr ps,aInts c] (ab (decide (c.length=ps.length) && inRangeF ps c)):=by
 have hl:=hs.procs
 refine PE 37 [.tmp 4] [2] func144 ?_;simp only[go_sem]
 refine Wk ?_
 refine Wk ?_
 constructor<;>intro h1
 ·refine Wk ?_
  refine Rq ?_
  rw[decide_eq_false (by omega)];rfl
 ·have hc:c.length=ps.length:=by omega
  refine Wk ?_
  refine AWp.block (AWp.count 5 c.length [] [1,2] (fun p vs L=>L=[]/\∀q,q<p->cntOk ps c q=true) rfl rfl ⟨rfl,by omega⟩ ?_)
  rintro p vs L hp - ⟨rfl,hI⟩
  simp only[go_sem]
  refine Wk ?_
  constructor<;>intro h2
  ·have hpc:p<c.length:=by omega
   have hpp:p<ps.length:=by omega
   have hco:=cntOk_get hpp hpc
   have hgP:=getD_map (f:=aPr) hpp
   have hgc:=getD_map (f:=ai) hpc
   refine AWp.seq (AWp.block (AWp.seq ?_))
   refine AWp.drawn mixed 18 (by kernel_rfl) ?_;simp only[go_sem,hgP,hgc]
   refine Sd ?_
   refine Wk ?_
   constructor<;>intro h3
   ·refine Wk ?_
    refine Rq ?_
    have:inRangeF ps c=false:=by
     unfold inRangeF
     rw[List.all_eq_false]
     refine⟨p,List.mem_range.2 hpc,?_⟩
     rw[hco]
     simp only[Bool.and_eq_true,decide_eq_true_eq]
     omega
    rw[this,Bool.and_false]
   ·intro h4
    refine Wk ?_
    refine⟨_,.refl _,rfl,fun q hq=>?_⟩
    by_cases e:q=p
    ·subst e;rw[hco];simp only[Bool.and_eq_true,decide_eq_true_eq];omega
    ·exact hI q (by omega)
  ·refine Wk ?_
   refine Rq ?_
   have:inRangeF ps c=true:=by
    unfold inRangeF
    rw[List.all_eq_true]
    exact fun q hq=>hI q (by have:=List.mem_range.1 hq;omega)
   rw[this,decide_eq_true hc];rfl
theorem ref12_Consistent (ps:List Pr)(hs:Sm ps)(hn:1<=ps.length)(c:List Int)(hc:c.length=ps.length)(hr:inRangeF ps c=true):PC prog 145 [aTr ps,aInts c] (ab (closedF ps c)):=by
 have hl:=hs.procs
 refine PE 47 [.tmp 4] [2,7,8] func145 ?_;simp only[go_sem]
 refine Wk ?_
 refine AWp.block (AWp.count 5 c.length [] [1,2] (fun p vs L=>L=[]/\Ahead ps (fun q j=>badEv ps c (((q:Int),(j:Int)+1),evq ps q j)=false) p 0) rfl rfl ⟨rfl,fun _ _ _ h=>by omega,fun j hj=>by omega⟩ ?_)
 rintro p vs L hp - ⟨rfl,hA⟩
 simp only[go_sem]
 refine Wk ?_
 constructor<;>intro h1
 ·have hpc:p<c.length:=by omega
  have hpp:p<ps.length:=by omega
  have hgP:=getD_map (f:=aPr) hpp
  have hgc:=getD_map (f:=ai) hpc
  have hel:=hs.evs _ (List.getElem_mem hpp)
  obtain⟨hr1,hr2⟩:=inRangeF_get hr hc hpp
  refine Wk ?_
  refine AWp.block (AWp.count 6 c[p].toNat [] [1,2,5] (fun i vs L=>L=[]/\Ahead ps (fun q j=>badEv ps c (((q:Int),(j:Int)+1),evq ps q j)=false) p i) rfl rfl ⟨rfl,hA⟩ ?_)
  rintro i vs L hi - ⟨rfl,hB⟩
  simp only[go_sem]
  refine W1 hgc ?_
  constructor<;>intro h2
  ·have hie:i<ps[p].evs.length:=by omega
   have hge:=getD_map (f:=aEv) hie
   have hbad:badEv ps c (((p:Int),(i:Int)+1),evq ps p i)=(decide (ps[p].evs[i].kind=3) && decide (cAt c (findIn (evIds ps) 2 ps[p].evs[i].msg).1<(findIn (evIds ps) 2 ps[p].evs[i].msg).2)):=by
    rw[evq_get hpp hie]
    simp only[badEv,cAt_nat hpc,decide_eq_true (show (i:Int)+1<=c[p] by omega),Bool.and_true]
   have hev:=evIds_get hpp hie
   have hq0:=evq_get hpp hie
   have hfd:=ref12_Find ps hs 2 ps[p].evs[i].msg
   obtain⟨f1,f2⟩:=findIn_proc hn 2 ps[p].evs[i].msg
   have hgs:=getD_cAt (c:=c) f1 (by omega)
   refine W2 hgP hge ?_
   intro b7
   refine Wk ?_
   constructor<;>intro h3
   ·refine Wk ?_
    refine Sd ?_
    refine Vu hfd ?_
    refine Sd ?_
    intro b8
    refine AWp.seq ?_
    refine AWp.drawn mixed 7 (by kernel_rfl) ?_;simp only[go_sem,hgs]
    refine Sd ?_
    refine Wk ?_
    constructor<;>intro h4
    ·refine Wk ?_
     refine Rq ?_
     unfold closedF
     have:(evIds ps).any (badEv ps c)=true:=List.any_eq_true.2 ⟨_,List.mem_of_getElem? hev,by rw[<- hq0,hbad,decide_eq_true h3,decide_eq_true h4];rfl⟩
     rw[this];rfl
    ·refine Wk ?_
     exact⟨_,.refl _,rfl,hB.next (by rw[hbad,decide_eq_false h4,Bool.and_false])⟩
   ·refine Wk ?_
    exact⟨_,.refl _,rfl,hB.next (by rw[hbad,decide_eq_false h3];rfl)⟩
  ·refine Wk ?_
   refine⟨_,.refl _,rfl,Ahead.row hpp ⟨hB.1,fun j hj=>?_⟩⟩
   by_cases e:j<i
   ·exact hB.2 j e
   ·simp only[badEv,cAt_nat hpc,decide_eq_false (show ¬(j:Int)+1<=c[p] by omega),Bool.and_false,Bool.false_and]
 ·refine Wk ?_
  refine Rq ?_
  unfold closedF
  have:(evIds ps).any (badEv ps c)=false:=by
   rw[List.any_eq_false]
   intro x hx
   obtain⟨k,hk⟩:=List.getElem?_of_mem hx
   obtain⟨q,hq,j,hj,_,rfl⟩:=evIds_inv hk
   have:=hA.1 q hq j (by omega) hj
   dsimp only at this
   rw[evq_get hq hj] at this
   rw[this];decide
  rw[this];rfl
theorem fstF_zero {f:Nat->Int}{n:Nat}(h:fstF f n=0):∀i,i<n->f i=0:=by
 intro i
 induction i using Nat.strongRecOn with
 | _ i ih =>
  intro hi
  by_cases h0:f i=0
  ·exact h0
  ·rw[fstF_hit hi (fun j hj=>ih j hj (by omega)) h0] at h;exact h
theorem procF_of_valid {ps:List Pr}(h:validF ps=true){p:Nat}(hp:p<ps.length):procF ps p=0:=by
 have h0:=(valid_parts h).1
 unfold procFirst at h0
 rw[Option.map_eq_none_iff,List.find?_eq_none] at h0
 simpa using h0 p (List.mem_range.2 hp)
theorem evF_parts {ps:List Pr}{p:Nat}(hp:p<ps.length){i:Nat}(hi:i<ps[p].evs.length):evF ps p i=0↔formedI ps.length p ps[p].evs[i]=true/\(0<=ps[p].evs[i].time/\ps[p].evs[i].time<=1099511627776/\lastT ps[p].evs i<=ps[p].evs[i].time) /\
  ps[p].evs[i].asg.length<=8/\∀k,k<ps[p].evs[i].asg.length->asgF ps[p].vars.length ps[p].evs[i].asg k=0:=by
 have e:evF ps p i=if !formedI ps.length p ps[p].evs[i] then 3 else if !inI ps[p].evs[i].time 0 1099511627776 || decide (ps[p].evs[i].time<lastT ps[p].evs i) then 11 else if 8<ps[p].evs[i].asg.length then 5 else fstF (asgF ps[p].vars.length ps[p].evs[i].asg) ps[p].evs[i].asg.length:=by
  unfold evF;simp only[List.getElem?_eq_getElem hp,List.getElem?_eq_getElem hi]
 rw[e]
 constructor
 ·intro h
  split at h
  ·cases h
  ·rename_i h1
   split at h
   ·cases h
   ·rename_i h2
    split at h
    ·cases h
    ·simp only[inI,Bool.or_eq_true,Bool.not_eq_true',not_or,Bool.not_eq_false,Bool.and_eq_true,decide_eq_true_eq] at h2
     exact⟨by simpa using h1,⟨h2.1.1,h2.1.2,by omega⟩,by omega,fstF_zero h⟩
 ·rintro⟨h1,⟨h2,h3,h4⟩,h5,h6⟩
  rw[if_neg (by rw[h1];decide),if_neg (by simp only[inI,Bool.or_eq_true,Bool.not_eq_true',not_or,Bool.not_eq_false,Bool.and_eq_true,decide_eq_true_eq];omega),if_neg (by omega),fstF_none h6]
theorem evF_of_valid {ps:List Pr}(h:validF ps=true){p:Nat}(hp:p<ps.length){i:Nat}(hi:i<ps[p].evs.length):evF ps p i=0:=evFirst_get (valid_parts h).2.1 hp hi
theorem valid_cyc {ps:List Pr}(h:validF ps=true):cycF ps=none:=by
 obtain⟨h1,h2,h3⟩:=valid_parts h
 unfold validF faultF at h
 rw[h1,h2,h3] at h
 simp only[decide_eq_true_eq] at h
 split at h
 ·cases h
 ·split at h
  ·cases h
  ·assumption
section
variable {ps:List Pr} {c:List Int}
end
def fillZ (l:List Int)(n i:Nat):List Int:=l.take i ++ List.replicate (n - i) 0
theorem fillZ_set {l:List Int}{n i:Nat}(hl:l.length=n)(hi:i<n):(fillZ l n i).set i (l[i]'(by omega))=fillZ l n (i+1):=by
 unfold fillZ
 have e:n - i=(n - (i+1))+1:=by omega
 rw[List.set_append_right _ _ (by rw[List.length_take];omega),List.length_take,show i - min i l.length=0 by omega,e,List.replicate_succ,List.set_cons_zero,List.take_succ_eq_append_getElem (by omega),List.append_assoc]
 rfl
theorem fillZ_zero (l:List Int)(n:Nat):fillZ l n 0=List.replicate n 0:=by unfold fillZ;simp
theorem fillZ_full {l:List Int}{n:Nat}(h:l.length=n):fillZ l n n=l:=by unfold fillZ;subst h;simp
theorem fillZ_length {l:List Int}{n i:Nat}(hl:l.length=n)(hi:i<=n):(fillZ l n i).length=n:=by unfold fillZ;rw[List.length_append,List.length_take,List.length_replicate];omega
theorem map_set_ai (l:List Int)(i:Nat)(v:Int):(l.map ai).set i (ai v)=(l.set i v).map ai:=by rw[List.map_set]
theorem replicate_ai (n:Nat):(List.replicate n (0:Int)).map ai=List.replicate n (ai 0):=by rw[List.map_replicate]
theorem givenL {ps:List Pr}{l:List (List Int)} : givenF ps l []=0↔(validF ps=true/\∀c ∈ l,c.length=ps.length)/\(∀c ∈ l,inRangeF ps c=true)/\∀c ∈ l,closedF ps c=true:=by
 have h1:sizedF ps l=true↔validF ps=true/\∀c ∈ l,c.length=ps.length:=by
  refine⟨sizedF_inv,fun h=>?_⟩
  unfold sizedF
  rw[h.1,Bool.true_and,Bool.not_eq_true',List.any_eq_false]
  intro c hc
  rw[decide_eq_true (h.2 c hc)];decide
 have h2:=List.all_eq_true (l:=l) (p:=inRangeF ps)
 have h3:=List.all_eq_true (l:=l) (p:=closedF ps)
 rw[<- h1,<- h2,<- h3]
 unfold givenF
 cases sizedF ps l <;> cases l.all (inRangeF ps) <;> cases l.all (closedF ps) <;> simp
mutual
def rwF (c:List Int):Pd->Pd
 | .mk k n p q s l=>if k=3 then .mk 6 0 0 0 ByteArray.empty [.mk k n p q s l,.mk 1 (c.getD p.toNat 0) 0 0 ByteArray.empty []] else .mk k n p q s (rwL c l)
def rwL (c:List Int):List Pd->List Pd
 | []=>[]
 | x :: r=>rwF c x :: rwL c r
end
theorem closed_iff {ps:List Pr}{c:List Int} : closedF ps c=true↔∀(p:Nat) (hp:p<ps.length) (i:Nat) (hi:i<ps[p].evs.length),ps[p].evs[i].kind=3->(i:Int)+1<=cAt c p->(sndr ps ps[p].evs[i].msg).2<=cAt c (sndr ps ps[p].evs[i].msg).1:=by
 unfold closedF
 rw[Bool.not_eq_true',List.any_eq_false]
 constructor
 ·intro h p hp i hi hk hc
  have:=h _ (List.mem_of_getElem? (evIds_get hp hi))
  unfold badEv at this
  simp only[Bool.and_eq_true,decide_eq_true_eq,not_and] at this
  have:=this ⟨hk,hc⟩
  unfold sndr
  omega
 ·intro h x hx
  obtain⟨k,hk⟩:=List.getElem?_of_mem hx
  obtain⟨p,hp,i,hi,_,rfl⟩:=evIds_inv hk
  unfold badEv
  simp only[Bool.and_eq_true,decide_eq_true_eq,not_and]
  rintro⟨h1,h2⟩
  have:=h p hp i hi h1 h2
  unfold sndr at this
  omega
theorem inRange_iff {ps:List Pr}{c:List Int}(hc:c.length=ps.length):inRangeF ps c=true↔∀(p:Nat) (hp:p<ps.length),0<=cAt c p/\cAt c p<=ps[p].evs.length:=by
 constructor
 ·intro h p hp
  obtain⟨h1,h2⟩:=inRangeF_get h hc hp
  rw[cAt_nat (show p<c.length by omega)]
  exact⟨h1,h2⟩
 ·intro h
  unfold inRangeF
  rw[List.all_eq_true]
  intro p hp
  have hpc:=List.mem_range.1 hp
  have hpp:p<ps.length:=by omega
  have:=h p hpp
  rw[cAt_nat hpc] at this
  unfold cntOk
  simp only[List.getElem?_eq_getElem hpc,List.getElem?_eq_getElem hpp,Bool.and_eq_true,decide_eq_true_eq]
  exact this
def joinL (c d:List Int):List Int:=List.zipWith (fun x y=>if x<y then y else x) c d
theorem zw_cAt {c d:List Int}{g:Int->Int->Int}(h:c.length=d.length){p:Nat}(hp:p<c.length):cAt (List.zipWith g c d) p=g (cAt c p) (cAt d p):=by
 rw[cAt_nat (show p<(List.zipWith g c d).length by rw[List.length_zipWith];omega),cAt_nat hp,cAt_nat (show p<d.length by omega),List.getElem_zipWith]
theorem join_cAt {c d:List Int}(h:c.length=d.length){p:Nat}(hp:p<c.length):cAt (joinL c d) p=if cAt c p<cAt d p then cAt d p else cAt c p:=zw_cAt h hp
theorem join_len {c d:List Int}(h:c.length=d.length):(joinL c d).length=c.length:=by unfold joinL;rw[List.length_zipWith];omega
theorem join_given {ps:List Pr}{c d:List Int}(hc:givenF ps [c] []=0)(hd:givenF ps [d] []=0):givenF ps [joinL c d] []=0:=by
 obtain⟨hv,hcl,hcr,hcc⟩:=givenF_zero hc
 obtain⟨_,hdl,hdr,hdc⟩:=givenF_zero hd
 have hl:=join_len (c:=c) (d:=d) (by omega)
 rw[givenL]
 refine⟨⟨hv,fun x hx=>?_⟩,fun x hx=>?_,fun x hx=>?_⟩ <;> (simp only[List.mem_singleton] at hx;subst hx)
 ·omega
 ·rw[inRange_iff (by omega)]
  intro p hp
  have h1:=(inRange_iff hcl).1 hcr p hp
  have h2:=(inRange_iff hdl).1 hdr p hp
  rw[join_cAt (by omega) (by omega)]
  split <;> omega
 ·rw[closed_iff]
  intro p hp i hi hk hle
  obtain⟨hq,j,hj,h1,_,_⟩:=recv_peer (valid_parts hv).2.2 hp hi hk
  rw[join_cAt (by omega) (by omega)] at hle
  have g1:=closed_iff.1 hcc p hp i hi hk
  have g2:=closed_iff.1 hdc p hp i hi hk
  rw[h1] at g1 g2 ⊢
  simp only at g1 g2 ⊢
  generalize ps[p].evs[i].peer.toNat=q at *
  rw[join_cAt (by omega) (by omega)]
  split at hle <;> split <;> omega
section
variable {ps:List Pr} {c j:List Int}
end
def closeN (ps:List Pr):Nat->List Int->List Int
 | 0,c=>c
 | n+1,c=>match missF ps c with
  | none=>c
  | some x=>closeN ps n (c.set x.1.1.toNat x.1.2)
def closeF (ps:List Pr)(c:List Int):List Int:=closeN ps (off ps ps.length) c
theorem sumN_set:∀(l:List Nat) (i x:Nat) (h:i<l.length),(l.set i x).sum+l[i]=l.sum+x
 | a :: r,0,x,_=>by simp only[List.set_cons_zero,List.sum_cons,List.getElem_cons_zero];omega
 | a :: r,i+1,x,h=>by
  have:=sumN_set r i x (by simpa using h)
  simp only[List.set_cons_succ,List.sum_cons,List.getElem_cons_succ];omega
def totC (c:List Int):Nat:=(c.map Int.toNat).sum
theorem totC_set {c:List Int}{q:Nat}{x:Int}(hq:q<c.length):totC (c.set q x)+(c[q]).toNat=totC c+x.toNat:=by
 unfold totC
 rw[List.map_set]
 have:=sumN_set (c.map Int.toNat) q x.toNat (by simpa using hq)
 simpa using this
theorem totC_le0:∀(l:List Pr) (c:List Int),c.length=l.length->(∀p (hp:p<l.length),c.getD p 0<=l[p].evs.length)->totC c<=(l.map fun x=>x.evs.length).sum
 | [],[],_,_=>Nat.le_refl _
 | x :: l,a :: c,hl,h=>by
  have h0:=h 0 (by simp)
  have ht:=totC_le0 l c (by simpa using hl) fun p hp=>by
   have:=h (p+1) (by simpa using hp)
   simpa using this
  simp only[List.getElem_cons_zero,List.getD_cons_zero] at h0
  unfold totC at *
  simp only[List.map_cons,List.sum_cons]
  omega
theorem totC_le {ps:List Pr}{c:List Int}(hc:c.length=ps.length)(hr:inRangeF ps c=true):totC c<=off ps ps.length:=by
 unfold off
 rw[List.take_length]
 refine totC_le0 ps c hc fun p hp=>?_
 have:=((inRange_iff hc).1 hr p hp).2
 unfold cAt at this
 simpa using this
theorem miss_inv {ps:List Pr}(hv:validF ps=true){c:List Int}(hc:c.length=ps.length){x:Eid × Eid}(h:missF ps c=some x) :
  ∃(p:Nat) (_:p<ps.length) (i:Nat) (_:i<ps[p].evs.length) (q:Nat) (_:q<ps.length) (j:Nat) (_:j<ps[q].evs.length),ps[p].evs[i].kind=3/\(i:Int)+1<=cAt c p/\sndr ps ps[p].evs[i].msg=((q:Int),(j:Int)+1)/\x=(((q:Int),(j:Int)+1),((p:Int),(i:Int)+1))/\cAt c q<(j:Int)+1:=by
 unfold missF at h
 rw[Option.map_eq_some_iff] at h
 obtain⟨y,hy,rfl⟩:=h
 have hb:=List.find?_some hy
 obtain⟨k,hk⟩:=List.getElem?_of_mem (List.mem_of_find?_eq_some hy)
 obtain⟨p,hp,i,hi,_,rfl⟩:=evIds_inv hk
 unfold badEv at hb
 simp only[Bool.and_eq_true,decide_eq_true_eq] at hb
 obtain⟨⟨h1,h2⟩,h3⟩:=hb
 obtain⟨hq,j,hj,e,_,_⟩:=recv_peer (valid_parts hv).2.2 hp hi h1
 have e':findIn (evIds ps) 2 ps[p].evs[i].msg=((ps[p].evs[i].peer.toNat:Int),(j:Int)+1):=e
 rw[e'] at h3
 exact⟨p,hp,i,hi,_,hq,j,hj,h1,h2,e,by rw[e'],h3⟩
theorem miss_next {ps:List Pr}(hv:validF ps=true){c:List Int}(hc:c.length=ps.length)(hr:inRangeF ps c=true){x:Eid × Eid}(h:missF ps c=some x) :
  (c.set x.1.1.toNat x.1.2).length=ps.length/\inRangeF ps (c.set x.1.1.toNat x.1.2)=true/\totC c<totC (c.set x.1.1.toNat x.1.2):=by
 obtain⟨p,hp,i,hi,q,hq,j,hj,_,_,_,rfl,h1⟩:=miss_inv hv hc h
 have hl:(c.set q ((j:Int)+1)).length=ps.length:=by rw[List.length_set];exact hc
 refine⟨hl,?_,?_⟩
 ·rw[Int.toNat_natCast,inRange_iff hl]
  intro r hr'
  rw[cAt_nat (show r<(c.set q ((j:Int)+1)).length by omega),List.getElem_set]
  split
  ·rename_i e;subst e;omega
  ·have:=(inRange_iff hc).1 hr r hr'
   rw[cAt_nat (show r<c.length by omega)] at this
   exact this
 ·have:=totC_set (c:=c) (q:=q) (x:=(j:Int)+1) (by omega)
  rw[cAt_nat (show q<c.length by omega)] at h1
  have h0:=((inRange_iff hc).1 hr q hq).1
  rw[cAt_nat (show q<c.length by omega)] at h0
  simp only[Int.toNat_natCast]
  have h3:((j:Int)+1).toNat=j+1:=by omega
  rw[h3] at this
  omega
theorem closeN_more {ps:List Pr}(hv:validF ps=true):∀(n:Nat) (c:List Int),c.length=ps.length->inRangeF ps c=true->off ps ps.length<=totC c+n->closeN ps (n+1) c=closeN ps n c
 | 0,c,hc,hr,hn=>by
  unfold closeN
  cases h:missF ps c with
  | none=>rfl
  | some x =>
   obtain⟨a1,a2,a3⟩:=miss_next hv hc hr h
   have:=totC_le a1 a2
   omega
 | n+1,c,hc,hr,hn=>by
  rw[closeN]
  conv=>rhs;rw[closeN]
  cases h:missF ps c with
  | none=>rfl
  | some x =>
   obtain⟨a1,a2,a3⟩:=miss_next hv hc hr h
   exact closeN_more hv n _ a1 a2 (by omega)
theorem closeN_of {ps:List Pr}(hv:validF ps=true){c:List Int}(hc:c.length=ps.length)(hr:inRangeF ps c=true){n:Nat}(h:off ps ps.length<=totC c+n):∀k,closeN ps (n+k) c=closeN ps n c
 | 0=>rfl
 | k+1=>by rw[<- Nat.add_assoc,closeN_more hv (n+k) c hc hr (by omega),closeN_of hv hc hr h k]
theorem closeF_step {ps:List Pr}(hv:validF ps=true){c:List Int}(hc:c.length=ps.length)(hr:inRangeF ps c=true){x:Eid × Eid}(h:missF ps c=some x):closeF ps c=closeF ps (c.set x.1.1.toNat x.1.2):=by
 obtain⟨a1,a2,a3⟩:=miss_next hv hc hr h
 have hle:=totC_le a1 a2
 unfold closeF
 obtain⟨m,hm⟩:∃m,off ps ps.length=m+1:=⟨off ps ps.length - 1,by omega⟩
 rw[hm]
 conv=>lhs;rw[closeN]
 rw[h]
 exact(closeN_of hv a1 a2 (n:=m) (by omega) 1).symm
theorem closeF_none {ps:List Pr}{c:List Int}(h:missF ps c=none):closeF ps c=c:=by
 unfold closeF
 cases off ps ps.length with
 | zero=>rfl
 | succ n=>rw[closeN,h]
theorem miss_ind {ps:List Pr}(hv:validF ps=true){M:List Int->Prop}(h0:∀c,c.length=ps.length->inRangeF ps c=true->missF ps c=none->M c)
  (h1:∀c,c.length=ps.length->inRangeF ps c=true->∀x,missF ps c=some x->M (c.set x.1.1.toNat x.1.2)->M c):∀c,c.length=ps.length->inRangeF ps c=true->M c:=by
 suffices H:∀n c,c.length=ps.length->inRangeF ps c=true->off ps ps.length - totC c=n->M c from fun c hc hr=>H _ c hc hr rfl
 intro n
 induction n using Nat.strongRecOn with
 | _ n ih =>
  intro c hc hr hn
  cases h:missF ps c with
  | none=>exact h0 c hc hr h
  | some x =>
   obtain⟨a1,a2,a3⟩:=miss_next hv hc hr h
   have:=totC_le a1 a2
   exact h1 c hc hr x h (ih _ (by omega) _ a1 a2 rfl)
theorem closeF_ok {ps:List Pr}(hv:validF ps=true){c:List Int}(hc:c.length=ps.length)(hr:inRangeF ps c=true):(closeF ps c).length=ps.length/\inRangeF ps (closeF ps c)=true/\missF ps (closeF ps c)=none:=by
 refine miss_ind hv (M:=fun c=>(closeF ps c).length=ps.length/\inRangeF ps (closeF ps c)=true/\missF ps (closeF ps c)=none) (fun c hc hr h=>?_) (fun c hc hr x h hm=>?_) c hc hr
 ·rw[closeF_none h];exact⟨hc,hr,h⟩
 ·rw[closeF_step hv hc hr h];exact hm
theorem closeF_ge {ps:List Pr}(hv:validF ps=true){c:List Int}(hc:c.length=ps.length)(hr:inRangeF ps c=true):∀p,p<ps.length->cAt c p<=cAt (closeF ps c) p:=by
 refine miss_ind hv (M:=fun c=>∀p,p<ps.length->cAt c p<=cAt (closeF ps c) p) (fun c hc hr h p hp=>?_) (fun c hc hr x h hm p hp=>?_) c hc hr
 ·rw[closeF_none h];exact Int.le_refl _
 ·rw[closeF_step hv hc hr h]
  refine Int.le_trans ?_ (hm p hp)
  obtain⟨_,_,_,_,q,hq,j,hj,_,_,_,rfl,h1⟩:=miss_inv hv hc h
  rw[Int.toNat_natCast,cAt_nat (show p<(c.set q ((j:Int)+1)).length by rw[List.length_set];omega),List.getElem_set]
  split
  ·rename_i e;subst e;omega
  ·rw[cAt_nat (show p<c.length by omega)];exact Int.le_refl _
theorem closeF_least {ps:List Pr}(hv:validF ps=true){d:List Int}(hd:d.length=ps.length)(hcl:closedF ps d=true){c:List Int}(hc:c.length=ps.length)(hr:inRangeF ps c=true) :
  (∀p,p<ps.length->cAt c p<=cAt d p)->∀p,p<ps.length->cAt (closeF ps c) p<=cAt d p:=by
 refine miss_ind hv (M:=fun c=>(∀p,p<ps.length->cAt c p<=cAt d p)->∀p,p<ps.length->cAt (closeF ps c) p<=cAt d p) (fun c hc hr h hle=>?_) (fun c hc hr x h hm hle=>?_) c hc hr
 ·rw[closeF_none h];exact hle
 ·rw[closeF_step hv hc hr h]
  refine hm fun p hp=>?_
  obtain⟨a,ha,i,hi,q,hq,j,hj,g1,g2,g3,rfl,h1⟩:=miss_inv hv hc h
  rw[Int.toNat_natCast,cAt_nat (show p<(c.set q ((j:Int)+1)).length by rw[List.length_set];omega),List.getElem_set]
  split
  ·rename_i e;subst e
   have:=closed_iff.1 hcl a ha i hi g1 (Int.le_trans g2 (hle a ha))
   rw[g3] at this
   exact this
  ·have:=hle p hp
   rw[cAt_nat (show p<c.length by omega)] at this
   exact this
theorem closeF_closed {ps:List Pr}(hv:validF ps=true){c:List Int}(hc:c.length=ps.length)(hr:inRangeF ps c=true):closedF ps (closeF ps c)=true:=by
 rw[closedF_iff,(closeF_ok hv hc hr).2.2];rfl
theorem ref22_Sent (ps:List Pr)(hs:Sm ps)(hv:validF ps=true)(c:List Int)(hc:c.length=ps.length)(p:Nat)(hp:p<ps.length)(i:Nat)(hi:i<ps[p].evs.length)(hic:(i:Int)<cAt c p) :
  PC prog 177 [aTr ps,aInts c,ai p,ai i] (ab (!badEv ps c (((p:Int),(i:Int)+1),ps[p].evs[i]))):=by
 obtain⟨hl1,hl8⟩:=valid_len hv
 have hl:=hs.procs
 have hel:=hs.evs _ (List.getElem_mem hp)
 have hgp:=getD_map (f:=aPr) hp
 have hge:=getD_map (f:=aEv) hi
 have hbad:badEv ps c (((p:Int),(i:Int)+1),ps[p].evs[i])=(decide (ps[p].evs[i].kind=3) && decide (cAt c (findIn (evIds ps) 2 ps[p].evs[i].msg).1<(findIn (evIds ps) 2 ps[p].evs[i].msg).2)):=by
  simp only[badEv,decide_eq_true (show (i:Int)+1<=cAt c p by omega),Bool.and_true]
 rw[hbad]
 have hfd:=ref12_Find ps hs 2 ps[p].evs[i].msg
 obtain⟨f1,f2⟩:=findIn_proc hl1 2 ps[p].evs[i].msg
 have hgs:=getD_cAt (c:=c) f1 (by omega)
 generalize findIn (evIds ps) 2 ps[p].evs[i].msg=s at *
 refine PE 35 [.tmp 8] [4,9,10] func177 ?_;simp only[go_sem]
 refine W2 hgp hge ?_
 intro b9
 refine Wk ?_
 constructor<;>intro h3
 ·refine Wk ?_
  refine Rq ?_
  rw[decide_eq_false h3];rfl
 ·refine Wk ?_
  refine Sd ?_
  refine Vu hfd ?_
  refine Sd ?_
  intro b10
  refine AWp.seq ?_
  refine AWp.drawn mixed 8 (by kernel_rfl) ?_;simp only[go_sem,hgs]
  refine Sd ?_
  refine Wk ?_
  refine Rq ?_
  rw[decide_eq_true h3,Bool.true_and,<- decide_not]
  congr 2
  simp only[decide_eq_decide];omega
theorem stC_ok {ps:List Pr}{p:Nat}{k:Int}(hp:p<ps.length)(h0:0<=k)(hk:k<=ps[p].evs.length):(stC ps.length p k).length=ps.length/\inRangeF ps (stC ps.length p k)=true:=by
 have hl:(stC ps.length p k).length=ps.length:=by unfold stC;rw[List.length_set,List.length_replicate]
 refine⟨hl,?_⟩
 rw[inRange_iff hl]
 intro q hq
 unfold cAt stC
 rw[Int.toNat_natCast,getD_set0]
 split
 ·rename_i e;obtain⟨rfl,_⟩:=e;omega
 ·rw[List.getD_eq_getElem?_getD,List.getElem?_replicate,if_pos hq]
  exact⟨Int.le_refl 0,by simp⟩
end Go.AL
end
section
namespace Go.AL
open Go Go.RowKit Proofs.Tryz
def aNilR (P:Program)(op:BinOp)(t:TypeId)(x y:AV):Option (Prop × AV) :=
 match x,y,tinfo P t with
 | .sl _ xs,.v (.slice none 0 0),some ⟨.slice _,_,_,_⟩=>match op with
  | .eql=>some (xs ≠ [],ab false)
  | .neq=>some (xs ≠ [],ab true)
  | _=>none
 | _,_,_=>none
def avalR (P:Program)(ρ:Env)(L:AHeap)(op:Op):Option (Prop × AV) :=
 match aval P ρ L op with
 | some z=>some z
 | none=>match op with
  | .binOp b t x y _=>w2 (ev ρ x) (ev ρ y) (aNilR P b t)
  | _=>none
theorem avalR_congr {P:Program}{ρ ρ':Env}{L:AHeap}{op:Op}(h:∀x ∈ op.operands,ev ρ' x=ev ρ x):avalR P ρ' L op=avalR P ρ L op:=by
 unfold avalR
 rw[aval_congr h]
 cases op with
 | binOp b t x y t' =>
  have e1:=h x (by simp [Op.operands])
  have e2:=h y (by simp [Op.operands])
  simp only[e1,e2]
 | _=>rfl
theorem aNilR_sound {C:Cfg}{o:Oper}{ρ:Env}{L:AHeap}{op:BinOp}{t t':TypeId}{x y:Operand}(ho:o.op = .binOp op t x y t')(hd:dstOk C o){c:Prop}{z:AV}(h:w2 (ev ρ x) (ev ρ y) (aNilR C.P op t)=some (c,z))(hc:c) :
  AOp C o ρ L fun ρ' L'=>ρ'=put ρ o.dst z/\L'=L:=by
 obtain⟨h1,h2,c',h3,h4⟩:=w2_inv h hc
 unfold aNilR at h3
 split at h3
 ·rename_i k xs e _ _ _ hx hy hti
  have hu:=tinfo_slice hti
  have main:∀(f:Bool->Bool),((op = .eql/\f=id)\/(op = .neq/\f=not))->xs ≠ []->z=ab (f false)->AOp C o ρ L fun ρ' L'=>ρ'=put ρ o.dst z/\L'=L:=fun f hf hne hz =>
   AOp.of_run (fun c e=>by rw[ho] at e;cases e) fun w0 M A0 a w A ds hs=>by
    have rx:=fo_ok (hs.ev x) h1;rw[hx] at rx
    have ry:=fo_ok (hs.ev y) h2;rw[hy] at ry
    have ry:=ry.inv_v
    have hval:∃a0 n m,a.eval x = .slice a0 n m/\a0.isNone=false:=by
     generalize a.eval x=u at rx
     cases rx with
     | sl0 _ a0 cap hc=>exact absurd rfl hne
     | sl _ _ b off cap=>exact⟨_,_,_,rfl,rfl⟩
    obtain⟨a0,n,m,e,hne⟩:=hval
    refine⟨_,w,?_,.inl ⟨.bool (f a0.isNone),rfl,_,_,⟨by rw[hz],rfl⟩,st_iff.2 ⟨A,ds,hs.put hd (by rw[hne];exact .v _)⟩⟩⟩
    unfold execOp
    rw[ho]
    rcases hf with ⟨rfl,rfl⟩|⟨rfl,rfl⟩
    ·simp [e,ry,eqGuard_slice,binOp,equal_slice_nil hu]
    ·simp [e,ry,eqGuard_slice,binOp,equal_slice_nil hu]
  split at h3
  ·cases h3;exact main id (.inl ⟨rfl,rfl⟩) h4 rfl
  ·cases h3;exact main not (.inr ⟨rfl,rfl⟩) h4 rfl
  ·cases h3
 ·cases h3
theorem avalR_sound {C:Cfg}{o:Oper}{ρ:Env}{L:AHeap}{c:Prop}{x:AV}(hv:avalR C.P ρ L o.op=some (c,x))(hc:c)(hd:dstOk C o)(hdef:∀c,o.op ≠ .defer c):AOp C o ρ L fun ρ' L'=>ρ'=put ρ o.dst x/\L'=L:=by
 unfold avalR at hv
 split at hv
 ·rename_i z hz
  cases hv
  exact aval_sound hz hc hd hdef
 ·split at hv
  ·rename_i ho
   exact aNilR_sound ho hd hv hc
  ·cases hv
def YldL (C:Cfg)(ops:Array Oper)(i:Nat)(o:Oper)(x:AV)(ρ:Env)(L:AHeap):Prop :=
 ∀ρ',(∀t ∈ o.looksAt ops,get ρ' t=get ρ t)->GOp C ops i ρ' L fun ρ2 L2=>ρ2=put ρ' o.dst x/\L2=L
def aqL (C:Cfg)(all:List Oper)(o:Oper)(ρ:Env)(L:AHeap)(K:Env->Prop):Prop :=
 match o.guard with
 | none=>match avalR C.P ρ L o.op with
  | some (c,x)=>c/\K (put ρ o.dst x)
  | none=>match o.op with
   | .call c=>match c.callee with
    | .value g=>GCall C.P True ((fo (ev ρ g)).1/\fos (c.args.toList.map (ev ρ))) (fo (ev ρ g)).2 (c.args.toList.map fun x=>(fo (ev ρ x)).2) L (putQ K ρ o.dst)
    | _=>False
   | _=>False
 | some (j,want)=>match gval all ρ j want with
  | some b=>match avalR C.P ρ L o.op with
   | some (c,x)=>(b=want->c)/\K (put ρ o.dst (.cond (b == want) x))
   | none=>match o.op with
    | .call c=>match c.callee with
     | .value g=>GCall C.P (b=want) ((fo (ev ρ g)).1/\fos (c.args.toList.map (ev ρ))) (fo (ev ρ g)).2 (c.args.toList.map fun x=>(fo (ev ρ x)).2) L (putQC K ρ o.dst (b == want))
     | _=>b ≠ want/\K (put ρ o.dst (.cond (b == want) .any))
    | _=>b ≠ want/\K (put ρ o.dst (.cond (b == want) .any))
  | none=>False
def aqLRun (C:Cfg)(all:List Oper)(L:AHeap):List Nat->(Env->Prop)->Env->Prop
 | [],K,ρ=>K ρ
 | i :: r,K,ρ=>match all[i]? with
  | some o=>aqL C all o ρ L (aqLRun C all L r K)
  | none=>False
section
variable {C:Cfg} {ops:Array Oper} {L:AHeap}
theorem aqL_yields {i:Nat}{o:Oper}{ρ:Env}{K:Env->Prop}(hi:ops[i]?=some o)(hok:operOk C.N o=true)(h:aqL C ops.toList o ρ L K):∃x,YldL C ops i o x ρ L/\K (put ρ o.dst x):=by
 have hd:=operOk_dst hok
 have hdef:=operOk_def hok
 unfold aqL at h
 split at h
 ·rename_i hg
  split at h
  ·rename_i c x hv
   exact⟨x,fun ρ' hag=>AOp.gop hi hg (avalR_sound (by rw[avalR_congr (agree_ops hag)];exact hv) h.1 hd hdef),h.2⟩
  ·split at h
   ·rename_i cl ho
    split at h
    ·rename_i g h0
     obtain⟨r,h1,h2⟩:=h
     refine⟨r,fun ρ' hag=>AOp.gop hi hg ?_,h2⟩
     have hag':=agree_ops hag
     rw[ho] at hag'
     obtain⟨e1,e2,e3⟩:=call_congr h0 hag'
     exact call_sound ho h0 hd (by rw[e1,e2,e3];exact⟨(h1 trivial).1.1,(h1 trivial).1.2,(h1 trivial).2⟩)
    ·exact h.elim
   ·exact h.elim
 ·rename_i j want hg
  split at h
  ·rename_i b hv
   split at h
   ·rename_i c x ha
    refine⟨_,fun ρ' hag=>GOp.of_cond hi hg (by rw[agree_guard hag hg];exact hv) hd fun hb=>avalR_sound (by rw[avalR_congr (agree_ops hag)];exact ha) (h.1 hb) hd hdef,h.2⟩
   ·split at h
    ·rename_i cl ho
     split at h
     ·rename_i g h0
      obtain⟨r,h1,h2⟩:=h
      refine⟨_,fun ρ' hag=>GOp.of_cond hi hg (by rw[agree_guard hag hg];exact hv) hd fun hb=>?_,h2⟩
      have hag':=agree_ops hag
      rw[ho] at hag'
      obtain⟨e1,e2,e3⟩:=call_congr h0 hag'
      exact call_sound ho h0 hd (by rw[e1,e2,e3];exact⟨(h1 hb).1.1,(h1 hb).1.2,(h1 hb).2⟩)
     ·refine⟨_,fun ρ' hag=>GOp.of_cond hi hg (by rw[agree_guard hag hg];exact hv) hd fun hb=>absurd hb h.1,h.2⟩
    ·refine⟨_,fun ρ' hag=>GOp.of_cond hi hg (by rw[agree_guard hag hg];exact hv) hd fun hb=>absurd hb h.1,h.2⟩
  ·exact h.elim
def QFactL (C:Cfg)(ops:Array Oper)(ρ:Env)(L:AHeap)(q:Nat):Prop:=∃o x,ops[q]?=some o/\YldL C ops q o x ρ L/\∀d,o.dst=some d->get ρ d=x
theorem YldL.of_agree {i:Nat}{o:Oper}{x:AV}{ρ ρ':Env}(h:YldL C ops i o x ρ L)(he:∀t ∈ o.looksAt ops,get ρ' t=get ρ t):YldL C ops i o x ρ' L :=
 fun ρ2 hag=>h ρ2 fun t ht=>(hag t ht).trans (he t ht)
theorem aqLRun_facts {qs0:List Nat}(hm:mixOk ops qs0=true)(hok:ops.toList.all (operOk C.N)=true):∀(qs:List Nat) (ρ:Env) (K:Env->Prop),(∀q ∈ qs,q ∈ qs0)->ascend qs=true->aqLRun C ops.toList L qs K ρ ->
  ∃ρq,K ρq/\(∀q ∈ qs,QFactL C ops ρq L q)/\∀s,(∀q ∈ qs,dstOf ops q ≠ some s)->get ρq s=get ρ s
 | [],ρ,K,_,_,h=>⟨ρ,h,fun q hq=>(by cases hq),fun _ _=>rfl⟩
 | i :: r,ρ,K,hsub,hasc,h=>by
  obtain⟨hlt,hasc'⟩:=ascend_cons hasc
  simp only[aqLRun] at h
  cases ho:ops.toList[i]? with
  | none=>rw[ho] at h;exact h.elim
  | some o =>
   rw[ho] at h
   have ho':ops[i]?=some o:=by simpa using ho
   obtain⟨x,hy,hK⟩:=aqL_yields ho' (List.all_eq_true.1 hok o (List.mem_of_getElem? ho)) h
   obtain⟨ρq,h1,h2,h3⟩:=aqLRun_facts hm hok r _ K (fun q hq=>hsub q (List.mem_cons_of_mem _ hq)) hasc' hK
   obtain⟨p1,p2,_⟩:=mix_at hm ho'
   have hself:∀d,o.dst=some d->d ∉ o.looksAt ops:=fun d hd hm'=>by
    have:=(p2 i (hsub i List.mem_cons_self) d (by simp [dstOf,ho',hd])).1 hm'
    exact absurd (p1 i this) (Nat.lt_irrefl i)
   refine⟨ρq,h1,fun q hq=>?_,fun s hs=>?_⟩
   ·rcases List.mem_cons.1 hq with rfl|hq
    ·refine⟨o,x,ho',hy.of_agree fun t ht=>?_,fun d hd=>?_⟩
     ·rw[h3 t fun q' hq' he=>?_,get_put,if_neg fun he=>hself t he ht]
      have:=(p2 q' (hsub q' (List.mem_cons_of_mem _ hq')) t he).1 ht
      have:=p1 q' this;have:=hlt q' hq';omega
     ·rw[h3 d fun q' hq' he=>?_,get_put,if_pos hd]
      exact(p2 q' (hsub q' (List.mem_cons_of_mem _ hq')) d he).2 (by have:=hlt q' hq';omega) hd
    ·exact h2 q hq
   ·rw[h3 s fun q hq=>hs q (List.mem_cons_of_mem _ hq),get_put,if_neg]
    have:=hs i List.mem_cons_self
    simpa [dstOf,ho'] using this
theorem read_sound {qs:List Nat}(hm:mixOk ops qs=true)(hall:∀i,i<ops.size->i ∈ qs){K:ARes}{n:Nat}{w0:World}{M A0:Foot}{Q:Exit->Act->World->Prop}(hQ:∀a w,post w0 M A0 C.N K a w->Q .normal a w){ρT:Env}(hK:K ρT L) :
  ∀(f:Nat) (listed:Array Bool) (a:Act) (w:World),listed.size=ops.size ->
   (∀l:List Nat,l.Nodup->(∀i ∈ l,listed.getD i true=false)->l.length<=f) ->
   (∀q ∈ qs,listed.getD q true=false->QFactL C ops ρT L q)->St w0 M A0 C.N (mask ops qs listed ρT) L a w ->
   wpAnyIn (Fw C.r) n C.P .any ops Q f listed a w:=by
 have fin:∀(listed:Array Bool) (a:Act) (w:World),listed.size=ops.size->St w0 M A0 C.N (mask ops qs listed ρT) L a w->Region.ready .any ops listed=[]->Q .normal a w:=by
  intro listed a w hsz hs hr
  have all:∀i,listed.getD i true=true:=by
   intro i
   induction i using Nat.strongRecOn with
   | _ i ih =>
    cases hi:listed.getD i true with
    | true=>rfl
    | false =>
     exfalso
     have hlt:i<ops.size:=by
      rw[<- hsz]
      by_cases h:i<listed.size
      ·exact h
      ·simp [Array.getD,h] at hi
     have ho:ops[i]?=some ops[i]:=Array.getElem?_eq_getElem hlt
     have:i ∈ Region.ready .any ops listed:=mem_ready.2 ⟨hi,_,ho,fun e he hb=>by
      have hp:=(mix_at hm ho).1 e.on (List.mem_map.2 ⟨e,List.mem_filter.2 ⟨by simpa using he,hb⟩,rfl⟩)
      exact getD_ft (by omega) (ih _ hp)⟩
     rw[hr] at this;cases this
  refine hQ a w ⟨ρT,L,hK,st_forget hs fun i=>.inr ?_⟩
  rw[mask_out fun q _ hl=>by rw[all q] at hl;cases hl]
 intro f
 induction f with
 | zero =>
  intro listed a w hsz hcnt hfact hs
  have hr:Region.ready .any ops listed=[]:=by
   cases hh:Region.ready .any ops listed with
   | nil=>rfl
   | cons j r =>
    have hj:j ∈ Region.ready .any ops listed:=by rw[hh];exact List.mem_cons_self
    have:=hcnt [j] (by simp) (fun i hi=>by simp at hi;subst hi;exact(mem_ready.1 hj).1)
    simp at this
  exact⟨hr,fin listed a w hsz hs hr⟩
 | succ f ih =>
  intro listed a w hsz hcnt hfact hs
  refine⟨fin listed a w hsz hs,fun i hi=>?_⟩
  obtain⟨hun,o,ho,hpre⟩:=mem_ready.1 hi
  have hlt:i<ops.size:=(Array.getElem?_eq_some_iff.1 ho).1
  obtain⟨m1,m2,m3⟩:=mix_at hm ho
  have hlooks:∀t ∈ o.looksAt ops,get (mask ops qs listed ρT) t=get ρT t:=fun t ht=>mask_out fun q hq hl hd=>by
   have hp:=(m2 q hq t hd).1 ht
   obtain⟨e,he,rfl⟩:=List.mem_map.1 hp
   obtain⟨he1,he2⟩:=List.mem_filter.1 he
   have:=getD_tf (hpre e (by simpa using he1) he2)
   rw[hl] at this;cases this
  have hcnt':∀l:List Nat,l.Nodup->(∀j ∈ l,(listed.setIfInBounds i true).getD j true=false)->l.length<=f:=fun l hn hl=>by
   have hil:i ∉ l:=fun h=>by
    have:=hl i h
    simp [Array.getD,show i<listed.size by omega] at this
   have:=hcnt (i :: l) (List.nodup_cons.2 ⟨hil,hn⟩) (fun j hj=>by
    rcases List.mem_cons.1 hj with rfl|hj
    ·exact hun
    ·have:=hl j hj
     have hne:i ≠ j:=fun e=>hil (e ▸ hj)
     rwa [getD_set_ne true hne] at this)
   simp at this;omega
  have hset:∀j,j ≠ i->(listed.setIfInBounds i true).getD j true=listed.getD j true:=fun j hj=>getD_set_ne true (Ne.symm hj)
  have hq:=hall i hlt
  obtain⟨o',x,ho',hy,hgx⟩:=hfact i hq hun
  rw[ho] at ho';cases ho'
  refine wpOpIn_mono ?_ (hy _ hlooks n w0 M A0 a w Q hs)
  rintro a' w' ⟨ρ2,L2,⟨rfl,rfl⟩,hs2⟩
  refine ih _ a' w' (by simpa using hsz) hcnt' (fun q hq' hl=>hfact q hq' (by
   by_cases e:q=i
   ·subst e;exact hun
   ·rwa [hset q e] at hl)) (st_forget hs2 fun s=>?_)
  rcases mask_or (ops:=ops) qs (listed.setIfInBounds i true) ρT s with ⟨h1,_⟩|⟨h1,h2⟩
  ·exact .inl h1
  ·refine .inr ?_
   rw[h1,get_put]
   by_cases hd:o.dst=some s
   ·rw[if_pos hd];exact hgx s hd
   ·rw[if_neg hd,mask_out fun q hq' hl hds=>?_]
    by_cases e:q=i
    ·subst e;exact hd (by simpa [dstOf,ho] using hds)
    ·exact h2 q hq' (by rw[hset q e];exact hl) hds
end
def readAll (ops:Array Oper)(qs:List Nat):Bool:=mixOk ops qs && (List.range ops.size).all fun i=>qs.contains i
def readK (K:ARes)(L:AHeap)(ρ:Env):Prop:=K ρ L
theorem AWp.read {C:Cfg}{id:Nat}{ops:Array Oper}{Q:AQ}{ρ:Env}{L:AHeap}(hmx:C.P.follows .mixedOrders=true)(qs:List Nat)(hT:readAll ops qs=true)(h:aqLRun C ops.toList L qs (readK (Q .normal) L) ρ) :
  AWp C (.region id ops true) Q ρ L:=fun hok n w0 M A0 a w hs=>by
 simp only[readAll,Bool.and_eq_true,List.all_eq_true,List.contains_eq_mem,decide_eq_true_eq] at hT
 obtain⟨hm,hal⟩:=hT
 have hasc:=mix_asc hm
 obtain⟨ρq,hK,hF,hother⟩:=aqLRun_facts hm hok qs ρ _ (fun _ h=>h) hasc.1 h
 refine wpIn_region_any hmx ?_
 obtain⟨A,ds,hs'⟩:=st_iff.1 hs
 refine read_sound hm (fun i hi=>hal i (List.mem_range.2 hi)) (K:=Q .normal) (fun a w ⟨ρ',L',h1,h2⟩=>⟨ρ',L',h1,h2⟩) hK ops.size _ a _ (by simp) ?_ (fun q hq _=>hF q hq) (st_forget (st_iff.2 ⟨A,ds,hs'.drew⟩) fun s=>?_)
 ·intro l hn hl
  have:=List.Nodup.length_le_of_subset hn (l₂:=List.range ops.size) (fun i hi=>by
   have:=hl i hi
   rw[List.mem_range]
   by_cases h:i<ops.size
   ·exact h
   ·simp [Array.getD,h] at this)
  simpa using this
 ·rcases mask_or (ops:=ops) qs (Array.replicate ops.size false) ρq s with ⟨h1,_⟩|⟨h1,h2⟩
  ·exact .inl h1
  ·refine .inr ?_
   rw[h1]
   exact hother s fun q hq hd=>h2 q hq (by simp [Array.getD,hasc.2 q hq]) hd
theorem aqLRun_nil (C:Cfg)(all:List Oper)(L:AHeap)(K:Env->Prop)(ρ:Env):aqLRun C all L [] K ρ=K ρ:=rfl
theorem aqLRun_cons (C:Cfg)(all:List Oper)(L:AHeap)(i:Nat)(r:List Nat)(K:Env->Prop)(ρ:Env):aqLRun C all L (i :: r) K ρ=(match all[i]? with|some o=>aqL C all o ρ L (aqLRun C all L r K)|none=>False):=rfl
attribute [go_sem] aqLRun_nil aqLRun_cons aqL readK avalR aNilR
end Go.AL
end
section
namespace Go.AL
open Go Go.RowKit Go.ChangeShapes Go.WideShapes Go.ChangeAt Proofs.Tryz
theorem Fr.below {W W':World}(h:Fr W (keysOf []) W'):Below W.heap.size W W':=⟨h.os,h.tape,h.output,h.size,fun k hk=>h.block k hk (by rintro⟨x,hx,_⟩;cases hx)⟩
theorem LRel.empty (W:World)(hg:∀g x,GV g=some x->Rel W (fun b=>b<W.heap.size) x (.pointer (some ⟨g,0,none⟩))):LRel W (fun b=>b<W.heap.size) []:=⟨fun _ h=>h,(by intro x hx;cases hx),List.nodup_nil,(by intro x hx;cases hx),hg⟩
theorem PC.calls {P:Program}{f:FuncId}{args:List AV}{x:Value}(h:PC P f args (.v x)){W:World}{vs:List Value}(hg:∀g x,GV g=some x->Rel W (fun b=>b<W.heap.size) x (.pointer (some ⟨g,0,none⟩)))(hr:Rels W (fun b=>b<W.heap.size) args vs) :
  Calls P f vs.toArray W fun e W'=>e = .returned x/\Below W.heap.size W W' :=
 ((h.2 0 W _ vs (LRel.empty W hg) hr).calls (fun _ d hd=>by cases hd)).mono fun e W' ⟨v,r,L',A',he,⟨hr,_⟩,hf,_,_,_,hv⟩=>by
  subst he hr
  cases hv
  exact⟨rfl,hf.below⟩
def Rd {H:Type}(enc:TypeId × Value->H)(P:Program)(W:World)(t:TypeId)(k:Nat){α:Type}(E:α->AV)(ok:α->Prop):Prop :=
 ∀fuel cs x,DataW.trod enc P W 0 (fun _=>true) true fuel t cs=some x->∃y,ok y/\elOk k (E y)/\cs.length=k/\∀(i:Nat) c u,(E y).cells[i]?=some c->cs[i]?=some u->Rel W (fun b=>b<W.heap.size) c u
section
variable {H:Type} {enc:TypeId × Value->H} {P:Program} {W:World} {t:TypeId}
theorem Rd.int (ht:P.underlying t=some (.int .i64)):Rd enc P W t 1 ai (fun n=>(Lit.int .i64 n).wf=true):=by
 intro fuel cs x h
 obtain⟨n,rfl,_,hw⟩:=DataW.trod_int ht h
 refine⟨n,hw,⟨rfl,rfl⟩,rfl,fun i c u h1 h2=>?_⟩
 cases i with
 | zero=>cases h1;cases h2;exact .v _
 | succ i=>cases h2
theorem Rd.str (ht:P.underlying t=some .string):Rd enc P W t 1 (fun s=>.v (.string s)) (fun _=>True):=by
 intro fuel cs x h
 obtain⟨s,rfl,_,hw⟩:=DataW.trod_string ht h
 refine⟨s,trivial,⟨rfl,rfl⟩,rfl,fun i c u h1 h2=>?_⟩
 cases i with
 | zero=>cases h1;cases h2;exact .v _
 | succ i=>cases h2
theorem ofFin {α:Type}{len:Nat}{Q:Nat->α->Prop}(h:∀i,i<len->∃y,Q i y):∃l:List α,l.length=len/\∀(i:Nat) (hi:i<l.length),Q i l[i]:=by
 refine⟨List.ofFn fun i:Fin len=>Classical.choose (h i i.2),List.length_ofFn,fun i hi=>?_⟩
 rw[List.getElem_ofFn]
 exact Classical.choose_spec (h i (by simpa using hi))
theorem add_none (b off n:Nat):(⟨b,off,none⟩:Addr).add n=⟨b,off+n,none⟩:=by
 unfold Addr.add;split
 ·rename_i h;rw[h];rfl
 ·rfl
theorem Rd.slice {α:Type}{E:α->AV}{ok:α->Prop}{e:TypeId}{k:Nat}(ht:P.underlying t=some (.slice e))(hk:P.cellsOf e=k)(h0:0<k)(he:Rd enc P W e k E ok) :
  Rd enc P W t 1 (fun l:List α=>.sl k (l.map E)) (fun l=>l.length<=maxLen/\∀y ∈ l,ok y):=by
 intro fuel cs x h
 rcases DataW.trod_slice ht h with ⟨rfl,_⟩|⟨a,len,cap,elems,rest,n,_,rfl,_,_,hl,hm,hlen,hel,_,_⟩
 ·refine⟨[],⟨by simp,by simp⟩,⟨rfl,rfl⟩,rfl,fun i c u h1 h2=>?_⟩
  cases i with
  | zero=>cases h1;cases h2;exact .sl0 k none 0 (by simp)
  | succ i=>cases h2
 ·rw[hk] at hel
  obtain⟨l,hll,hli⟩:=ofFin (len:=len) (Q:=fun i y=>∃cs:List Value,ok y/\elOk k (E y)/\cs.length=k/\(∀m,m<k->W.cell? ((a.add (i * k)).add m)=cs[m]?)/\∀(m:Nat) c u,(E y).cells[m]?=some c->cs[m]?=some u->Rel W (fun b=>b<W.heap.size) c u) fun i hi=>by
   have h1:=hel i hi
   rw[List.getElem?_eq_getElem (by omega),Option.bind_eq_some_iff] at h1
   obtain⟨cs,hc,ht⟩:=h1
   obtain⟨y,k1,k2,k3,k4⟩:=he _ _ _ ht
   exact⟨y,cs,k1,k2,k3,(World.cells?_some hc).2.2,k4⟩
  refine⟨l,⟨by omega,fun y hy=>?_⟩,⟨rfl,rfl⟩,rfl,fun i c u h1 h2=>?_⟩
  ·obtain⟨i,hi,rfl⟩:=List.getElem_of_mem hy
   obtain⟨_,h,_⟩:=hli i (by omega);exact h
  ·cases i with
   | succ i=>cases h2
   | zero =>
    cases h1;cases h2
    by_cases hz:len=0
    ·subst hz
     rw[List.length_eq_zero_iff.1 hll]
     exact .sl0 k _ cap hm
    ·obtain⟨b,off,spot⟩:=a
     obtain⟨cs0,_,_,c3,c4,_⟩:=hli 0 (by omega)
     have hs:spot=none:=by
      have:=c4 0 h0
      have e0:∀a:Addr,a.add 0=a:=fun _=>rfl
      rw[Nat.zero_mul,e0,e0,List.getElem?_eq_getElem (by omega)] at this
      cases spot with
      | none=>rfl
      | some s =>
       exfalso
       unfold World.cell? at this
       split at this
       ·rw[if_pos (show (some s).isSome=true from rfl)] at this;cases this
       ·cases this
     subst hs
     have cell:∀(i:Nat) (hi:i<len) (m:Nat),m<k->∃u,W.cell? ⟨b,off+(i * k+m),none⟩=some u/\∀c,(E (l[i]'(by omega))).cells[m]?=some c->Rel W (fun b=>b<W.heap.size) c u:=fun i hi m hm=>by
      obtain⟨cs,_,_,c3,c4,c5⟩:=hli i (by omega)
      have:=c4 m hm
      rw[add_none,add_none,Nat.add_assoc,List.getElem?_eq_getElem (by omega)] at this
      exact⟨_,this,fun c hc=>c5 m c _ hc (List.getElem?_eq_getElem (by omega))⟩
     have hA:b<W.heap.size:=by
      obtain⟨u,hu,_⟩:=cell 0 (by omega) 0 h0
      unfold World.cell? at hu
      cases hb:W.heap[b]? with
      | none=>simp [hb] at hu
      | some o=>exact(Array.getElem?_eq_some_iff.1 hb).1
     have:=Rel.sl (w:=W) (A:=fun b=>b<W.heap.size) k (l.map E) b off cap (fun j=>(W.cell? ⟨b,off+j,none⟩).getD undef) hA (by rw[List.length_map];omega) hm
      (fun x hx=>by
       obtain⟨y,hy,rfl⟩:=List.mem_map.1 hx
       obtain⟨i,hi,rfl⟩:=List.getElem_of_mem hy
       obtain⟨cs,_,c2,_⟩:=hli i (by omega)
       exact c2)
      (fun j hj=>by
       rw[List.length_map,hll] at hj
       have h1:j / k<len:=(Nat.div_lt_iff_lt_mul h0).2 hj
       obtain⟨u,hu,_⟩:=cell (j / k) h1 (j % k) (Nat.mod_lt _ h0)
       have e:j / k * k+j % k=j:=Nat.div_add_mod' j k
       rw[e] at hu
       rw[hu];rfl)
      (fun i x j y hx hy=>by
       rw[List.getElem?_map,Option.map_eq_some_iff] at hx
       obtain⟨z,hz,rfl⟩:=hx
       obtain⟨hi,rfl⟩:=List.getElem?_eq_some_iff.1 hz
       obtain⟨cs,_,c2,_⟩:=hli i (by omega)
       have hj:j<k:=by have:=(List.getElem?_eq_some_iff.1 hy).1;have:=c2.1;omega
       obtain⟨u,hu,hr⟩:=cell i (by omega) j hj
       rw[hu]
       exact hr _ hy)
     rw[List.length_map,hll] at this
     exact this
theorem trodAll_stays {W':World}(hl:laidOutB P=true)(hb:Below W.heap.size W W'):∀ {ts:List TypeId} {vs:List Value} {ds:List (DataW H)} {ps:List MemPlace},(∀t ∈ ts,P.readableRec t=true/\t<P.types.size)->DataW.TrodAll enc P W 0 (fun _=>true) true ts vs ds ps ->
  DataW.TrodAll enc P W' 0 (fun b=>decide (b<W.heap.size)) true ts vs ds ps
 | [],_,_,_,_,h=>by
  obtain⟨rfl,rfl,rfl⟩:=trodAll_nil h
  rfl
 | t :: ts,_,_,_,ht,h=>by
  have hlt:=h.lt
  obtain⟨v,vs1,d,ds1,a,b,rfl,rfl,rfl,h1,h2⟩:=trodAll_cons h
  exact⟨a,b,Below.trod hl (ht t List.mem_cons_self).1 (ht t List.mem_cons_self).2 h1 hb (fun x hx=>hlt x (List.mem_append_left _ hx)),trodAll_stays hl hb (fun t' ht'=>ht t' (List.mem_cons_of_mem _ ht')) h2,rfl⟩
theorem post_true {f:Func}{s:ChangeSpec}{fresh handsOn:Bool}{W':World}{args:Array Value}{ds:List (DataW H)}{before:List MemPlace}{tb:TypeId}(hl:laidOutB P=true)
  (hW:DataW.Whole enc P f.params.toList s.vars false W args.toList ds [] before) (hv:s.vars=[]) (hs:s.fn H (ds ++ []) = { results:=[.lit (.bool true)],args:=ds })
  (hr:f.resultTypes = #[tb]) (ht:P.underlying tb=some .bool) (hp:∀t ∈ f.params.toList,P.readableRec t=true/\t<P.types.size) (hb:Below W.heap.size W W') :
  s.post enc P f false fresh handsOn false W args (.bool true) W':=by
 have hW0:=hW
 obtain⟨p,q,hA,hV,rfl,_,_⟩:=hW0
 refine⟨ds,[],p ++ q,[],p,[],hW,?_,?_,?_,hb.frame _,fun h=>by cases h⟩
 ·rw[hs,hr]
  exact⟨[],[],⟨1,by simp [DataW.trod,Value.cells,ht]⟩,rfl,rfl⟩
 ·rw[hs]
  exact trodAll_stays hl hb hp hA
 ·rw[hs,hv];rfl
end
end Go.AL
end
section
namespace Go.AL
open Go Go.RowKit Go.ChangeShapes Go.WideShapes Go.ChangeAt Proofs.Tryz
section
variable {H:Type} {enc:TypeId × Value->H} {P:Program} {W:World} {t:TypeId}
theorem Rd.map {α β:Type}{k:Nat}{E:α->AV}{E':β->AV}{ok:α->Prop}{ok':β->Prop}(f:α->β)(hE:∀y,E y=E' (f y))(hok:∀y,ok y->ok' (f y))(h:Rd enc P W t k E ok):Rd enc P W t k E' ok':=by
 intro fuel cs x hx
 obtain⟨y,k1,k2,k3,k4⟩:=h fuel cs x hx
 exact⟨f y,hok y k1,by rw[<- hE];exact k2,k3,by rw[<- hE];exact k4⟩
def RdL (enc:TypeId × Value->H)(P:Program)(W:World)(ts:List TypeId){α:Type}(E:α->List AV)(ok:α->Prop):Prop :=
 ∀(n:Nat) (cs:List Value) (xs:List (DataW H × List MemPlace)),xs.length=ts.length->cs.length=ts.length ->
  (∀(i:Nat) t,ts[i]?=some t->DataW.trod enc P W 0 (fun _=>true) true n t ((cs.drop i).take 1)=xs[i]?) ->
  ∃y,ok y/\(E y).length=ts.length/\(E y).all one=true/\∀(i:Nat) c u,(E y)[i]?=some c->cs[i]?=some u->Rel W (fun b=>b<W.heap.size) c u
theorem RdL.nil:RdL enc P W [] (fun _:Unit=>[]) (fun _=>True):=by
 intro n cs xs _ _ _
 exact⟨(),trivial,rfl,rfl,fun i c u h=>by simp at h⟩
theorem RdL.cons {α β:Type}{E:α->AV}{ok:α->Prop}{ts:List TypeId}{F:β->List AV}{ok':β->Prop}(h:Rd enc P W t 1 E ok)(h1:∀y,one (E y)=true/\(E y).cells=[E y])(hs:RdL enc P W ts F ok') :
  RdL enc P W (t :: ts) (fun y:α × β=>E y.1 :: F y.2) (fun y=>ok y.1/\ok' y.2):=by
 intro n cs xs hx hc hi
 match xs,cs,hx,hc with
 | x :: xs,u :: cs,hx,hc =>
  have h0:=hi 0 t rfl
  simp only[List.drop_zero,List.take_succ_cons,List.take_zero,List.getElem?_cons_zero] at h0
  obtain⟨y,k1,_,_,k4⟩:=h _ _ _ h0
  obtain⟨z,g1,g2,g3,g4⟩:=hs n cs xs (by simpa using hx) (by simpa using hc) fun i t' ht=>by
   have:=hi (i+1) t' (by simpa using ht)
   simpa using this
  refine⟨(y,z),⟨k1,g1⟩,by simp [g2],by simp [g3,(h1 y).1],fun i c u' hcc hu=>?_⟩
  cases i with
  | zero=>cases hcc;cases hu;exact k4 0 _ _ (by rw[(h1 y).2];rfl) rfl
  | succ i=>exact g4 i c u' (by simpa using hcc) (by simpa using hu)
theorem Rd.struct {fs:Array Field}{α:Type}{ts:List TypeId}{F:α->List AV}{ok:α->Prop}(ht:P.underlying t=some (.struct fs))(hts:fs.toList.map (·.type)=ts)(hof:fs.toList.map (·.offset)=List.range ts.length)(hk:P.cellsOf t=ts.length)
  (hc:(ts.all fun t=>P.cellsOf t == 1)=true) (h:RdL enc P W ts F ok):Rd enc P W t ts.length (fun y=>.agg (F y)) ok:=by
 intro fuel cs x hx
 obtain⟨xs,n,_,_,hl,hlen,hf⟩:=DataW.trod_struct ht hx
 have hfl:fs.size=ts.length:=by rw[<- hts];simp
 obtain⟨y,k1,k2,k3,k4⟩:=h n cs xs (by omega) (by omega) fun i t' ht'=>by
  have hi:i<ts.length:=(List.getElem?_eq_some_iff.1 ht').1
  have hg:fs[i]?=some fs[i]:=Array.getElem?_eq_getElem (by omega)
  have e1:(fs[i]).type=t':=by
   rw[<- hts,List.getElem?_map,Array.getElem?_toList,hg] at ht'
   exact Option.some.inj ht'
  have e2:(fs[i]).offset=i:=by
   have:(fs.toList.map (·.offset))[i]?=some i:=by rw[hof,List.getElem?_range hi]
   rw[List.getElem?_map,Array.getElem?_toList,hg] at this
   exact Option.some.inj this
  have:=hf i _ hg
  have hct:P.cellsOf t'=1:=by
   have:=List.all_eq_true.1 hc _ (List.mem_of_getElem? ht')
   simpa using this
  rw[e1,e2,hct] at this
  exact this
 exact⟨y,k1,⟨k2,k3⟩,by omega,k4⟩
theorem Rd.agg {α:Type}{k:Nat}{E:α->AV}{F:α->List AV}{ok:α->Prop}(hE:∀y,E y = .agg (F y))(h:Rd enc P W t k E ok){v:Value}{d:DataW H}{ps:List MemPlace}(ha:∃us,v = .agg us)
  (hd:DataW.Trod enc P W 0 (fun _=>true) true t v d ps):∃y,ok y/\Rel W (fun b=>b<W.heap.size) (E y) v:=by
 obtain⟨us,rfl⟩:=ha
 obtain⟨fuel,hf⟩:=hd
 obtain⟨y,k1,k2,k3,k4⟩:=h _ _ _ hf
 refine⟨y,k1,?_⟩
 have e1:(E y).cells=F y:=by rw[hE];rfl
 have e2:(Value.agg us).cells.toList=us.toList:=rfl
 have k5:=k2.1
 rw[e1] at k4 k5
 rw[e2] at k3 k4
 rw[hE]
 refine .agg _ _ ?_ fun i c u h1 h2=>k4 i c u h1 (by simpa using h2)
 rw[k5,<- k3];simp
theorem okWide_agg {r:Go.Reach}{b:Nat}{fs:Array Field}{v:Value}(ht:P.underlying t=some (.struct fs))(h:Value.okWide P W r b t v):∃us,v = .agg us:=by
 unfold Value.okWide at h
 rw[ht] at h
 obtain⟨cs,h1,_⟩:=h
 exact⟨cs,h1⟩
theorem Rd.one {α:Type}{E:α->AV}{ok:α->Prop}(h:Rd enc P W t 1 E ok)(h1:∀y,(E y).cells=[E y]){v:Value}{d:DataW H}{ps:List MemPlace}(hc:v.cells = #[v])
  (hd:DataW.Trod enc P W 0 (fun _=>true) true t v d ps):∃y,ok y/\Rel W (fun b=>b<W.heap.size) (E y) v:=by
 obtain⟨fuel,hf⟩:=hd
 rw[hc] at hf
 obtain⟨y,k1,_,_,k4⟩:=h _ _ _ hf
 exact⟨y,k1,k4 0 _ _ (by rw[h1];rfl) rfl⟩
theorem okWide_cells {r:Go.Reach}{b:Nat}{e:TypeId}{v:Value}(ht:P.underlying t=some (.slice e))(h:Value.okWide P W r b t v):v.cells = #[v]:=by
 cases v with
 | agg cs =>
  exfalso
  simp only[Value.okWide,ht,Cell.okWide,Cell.ok] at h
 | _=>rfl
end
end Go.AL
end
