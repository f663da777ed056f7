/- Texts of this claim's proof: WZ11, WZ14, WZ15. No condition. -/
import Derived.Test.YtbegiibjiidkmaaGreatDoorM30
import Derived.Test.YtbegiibjiidkmaaGreatDoorM27
import Derived.Test.YtbegiibjiidkmaaGreatDoorM17
import Derived.Test.YtbegiibjiidkmaaGreatDoorM16
section
namespace Go.AL
open Go Go.RowKit Proofs.Tryz
set_option maxRecDepth 4000
theorem evaluate_TableH {ps:List Pr}{t:Pd}{xs ys:List AV}{e:Int}(h:PC prog 69 [aTr ps,aPd t] (.tup [.sl 1 xs,.sl 1 ys,ai e])):PC prog 32 [aTr ps,aPd t] (.tup [.sl 1 ys,ai e]):=by
 obtain⟨k,n,p,q,s,l⟩:=t
 simp only[aPd_mk] at h ⊢
 refine PE 18 [.tmp 4,.tmp 5] [2,3] func32 ?_;simp only[go_sem]
 refine Wk ?_
 refine Sd ?_
 refine Vu h ?_
 refine Wk ?_
 exact Rz
theorem control_CheckS (c:List Int)(s:Syn)(h1:0<=s.1.1/\s.1.1<c.length)(h2:0<=s.2.1/\s.2.1<c.length):PC prog 36 [aSyn s,.rp 1 [.sl 1 (c.map ai)] 0 0] (ab (brkB c s)):=by
 obtain⟨⟨a,i⟩,b,j⟩:=s
 have h1:0<=a/\a<c.length:=h1
 have h2:0<=b/\b<c.length:=h2
 have ga:(c.map ai).getD a.toNat .any=ai (cAt c a.toNat):=by rw[getD_map (by omega),cAt_nat (by omega)]
 have gb:(c.map ai).getD b.toNat .any=ai (cAt c b.toNat):=by rw[getD_map (by omega),cAt_nat (by omega)]
 have hB:brkB c ((a,i),b,j)=(decide (j<=cAt c b.toNat) && decide (cAt c a.toNat<i)):=rfl
 have hcl:(c.map ai).length=c.length:=List.length_map _
 have es:aSyn ((a,i),b,j) = .agg [ai a,ai i,ai b,ai j]:=rfl
 rw[hB,es]
 generalize cAt c a.toNat=x at *
 generalize cAt c b.toNat=y at *
 generalize c.map ai=cc at *
 refine PE 26 [.tmp 3] [2] func36 ?_;simp only[go_sem]
 refine Wk ?_
 refine Sq ?_
 refine AWp.read mixed [0,1,2,3,4,5,6,7,8,9,10,11,12,13,14,15,16,17,18,19,20,21,22] (by kernel_rfl) ?_;simp only[go_sem,ga,gb,hcl]
 refine Sd ?_
 refine Wk ?_
 exact Rz
def chkX (l:List Syn)(cs:List (List Int))(ks:List Bool):Bool:=(List.range cs.length).all fun i=>(l.any fun s=>brkB (cs.getD i []) s) || ks.getD i false
set_option maxHeartbeats 1000000 in
theorem control_CheckH (ps:List Pr)(hs:Sm ps)(hv:validF ps=true)(h5:(cutsF ps).length<=5000)(t:Pd)(ks:List Bool)(hk:ks.length=(cutsF ps).length)(l:List Syn)(hll:l.length<=1000000)
  (hT:PC prog 32 [aTr ps,aPd t] (.tup [.sl 1 (ks.map ab),ai 0])) :
  PC prog 11 [aTr ps,aPd t,.sl 4 (l.map aSyn)] (.tup [ab (decide (syE ps l=0) && chkX l (cutsF ps) ks),ai (syE ps l)]):=by
 have h1:=control_check ps hs l hll
 unfold aChk at h1
 rw[if_neg (by rw[hv];decide)] at h1
 by_cases hE:syE ps l=0
 ·rw[if_pos hE] at h1
  obtain⟨_,hok,_⟩:=syE_zero hE
  have hL0:lstE ps=0:=lst_zero.2 ⟨hv,h5⟩
  have hcl:=cuts_List ps hs
  have haL:aLst ps = .tup [.sl 1 ((cutsF ps).map aInts),ai 0]:=by unfold aLst lstF;rw[if_pos hL0,hL0];rfl
  rw[haL] at hcl
  obtain⟨X,hX⟩:∃X,aOrd ps (exF ps l) true = .rp 3 X 0 0:=⟨_,rfl⟩
  rw[hX] at h1
  have hcm:((cutsF ps).map aInts).length=(cutsF ps).length:=List.length_map _
  have hkm:(ks.map ab).length=(cutsF ps).length:=by rw[List.length_map,hk]
  have hgC:∀k (h:k<(cutsF ps).length),((cutsF ps).map aInts).getD k .any = .sl 1 ((cutsF ps)[k].map ai):=fun k h=>getD_map h
  have hgK:∀k (h:k<(cutsF ps).length),(ks.map ab).getD k .any=ab (ks.getD k false):=fun k h=>by
   rw[getD_map (by omega),List.getD_eq_getElem?_getD,List.getElem?_eq_getElem (by omega)];rfl
  have hcf:∀k (h:k<(cutsF ps).length),PC prog 35 [.sl 4 (l.map aSyn),.clo 36 [.rp 1 [.sl 1 ((cutsF ps)[k].map ai)] 0 0]] (ab (l.any fun s=>brkB (cutsF ps)[k] s)):=fun k h=>by
   have hlc:(cutsF ps)[k].length=ps.length:=(isF_iff.1 ((mem_cutsF hv).1 (List.getElem_mem h))).1
   exact syns_containsFunc l hll _ rfl (fun s=>brkB (cutsF ps)[k] s) fun s hs'=>by
    obtain⟨⟨a1,a2,_,_⟩,b1,b2,_,_⟩:=hok s hs'
    exact(control_CheckS (cutsF ps)[k] s ⟨a1,by omega⟩ ⟨b1,by omega⟩).clo
  have hchk:chkX l (cutsF ps) ks=(List.range (cutsF ps).length).all fun i=>(l.any fun s=>brkB ((cutsF ps).getD i []) s) || ks.getD i false:=rfl
  have hgd:∀k (h:k<(cutsF ps).length),(cutsF ps).getD k []=(cutsF ps)[k]:=fun k h=>by
   rw[List.getD_eq_getElem?_getD,List.getElem?_eq_getElem h];rfl
  rw[decide_eq_true hE,Bool.true_and,hE]
  generalize chkX l (cutsF ps) ks=B at *
  generalize (cutsF ps).map aInts=CC at *
  generalize cutsF ps=cs at *
  generalize ks.map ab=KK at *
  obtain⟨k0,n0,p0,q0,s0,l0⟩:=t
  simp only[aPd_mk] at hT ⊢
  generalize l.map aSyn=SL at *
  refine PE 62 [.tmp 6,.tmp 7] [3,4,14] func11 ?_;simp only[go_sem]
  refine Wk ?_
  refine Sd ?_
  refine Vu hT ?_
  refine Wk ?_
  refine Sd ?_
  refine Vu h1 ?_
  refine Wk ?_
  refine Sd ?_
  refine Vu hcl ?_
  refine W1 hcm ?_
  refine AWp.range' cs.length [] [2,8,42,43] (fun i vs L=>vs=[]/\L=[]/\∀j,j<i->(l.any fun s=>brkB (cs.getD j []) s)=true\/ks.getD j false=true) (by omega) rfl rfl rfl ⟨rfl,rfl,fun j h=>by omega⟩ ?_ ?_
  ·rintro i vs L hi - ⟨rfl,rfl,hI⟩
   have hg:=hgC i hi
   have hgk:=hgK i hi
   have hc:=hcf i hi
   have hgi:=hgd i hi
   have hno:(l.any fun s=>brkB cs[i] s)=false->ks.getD i false=false->B=false:=fun h g=>by
    rw[hchk,List.all_eq_false]
    exact⟨i,List.mem_range.2 hi,by rw[hgi,h,g];decide⟩
   have hye:((l.any fun s=>brkB cs[i] s) || ks.getD i false)=true->∀j,j<i+1->(l.any fun s=>brkB (cs.getD j []) s)=true\/ks.getD j false=true:=fun h j hj=>by
    by_cases e:j=i
    ·subst e;rw[hgi,<- Bool.or_eq_true];exact h
    ·exact hI j (by omega)
   generalize (l.any fun s=>brkB cs[i] s)=x at *
   generalize ks.getD i false=y at *
   generalize cs[i].map ai=cc at *
   simp only[go_sem]
   refine W1 hg ?_
   intros
   refine W1 hg ?_
   refine Sd ?_
   refine Vu hc ?_
   cases x with
   | true =>
    refine W2 hgk hkm ?_
    exact⟨_,.refl _,rfl,hye rfl⟩
   | false =>
    cases y with
    | true =>
     refine W2 hgk hkm ?_
     exact⟨_,.refl _,rfl,hye rfl⟩
    | false =>
     rw[hno rfl rfl]
     refine W2 hgk hkm ?_
     exact Rz
  ·rintro vs L - ⟨rfl,rfl,hI⟩
   have:B=true:=by
    rw[hchk,List.all_eq_true]
    exact fun j hj=>by rw[Bool.or_eq_true];exact hI j (List.mem_range.1 hj)
   rw[this]
   simp only[go_sem]
   refine Wk ?_
   exact Rz
 ·rw[if_neg hE] at h1
  rw[decide_eq_false hE,Bool.false_and]
  generalize syE ps l=E at *
  generalize ks.map ab=KK at *
  obtain⟨k0,n0,p0,q0,s0,l0⟩:=t
  simp only[aPd_mk] at hT ⊢
  generalize l.map aSyn=SL at *
  refine PE 62 [.tmp 6,.tmp 7] [3,4,14] func11 ?_;simp only[go_sem]
  refine Wk ?_
  refine Sd ?_
  refine Vu hT ?_
  refine Wk ?_
  refine Sd ?_
  refine Vu h1 ?_
  refine W1 hE ?_
  exact Rz
theorem ref28_temporal (t:Pd):szF t<=1000000->PC prog 125 [aPd t] (ab (!allB ntmB t)):=by
 induction t using Pd.ind with
 | _ k n p q s l ih =>
 intro hz
 have hsz:szF (.mk k n p q s l)=szL l+1:=by rw[szF]
 have hll:=szL_len l
 have hsp:allB ntmB (.mk k n p q s l)=((!decide (18<=k/\k<=21)) && l.all (allB ntmB)):=by rw[allB_mk];rfl
 by_cases c1:18<=k/\k<=21
 ·rw[decide_eq_true c1,Bool.not_true,Bool.false_and] at hsp
  rw[hsp]
  obtain⟨c1,c2⟩:=c1
  clear hsp ih
  simp only[aPd_mk] at *
  refine PE 25 [.tmp 2] [1] func125 ?_;simp only[go_sem]
  refine W2 c1 c2 ?_
  exact Rz
 ·rw[decide_eq_false c1,Bool.not_false,Bool.true_and] at hsp
  have c3:(decide (18<=k) && decide (k<=21))=false:=by
   rw[Bool.and_eq_false_iff,decide_eq_false_iff_not,decide_eq_false_iff_not];omega
  generalize allB ntmB (.mk k n p q s l)=B at *
  have c4:18<=k->¬k<=21:=fun h h'=>c1 ⟨h,h'⟩
  simp only[aPd_mk] at *
  refine PE 25 [.tmp 2] [1] func125 ?_;simp only[go_sem]
  refine W1 c3 ?_
  refine AWp.block (AWp.count 3 l.length [] [1] (fun i vs L=>L=[]/\∀j (hj:j<l.length),j<i->allB ntmB l[j]=true) rfl rfl ⟨rfl,by omega⟩ ?_)
  rintro i vs L hi - ⟨rfl,hI⟩
  simp only[go_sem]
  refine Wk ?_
  constructor<;>intro h4
  ·have hil:i<l.length:=by omega
   have hgi:=getD_map (f:=aPd) hil
   have hzi:=szL_mem (List.getElem_mem hil)
   have hch:=ih l[i] (List.getElem_mem hil) (by omega)
   have hnx:=all_next hI hil
   have hno:=all_not (f:=allB ntmB) hil
   generalize l[i]=x at *
   generalize allB ntmB x=bx at *
   obtain⟨k2,n2,p2,q2,s2,l2⟩:=x
   simp only[aPd_mk] at hgi hch
   refine W1 hgi ?_
   refine Sd ?_
   refine Vu hch ?_
   cases bx with
   | false =>
    refine Wk ?_
    refine Rq ?_
    rw[hsp,hno rfl];rfl
   | true =>
    refine Wk ?_
    exact⟨_,.refl _,rfl,hnx rfl⟩
  ·have:B=true:=by
    rw[hsp,List.all_eq_true]
    intro x hx
    obtain⟨j,hj,rfl⟩:=List.getElem_of_mem hx
    exact hI j hj (by omega)
   rw[this]
   refine Wk ?_
   exact Rz
theorem ref28_Temporal (t:Pd)(hz:szF t<=1000000):PC prog 76 [aPd t] (ab (formedB t && !allB ntmB t)):=by
 have h1:=ref28_Formed t hz
 have h2:=ref28_temporal t hz
 generalize formedB t=f at *
 generalize (!allB ntmB t)=g at *
 obtain⟨k,n,p,q,s,l⟩:=t
 simp only[aPd_mk] at *
 refine PE 9 [.tmp 2] [1] func76 ?_;simp only[go_sem]
 refine Wk ?_
 refine Sd ?_
 refine Vu h1 ?_
 refine Sd ?_
 refine Gc h2 ?_
 refine Sd ?_
 refine Wk ?_
 exact Rz
theorem ref29_TableE {ps:List Pr}{t:Pd}{e:Int}(he:e ≠ 0)(h1:PC prog 75 [aTr ps,aPd t,ai 2] (ai e)):PC prog 37 [aTr ps,aPd t] (.tup [.sl 1 [],.sl 1 [],ai e]):=by
 obtain⟨k,n,p,q,s,l⟩:=t
 simp only[aPd_mk] at *
 refine PE 45 [.tmp 4,.tmp 5,.tmp 6] [2,3,41] func37 ?_;simp only[go_sem]
 refine Wk ?_
 refine Sd ?_
 refine Vu h1 ?_
 refine W1 he ?_
 refine ret_view [] ?_;simp only[go_sem]
 exact .mkTup (Vws.cons (.nil 1) (Vws.cons (.nil 1) (Vws.refl _)))
theorem ref29_Table (ps:List Pr)(hs:Sm ps)(hv:validF ps=true)(t:Pd)(hz:szF t<=1000000):PC prog 37 [aTr ps,aPd t] (if whE ps t=0 then .tup [.sl 1 ((cutsF ps).map fun c=>ab (truF (cutO ps c (undF ps c)) t)),.sl 1 ((cutsF ps).map aInts),ai 0] else .tup [.sl 1 [],.sl 1 [],ai (whE ps t)]):=by
 have h1:=ref29_Tree ps hs t hz 2
 by_cases hT:treeF ps t 2=0
 ·have hck:checkF ps t=0/\resF t.kind=2:=by
   unfold treeF at hT
   split at hT
   ·rename_i h;exact absurd hT h
   ·rename_i h
    split at hT
    ·cases hT
    ·rename_i h'
     exact⟨by simpa using h,by simpa using h'⟩
  have hfm:=(checkF_zero hck.1).2.1
  have h2:=ref28_Temporal t hz
  rw[hfm,Bool.true_and] at h2
  have h3:=ref23_List ps hs hv
  have hW:whE ps t=if allB ntmB t=false then 15 else lstE ps:=by
   unfold whE
   rw[if_neg (by rw[hck.1];decide),if_neg (by rw[hck.2];decide)]
  have hL:lstE ps=if (cutsF ps).length<=5000 then 0 else 16:=by unfold lstE;rw[if_pos hv]
  have htr:=fun (hE:whE ps t=0) c hc=>ref29_TruthC ps hs t hz hE c hc
  rw[hT] at h1
  cases hn:allB ntmB t with
  | false =>
   rw[hn,if_pos rfl] at hW
   rw[hn] at h2
   rw[if_neg (by rw[hW];decide),hW]
   obtain⟨k,n,p,q,s,l⟩:=t
   simp only[aPd_mk] at *
   refine PE 45 [.tmp 4,.tmp 5,.tmp 6] [2,3,41] func37 ?_;simp only[go_sem]
   refine Wk ?_
   refine Sd ?_
   refine Vu h1 ?_
   refine Wk ?_
   refine Sd ?_
   refine Vu h2 ?_
   refine Wk ?_
   refine ret_view [] ?_;simp only[go_sem]
   exact .mkTup (Vws.cons (.nil 1) (Vws.cons (.nil 1) (Vws.refl _)))
  | true =>
   rw[hn,if_neg (by decide),hL] at hW
   rw[hn] at h2
   by_cases h5:(cutsF ps).length<=5000
   ·rw[if_pos h5] at hW
    rw[if_neg (by omega)] at h3
    have haR:aRows (cutsF ps) = .sl 1 ((cutsF ps).map aInts):=rfl
    rw[haR] at h3
    rw[if_pos hW]
    have htr:=fun i (hi:i<(cutsF ps).length)=>htr hW (cutsF ps)[i] ((mem_cutsF hv).1 (List.getElem_mem hi))
    have hcm:((cutsF ps).map aInts).length=(cutsF ps).length:=List.length_map _
    have hgC:∀k (h:k<(cutsF ps).length),((cutsF ps).map aInts).getD k .any = .sl 1 ((cutsF ps)[k].map ai):=fun k h=>getD_map h
    have hys:∀i (hi:i<(cutsF ps).length),((cutsF ps).take (i+1)).map (fun c=>ab (truF (cutO ps c (undF ps c)) t))=((cutsF ps).take i).map (fun c=>ab (truF (cutO ps c (undF ps c)) t)) ++ [ab (truF (cutO ps (cutsF ps)[i] (undF ps (cutsF ps)[i])) t)]:=fun i hi=>by
     rw[List.take_succ_eq_append_getElem hi,List.map_append];rfl
    have hyl:∀i,(((cutsF ps).take i).map (fun c=>ab (truF (cutO ps c (undF ps c)) t))).length<=5000:=fun i=>by
     rw[List.length_map,List.length_take];omega
    have hyf:((cutsF ps).take (cutsF ps).length).map (fun c=>ab (truF (cutO ps c (undF ps c)) t))=(cutsF ps).map (fun c=>ab (truF (cutO ps c (undF ps c)) t)):=by rw[List.take_length]
    have hy0:((cutsF ps).take 0).map (fun c=>ab (truF (cutO ps c (undF ps c)) t))=[]:=by simp
    rw[<- hyf]
    generalize hY:(fun i=>((cutsF ps).take i).map (fun c=>ab (truF (cutO ps c (undF ps c)) t)))=Y
    have hYk:∀i,((cutsF ps).take i).map (fun c=>ab (truF (cutO ps c (undF ps c)) t))=Y i:=fun i=>by rw[<- hY]
    simp only[hYk] at hys hyl hy0 ⊢
    clear hY hYk hyf haR hW hL hfm hck hT
    generalize hCC:(cutsF ps).map aInts=CC at *
    have hB:∀i (hi:i<(cutsF ps).length),∃b:Bool,PC prog 77 [aTr ps,.sl 1 ((cutsF ps)[i].map ai),aPd t] (ab b)/\Y (i+1)=Y i ++ [ab b]:=fun i hi=>⟨_,htr i hi,hys i hi⟩
    clear htr hys
    obtain⟨k,n,p,q,s,l⟩:=t
    simp only[aPd_mk] at *
    refine PE 45 [.tmp 4,.tmp 5,.tmp 6] [2,3,41] func37 ?_;simp only[go_sem]
    refine Wk ?_
    refine Sd ?_
    refine Vu h1 ?_
    refine Wk ?_
    refine Sd ?_
    refine Vu h2 ?_
    refine Wk ?_
    refine Sd ?_
    refine Vu h3 ?_
    refine W1 hcm ?_
    refine AWp.block (AWp.count 11 (cutsF ps).length [10] [2,3,8] (fun i vs L=>∃v,vs=[v]/\AppSt 4 1 (Y i) v L) rfl rfl ⟨anil,rfl,by rw[hy0];exact .nil⟩ ?_)
    rintro i vs L hi - ⟨v,rfl,hA⟩
    have hfo:=hA.fo
    have hyi:=hyl i
    by_cases hic:i<(cutsF ps).length
    ·obtain⟨b,htb,hYs⟩:=hB i hic
     have hg:=hgC i hic
     have hcd:(i:Int)<(cutsF ps).length:=by omega
     clear hB
     generalize (cutsF ps)[i].map ai=cc at *
     generalize Y i=ys at *
     rcases hA.inv with ⟨e1,rfl,rfl⟩|⟨bq,cq,rfl,rfl⟩
     ·simp only[go_sem]
      refine W2 hcm hcd ?_
      refine Sq ?_
      refine AWp.mix mixed [1,2,3,4,5,6,7] (.step 0 (.step 8 (.step 9 (.step 10 .done .done) .done) .done) (.step 8 (.step 0 (.step 9 (.step 10 .done .done) .done) .done) .done)) (by kernel_rfl) ?_;simp only[go_sem,hcm,hg]
      refine Sd ?_
      refine GCall.use (ab b) (fun _=>⟨At,(htb).val.use ⟨rfl,rfl⟩⟩) ?_;simp only[go_sem,hcm,hg]
      refine Sd ?_
      repeat' (first|(with_reducible refine And.intro ?_ ?_)|(with_reducible intro _))
      all_goals first|omega|skip
      all_goals (try simp only[go_sem])
      all_goals
       refine W2 hcm hcd ?_
       exact⟨_,.refl _,_,rfl,by rw[hYs,e1];exact .row _ _ _⟩
     ·simp only[go_sem]
      refine W2 hcm hcd ?_
      refine Sq ?_
      refine AWp.mix mixed [1,2,3,4,5,6,7] (.step 0 (.step 8 (.step 9 (.step 10 .done .done) .done) .done) (.step 8 (.step 0 (.step 9 (.step 10 .done .done) .done) .done) .done)) (by kernel_rfl) ?_;simp only[go_sem,hcm,hg]
      refine Sd ?_
      refine GCall.use (ab b) (fun _=>⟨At,(htb).val.use ⟨rfl,rfl⟩⟩) ?_;simp only[go_sem,hcm,hg]
      refine Sd ?_
      repeat' (first|(with_reducible refine And.intro ?_ ?_)|(with_reducible intro _))
      all_goals first|omega|skip
      all_goals (try simp only[go_sem])
      all_goals
       refine W2 hcm hcd ?_
       exact⟨_,.refl _,_,rfl,by rw[hYs];exact AppSt.snoc _ _ _ rfl⟩
    ·have:i=(cutsF ps).length:=by omega
     subst this
     have hcd:¬((cutsF ps).length:Int)<(cutsF ps).length:=by omega
     generalize Y (cutsF ps).length=ys at *
     rcases hA.inv with ⟨e1,rfl,rfl⟩|⟨bq,cq,rfl,rfl⟩
     ·simp only[go_sem]
      refine W2 hcm hcd ?_
      refine ret_view [] ?_;simp only[go_sem]
      rw[e1]
      exact .mkTup (Vws.cons (.nil 1) (Vws.refl _))
     ·simp only[go_sem]
      refine W2 hcm hcd ?_
      refine ret_view [true] ?_;simp only[go_sem]
      exact .mkTup (Vws.cons (Vw.ofLs (if_pos rfl) rfl) (Vws.refl _))
   ·rw[if_neg h5] at hW
    rw[if_pos (by omega)] at h3
    rw[if_neg (by rw[hW];decide),hW]
    clear htr
    obtain⟨k,n,p,q,s,l⟩:=t
    simp only[aPd_mk] at *
    refine PE 45 [.tmp 4,.tmp 5,.tmp 6] [2,3,41] func37 ?_;simp only[go_sem]
    refine Wk ?_
    refine Sd ?_
    refine Vu h1 ?_
    refine Wk ?_
    refine Sd ?_
    refine Vu h2 ?_
    refine Wk ?_
    refine Sd ?_
    refine Vu h3 ?_
    refine Wk ?_
    refine ret_view [] ?_;simp only[go_sem]
    exact .mkTup (Vws.cons (.nil 1) (Vws.cons (.nil 1) (Vws.refl _)))
 ·have hW:whE ps t=treeF ps t 2:=by
   unfold treeF at hT ⊢
   unfold whE
   split
   ·rfl
   ·rename_i h
    rw[if_neg h] at hT
    split
    ·rfl
    ·rename_i h'
     rw[if_neg h'] at hT
     exact absurd rfl hT
  rw[if_neg (by rw[hW];exact hT),hW]
  exact ref29_TableE hT h1
theorem predtype_Check_bad {ps:List Pr}(hva:PC prog 71 [aTr ps] (ab false))(t:Pd):PC prog 114 [aTr ps,aPd t] (ai 1):=by
 obtain⟨k,n,p,q,s,l⟩:=t
 simp only[aPd_mk]
 refine PE 28 [.tmp 4] [2,3] func114 ?_;simp only[go_sem]
 refine Wk ?_
 refine Sd ?_
 refine Vu hva ?_
 refine GCall.use .any (fun h=>absurd h (by simp)) ?_
 simp only[go_sem]
 refine Wk ?_
 exact Rz
theorem ref28_Check_bad {ps:List Pr}(hva:PC prog 10 [aTr ps] (ab false))(t:Pd):PC prog 122 [aTr ps,aPd t] (ai 1):=by
 obtain⟨k,n,p,q,s,l⟩:=t
 simp only[aPd_mk]
 refine PE 24 [.tmp 4] [2,3] func122 ?_;simp only[go_sem]
 refine Wk ?_
 refine Sd ?_
 refine Vu hva ?_
 refine GCall.use .any (fun h=>absurd h (by simp)) ?_
 simp only[go_sem]
 refine Wk ?_
 exact Rz
theorem evaluate_allE {ps:List Pr}{t:Pd}{e:Int}(he:e ≠ 0)(h1:PC prog 114 [aTr ps,aPd t] (ai e)):PC prog 69 [aTr ps,aPd t] (.tup [.sl 1 [],.sl 1 [],ai e]):=by
 obtain⟨k,n,p,q,s,l⟩:=t
 simp only[aPd_mk] at *
 refine PE 64 [.tmp 4,.tmp 5,.tmp 6] [2,3,59] func69 ?_;simp only[go_sem]
 refine Wk ?_
 refine Sd ?_
 refine Vu h1 ?_
 refine W1 he ?_
 refine ret_view [] ?_;simp only[go_sem]
 exact .mkTup (Vws.cons (.nil 1) (Vws.cons (.nil 1) (Vws.refl _)))
theorem ref29_TreeE {ps:List Pr}{t:Pd}{e:Int}(he:e ≠ 0)(h1:PC prog 122 [aTr ps,aPd t] (ai e))(w:Int):PC prog 75 [aTr ps,aPd t,ai w] (ai e):=by
 obtain⟨k,n,p,q,s,l⟩:=t
 simp only[aPd_mk] at *
 refine PE 24 [.tmp 6] [3,4] func75 ?_;simp only[go_sem]
 refine Wk ?_
 refine Sd ?_
 refine Vu h1 ?_
 refine W1 he ?_
 exact Rz
theorem control_CheckE {ps:List Pr}{t:Pd}{e:Int}{ys:List AV}(he:e ≠ 0)(hT:PC prog 32 [aTr ps,aPd t] (.tup [.sl 1 ys,ai e]))(SL:List AV):PC prog 11 [aTr ps,aPd t,.sl 4 SL] (.tup [ab false,ai e]):=by
 obtain⟨k,n,p,q,s,l⟩:=t
 simp only[aPd_mk] at *
 refine PE 62 [.tmp 6,.tmp 7] [3,4,14] func11 ?_;simp only[go_sem]
 refine Wk ?_
 refine Sd ?_
 refine Vu hT ?_
 refine W1 he ?_
 exact Rz
theorem ref44_CheckE {ps:List Pr}{t:Pd}{e:Int}{xs ys:List AV}(he:e ≠ 0)(hT:PC prog 37 [aTr ps,aPd t] (.tup [.sl 1 xs,.sl 1 ys,ai e]))(SL:List AV):PC prog 12 [aTr ps,aPd t,.sl 4 SL] (.tup [ab false,ai e]):=by
 obtain⟨k,n,p,q,s,l⟩:=t
 simp only[aPd_mk] at *
 refine PE 49 [.tmp 6,.tmp 7] [3,4] func12 ?_;simp only[go_sem]
 refine Wk ?_
 refine Sd ?_
 refine Vu hT ?_
 refine W1 he ?_
 exact Rz
set_option maxHeartbeats 1000000 in
theorem ref44_CheckH (ps:List Pr)(hs:Sm ps)(hv:validF ps=true)(h5:(cutsF ps).length<=5000)(t:Pd)(ks:List Bool)(hk:ks.length=(cutsF ps).length)(l:List Syn)(hll:l.length<=1000000)
  (hT:PC prog 37 [aTr ps,aPd t] (.tup [.sl 1 (ks.map ab),.sl 1 ((cutsF ps).map aInts),ai 0])) :
  PC prog 12 [aTr ps,aPd t,.sl 4 (l.map aSyn)] (.tup [ab (decide (syE ps l=0) && chkX l (cutsF ps) ks),ai (syE ps l)]):=by
 have h1:=ref44_Syncs ps hs hv l hll
 by_cases hE:syE ps l=0
 ·obtain⟨_,hok,_⟩:=syE_zero hE
  have hpr:=fun c=>ref44_Permitted ps hs hv l hok hll c
  have hpx:∀k (h:k<(cutsF ps).length),prmB ps l (cutsF ps)[k] = !(l.any fun s=>brkB (cutsF ps)[k] s):=fun k h=>by
   unfold prmB
   rw[(mem_cutsF hv).1 (List.getElem_mem h),Bool.true_and,List.not_any_eq_all_not]
  have hcm:((cutsF ps).map aInts).length=(cutsF ps).length:=List.length_map _
  have hkm:(ks.map ab).length=(cutsF ps).length:=by rw[List.length_map,hk]
  have hgC:∀k (h:k<(cutsF ps).length),((cutsF ps).map aInts).getD k .any = .sl 1 ((cutsF ps)[k].map ai):=fun k h=>getD_map h
  have hgK:∀k (h:k<(cutsF ps).length),(ks.map ab).getD k .any=ab (ks.getD k false):=fun k h=>by
   rw[getD_map (by omega),List.getD_eq_getElem?_getD,List.getElem?_eq_getElem (by omega)];rfl
  have hchk:chkX l (cutsF ps) ks=(List.range (cutsF ps).length).all fun i=>(l.any fun s=>brkB ((cutsF ps).getD i []) s) || ks.getD i false:=rfl
  have hgd:∀k (h:k<(cutsF ps).length),(cutsF ps).getD k []=(cutsF ps)[k]:=fun k h=>by
   rw[List.getD_eq_getElem?_getD,List.getElem?_eq_getElem h];rfl
  rw[decide_eq_true hE,Bool.true_and,hE]
  rw[hE] at h1
  generalize chkX l (cutsF ps) ks=B at *
  generalize (cutsF ps).map aInts=CC at *
  generalize cutsF ps=cs at *
  generalize ks.map ab=KK at *
  obtain⟨k0,n0,p0,q0,s0,l0⟩:=t
  simp only[aPd_mk] at hT ⊢
  generalize l.map aSyn=SL at *
  refine PE 49 [.tmp 6,.tmp 7] [3,4] func12 ?_;simp only[go_sem]
  refine Wk ?_
  refine Sd ?_
  refine Vu hT ?_
  refine Wk ?_
  refine Sd ?_
  refine Vu h1 ?_
  refine Wk ?_
  refine AWp.block (AWp.count 12 cs.length [] [2,3,8,9] (fun i vs L=>L=[]/\∀j (h:j<cs.length),j<i->(prmB ps l cs[j] && !ks.getD j false)=false) rfl rfl ⟨rfl,fun j _ h=>by omega⟩ ?_)
  rintro i vs L hi - ⟨rfl,hI⟩
  simp only[go_sem]
  refine W1 hcm ?_
  constructor<;>intro h
  ·have hic:i<cs.length:=by omega
   have hg:=hgC i hic
   have hgk:=hgK i hic
   have hc:=hpr cs[i]
   have hno:(prmB ps l cs[i] && !ks.getD i false)=true->B=false:=fun h=>by
    rw[hchk,List.all_eq_false]
    refine⟨i,List.mem_range.2 hic,?_⟩
    rw[hpx i hic] at h
    rw[hgd i hic]
    cases h1:(l.any fun s=>brkB cs[i] s) <;> cases h2:ks.getD i false <;> simp_all
   have hye:(prmB ps l cs[i] && !ks.getD i false)=false->∀j (h:j<cs.length),j<i+1->(prmB ps l cs[j] && !ks.getD j false)=false:=fun h j hj hji=>by
    by_cases e:j=i
    ·subst e;exact h
    ·exact hI j hj (by omega)
   have hI2:aInts cs[i] = .sl 1 (cs[i].map ai):=rfl
   rw[hI2] at hc
   generalize prmB ps l cs[i]=x at *
   generalize ks.getD i false=y at *
   generalize cs[i].map ai=cc at *
   refine Sq ?_
   refine AWp.read mixed [0,1,2,3,4,5,6,7,8,9,10,11,12,13] (by kernel_rfl) ?_;simp only[go_sem,hg,hcm,hgk,hkm]
   refine Sd ?_
   refine GCall.use (ab x) (fun _=>⟨At,(hc).val.use ⟨rfl,rfl⟩⟩) ?_;simp only[go_sem,hg,hcm,hgk,hkm]
   refine Sd ?_
   cases hd:(x && !y) with
   | true =>
    rw[hno hd]
    refine W1 hd ?_
    exact Rz
   | false =>
    refine W1 hd ?_
    refine⟨_,.refl _,rfl,fun j hj hji hp=>?_⟩
    have:=hye hd j hj hji
    rwa [hp,Bool.true_and,Bool.not_eq_false'] at this
  ·have:i=cs.length:=by omega
   subst this
   have:B=true:=by
    rw[hchk,List.all_eq_true]
    intro j hj
    have hj:=List.mem_range.1 hj
    have h:=hI j hj hj
    rw[hpx j hj] at h
    rw[hgd j hj]
    cases h1:(l.any fun s=>brkB cs[j] s) <;> cases h2:ks.getD j false <;> simp_all
   rw[this]
   refine Wk ?_
   exact Rz
 ·rw[decide_eq_false hE,Bool.false_and]
  generalize syE ps l=E at *
  generalize ks.map ab=KK at *
  generalize (cutsF ps).map aInts=CC at *
  obtain⟨k0,n0,p0,q0,s0,l0⟩:=t
  simp only[aPd_mk] at hT ⊢
  generalize l.map aSyn=SL at *
  refine PE 49 [.tmp 6,.tmp 7] [3,4] func12 ?_;simp only[go_sem]
  refine Wk ?_
  refine Sd ?_
  refine Vu hT ?_
  refine Wk ?_
  refine Sd ?_
  refine Vu h1 ?_
  refine W1 hE ?_
  exact Rz
end Go.AL
end
