/- Texts of this claim's proof: WI7, AlItr. No condition. -/
import Derived.Test.YtpcmoecaaphjmaaGreatDoorM14
import Derived.Test.YtpcmoecaaphjmaaGreatDoorM4
import Derived.Maps.RangeRun
section
namespace Go.AL
open Go Go.RowKit
set_option maxRecDepth 4000
def aPds (l:List Pd):AV:=.sl 6 (l.map aPd)
def GrowP (n:Nat) (r:AV) (L:AHeap):Prop:=(n=0∧r=anil∧L=[])∨∃b cap,n≤cap∧r = .ls b 6 0 0 cap∧L=[(b,.row 27 6 (List.replicate n aPd0) cap)]
theorem preds_grow (n:Nat) (hn:n≤1000000):MCalls Proofs.Tryz.prog 268 [anil,ai (n:Nat)] [] (GrowP n):=by
 refine MCalls.enter' 27 [.tmp 4] [] Proofs.Tryz.func268 rfl rfl rfl rfl rfl (by simp) (AWp.of ?_);simp only[go_sem]
 refine Wk ?_
 intro _
 refine Wk ?_
 refine Wk ?_
 refine⟨fun h1 => ?_,fun h1 => ?_⟩
 ·refine Wk ?_
  intro b cap hc
  refine Wk ?_
  refine ret_own ?_
  simp only[go_sem]
  have e:((n:Int) - (((0:Nat):Int) - ((0:Nat):Int))).toNat=n:=by omega
  rw[e]
  exact .inr ⟨b,cap,by omega,by simp,rfl⟩
 ·have:n=0:=by omega
  refine Wk ?_
  refine ret_own ?_
  simp only[go_sem]
  exact .inl ⟨this,rfl,rfl⟩
def CatP (ls:List (List Pd)) (k:Nat) (v:AV) (L:AHeap):Prop :=
 (ls.flatten=[]∧v=anil∧L=[])∨∃b cap xs,v = .ls b 6 0 (ls.take k).flatten.length cap∧L=[(b,.row 27 6 xs cap)]∧(ls.take k).flatten.length≤xs.length∧xs.take (ls.take k).flatten.length=(ls.take k).flatten.map aPd
theorem flatP_succ {ls:List (List Pd)} {k:Nat} (hk:k<ls.length):(ls.take (k+1)).flatten=(ls.take k).flatten ++ ls[k]:=by
 rw[List.take_succ_eq_append_getElem hk,List.flatten_append];simp
theorem flatP_le {ls:List (List Pd)} (k:Nat):(ls.take k).flatten.length≤ls.flatten.length:=by
 conv=>rhs;rw[← List.take_append_drop k ls,List.flatten_append,List.length_append]
 omega
theorem preds_concat (ls:List (List Pd)) (hl:ls.length≤100000000) (hf:ls.flatten.length≤1000000) :
  MCalls Proofs.Tryz.prog 205 [.sl 1 (ls.map aPds)] [] fun r L=>CatP ls ls.length r L:=by
 have hR:∀x:List Pd,aPds x = .sl 6 (x.map aPd):=fun _=>rfl
 refine MCalls.enter' 36 [.tmp 2] [] Proofs.Tryz.func205 rfl rfl rfl rfl rfl (by simp) (AWp.of ?_);simp only[go_sem]
 refine Wk ?_
 refine AWp.range' ls.length [3] [0,9,10] (fun k vs L=>L=[]∧vs=[ai ((ls.take k).flatten.length:Nat)]) (by omega) rfl rfl rfl ⟨rfl,by rw[List.take_zero];rfl⟩ ?_ ?_
 ·rintro k vs L hk - ⟨rfl,rfl⟩
  have h1:=flatP_le (ls:=ls) k
  have h2:=flatP_le (ls:=ls) (k+1)
  have h3:=congrArg List.length (flatP_succ hk)
  rw[List.length_append] at h3
  have hg:=getD_map (f:=aPds) hk
  simp only[go_sem]
  refine W2 hg hR ?_
  intro _
  refine Wk ?_
  exact⟨_,List.Sublist.refl _,rfl,by rw[h3];simp⟩
 ·rintro vs L - ⟨rfl,rfl⟩
  rw[List.take_length]
  simp only[go_sem]
  refine Wk ?_
  refine(preds_grow _ hf).val.mono ?_
  intro r L hr
  have hI:CatP ls 0 r L:=by
   rcases hr with ⟨h0,rfl,rfl⟩|⟨b,cap,hc,rfl,rfl⟩
   ·exact .inl ⟨List.eq_nil_of_length_eq_zero h0,rfl,rfl⟩
   ·exact .inr ⟨b,cap,_,by simp,rfl,by simp,by simp⟩
  clear hr
  have hfo:fo r=(True,r):=by rcases hI with ⟨_,rfl,_⟩|⟨b,cap,xs,rfl,_⟩ <;> rfl
  simp only[go_sem,hfo]
  refine W1 hfo ?_
  refine AWp.range' ls.length [6] [25,26] (fun k vs L=>∃v,vs=[v]∧CatP ls k v L) (by omega) rfl rfl rfl ⟨_,rfl,hI⟩ ?_ ?_
  ·clear hI
   rintro k vs L hk - ⟨v,rfl,hC⟩
   have h2:=flatP_le (ls:=ls) (k+1)
   have hs:=flatP_succ hk
   have h3:=congrArg List.length hs
   rw[List.length_append] at h3
   have hg:=getD_map (f:=aPds) hk
   have hll:(ls[k].map aPd).length=ls[k].length:=List.length_map _
   rcases hC with ⟨h0,rfl,rfl⟩|⟨b,cap,xs,rfl,rfl,hx,ht⟩
   ·have he:ls[k].map aPd=[]:=by
     rw[List.flatten_eq_nil_iff.1 h0 _ (List.getElem_mem hk)];rfl
    simp only[go_sem]
    refine W3 hg hR he ?_
    exact⟨_,List.Sublist.refl _,_,rfl,.inl ⟨h0,rfl,rfl⟩⟩
   ·have hy:(ls.take (k+1)).flatten.map aPd=(ls.take k).flatten.map aPd ++ ls[k].map aPd:=by rw[hs,List.map_append]
    unfold CatP
    rw[hy,h3,← ht]
    simp only[go_sem]
    refine W2 hg hR ?_
    intro b' cap' hc
    refine⟨_,List.Sublist.refl _,_,rfl,.inr ⟨b',cap',_,rfl,rfl,?_,?_⟩⟩
    ·rw[List.length_append,List.length_take];omega
    ·rw[List.take_of_length_le (by rw[List.length_append,List.length_take];omega)]
  ·clear hI
   rintro vs L - ⟨v,rfl,hC⟩
   have hfo:fo v=(True,v):=by rcases hC with ⟨_,rfl,_⟩|⟨b,cap,xs,rfl,_⟩ <;> rfl
   simp only[go_sem,hfo]
   refine W1 hfo ?_
   refine ret_own ?_
   simp only[go_sem,hfo]
   exact hC
theorem preds_concatP (ls:List (List Pd)) (hl:ls.length≤100000000) (hf:ls.flatten.length≤1000000):PC Proofs.Tryz.prog 205 [.sl 1 (ls.map aPds)] (aPds ls.flatten):=by
 refine(preds_concat ls hl hf).pc fun r L h => ?_
 have haR:aPds ls.flatten = .sl 6 (ls.flatten.map aPd):=rfl
 rw[haR]
 rcases h with ⟨h1,rfl,rfl⟩|⟨b,cap,xs,rfl,rfl,h1,h2⟩
 ·rw[h1];exact .nil 6
 ·rw[List.take_length] at h1 h2 ⊢
  refine .ls (if_pos rfl) (by omega) ?_ ?_
  ·rw[List.drop_zero,h2]
  ·rw[List.drop_zero,h2]
   intro i x y hx hy
   rw[hx] at hy;cases hy;exact .refl _
mutual
def prtF (kd:Int):Pd→List Pd × Bool
 | .mk k n p q s l=>if (locR (.mk k n p q s l)).2=true then ([.mk k n p q s l],true) else if k ≠ kd then ([],false) else match prtL kd l with | [a,b]=>(a.1 ++ b.1,a.2 && b.2)|_=>([],false)
def prtL (kd:Int):List Pd→List (List Pd × Bool)
 | []=>[]
 | x :: r=>prtF kd x :: prtL kd r
end
theorem prtL_map (kd:Int):∀l,prtL kd l=l.map (prtF kd)
 | []=>by rw[prtL];rfl
 | x :: r=>by rw[prtL,prtL_map kd r];rfl
theorem prtF_mk (kd k n p q:Int) (s:ByteArray) (l:List Pd):prtF kd (.mk k n p q s l)=if (locR (.mk k n p q s l)).2=true then ([.mk k n p q s l],true) else if k ≠ kd then ([],false) else match l.map (prtF kd) with | [a,b]=>(a.1 ++ b.1,a.2 && b.2)|_=>([],false):=by rw[prtF,prtL_map]
theorem prtF_len (kd:Int) (t:Pd):(prtF kd t).1.length≤szF t:=by
 induction t using Pd.ind with
 | _ k n p q s l ih =>
 have hz:=szF_pos (.mk k n p q s l)
 have hsz:szF (.mk k n p q s l)=szL l+1:=by rw[szF]
 rw[prtF_mk]
 split
 ·exact hz
 ·split
  ·exact Nat.zero_le _
  ·split
   ·rename_i a b e
    match l,e with
    | [x,y],e =>
     simp only[List.map_cons,List.map_nil,List.cons.injEq,and_true] at e
     obtain⟨rfl,rfl⟩:=e
     have h1:=ih x (by simp)
     have h2:=ih y (by simp)
     rw[hsz]
     simp only[szL,List.length_append]
     omega
   ·exact Nat.zero_le _
theorem classify_parts (kd:Int) (hkd:kd=16∨kd=17) (t:Pd):szF t≤1000000→allB locB t=true→PC Proofs.Tryz.prog 135 [aPd t,ai kd] (.tup [aPds (prtF kd t).1,ab (prtF kd t).2]):=by
 induction t using Pd.ind with
 | _ k n p q s l ih =>
 intro hz hloc
 have hsz:szF (.mk k n p q s l)=szL l+1:=by rw[szF]
 have hll:=szL_len l
 rw[allB_mk,Bool.and_eq_true] at hloc
 obtain⟨hlc,hcl⟩:=hloc
 have hpl:=locB_len hlc
 have hlo:=classify_local (.mk k n p q s l) hz
 have hsp:=prtF_mk kd k n p q s l
 have hR:∀x:List Pd,aPds x = .sl 6 (x.map aPd):=fun _=>rfl
 have hch:=fun i (hi:i<l.length)=>ih l[i] (List.getElem_mem hi) (by have:=szL_mem (List.getElem_mem hi);omega) (List.all_eq_true.1 hcl _ (List.getElem_mem hi))
 have hAP:aPd (.mk k n p q s l) = .agg [ai k,ai n,ai p,ai q,astr s,.sl 6 (l.map aPd)]:=aPd_mk ..
 by_cases hl:(locR (.mk k n p q s l)).2=true
 ·rw[if_pos hl] at hsp
  rw[hsp,hR]
  rw[hl] at hlo
  generalize (locR (.mk k n p q s l)).1=pr at *
  simp only[List.map_cons,List.map_nil,aPd_mk] at *
  refine PC.enter 50 [.tmp 4,.tmp 5] [2,19,44] Proofs.Tryz.func135 rfl rfl rfl rfl rfl (by simp) (AWp.of ?_);simp only[go_sem]
  refine Wk ?_
  refine Sd ?_
  refine(hlo).val.use ?_;simp only[go_sem]
  refine Wk ?_
  refine ret_eq ?_;simp only[go_sem]
 ·rw[if_neg hl] at hsp
  rw[show (locR (.mk k n p q s l)).2=false by simpa using hl] at hlo
  generalize (locR (.mk k n p q s l)).1=pr at *
  by_cases hk:k=kd
  ·rw[if_neg (not_not_intro hk)] at hsp
   have hp2:partsF k=2:=by rcases hkd with rfl|rfl <;> (rw[hk];decide)
   obtain⟨x,y,rfl⟩:=len_two (l:=l) (by omega)
   have hx:=hch 0 (by simp)
   have hy:=hch 1 (by simp)
   have hl1:=prtF_len kd x
   have hl2:=prtF_len kd y
   simp only[List.getElem_cons_zero,List.getElem_cons_succ,szL,List.map_cons,List.map_nil] at hx hy hsz hsp
   have hcc:=preds_concatP [(prtF kd x).1,(prtF kd y).1] (by simp) (by simp;omega)
   rw[hsp]
   generalize prtF kd x=A at *
   generalize prtF kd y=B at *
   obtain⟨a1,a2⟩:=A
   obtain⟨b1,b2⟩:=B
   simp only[List.map_cons,List.map_nil,List.flatten_cons,List.flatten_nil,List.append_nil] at hcc ⊢
   clear hch ih
   obtain⟨k1,o1,p1,q1,s1,l1⟩:=x
   obtain⟨k2,o2,p2,q2,s2,l2⟩:=y
   simp only[List.map_cons,List.map_nil,aPd_mk] at *
   rw[hR] at hx hy hcc
   have hR2:=hR b1
   have hR3:=hR (a1 ++ b1)
   rw[hR2,hR3] at hcc
   rw[hR3]
   refine PC.enter 50 [.tmp 4,.tmp 5] [2,19,44] Proofs.Tryz.func135 rfl rfl rfl rfl rfl (by simp) (AWp.of ?_);simp only[go_sem]
   refine Wk ?_
   refine Sd ?_
   refine(hlo).val.use ?_;simp only[go_sem]
   refine W1 hk ?_
   refine Sd ?_
   refine(hx).val.use ?_;simp only[go_sem]
   refine Wk ?_
   refine Sd ?_
   refine(hy).val.use ?_;simp only[go_sem]
   refine Wk ?_
   refine Sd ?_
   refine(hcc).val.use ?_;simp only[go_sem]
   refine Wk ?_
   refine ret_eq ?_;simp only[go_sem]
  ·rw[if_pos hk] at hsp
   rw[hsp,hR]
   simp only[aPd_mk] at *
   refine PC.enter 50 [.tmp 4,.tmp 5] [2,19,44] Proofs.Tryz.func135 rfl rfl rfl rfl rfl (by simp) (AWp.of ?_);simp only[go_sem]
   refine Wk ?_
   refine Sd ?_
   refine(hlo).val.use ?_;simp only[go_sem]
   refine W1 hk ?_
   refine ret_view [] ?_;simp only[go_sem]
   exact .mkTup (Vws.cons (.nil 6) (Vws.refl _))
mutual
def kpF (kd proc:Int):Pd→Pd × Bool
 | .mk k n p q s l=>if (locR (.mk k n p q s l)).2=true then (.mk k n p q s l,decide ((locR (.mk k n p q s l)).1=proc)) else match kpL kd proc l with
  | [a,b]=>if a.2=true∧b.2=true then (.mk kd 0 0 0 ByteArray.empty [a.1,b.1],true) else if a.2=true then (a.1,true) else (b.1,b.2)
  | _=>(pd0,false)
def kpL (kd proc:Int):List Pd→List (Pd × Bool)
 | []=>[]
 | x :: r=>kpF kd proc x :: kpL kd proc r
end
theorem kpL_map (kd proc:Int):∀l,kpL kd proc l=l.map (kpF kd proc)
 | []=>by rw[kpL];rfl
 | x :: r=>by rw[kpL,kpL_map kd proc r];rfl
theorem kpF_mk (kd proc k n p q:Int) (s:ByteArray) (l:List Pd):kpF kd proc (.mk k n p q s l)=if (locR (.mk k n p q s l)).2=true then (.mk k n p q s l,decide ((locR (.mk k n p q s l)).1=proc)) else match l.map (kpF kd proc) with
  | [a,b]=>if a.2=true∧b.2=true then (.mk kd 0 0 0 ByteArray.empty [a.1,b.1],true) else if a.2=true then (a.1,true) else (b.1,b.2)
  | _=>(pd0,false):=by rw[kpF,kpL_map]
theorem classify_copied (t:Pd) (hz:szF t≤1000000):PC Proofs.Tryz.prog 219 [aPd t] (aPd t):=(classify_copiedM t hz).pc fun _ _ h=>copK_vw h
theorem classify_kept (kd proc:Int) (hkd:kd=16∨kd=17) (t:Pd):szF t≤1000000→allB locB t=true→(prtF kd t).2=true→PC Proofs.Tryz.prog 217 [aPd t,ai kd,ai proc] (.tup [aPd (kpF kd proc t).1,ab (kpF kd proc t).2]):=by
 induction t using Pd.ind with
 | _ k n p q s l ih =>
 intro hz hloc hpr
 have hsz:szF (.mk k n p q s l)=szL l+1:=by rw[szF]
 have hll:=szL_len l
 rw[allB_mk,Bool.and_eq_true] at hloc
 obtain⟨hlc,hcl⟩:=hloc
 have hpl:=locB_len hlc
 have hlo:=classify_local (.mk k n p q s l) hz
 have hcp:=classify_copied (.mk k n p q s l) hz
 have hsp:=kpF_mk kd proc k n p q s l
 rw[prtF_mk] at hpr
 have hch:=fun i (hi:i<l.length)=>ih l[i] (List.getElem_mem hi) (by have:=szL_mem (List.getElem_mem hi);omega) (List.all_eq_true.1 hcl _ (List.getElem_mem hi))
 by_cases hl:(locR (.mk k n p q s l)).2=true
 ·rw[if_pos hl] at hsp
  rw[hsp]
  rw[hl] at hlo
  generalize (locR (.mk k n p q s l)).1=pr at *
  simp only[aPd_mk] at *
  refine PC.enter 60 [.cell 6 27,.tmp 7] [3,10,12,53] Proofs.Tryz.func217 rfl rfl rfl rfl rfl (by simp) (AWp.of ?_);simp only[go_sem]
  intro b6
  refine Wk ?_
  refine Sd ?_
  refine(hlo).val.use ?_;simp only[go_sem]
  refine Wk ?_
  refine Sd ?_
  refine(hcp).val.use ?_;simp only[go_sem]
  refine Wk ?_
  refine ret_eq ?_;simp only[go_sem]
 ·rw[if_neg hl] at hsp hpr
  rw[show (locR (.mk k n p q s l)).2=false by simpa using hl] at hlo
  generalize (locR (.mk k n p q s l)).1=pr at *
  by_cases hk:k=kd
  ·rw[if_neg (not_not_intro hk)] at hpr
   have hp2:partsF k=2:=by rcases hkd with rfl|rfl <;> (rw[hk];decide)
   obtain⟨x,y,rfl⟩:=len_two (l:=l) (by omega)
   simp only[List.map_cons,List.map_nil,Bool.and_eq_true] at hpr hsp
   have hx:=hch 0 (by simp) hpr.1
   have hy:=hch 1 (by simp) hpr.2
   simp only[List.getElem_cons_zero,List.getElem_cons_succ] at hx hy
   rw[hsp]
   clear hsp hch ih hcp hpr
   generalize kpF kd proc x=A at *
   generalize kpF kd proc y=B at *
   obtain⟨a,a2⟩:=A
   obtain⟨b,b2⟩:=B
   obtain⟨k1,o1,p1,q1,s1,l1⟩:=x
   obtain⟨k2,o2,p2,q2,s2,l2⟩:=y
   obtain⟨k3,o3,p3,q3,s3,l3⟩:=a
   obtain⟨k4,o4,p4,q4,s4,l4⟩:=b
   simp only[List.map_cons,List.map_nil,aPd_mk] at *
   cases a2 <;> cases b2
   all_goals
    simp only[Bool.false_eq_true,if_false,if_true,and_self,and_true,true_and,false_and,aPd_mk,List.map_cons,List.map_nil]
    refine PC.enter 60 [.cell 6 27,.tmp 7] [3,10,12,53] Proofs.Tryz.func217 rfl rfl rfl rfl rfl (by simp) (AWp.of ?_);simp only[go_sem]
    intro b6
    refine Wk ?_
    refine Sd ?_
    refine(hlo).val.use ?_;simp only[go_sem]
    refine Wk ?_
    refine Sd ?_
    refine(hx).val.use ?_;simp only[go_sem]
    refine Wk ?_
    intro b10 g10
    have n1:¬b6=b10:=by omega
    have n2:¬b10=b6:=by omega
    try simp only[go_sem,n1,n2]
    refine Sd ?_
    refine W2 n1 n2 ?_
    refine Sd ?_
    refine(hy).val.use ?_;simp only[go_sem]
    refine W2 n1 n2 ?_
    intro b12 g12
    have n3:¬b6=b12:=by omega
    have n4:¬b12=b6:=by omega
    try simp only[go_sem,n3,n4]
    refine Sd ?_
    refine W2 n3 n4 ?_
    refine ret_eq ?_;simp only[go_sem]
    try rfl
  ·rw[if_pos hk] at hpr
   exact absurd hpr (by simp)
def jnF (kd none:Int) (t:Pd) (i:Nat):Pd:=if (kpF kd i t).2=true then (kpF kd i t).1 else .mk none 0 0 0 ByteArray.empty []
def jnR (kd none:Int) (t:Pd) (i:Nat):AV:=if (kpF kd i t).2=true then aPd (kpF kd i t).1 else .agg [ai none,ai 0,ai 0,ai 0,astr ByteArray.empty,anil]
theorem jnR_vw (kd none:Int) (t:Pd) (i:Nat) (L:AHeap):Vw L (jnR kd none t i) (aPd (jnF kd none t i)):=by
 unfold jnR jnF
 split
 ·exact .refl _
 ·rw[aPd_mk]
  exact .mkAgg (Vws.cons (.refl _) (Vws.cons (.refl _) (Vws.cons (.refl _) (Vws.cons (.refl _) (Vws.cons (.refl _) (Vws.cons (.nil 6) .nil))))))
def jnL (n:Nat) (kd none:Int) (t:Pd):List Pd:=(List.range n).map (jnF kd none t)
def jnA (n:Nat) (kd none:Int) (t:Pd):List AV:=(List.range n).map (jnR kd none t)
theorem jnA_succ (n:Nat) (kd none:Int) (t:Pd):jnA (n+1) kd none t=jnA n kd none t ++ [jnR kd none t n]:=by
 unfold jnA;rw[List.range_succ,List.map_append];rfl
theorem classify_joined (ps:List Pr) (hs:Sm ps) (kd none:Int) (hkd:kd=16∨kd=17) (t:Pd) (hz:szF t≤1000000) (hloc:allB locB t=true) (hpr:(prtF kd t).2=true) :
  PC Proofs.Tryz.prog 144 [aTr ps,aPd t,ai kd,ai none] (aPds (jnL ps.length kd none t)):=by
 have hkp:=fun proc=>classify_kept kd proc hkd t hz hloc hpr
 have hps:=hs.procs
 have hA0:jnA 0 kd none t=[]:=rfl
 have hR:aPds (jnL ps.length kd none t) = .sl 6 ((jnL ps.length kd none t).map aPd):=rfl
 have hyl2:(jnA ps.length kd none t).length=ps.length:=by unfold jnA;simp
 have hjl:((jnL ps.length kd none t).map aPd).length=ps.length:=by unfold jnL;simp
 have hvw:∀(L:AHeap) (i:Nat) x y,(jnA ps.length kd none t)[i]?=some x→((jnL ps.length kd none t).map aPd)[i]?=some y→Vw L x y:=fun L i x y hx hy=>by
  unfold jnA at hx
  unfold jnL at hy
  rw[List.map_map] at hy
  by_cases hi:i<ps.length
  ·rw[List.getElem?_map,List.getElem?_range hi] at hx hy
   cases hx;cases hy
   exact jnR_vw ..
  ·rw[List.getElem?_eq_none (by simp;omega)] at hx
   cases hx
 rw[hR]
 generalize (jnL ps.length kd none t).map aPd=JL at *
 obtain⟨k,n,p,q,s,l⟩:=t
 generalize hT:(Pd.mk k n p q s l)=T at *
 have hTA:aPd T = .agg [ai k,ai n,ai p,ai q,astr s,.sl 6 (l.map aPd)]:=by rw[← hT,aPd_mk]
 rw[hTA] at hkp ⊢
 refine PC.enter 36 [.tmp 8] [4,5,32] Proofs.Tryz.func144 rfl rfl rfl rfl rfl (by simp) (AWp.of ?_);simp only[go_sem]
 refine Wk ?_
 refine AWp.range' ps.length [9] [2,3,5,15] (fun i vs L=>∃v,vs=[v]∧AppSt 27 6 (jnA i kd none T) v L) (by omega) rfl rfl rfl ⟨anil,rfl,by rw[hA0];exact .nil⟩ ?_ ?_
 ·rintro i vs L hi - ⟨v,rfl,hA⟩
  have hfo:=hA.fo
  simp only[go_sem]
  have hk1:=hkp i
  have hsu:=jnA_succ i kd none T
  have hyl:(jnA i kd none T).length=i:=by unfold jnA;simp
  unfold jnR at hsu
  generalize kpF kd i T=A at *
  generalize jnA i kd none T=ys at *
  generalize jnA (i+1) kd none T=zs at *
  obtain⟨⟨k2,o2,p2,q2,s2,l2⟩,okb⟩:=A
  simp only[aPd_mk] at hk1 hsu
  rcases hA.inv with ⟨e1,rfl,rfl⟩|⟨bv,cap,rfl,rfl⟩
  ·cases okb
   all_goals
    simp only[Bool.false_eq_true,if_false,if_true] at hsu
    refine Wk ?_
    refine Sd ?_
    refine(hk1).val.use ?_;simp only[go_sem]
    refine Wk ?_
    intro b11
    refine Sd ?_
    refine Wk ?_
    intro b' cap' g1 g2
    try have n1:¬b11=b':=by omega
    refine W1 n1 ?_
    refine⟨_,List.Sublist.cons_cons _ (List.nil_sublist _),_,rfl,?_⟩
    rw[hsu,e1]
    exact .row b' _ cap'
  ·cases okb
   all_goals
    simp only[Bool.false_eq_true,if_false,if_true] at hsu
    refine Wk ?_
    refine Sd ?_
    refine(hk1).val.use ?_;simp only[go_sem]
    refine Wk ?_
    intro b11 g11
    have n1:¬bv=b11:=by omega
    have n2:¬b11=bv:=by omega
    try simp only[go_sem,n1,n2]
    refine Sd ?_
    refine W2 n1 n2 ?_
    intro b' cap' g1 g2
    refine⟨_,List.Sublist.cons_cons _ (List.nil_sublist _),_,rfl,?_⟩
    rw[hsu]
    exact AppSt.snoc b' cap' _ rfl
 ·rintro vs L - ⟨v,rfl,hA⟩
  have hfo:=hA.fo
  simp only[go_sem,hfo]
  generalize jnA ps.length kd none T=ys at *
  rcases hA.inv with ⟨e1,rfl,rfl⟩|⟨bv,cap,rfl,rfl⟩
  ·have:JL=[]:=List.eq_nil_of_length_eq_zero (by rw[hjl,← hyl2,e1];rfl)
   subst this
   refine Wk ?_
   refine ret_view [] ?_;simp only[go_sem]
   exact .nil 6
  ·refine Wk ?_
   refine ret_view [true] ?_;simp only[go_sem]
   refine .ls (if_pos rfl) (by omega) ?_ ?_
   ·rw[List.drop_zero,List.take_length,hjl,hyl2]
   ·rw[List.drop_zero,List.take_length]
    exact hvw _
end Go.AL
end
section
namespace Go.AL
open Go Go.RowKit
theorem putObj_new {w:World} {b:Nat} {o:Obj} (h:b<w.heap.size):(w.putObj b o).heap[b]?=some o:=by
 simp [World.putObj,h]
theorem map_eraseIdx' {α β:Type} (f:α→β):∀(l:List α) (i:Nat),(l.eraseIdx i).map f=(l.map f).eraseIdx i
 | [],_=>rfl
 | _ :: _,0=>rfl
 | x :: l,i+1=>by simp [map_eraseIdx' f l i]
section
variable {C:Cfg} {o:Oper} {ρ:Env} {L:AHeap} {K:ARes}
theorem AOp.rangeMap {t kt et:TypeId} {x:Operand} {ks:List Value} {vs:List AV} {s b':Nat} {z:AV} (ho:o.op = .range t x) (ht:tinfo C.P t=some ⟨.map kt et,s,b',z⟩) (hd:dstOk C o) (hx:fo (ev ρ x)=(True,.rm ks vs))
  (h:∀b,fresh L b→K (put ρ o.dst (.lp b 0 0 0)) ((b,.iter ks vs []) :: L)):AOp C o ρ L K :=
 AOp.of_run (by rw[ho];intro c e;cases e) fun w0 M A0 a w A ds hs=>by
  have rx:=fo_ok (hs.ev x) (by rw[hx];trivial)
  rw[hx] at rx
  have hu:=tinfo_map ht
  generalize hxe:a.eval x=u at rx
  cases rx with
  | rm _ _ bm es clock hA hw hk hv hbn hh =>
  have hlt:=hs.l.abnd bm hA
  have hB:BlkRel (w.alloc (.mapIter (some bm) clock #[] clock)) A w.heap.size (.iter ks vs []) :=
   ⟨bm,es,clock,#[],World.alloc_heap_new w _,hA,(Below.heap_alloc w _ bm hlt).trans hw,hk,hv,hbn.1,hbn.2,rfl,by simp,fun i x e h1 h2=>(hh i x e h1 h2).later (fun b hb=>Below.heap_alloc w _ b (hs.l.abnd b hb)) (fun _ h=>h)⟩
  have hg:(getObj bm).run C.P w = .ok (.map es clock) w:=by simp [getObj,Sem.run,hw]
  refine⟨.value (.pointer (some ⟨w.heap.size,0,none⟩)),w.alloc (.mapIter (some bm) clock #[] clock),?_,.inl ⟨_,rfl,?_⟩⟩
  ·unfold execOp;rw[ho]
   simp [Instr.range,hxe,run_underlying hu,hg]
  ·have:=(hs.alloc hB).put hd (x:=.lp w.heap.size 0 0 0) (v:=.pointer (some ⟨w.heap.size,0,none⟩)) (by have:=Rel.lp (w:=w.alloc (.mapIter (some bm) clock #[] clock)) (A:=A) w.heap.size 0 0 0;simpa using this)
   exact post_mk this (h _ hs.fresh)
theorem AOp.nextMap {x:Operand} {ks:List Value} {vs:List AV} {vis:List Nat} {b:Nat} (ho:o.op = .next x false) (hd:dstOk C o) (hx:fo (ev ρ x)=(True,.lp b 0 0 0)) (hb:lk L b=some (.iter ks vs vis))
  (h0:(∀i,i<ks.length→i ∈ vis)→K (put ρ o.dst (.tup [ab false])) L)
  (h1:∀i,i<ks.length→i ∉ vis→K (put ρ o.dst (.tup [ab true,zav (ks.getD i undef),vs.getD i .any])) (upd L b (.iter ks vs (vis ++ [i])))):AOp C o ρ L K :=
 AOp.of_run (by rw[ho];intro c e;cases e) fun w0 M A0 a w A ds hs=>by
  have rx:=fo_ok (hs.ev x) (by rw[hx];trivial)
  rw[hx] at rx
  have hxe:a.eval x = .pointer (some ⟨b,0,none⟩):=by
   generalize a.eval x=u at rx
   cases rx;rfl
  obtain⟨bm,es,clock,seen,g1,g2,g3,g4,g5,g6,g7,g8,g9,g10⟩:=hs.l.lk hb
  have hlen:es.size=ks.length:=by rw[← g4,List.length_map,Array.length_toList]
  have hseen:∀i (hi:i<es.size),(seen.contains es[i].born=true↔i ∈ vis):=fun i hi=>by
   rw[← Array.contains_toList,g8,List.contains_iff_mem]
   constructor
   ·intro hm
    obtain⟨j,hj,e⟩:=List.mem_map.1 hm
    have hjl:=g9 j hj
    have hjl':j<(es.toList.map (·.born)).length:=by simp;omega
    rw[List.getD_eq_getElem?_getD,List.getElem?_eq_getElem hjl'] at e
    have hil':i<(es.toList.map (·.born)).length:=by simp;omega
    have e2:(es.toList.map (·.born))[j]=(es.toList.map (·.born))[i]:=by simpa using e
    have e3:j=i:=by
     by_cases c:j<i
     ·exact absurd e2 (List.pairwise_iff_getElem.1 g7 j i hjl' hil' c)
     ·by_cases c2:i<j
      ·exact absurd e2.symm (List.pairwise_iff_getElem.1 g7 i j hil' hjl' c2)
      ·omega
    rw[← e3];exact hj
   ·intro hm
    exact List.mem_map.2 ⟨i,hm,by simp [List.getD_eq_getElem?_getD,hi]⟩
  have hbm:b ≠ bm:=fun e=>hs.l.disj _ (lk_mem hb) (e ▸ g2)
  rcases run_next_at (P:=C.P) w o.type b bm clock clock seen es clock g1 g3 (fun x hx=>g6 x hx) (Nat.le_refl _) with ⟨hz,hrun⟩|⟨e,he,w1,hw1,hrun⟩
  ·have hall:∀i,i<ks.length→i ∈ vis:=fun i hi=>by
    have hi':i<es.size:=by omega
    refine(hseen i hi').1 ?_
    unfold leftOf at hz
    have:=Array.eq_empty_of_size_eq_zero hz
    rw[Array.filter_eq_empty_iff] at this
    have:=this es[i] (Array.getElem_mem hi')
    simpa using this
   refine⟨.value (.tuple #[.bool false]),w,?_,.inl ⟨_,rfl,?_⟩⟩
   ·unfold execOp;rw[ho]
    simp [hxe,hrun]
   ·exact post_mk (hs.put hd (.tup _ _ rfl fun i c u hc hu=>by
     match i with
     | 0=>simp at hc hu;subst hc;subst hu;exact .v _
     | i+1=>simp at hc)) (h0 hall)
  ·unfold leftOf at he
   simp only[Array.toList_filter,List.mem_filter,Bool.not_eq_true'] at he
   obtain⟨he1,he2⟩:=he
   obtain⟨i,hi,hie⟩:=List.getElem_of_mem he1
   have hi':i<es.size:=by simpa using hi
   have hie:es[i]=e:=by simpa using hie
   subst hie
   have hnv:i ∉ vis:=fun hm=>by rw[(hseen i hi').2 hm] at he2;cases he2
   have hik:i<ks.length:=by omega
   have hw1h:w1.heap=w.heap:=by rcases hw1 with rfl|rfl <;> rfl
   have hs1:StW w0 M A0 C.N ρ L a w1 A ds:=by
    rcases hw1 with rfl|rfl
    ·exact hs
    ·exact hs.drew
   have hput:ChangeMaps.setBlock w1 b (.mapIter (some bm) clock (seen.push es[i].born) clock)=w1.putObj b (.mapIter (some bm) clock (seen.push es[i].born) clock):=rfl
   rw[hput] at hrun
   have hblt:b<w1.heap.size:=by rw[hw1h];exact(hs.l.lk hb).lt
   have hnew:(w1.putObj b (.mapIter (some bm) clock (seen.push es[i].born) clock)).heap[b]?=some (.mapIter (some bm) clock (seen.push es[i].born) clock):=putObj_new hblt
   have hoth:∀m,m ≠ b→(w1.putObj b (.mapIter (some bm) clock (seen.push es[i].born) clock)).heap[m]?=w1.heap[m]?:=fun m hm=>World.putObj_heap_other hm
   have hB:BlkRel (w1.putObj b (.mapIter (some bm) clock (seen.push es[i].born) clock)) A b (.iter ks vs (vis ++ [i])):=by
    refine⟨bm,es,clock,seen.push es[i].born,hnew,g2,?_,g4,g5,g6,g7,?_,?_,fun j x e hx he => ?_⟩
    ·rw[hoth bm (Ne.symm hbm),hw1h];exact g3
    ·rw[Array.toList_push,g8,List.map_append]
     simp [List.getD_eq_getElem?_getD,hi']
    ·intro j hj
     rcases List.mem_append.1 hj with hj|hj
     ·exact g9 j hj
     ·rw[List.mem_singleton.1 hj];exact hik
    ·exact(g10 j x e hx he).later (fun c hc=>by rw[hoth c (fun e=>hs.l.disj _ (lk_mem hb) (e ▸ hc)),hw1h]) (fun _ h=>h)
   have hs2:=hs1.set hb (x:=.iter ks vs (vis ++ [i])) (w':=w1.putObj b (.mapIter (some bm) clock (seen.push es[i].born) clock)) hoth (by simp) rfl rfl rfl rfl hB
   have hkey:ks[i]?.getD undef=es[i].key:=by
    rw[← g4];simp [hi']
   refine⟨.value (.tuple #[.bool true,es[i].key,es[i].val]),w1.putObj b (.mapIter (some bm) clock (seen.push es[i].born) clock),?_,.inl ⟨_,rfl,?_⟩⟩
   ·unfold execOp;rw[ho]
    simp [hxe,hrun]
   ·refine post_mk (hs2.put hd (.tup _ _ rfl fun j c u hc hu => ?_)) (h1 i hik hnv)
    match j with
    | 0=>simp at hc hu;subst hc;subst hu;exact .v _
    | 1=>simp only[List.getElem?_cons_succ,List.getElem?_cons_zero,Option.some.injEq] at hc;simp at hu;subst hc;subst hu;rw[List.getD_eq_getElem?_getD,hkey];exact zav_rel _
    | 2 =>
     simp only[List.getElem?_cons_succ,List.getElem?_cons_zero,Option.some.injEq] at hc;simp at hu;subst hc;subst hu
     refine(g10 i _ _ ?_ (Array.getElem?_eq_getElem hi')).later (fun c hc=>by rw[hoth c (fun e=>hs.l.disj _ (lk_mem hb) (e ▸ hc)),hw1h]) (fun _ h=>h)
     rw[List.getD_eq_getElem?_getD,List.getElem?_eq_getElem (show i<vs.length by omega)];rfl
    | j+3=>simp at hc
theorem AOp.entryMap {x:Operand} {ks:List Value} {vs:List AV} {vis:List Nat} {i b:Nat} (ho:o.op = .entry x) (hd:dstOk C o) (hx:fo (ev ρ x)=(True,.lp b 0 0 0)) (hb:lk L b=some (.iter ks vs (vis ++ [i])))
  (h:K (put ρ o.dst (.tup [zav (ks.getD i undef),vs.getD i .any])) L):AOp C o ρ L K :=
 AOp.of_run (by rw[ho];intro c e;cases e) fun w0 M A0 a w A ds hs=>by
  have rx:=fo_ok (hs.ev x) (by rw[hx];trivial)
  rw[hx] at rx
  have hxe:a.eval x = .pointer (some ⟨b,0,none⟩):=by
   generalize a.eval x=u at rx
   cases rx;rfl
  obtain⟨bm,es,clock,seen,g1,g2,g3,g4,g5,g6,g7,g8,g9,g10⟩:=hs.l.lk hb
  have hi:i<es.size:=by
   have:=g9 i (by simp)
   rw[← g4,List.length_map,Array.length_toList] at this;exact this
  have hsn:seen=(seen.pop).push es[i].born:=by
   rw[List.map_append] at g8
   apply Array.ext'
   rw[Array.toList_push,Array.toList_pop,g8]
   simp [List.getD_eq_getElem?_getD,hi]
  rw[hsn] at g1
  have hrun:=run_entry_at (P:=C.P) w b bm clock seen.pop es clock es[i] g1 g3 (by simp) g7
  have hkey:ks[i]?.getD undef=es[i].key:=by
   rw[← g4];simp [hi]
  have hvl:vs.length=es.size:=by rw[g5,← g4,List.length_map,Array.length_toList]
  refine⟨.value (.tuple #[es[i].key,es[i].val]),w,?_,.inl ⟨_,rfl,?_⟩⟩
  ·unfold execOp;rw[ho]
   simp [hxe,hrun]
  ·refine post_mk (hs.put hd (.tup _ _ rfl fun j c u hc hu => ?_)) h
   match j with
   | 0=>simp at hc hu;subst hc;subst hu;rw[hkey];exact zav_rel _
   | 1 =>
    simp only[List.getElem?_cons_succ,List.getElem?_cons_zero,Option.some.injEq] at hc;simp at hu;subst hc;subst hu
    refine g10 i _ _ ?_ (Array.getElem?_eq_getElem hi)
    rw[List.getD_eq_getElem?_getD,List.getElem?_eq_getElem (show i<vs.length by omega)];rfl
   | j+2=>simp at hc
def mdel (k:Value) (ks:List Value) (vs:List AV):ABlk :=
 match mfind k ks with
 | some i => .amap (ks.eraseIdx i) (vs.eraseIdx i)
 | none => .amap ks vs
theorem AOp.deleteMap {t t' kt et:TypeId} {m k:Operand} {cl:Call} {b s b':Nat} {z:AV} {ks:List Value} {vs:List AV} {κ:KK} {kv:Value} (ho:o.op = .call cl) (h0:cl.callee = .builtin .delete) (ha:cl.args.toList=[m,k]) (hty:cl.argTypes.toList=[t,t'])
  (hd:dstOk C o) (ht:tinfo C.P t=some ⟨.map kt et,s,b',z⟩) (hκ:kkOf C.P kt=some κ) (hm:fo (ev ρ m)=(True,.lm b)) (hb:lk L b=some (.amap ks vs)) (hk:(fo (ev ρ k)).1) (hkv:flatV (fo (ev ρ k)).2=some kv) (hf:κ.fits kv=true) (hall:ks.all κ.fits=true)
  (h:K (put ρ o.dst (.tup [])) (upd L b (mdel kv ks vs))):AOp C o ρ L K :=
 AOp.of_run (by rw[ho];intro c e;cases e) fun w0 M A0 a w A ds hs=>by
  obtain⟨callee,args,argTypes⟩:=cl
  dsimp only at h0 ha hty
  subst h0
  obtain rfl:args = #[m,k]:=by rw[← Array.toArray_toList (xs:=args),ha]
  obtain rfl:argTypes = #[t,t']:=by rw[← Array.toArray_toList (xs:=argTypes),hty]
  have rm:=fo_ok (hs.ev m) (by rw[hm];trivial);rw[hm] at rm
  have rk:=flatV_ok hkv (fo_ok (hs.ev k) hk)
  have hu:=tinfo_map ht
  obtain⟨es,clock,g1,g2,g3,g4,g5,g6⟩:=hs.l.lk hb
  have hmv:a.eval m = .map (some b):=by generalize a.eval m=u at rm;cases rm;rfl
  have hes:∀e ∈ es.toList,κ.fits e.key=true:=fun e he=>List.all_eq_true.1 hall _ (g2 ▸ List.mem_map_of_mem he)
  obtain⟨r,f1,f2,f3⟩:=findKey_ok (P:=C.P) (w:=w) hκ hf es.toList hes
  have hcheck:(Instr.checkKey es.isEmpty 10000 kt kv).run C.P w = .ok () w:=checkKey_ok (P:=C.P) (w:=w) hκ hf es.isEmpty 9998
  have hg:(getObj b).run C.P w = .ok (.map es clock) w:=by simp [getObj,Sem.run,g1]
  have hset:∀o',(setObj b o').run C.P w = .ok () (w.putObj b o'):=fun o'=>by simp [setObj,Sem.run,g1,World.putObj]
  have hlt:b<w.heap.size:=(Array.getElem?_eq_some_iff.1 g1).1
  have hbA:¬A b:=hs.l.disj _ (lk_mem hb)
  have keepR:∀o' (y:AV) (u:Value),Rel w A y u→Rel (w.putObj b o') A y u:=fun o' y u hr=>hr.later (fun c hc=>World.putObj_heap_other (fun e=>hbA (e ▸ hc))) (fun _ h=>h)
  rw[g2] at f2
  have main:∃o',(Builtin.delete_ #[t,t'] o.type #[a.eval m,a.eval k]).run C.P w = .ok (.tuple #[]) (w.putObj b o')∧BlkRel (w.putObj b o') A b (mdel kv ks vs):=by
   rw[hmv,rk]
   unfold mdel
   rw[← f2]
   cases r with
   | none =>
    refine⟨.map es clock,?_,?_⟩
    ·simp [Builtin.delete_,run_underlying hu,hg,hcheck,f1,hset]
    ·exact⟨es,clock,(putObj_new hlt),g2,g3,g4,g5,fun i x e hx he=>keepR _ _ _ (g6 i x e hx he)⟩
   | some p =>
    obtain⟨i,v⟩:=p
    obtain⟨e,he,rfl⟩:=f3 i v rfl
    have hi:i<es.size:=by have:=(List.getElem?_eq_some_iff.1 he).1;simpa using this
    have htl:(es.eraseIdxIfInBounds i).toList=es.toList.eraseIdx i:=by simp [Array.eraseIdxIfInBounds,hi]
    refine⟨.map (es.eraseIdxIfInBounds i) clock,?_,?_⟩
    ·simp [Builtin.delete_,run_underlying hu,hg,hcheck,f1,hset]
    ·have hvl:vs.length=es.size:=by rw[g3,← g2,List.length_map,Array.length_toList]
     refine⟨es.eraseIdxIfInBounds i,clock,(putObj_new hlt),?_,?_,fun e he=>g4 e ?_,?_,fun j x e hx he => ?_⟩
     ·rw[htl,← g2,map_eraseIdx']
     ·simp only[Option.map_some]
      rw[List.length_eraseIdx,List.length_eraseIdx,g3]
     ·rw[htl] at he;exact List.mem_of_mem_eraseIdx he
     ·rw[htl];exact g5.sublist ((List.eraseIdx_sublist _ _).map _)
     ·rw[← Array.getElem?_toList,htl] at he
      rw[List.getElem?_eraseIdx] at hx he
      split at hx
      ·rename_i hc;rw[if_pos hc] at he;exact keepR _ _ _ (g6 j x e hx (by simpa using he))
      ·rename_i hc;rw[if_neg hc] at he;exact keepR _ _ _ (g6 (j+1) x e hx (by simpa using he))
  obtain⟨o',hrun,hB⟩:=main
  refine⟨.value (.tuple #[]),w.putObj b o',?_,.inl ⟨_,rfl,?_⟩⟩
  ·unfold execOp;rw[ho]
   simp [resolve,invoke,builtin,hrun]
  ·exact post_mk ((hs.set hb (fun n hn=>World.putObj_heap_other hn) (by simp) rfl rfl rfl rfl hB).put hd (.tup [] #[] rfl (by simp))) h
end
end Go.AL
end
