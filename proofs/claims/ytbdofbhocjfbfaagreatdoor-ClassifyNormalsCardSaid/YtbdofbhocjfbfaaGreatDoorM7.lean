/- Texts of this claim's proof: WPg, WPh, WRf1, WRf2, WRf9, WPj, WPt, WRf3, WDn, WRf4, WRf5, WRf6, WRf7, WPi, AlBr, AlBr2, AlBr3, AlBr4, AlSrt, WLsf, WCx, AlCutf, AlRed, WCf, WRf8, WDl, WVe, WVt, WVb, WJn, WPw2, WTl, WEf, WEl, WBd, WCl, WRe, WLo, WLp, WLq, WNd, WBs, WSb, WAw, WSr, WOf, WWl, WCt, WLv, WSn, WMk, WMr, WMn, WCu, WBig, WMl, WMc, WMd, WMe, AlWrp. No condition. -/
import Derived.Test.YtbdofbhocjfbfaaGreatDoorM6
import Derived.Test.YtbdofbhocjfbfaaGreatDoorM5
import Derived.Test.YtbdofbhocjfbfaaGreatDoorM4
import Derived.ProofKit
import Derived.Lib.LaidTab
import Derived.Shelf.SlSortCmp.Whole1
import Derived.Test.YtbdofbhocjfbfaaGreatDoorProg
import Derived.Shelf.SlGeneric
section
namespace Go.AL
open Go Go.RowKit
set_option maxRecDepth 4000
theorem variable_values (x:Pr) (h1:x.vars.length≤1000000) (h2:x.evs.length≤1000000) (h3:∀e ∈ x.evs,e.asg.length≤1000000) (ha:AsgOk x) (v:Nat) (hv:v<x.vars.length) :
  PC Proofs.Tryz.prog 227 [aPr x,ai v] (aInts (valsF x v)):=by
 have hst:=variable_states x
 have hvl:=valsF_length x v
 refine PC.enter 20 [.tmp 4] [2,3,17] Proofs.Tryz.func227 rfl rfl rfl rfl rfl (by simp) (AWp.of ?_);simp only[go_sem]
 refine Wk ?_
 intro b5
 refine Sd ?_
 refine AWp.of ?_;simp only[go_sem]
 refine Sd ?_
 refine(hst).val.use ?_;simp only[go_sem]
 refine AWp.block (AWp.rangeFunc rfl [3,5] (stArgs x) (fun j L=>∃w Lw,L=Lw ++ [(b5,.row 42 1 [w] 1)]∧AppSt 3 1 (((valsF x v).take j).map ai) w Lw∧∀p ∈ Lw,p.1 ≠ b5) (fun _ _=>False)
  rfl (variable_states1 x h1 h2 h3 ha) (fun y hy=>by obtain⟨j,hj⟩:=List.getElem?_of_mem hy;unfold stArgs at hj;rw[List.getElem?_map,Option.map_eq_some_iff] at hj;obtain⟨_,_,rfl⟩:=hj;rfl) ⟨anil,[],rfl,.nil,by simp⟩ ?_ ?_ ?_)
 ·rintro j y L' l hy ⟨w,Lw,rfl,hA,hne⟩
  have hjl:j≤x.evs.length:=by
   have:=(List.getElem?_eq_some_iff.1 hy).1
   unfold stArgs at this;simp at this;omega
  rw[stArgs_get x j hjl] at hy
  cases hy
  have hvs:v<(stateAt x j).length:=by rw[stateAt_length];exact hv
  have hgs:=getD_map (f:=ai) hvs
  have hjv:j<(valsF x v).length:=by omega
  have hsu:((valsF x v).take (j+1)).map ai=((valsF x v).take j).map ai ++ [ai (stateAt x j)[v]]:=by
   rw[List.take_succ_eq_append_getElem hjv,List.map_append,valsF_get,List.getD_eq_getElem?_getD,List.getElem?_eq_getElem hvs];rfl
  have hyl:(((valsF x v).take j).map ai).length≤1000000:=by rw[List.length_map,List.length_take];omega
  rw[hsu]
  generalize ((valsF x v).take j).map ai=ys at *
  rcases hA.inv with ⟨e1,rfl,rfl⟩|⟨b,cap,rfl,rfl⟩
  ·simp only[go_sem]
   refine Sd ?_
   refine AWp.of ?_;simp only[go_sem]
   refine AWp.block ?_
   repeat(first|(with_reducible refine AWp.seq ?_)|(with_reducible refine AWp.block ?_))
   refine AWp.mix mixed [1,2,3,4] (.step 0 (.step 5 (.step 6 (.step 7 .done .done) .done) .done) (.step 5 (.step 0 (.step 6 (.step 7 .done .done) .done) .done) .done)) (by kernel_rfl) ?_;simp only[go_sem,hgs]
   refine Sd ?_
   intro b' cap' hlt _
   have n5:¬b5=b':=by omega
   simp only[go_sem,n5]
   refine Sd ?_
   refine⟨_,List.Sublist.refl _,_,[(b',.row 3 1 [_] cap')],rfl,?_,?_⟩
   ·rw[e1];exact .row _ [_] _
   ·intro p hp;simp only[List.mem_singleton] at hp;subst hp;exact fun e=>n5 e.symm
  ·have n1:¬b=b5:=hne (b,_) List.mem_cons_self
   have n2:¬b5=b:=fun e=>n1 e.symm
   simp only[go_sem]
   refine Sd ?_
   refine AWp.of ?_;simp only[go_sem,n1,n2]
   refine AWp.block ?_
   repeat(first|(with_reducible refine AWp.seq ?_)|(with_reducible refine AWp.block ?_))
   refine AWp.mix mixed [1,2,3,4] (.step 0 (.step 5 (.step 6 (.step 7 .done .done) .done) .done) (.step 5 (.step 0 (.step 6 (.step 7 .done .done) .done) .done) .done)) (by kernel_rfl) ?_;simp only[go_sem,hgs,n1,n2]
   refine Sd ?_
   intro b' cap' n5 _
   simp only[go_sem,n5]
   refine Sd ?_
   refine⟨_,List.Sublist.refl _,_,[(b',.row 3 1 (ys ++ [_]) cap')],rfl,?_,?_⟩
   ·have:=AppSt.row (t:=3) (k:=1) b' (ys ++ [ai (stateAt x j)[v]]) cap'
    simpa using this
   ·intro p hp;simp only[List.mem_singleton] at hp;subst hp;exact fun e=>n5 e.symm
 ·rintro L' ⟨w,Lw,rfl,hA,hne⟩
  have hl:(stArgs x).length=x.evs.length+1:=by unfold stArgs;simp
  rw[hl,← hvl,List.take_length] at hA
  rcases hA.inv with ⟨e1,rfl,rfl⟩|⟨b,cap,rfl,rfl⟩
  ·exfalso
   have:=congrArg List.length e1
   rw[List.length_map,hvl] at this
   cases this
  ·have n1:¬b=b5:=hne (b,_) List.mem_cons_self
   have n2:¬b5=b:=fun e=>n1 e.symm
   simp only[go_sem]
   refine W2 n1 n2 ?_
   refine ret_view [true] ?_;simp only[go_sem]
   exact Vw.ofLs (if_pos rfl) (by simp)
 ·rintro e L' h
  exact h.elim
theorem variable_index1 (v:ByteArray × Int) (s:ByteArray):PC Proofs.Tryz.prog 231 [aVar v,.rp 1 [astr s] 0 0] (ab (nmB s v)):=by
 generalize hb:nmB s v=b
 refine PC.enter 8 [.tmp 3] [2] Proofs.Tryz.func231 rfl rfl rfl rfl rfl (by simp) (AWp.of ?_);simp only[go_sem]
 refine Wk ?_
 refine ret_eq ?_;simp only[go_sem]
 rw[← hb];rfl
theorem variable_index (x:Pr) (h1:x.vars.length≤1000000) (s:ByteArray):PC Proofs.Tryz.prog 230 [aPr x,astr s] (ai (varIx x.vars s)):=by
 have hfi:PC Proofs.Tryz.prog 71 [aVars x.vars,.clo 231 [.rp 1 [astr s] 0 0]] (ai (varIx x.vars s)) :=
  vars_indexFunc x.vars h1 (.clo 231 [.rp 1 [astr s] 0 0]) rfl (nmB s) fun v _=>(variable_index1 v s).clo
 generalize varIx x.vars s=r at *
 refine PC.enter 9 [.tmp 4] [2,3] Proofs.Tryz.func230 rfl rfl rfl rfl rfl (by simp) (AWp.of ?_);simp only[go_sem]
 refine Wk ?_
 refine Sd ?_
 refine(hfi).val.use ?_;simp only[go_sem]
 refine Wk ?_
 refine ret_eq ?_;simp only[go_sem]
theorem variable_find (ps:List Pr) (hs:Sm ps) (hv:validF ps=true) (p:Nat) (hp:p<ps.length) (s:ByteArray) (hk:¬varIx ps[p].vars s<0):PC Proofs.Tryz.prog 226 [aTr ps,ai p,astr s] (.tup [ai (varIx ps[p].vars s),ai 0]):=by
 have hval:=trace_Valid ps hs
 rw[hv] at hval
 have hm:=List.getElem_mem hp
 have hgp:=getD_map (f:=aPr) hp
 have hix:=variable_index ps[p] (hs.vars _ hm) s
 generalize varIx ps[p].vars s=r at *
 refine PC.enter 33 [.tmp 6,.tmp 7] [3] Proofs.Tryz.func226 rfl rfl rfl rfl rfl (by simp) (AWp.of ?_);simp only[go_sem]
 refine Wk ?_
 refine Sd ?_
 refine(hval).val.use ?_;simp only[go_sem]
 have h2:¬((p:Int)<0):=by omega
 have h3:¬((ps.length:Int)≤p):=by omega
 refine W3 h2 h3 hgp ?_
 refine Sd ?_
 refine(hix).val.use ?_;simp only[go_sem,hgp]
 refine W1 hk ?_
 refine ret_eq ?_;simp only[go_sem]
theorem variable_Range (ps:List Pr) (hs:Sm ps) (hv:validF ps=true) (p:Int) (hpb:isPB ps.length p=true) (s:ByteArray) (hkn:knownB ps p s=true) :
  PC Proofs.Tryz.prog 212 [aTr ps,ai p,astr s] (.tup [ai (varLo ps p s),ai (varHi ps p s),ai 0]):=by
 obtain⟨p,rfl,hp⟩:=isPB_nat hpb
 have hm:=List.getElem_mem hp
 have hgp:=getD_map (f:=aPr) hp
 have hk:ps[p].vars.any (nmB s)=true:=by unfold knownB at hkn;simpa only [Int.toNat_natCast,List.getElem?_eq_getElem hp] using hkn
 have hng:¬varIx ps[p].vars s<0:=fun h=>by rw[(varIx_neg _ _).1 h] at hk;cases hk
 have hfd:=variable_find ps hs hv p hp s hng
 have hlt:(varIx ps[p].vars s).toNat<ps[p].vars.length:=by
  unfold varIx at hng ⊢
  cases hf:ps[p].vars.findIdx? (nmB s) with
  | none=>rw[hf] at hng;exact absurd (by decide) hng
  | some i=>rw[List.findIdx?_eq_some_iff_getElem] at hf;obtain⟨hi,_⟩:=hf;exact hi
 have hvals:=variable_values ps[p] (hs.vars _ hm) (hs.evs _ hm) (hs.asg _ hm) (asg_of_valid hv p hp) _ hlt
 have hvl:=valsF_length ps[p] (varIx ps[p].vars s).toNat
 have hel:=hs.evs _ hm
 have hmn:=ints_minL (valsF ps[p] (varIx ps[p].vars s).toNat) (by omega) (by omega)
 have hmx:=ints_maxL (valsF ps[p] (varIx ps[p].vars s).toNat) (by omega) (by omega)
 have e1:varLo ps p s=minL (valsF ps[p] (varIx ps[p].vars s).toNat):=by unfold varLo;simp only[Int.toNat_natCast,List.getElem?_eq_getElem hp]
 have e2:varHi ps p s=maxL (valsF ps[p] (varIx ps[p].vars s).toNat):=by unfold varHi;simp only[Int.toNat_natCast,List.getElem?_eq_getElem hp]
 rw[e1,e2]
 have hix:((varIx ps[p].vars s).toNat:Int)=varIx ps[p].vars s:=by omega
 rw[hix] at hvals
 generalize minL (valsF ps[p] (varIx ps[p].vars s).toNat)=lo at *
 generalize maxL (valsF ps[p] (varIx ps[p].vars s).toNat)=hi at *
 generalize valsF ps[p] (varIx ps[p].vars s).toNat=vl at *
 generalize varIx ps[p].vars s=ix at *
 refine PC.enter 32 [.tmp 6,.tmp 7,.tmp 8] [3] Proofs.Tryz.func212 rfl rfl rfl rfl rfl (by simp) (AWp.of ?_);simp only[go_sem]
 refine Wk ?_
 refine Sd ?_
 refine(hfd).val.use ?_;simp only[go_sem]
 refine W1 hgp ?_
 refine Sd ?_
 refine(hvals).val.use ?_;simp only[go_sem,hgp]
 refine Wk ?_
 refine Sd ?_
 refine(hmn).val.use ?_;simp only[go_sem]
 refine Wk ?_
 refine Sd ?_
 refine(hmx).val.use ?_;simp only[go_sem]
 refine Wk ?_
 refine ret_eq ?_;simp only[go_sem]
theorem predtype_great (a b:Int):PC Proofs.Tryz.prog 182 [aIv a b] (ab (tooB a b)):=by
 generalize hb:tooB a b=r
 unfold aIv
 refine PC.enter 11 [.tmp 2] [1] Proofs.Tryz.func182 rfl rfl rfl rfl rfl (by simp) (AWp.of ?_);simp only[go_sem]
 refine Wk ?_
 refine ret_eq ?_;simp only[go_sem]
 rw[← hb];rfl
theorem res_leaf {ps:List Pr} {k n p q:Int} {s:ByteArray} {l:List Pd} (h:resB ps (.mk k n p q s l)=true):(k=2→isPB ps.length p=true∧knownB ps p s=true)∧(k=3→isPB ps.length p=true)∧(k=4→isPB ps.length p=true∧isPB ps.length q=true∧p ≠ q):=by
 simp only[resB] at h
 refine⟨fun e => ?_,fun e => ?_,fun e => ?_⟩
 ·rw[if_pos e] at h;simp only[Bool.and_eq_true] at h;exact⟨h.1.1,h.2⟩
 ·rw[if_neg (by omega),if_pos e] at h;simp only[Bool.and_eq_true] at h;exact h.1.1
 ·rw[if_neg (by omega),if_neg (by omega),if_pos e] at h;simp only[Bool.and_eq_true,Bool.not_eq_true',decide_eq_false_iff_not] at h;exact⟨h.1.1.1,h.1.1.2,h.1.2⟩
theorem predtype_leaf (ps:List Pr) (hs:Sm ps) (hv:validF ps=true) (k n p q:Int) (s:ByteArray) (hk:1≤k∧k≤4) (hr:resB ps (.mk k n p q s [])=true) :
  PC Proofs.Tryz.prog 181 [aTr ps,aPd (.mk k n p q s [])] (aIv (bdL ps k n p q s).1 (bdL ps k n p q s).2):=by
 obtain⟨r2,r3,r4⟩:=res_leaf hr
 have hsp:bdL ps k n p q s=if k=1 then (n,n) else if k=3 then (0,evN ps p) else if k=4 then (0,msgN ps p q) else (varLo ps p s,varHi ps p s):=rfl
 have hh:=predtype_hull [n] (by simp) (by simp)
 have hms:=fun h=>predtype_messages ps hs p h q
 have hrg:=fun h1 h2=>variable_Range ps hs hv p h1 s h2
 have e1:minL [n]=n:=rfl
 have e2:maxL [n]=n:=rfl
 rw[e1,e2] at hh
 simp only[aInts,List.map_cons,List.map_nil] at hh
 generalize bdL ps k n p q s=i at *
 unfold aIv at *
 have hk4:k=1∨k=3∨k=4∨k=2:=by omega
 rcases hk4 with h|h|h|h
 ·rw[if_pos h] at hsp
  refine PC.enter 49 [.cell 4 165] [2,3,14] Proofs.Tryz.func181 rfl rfl rfl rfl rfl (by simp) (AWp.of ?_);simp only[go_sem]
  refine Wk ?_
  intro b4
  repeat(first|((with_reducible refine AWp.ofC ?_ ?_);exact rfl;simp only[go_sem,(eq_true h)])|((with_reducible refine an ?_ ?_);exact Au))
  refine Sd ?_
  refine(hh).val.use ?_;simp only[go_sem]
  refine Wk ?_
  refine ret_eq ?_;simp only[go_sem]
  rw[hsp]
 ·have h1:¬k=1:=by omega
  rw[if_neg h1,if_pos h] at hsp
  obtain⟨p,rfl,hp⟩:=isPB_nat (r3 h)
  have hgp:=getD_map (f:=aPr) hp
  rw[evN_get hp] at hsp
  refine PC.enter 49 [.cell 4 165] [2,3,14] Proofs.Tryz.func181 rfl rfl rfl rfl rfl (by simp) (AWp.of ?_);simp only[go_sem]
  refine Wk ?_
  intro b4
  repeat(first|((with_reducible refine AWp.ofC ?_ ?_);exact rfl;simp only[go_sem,(eq_true h),h1,hgp])|((with_reducible refine an ?_ ?_);exact Au))
  refine ret_eq ?_;simp only[go_sem]
  rw[hsp]
 ·have h1:¬k=1:=by omega
  have h3:¬k=3:=by omega
  rw[if_neg h1,if_neg h3,if_pos h] at hsp
  have hms:=hms (r4 h).1
  refine PC.enter 49 [.cell 4 165] [2,3,14] Proofs.Tryz.func181 rfl rfl rfl rfl rfl (by simp) (AWp.of ?_);simp only[go_sem]
  refine Wk ?_
  intro b4
  repeat(first|((with_reducible refine AWp.ofC ?_ ?_);exact rfl;simp only[go_sem,(eq_true h),h1,h3])|((with_reducible refine an ?_ ?_);exact Au))
  refine Sd ?_
  refine(hms).val.use ?_;simp only[go_sem]
  refine Wk ?_
  refine ret_eq ?_;simp only[go_sem]
  rw[hsp]
 ·have h1:¬k=1:=by omega
  have h3:¬k=3:=by omega
  have h4:¬k=4:=by omega
  rw[if_neg h1,if_neg h3,if_neg h4] at hsp
  have hrg:=hrg (r2 h).1 (r2 h).2
  refine PC.enter 49 [.cell 4 165] [2,3,14] Proofs.Tryz.func181 rfl rfl rfl rfl rfl (by simp) (AWp.of ?_);simp only[go_sem]
  refine Wk ?_
  intro b4
  refine W3 h1 h3 h4 ?_
  refine Sd ?_
  refine(hrg).val.use ?_;simp only[go_sem]
  refine Wk ?_
  refine ret_eq ?_;simp only[go_sem]
  rw[hsp]
set_option maxHeartbeats 4000000 in
theorem predtype_bounds (ps:List Pr) (hs:Sm ps) (hv:validF ps=true) (t:Pd):szF t≤1000000→okT ps t=true→t.kind≤8→PC Proofs.Tryz.prog 148 [aTr ps,aPd t] (aBd (intF ps t)):=by
 induction t using Pd.ind with
 | _ k n p q s l ih =>
 intro hz ht hk
 obtain⟨o1,o2,o3,o4⟩:=okT_sub ht
 obtain⟨hpl,_⟩:=loc_len o1
 simp only[Pd.kind] at hk
 have hch:=child_le ht (show k≤12 by omega)
 have hsz:szF (.mk k n p q s l)=szL l+1:=by rw[szF]
 have hll:=szL_len l
 have hsp:=intF_mk ps k n p q s l
 generalize intF ps (.mk k n p q s l)=I at *
 rcases parts_cases k with ⟨e,hc⟩|⟨e,hc⟩|⟨e,hc⟩|e
 ·obtain rfl:=len0 (l:=l) (by omega)
  have hlf:=predtype_leaf ps hs hv k n p q s (by omega) o2
  simp only[List.map_nil,bdN,bdG] at hsp
  have hgr:=predtype_great (bdL ps k n p q s).1 (bdL ps k n p q s).2
  generalize bdL ps k n p q s=i at *
  obtain⟨lo,hi⟩:=i
  unfold aBd aIv at *
  simp only[aPd_mk,List.map_nil] at *
  generalize tooB lo hi=g at *
  refine PC.enter 116 [.cell 4 165,.tmp 5] [2,3,6,7,75] Proofs.Tryz.func148 rfl rfl rfl rfl rfl (by simp) (AWp.of ?_);simp only[go_sem]
  refine Wk ?_
  intro b4
  refine Wk ?_
  refine⟨fun h0 => ?_,fun h0 => ?_⟩
  ·refine Wk ?_
   refine Sd ?_
   refine(hlf).val.use ?_;simp only[go_sem]
   refine Wk ?_
   intro b6 _
   refine AWp.seq ?_
   repeat(first|(with_reducible refine AWp.seq ?_)|(with_reducible refine AWp.block ?_))
   refine AWp.mix mixed [0,1,2,3,5] (.step 4 .done .done) (by kernel_rfl) ?_;simp only[go_sem]
   refine Sd ?_
   refine Gc hgr ?_
   refine Sd ?_
   refine Wk ?_
   refine ret_eq ?_;simp only[go_sem]
   rw[hsp]
  ·exact absurd rfl h0
 ·obtain⟨a,rfl⟩:=len1 (l:=l) (by omega)
  obtain⟨c1,c2⟩:=hch a (by simp)
  have hza:=szL_mem (l:=[a]) (x:=a) (by simp)
  have hca:=ih a (by simp) (by omega) c1 c2
  have hok:=intF_ok ps a
  simp only[List.map_cons,List.map_nil,bdN] at hsp
  generalize intF ps a=A at *
  obtain⟨a1,a2,a3⟩:=A
  obtain⟨ka,na,pa,qa,sa,la⟩:=a
  have k5:k=5:=by omega
  simp only[bd2,if_pos k5,bdG] at hsp
  have hgr:=predtype_great (-a2) (-a1)
  generalize tooB (-a2) (-a1)=g at *
  unfold aBd aIv at *
  simp only[aPd_mk,List.map_cons,List.map_nil] at *
  refine PC.enter 116 [.cell 4 165,.tmp 5] [2,3,6,7,75] Proofs.Tryz.func148 rfl rfl rfl rfl rfl (by simp) (AWp.of ?_);simp only[go_sem]
  refine Wk ?_
  intro b4
  refine Wk ?_
  intro _
  refine AWp.seq ?_
  repeat(first|(with_reducible refine AWp.seq ?_)|(with_reducible refine AWp.block ?_))
  refine AWp.mix mixed [0,1,2,3,4,5,6,7,8,11] (.step 9 (.step 10 .done .done) .done) (by kernel_rfl) ?_;simp only[go_sem]
  refine Sd ?_
  refine Gc hca ?_
  refine Sd ?_
  intro b7 h47
  clear ih o4 hch
  refine Wk ?_
  intro b9 h49
  have n1:¬b4=b9:=by omega
  have n2:¬b9=b4:=by omega
  refine W2 n1 n2 ?_
  intro _
  refine W2 n1 n2 ?_
  refine⟨fun h1 => ?_,fun h1 => ?_⟩
  ·refine W2 n1 n2 ?_
   refine ret_eq ?_;simp only[go_sem]
   simp only[n1,n2,go_sem]
   rw[hsp,if_neg (by rw[h1];decide)]
  rw[if_pos h1] at hsp
  have hok:=hok h1
  refine W2 n1 n2 ?_
  intro b11 m1 m2
  have n3:¬b4=b11:=by omega
  have n4:¬b11=b4:=by omega
  have n5:¬b9=b11:=by omega
  have n6:¬b11=b9:=by omega
  repeat(first|((with_reducible refine AWp.ofC ?_ ?_);exact rfl;simp only[go_sem,(eq_true k5),n1,n2,n3,n4,n5,n6])|((with_reducible refine an ?_ ?_);exact Au))
  refine AWp.view [true] [(11,.rp 2 [.agg [ai (-a2),ai (-a1)]] 0 0)] (LVw.refl _) (fun p hp=>by simp only[List.mem_singleton] at hp;subst hp;exact Vw.ofLp (if_pos rfl)) ?_
  simp only[go_sem]
  refine AWp.seq ?_
  repeat(first|(with_reducible refine AWp.seq ?_)|(with_reducible refine AWp.block ?_))
  refine AWp.mix mixed [0,1,2,3,5] (.step 4 .done .done) (by kernel_rfl) ?_;simp only[go_sem,n1,n2]
  refine Sd ?_
  refine GCall.use (ab g) (fun _=>⟨At,(hgr).val.use ⟨rfl,rfl⟩⟩) ?_;simp only[go_sem,n1,n2]
  refine Sd ?_
  refine W2 n1 n2 ?_
  refine ret_eq ?_;simp only[go_sem]
  simp only[n1,n2,go_sem]
  rw[hsp]
 ·obtain⟨a,b,rfl⟩:=len2 (l:=l) (by omega)
  have k5:¬k=5:=by omega
  obtain⟨c1,c2⟩:=hch a (by simp)
  obtain⟨c3,c4⟩:=hch b (by simp)
  have hza:=szL_mem (l:=[a,b]) (x:=a) (by simp)
  have hzb:=szL_mem (l:=[a,b]) (x:=b) (by simp)
  have hca:=ih a (by simp) (by omega) c1 c2
  have hcc:=ih b (by simp) (by omega) c3 c4
  have hoka:=intF_ok ps a
  have hokb:=intF_ok ps b
  simp only[List.map_cons,List.map_nil,bdN] at hsp
  clear ih o4 hch
  generalize intF ps a=A at *
  generalize intF ps b=B at *
  obtain⟨a1,a2,a3⟩:=A
  obtain⟨e1,e2,e3⟩:=B
  obtain⟨ka,na,pa,qa,sa,la⟩:=a
  obtain⟨kb,nb,pb,qb,sb,lb⟩:=b
  unfold aBd aIv at *
  simp only[aPd_mk,List.map_cons,List.map_nil] at *
  refine PC.enter 116 [.cell 4 165,.tmp 5] [2,3,6,7,75] Proofs.Tryz.func148 rfl rfl rfl rfl rfl (by simp) (AWp.of ?_);simp only[go_sem]
  refine Wk ?_
  intro b4
  refine Wk ?_
  intro _
  refine AWp.seq ?_
  repeat(first|(with_reducible refine AWp.seq ?_)|(with_reducible refine AWp.block ?_))
  refine AWp.mix mixed [0,1,2,3,4,5,6,7,8,11] (.step 9 (.step 10 .done .done) .done) (by kernel_rfl) ?_;simp only[go_sem]
  refine Sd ?_
  refine Gc hca ?_
  refine Sd ?_
  intro b7 h47
  refine Wk ?_
  intro b9 h49
  have n1:¬b4=b9:=by omega
  have n2:¬b9=b4:=by omega
  refine W2 n1 n2 ?_
  refine⟨fun _ => ?_,fun h=>absurd rfl h⟩
  repeat(first|(with_reducible refine AWp.seq ?_)|(with_reducible refine AWp.block ?_))
  refine AWp.mix mixed [0,1,2,3,4,5,6,7,8,10] (.step 9 .done .done) (by kernel_rfl) ?_;simp only[go_sem,n1,n2]
  refine Sd ?_
  refine GCall.use (.tup [.agg [ai e1,ai e2],ab e3]) (fun _=>⟨At,(hcc).val.use ⟨rfl,rfl⟩⟩) ?_;simp only[go_sem,n1,n2]
  refine Sd ?_
  refine W2 n1 n2 ?_
  refine⟨fun h1 => ?_,fun h1 => ?_⟩
  ·refine W2 n1 n2 ?_
   refine ret_eq ?_;simp only[go_sem]
   simp only[n1,n2,go_sem]
   rw[hsp,if_neg (by rintro⟨x1,x2⟩;rw[x1,x2] at h1;simp at h1)]
  intro h2
  rw[if_pos ⟨h1,h2⟩] at hsp
  have hoka:=hoka h1
  have hokb:=hokb h2
  refine W2 n1 n2 ?_
  intro b11 m1 m2
  have n3:¬b4=b11:=by omega
  have n4:¬b11=b4:=by omega
  have n5:¬b9=b11:=by omega
  have n6:¬b11=b9:=by omega
  have fin:∀(lo hi:Int),bd2 k (a1,a2,a3) (e1,e2,e3)=(lo,hi)→I=(lo,hi,!tooB lo hi):=fun lo hi h=>by rw[hsp,h];rfl
  clear hsp
  by_cases k6:k=6
  ·have fin:=fin (a1+e1) (a2+e2) (by unfold bd2;rw[if_neg k5,if_pos k6])
   have hgr:=predtype_great (a1+e1) (a2+e2)
   generalize tooB (a1+e1) (a2+e2)=g at *
   unfold aIv at hgr
   repeat(first|((with_reducible refine AWp.ofC ?_ ?_);exact rfl;simp only[go_sem,(eq_true k6),k5,n1,n2,n3,n4,n5,n6])|((with_reducible refine an ?_ ?_);exact Au))
   refine AWp.view [true] [(11,.rp 2 [.agg [ai (a1+e1),ai (a2+e2)]] 0 0)] (LVw.refl _) (fun p hp=>by simp only[List.mem_singleton] at hp;subst hp;exact Vw.ofLp (if_pos rfl)) ?_
   simp only[go_sem]
   refine AWp.seq ?_
   repeat(first|(with_reducible refine AWp.seq ?_)|(with_reducible refine AWp.block ?_))
   refine AWp.mix mixed [0,1,2,3,5] (.step 4 .done .done) (by kernel_rfl) ?_;simp only[go_sem,n1,n2]
   refine Sd ?_
   refine GCall.use (ab g) (fun _=>⟨At,(hgr).val.use ⟨rfl,rfl⟩⟩) ?_;simp only[go_sem,n1,n2]
   refine Sd ?_
   refine W2 n1 n2 ?_
   refine ret_eq ?_;simp only[go_sem]
   simp only[n1,n2,go_sem]
   rw[fin]
  by_cases k7:k=7
  ·have fin:=fin (a1 - e2) (a2 - e1) (by unfold bd2;rw[if_neg k5,if_neg k6,if_pos k7])
   have hgr:=predtype_great (a1 - e2) (a2 - e1)
   generalize tooB (a1 - e2) (a2 - e1)=g at *
   unfold aIv at hgr
   repeat(first|((with_reducible refine AWp.ofC ?_ ?_);exact rfl;simp only[go_sem,(eq_true k7),k5,k6,n1,n2,n3,n4,n5,n6])|((with_reducible refine an ?_ ?_);exact Au))
   refine AWp.view [true] [(11,.rp 2 [.agg [ai (a1 - e2),ai (a2 - e1)]] 0 0)] (LVw.refl _) (fun p hp=>by simp only[List.mem_singleton] at hp;subst hp;exact Vw.ofLp (if_pos rfl)) ?_
   simp only[go_sem]
   refine AWp.seq ?_
   repeat(first|(with_reducible refine AWp.seq ?_)|(with_reducible refine AWp.block ?_))
   refine AWp.mix mixed [0,1,2,3,5] (.step 4 .done .done) (by kernel_rfl) ?_;simp only[go_sem,n1,n2]
   refine Sd ?_
   refine GCall.use (ab g) (fun _=>⟨At,(hgr).val.use ⟨rfl,rfl⟩⟩) ?_;simp only[go_sem,n1,n2]
   refine Sd ?_
   refine W2 n1 n2 ?_
   refine ret_eq ?_;simp only[go_sem]
   simp only[n1,n2,go_sem]
   rw[fin]
  have hp1:=predtype_product a1 e1 (by omega) (by omega)
  have hp2:=predtype_product a1 e2 (by omega) (by omega)
  have hp3:=predtype_product a2 e1 (by omega) (by omega)
  have hp4:=predtype_product a2 e2 (by omega) (by omega)
  have fin:=fin _ _ (by unfold bd2;rw[if_neg k5,if_neg k6,if_neg k7])
  dsimp only at fin
  generalize timesF a1 e1=t1 at *
  generalize timesF a1 e2=t2 at *
  generalize timesF a2 e1=t3 at *
  generalize timesF a2 e2=t4 at *
  have hh:=predtype_hull [t1,t2,t3,t4] (by simp) (by simp)
  generalize minL [t1,t2,t3,t4]=lo at *
  generalize maxL [t1,t2,t3,t4]=hi at *
  have hgr:=predtype_great lo hi
  generalize tooB lo hi=g at *
  simp only[aInts,List.map_cons,List.map_nil] at hh
  unfold aIv at hgr hh
  repeat(first|((with_reducible refine AWp.ofC ?_ ?_);exact rfl;simp only[go_sem,k5,k6,k7,n1,n2,n3,n4,n5,n6])|((with_reducible refine an ?_ ?_);exact Au))
  refine AWp.view [false,true] [(9,.rp 2 [.agg [ai e1,ai e2]] 0 0)] (LVw.refl _) (fun p hp=>by simp only[List.mem_singleton] at hp;subst hp;exact Vw.ofLp (if_pos rfl)) ?_
  simp only[go_sem]
  repeat(first|(with_reducible refine AWp.seq ?_)|(with_reducible refine AWp.block ?_))
  refine AWp.mix mixed [0,1,2,3,4,5,6,7,8,9,10,11,12,13,14,15,16,17,18,19] (.step 20 (.step 21 (.step 22 .done .done) .done) .done) (by kernel_rfl) ?_;simp only[go_sem,n3,n4]
  refine Sd ?_
  refine GCall.use (ai t1) (fun _=>⟨At,(hp1).val.use ⟨rfl,rfl⟩⟩) ?_;simp only[go_sem,n3,n4]
  refine Sd ?_
  refine GCall.use (ai t2) (fun _=>⟨At,(hp2).val.use ⟨rfl,rfl⟩⟩) ?_;simp only[go_sem,n3,n4]
  refine Sd ?_
  refine GCall.use (ai t3) (fun _=>⟨At,(hp3).val.use ⟨rfl,rfl⟩⟩) ?_;simp only[go_sem,n3,n4]
  refine Sd ?_
  refine GCall.use (ai t4) (fun _=>⟨At,(hp4).val.use ⟨rfl,rfl⟩⟩) ?_;simp only[go_sem,n3,n4]
  refine Sd ?_
  refine Sd ?_
  refine(hh).val.use ?_;simp only[go_sem,n3,n4]
  refine Sd ?_
  refine AWp.view [true] [(11,.rp 2 [.agg [ai lo,ai hi]] 0 0)] (LVw.refl _) (fun p hp=>by simp only[List.mem_singleton] at hp;subst hp;exact Vw.ofLp (if_pos rfl)) ?_
  simp only[go_sem]
  refine AWp.seq ?_
  repeat(first|(with_reducible refine AWp.seq ?_)|(with_reducible refine AWp.block ?_))
  refine AWp.mix mixed [0,1,2,3,5] (.step 4 .done .done) (by kernel_rfl) ?_;simp only[go_sem]
  refine Sd ?_
  refine Gc hgr ?_
  refine Sd ?_
  refine Wk ?_
  refine ret_eq ?_;simp only[go_sem]
  rw[fin]
 ·omega
def truN (k:Int) (v:List Int) (b:List Bool):Bool :=
 if k=9 then decide (v.getD 0 0=v.getD 1 0) else if k=10 then !decide (v.getD 0 0=v.getD 1 0) else if k=11 then decide (v.getD 0 0<v.getD 1 0) else if k=12 then decide (v.getD 0 0≤v.getD 1 0) else
 if k=13 then true else if k=14 then false else if k=15 then !b.getD 0 false else if k=16 then b.getD 0 false && b.getD 1 false else b.getD 0 false || b.getD 1 false
mutual
def truF (o:Obs):Pd→Bool
 | .mk k _ _ _ _ l=>truN k (valL o l) (truL o l)
def truL (o:Obs):List Pd→List Bool
 | []=>[]
 | x :: r=>truF o x :: truL o r
end
def tempB:Pd→Bool | .mk k _ _ _ _ _=>decide (18≤k∧k≤21)
def ntmB (x:Pd):Bool:=!tempB x
noncomputable def checkF (ps:List Pr) (t:Pd):Int:=if (validF ps && formedB t)=false then 1 else if allB (resB ps) t=false then 13 else if typedB t=false then 14 else if fitB ps t=false then 9 else 0
def stC (n p:Nat) (k:Int):List Int:=(List.replicate n 0).set p k
end Go.AL
end
section
namespace Go.AL
open Go Go.RowKit
end Go.AL
end
section
namespace Go.AL
open Go Go.RowKit
set_option maxRecDepth 4000
open Classical in
noncomputable def pastA (ps:List Pr) (x:Eid):AV:=.sl 1 ((List.range ps.length).map fun (p:Nat) => .sl 1 ((List.range (nev ps p+1)).map fun (k:Nat)=>ab (decide (VEv ps ((p:Int),(k:Int))∧Reach ps ((p:Int),(k:Int)) x))))
end Go.AL
end
section
namespace Go.AL
open Go Go.RowKit
set_option maxRecDepth 4000
open Classical in
noncomputable def pastR (ps:List Pr) (x:Eid) (p:Nat):List AV:=(List.range (nev ps p+1)).map fun (k:Nat)=>ab (decide (VEv ps ((p:Int),(k:Int))∧Reach ps ((p:Int),(k:Int)) x))
end Go.AL
end
section
namespace Go.AL
open Go Go.RowKit
set_option maxRecDepth 4000
theorem predtype_small (ps:List Pr) (hs:Sm ps) (hv:validF ps=true) (t:Pd):szF t≤1000000→okT ps t=true→PC Proofs.Tryz.prog 112 [aTr ps,aPd t] (ab (fitB ps t)):=by
 induction t using Pd.ind with
 | _ k n p q s l ih =>
 intro hz ht
 have hsz:szF (.mk k n p q s l)=szL l+1:=by rw[szF]
 have hll:=szL_len l
 have hsp:=fitB_mk ps k n p q s l
 have hr:=predtype_result k
 have hbd:=fun h=>predtype_bounds ps hs hv (.mk k n p q s l) hz ht h
 have h1:∀x ∈ l,PV Proofs.Tryz.prog (.clo 149 [.rp 1 [aTr ps] 0 0]) [aPd x] (ab (!fitB ps x)):=by
  intro x hx
  have hxi:=szL_mem hx
  have hch:=ih x hx (by omega) ((okT_sub ht).2.2.2 x hx).1
  generalize fitB ps x=b at *
  obtain⟨k2,n2,p2,q2,s2,l2⟩:=x
  refine PC.clo ?_
  simp only[aPd_mk] at *
  refine PC.enter 8 [.tmp 3] [2] Proofs.Tryz.func149 rfl rfl rfl rfl rfl (by simp) (AWp.of ?_);simp only[go_sem]
  refine Wk ?_
  refine Sd ?_
  refine(hch).val.use ?_;simp only[go_sem]
  refine Wk ?_
  refine ret_eq ?_;simp only[go_sem]
 have hc:=preds_containsFunc l (by omega) _ rfl (fun x => !fitB ps x) h1
 have hall:l.all (fitB ps) = !l.any fun x => !fitB ps x:=by rw[List.all_eq_not_any_not]
 rw[hall] at hsp
 generalize (l.any fun x => !fitB ps x)=c at *
 generalize fitB ps (.mk k n p q s l)=F at *
 simp only[Pd.kind] at hbd
 have hrk:resF k=1↔k≤8:=by unfold resF;split <;> omega
 generalize resF k=r at *
 generalize intF ps (.mk k n p q s l)=I at *
 unfold aBd aIv at hbd
 simp only[aPd_mk] at *
 refine PC.enter 23 [.tmp 4] [2,3,5] Proofs.Tryz.func112 rfl rfl rfl rfl rfl (by simp) (AWp.of ?_);simp only[go_sem]
 refine Wk ?_
 refine Sd ?_
 refine(hr).val.use ?_;simp only[go_sem]
 refine Wk ?_
 refine⟨fun h2 => ?_,fun h2 => ?_⟩
 ·have hk:=hrk.1 h2
  rw[if_pos hk] at hsp
  have hbd:=hbd hk
  refine Wk ?_
  refine Sd ?_
  refine(hbd).val.use ?_;simp only[go_sem]
  refine Wk ?_
  intro b5
  refine Wk ?_
  refine ret_eq ?_;simp only[go_sem]
  rw[hsp]
 ·rw[if_neg (fun h=>h2 (hrk.2 h))] at hsp
  refine Wk ?_
  refine Sd ?_
  refine(hc).val.use ?_;simp only[go_sem]
  refine Wk ?_
  refine ret_eq ?_;simp only[go_sem]
  rw[hsp]
theorem predtype_Check (ps:List Pr) (hs:Sm ps) (t:Pd) (hz:szF t≤1000000):PC Proofs.Tryz.prog 76 [aTr ps,aPd t] (ai (checkF ps t)):=by
 have h1:=trace_Valid ps hs
 have h2:=predtype_formed t hz
 have h3:=predtype_resolved ps hs t hz
 have h4:=predtype_typed t hz
 have h5:=fun h1 h2=>predtype_small ps hs h1 t hz h2
 have hsp:checkF ps t=if (validF ps && formedB t)=false then 1 else if allB (resB ps) t=false then 13 else if typedB t=false then 14 else if fitB ps t=false then 9 else 0:=rfl
 have hok:formedB t=true→allB (resB ps) t=true→typedB t=true→okT ps t=true:=fun a b c=>by
  unfold okT;unfold formedB at a;unfold typedB at c
  simp only[Bool.and_eq_true] at a ⊢
  exact⟨⟨a.2,b⟩,c⟩
 generalize checkF ps t=r at *
 generalize okT ps t=O at *
 generalize validF ps=V at *
 generalize formedB t=F at *
 generalize allB (resB ps) t=R at *
 generalize typedB t=T at *
 generalize fitB ps t=S at *
 obtain⟨k,n,p,q,s,l⟩:=t
 simp only[aPd_mk] at *
 refine PC.enter 28 [.tmp 4] [2,3] Proofs.Tryz.func76 rfl rfl rfl rfl rfl (by simp) (AWp.of ?_);simp only[go_sem]
 refine Wk ?_
 refine Sd ?_
 refine(h1).val.use ?_;simp only[go_sem]
 refine Sd ?_
 refine Gc h2 ?_
 refine Sd ?_
 refine Wk ?_
 refine⟨fun h6 => ?_,fun h6 => ?_⟩
 ·refine Wk ?_
  refine ret_eq ?_;simp only[go_sem]
  rw[hsp,if_pos (by cases V <;> simp_all)]
 intro h7
 rw[if_neg (by rw[h6,h7];decide)] at hsp
 refine Wk ?_
 refine Sd ?_
 refine(h3).val.use ?_;simp only[go_sem]
 refine Wk ?_
 refine⟨fun h8 => ?_,fun h8 => ?_⟩
 ·refine Wk ?_
  refine ret_eq ?_;simp only[go_sem]
  rw[hsp,if_pos h8]
 rw[if_neg (by rw[h8];decide)] at hsp
 refine Wk ?_
 refine Sd ?_
 refine(h4).val.use ?_;simp only[go_sem]
 refine Wk ?_
 refine⟨fun h9 => ?_,fun h9 => ?_⟩
 ·refine Wk ?_
  refine ret_eq ?_;simp only[go_sem]
  rw[hsp,if_pos h9]
 rw[if_neg (by rw[h9];decide)] at hsp
 have h5:=h5 h6 (hok h7 h8 h9)
 refine Wk ?_
 refine Sd ?_
 refine(h5).val.use ?_;simp only[go_sem]
 refine Wk ?_
 refine⟨fun h10 => ?_,fun h10 => ?_⟩
 ·refine Wk ?_
  refine ret_eq ?_;simp only[go_sem]
  rw[hsp,if_pos h10]
 rw[if_neg (by rw[h10];decide)] at hsp
 refine Wk ?_
 refine ret_eq ?_;simp only[go_sem]
 rw[hsp]
theorem ref28_kind (k n p q:Int) (s:ByteArray) (l:List Pd):PC Proofs.Tryz.prog 64 [aPd (.mk k n p q s l)] (ai (resF k)):=by
 have hr:resF k=if k≤8 then 1 else 2:=rfl
 generalize resF k=r at *
 refine PC.enter 6 [.tmp 2] [1] Proofs.Tryz.func64 rfl rfl rfl rfl rfl (by simp) (AWp.of ?_);simp only[go_sem]
 refine Wk ?_
 refine⟨fun h1 => ?_,fun h1 => ?_⟩
 ·refine Wk ?_
  refine ret_eq ?_;simp only[go_sem]
  rw[hr,if_pos h1]
 ·refine Wk ?_
  refine ret_eq ?_;simp only[go_sem]
  rw[hr,if_neg h1]
theorem all_and2 {α:Type} (f g:α→Bool) (l:List α):(l.all f && l.all g)=l.all fun x=>f x && g x:=by
 induction l with
 | nil=>rfl
 | cons a r ih=>rw[List.all_cons,List.all_cons,List.all_cons,← ih];cases f a <;> cases g a <;> cases r.all f <;> rfl
theorem ref28_typed (t:Pd):szF t≤1000000→allB locB t=true→PC Proofs.Tryz.prog 63 [aPd t] (ab (allB typB t)):=by
 induction t using Pd.ind with
 | _ k n p q s l ih =>
 intro hz ht
 have hsz:szF (.mk k n p q s l)=szL l+1:=by rw[szF]
 have hll:=szL_len l
 obtain⟨ht1,ht2⟩:=allB_sub ht
 obtain⟨hpl,_⟩:=loc_len ht1
 have hsp:allB typB (.mk k n p q s l)=l.all fun x => !tyNe k x.kind && allB typB x:=by
  rw[allB_mk]
  show ((!l.any fun x=>tyNe k x.kind) && l.all (allB typB))=_
  rw[List.not_any_eq_all_not,all_and2]
 generalize allB typB (.mk k n p q s l)=B at *
 obtain⟨pB,hpB⟩:∃pB:Pd→Bool,pB=fun x => !tyNe k x.kind && allB typB x:=⟨_,rfl⟩
 rw[← hpB] at hsp
 refine PC.enter 32 [.tmp 2] [1] Proofs.Tryz.func63 rfl rfl rfl rfl rfl (by simp) (AWp.of ?_);simp only[go_sem]
 refine Wk ?_
 refine AWp.block (AWp.count 3 l.length [] [1] (fun i vs L=>L=[]∧∀j (hj:j<l.length),j<i→pB l[j]=true) rfl rfl ⟨rfl,by omega⟩ ?_)
 rintro i vs L hi - ⟨rfl,hI⟩
 simp only[go_sem]
 refine Wk ?_
 refine⟨fun h4 => ?_,fun h4 => ?_⟩
 ·have hil:i<l.length:=by omega
  have hk:needF k=if 15≤k then 2 else 1:=by
   unfold needF
   rcases parts_cases k with ⟨e,hc⟩|⟨e,hc⟩|⟨e,hc⟩|e
   ·omega
   ·split <;> split <;> omega
   ·split <;> split <;> omega
   ·omega
  have hgi:=getD_map (f:=aPd) hil
  have hzi:=szL_mem (List.getElem_mem hil)
  have hch:=ih l[i] (List.getElem_mem hil) (by omega) (ht2 _ (List.getElem_mem hil))
  have hnx:=all_next (f:=pB) hI hil
  have hno:=all_not (f:=pB) hil
  have hxt:pB l[i]=true↔resF l[i].kind=needF k∧allB typB l[i]=true:=by rw[hpB];simp only[tyNe,Bool.and_eq_true,Bool.not_eq_true',decide_eq_false_iff_not,Decidable.not_not]
  generalize l[i]=x at *
  generalize allB typB x=bx at *
  obtain⟨k2,n2,p2,q2,s2,l2⟩:=x
  have hkd:=ref28_kind k2 n2 p2 q2 s2 l2
  simp only[aPd_mk,Pd.kind] at hgi hch hkd hxt
  generalize resF k2=r at *
  by_cases h15:15≤k
  ·have hk:needF k=2:=by rw[hk,if_pos h15]
   rw[hk] at hxt
   repeat(first|((with_reducible refine AWp.ofC ?_ ?_);exact rfl;simp only[go_sem,(eq_true h15),hgi])|((with_reducible refine an ?_ ?_);exact Au))
   refine Sd ?_
   refine(hkd).val.use ?_;simp only[go_sem,hgi]
   refine Sd ?_
   refine Gc hch ?_
   refine Sd ?_
   refine Wk ?_
   refine⟨fun h5 => ?_,fun h5 => ?_⟩
   ·refine Wk ?_
    refine ret_eq ?_;simp only[go_sem]
    rw[hsp,hno (by rw[← Bool.not_eq_true,hxt];rintro⟨e1,e2⟩;rcases h5 with h5|h5;exact h5 e1;rw[h5] at e2;cases e2)]
   ·intro h6
    refine Wk ?_
    exact⟨_,List.Sublist.refl _,rfl,hnx (hxt.2 ⟨h5,h6⟩)⟩
  ·have hk:needF k=1:=by rw[hk,if_neg h15]
   rw[hk] at hxt
   refine W2 h15 hgi ?_
   refine Sd ?_
   refine(hkd).val.use ?_;simp only[go_sem,hgi]
   refine Sd ?_
   refine Gc hch ?_
   refine Sd ?_
   refine Wk ?_
   refine⟨fun h5 => ?_,fun h5 => ?_⟩
   ·refine Wk ?_
    refine ret_eq ?_;simp only[go_sem]
    rw[hsp,hno (by rw[← Bool.not_eq_true,hxt];rintro⟨e1,e2⟩;rcases h5 with h5|h5;exact h5 e1;rw[h5] at e2;cases e2)]
   ·intro h6
    refine Wk ?_
    exact⟨_,List.Sublist.refl _,rfl,hnx (hxt.2 ⟨h5,h6⟩)⟩
 ·refine Wk ?_
  refine ret_eq ?_;simp only[go_sem]
  rw[hsp,all_of hI (by omega)]
end Go.AL
end
section
namespace Go.AL
open Go Go.RowKit Go.ChangeShapes Go.WideShapes Go.ChangeAt
theorem Fr.below {W W':World} (h:Fr W (keysOf []) W'):Below W.heap.size W W':=⟨h.os,h.tape,h.output,h.size,fun k hk=>h.block k hk (by rintro⟨x,hx,_⟩;cases hx)⟩
theorem LRel.empty (W:World) (hg:∀g x,GV g=some x→Rel W (fun b=>b<W.heap.size) x (.pointer (some ⟨g,0,none⟩))):LRel W (fun b=>b<W.heap.size) []:=⟨fun _ h=>h,(by intro x hx;cases hx),List.nodup_nil,(by intro x hx;cases hx),hg⟩
theorem PC.calls {P:Program} {f:FuncId} {args:List AV} {x:Value} (h:PC P f args (.v x)) {W:World} {vs:List Value} (hg:∀g x,GV g=some x→Rel W (fun b=>b<W.heap.size) x (.pointer (some ⟨g,0,none⟩))) (hr:Rels W (fun b=>b<W.heap.size) args vs) :
  Calls P f vs.toArray W fun e W'=>e = .returned x∧Below W.heap.size W W' :=
 ((h.2 0 W _ vs (LRel.empty W hg) hr).calls (fun _ d hd=>by cases hd)).mono fun e W' ⟨v,r,L',A',he,⟨hr,_⟩,hf,_,_,_,hv⟩=>by
  subst he hr
  cases hv
  exact⟨rfl,hf.below⟩
def Rd {H:Type} (enc:TypeId × Value→H) (P:Program) (W:World) (t:TypeId) (k:Nat) {α:Type} (E:α→AV) (ok:α→Prop):Prop :=
 ∀fuel cs x,DataW.trod enc P W 0 (fun _=>true) true fuel t cs=some x→∃y,ok y∧elOk k (E y)∧cs.length=k∧∀(i:Nat) c u,(E y).cells[i]?=some c→cs[i]?=some u→Rel W (fun b=>b<W.heap.size) c u
section
variable {H:Type} {enc:TypeId × Value→H} {P:Program} {W:World} {t:TypeId}
theorem Rd.int (ht:P.underlying t=some (.int .i64)):Rd enc P W t 1 ai (fun n=>(Lit.int .i64 n).wf=true):=by
 intro fuel cs x h
 obtain⟨n,rfl,_,hw⟩:=DataW.trod_int ht h
 refine⟨n,hw,⟨rfl,rfl⟩,rfl,fun i c u h1 h2 => ?_⟩
 cases i with
 | zero=>cases h1;cases h2;exact .v _
 | succ i=>cases h2
theorem Rd.str (ht:P.underlying t=some .string):Rd enc P W t 1 (fun s => .v (.string s)) (fun _=>True):=by
 intro fuel cs x h
 obtain⟨s,rfl,_,hw⟩:=DataW.trod_string ht h
 refine⟨s,trivial,⟨rfl,rfl⟩,rfl,fun i c u h1 h2 => ?_⟩
 cases i with
 | zero=>cases h1;cases h2;exact .v _
 | succ i=>cases h2
theorem ofFin {α:Type} {len:Nat} {Q:Nat→α→Prop} (h:∀i,i<len→∃y,Q i y):∃l:List α,l.length=len∧∀(i:Nat) (hi:i<l.length),Q i l[i]:=by
 refine⟨List.ofFn fun i:Fin len=>Classical.choose (h i i.2),List.length_ofFn,fun i hi => ?_⟩
 rw[List.getElem_ofFn]
 exact Classical.choose_spec (h i (by simpa using hi))
theorem add_none (b off n:Nat):(⟨b,off,none⟩:Addr).add n=⟨b,off+n,none⟩:=by
 unfold Addr.add;split
 ·rename_i h;rw[h];rfl
 ·rfl
theorem trodAll_stays {W':World} (hl:laidOutB P=true) (hb:Below W.heap.size W W'):∀ {ts:List TypeId} {vs:List Value} {ds:List (DataW H)} {ps:List MemPlace},(∀t ∈ ts,P.readableRec t=true∧t<P.types.size)→DataW.TrodAll enc P W 0 (fun _=>true) true ts vs ds ps →
  DataW.TrodAll enc P W' 0 (fun b=>decide (b<W.heap.size)) true ts vs ds ps
 | [],_,_,_,_,h=>by
  obtain⟨rfl,rfl,rfl⟩:=trodAll_nil h
  rfl
 | t :: ts,_,_,_,ht,h=>by
  have hlt:=h.lt
  obtain⟨v,vs1,d,ds1,a,b,rfl,rfl,rfl,h1,h2⟩:=trodAll_cons h
  exact⟨a,b,Below.trod hl (ht t List.mem_cons_self).1 (ht t List.mem_cons_self).2 h1 hb (fun x hx=>hlt x (List.mem_append_left _ hx)),trodAll_stays hl hb (fun t' ht'=>ht t' (List.mem_cons_of_mem _ ht')) h2,rfl⟩
theorem post_true {f:Func} {s:ChangeSpec} {fresh handsOn:Bool} {W':World} {args:Array Value} {ds:List (DataW H)} {before:List MemPlace} {tb:TypeId} (hl:laidOutB P=true)
  (hW:DataW.Whole enc P f.params.toList s.vars false W args.toList ds [] before) (hv:s.vars=[]) (hs:s.fn H (ds ++ []) = { results:=[.lit (.bool true)],args:=ds })
  (hr:f.resultTypes = #[tb]) (ht:P.underlying tb=some .bool) (hp:∀t ∈ f.params.toList,P.readableRec t=true∧t<P.types.size) (hb:Below W.heap.size W W') :
  s.post enc P f false fresh handsOn false W args (.bool true) W':=by
 have hW0:=hW
 obtain⟨p,q,hA,hV,rfl,_,_⟩:=hW0
 refine⟨ds,[],p ++ q,[],p,[],hW,?_,?_,?_,hb.frame _,fun h=>by cases h⟩
 ·rw[hs,hr]
  exact⟨[],[],⟨1,by simp [DataW.trod,Value.cells,ht]⟩,rfl,rfl⟩
 ·rw[hs]
  exact trodAll_stays hl hb hp hA
 ·rw[hs,hv];rfl
end
end Go.AL
end
section
namespace Go.AL
open Go Go.RowKit Go.ChangeShapes Go.WideShapes Go.ChangeAt
section
variable {H:Type} {enc:TypeId × Value→H} {P:Program} {W:World} {t:TypeId}
theorem Rd.map {α β:Type} {k:Nat} {E:α→AV} {E':β→AV} {ok:α→Prop} {ok':β→Prop} (f:α→β) (hE:∀y,E y=E' (f y)) (hok:∀y,ok y→ok' (f y)) (h:Rd enc P W t k E ok):Rd enc P W t k E' ok':=by
 intro fuel cs x hx
 obtain⟨y,k1,k2,k3,k4⟩:=h fuel cs x hx
 exact⟨f y,hok y k1,by rw[← hE];exact k2,k3,by rw[← hE];exact k4⟩
theorem Rd.agg {α:Type} {k:Nat} {E:α→AV} {F:α→List AV} {ok:α→Prop} (hE:∀y,E y = .agg (F y)) (h:Rd enc P W t k E ok) {v:Value} {d:DataW H} {ps:List MemPlace} (ha:∃us,v = .agg us)
  (hd:DataW.Trod enc P W 0 (fun _=>true) true t v d ps):∃y,ok y∧Rel W (fun b=>b<W.heap.size) (E y) v:=by
 obtain⟨us,rfl⟩:=ha
 obtain⟨fuel,hf⟩:=hd
 obtain⟨y,k1,k2,k3,k4⟩:=h _ _ _ hf
 refine⟨y,k1,?_⟩
 have e1:(E y).cells=F y:=by rw[hE];rfl
 have e2:(Value.agg us).cells.toList=us.toList:=rfl
 have k5:=k2.1
 rw[e1] at k4 k5
 rw[e2] at k3 k4
 rw[hE]
 refine .agg _ _ ?_ fun i c u h1 h2=>k4 i c u h1 (by simpa using h2)
 rw[k5,← k3];simp
theorem okWide_agg {r:Go.Reach} {b:Nat} {fs:Array Field} {v:Value} (ht:P.underlying t=some (.struct fs)) (h:Value.okWide P W r b t v):∃us,v = .agg us:=by
 unfold Value.okWide at h
 rw[ht] at h
 obtain⟨cs,h1,_⟩:=h
 exact⟨cs,h1⟩
theorem Rd.one {α:Type} {E:α→AV} {ok:α→Prop} (h:Rd enc P W t 1 E ok) (h1:∀y,(E y).cells=[E y]) {v:Value} {d:DataW H} {ps:List MemPlace} (hc:v.cells = #[v])
  (hd:DataW.Trod enc P W 0 (fun _=>true) true t v d ps):∃y,ok y∧Rel W (fun b=>b<W.heap.size) (E y) v:=by
 obtain⟨fuel,hf⟩:=hd
 rw[hc] at hf
 obtain⟨y,k1,_,_,k4⟩:=h _ _ _ hf
 exact⟨y,k1,k4 0 _ _ (by rw[h1];rfl) rfl⟩
end
end Go.AL
end
section
namespace Go.AL
open Go Go.RowKit Go.ChangeShapes Go.WideShapes Go.ChangeAt
def RdF {H:Type} (enc:TypeId × Value→H) (P:Program) (W:World) (N:Nat) (t:TypeId) (k:Nat) {α:Type} (E:α→AV) (ok:α→Prop):Prop :=
 ∀fuel cs x,fuel≤N→DataW.trod enc P W 0 (fun _=>true) true fuel t cs=some x→∃y,ok y∧elOk k (E y)∧cs.length=k∧∀(i:Nat) c u,(E y).cells[i]?=some c→cs[i]?=some u→Rel W (fun b=>b<W.heap.size) c u
section
variable {H:Type} {enc:TypeId × Value→H} {P:Program} {W:World} {t:TypeId}
theorem Rd.bounded {α:Type} {k:Nat} {E:α→AV} {ok:α→Prop} (h:Rd enc P W t k E ok) (N:Nat):RdF enc P W N t k E ok:=fun fuel cs x _ hx=>h fuel cs x hx
theorem RdF.all {α:Type} {k:Nat} {E:α→AV} {ok:α→Prop} (h:∀N,RdF enc P W N t k E ok):Rd enc P W t k E ok:=fun fuel cs x hx=>h fuel fuel cs x (Nat.le_refl _) hx
theorem RdF.mono {α:Type} {k:Nat} {E:α→AV} {ok:α→Prop} {N M:Nat} (h:RdF enc P W N t k E ok) (hM:M≤N):RdF enc P W M t k E ok:=fun fuel cs x hf hx=>h fuel cs x (by omega) hx
theorem RdF.zero {α:Type} {k:Nat} {E:α→AV} {ok:α→Prop} : RdF enc P W 0 t k E ok:=fun fuel cs x hf hx=>by
 obtain rfl:fuel=0:=by omega
 simp [DataW.trod] at hx
theorem RdF.map {α β:Type} {k:Nat} {N:Nat} {E:α→AV} {E':β→AV} {ok:α→Prop} {ok':β→Prop} (f:α→β) (hE:∀y,E y=E' (f y)) (hok:∀y,ok y→ok' (f y)) (h:RdF enc P W N t k E ok):RdF enc P W N t k E' ok':=by
 intro fuel cs x hN hx
 obtain⟨y,k1,k2,k3,k4⟩:=h fuel cs x hN hx
 exact⟨f y,hok y k1,by rw[← hE];exact k2,k3,by rw[← hE];exact k4⟩
theorem RdF.slice {N:Nat} {α:Type} {E:α→AV} {ok:α→Prop} {e:TypeId} {k:Nat} (ht:P.underlying t=some (.slice e)) (hk:P.cellsOf e=k) (h0:0<k) (he:RdF enc P W N e k E ok) :
  RdF enc P W (N+1) t 1 (fun l:List α => .sl k (l.map E)) (fun l=>l.length≤maxLen∧∀y ∈ l,ok y):=by
 intro fuel cs x hN h
 rcases DataW.trod_slice ht h with ⟨rfl,_⟩|⟨a,len,cap,elems,rest,n,hfu,rfl,_,_,hl,hm,hlen,hel,_,_⟩
 ·refine⟨[],⟨by simp,by simp⟩,⟨rfl,rfl⟩,rfl,fun i c u h1 h2 => ?_⟩
  cases i with
  | zero=>cases h1;cases h2;exact .sl0 k none 0 (by simp)
  | succ i=>cases h2
 ·rw[hk] at hel
  obtain⟨l,hll,hli⟩:=ofFin (len:=len) (Q:=fun i y=>∃cs:List Value,ok y∧elOk k (E y)∧cs.length=k∧(∀m,m<k→W.cell? ((a.add (i * k)).add m)=cs[m]?)∧∀(m:Nat) c u,(E y).cells[m]?=some c→cs[m]?=some u→Rel W (fun b=>b<W.heap.size) c u) fun i hi=>by
   have h1:=hel i hi
   rw[List.getElem?_eq_getElem (by omega),Option.bind_eq_some_iff] at h1
   obtain⟨cs,hc,ht⟩:=h1
   obtain⟨y,k1,k2,k3,k4⟩:=he _ _ _ (by omega) ht
   exact⟨y,cs,k1,k2,k3,(World.cells?_some hc).2.2,k4⟩
  refine⟨l,⟨by omega,fun y hy => ?_⟩,⟨rfl,rfl⟩,rfl,fun i c u h1 h2 => ?_⟩
  ·obtain⟨i,hi,rfl⟩:=List.getElem_of_mem hy
   obtain⟨_,h,_⟩:=hli i (by omega);exact h
  ·cases i with
   | succ i=>cases h2
   | zero =>
    cases h1;cases h2
    by_cases hz:len=0
    ·subst hz
     rw[List.length_eq_zero_iff.1 hll]
     exact .sl0 k _ cap hm
    ·obtain⟨b,off,spot⟩:=a
     obtain⟨cs0,_,_,c3,c4,_⟩:=hli 0 (by omega)
     have hs:spot=none:=by
      have:=c4 0 h0
      have e0:∀a:Addr,a.add 0=a:=fun _=>rfl
      rw[Nat.zero_mul,e0,e0,List.getElem?_eq_getElem (by omega)] at this
      cases spot with
      | none=>rfl
      | some s =>
       exfalso
       unfold World.cell? at this
       split at this
       ·rw[if_pos (show (some s).isSome=true from rfl)] at this;cases this
       ·cases this
     subst hs
     have cell:∀(i:Nat) (hi:i<len) (m:Nat),m<k→∃u,W.cell? ⟨b,off+(i * k+m),none⟩=some u∧∀c,(E (l[i]'(by omega))).cells[m]?=some c→Rel W (fun b=>b<W.heap.size) c u:=fun i hi m hm=>by
      obtain⟨cs,_,_,c3,c4,c5⟩:=hli i (by omega)
      have:=c4 m hm
      rw[add_none,add_none,Nat.add_assoc,List.getElem?_eq_getElem (by omega)] at this
      exact⟨_,this,fun c hc=>c5 m c _ hc (List.getElem?_eq_getElem (by omega))⟩
     have hA:b<W.heap.size:=by
      obtain⟨u,hu,_⟩:=cell 0 (by omega) 0 h0
      unfold World.cell? at hu
      cases hb:W.heap[b]? with
      | none=>simp [hb] at hu
      | some o=>exact(Array.getElem?_eq_some_iff.1 hb).1
     have:=Rel.sl (w:=W) (A:=fun b=>b<W.heap.size) k (l.map E) b off cap (fun j=>(W.cell? ⟨b,off+j,none⟩).getD undef) hA (by rw[List.length_map];omega) hm
      (fun x hx=>by
       obtain⟨y,hy,rfl⟩:=List.mem_map.1 hx
       obtain⟨i,hi,rfl⟩:=List.getElem_of_mem hy
       obtain⟨cs,_,c2,_⟩:=hli i (by omega)
       exact c2)
      (fun j hj=>by
       rw[List.length_map,hll] at hj
       have h1:j / k<len:=(Nat.div_lt_iff_lt_mul h0).2 hj
       obtain⟨u,hu,_⟩:=cell (j / k) h1 (j % k) (Nat.mod_lt _ h0)
       have e:j / k * k+j % k=j:=Nat.div_add_mod' j k
       rw[e] at hu
       rw[hu];rfl)
      (fun i x j y hx hy=>by
       rw[List.getElem?_map,Option.map_eq_some_iff] at hx
       obtain⟨z,hz,rfl⟩:=hx
       obtain⟨hi,rfl⟩:=List.getElem?_eq_some_iff.1 hz
       obtain⟨cs,_,c2,_⟩:=hli i (by omega)
       have hj:j<k:=by have:=(List.getElem?_eq_some_iff.1 hy).1;have:=c2.1;omega
       obtain⟨u,hu,hr⟩:=cell i (by omega) j hj
       rw[hu]
       exact hr _ hy)
     rw[List.length_map,hll] at this
     exact this
def RdFL (enc:TypeId × Value→H) (P:Program) (W:World) (N:Nat) (ts:List TypeId) {α:Type} (E:α→List AV) (ok:α→Prop):Prop :=
 ∀(n:Nat) (cs:List Value) (xs:List (DataW H × List MemPlace)),n≤N→xs.length=ts.length→cs.length=ts.length →
  (∀(i:Nat) t,ts[i]?=some t→DataW.trod enc P W 0 (fun _=>true) true n t ((cs.drop i).take 1)=xs[i]?) →
  ∃y,ok y∧(E y).length=ts.length∧(E y).all one=true∧∀(i:Nat) c u,(E y)[i]?=some c→cs[i]?=some u→Rel W (fun b=>b<W.heap.size) c u
theorem RdFL.nil {N:Nat} : RdFL enc P W N [] (fun _:Unit=>[]) (fun _=>True):=by
 intro n cs xs _ _ _ _
 exact⟨(),trivial,rfl,rfl,fun i c u h=>by simp at h⟩
theorem RdFL.cons {N:Nat} {α β:Type} {E:α→AV} {ok:α→Prop} {ts:List TypeId} {F:β→List AV} {ok':β→Prop} (h:RdF enc P W N t 1 E ok) (h1:∀y,one (E y)=true∧(E y).cells=[E y]) (hs:RdFL enc P W N ts F ok') :
  RdFL enc P W N (t :: ts) (fun y:α × β=>E y.1 :: F y.2) (fun y=>ok y.1∧ok' y.2):=by
 intro n cs xs hN hx hc hi
 match xs,cs,hx,hc with
 | x :: xs,u :: cs,hx,hc =>
  have h0:=hi 0 t rfl
  simp only[List.drop_zero,List.take_succ_cons,List.take_zero,List.getElem?_cons_zero] at h0
  obtain⟨y,k1,_,_,k4⟩:=h _ _ _ hN h0
  obtain⟨z,g1,g2,g3,g4⟩:=hs n cs xs hN (by simpa using hx) (by simpa using hc) fun i t' ht=>by
   have:=hi (i+1) t' (by simpa using ht)
   simpa using this
  refine⟨(y,z),⟨k1,g1⟩,by simp [g2],by simp [g3,(h1 y).1],fun i c u' hcc hu => ?_⟩
  cases i with
  | zero=>cases hcc;cases hu;exact k4 0 _ _ (by rw[(h1 y).2];rfl) rfl
  | succ i=>exact g4 i c u' (by simpa using hcc) (by simpa using hu)
theorem RdF.struct {N:Nat} {fs:Array Field} {α:Type} {ts:List TypeId} {F:α→List AV} {ok:α→Prop} (ht:P.underlying t=some (.struct fs)) (hts:fs.toList.map (·.type)=ts) (hof:fs.toList.map (·.offset)=List.range ts.length) (hk:P.cellsOf t=ts.length)
  (hc:(ts.all fun t=>P.cellsOf t == 1)=true) (h:RdFL enc P W N ts F ok):RdF enc P W (N+1) t ts.length (fun y => .agg (F y)) ok:=by
 intro fuel cs x hN hx
 obtain⟨xs,n,hfu,_,hl,hlen,hf⟩:=DataW.trod_struct ht hx
 have hfl:fs.size=ts.length:=by rw[← hts];simp
 obtain⟨y,k1,k2,k3,k4⟩:=h n cs xs (by omega) (by omega) (by omega) fun i t' ht'=>by
  have hi:i<ts.length:=(List.getElem?_eq_some_iff.1 ht').1
  have hg:fs[i]?=some fs[i]:=Array.getElem?_eq_getElem (by omega)
  have e1:(fs[i]).type=t':=by
   rw[← hts,List.getElem?_map,Array.getElem?_toList,hg] at ht'
   exact Option.some.inj ht'
  have e2:(fs[i]).offset=i:=by
   have:(fs.toList.map (·.offset))[i]?=some i:=by rw[hof,List.getElem?_range hi]
   rw[List.getElem?_map,Array.getElem?_toList,hg] at this
   exact Option.some.inj this
  have:=hf i _ hg
  have hct:P.cellsOf t'=1:=by
   have:=List.all_eq_true.1 hc _ (List.mem_of_getElem? ht')
   simpa using this
  rw[e1,e2,hct] at this
  exact this
 exact⟨y,k1,⟨k2,k3⟩,by omega,k4⟩
end
end Go.AL
end
section
namespace Go.AL
open Go Go.RowKit
theorem Rel.tabK {P:Program} {W:World} {name:String} {k:IntKind} {zs:List Int} {g:Nat} (h:Lib.TabIs P W name k zs) (hg:P.globalNamed name=some g) (hz:0<zs.length) :
  Rel W (fun b=>b<W.heap.size) (.rp 1 (zs.map fun z => .v (.int k z)) 0 0) (.pointer (some ⟨g,0,none⟩)):=by
 have hA:g<W.heap.size:=by
  have hu:=h.cell hg 0 hz
  unfold World.cell? at hu
  cases hb:W.heap[g]? with
  | none=>simp [hb] at hu
  | some o=>exact(Array.getElem?_eq_some_iff.1 hb).1
 have:=Rel.rp (w:=W) (A:=fun b=>b<W.heap.size) 1 (zs.map fun z => .v (.int k z)) 0 0 g 0 (fun i => .int k (zs.getD i 0)) hA
  (fun x hx=>by obtain⟨z,_,rfl⟩:=List.mem_map.1 hx;exact⟨rfl,rfl⟩)
  (fun i hi=>by
   rw[List.length_map] at hi
   have:=h.cell hg i (by omega)
   simpa using this)
  (fun i x j y hx hy=>by
   rw[List.getElem?_map,Option.map_eq_some_iff] at hx
   obtain⟨z,hz,rfl⟩:=hx
   cases j with
   | succ j=>cases hy
   | zero =>
    cases hy
    have e:zs.getD i 0=z:=by rw[List.getD_eq_getElem?_getD,hz];rfl
    simp only[Nat.mul_one,Nat.add_zero,e]
    exact .v _)
 exact this
end Go.AL
end
section
namespace Go.AL
open Go Go.RowKit Go.Lib Go.Sort Go.Proofs Go.Shelf
structure Item (w:World) (A:Foot) {β:Type} (av:β→AV) (Q:β→Prop) where
 u:Value
 x:β
 rel:Rel w A (av x) u
 ok:Q x
end Go.AL
end
section
namespace Go.AL
open Go Go.RowKit Go.Lib Go.Sort Go.Proofs Go.Shelf
end Go.AL
end
section
namespace Go.AL
open Go Go.RowKit Go.Sort Go.Proofs
set_option maxRecDepth 4000
def cmpL:List Int→List Int→Int
 | [],[]=>0
 | [],_ :: _ => -1
 | _ :: _,[]=>1
 | x :: xs,y :: ys=>if x<y then -1 else if y<x then 1 else cmpL xs ys
end Go.AL
end
section
namespace Go.AL
open Go Go.RowKit
variable {C:Cfg} {a b:Code} {Q:AQ} {ρ:Env} {L:AHeap}
theorem AWp.viewA {c:Code} {t:TypeId} {k j:Nat} {ys:List AV} {v:AV} {L1:AHeap} (hA:AppSt t k ys v L1) (hj:get ρ j=v) (h:AWp C c Q ((j,.sl k ys) :: ρ) L):AWp C c Q ρ (L ++ L1):=by
 refine AWp.viewP (Lf:=L1) (Lk:=L) (L':=L) List.perm_append_comm (LVw.refl _) [(j,.sl k ys)] (fun p hp => ?_) h
 obtain rfl:=List.mem_singleton.1 hp
 have:=hA.vw []
 rw[List.append_nil] at this
 rw[hj];exact this
end Go.AL
end
section
namespace Go.AL
open Go Go.RowKit
def aNilR (P:Program) (op:BinOp) (t:TypeId) (x y:AV):Option (Prop × AV) :=
 match x,y,tinfo P t with
 | .sl _ xs,.v (.slice none 0 0),some ⟨.slice _,_,_,_⟩=>match op with
  | .eql=>some (xs ≠ [],ab false)
  | .neq=>some (xs ≠ [],ab true)
  | _=>none
 | _,_,_=>none
def avalR (P:Program) (ρ:Env) (L:AHeap) (op:Op):Option (Prop × AV) :=
 match aval P ρ L op with
 | some z=>some z
 | none=>match op with
  | .binOp b t x y _=>w2 (ev ρ x) (ev ρ y) (aNilR P b t)
  | _=>none
theorem avalR_congr {P:Program} {ρ ρ':Env} {L:AHeap} {op:Op} (h:∀x ∈ op.operands,ev ρ' x=ev ρ x):avalR P ρ' L op=avalR P ρ L op:=by
 unfold avalR
 rw[aval_congr h]
 cases op with
 | binOp b t x y t' =>
  have e1:=h x (by simp [Op.operands])
  have e2:=h y (by simp [Op.operands])
  simp only[e1,e2]
 | _=>rfl
theorem aNilR_sound {C:Cfg} {o:Oper} {ρ:Env} {L:AHeap} {op:BinOp} {t t':TypeId} {x y:Operand} (ho:o.op = .binOp op t x y t') (hd:dstOk C o) {c:Prop} {z:AV} (h:w2 (ev ρ x) (ev ρ y) (aNilR C.P op t)=some (c,z)) (hc:c) :
  AOp C o ρ L fun ρ' L'=>ρ'=put ρ o.dst z∧L'=L:=by
 obtain⟨h1,h2,c',h3,h4⟩:=w2_inv h hc
 unfold aNilR at h3
 split at h3
 ·rename_i k xs e _ _ _ hx hy hti
  have hu:=tinfo_slice hti
  have main:∀(f:Bool→Bool),((op = .eql∧f=id)∨(op = .neq∧f=not))→xs ≠ []→z=ab (f false)→AOp C o ρ L fun ρ' L'=>ρ'=put ρ o.dst z∧L'=L:=fun f hf hne hz =>
   AOp.of_run (fun c e=>by rw[ho] at e;cases e) fun w0 M A0 a w A ds hs=>by
    have rx:=fo_ok (hs.ev x) h1;rw[hx] at rx
    have ry:=fo_ok (hs.ev y) h2;rw[hy] at ry
    have ry:=ry.inv_v
    have hval:∃a0 n m,a.eval x = .slice a0 n m∧a0.isNone=false:=by
     generalize a.eval x=u at rx
     cases rx with
     | sl0 _ a0 cap hc=>exact absurd rfl hne
     | sl _ _ b off cap=>exact⟨_,_,_,rfl,rfl⟩
    obtain⟨a0,n,m,e,hne⟩:=hval
    refine⟨_,w,?_,.inl ⟨.bool (f a0.isNone),rfl,_,_,⟨by rw[hz],rfl⟩,st_iff.2 ⟨A,ds,hs.put hd (by rw[hne];exact .v _)⟩⟩⟩
    unfold execOp
    rw[ho]
    rcases hf with ⟨rfl,rfl⟩|⟨rfl,rfl⟩
    ·simp [e,ry,eqGuard_slice,binOp,equal_slice_nil hu]
    ·simp [e,ry,eqGuard_slice,binOp,equal_slice_nil hu]
  split at h3
  ·cases h3;exact main id (.inl ⟨rfl,rfl⟩) h4 rfl
  ·cases h3;exact main not (.inr ⟨rfl,rfl⟩) h4 rfl
  ·cases h3
 ·cases h3
theorem avalR_sound {C:Cfg} {o:Oper} {ρ:Env} {L:AHeap} {c:Prop} {x:AV} (hv:avalR C.P ρ L o.op=some (c,x)) (hc:c) (hd:dstOk C o) (hdef:∀c,o.op ≠ .defer c):AOp C o ρ L fun ρ' L'=>ρ'=put ρ o.dst x∧L'=L:=by
 unfold avalR at hv
 split at hv
 ·rename_i z hz
  cases hv
  exact aval_sound hz hc hd hdef
 ·split at hv
  ·rename_i ho
   exact aNilR_sound ho hd hv hc
  ·cases hv
def YldL (C:Cfg) (ops:Array Oper) (i:Nat) (o:Oper) (x:AV) (ρ:Env) (L:AHeap):Prop :=
 ∀ρ',(∀t ∈ o.looksAt ops,get ρ' t=get ρ t)→GOp C ops i ρ' L fun ρ2 L2=>ρ2=put ρ' o.dst x∧L2=L
def aqL (C:Cfg) (all:List Oper) (o:Oper) (ρ:Env) (L:AHeap) (K:Env→Prop):Prop :=
 match o.guard with
 | none=>match avalR C.P ρ L o.op with
  | some (c,x)=>c∧K (put ρ o.dst x)
  | none=>match o.op with
   | .call c=>match c.callee with
    | .value g=>GCall C.P True ((fo (ev ρ g)).1∧fos (c.args.toList.map (ev ρ))) (fo (ev ρ g)).2 (c.args.toList.map fun x=>(fo (ev ρ x)).2) L (putQ K ρ o.dst)
    | _=>False
   | _=>False
 | some (j,want)=>match gval all ρ j want with
  | some b=>match avalR C.P ρ L o.op with
   | some (c,x)=>(b=want→c)∧K (put ρ o.dst (.cond (b == want) x))
   | none=>match o.op with
    | .call c=>match c.callee with
     | .value g=>GCall C.P (b=want) ((fo (ev ρ g)).1∧fos (c.args.toList.map (ev ρ))) (fo (ev ρ g)).2 (c.args.toList.map fun x=>(fo (ev ρ x)).2) L (putQC K ρ o.dst (b == want))
     | _=>b ≠ want∧K (put ρ o.dst (.cond (b == want) .any))
    | _=>b ≠ want∧K (put ρ o.dst (.cond (b == want) .any))
  | none=>False
def aqLRun (C:Cfg) (all:List Oper) (L:AHeap):List Nat→(Env→Prop)→Env→Prop
 | [],K,ρ=>K ρ
 | i :: r,K,ρ=>match all[i]? with
  | some o=>aqL C all o ρ L (aqLRun C all L r K)
  | none=>False
section
variable {C:Cfg} {ops:Array Oper} {L:AHeap}
theorem aqL_yields {i:Nat} {o:Oper} {ρ:Env} {K:Env→Prop} (hi:ops[i]?=some o) (hok:operOk C.N o=true) (h:aqL C ops.toList o ρ L K):∃x,YldL C ops i o x ρ L∧K (put ρ o.dst x):=by
 have hd:=operOk_dst hok
 have hdef:=operOk_def hok
 unfold aqL at h
 split at h
 ·rename_i hg
  split at h
  ·rename_i c x hv
   exact⟨x,fun ρ' hag=>AOp.gop hi hg (avalR_sound (by rw[avalR_congr (agree_ops hag)];exact hv) h.1 hd hdef),h.2⟩
  ·split at h
   ·rename_i cl ho
    split at h
    ·rename_i g h0
     obtain⟨r,h1,h2⟩:=h
     refine⟨r,fun ρ' hag=>AOp.gop hi hg ?_,h2⟩
     have hag':=agree_ops hag
     rw[ho] at hag'
     obtain⟨e1,e2,e3⟩:=call_congr h0 hag'
     exact call_sound ho h0 hd (by rw[e1,e2,e3];exact⟨(h1 trivial).1.1,(h1 trivial).1.2,(h1 trivial).2⟩)
    ·exact h.elim
   ·exact h.elim
 ·rename_i j want hg
  split at h
  ·rename_i b hv
   split at h
   ·rename_i c x ha
    refine⟨_,fun ρ' hag=>GOp.of_cond hi hg (by rw[agree_guard hag hg];exact hv) hd fun hb=>avalR_sound (by rw[avalR_congr (agree_ops hag)];exact ha) (h.1 hb) hd hdef,h.2⟩
   ·split at h
    ·rename_i cl ho
     split at h
     ·rename_i g h0
      obtain⟨r,h1,h2⟩:=h
      refine⟨_,fun ρ' hag=>GOp.of_cond hi hg (by rw[agree_guard hag hg];exact hv) hd fun hb => ?_,h2⟩
      have hag':=agree_ops hag
      rw[ho] at hag'
      obtain⟨e1,e2,e3⟩:=call_congr h0 hag'
      exact call_sound ho h0 hd (by rw[e1,e2,e3];exact⟨(h1 hb).1.1,(h1 hb).1.2,(h1 hb).2⟩)
     ·refine⟨_,fun ρ' hag=>GOp.of_cond hi hg (by rw[agree_guard hag hg];exact hv) hd fun hb=>absurd hb h.1,h.2⟩
    ·refine⟨_,fun ρ' hag=>GOp.of_cond hi hg (by rw[agree_guard hag hg];exact hv) hd fun hb=>absurd hb h.1,h.2⟩
  ·exact h.elim
def QFactL (C:Cfg) (ops:Array Oper) (ρ:Env) (L:AHeap) (q:Nat):Prop:=∃o x,ops[q]?=some o∧YldL C ops q o x ρ L∧∀d,o.dst=some d→get ρ d=x
theorem YldL.of_agree {i:Nat} {o:Oper} {x:AV} {ρ ρ':Env} (h:YldL C ops i o x ρ L) (he:∀t ∈ o.looksAt ops,get ρ' t=get ρ t):YldL C ops i o x ρ' L :=
 fun ρ2 hag=>h ρ2 fun t ht=>(hag t ht).trans (he t ht)
end
def readK (K:ARes) (L:AHeap) (ρ:Env):Prop:=K ρ L
theorem aqLRun_nil (C:Cfg) (all:List Oper) (L:AHeap) (K:Env→Prop) (ρ:Env):aqLRun C all L [] K ρ=K ρ:=rfl
theorem aqLRun_cons (C:Cfg) (all:List Oper) (L:AHeap) (i:Nat) (r:List Nat) (K:Env→Prop) (ρ:Env):aqLRun C all L (i :: r) K ρ=(match all[i]? with|some o=>aqL C all o ρ L (aqLRun C all L r K)|none=>False):=rfl
attribute [go_sem] aqLRun_nil aqLRun_cons aqL readK avalR aNilR
end Go.AL
end
section
namespace Go.AL
open Go Go.RowKit
set_option maxRecDepth 4000
section
variable {ps:List Pr} {c:List Int}
end
def aView (ps:List Pr) (c:List Int) (V:List (List Int)):AV:=.agg [aPrs ps,aInts c,aRows V]
open Classical in
noncomputable def atV (ps:List Pr) (c:List Int) (t:Pd):AV:=if c.length ≠ ps.length∨checkF ps t ≠ 0∨givenF ps [c] [] ≠ 0 then aView [] [] [] else aView ps c (valuesAt ps c)
def nchB:Pd→Bool | .mk k _ _ _ _ _=>decide (k ≠ 4)
end Go.AL
end
section
namespace Go.AL
open Go Go.RowKit
set_option maxRecDepth 4000
def pd0:Pd:=.mk 0 0 0 0 ByteArray.empty []
section
variable {ps:List Pr} {c j:List Int}
end
def closeN (ps:List Pr):Nat→List Int→List Int
 | 0,c=>c
 | n+1,c=>match missF ps c with
  | none=>c
  | some x=>closeN ps n (c.set x.1.1.toNat x.1.2)
def closeF (ps:List Pr) (c:List Int):List Int:=closeN ps (off ps ps.length) c
structure Elim where
 n:Nat
 top:Nat→Nat
 ok:Nat→Nat→Bool
 need:Nat→Nat→Nat→Int
def exB (E:Elim) (now:Nat→Nat) (p k:Nat):Bool:=!E.ok p k || (List.range E.n).any fun q=>decide (q ≠ p) && decide ((k:Int)<E.need q (now q) p)
def nextF (ex:Nat→Bool) (top:Nat):Nat→Nat→Nat
 | 0,k=>k
 | m+1,k=>if k≤top∧ex k=true then nextF ex top m (k+1) else k
def nextK (ex:Nat→Bool) (top k:Nat):Nat:=nextF ex top (top+1 - k) k
section
variable {ex:Nat→Bool} {top k:Nat}
theorem nextK_hit (h:k≤top) (he:ex k=true):nextK ex top k=nextK ex top (k+1):=by
 unfold nextK
 obtain⟨m,hm⟩:∃m,top+1 - k=m+1:=⟨top - k,by omega⟩
 rw[hm,nextF,if_pos ⟨h,he⟩,show top+1 - (k+1)=m by omega]
theorem nextK_stop (h:¬(k≤top∧ex k=true)):nextK ex top k=k:=by
 unfold nextK
 cases top+1 - k with
 | zero=>rfl
 | succ m=>rw[nextF,if_neg h]
theorem nextK_spec:∀(m k:Nat),top+1 - k=m→k≤top+1→k≤nextK ex top k∧nextK ex top k≤top+1∧(∀j,k≤j→j<nextK ex top k→ex j=true)∧(nextK ex top k≤top→ex (nextK ex top k)=false)
 | 0,k,hm,hk=>by
  rw[nextK_stop (by omega)]
  exact⟨Nat.le_refl _,hk,fun j _ _=>by omega,fun h=>by omega⟩
 | m+1,k,hm,hk=>by
  by_cases he:ex k=true
  ·rw[nextK_hit (by omega) he]
   obtain⟨a1,a2,a3,a4⟩:=nextK_spec m (k+1) (by omega) (by omega)
   refine⟨by omega,a2,fun j h1 h2 => ?_,a4⟩
   by_cases e:j=k
   ·subst e;exact he
   ·exact a3 j (by omega) h2
  ·rw[nextK_stop (fun h=>he h.2)]
   exact⟨Nat.le_refl _,hk,fun j _ _=>by omega,fun _=>by simpa using he⟩
end
def stepP (E:Elim) (now:Nat→Nat):Option Nat:=(List.range E.n).find? fun p=>exB E now p (now p)
def goF (E:Elim) (now:Nat→Nat) (p:Nat):Nat:=nextK (exB E now p) (E.top p) (now p)
def updN (f:Nat→Nat) (p x:Nat):Nat→Nat:=fun q=>if q=p then x else f q
theorem updN_self (f:Nat→Nat) (p x:Nat):updN f p x p=x:=if_pos rfl
theorem updN_ne {f:Nat→Nat} {p x q:Nat} (h:q ≠ p):updN f p x q=f q:=if_neg h
theorem find_range {n:Nat} {f:Nat→Bool} {p:Nat} (h:(List.range n).find? f=some p):p<n∧f p=true∧∀q,q<p→f q=false:=by
 rw[List.find?_eq_some_iff_getElem] at h
 obtain⟨h1,i,hi,e,h2⟩:=h
 rw[List.getElem_range] at e
 subst e
 refine⟨by simpa using hi,h1,fun q hq => ?_⟩
 have:=h2 q hq
 rw[List.getElem_range] at this
 simpa using this
abbrev Stp:=Nat × Nat × Nat
inductive RunR (E:Elim):(Nat→Nat)→List Stp→(Nat→Nat)→Bool→Prop
 | stop {now:Nat→Nat} (h:stepP E now=none):RunR E now [] now false
 | lost {now:Nat→Nat} {p:Nat} (h:stepP E now=some p) (hl:E.top p<goF E now p):RunR E now [(p,now p,goF E now p - 1)] (updN now p (goF E now p)) true
 | go {now fin:Nat→Nat} {p:Nat} {st:List Stp} {l:Bool} (h:stepP E now=some p) (hl:goF E now p≤E.top p) (hr:RunR E (updN now p (goF E now p)) st fin l):RunR E now ((p,now p,goF E now p - 1) :: st) fin l
def InE (E:Elim) (now:Nat→Nat):Prop:=∀q,q<E.n→now q≤E.top q
def roomE (E:Elim) (now:Nat→Nat):Nat:=totS E.n fun q=>E.top q+1 - now q
theorem totS_lt {c c':Nat→Nat} {p:Nat} (h:∀q,q ≠ p→c' q=c q) (hp:c' p<c p):∀n,totS n c'+(if p<n then 1 else 0)≤totS n c
 | 0=>by simp [totS]
 | n+1=>by
  have:=totS_lt h hp n
  rw[totS_succ,totS_succ]
  by_cases e:n=p
  ·subst e
   rw[if_neg (by omega)] at this
   rw[if_pos (by omega)];omega
  ·rw[h n e]
   by_cases e2:p<n
   ·rw[if_pos e2] at this;rw[if_pos (by omega)];omega
   ·rw[if_neg e2] at this;rw[if_neg (by omega)];omega
theorem step_inv {E:Elim} {now:Nat→Nat} (hI:InE E now) {p:Nat} (h:stepP E now=some p) :
  p<E.n∧exB E now p (now p)=true∧(∀q,q<p→exB E now q (now q)=false)∧now p<goF E now p∧goF E now p≤E.top p+1∧(∀j,now p≤j→j<goF E now p→exB E now p j=true)∧roomE E (updN now p (goF E now p))<roomE E now:=by
 obtain⟨h1,h2,h3⟩:=find_range h
 have hle:=hI p h1
 obtain⟨a1,a2,a3,a4⟩:=nextK_spec (ex:=exB E now p) (top:=E.top p) _ (now p) rfl (by omega)
 have hlt:now p<goF E now p:=by
  unfold goF
  rw[nextK_hit hle h2]
  obtain⟨b1,_⟩:=nextK_spec (ex:=exB E now p) (top:=E.top p) _ (now p+1) rfl (by omega)
  omega
 refine⟨h1,h2,h3,hlt,a2,a3,?_⟩
 unfold roomE
 have:=totS_lt (c:=fun q=>E.top q+1 - now q) (c':=fun q=>E.top q+1 - updN now p (goF E now p) q) (p:=p) (fun q hq=>by rw[updN_ne hq]) (by rw[updN_self];omega) E.n
 rw[if_pos h1] at this
 omega
theorem inE_step {E:Elim} {now:Nat→Nat} (hI:InE E now) {p:Nat} (hl:goF E now p≤E.top p):InE E (updN now p (goF E now p)):=fun q hq=>by
 by_cases e:q=p
 ·subst e;rw[updN_self];exact hl
 ·rw[updN_ne e];exact hI q hq
theorem run_ex (E:Elim):∀(m:Nat) (now:Nat→Nat),InE E now→roomE E now≤m→∃st fin l,RunR E now st fin l:=by
 intro m
 induction m with
 | zero =>
  intro now hI hm
  cases h:stepP E now with
  | none=>exact⟨_,_,_,.stop h⟩
  | some p=>have:=(step_inv hI h).2.2.2.2.2.2;omega
 | succ m ih =>
  intro now hI hm
  cases h:stepP E now with
  | none=>exact⟨_,_,_,.stop h⟩
  | some p =>
   have h7:=(step_inv hI h).2.2.2.2.2.2
   by_cases hl:goF E now p≤E.top p
   ·obtain⟨st,fin,l,hr⟩:=ih _ (inE_step hI hl) (by omega)
    exact⟨_,_,_,.go h hl hr⟩
   ·exact⟨_,_,_,.lost h (by omega)⟩
theorem inE_zero (E:Elim):InE E fun _=>0:=fun _ _=>Nat.zero_le _
open Classical in
noncomputable def stepsF (E:Elim):List Stp:=Classical.choose (run_ex E _ _ (inE_zero E) (Nat.le_refl _))
open Classical in
noncomputable def finF (E:Elim):Nat→Nat:=Classical.choose (Classical.choose_spec (run_ex E _ _ (inE_zero E) (Nat.le_refl _)))
open Classical in
noncomputable def lostF (E:Elim):Bool:=Classical.choose (Classical.choose_spec (Classical.choose_spec (run_ex E _ _ (inE_zero E) (Nat.le_refl _))))
end Go.AL
end
section
namespace Go.AL
open Go Go.RowKit
set_option maxRecDepth 4000
section
variable {E:Elim} {p q m k:Nat}
end
theorem ref28_Type (t:Pd) (hz:szF t≤1000000) (h1:formedB t=true) (h2:typedB t=true):PC Proofs.Tryz.prog 30 [aPd t] (.tup [ai (resF t.kind),ai 0]):=by
 have g1:=ref28_Formed t hz
 have hl:allB locB t=true:=by unfold formedB at h1;simp only[Bool.and_eq_true] at h1;exact h1.2
 have g2:=ref28_typed t hz hl
 rw[show allB typB t=true from h2] at g2
 rw[h1] at g1
 obtain⟨k,n,p,q,s,l⟩:=t
 have g3:=ref28_kind k n p q s l
 simp only[aPd_mk,Pd.kind] at *
 generalize resF k=r at *
 refine PC.enter 12 [.tmp 2,.tmp 3] [1] Proofs.Tryz.func30 rfl rfl rfl rfl rfl (by simp) (AWp.of ?_);simp only[go_sem]
 refine Wk ?_
 refine Sd ?_
 refine(g1).val.use ?_;simp only[go_sem]
 refine Wk ?_
 refine Sd ?_
 refine(g2).val.use ?_;simp only[go_sem]
 refine Wk ?_
 refine Sd ?_
 refine(g3).val.use ?_;simp only[go_sem]
 refine Wk ?_
 refine ret_eq ?_;simp only[go_sem]
theorem AWp.only {C:Cfg} {cd:Code} {Q:AQ} {ρ:Env} {L:AHeap} (ks:List Nat) (h:AWp C cd Q (ks.zip (ks.map (get ρ))) L):AWp C cd Q ρ L :=
 AWp.st (fun w0 M A0 a w hh=>st_forget hh (get_zip ks ρ)) h
theorem Vw.mkRp {L:AHeap} {xs xs':List AV} {k i j:Nat} (h:Vws L xs xs'):Vw L (.rp k xs i j) (.rp k xs' i j):=.rp h.1 h.2
section
variable {ps:List Pr} {E:Elim}
end
open Classical in
noncomputable def anc (ps:List Pr) (x:Eid):Nat:=(evIds ps).countP fun e=>decide (Reach ps e.1 x)
def isF (ps:List Pr) (c:List Int):Bool:=(decide (c.length=ps.length) && inRangeF ps c) && closedF ps c
def stpC (c:List Int) (p:Nat):List Int:=c.set p (cAt c p+1)
def nx1 (ps:List Pr) (c:List Int) (p:Nat):List (List Int):=if cAt c p<nev ps p∧isF ps (stpC c p)=true then [stpC c p] else []
def nextT (ps:List Pr) (c:List Int) (k:Nat):List (List Int):=(List.range k).flatMap (nx1 ps c)
def nextL (ps:List Pr) (c:List Int):List (List Int):=nextT ps c c.length
def lexF:List Int→List Int→Bool
 | a :: x,b :: y=>if a=b then lexF x y else decide (a<b)
 | _,_=>false
def befF (a b:List Int):Bool:=if a.sum=b.sum then lexF a b else decide (a.sum<b.sum)
def insF (l:List (List Int)) (c:List Int):List (List Int):=if (l.dropWhile fun x=>befF x c).head?=some c then l else (l.takeWhile fun x=>befF x c) ++ c :: l.dropWhile fun x=>befF x c
def insL (acc l:List (List Int)):List (List Int):=l.foldl insF acc
def moreT (ps:List Pr) (lv:List (List Int)):List (List Int):=lv.foldl (fun acc c=>insL acc (nextL ps c)) []
def levF (ps:List Pr):Nat→List (List Int)
 | 0=>[List.replicate ps.length 0]
 | k+1=>moreT ps (levF ps k)
def cumF (ps:List Pr) (k:Nat):List (List Int):=(List.range k).flatMap (levF ps)
def cutsF (ps:List Pr):List (List Int):=cumF ps (off ps ps.length+1)
end Go.AL
end
section
namespace Go.AL
open Go Go.RowKit
set_option maxRecDepth 4000
end Go.AL
end
section
namespace Go.AL
open Go Go.RowKit Go.Sort Go.Proofs Go.Shelf
set_option maxRecDepth 4000
end Go.AL
end
section
namespace Go.AL
open Go Go.RowKit
set_option maxRecDepth 4000
theorem AppSt.snoc {t:TypeId} {k:Nat} {ys:List AV} {x:AV} (b cap n:Nat) (hn:n=ys.length+1):AppSt t k (ys ++ [x]) (.ls b k 0 n cap) [(b,.row t k (ys ++ [x]) cap)]:=by
 subst hn
 have:=AppSt.row (t:=t) (k:=k) b (ys ++ [x]) cap
 rwa [List.length_append] at this
end Go.AL
end
section
namespace Go.AL
open Go Go.RowKit
def addW (a b:Int):Int:=IntKind.i64.wrap (a+b)
def aAddW (C:Cfg) (o:Oper) (x y:AV) (ρ:Env) (L:AHeap) (K:ARes):Prop :=
 match x,y with
 | .v (.int .i64 a),.v (.int .i64 b)=>K (put ρ o.dst (ai (addW a b))) L
 | _,_=>False
def aopW (C:Cfg) (o:Oper) (ρ:Env) (L:AHeap) (K:ARes):Prop :=
 match o.op with
 | .binOp .add _ x y _=>aAddW C o (ev ρ x) (ev ρ y) ρ L K
 | _=>aop C o ρ L K
def aregionW (C:Cfg):List Oper→Env→AHeap→ARes→Prop
 | [],ρ,L,K=>K ρ L
 | o :: rest,ρ,L,K=>o.guard=none∧aopW C o ρ L fun ρ L=>aregionW C rest ρ L K
def aregWK (C:Cfg) (rest:List Oper) (K:ARes) (ρ:Env) (L:AHeap):Prop:=aregionW C rest ρ L K
theorem aregionW_nil (C:Cfg) (ρ:Env) (L:AHeap) (K:ARes):aregionW C [] ρ L K=K ρ L:=rfl
theorem aregionW_cons (C:Cfg) (rest:List Oper) (o:Oper) (ρ:Env) (L:AHeap) (K:ARes):aregionW C (o :: rest) ρ L K=(o.guard=none∧aopW C o ρ L (aregWK C rest K)):=rfl
attribute [go_sem] aregionW_nil aregionW_cons aregWK aopW aAddW
end Go.AL
end
