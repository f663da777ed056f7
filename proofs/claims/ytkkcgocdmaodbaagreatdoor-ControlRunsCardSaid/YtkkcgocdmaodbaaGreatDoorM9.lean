/- Texts of this claim's proof: WPg, WPh, WRf9, WPj, WPi, WVt, WVb, WJn, WPw, WPw2, WTl, WEf, WEl, WSq, AlBr, AlBr2. No condition. -/
import Derived.Test.YtkkcgocdmaodbaaGreatDoorM8
import Derived.Test.YtkkcgocdmaodbaaGreatDoorM6
import Derived.Test.YtkkcgocdmaodbaaGreatDoorM7
import Derived.Test.YtkkcgocdmaodbaaGreatDoorM5
import Derived.Test.YtkkcgocdmaodbaaGreatDoorM4
import Derived.ProofKit
section
namespace Go.AL
open Go Go.RowKit
set_option maxRecDepth 4000
theorem variable_values (x:Pr) (h1:x.vars.length≤1000000) (h2:x.evs.length≤1000000) (h3:∀e ∈ x.evs,e.asg.length≤1000000) (ha:AsgOk x) (v:Nat) (hv:v<x.vars.length) :
  PC Proofs.Tryz.prog 253 [aPr x,ai v] (aInts (valsF x v)):=by
 have hst:=variable_states x
 have hvl:=valsF_length x v
 refine PC.enter 20 [.tmp 4] [2,3,17] Proofs.Tryz.func253 rfl rfl rfl rfl rfl (by simp) (AWp.of ?_);simp only[go_sem]
 refine Wk ?_
 intro b5
 refine Sd ?_
 refine AWp.of ?_;simp only[go_sem]
 refine Sd ?_
 refine(hst).val.use ?_;simp only[go_sem]
 refine AWp.block (AWp.rangeFunc rfl [3,5] (stArgs x) (fun j L=>∃w Lw,L=Lw ++ [(b5,.row 43 1 [w] 1)]∧AppSt 3 1 (((valsF x v).take j).map ai) w Lw∧∀p ∈ Lw,p.1 ≠ b5) (fun _ _=>False)
  rfl (variable_states1 x h1 h2 h3 ha) (fun y hy=>by obtain⟨j,hj⟩:=List.getElem?_of_mem hy;unfold stArgs at hj;rw[List.getElem?_map,Option.map_eq_some_iff] at hj;obtain⟨_,_,rfl⟩:=hj;rfl) ⟨anil,[],rfl,.nil,by simp⟩ ?_ ?_ ?_)
 ·rintro j y L' l hy ⟨w,Lw,rfl,hA,hne⟩
  have hjl:j≤x.evs.length:=by
   have:=(List.getElem?_eq_some_iff.1 hy).1
   unfold stArgs at this;simp at this;omega
  rw[stArgs_get x j hjl] at hy
  cases hy
  have hvs:v<(stateAt x j).length:=by rw[stateAt_length];exact hv
  have hgs:=getD_map (f:=ai) hvs
  have hjv:j<(valsF x v).length:=by omega
  have hsu:((valsF x v).take (j+1)).map ai=((valsF x v).take j).map ai ++ [ai (stateAt x j)[v]]:=by
   rw[List.take_succ_eq_append_getElem hjv,List.map_append,valsF_get,List.getD_eq_getElem?_getD,List.getElem?_eq_getElem hvs];rfl
  have hyl:(((valsF x v).take j).map ai).length≤1000000:=by rw[List.length_map,List.length_take];omega
  rw[hsu]
  generalize ((valsF x v).take j).map ai=ys at *
  rcases hA.inv with ⟨e1,rfl,rfl⟩|⟨b,cap,rfl,rfl⟩
  ·simp only[go_sem]
   refine Sd ?_
   refine AWp.of ?_;simp only[go_sem]
   refine AWp.block ?_
   repeat(first|(with_reducible refine AWp.seq ?_)|(with_reducible refine AWp.block ?_))
   refine AWp.mix mixed [1,2,3,4] (.step 0 (.step 5 (.step 6 (.step 7 .done .done) .done) .done) (.step 5 (.step 0 (.step 6 (.step 7 .done .done) .done) .done) .done)) (by kernel_rfl) ?_;simp only[go_sem,hgs]
   refine Sd ?_
   intro b' cap' hlt _
   have n5:¬b5=b':=by omega
   simp only[go_sem,n5]
   refine Sd ?_
   refine⟨_,List.Sublist.refl _,_,[(b',.row 3 1 [_] cap')],rfl,?_,?_⟩
   ·rw[e1];exact .row _ [_] _
   ·intro p hp;simp only[List.mem_singleton] at hp;subst hp;exact fun e=>n5 e.symm
  ·have n1:¬b=b5:=hne (b,_) List.mem_cons_self
   have n2:¬b5=b:=fun e=>n1 e.symm
   simp only[go_sem]
   refine Sd ?_
   refine AWp.of ?_;simp only[go_sem]
   refine AWp.block ?_
   repeat(first|(with_reducible refine AWp.seq ?_)|(with_reducible refine AWp.block ?_))
   refine AWp.mix mixed [1,2,3,4] (.step 0 (.step 5 (.step 6 (.step 7 .done .done) .done) .done) (.step 5 (.step 0 (.step 6 (.step 7 .done .done) .done) .done) .done)) (by kernel_rfl) ?_;simp only[go_sem,hgs,n1,n2]
   refine Sd ?_
   intro b' cap' n5 _
   simp only[go_sem,n5]
   refine Sd ?_
   refine⟨_,List.Sublist.refl _,_,[(b',.row 3 1 (ys ++ [_]) cap')],rfl,?_,?_⟩
   ·have:=AppSt.row (t:=3) (k:=1) b' (ys ++ [ai (stateAt x j)[v]]) cap'
    simpa using this
   ·intro p hp;simp only[List.mem_singleton] at hp;subst hp;exact fun e=>n5 e.symm
 ·rintro L' ⟨w,Lw,rfl,hA,hne⟩
  have hl:(stArgs x).length=x.evs.length+1:=by unfold stArgs;simp
  rw[hl,← hvl,List.take_length] at hA
  rcases hA.inv with ⟨e1,rfl,rfl⟩|⟨b,cap,rfl,rfl⟩
  ·exfalso
   have:=congrArg List.length e1
   rw[List.length_map,hvl] at this
   cases this
  ·have n1:¬b=b5:=hne (b,_) List.mem_cons_self
   have n2:¬b5=b:=fun e=>n1 e.symm
   simp only[go_sem]
   refine W2 n1 n2 ?_
   refine ret_view [true] ?_;simp only[go_sem]
   exact Vw.ofLs (if_pos rfl) (by simp)
 ·rintro e L' h
  exact h.elim
theorem variable_index1 (v:ByteArray × Int) (s:ByteArray):PC Proofs.Tryz.prog 264 [aVar v,.rp 1 [astr s] 0 0] (ab (nmB s v)):=by
 generalize hb:nmB s v=b
 refine PC.enter 8 [.tmp 3] [2] Proofs.Tryz.func264 rfl rfl rfl rfl rfl (by simp) (AWp.of ?_);simp only[go_sem]
 refine Wk ?_
 refine ret_eq ?_;simp only[go_sem]
 rw[← hb];rfl
theorem variable_index (x:Pr) (h1:x.vars.length≤1000000) (s:ByteArray):PC Proofs.Tryz.prog 262 [aPr x,astr s] (ai (varIx x.vars s)):=by
 have hfi:PC Proofs.Tryz.prog 206 [aVars x.vars,.clo 264 [.rp 1 [astr s] 0 0]] (ai (varIx x.vars s)) :=
  vars_indexFunc x.vars h1 (.clo 264 [.rp 1 [astr s] 0 0]) rfl (nmB s) fun v _=>(variable_index1 v s).clo
 generalize varIx x.vars s=r at *
 refine PC.enter 9 [.tmp 4] [2,3] Proofs.Tryz.func262 rfl rfl rfl rfl rfl (by simp) (AWp.of ?_);simp only[go_sem]
 refine Wk ?_
 refine Sd ?_
 refine(hfi).val.use ?_;simp only[go_sem]
 refine Wk ?_
 refine ret_eq ?_;simp only[go_sem]
theorem variable_find (ps:List Pr) (hs:Sm ps) (hv:validF ps=true) (p:Nat) (hp:p<ps.length) (s:ByteArray) (hk:¬varIx ps[p].vars s<0):PC Proofs.Tryz.prog 252 [aTr ps,ai p,astr s] (.tup [ai (varIx ps[p].vars s),ai 0]):=by
 have hval:=trace_Valid ps hs
 rw[hv] at hval
 have hm:=List.getElem_mem hp
 have hgp:=getD_map (f:=aPr) hp
 have hix:=variable_index ps[p] (hs.vars _ hm) s
 generalize varIx ps[p].vars s=r at *
 refine PC.enter 33 [.tmp 6,.tmp 7] [3] Proofs.Tryz.func252 rfl rfl rfl rfl rfl (by simp) (AWp.of ?_);simp only[go_sem]
 refine Wk ?_
 refine Sd ?_
 refine(hval).val.use ?_;simp only[go_sem]
 have h2:¬((p:Int)<0):=by omega
 have h3:¬((ps.length:Int)≤p):=by omega
 refine W3 h2 h3 hgp ?_
 refine Sd ?_
 refine(hix).val.use ?_;simp only[go_sem]
 refine W1 hk ?_
 refine ret_eq ?_;simp only[go_sem]
theorem variable_Range (ps:List Pr) (hs:Sm ps) (hv:validF ps=true) (p:Int) (hpb:isPB ps.length p=true) (s:ByteArray) (hkn:knownB ps p s=true) :
  PC Proofs.Tryz.prog 227 [aTr ps,ai p,astr s] (.tup [ai (varLo ps p s),ai (varHi ps p s),ai 0]):=by
 obtain⟨p,rfl,hp⟩:=isPB_nat hpb
 have hm:=List.getElem_mem hp
 have hgp:=getD_map (f:=aPr) hp
 have hk:ps[p].vars.any (nmB s)=true:=by unfold knownB at hkn;simpa only [Int.toNat_natCast,List.getElem?_eq_getElem hp] using hkn
 have hng:¬varIx ps[p].vars s<0:=fun h=>by rw[(varIx_neg _ _).1 h] at hk;cases hk
 have hfd:=variable_find ps hs hv p hp s hng
 have hlt:(varIx ps[p].vars s).toNat<ps[p].vars.length:=by
  unfold varIx at hng ⊢
  cases hf:ps[p].vars.findIdx? (nmB s) with
  | none=>rw[hf] at hng;exact absurd (by decide) hng
  | some i=>rw[List.findIdx?_eq_some_iff_getElem] at hf;obtain⟨hi,_⟩:=hf;exact hi
 have hvals:=variable_values ps[p] (hs.vars _ hm) (hs.evs _ hm) (hs.asg _ hm) (asg_of_valid hv p hp) _ hlt
 have hvl:=valsF_length ps[p] (varIx ps[p].vars s).toNat
 have hel:=hs.evs _ hm
 have hmn:=ints_minL (valsF ps[p] (varIx ps[p].vars s).toNat) (by omega) (by omega)
 have hmx:=ints_maxL (valsF ps[p] (varIx ps[p].vars s).toNat) (by omega) (by omega)
 have e1:varLo ps p s=minL (valsF ps[p] (varIx ps[p].vars s).toNat):=by unfold varLo;simp only[Int.toNat_natCast,List.getElem?_eq_getElem hp]
 have e2:varHi ps p s=maxL (valsF ps[p] (varIx ps[p].vars s).toNat):=by unfold varHi;simp only[Int.toNat_natCast,List.getElem?_eq_getElem hp]
 rw[e1,e2]
 have hix:((varIx ps[p].vars s).toNat:Int)=varIx ps[p].vars s:=by omega
 rw[hix] at hvals
 generalize minL (valsF ps[p] (varIx ps[p].vars s).toNat)=lo at *
 generalize maxL (valsF ps[p] (varIx ps[p].vars s).toNat)=hi at *
 generalize valsF ps[p] (varIx ps[p].vars s).toNat=vl at *
 generalize varIx ps[p].vars s=ix at *
 refine PC.enter 32 [.tmp 6,.tmp 7,.tmp 8] [3] Proofs.Tryz.func227 rfl rfl rfl rfl rfl (by simp) (AWp.of ?_);simp only[go_sem]
 refine Wk ?_
 refine Sd ?_
 refine(hfd).val.use ?_;simp only[go_sem]
 refine W1 hgp ?_
 refine Sd ?_
 refine(hvals).val.use ?_;simp only[go_sem]
 refine Wk ?_
 refine Sd ?_
 refine(hmn).val.use ?_;simp only[go_sem]
 refine Wk ?_
 refine Sd ?_
 refine(hmx).val.use ?_;simp only[go_sem]
 refine Wk ?_
 refine ret_eq ?_;simp only[go_sem]
theorem predtype_great (a b:Int):PC Proofs.Tryz.prog 202 [aIv a b] (ab (tooB a b)):=by
 generalize hb:tooB a b=r
 unfold aIv
 refine PC.enter 11 [.tmp 2] [1] Proofs.Tryz.func202 rfl rfl rfl rfl rfl (by simp) (AWp.of ?_);simp only[go_sem]
 refine Wk ?_
 refine ret_eq ?_;simp only[go_sem]
 rw[← hb];rfl
theorem res_leaf {ps:List Pr} {k n p q:Int} {s:ByteArray} {l:List Pd} (h:resB ps (.mk k n p q s l)=true):(k=2→isPB ps.length p=true∧knownB ps p s=true)∧(k=3→isPB ps.length p=true)∧(k=4→isPB ps.length p=true∧isPB ps.length q=true∧p ≠ q):=by
 simp only[resB] at h
 refine⟨fun e => ?_,fun e => ?_,fun e => ?_⟩
 ·rw[if_pos e] at h;simp only[Bool.and_eq_true] at h;exact⟨h.1.1,h.2⟩
 ·rw[if_neg (by omega),if_pos e] at h;simp only[Bool.and_eq_true] at h;exact h.1.1
 ·rw[if_neg (by omega),if_neg (by omega),if_pos e] at h;simp only[Bool.and_eq_true,Bool.not_eq_true',decide_eq_false_iff_not] at h;exact⟨h.1.1.1,h.1.1.2,h.1.2⟩
theorem predtype_leaf (ps:List Pr) (hs:Sm ps) (hv:validF ps=true) (k n p q:Int) (s:ByteArray) (hk:1≤k∧k≤4) (hr:resB ps (.mk k n p q s [])=true) :
  PC Proofs.Tryz.prog 201 [aTr ps,aPd (.mk k n p q s [])] (aIv (bdL ps k n p q s).1 (bdL ps k n p q s).2):=by
 obtain⟨r2,r3,r4⟩:=res_leaf hr
 have hsp:bdL ps k n p q s=if k=1 then (n,n) else if k=3 then (0,evN ps p) else if k=4 then (0,msgN ps p q) else (varLo ps p s,varHi ps p s):=rfl
 have hh:=predtype_hull [n] (by simp) (by simp)
 have hms:=fun h=>predtype_messages ps hs p h q
 have hrg:=fun h1 h2=>variable_Range ps hs hv p h1 s h2
 have e1:minL [n]=n:=rfl
 have e2:maxL [n]=n:=rfl
 rw[e1,e2] at hh
 simp only[aInts,List.map_cons,List.map_nil] at hh
 generalize bdL ps k n p q s=i at *
 unfold aIv at *
 have hk4:k=1∨k=3∨k=4∨k=2:=by omega
 rcases hk4 with h|h|h|h
 ·rw[if_pos h] at hsp
  refine PC.enter 49 [.cell 4 211] [2,3,14] Proofs.Tryz.func201 rfl rfl rfl rfl rfl (by simp) (AWp.of ?_);simp only[go_sem]
  refine Wk ?_
  intro b4
  repeat(first|((with_reducible refine AWp.ofC ?_ ?_);exact rfl;simp only[go_sem,(eq_true h)])|((with_reducible refine an ?_ ?_);exact Au))
  refine Sd ?_
  refine(hh).val.use ?_;simp only[go_sem]
  refine Wk ?_
  refine ret_eq ?_;simp only[go_sem]
  rw[hsp]
 ·have h1:¬k=1:=by omega
  rw[if_neg h1,if_pos h] at hsp
  obtain⟨p,rfl,hp⟩:=isPB_nat (r3 h)
  have hgp:=getD_map (f:=aPr) hp
  rw[evN_get hp] at hsp
  refine PC.enter 49 [.cell 4 211] [2,3,14] Proofs.Tryz.func201 rfl rfl rfl rfl rfl (by simp) (AWp.of ?_);simp only[go_sem]
  refine Wk ?_
  intro b4
  repeat(first|((with_reducible refine AWp.ofC ?_ ?_);exact rfl;simp only[go_sem,(eq_true h),h1,hgp])|((with_reducible refine an ?_ ?_);exact Au))
  refine ret_eq ?_;simp only[go_sem]
  rw[hsp]
 ·have h1:¬k=1:=by omega
  have h3:¬k=3:=by omega
  rw[if_neg h1,if_neg h3,if_pos h] at hsp
  have hms:=hms (r4 h).1
  refine PC.enter 49 [.cell 4 211] [2,3,14] Proofs.Tryz.func201 rfl rfl rfl rfl rfl (by simp) (AWp.of ?_);simp only[go_sem]
  refine Wk ?_
  intro b4
  repeat(first|((with_reducible refine AWp.ofC ?_ ?_);exact rfl;simp only[go_sem,(eq_true h),h1,h3])|((with_reducible refine an ?_ ?_);exact Au))
  refine Sd ?_
  refine(hms).val.use ?_;simp only[go_sem]
  refine Wk ?_
  refine ret_eq ?_;simp only[go_sem]
  rw[hsp]
 ·have h1:¬k=1:=by omega
  have h3:¬k=3:=by omega
  have h4:¬k=4:=by omega
  rw[if_neg h1,if_neg h3,if_neg h4] at hsp
  have hrg:=hrg (r2 h).1 (r2 h).2
  refine PC.enter 49 [.cell 4 211] [2,3,14] Proofs.Tryz.func201 rfl rfl rfl rfl rfl (by simp) (AWp.of ?_);simp only[go_sem]
  refine Wk ?_
  intro b4
  refine W3 h1 h3 h4 ?_
  refine Sd ?_
  refine(hrg).val.use ?_;simp only[go_sem]
  refine Wk ?_
  refine ret_eq ?_;simp only[go_sem]
  rw[hsp]
set_option maxHeartbeats 4000000 in
theorem predtype_bounds (ps:List Pr) (hs:Sm ps) (hv:validF ps=true) (t:Pd):szF t≤1000000→okT ps t=true→t.kind≤8→PC Proofs.Tryz.prog 159 [aTr ps,aPd t] (aBd (intF ps t)):=by
 induction t using Pd.ind with
 | _ k n p q s l ih =>
 intro hz ht hk
 obtain⟨o1,o2,o3,o4⟩:=okT_sub ht
 obtain⟨hpl,_⟩:=loc_len o1
 simp only[Pd.kind] at hk
 have hch:=child_le ht (show k≤12 by omega)
 have hsz:szF (.mk k n p q s l)=szL l+1:=by rw[szF]
 have hll:=szL_len l
 have hsp:=intF_mk ps k n p q s l
 generalize intF ps (.mk k n p q s l)=I at *
 rcases parts_cases k with ⟨e,hc⟩|⟨e,hc⟩|⟨e,hc⟩|e
 ·obtain rfl:=len0 (l:=l) (by omega)
  have hlf:=predtype_leaf ps hs hv k n p q s (by omega) o2
  simp only[List.map_nil,bdN,bdG] at hsp
  have hgr:=predtype_great (bdL ps k n p q s).1 (bdL ps k n p q s).2
  generalize bdL ps k n p q s=i at *
  obtain⟨lo,hi⟩:=i
  unfold aBd aIv at *
  simp only[aPd_mk,List.map_nil] at *
  generalize tooB lo hi=g at *
  refine PC.enter 116 [.cell 4 211,.tmp 5] [2,3,6,7,75] Proofs.Tryz.func159 rfl rfl rfl rfl rfl (by simp) (AWp.of ?_);simp only[go_sem]
  refine Wk ?_
  intro b4
  refine Wk ?_
  refine⟨fun h0 => ?_,fun h0 => ?_⟩
  ·refine Wk ?_
   refine Sd ?_
   refine(hlf).val.use ?_;simp only[go_sem]
   refine Wk ?_
   intro b6 _
   refine AWp.seq ?_
   repeat(first|(with_reducible refine AWp.seq ?_)|(with_reducible refine AWp.block ?_))
   refine AWp.mix mixed [0,1,2,3,5] (.step 4 .done .done) (by kernel_rfl) ?_;simp only[go_sem]
   refine Sd ?_
   refine Gc hgr ?_
   refine Sd ?_
   refine Wk ?_
   refine ret_eq ?_;simp only[go_sem]
   rw[hsp]
  ·exact absurd rfl h0
 ·obtain⟨a,rfl⟩:=len1 (l:=l) (by omega)
  obtain⟨c1,c2⟩:=hch a (by simp)
  have hza:=szL_mem (l:=[a]) (x:=a) (by simp)
  have hca:=ih a (by simp) (by omega) c1 c2
  have hok:=intF_ok ps a
  simp only[List.map_cons,List.map_nil,bdN] at hsp
  generalize intF ps a=A at *
  obtain⟨a1,a2,a3⟩:=A
  obtain⟨ka,na,pa,qa,sa,la⟩:=a
  have k5:k=5:=by omega
  simp only[bd2,if_pos k5,bdG] at hsp
  have hgr:=predtype_great (-a2) (-a1)
  generalize tooB (-a2) (-a1)=g at *
  unfold aBd aIv at *
  simp only[aPd_mk,List.map_cons,List.map_nil] at *
  refine PC.enter 116 [.cell 4 211,.tmp 5] [2,3,6,7,75] Proofs.Tryz.func159 rfl rfl rfl rfl rfl (by simp) (AWp.of ?_);simp only[go_sem]
  refine Wk ?_
  intro b4
  refine Wk ?_
  intro _
  refine AWp.seq ?_
  repeat(first|(with_reducible refine AWp.seq ?_)|(with_reducible refine AWp.block ?_))
  refine AWp.mix mixed [0,1,2,3,4,5,6,7,8,11] (.step 9 (.step 10 .done .done) .done) (by kernel_rfl) ?_;simp only[go_sem]
  refine Sd ?_
  refine Gc hca ?_
  refine Sd ?_
  intro b7 h47
  clear ih o4 hch
  refine Wk ?_
  intro b9 h49
  have n1:¬b4=b9:=by omega
  have n2:¬b9=b4:=by omega
  refine W2 n1 n2 ?_
  intro _
  refine W2 n1 n2 ?_
  refine⟨fun h1 => ?_,fun h1 => ?_⟩
  ·refine W2 n1 n2 ?_
   refine ret_eq ?_;simp only[go_sem]
   simp only[n1,go_sem]
   rw[hsp,if_neg (by rw[h1];decide)]
  rw[if_pos h1] at hsp
  have hok:=hok h1
  refine W2 n1 n2 ?_
  intro b11 m1 m2
  have n3:¬b4=b11:=by omega
  have n4:¬b11=b4:=by omega
  have n5:¬b9=b11:=by omega
  have n6:¬b11=b9:=by omega
  repeat(first|((with_reducible refine AWp.ofC ?_ ?_);exact rfl;simp only[go_sem,(eq_true k5),n4,n6])|((with_reducible refine an ?_ ?_);exact Au))
  refine AWp.view [true] [(11,.rp 2 [.agg [ai (-a2),ai (-a1)]] 0 0)] (LVw.refl _) (fun p hp=>by simp only[List.mem_singleton] at hp;subst hp;exact Vw.ofLp (if_pos rfl)) ?_
  simp only[go_sem]
  refine AWp.seq ?_
  repeat(first|(with_reducible refine AWp.seq ?_)|(with_reducible refine AWp.block ?_))
  refine AWp.mix mixed [0,1,2,3,5] (.step 4 .done .done) (by kernel_rfl) ?_;simp only[go_sem]
  refine Sd ?_
  refine GCall.use (ab g) (fun _=>⟨At,(hgr).val.use ⟨rfl,rfl⟩⟩) ?_;simp only[go_sem,n1]
  refine Sd ?_
  refine W2 n1 n2 ?_
  refine ret_eq ?_;simp only[go_sem]
  simp only[n1,go_sem]
  rw[hsp]
 ·obtain⟨a,b,rfl⟩:=len2 (l:=l) (by omega)
  have k5:¬k=5:=by omega
  obtain⟨c1,c2⟩:=hch a (by simp)
  obtain⟨c3,c4⟩:=hch b (by simp)
  have hza:=szL_mem (l:=[a,b]) (x:=a) (by simp)
  have hzb:=szL_mem (l:=[a,b]) (x:=b) (by simp)
  have hca:=ih a (by simp) (by omega) c1 c2
  have hcc:=ih b (by simp) (by omega) c3 c4
  have hoka:=intF_ok ps a
  have hokb:=intF_ok ps b
  simp only[List.map_cons,List.map_nil,bdN] at hsp
  clear ih o4 hch
  generalize intF ps a=A at *
  generalize intF ps b=B at *
  obtain⟨a1,a2,a3⟩:=A
  obtain⟨e1,e2,e3⟩:=B
  obtain⟨ka,na,pa,qa,sa,la⟩:=a
  obtain⟨kb,nb,pb,qb,sb,lb⟩:=b
  unfold aBd aIv at *
  simp only[aPd_mk,List.map_cons,List.map_nil] at *
  refine PC.enter 116 [.cell 4 211,.tmp 5] [2,3,6,7,75] Proofs.Tryz.func159 rfl rfl rfl rfl rfl (by simp) (AWp.of ?_);simp only[go_sem]
  refine Wk ?_
  intro b4
  refine Wk ?_
  intro _
  refine AWp.seq ?_
  repeat(first|(with_reducible refine AWp.seq ?_)|(with_reducible refine AWp.block ?_))
  refine AWp.mix mixed [0,1,2,3,4,5,6,7,8,11] (.step 9 (.step 10 .done .done) .done) (by kernel_rfl) ?_;simp only[go_sem]
  refine Sd ?_
  refine Gc hca ?_
  refine Sd ?_
  intro b7 h47
  refine Wk ?_
  intro b9 h49
  have n1:¬b4=b9:=by omega
  have n2:¬b9=b4:=by omega
  refine W2 n1 n2 ?_
  refine⟨fun _ => ?_,fun h=>absurd rfl h⟩
  repeat(first|(with_reducible refine AWp.seq ?_)|(with_reducible refine AWp.block ?_))
  refine AWp.mix mixed [0,1,2,3,4,5,6,7,8,10] (.step 9 .done .done) (by kernel_rfl) ?_;simp only[go_sem]
  refine Sd ?_
  refine GCall.use (.tup [.agg [ai e1,ai e2],ab e3]) (fun _=>⟨At,(hcc).val.use ⟨rfl,rfl⟩⟩) ?_;simp only[go_sem,n2]
  refine Sd ?_
  refine W2 n1 n2 ?_
  refine⟨fun h1 => ?_,fun h1 => ?_⟩
  ·refine W2 n1 n2 ?_
   refine ret_eq ?_;simp only[go_sem]
   simp only[n1,go_sem]
   rw[hsp,if_neg (by rintro⟨x1,x2⟩;rw[x1,x2] at h1;simp at h1)]
  intro h2
  rw[if_pos ⟨h1,h2⟩] at hsp
  have hoka:=hoka h1
  have hokb:=hokb h2
  refine W2 n1 n2 ?_
  intro b11 m1 m2
  have n3:¬b4=b11:=by omega
  have n4:¬b11=b4:=by omega
  have n5:¬b9=b11:=by omega
  have n6:¬b11=b9:=by omega
  have fin:∀(lo hi:Int),bd2 k (a1,a2,a3) (e1,e2,e3)=(lo,hi)→I=(lo,hi,!tooB lo hi):=fun lo hi h=>by rw[hsp,h];rfl
  clear hsp
  by_cases k6:k=6
  ·have fin:=fin (a1+e1) (a2+e2) (by unfold bd2;rw[if_neg k5,if_pos k6])
   have hgr:=predtype_great (a1+e1) (a2+e2)
   generalize tooB (a1+e1) (a2+e2)=g at *
   unfold aIv at hgr
   repeat(first|((with_reducible refine AWp.ofC ?_ ?_);exact rfl;simp only[go_sem,(eq_true k6),k5,n2,n4,n5,n6])|((with_reducible refine an ?_ ?_);exact Au))
   refine AWp.view [true] [(11,.rp 2 [.agg [ai (a1+e1),ai (a2+e2)]] 0 0)] (LVw.refl _) (fun p hp=>by simp only[List.mem_singleton] at hp;subst hp;exact Vw.ofLp (if_pos rfl)) ?_
   simp only[go_sem]
   refine AWp.seq ?_
   repeat(first|(with_reducible refine AWp.seq ?_)|(with_reducible refine AWp.block ?_))
   refine AWp.mix mixed [0,1,2,3,5] (.step 4 .done .done) (by kernel_rfl) ?_;simp only[go_sem]
   refine Sd ?_
   refine GCall.use (ab g) (fun _=>⟨At,(hgr).val.use ⟨rfl,rfl⟩⟩) ?_;simp only[go_sem,n1]
   refine Sd ?_
   refine W2 n1 n2 ?_
   refine ret_eq ?_;simp only[go_sem]
   simp only[n1,go_sem]
   rw[fin]
  by_cases k7:k=7
  ·have fin:=fin (a1 - e2) (a2 - e1) (by unfold bd2;rw[if_neg k5,if_neg k6,if_pos k7])
   have hgr:=predtype_great (a1 - e2) (a2 - e1)
   generalize tooB (a1 - e2) (a2 - e1)=g at *
   unfold aIv at hgr
   repeat(first|((with_reducible refine AWp.ofC ?_ ?_);exact rfl;simp only[go_sem,(eq_true k7),k5,k6,n2,n4,n5,n6])|((with_reducible refine an ?_ ?_);exact Au))
   refine AWp.view [true] [(11,.rp 2 [.agg [ai (a1 - e2),ai (a2 - e1)]] 0 0)] (LVw.refl _) (fun p hp=>by simp only[List.mem_singleton] at hp;subst hp;exact Vw.ofLp (if_pos rfl)) ?_
   simp only[go_sem]
   refine AWp.seq ?_
   repeat(first|(with_reducible refine AWp.seq ?_)|(with_reducible refine AWp.block ?_))
   refine AWp.mix mixed [0,1,2,3,5] (.step 4 .done .done) (by kernel_rfl) ?_;simp only[go_sem]
   refine Sd ?_
   refine GCall.use (ab g) (fun _=>⟨At,(hgr).val.use ⟨rfl,rfl⟩⟩) ?_;simp only[go_sem,n1]
   refine Sd ?_
   refine W2 n1 n2 ?_
   refine ret_eq ?_;simp only[go_sem]
   simp only[n1,go_sem]
   rw[fin]
  have hp1:=predtype_product a1 e1 (by omega) (by omega)
  have hp2:=predtype_product a1 e2 (by omega) (by omega)
  have hp3:=predtype_product a2 e1 (by omega) (by omega)
  have hp4:=predtype_product a2 e2 (by omega) (by omega)
  have fin:=fin _ _ (by unfold bd2;rw[if_neg k5,if_neg k6,if_neg k7])
  dsimp only at fin
  generalize timesF a1 e1=t1 at *
  generalize timesF a1 e2=t2 at *
  generalize timesF a2 e1=t3 at *
  generalize timesF a2 e2=t4 at *
  have hh:=predtype_hull [t1,t2,t3,t4] (by simp) (by simp)
  generalize minL [t1,t2,t3,t4]=lo at *
  generalize maxL [t1,t2,t3,t4]=hi at *
  have hgr:=predtype_great lo hi
  generalize tooB lo hi=g at *
  simp only[aInts,List.map_cons,List.map_nil] at hh
  unfold aIv at hgr hh
  repeat(first|((with_reducible refine AWp.ofC ?_ ?_);exact rfl;simp only[go_sem,k5,k6,k7,n2,n4,n5,n6])|((with_reducible refine an ?_ ?_);exact Au))
  refine AWp.view [false,true] [(9,.rp 2 [.agg [ai e1,ai e2]] 0 0)] (LVw.refl _) (fun p hp=>by simp only[List.mem_singleton] at hp;subst hp;exact Vw.ofLp (if_pos rfl)) ?_
  simp only[go_sem]
  repeat(first|(with_reducible refine AWp.seq ?_)|(with_reducible refine AWp.block ?_))
  refine AWp.mix mixed [0,1,2,3,4,5,6,7,8,9,10,11,12,13,14,15,16,17,18,19] (.step 20 (.step 21 (.step 22 .done .done) .done) .done) (by kernel_rfl) ?_;simp only[go_sem]
  refine Sd ?_
  refine GCall.use (ai t1) (fun _=>⟨At,(hp1).val.use ⟨rfl,rfl⟩⟩) ?_;simp only[go_sem]
  refine Sd ?_
  refine GCall.use (ai t2) (fun _=>⟨At,(hp2).val.use ⟨rfl,rfl⟩⟩) ?_;simp only[go_sem]
  refine Sd ?_
  refine GCall.use (ai t3) (fun _=>⟨At,(hp3).val.use ⟨rfl,rfl⟩⟩) ?_;simp only[go_sem]
  refine Sd ?_
  refine GCall.use (ai t4) (fun _=>⟨At,(hp4).val.use ⟨rfl,rfl⟩⟩) ?_;simp only[go_sem]
  refine Sd ?_
  refine Sd ?_
  refine(hh).val.use ?_;simp only[go_sem,n4]
  refine Sd ?_
  refine AWp.view [true] [(11,.rp 2 [.agg [ai lo,ai hi]] 0 0)] (LVw.refl _) (fun p hp=>by simp only[List.mem_singleton] at hp;subst hp;exact Vw.ofLp (if_pos rfl)) ?_
  simp only[go_sem]
  refine AWp.seq ?_
  repeat(first|(with_reducible refine AWp.seq ?_)|(with_reducible refine AWp.block ?_))
  refine AWp.mix mixed [0,1,2,3,5] (.step 4 .done .done) (by kernel_rfl) ?_;simp only[go_sem]
  refine Sd ?_
  refine Gc hgr ?_
  refine Sd ?_
  refine Wk ?_
  refine ret_eq ?_;simp only[go_sem]
  rw[fin]
 ·omega
theorem ref25_Value (ps:List Pr) (hs:Sm ps) (p:Nat) (hp:p<ps.length) (v:Nat) (hv:v<ps[p].vars.length) (k:Nat) (hk:k≤ps[p].evs.length) (ha:AsgOk ps[p]) (hd:AsgDis ps[p]) :
  PC Proofs.Tryz.prog 183 [aTr ps,ai p,ai v,ai k] (ai ((stateAt ps[p] k)[v]'(by rw[stateAt_length];exact hv))):=by
 have hm:=List.getElem_mem hp
 have hel:=hs.evs _ hm
 have hl:=hs.procs
 have hvl:=hs.vars _ hm
 have hgP:=getD_map (f:=aPr) hp
 have hgv:=getD_map (f:=aVar) hv
 have hst:∀j,v<(stateAt ps[p] j).length:=fun j=>by rw[stateAt_length];exact hv
 generalize hR:(stateAt ps[p] k)[v]'(hst k)=R at *
 refine PC.enter 56 [.tmp 8] [4] Proofs.Tryz.func183 rfl rfl rfl rfl rfl (by simp) (AWp.of ?_);simp only[go_sem]
 refine Wk ?_
 refine AWp.block (AWp.loopN [9] [1,2,4] (fun m vs L=>L=[]∧m≤k∧vs=[ai ((m:Int) - 1)]∧(stateAt ps[p] m)[v]'(hst m)=R) k ⟨rfl,by omega,rfl,hR⟩ ?_)
 rintro m vs L - ⟨rfl,hmk,rfl,hmR⟩
 simp only[go_sem]
 refine Wk ?_
 refine⟨fun h1 => ?_,fun h1 => ?_⟩
 ·obtain⟨i,rfl⟩:∃i,m=i+1:=⟨m - 1,by omega⟩
  have hi:i<ps[p].evs.length:=by omega
  have hie:(((i+1:Nat):Int) - 1).toNat=i:=by omega
  have hin:((i+1:Nat):Int) - 1=(i:Int):=by omega
  have hge:=getD_map (f:=aEv) hi
  have hal:=hs.asg _ hm _ (List.getElem_mem hi)
  have hao:∀a ∈ ps[p].evs[i].asg,0≤a.1:=fun a h=>(ha _ (List.getElem_mem hi) a h).1
  have hdi:=hd _ (List.getElem_mem hi)
  have hsu:=stateAt_succ ps[p] i hi
  have hmR':(assignL (stateAt ps[p] i) ps[p].evs[i].asg)[v]?=some R:=by rw[← hsu,List.getElem?_eq_getElem (hst _),hmR]
  have hhit:=assignL_hit (v:=v) ps[p].evs[i].asg (stateAt ps[p] i) (hst i) hao hdi
  have hnone:=assignL_none (v:=v) ps[p].evs[i].asg (stateAt ps[p] i)
  rw[hin]
  refine W2 hgP hge ?_
  refine AWp.block (AWp.count 11 ps[p].evs[i].asg.length [] [1,2,4,9,10] (fun j vs L=>L=[]∧∀b (hb:b<ps[p].evs[i].asg.length),b<j→ps[p].evs[i].asg[b].1 ≠ v) rfl rfl ⟨rfl,by omega⟩ ?_)
  rintro j vs L hj - ⟨rfl,hJ⟩
  simp only[go_sem]
  refine Wk ?_
  refine⟨fun h2 => ?_,fun h2 => ?_⟩
  ·have hjl:j<ps[p].evs[i].asg.length:=by omega
   have hga:=getD_map (f:=aAsg) hjl
   refine W1 hga ?_
   refine⟨fun h3 => ?_,fun h3 => ?_⟩
   ·refine W1 hga ?_
    refine ret_eq ?_;simp only[go_sem]
    have:=hhit j hjl h3
    rw[this] at hmR'
    cases hmR';rfl
   ·refine Wk ?_
    refine⟨_,List.Sublist.refl _,rfl,fun b hb hbj => ?_⟩
    by_cases e:b=j
    ·subst e;exact h3
    ·exact hJ b hb (by omega)
  ·refine Wk ?_
   have hno:=hnone fun a haa=>by
    obtain⟨b,hb,rfl⟩:=List.getElem_of_mem haa
    exact⟨hao _ haa,hJ b hb (by omega)⟩
   rw[hno] at hmR'
   rw[List.getElem?_eq_getElem (hst i)] at hmR'
   refine⟨_,List.Sublist.refl _,i,by omega,rfl,by omega,rfl,by simpa using hmR'⟩
 ·have e:m=0:=by omega
  subst e
  have h0:(stateAt ps[p] 0)[v]'(hst 0)=ps[p].vars[v].2:=by simp [stateAt]
  rw[h0] at hmR
  refine W2 hgP hgv ?_
  refine ret_eq ?_;simp only[go_sem]
  rw[← hmR]
theorem predtype_small (ps:List Pr) (hs:Sm ps) (hv:validF ps=true) (t:Pd):szF t≤1000000→okT ps t=true→PC Proofs.Tryz.prog 107 [aTr ps,aPd t] (ab (fitB ps t)):=by
 induction t using Pd.ind with
 | _ k n p q s l ih =>
 intro hz ht
 have hsz:szF (.mk k n p q s l)=szL l+1:=by rw[szF]
 have hll:=szL_len l
 have hsp:=fitB_mk ps k n p q s l
 have hr:=predtype_result k
 have hbd:=fun h=>predtype_bounds ps hs hv (.mk k n p q s l) hz ht h
 have h1:∀x ∈ l,PV Proofs.Tryz.prog (.clo 160 [.rp 1 [aTr ps] 0 0]) [aPd x] (ab (!fitB ps x)):=by
  intro x hx
  have hxi:=szL_mem hx
  have hch:=ih x hx (by omega) ((okT_sub ht).2.2.2 x hx).1
  generalize fitB ps x=b at *
  obtain⟨k2,n2,p2,q2,s2,l2⟩:=x
  refine PC.clo ?_
  simp only[aPd_mk] at *
  refine PC.enter 8 [.tmp 3] [2] Proofs.Tryz.func160 rfl rfl rfl rfl rfl (by simp) (AWp.of ?_);simp only[go_sem]
  refine Wk ?_
  refine Sd ?_
  refine(hch).val.use ?_;simp only[go_sem]
  refine Wk ?_
  refine ret_eq ?_;simp only[go_sem]
 have hc:=preds_containsFunc l (by omega) _ rfl (fun x => !fitB ps x) h1
 have hall:l.all (fitB ps) = !l.any fun x => !fitB ps x:=by rw[List.all_eq_not_any_not]
 rw[hall] at hsp
 generalize (l.any fun x => !fitB ps x)=c at *
 generalize fitB ps (.mk k n p q s l)=F at *
 simp only[Pd.kind] at hbd
 have hrk:resF k=1↔k≤8:=by unfold resF;split <;> omega
 generalize resF k=r at *
 generalize intF ps (.mk k n p q s l)=I at *
 unfold aBd aIv at hbd
 simp only[aPd_mk] at *
 refine PC.enter 23 [.tmp 4] [2,3,5] Proofs.Tryz.func107 rfl rfl rfl rfl rfl (by simp) (AWp.of ?_);simp only[go_sem]
 refine Wk ?_
 refine Sd ?_
 refine(hr).val.use ?_;simp only[go_sem]
 refine Wk ?_
 refine⟨fun h2 => ?_,fun h2 => ?_⟩
 ·have hk:=hrk.1 h2
  rw[if_pos hk] at hsp
  have hbd:=hbd hk
  refine Wk ?_
  refine Sd ?_
  refine(hbd).val.use ?_;simp only[go_sem]
  refine Wk ?_
  intro b5
  refine Wk ?_
  refine ret_eq ?_;simp only[go_sem]
  rw[hsp]
 ·rw[if_neg (fun h=>h2 (hrk.2 h))] at hsp
  refine Wk ?_
  refine Sd ?_
  refine(hc).val.use ?_;simp only[go_sem]
  refine Wk ?_
  refine ret_eq ?_;simp only[go_sem]
  rw[hsp]
theorem predtype_Check (ps:List Pr) (hs:Sm ps) (t:Pd) (hz:szF t≤1000000):PC Proofs.Tryz.prog 69 [aTr ps,aPd t] (ai (checkF ps t)):=by
 have h1:=trace_Valid ps hs
 have h2:=predtype_formed t hz
 have h3:=predtype_resolved ps hs t hz
 have h4:=predtype_typed t hz
 have h5:=fun h1 h2=>predtype_small ps hs h1 t hz h2
 have hsp:checkF ps t=if (validF ps && formedB t)=false then 1 else if allB (resB ps) t=false then 13 else if typedB t=false then 14 else if fitB ps t=false then 9 else 0:=rfl
 have hok:formedB t=true→allB (resB ps) t=true→typedB t=true→okT ps t=true:=fun a b c=>by
  unfold okT;unfold formedB at a;unfold typedB at c
  simp only[Bool.and_eq_true] at a ⊢
  exact⟨⟨a.2,b⟩,c⟩
 generalize checkF ps t=r at *
 generalize okT ps t=O at *
 generalize validF ps=V at *
 generalize formedB t=F at *
 generalize allB (resB ps) t=R at *
 generalize typedB t=T at *
 generalize fitB ps t=S at *
 obtain⟨k,n,p,q,s,l⟩:=t
 simp only[aPd_mk] at *
 refine PC.enter 28 [.tmp 4] [2,3] Proofs.Tryz.func69 rfl rfl rfl rfl rfl (by simp) (AWp.of ?_);simp only[go_sem]
 refine Wk ?_
 refine Sd ?_
 refine(h1).val.use ?_;simp only[go_sem]
 refine Sd ?_
 refine Gc h2 ?_
 refine Sd ?_
 refine Wk ?_
 refine⟨fun h6 => ?_,fun h6 => ?_⟩
 ·refine Wk ?_
  refine ret_eq ?_;simp only[go_sem]
  rw[hsp,if_pos (by cases V <;> simp_all)]
 intro h7
 rw[if_neg (by rw[h6,h7];decide)] at hsp
 refine Wk ?_
 refine Sd ?_
 refine(h3).val.use ?_;simp only[go_sem]
 refine Wk ?_
 refine⟨fun h8 => ?_,fun h8 => ?_⟩
 ·refine Wk ?_
  refine ret_eq ?_;simp only[go_sem]
  rw[hsp,if_pos h8]
 rw[if_neg (by rw[h8];decide)] at hsp
 refine Wk ?_
 refine Sd ?_
 refine(h4).val.use ?_;simp only[go_sem]
 refine Wk ?_
 refine⟨fun h9 => ?_,fun h9 => ?_⟩
 ·refine Wk ?_
  refine ret_eq ?_;simp only[go_sem]
  rw[hsp,if_pos h9]
 rw[if_neg (by rw[h9];decide)] at hsp
 have h5:=h5 h6 (hok h7 h8 h9)
 refine Wk ?_
 refine Sd ?_
 refine(h5).val.use ?_;simp only[go_sem]
 refine Wk ?_
 refine⟨fun h10 => ?_,fun h10 => ?_⟩
 ·refine Wk ?_
  refine ret_eq ?_;simp only[go_sem]
  rw[hsp,if_pos h10]
 rw[if_neg (by rw[h10];decide)] at hsp
 refine Wk ?_
 refine ret_eq ?_;simp only[go_sem]
 rw[hsp]
theorem fit_child {ps:List Pr} {k n p q:Int} {s:ByteArray} {l:List Pd} (h:fitB ps (.mk k n p q s l)=true) (hk:9≤k):∀x ∈ l,fitB ps x=true:=by
 rw[fitB_mk,if_neg (by omega),List.all_eq_true] at h;exact h
theorem fit_int {ps:List Pr} {x:Pd} (h:fitB ps x=true) (hk:x.kind≤8):(intF ps x).2.2=true:=by
 obtain⟨k,n,p,q,s,l⟩:=x
 simp only[Pd.kind] at hk
 rw[fitB_mk,if_pos hk] at h;exact h
theorem view_truth (ps:List Pr) (c:List Int) (V:List (List Int)) (o:Obs) (hcl:c.length≤1000000) (t:Pd):szF t≤1000000→okT ps t=true→9≤t.kind→fitB ps t=true→allB ntmB t=true→AllP (obsB ps o) t→AllP (leafOk ps c V o) t →
  PC Proofs.Tryz.prog 73 [aView ps c V,aPd t] (ab (truF o t)):=by
 induction t using Pd.ind with
 | _ k n p q s l ih =>
 intro hz ht hk hi htm hob hlf
 obtain⟨o1,o2,o3,o4⟩:=okT_sub ht
 obtain⟨hpl,_⟩:=loc_len o1
 simp only[Pd.kind] at hk
 obtain⟨ht1,ht2⟩:=allB_sub htm
 have hnt:¬(18≤k∧k≤21):=by unfold ntmB tempB at ht1;simp at ht1;omega
 have hsz:szF (.mk k n p q s l)=szL l+1:=by rw[szF]
 have hsp:=truF_mk o k n p q s l
 have hfc:=fit_child hi hk
 obtain⟨_,hls⟩:=AllP_sub hlf
 obtain⟨_,hos⟩:=AllP_sub hob
 generalize truF o (.mk k n p q s l)=R at *
 unfold truN at hsp
 by_cases h12:k≤12
 ·have hch:=child_le ht h12
  obtain⟨a,b,rfl⟩:=len2 (l:=l) (by rcases parts_cases k with ⟨e,hc⟩|⟨e,hc⟩|⟨e,hc⟩|e <;> omega)
  obtain⟨c1,c2⟩:=hch a (by simp)
  obtain⟨c3,c4⟩:=hch b (by simp)
  have hza:=szL_mem (l:=[a,b]) (x:=a) (by simp)
  have hzb:=szL_mem (l:=[a,b]) (x:=b) (by simp)
  have hca:=view_number ps c V o hcl a (by omega) c1 c2 (fit_int (hfc a (by simp)) c2) (hos a (by simp)) (hls a (by simp))
  have hcc:=view_number ps c V o hcl b (by omega) c3 c4 (fit_int (hfc b (by simp)) c4) (hos b (by simp)) (hls b (by simp))
  simp only[List.map_cons,List.map_nil,List.getD_cons_zero,List.getD_cons_succ] at hsp
  generalize valF o a=A at *
  generalize valF o b=B at *
  clear ih hlf hls hob hos htm ht2 hch hfc
  unfold aView at *
  obtain⟨ka,na,pa,qa,sa,la⟩:=a
  obtain⟨kb,nb,pb,qb,sb,lb⟩:=b
  simp only[aPd_mk,List.map_cons,List.map_nil] at *
  refine PC.enter 112 [.tmp 4] [2,3] Proofs.Tryz.func73 rfl rfl rfl rfl rfl (by simp) (AWp.of ?_);simp only[go_sem]
  by_cases h9:k=9
  ·rw[if_pos h9] at hsp
   repeat(first|((with_reducible refine AWp.ofC ?_ ?_);exact rfl;simp only[go_sem,(eq_true h9)])|((with_reducible refine an ?_ ?_);exact Au))
   repeat(first|(with_reducible refine AWp.seq ?_)|(with_reducible refine AWp.block ?_))
   refine AWp.mix mixed [0,1,2,3,4,5,6,7,8,9,10,11,12,13] .done (by kernel_rfl) ?_;simp only[go_sem]
   refine Sd ?_
   refine Gc hca ?_
   refine Sd ?_
   refine Gc hcc ?_
   refine Sd ?_
   refine Wk ?_
   refine ret_eq ?_;simp only[go_sem]
   rw[hsp]
  by_cases h10:k=10
  ·rw[if_neg h9,if_pos h10] at hsp
   repeat(first|((with_reducible refine AWp.ofC ?_ ?_);exact rfl;simp only[go_sem,(eq_true h10),h9])|((with_reducible refine an ?_ ?_);exact Au))
   repeat(first|(with_reducible refine AWp.seq ?_)|(with_reducible refine AWp.block ?_))
   refine AWp.mix mixed [0,1,2,3,4,5,6,7,8,9,10,11,12,13] .done (by kernel_rfl) ?_;simp only[go_sem]
   refine Sd ?_
   refine Gc hca ?_
   refine Sd ?_
   refine Gc hcc ?_
   refine Sd ?_
   refine Wk ?_
   refine ret_eq ?_;simp only[go_sem]
   rw[hsp]
  by_cases h11:k=11
  ·rw[if_neg h9,if_neg h10,if_pos h11] at hsp
   repeat(first|((with_reducible refine AWp.ofC ?_ ?_);exact rfl;simp only[go_sem,(eq_true h11),h9,h10])|((with_reducible refine an ?_ ?_);exact Au))
   repeat(first|(with_reducible refine AWp.seq ?_)|(with_reducible refine AWp.block ?_))
   refine AWp.mix mixed [0,1,2,3,4,5,6,7,8,9,10,11,12,13] .done (by kernel_rfl) ?_;simp only[go_sem]
   refine Sd ?_
   refine Gc hca ?_
   refine Sd ?_
   refine Gc hcc ?_
   refine Sd ?_
   refine Wk ?_
   refine ret_eq ?_;simp only[go_sem]
   rw[hsp]
  have h12:k=12:=by omega
  rw[if_neg h9,if_neg h10,if_neg h11,if_pos h12] at hsp
  repeat(first|((with_reducible refine AWp.ofC ?_ ?_);exact rfl;simp only[go_sem,(eq_true h12),h9,h10,h11])|((with_reducible refine an ?_ ?_);exact Au))
  repeat(first|(with_reducible refine AWp.seq ?_)|(with_reducible refine AWp.block ?_))
  refine AWp.mix mixed [0,1,2,3,4,5,6,7,8,9,10,11,12,13] .done (by kernel_rfl) ?_;simp only[go_sem]
  refine Sd ?_
  refine Gc hca ?_
  refine Sd ?_
  refine Gc hcc ?_
  refine Sd ?_
  refine Wk ?_
  refine ret_eq ?_;simp only[go_sem]
  rw[hsp]
 have h9:¬k=9:=by omega
 have h10:¬k=10:=by omega
 have h11:¬k=11:=by omega
 have h12:¬k=12:=by omega
 rw[if_neg h9,if_neg h10,if_neg h11,if_neg h12] at hsp
 have hch:=child_bool ht (by omega)
 rcases parts_cases k with ⟨e,hc⟩|⟨e,hc⟩|⟨e,hc⟩|e
 ·obtain rfl:=len0 (l:=l) (by omega)
  unfold aView
  simp only[aPd_mk,List.map_nil] at *
  refine PC.enter 112 [.tmp 4] [2,3] Proofs.Tryz.func73 rfl rfl rfl rfl rfl (by simp) (AWp.of ?_);simp only[go_sem]
  by_cases h13:k=13
  ·rw[if_pos h13] at hsp
   repeat(first|((with_reducible refine AWp.ofC ?_ ?_);exact rfl;simp only[go_sem,(eq_true h13),h9,h10,h11,h12])|((with_reducible refine an ?_ ?_);exact Au))
   refine ret_eq ?_;simp only[go_sem]
   rw[hsp]
  ·have h14:k=14:=by omega
   rw[if_neg h13,if_pos h14] at hsp
   repeat(first|((with_reducible refine AWp.ofC ?_ ?_);exact rfl;simp only[go_sem,(eq_true h14),h9,h10,h11,h12,h13])|((with_reducible refine an ?_ ?_);exact Au))
   refine ret_eq ?_;simp only[go_sem]
   rw[hsp]
 ·obtain⟨a,rfl⟩:=len1 (l:=l) (by omega)
  have h13:¬k=13:=by omega
  have h14:¬k=14:=by omega
  have h15:k=15:=by omega
  obtain⟨c1,c2⟩:=hch a (by simp)
  have hza:=szL_mem (l:=[a]) (x:=a) (by simp)
  have hca:=ih a (by simp) (by omega) c1 c2 (hfc a (by simp)) (ht2 a (by simp)) (hos a (by simp)) (hls a (by simp))
  simp only[List.map_cons,List.map_nil,List.getD_cons_zero,if_neg h13,if_neg h14,if_pos h15] at hsp
  generalize truF o a=A at *
  clear ih hlf hls hob hos htm ht2 hch hfc
  unfold aView at *
  obtain⟨ka,na,pa,qa,sa,la⟩:=a
  simp only[aPd_mk,List.map_cons,List.map_nil] at *
  refine PC.enter 112 [.tmp 4] [2,3] Proofs.Tryz.func73 rfl rfl rfl rfl rfl (by simp) (AWp.of ?_);simp only[go_sem]
  repeat(first|((with_reducible refine AWp.ofC ?_ ?_);exact rfl;simp only[go_sem,(eq_true h15),h9,h10,h11,h12,h13,h14])|((with_reducible refine an ?_ ?_);exact Au))
  repeat(first|(with_reducible refine AWp.seq ?_)|(with_reducible refine AWp.block ?_))
  refine AWp.mix mixed [0,1,2,3,4,5,6,7] .done (by kernel_rfl) ?_;simp only[go_sem]
  refine Sd ?_
  refine Gc hca ?_
  refine Sd ?_
  refine Wk ?_
  refine ret_eq ?_;simp only[go_sem]
  rw[hsp]
 ·obtain⟨a,b,rfl⟩:=len2 (l:=l) (by omega)
  have h13:¬k=13:=by omega
  have h14:¬k=14:=by omega
  have h15:¬k=15:=by omega
  obtain⟨c1,c2⟩:=hch a (by simp)
  obtain⟨c3,c4⟩:=hch b (by simp)
  have hza:=szL_mem (l:=[a,b]) (x:=a) (by simp)
  have hzb:=szL_mem (l:=[a,b]) (x:=b) (by simp)
  have hca:=ih a (by simp) (by omega) c1 c2 (hfc a (by simp)) (ht2 a (by simp)) (hos a (by simp)) (hls a (by simp))
  have hcc:=ih b (by simp) (by omega) c3 c4 (hfc b (by simp)) (ht2 b (by simp)) (hos b (by simp)) (hls b (by simp))
  simp only[List.map_cons,List.map_nil,List.getD_cons_zero,List.getD_cons_succ,if_neg h13,if_neg h14,if_neg h15] at hsp
  generalize truF o a=A at *
  generalize truF o b=B at *
  clear ih hlf hls hob hos htm ht2 hch hfc
  unfold aView at *
  obtain⟨ka,na,pa,qa,sa,la⟩:=a
  obtain⟨kb,nb,pb,qb,sb,lb⟩:=b
  simp only[aPd_mk,List.map_cons,List.map_nil] at *
  refine PC.enter 112 [.tmp 4] [2,3] Proofs.Tryz.func73 rfl rfl rfl rfl rfl (by simp) (AWp.of ?_);simp only[go_sem]
  by_cases h16:k=16
  ·rw[if_pos h16] at hsp
   repeat(first|((with_reducible refine AWp.ofC ?_ ?_);exact rfl;simp only[go_sem,(eq_true h16),h9,h10,h11,h12,h13,h14,h15])|((with_reducible refine an ?_ ?_);exact Au))
   repeat(first|(with_reducible refine AWp.seq ?_)|(with_reducible refine AWp.block ?_))
   refine AWp.mix mixed [0,1,2,3,4,5,6,7,8,9,10,11,12,13,14] .done (by kernel_rfl) ?_;simp only[go_sem]
   refine Sd ?_
   refine Gc hca ?_
   refine Sd ?_
   refine Gc hcc ?_
   refine Sd ?_
   refine Wk ?_
   refine ret_eq ?_;simp only[go_sem]
   rw[hsp]
  ·rw[if_neg h16] at hsp
   repeat(first|((with_reducible refine AWp.ofC ?_ ?_);exact rfl;simp only[go_sem,h9,h10,h11,h12,h13,h14,h15,h16])|((with_reducible refine an ?_ ?_);exact Au))
   refine AWp.seq ?_
   repeat(first|(with_reducible refine AWp.seq ?_)|(with_reducible refine AWp.block ?_))
   refine AWp.mix mixed [0,1,2,3,4,5,6,7,8,9,10,11,12,13,14] .done (by kernel_rfl) ?_;simp only[go_sem]
   refine Sd ?_
   refine Gc hca ?_
   refine Sd ?_
   refine Gc hcc ?_
   refine Sd ?_
   refine Wk ?_
   refine ret_eq ?_;simp only[go_sem]
   rw[hsp]
 ·omega
theorem evaluate_typed (t:Pd) (hz:szF t≤1000000) (h1:formedB t=true) (h2:typedB t=true) (w:Int):PC Proofs.Tryz.prog 70 [aPd t,ai w] (ai (if resF t.kind=w then 0 else 14)):=by
 have ht:=predtype_TypeX t hz
 rw[h1,h2] at ht
 rw[if_neg (by decide),if_neg (by decide),if_neg (by decide),if_neg (by decide)] at ht
 generalize resF t.kind=r at *
 obtain⟨k,n,p,q,s,l⟩:=t
 simp only[aPd_mk] at *
 refine PC.enter 19 [.tmp 4] [2] Proofs.Tryz.func70 rfl rfl rfl rfl rfl (by simp) (AWp.of ?_);simp only[go_sem]
 refine Wk ?_
 refine Sd ?_
 refine(ht).val.use ?_;simp only[go_sem]
 refine Wk ?_
 refine⟨fun h3 => ?_,fun h3 => ?_⟩
 ·refine Wk ?_
  refine ret_eq ?_;simp only[go_sem]
  rw[if_neg h3]
 ·refine Wk ?_
  refine ret_eq ?_;simp only[go_sem]
  rw[if_pos h3]
open Classical in
noncomputable def atV (ps:List Pr) (c:List Int) (t:Pd):AV:=if c.length ≠ ps.length∨checkF ps t ≠ 0∨givenF ps [c] [] ≠ 0 then aView [] [] [] else aView ps c (valuesAt ps c)
def andB (f g:Pd→Bool) (x:Pd):Bool:=f x && g x
theorem allB_and {f g:Pd→Bool} (t:Pd):allB f t=true→allB g t=true→allB (andB f g) t=true:=by
 induction t using Pd.ind with
 | _ k n p q s l ih =>
  intro hf hg
  obtain⟨f1,f2⟩:=allB_sub hf
  obtain⟨g1,g2⟩:=allB_sub hg
  rw[allB_mk,Bool.and_eq_true,List.all_eq_true]
  exact⟨by unfold andB;rw[f1,g1];rfl,fun x hx=>ih x hx (f2 x hx) (g2 x hx)⟩
end Go.AL
end
section
namespace Go.AL
open Go Go.RowKit
set_option maxRecDepth 4000
def fillZ (l:List Int) (n i:Nat):List Int:=l.take i ++ List.replicate (n - i) 0
theorem fillZ_set {l:List Int} {n i:Nat} (hl:l.length=n) (hi:i<n):(fillZ l n i).set i (l[i]'(by omega))=fillZ l n (i+1):=by
 unfold fillZ
 have e:n - i=(n - (i+1))+1:=by omega
 rw[List.set_append_right _ _ (by rw[List.length_take];omega),List.length_take,show i - min i l.length=0 by omega,e,List.replicate_succ,List.set_cons_zero,List.take_succ_eq_append_getElem (by omega),List.append_assoc]
 rfl
theorem fillZ_zero (l:List Int) (n:Nat):fillZ l n 0=List.replicate n 0:=by unfold fillZ;simp
theorem fillZ_full {l:List Int} {n:Nat} (h:l.length=n):fillZ l n n=l:=by unfold fillZ;subst h;simp
theorem fillZ_length {l:List Int} {n i:Nat} (hl:l.length=n) (hi:i≤n):(fillZ l n i).length=n:=by unfold fillZ;rw[List.length_append,List.length_take,List.length_replicate];omega
theorem map_set_ai (l:List Int) (i:Nat) (v:Int):(l.map ai).set i (ai v)=(l.set i v).map ai:=by rw[List.map_set]
theorem replicate_ai (n:Nat):(List.replicate n (0:Int)).map ai=List.replicate n (ai 0):=by rw[List.map_replicate]
theorem givenL {ps:List Pr} {l:List (List Int)} : givenF ps l []=0↔(validF ps=true∧∀c ∈ l,c.length=ps.length)∧(∀c ∈ l,inRangeF ps c=true)∧∀c ∈ l,closedF ps c=true:=by
 have h1:sizedF ps l=true↔validF ps=true∧∀c ∈ l,c.length=ps.length:=by
  refine⟨sizedF_inv,fun h => ?_⟩
  unfold sizedF
  rw[h.1,Bool.true_and,Bool.not_eq_true',List.any_eq_false]
  intro c hc
  rw[decide_eq_true (h.2 c hc)];decide
 have h2:=List.all_eq_true (l:=l) (p:=inRangeF ps)
 have h3:=List.all_eq_true (l:=l) (p:=closedF ps)
 rw[← h1,← h2,← h3]
 unfold givenF
 cases sizedF ps l <;> cases l.all (inRangeF ps) <;> cases l.all (closedF ps) <;> simp
mutual
def rwF (c:List Int):Pd→Pd
 | .mk k n p q s l=>if k=3 then .mk 6 0 0 0 ByteArray.empty [.mk k n p q s l,.mk 1 (c.getD p.toNat 0) 0 0 ByteArray.empty []] else .mk k n p q s (rwL c l)
def rwL (c:List Int):List Pd→List Pd
 | []=>[]
 | x :: r=>rwF c x :: rwL c r
end
theorem closed_iff {ps:List Pr} {c:List Int} : closedF ps c=true↔∀(p:Nat) (hp:p<ps.length) (i:Nat) (hi:i<ps[p].evs.length),ps[p].evs[i].kind=3→(i:Int)+1≤cAt c p→(sndr ps ps[p].evs[i].msg).2≤cAt c (sndr ps ps[p].evs[i].msg).1:=by
 unfold closedF
 rw[Bool.not_eq_true',List.any_eq_false]
 constructor
 ·intro h p hp i hi hk hc
  have:=h _ (List.mem_of_getElem? (evIds_get hp hi))
  unfold badEv at this
  simp only[Bool.and_eq_true,decide_eq_true_eq,not_and] at this
  have:=this ⟨hk,hc⟩
  unfold sndr
  omega
 ·intro h x hx
  obtain⟨k,hk⟩:=List.getElem?_of_mem hx
  obtain⟨p,hp,i,hi,_,rfl⟩:=evIds_inv hk
  unfold badEv
  simp only[Bool.and_eq_true,decide_eq_true_eq,not_and]
  rintro⟨h1,h2⟩
  have:=h p hp i hi h1 h2
  unfold sndr at this
  omega
theorem inRange_iff {ps:List Pr} {c:List Int} (hc:c.length=ps.length):inRangeF ps c=true↔∀(p:Nat) (hp:p<ps.length),0≤cAt c p∧cAt c p≤ps[p].evs.length:=by
 constructor
 ·intro h p hp
  obtain⟨h1,h2⟩:=inRangeF_get h hc hp
  rw[cAt_nat (show p<c.length by omega)]
  exact⟨h1,h2⟩
 ·intro h
  unfold inRangeF
  rw[List.all_eq_true]
  intro p hp
  have hpc:=List.mem_range.1 hp
  have hpp:p<ps.length:=by omega
  have:=h p hpp
  rw[cAt_nat hpc] at this
  unfold cntOk
  simp only[List.getElem?_eq_getElem hpc,List.getElem?_eq_getElem hpp,Bool.and_eq_true,decide_eq_true_eq]
  exact this
def joinL (c d:List Int):List Int:=List.zipWith (fun x y=>if x<y then y else x) c d
theorem zw_cAt {c d:List Int} {g:Int→Int→Int} (h:c.length=d.length) {p:Nat} (hp:p<c.length):cAt (List.zipWith g c d) p=g (cAt c p) (cAt d p):=by
 rw[cAt_nat (show p<(List.zipWith g c d).length by rw[List.length_zipWith];omega),cAt_nat hp,cAt_nat (show p<d.length by omega),List.getElem_zipWith]
theorem join_cAt {c d:List Int} (h:c.length=d.length) {p:Nat} (hp:p<c.length):cAt (joinL c d) p=if cAt c p<cAt d p then cAt d p else cAt c p:=zw_cAt h hp
theorem join_len {c d:List Int} (h:c.length=d.length):(joinL c d).length=c.length:=by unfold joinL;rw[List.length_zipWith];omega
theorem join_given {ps:List Pr} {c d:List Int} (hc:givenF ps [c] []=0) (hd:givenF ps [d] []=0):givenF ps [joinL c d] []=0:=by
 obtain⟨hv,hcl,hcr,hcc⟩:=givenF_zero hc
 obtain⟨_,hdl,hdr,hdc⟩:=givenF_zero hd
 have hl:=join_len (c:=c) (d:=d) (by omega)
 rw[givenL]
 refine⟨⟨hv,fun x hx => ?_⟩,fun x hx => ?_,fun x hx => ?_⟩ <;> (simp only[List.mem_singleton] at hx;subst hx)
 ·omega
 ·rw[inRange_iff (by omega)]
  intro p hp
  have h1:=(inRange_iff hcl).1 hcr p hp
  have h2:=(inRange_iff hdl).1 hdr p hp
  rw[join_cAt (by omega) (by omega)]
  split <;> omega
 ·rw[closed_iff]
  intro p hp i hi hk hle
  obtain⟨hq,j,hj,h1,_,_⟩:=recv_peer (valid_parts hv).2.2 hp hi hk
  rw[join_cAt (by omega) (by omega)] at hle
  have g1:=closed_iff.1 hcc p hp i hi hk
  have g2:=closed_iff.1 hdc p hp i hi hk
  rw[h1] at g1 g2 ⊢
  simp only at g1 g2 ⊢
  generalize ps[p].evs[i].peer.toNat=q at *
  rw[join_cAt (by omega) (by omega)]
  split at hle <;> split <;> omega
section
variable {ps:List Pr} {c j:List Int}
end
def closeN (ps:List Pr):Nat→List Int→List Int
 | 0,c=>c
 | n+1,c=>match missF ps c with
  | none=>c
  | some x=>closeN ps n (c.set x.1.1.toNat x.1.2)
def closeF (ps:List Pr) (c:List Int):List Int:=closeN ps (off ps ps.length) c
theorem sumN_set:∀(l:List Nat) (i x:Nat) (h:i<l.length),(l.set i x).sum+l[i]=l.sum+x
 | a :: r,0,x,_=>by simp only[List.set_cons_zero,List.sum_cons,List.getElem_cons_zero];omega
 | a :: r,i+1,x,h=>by
  have:=sumN_set r i x (by simpa using h)
  simp only[List.set_cons_succ,List.sum_cons,List.getElem_cons_succ];omega
def totC (c:List Int):Nat:=(c.map Int.toNat).sum
theorem totC_set {c:List Int} {q:Nat} {x:Int} (hq:q<c.length):totC (c.set q x)+(c[q]).toNat=totC c+x.toNat:=by
 unfold totC
 rw[List.map_set]
 have:=sumN_set (c.map Int.toNat) q x.toNat (by simpa using hq)
 simpa using this
theorem totC_le0:∀(l:List Pr) (c:List Int),c.length=l.length→(∀p (hp:p<l.length),c.getD p 0≤l[p].evs.length)→totC c≤(l.map fun x=>x.evs.length).sum
 | [],[],_,_=>Nat.le_refl _
 | x :: l,a :: c,hl,h=>by
  have h0:=h 0 (by simp)
  have ht:=totC_le0 l c (by simpa using hl) fun p hp=>by
   have:=h (p+1) (by simpa using hp)
   simpa using this
  simp only[List.getElem_cons_zero,List.getD_cons_zero] at h0
  unfold totC at *
  simp only[List.map_cons,List.sum_cons]
  omega
theorem totC_le {ps:List Pr} {c:List Int} (hc:c.length=ps.length) (hr:inRangeF ps c=true):totC c≤off ps ps.length:=by
 unfold off
 rw[List.take_length]
 refine totC_le0 ps c hc fun p hp => ?_
 have:=((inRange_iff hc).1 hr p hp).2
 unfold cAt at this
 simpa using this
theorem miss_inv {ps:List Pr} (hv:validF ps=true) {c:List Int} (_hc:c.length=ps.length) {x:Eid × Eid} (h:missF ps c=some x) :
  ∃(p:Nat) (_:p<ps.length) (i:Nat) (_:i<ps[p].evs.length) (q:Nat) (_:q<ps.length) (j:Nat) (_:j<ps[q].evs.length),ps[p].evs[i].kind=3∧(i:Int)+1≤cAt c p∧sndr ps ps[p].evs[i].msg=((q:Int),(j:Int)+1)∧x=(((q:Int),(j:Int)+1),((p:Int),(i:Int)+1))∧cAt c q<(j:Int)+1:=by
 unfold missF at h
 rw[Option.map_eq_some_iff] at h
 obtain⟨y,hy,rfl⟩:=h
 have hb:=List.find?_some hy
 obtain⟨k,hk⟩:=List.getElem?_of_mem (List.mem_of_find?_eq_some hy)
 obtain⟨p,hp,i,hi,_,rfl⟩:=evIds_inv hk
 unfold badEv at hb
 simp only[Bool.and_eq_true,decide_eq_true_eq] at hb
 obtain⟨⟨h1,h2⟩,h3⟩:=hb
 obtain⟨hq,j,hj,e,_,_⟩:=recv_peer (valid_parts hv).2.2 hp hi h1
 have e':findIn (evIds ps) 2 ps[p].evs[i].msg=((ps[p].evs[i].peer.toNat:Int),(j:Int)+1):=e
 rw[e'] at h3
 exact⟨p,hp,i,hi,_,hq,j,hj,h1,h2,e,by rw[e'],h3⟩
theorem miss_next {ps:List Pr} (hv:validF ps=true) {c:List Int} (hc:c.length=ps.length) (hr:inRangeF ps c=true) {x:Eid × Eid} (h:missF ps c=some x) :
  (c.set x.1.1.toNat x.1.2).length=ps.length∧inRangeF ps (c.set x.1.1.toNat x.1.2)=true∧totC c<totC (c.set x.1.1.toNat x.1.2):=by
 obtain⟨p,hp,i,hi,q,hq,j,hj,_,_,_,rfl,h1⟩:=miss_inv hv hc h
 have hl:(c.set q ((j:Int)+1)).length=ps.length:=by rw[List.length_set];exact hc
 refine⟨hl,?_,?_⟩
 ·rw[Int.toNat_natCast,inRange_iff hl]
  intro r hr'
  rw[cAt_nat (show r<(c.set q ((j:Int)+1)).length by omega),List.getElem_set]
  split
  ·rename_i e;subst e;omega
  ·have:=(inRange_iff hc).1 hr r hr'
   rw[cAt_nat (show r<c.length by omega)] at this
   exact this
 ·have:=totC_set (c:=c) (q:=q) (x:=(j:Int)+1) (by omega)
  rw[cAt_nat (show q<c.length by omega)] at h1
  have h0:=((inRange_iff hc).1 hr q hq).1
  rw[cAt_nat (show q<c.length by omega)] at h0
  simp only[Int.toNat_natCast]
  have h3:((j:Int)+1).toNat=j+1:=by omega
  rw[h3] at this
  omega
theorem closeN_more {ps:List Pr} (hv:validF ps=true):∀(n:Nat) (c:List Int),c.length=ps.length→inRangeF ps c=true→off ps ps.length≤totC c+n→closeN ps (n+1) c=closeN ps n c
 | 0,c,hc,hr,hn=>by
  unfold closeN
  cases h:missF ps c with
  | none=>rfl
  | some x =>
   obtain⟨a1,a2,a3⟩:=miss_next hv hc hr h
   have:=totC_le a1 a2
   omega
 | n+1,c,hc,hr,hn=>by
  rw[closeN]
  conv=>rhs;rw[closeN]
  cases h:missF ps c with
  | none=>rfl
  | some x =>
   obtain⟨a1,a2,a3⟩:=miss_next hv hc hr h
   exact closeN_more hv n _ a1 a2 (by omega)
theorem closeN_of {ps:List Pr} (hv:validF ps=true) {c:List Int} (hc:c.length=ps.length) (hr:inRangeF ps c=true) {n:Nat} (h:off ps ps.length≤totC c+n):∀k,closeN ps (n+k) c=closeN ps n c
 | 0=>rfl
 | k+1=>by rw[← Nat.add_assoc,closeN_more hv (n+k) c hc hr (by omega),closeN_of hv hc hr h k]
theorem closeF_step {ps:List Pr} (hv:validF ps=true) {c:List Int} (hc:c.length=ps.length) (hr:inRangeF ps c=true) {x:Eid × Eid} (h:missF ps c=some x):closeF ps c=closeF ps (c.set x.1.1.toNat x.1.2):=by
 obtain⟨a1,a2,a3⟩:=miss_next hv hc hr h
 have hle:=totC_le a1 a2
 unfold closeF
 obtain⟨m,hm⟩:∃m,off ps ps.length=m+1:=⟨off ps ps.length - 1,by omega⟩
 rw[hm]
 conv=>lhs;rw[closeN]
 rw[h]
 exact(closeN_of hv a1 a2 (n:=m) (by omega) 1).symm
theorem closeF_none {ps:List Pr} {c:List Int} (h:missF ps c=none):closeF ps c=c:=by
 unfold closeF
 cases off ps ps.length with
 | zero=>rfl
 | succ n=>rw[closeN,h]
theorem miss_ind {ps:List Pr} (hv:validF ps=true) {M:List Int→Prop} (h0:∀c,c.length=ps.length→inRangeF ps c=true→missF ps c=none→M c)
  (h1:∀c,c.length=ps.length→inRangeF ps c=true→∀x,missF ps c=some x→M (c.set x.1.1.toNat x.1.2)→M c):∀c,c.length=ps.length→inRangeF ps c=true→M c:=by
 suffices H:∀n c,c.length=ps.length→inRangeF ps c=true→off ps ps.length - totC c=n→M c from fun c hc hr=>H _ c hc hr rfl
 intro n
 induction n using Nat.strongRecOn with
 | _ n ih =>
  intro c hc hr hn
  cases h:missF ps c with
  | none=>exact h0 c hc hr h
  | some x =>
   obtain⟨a1,a2,a3⟩:=miss_next hv hc hr h
   have:=totC_le a1 a2
   exact h1 c hc hr x h (ih _ (by omega) _ a1 a2 rfl)
theorem closeF_ok {ps:List Pr} (hv:validF ps=true) {c:List Int} (hc:c.length=ps.length) (hr:inRangeF ps c=true):(closeF ps c).length=ps.length∧inRangeF ps (closeF ps c)=true∧missF ps (closeF ps c)=none:=by
 refine miss_ind hv (M:=fun c=>(closeF ps c).length=ps.length∧inRangeF ps (closeF ps c)=true∧missF ps (closeF ps c)=none) (fun c hc hr h => ?_) (fun c hc hr x h hm => ?_) c hc hr
 ·rw[closeF_none h];exact⟨hc,hr,h⟩
 ·rw[closeF_step hv hc hr h];exact hm
theorem closeF_ge {ps:List Pr} (hv:validF ps=true) {c:List Int} (hc:c.length=ps.length) (hr:inRangeF ps c=true):∀p,p<ps.length→cAt c p≤cAt (closeF ps c) p:=by
 refine miss_ind hv (M:=fun c=>∀p,p<ps.length→cAt c p≤cAt (closeF ps c) p) (fun c hc hr h p hp => ?_) (fun c hc hr x h hm p hp => ?_) c hc hr
 ·rw[closeF_none h];exact Int.le_refl _
 ·rw[closeF_step hv hc hr h]
  refine Int.le_trans ?_ (hm p hp)
  obtain⟨_,_,_,_,q,hq,j,hj,_,_,_,rfl,h1⟩:=miss_inv hv hc h
  rw[Int.toNat_natCast,cAt_nat (show p<(c.set q ((j:Int)+1)).length by rw[List.length_set];omega),List.getElem_set]
  split
  ·rename_i e;subst e;omega
  ·rw[cAt_nat (show p<c.length by omega)];exact Int.le_refl _
theorem closeF_least {ps:List Pr} (hv:validF ps=true) {d:List Int} (_hd:d.length=ps.length) (hcl:closedF ps d=true) {c:List Int} (hc:c.length=ps.length) (hr:inRangeF ps c=true) :
  (∀p,p<ps.length→cAt c p≤cAt d p)→∀p,p<ps.length→cAt (closeF ps c) p≤cAt d p:=by
 refine miss_ind hv (M:=fun c=>(∀p,p<ps.length→cAt c p≤cAt d p)→∀p,p<ps.length→cAt (closeF ps c) p≤cAt d p) (fun c hc hr h hle => ?_) (fun c hc hr x h hm hle => ?_) c hc hr
 ·rw[closeF_none h];exact hle
 ·rw[closeF_step hv hc hr h]
  refine hm fun p hp => ?_
  obtain⟨a,ha,i,hi,q,hq,j,hj,g1,g2,g3,rfl,h1⟩:=miss_inv hv hc h
  rw[Int.toNat_natCast,cAt_nat (show p<(c.set q ((j:Int)+1)).length by rw[List.length_set];omega),List.getElem_set]
  split
  ·rename_i e;subst e
   have:=closed_iff.1 hcl a ha i hi g1 (Int.le_trans g2 (hle a ha))
   rw[g3] at this
   exact this
  ·have:=hle p hp
   rw[cAt_nat (show p<c.length by omega)] at this
   exact this
theorem closeF_closed {ps:List Pr} (hv:validF ps=true) {c:List Int} (hc:c.length=ps.length) (hr:inRangeF ps c=true):closedF ps (closeF ps c)=true:=by
 rw[closedF_iff,(closeF_ok hv hc hr).2.2];rfl
structure Elim where
 n:Nat
 top:Nat→Nat
 ok:Nat→Nat→Bool
 need:Nat→Nat→Nat→Int
def exB (E:Elim) (now:Nat→Nat) (p k:Nat):Bool:=!E.ok p k || (List.range E.n).any fun q=>decide (q ≠ p) && decide ((k:Int)<E.need q (now q) p)
def nextF (ex:Nat→Bool) (top:Nat):Nat→Nat→Nat
 | 0,k=>k
 | m+1,k=>if k≤top∧ex k=true then nextF ex top m (k+1) else k
def nextK (ex:Nat→Bool) (top k:Nat):Nat:=nextF ex top (top+1 - k) k
section
variable {ex:Nat→Bool} {top k:Nat}
theorem nextK_hit (h:k≤top) (he:ex k=true):nextK ex top k=nextK ex top (k+1):=by
 unfold nextK
 obtain⟨m,hm⟩:∃m,top+1 - k=m+1:=⟨top - k,by omega⟩
 rw[hm,nextF,if_pos ⟨h,he⟩,show top+1 - (k+1)=m by omega]
theorem nextK_stop (h:¬(k≤top∧ex k=true)):nextK ex top k=k:=by
 unfold nextK
 cases top+1 - k with
 | zero=>rfl
 | succ m=>rw[nextF,if_neg h]
theorem nextK_spec:∀(m k:Nat),top+1 - k=m→k≤top+1→k≤nextK ex top k∧nextK ex top k≤top+1∧(∀j,k≤j→j<nextK ex top k→ex j=true)∧(nextK ex top k≤top→ex (nextK ex top k)=false)
 | 0,k,hm,hk=>by
  rw[nextK_stop (by omega)]
  exact⟨Nat.le_refl _,hk,fun j _ _=>by omega,fun h=>by omega⟩
 | m+1,k,hm,hk=>by
  by_cases he:ex k=true
  ·rw[nextK_hit (by omega) he]
   obtain⟨a1,a2,a3,a4⟩:=nextK_spec m (k+1) (by omega) (by omega)
   refine⟨by omega,a2,fun j h1 h2 => ?_,a4⟩
   by_cases e:j=k
   ·subst e;exact he
   ·exact a3 j (by omega) h2
  ·rw[nextK_stop (fun h=>he h.2)]
   exact⟨Nat.le_refl _,hk,fun j _ _=>by omega,fun _=>by simpa using he⟩
end
def stepP (E:Elim) (now:Nat→Nat):Option Nat:=(List.range E.n).find? fun p=>exB E now p (now p)
def goF (E:Elim) (now:Nat→Nat) (p:Nat):Nat:=nextK (exB E now p) (E.top p) (now p)
def updN (f:Nat→Nat) (p x:Nat):Nat→Nat:=fun q=>if q=p then x else f q
theorem updN_self (f:Nat→Nat) (p x:Nat):updN f p x p=x:=if_pos rfl
theorem updN_ne {f:Nat→Nat} {p x q:Nat} (h:q ≠ p):updN f p x q=f q:=if_neg h
theorem find_range {n:Nat} {f:Nat→Bool} {p:Nat} (h:(List.range n).find? f=some p):p<n∧f p=true∧∀q,q<p→f q=false:=by
 rw[List.find?_eq_some_iff_getElem] at h
 obtain⟨h1,i,hi,e,h2⟩:=h
 rw[List.getElem_range] at e
 subst e
 refine⟨by simpa using hi,h1,fun q hq => ?_⟩
 have:=h2 q hq
 rw[List.getElem_range] at this
 simpa using this
theorem find_range_none {n:Nat} {f:Nat→Bool} (h:(List.range n).find? f=none):∀q,q<n→f q=false:=fun q hq=>by
 rw[List.find?_eq_none] at h
 simpa using h q (List.mem_range.2 hq)
theorem find_range_of {n:Nat} {f:Nat→Bool} {p:Nat} (hp:p<n) (h:f p=true) (h0:∀q,q<p→f q=false):(List.range n).find? f=some p:=by
 rw[List.find?_eq_some_iff_getElem]
 exact⟨h,p,by simpa using hp,List.getElem_range _,fun j hj=>by rw[List.getElem_range,h0 j hj];rfl⟩
theorem find_range_no {n:Nat} {f:Nat→Bool} (h0:∀q,q<n→f q=false):(List.range n).find? f=none:=by
 rw[List.find?_eq_none]
 intro x hx
 rw[h0 x (List.mem_range.1 hx)];decide
abbrev Stp:=Nat × Nat × Nat
inductive RunR (E:Elim):(Nat→Nat)→List Stp→(Nat→Nat)→Bool→Prop
 | stop {now:Nat→Nat} (h:stepP E now=none):RunR E now [] now false
 | lost {now:Nat→Nat} {p:Nat} (h:stepP E now=some p) (hl:E.top p<goF E now p):RunR E now [(p,now p,goF E now p - 1)] (updN now p (goF E now p)) true
 | go {now fin:Nat→Nat} {p:Nat} {st:List Stp} {l:Bool} (h:stepP E now=some p) (hl:goF E now p≤E.top p) (hr:RunR E (updN now p (goF E now p)) st fin l):RunR E now ((p,now p,goF E now p - 1) :: st) fin l
def InE (E:Elim) (now:Nat→Nat):Prop:=∀q,q<E.n→now q≤E.top q
def roomE (E:Elim) (now:Nat→Nat):Nat:=totS E.n fun q=>E.top q+1 - now q
theorem totS_lt {c c':Nat→Nat} {p:Nat} (h:∀q,q ≠ p→c' q=c q) (hp:c' p<c p):∀n,totS n c'+(if p<n then 1 else 0)≤totS n c
 | 0=>by simp [totS]
 | n+1=>by
  have:=totS_lt h hp n
  rw[totS_succ,totS_succ]
  by_cases e:n=p
  ·subst e
   rw[if_neg (by omega)] at this
   rw[if_pos (by omega)];omega
  ·rw[h n e]
   by_cases e2:p<n
   ·rw[if_pos e2] at this;rw[if_pos (by omega)];omega
   ·rw[if_neg e2] at this;rw[if_neg (by omega)];omega
theorem step_inv {E:Elim} {now:Nat→Nat} (hI:InE E now) {p:Nat} (h:stepP E now=some p) :
  p<E.n∧exB E now p (now p)=true∧(∀q,q<p→exB E now q (now q)=false)∧now p<goF E now p∧goF E now p≤E.top p+1∧(∀j,now p≤j→j<goF E now p→exB E now p j=true)∧roomE E (updN now p (goF E now p))<roomE E now:=by
 obtain⟨h1,h2,h3⟩:=find_range h
 have hle:=hI p h1
 obtain⟨a1,a2,a3,a4⟩:=nextK_spec (ex:=exB E now p) (top:=E.top p) _ (now p) rfl (by omega)
 have hlt:now p<goF E now p:=by
  unfold goF
  rw[nextK_hit hle h2]
  obtain⟨b1,_⟩:=nextK_spec (ex:=exB E now p) (top:=E.top p) _ (now p+1) rfl (by omega)
  omega
 refine⟨h1,h2,h3,hlt,a2,a3,?_⟩
 unfold roomE
 have:=totS_lt (c:=fun q=>E.top q+1 - now q) (c':=fun q=>E.top q+1 - updN now p (goF E now p) q) (p:=p) (fun q hq=>by rw[updN_ne hq]) (by rw[updN_self];omega) E.n
 rw[if_pos h1] at this
 omega
theorem inE_step {E:Elim} {now:Nat→Nat} (hI:InE E now) {p:Nat} (hl:goF E now p≤E.top p):InE E (updN now p (goF E now p)):=fun q hq=>by
 by_cases e:q=p
 ·subst e;rw[updN_self];exact hl
 ·rw[updN_ne e];exact hI q hq
theorem run_ex (E:Elim):∀(m:Nat) (now:Nat→Nat),InE E now→roomE E now≤m→∃st fin l,RunR E now st fin l:=by
 intro m
 induction m with
 | zero =>
  intro now hI hm
  cases h:stepP E now with
  | none=>exact⟨_,_,_,.stop h⟩
  | some p=>have:=(step_inv hI h).2.2.2.2.2.2;omega
 | succ m ih =>
  intro now hI hm
  cases h:stepP E now with
  | none=>exact⟨_,_,_,.stop h⟩
  | some p =>
   have h7:=(step_inv hI h).2.2.2.2.2.2
   by_cases hl:goF E now p≤E.top p
   ·obtain⟨st,fin,l,hr⟩:=ih _ (inE_step hI hl) (by omega)
    exact⟨_,_,_,.go h hl hr⟩
   ·exact⟨_,_,_,.lost h (by omega)⟩
theorem inE_zero (E:Elim):InE E fun _=>0:=fun _ _=>Nat.zero_le _
open Classical in
noncomputable def stepsF (E:Elim):List Stp:=Classical.choose (run_ex E _ _ (inE_zero E) (Nat.le_refl _))
open Classical in
noncomputable def finF (E:Elim):Nat→Nat:=Classical.choose (Classical.choose_spec (run_ex E _ _ (inE_zero E) (Nat.le_refl _)))
open Classical in
noncomputable def lostF (E:Elim):Bool:=Classical.choose (Classical.choose_spec (Classical.choose_spec (run_ex E _ _ (inE_zero E) (Nat.le_refl _))))
end Go.AL
end
section
namespace Go.AL
open Go Go.RowKit
set_option maxRecDepth 4000
def spS (b:Nat→Bool) (p:Nat):Nat→List Stp × Option Nat
 | 0=>([],none)
 | k+1=>match spS b p k,b k with
  | (d,some f),true=>(d,some f)
  | (d,none),true=>(d,some k)
  | (d,some f),false=>(d ++ [(p,f,k - 1)],none)
  | (d,none),false=>(d,none)
def spC (s:List Stp × Option Nat) (p k:Nat):List Stp:=s.1 ++ (match s.2 with|some f=>[(p,f,k - 1)]|none=>[])
def spL (b:Nat→Bool) (p k:Nat):List Stp:=spC (spS b p k) p k
section
variable {b:Nat→Bool} {p:Nat}
theorem spL_zero:spL b p 0=[]:=rfl
theorem spS_cur:∀k,(spS b p k).2.isSome=(decide (0<k) && b (k - 1))
 | 0=>rfl
 | k+1=>by
  unfold spS
  simp only[Nat.zero_lt_succ,decide_true,Bool.true_and,Nat.add_sub_cancel]
  split <;> rename_i h1 h2 <;> rw[h2] <;> rfl
theorem spL_no {k:Nat} (h:b k=false):spL b p (k+1)=spL b p k:=by
 unfold spL spC
 rw[spS]
 rcases e:spS b p k with ⟨d,_|f⟩
 ·simp [h]
 ·simp [h]
theorem spL_new {k:Nat} (h:b k=true) (h0:(decide (0<k) && b (k - 1))=false):spL b p (k+1)=spL b p k ++ [(p,k,k)]:=by
 have:=spS_cur (b:=b) (p:=p) k
 unfold spL spC
 rw[spS]
 rcases e:spS b p k with ⟨d,_|f⟩
 ·simp [h]
 ·rw[e,h0] at this;cases this
theorem spL_on {k:Nat} (h:b k=true) (h0:(decide (0<k) && b (k - 1))=true):∃d f,spL b p k=d ++ [(p,f,k - 1)]∧spL b p (k+1)=d ++ [(p,f,k)]:=by
 have:=spS_cur (b:=b) (p:=p) k
 unfold spL spC
 rw[spS]
 rcases e:spS b p k with ⟨d,_|f⟩
 ·rw[e,h0] at this;cases this
 ·exact⟨d,f,by simp,by simp [h]⟩
theorem spL_len:∀k,(spL b p k).length≤k
 | 0=>Nat.le_refl 0
 | k+1=>by
  have ih:=spL_len k
  cases h:b k with
  | false=>rw[spL_no h];omega
  | true =>
   cases h0:decide (0<k) && b (k - 1) with
   | false=>rw[spL_new h h0,List.length_append];simp;omega
   | true =>
    obtain⟨d,f,e1,e2⟩:=spL_on (p:=p) h h0
    rw[e1] at ih
    rw[e2]
    simp at ih ⊢;omega
end
end Go.AL
end
section
namespace Go.AL
open Go Go.RowKit Go.ChangeShapes Go.WideShapes Go.ChangeAt
theorem Fr.below {W W':World} (h:Fr W (keysOf []) W'):Below W.heap.size W W':=⟨h.os,h.tape,h.output,h.size,fun k hk=>h.block k hk (by rintro⟨x,hx,_⟩;cases hx)⟩
theorem LRel.empty (W:World) (hg:∀g x,GV g=some x→Rel W (fun b=>b<W.heap.size) x (.pointer (some ⟨g,0,none⟩))):LRel W (fun b=>b<W.heap.size) []:=⟨fun _ h=>h,(by intro x hx;cases hx),List.nodup_nil,(by intro x hx;cases hx),hg⟩
theorem PC.calls {P:Program} {f:FuncId} {args:List AV} {x:Value} (h:PC P f args (.v x)) {W:World} {vs:List Value} (hg:∀g x,GV g=some x→Rel W (fun b=>b<W.heap.size) x (.pointer (some ⟨g,0,none⟩))) (hr:Rels W (fun b=>b<W.heap.size) args vs) :
  Calls P f vs.toArray W fun e W'=>e = .returned x∧Below W.heap.size W W' :=
 ((h.2 0 W _ vs (LRel.empty W hg) hr).calls (fun _ d hd=>by cases hd)).mono fun e W' ⟨v,r,L',A',he,⟨hr,_⟩,hf,_,_,_,hv⟩=>by
  subst he hr
  cases hv
  exact⟨rfl,hf.below⟩
def Rd {H:Type} (enc:TypeId × Value→H) (P:Program) (W:World) (t:TypeId) (k:Nat) {α:Type} (E:α→AV) (ok:α→Prop):Prop :=
 ∀fuel cs x,DataW.trod enc P W 0 (fun _=>true) true fuel t cs=some x→∃y,ok y∧elOk k (E y)∧cs.length=k∧∀(i:Nat) c u,(E y).cells[i]?=some c→cs[i]?=some u→Rel W (fun b=>b<W.heap.size) c u
section
variable {H:Type} {enc:TypeId × Value→H} {P:Program} {W:World} {t:TypeId}
theorem Rd.int (ht:P.underlying t=some (.int .i64)):Rd enc P W t 1 ai (fun n=>(Lit.int .i64 n).wf=true):=by
 intro fuel cs x h
 obtain⟨n,rfl,_,hw⟩:=DataW.trod_int ht h
 refine⟨n,hw,⟨rfl,rfl⟩,rfl,fun i c u h1 h2 => ?_⟩
 cases i with
 | zero=>cases h1;cases h2;exact .v _
 | succ i=>cases h2
theorem Rd.str (ht:P.underlying t=some .string):Rd enc P W t 1 (fun s => .v (.string s)) (fun _=>True):=by
 intro fuel cs x h
 obtain⟨s,rfl,_,hw⟩:=DataW.trod_string ht h
 refine⟨s,trivial,⟨rfl,rfl⟩,rfl,fun i c u h1 h2 => ?_⟩
 cases i with
 | zero=>cases h1;cases h2;exact .v _
 | succ i=>cases h2
theorem ofFin {α:Type} {len:Nat} {Q:Nat→α→Prop} (h:∀i,i<len→∃y,Q i y):∃l:List α,l.length=len∧∀(i:Nat) (hi:i<l.length),Q i l[i]:=by
 refine⟨List.ofFn fun i:Fin len=>Classical.choose (h i i.2),List.length_ofFn,fun i hi => ?_⟩
 rw[List.getElem_ofFn]
 exact Classical.choose_spec (h i (by simpa using hi))
theorem add_none (b off n:Nat):(⟨b,off,none⟩:Addr).add n=⟨b,off+n,none⟩:=by
 unfold Addr.add;split
 ·rename_i h;rw[h];rfl
 ·rfl
theorem Rd.slice {α:Type} {E:α→AV} {ok:α→Prop} {e:TypeId} {k:Nat} (ht:P.underlying t=some (.slice e)) (hk:P.cellsOf e=k) (h0:0<k) (he:Rd enc P W e k E ok) :
  Rd enc P W t 1 (fun l:List α => .sl k (l.map E)) (fun l=>l.length≤maxLen∧∀y ∈ l,ok y):=by
 intro fuel cs x h
 rcases DataW.trod_slice ht h with ⟨rfl,_⟩|⟨a,len,cap,elems,rest,n,_,rfl,_,_,hl,hm,hlen,hel,_,_⟩
 ·refine⟨[],⟨by simp,by simp⟩,⟨rfl,rfl⟩,rfl,fun i c u h1 h2 => ?_⟩
  cases i with
  | zero=>cases h1;cases h2;exact .sl0 k none 0 (by simp)
  | succ i=>cases h2
 ·rw[hk] at hel
  obtain⟨l,hll,hli⟩:=ofFin (len:=len) (Q:=fun i y=>∃cs:List Value,ok y∧elOk k (E y)∧cs.length=k∧(∀m,m<k→W.cell? ((a.add (i * k)).add m)=cs[m]?)∧∀(m:Nat) c u,(E y).cells[m]?=some c→cs[m]?=some u→Rel W (fun b=>b<W.heap.size) c u) fun i hi=>by
   have h1:=hel i hi
   rw[List.getElem?_eq_getElem (by omega),Option.bind_eq_some_iff] at h1
   obtain⟨cs,hc,ht⟩:=h1
   obtain⟨y,k1,k2,k3,k4⟩:=he _ _ _ ht
   exact⟨y,cs,k1,k2,k3,(World.cells?_some hc).2.2,k4⟩
  refine⟨l,⟨by omega,fun y hy => ?_⟩,⟨rfl,rfl⟩,rfl,fun i c u h1 h2 => ?_⟩
  ·obtain⟨i,hi,rfl⟩:=List.getElem_of_mem hy
   obtain⟨_,h,_⟩:=hli i (by omega);exact h
  ·cases i with
   | succ i=>cases h2
   | zero =>
    cases h1;cases h2
    by_cases hz:len=0
    ·subst hz
     rw[List.length_eq_zero_iff.1 hll]
     exact .sl0 k _ cap hm
    ·obtain⟨b,off,spot⟩:=a
     obtain⟨cs0,_,_,c3,c4,_⟩:=hli 0 (by omega)
     have hs:spot=none:=by
      have:=c4 0 h0
      have e0:∀a:Addr,a.add 0=a:=fun _=>rfl
      rw[Nat.zero_mul,e0,e0,List.getElem?_eq_getElem (by omega)] at this
      cases spot with
      | none=>rfl
      | some s =>
       exfalso
       unfold World.cell? at this
       split at this
       ·rw[if_pos (show (some s).isSome=true from rfl)] at this;cases this
       ·cases this
     subst hs
     have cell:∀(i:Nat) (hi:i<len) (m:Nat),m<k→∃u,W.cell? ⟨b,off+(i * k+m),none⟩=some u∧∀c,(E (l[i]'(by omega))).cells[m]?=some c→Rel W (fun b=>b<W.heap.size) c u:=fun i hi m hm=>by
      obtain⟨cs,_,_,c3,c4,c5⟩:=hli i (by omega)
      have:=c4 m hm
      rw[add_none,add_none,Nat.add_assoc,List.getElem?_eq_getElem (by omega)] at this
      exact⟨_,this,fun c hc=>c5 m c _ hc (List.getElem?_eq_getElem (by omega))⟩
     have hA:b<W.heap.size:=by
      obtain⟨u,hu,_⟩:=cell 0 (by omega) 0 h0
      unfold World.cell? at hu
      cases hb:W.heap[b]? with
      | none=>simp [hb] at hu
      | some o=>exact(Array.getElem?_eq_some_iff.1 hb).1
     have:=Rel.sl (w:=W) (A:=fun b=>b<W.heap.size) k (l.map E) b off cap (fun j=>(W.cell? ⟨b,off+j,none⟩).getD undef) hA (by rw[List.length_map];omega) hm
      (fun x hx=>by
       obtain⟨y,hy,rfl⟩:=List.mem_map.1 hx
       obtain⟨i,hi,rfl⟩:=List.getElem_of_mem hy
       obtain⟨cs,_,c2,_⟩:=hli i (by omega)
       exact c2)
      (fun j hj=>by
       rw[List.length_map,hll] at hj
       have h1:j / k<len:=(Nat.div_lt_iff_lt_mul h0).2 hj
       obtain⟨u,hu,_⟩:=cell (j / k) h1 (j % k) (Nat.mod_lt _ h0)
       have e:j / k * k+j % k=j:=Nat.div_add_mod' j k
       rw[e] at hu
       rw[hu];rfl)
      (fun i x j y hx hy=>by
       rw[List.getElem?_map,Option.map_eq_some_iff] at hx
       obtain⟨z,hz,rfl⟩:=hx
       obtain⟨hi,rfl⟩:=List.getElem?_eq_some_iff.1 hz
       obtain⟨cs,_,c2,_⟩:=hli i (by omega)
       have hj:j<k:=by have:=(List.getElem?_eq_some_iff.1 hy).1;have:=c2.1;omega
       obtain⟨u,hu,hr⟩:=cell i (by omega) j hj
       rw[hu]
       exact hr _ hy)
     rw[List.length_map,hll] at this
     exact this
theorem trodAll_stays {W':World} (hl:laidOutB P=true) (hb:Below W.heap.size W W'):∀ {ts:List TypeId} {vs:List Value} {ds:List (DataW H)} {ps:List MemPlace},(∀t ∈ ts,P.readableRec t=true∧t<P.types.size)→DataW.TrodAll enc P W 0 (fun _=>true) true ts vs ds ps →
  DataW.TrodAll enc P W' 0 (fun b=>decide (b<W.heap.size)) true ts vs ds ps
 | [],_,_,_,_,h=>by
  obtain⟨rfl,rfl,rfl⟩:=trodAll_nil h
  rfl
 | t :: ts,_,_,_,ht,h=>by
  have hlt:=h.lt
  obtain⟨v,vs1,d,ds1,a,b,rfl,rfl,rfl,h1,h2⟩:=trodAll_cons h
  exact⟨a,b,Below.trod hl (ht t List.mem_cons_self).1 (ht t List.mem_cons_self).2 h1 hb (fun x hx=>hlt x (List.mem_append_left _ hx)),trodAll_stays hl hb (fun t' ht'=>ht t' (List.mem_cons_of_mem _ ht')) h2,rfl⟩
theorem post_true {f:Func} {s:ChangeSpec} {fresh handsOn:Bool} {W':World} {args:Array Value} {ds:List (DataW H)} {before:List MemPlace} {tb:TypeId} (hl:laidOutB P=true)
  (hW:DataW.Whole enc P f.params.toList s.vars false W args.toList ds [] before) (hv:s.vars=[]) (hs:s.fn H (ds ++ []) = { results:=[.lit (.bool true)],args:=ds })
  (hr:f.resultTypes = #[tb]) (ht:P.underlying tb=some .bool) (hp:∀t ∈ f.params.toList,P.readableRec t=true∧t<P.types.size) (hb:Below W.heap.size W W') :
  s.post enc P f false fresh handsOn false W args (.bool true) W':=by
 have hW0:=hW
 obtain⟨p,q,hA,hV,rfl,_,_⟩:=hW0
 refine⟨ds,[],p ++ q,[],p,[],hW,?_,?_,?_,hb.frame _,fun h=>by cases h⟩
 ·rw[hs,hr]
  exact⟨[],[],⟨1,by simp [DataW.trod,Value.cells,ht]⟩,rfl,rfl⟩
 ·rw[hs]
  exact trodAll_stays hl hb hp hA
 ·rw[hs,hv];rfl
end
end Go.AL
end
section
namespace Go.AL
open Go Go.RowKit Go.ChangeShapes Go.WideShapes Go.ChangeAt
section
variable {H:Type} {enc:TypeId × Value→H} {P:Program} {W:World} {t:TypeId}
theorem Rd.map {α β:Type} {k:Nat} {E:α→AV} {E':β→AV} {ok:α→Prop} {ok':β→Prop} (f:α→β) (hE:∀y,E y=E' (f y)) (hok:∀y,ok y→ok' (f y)) (h:Rd enc P W t k E ok):Rd enc P W t k E' ok':=by
 intro fuel cs x hx
 obtain⟨y,k1,k2,k3,k4⟩:=h fuel cs x hx
 exact⟨f y,hok y k1,by rw[← hE];exact k2,k3,by rw[← hE];exact k4⟩
def RdL (enc:TypeId × Value→H) (P:Program) (W:World) (ts:List TypeId) {α:Type} (E:α→List AV) (ok:α→Prop):Prop :=
 ∀(n:Nat) (cs:List Value) (xs:List (DataW H × List MemPlace)),xs.length=ts.length→cs.length=ts.length →
  (∀(i:Nat) t,ts[i]?=some t→DataW.trod enc P W 0 (fun _=>true) true n t ((cs.drop i).take 1)=xs[i]?) →
  ∃y,ok y∧(E y).length=ts.length∧(E y).all one=true∧∀(i:Nat) c u,(E y)[i]?=some c→cs[i]?=some u→Rel W (fun b=>b<W.heap.size) c u
theorem RdL.nil:RdL enc P W [] (fun _:Unit=>[]) (fun _=>True):=by
 intro n cs xs _ _ _
 exact⟨(),trivial,rfl,rfl,fun i c u h=>by simp at h⟩
theorem RdL.cons {α β:Type} {E:α→AV} {ok:α→Prop} {ts:List TypeId} {F:β→List AV} {ok':β→Prop} (h:Rd enc P W t 1 E ok) (h1:∀y,one (E y)=true∧(E y).cells=[E y]) (hs:RdL enc P W ts F ok') :
  RdL enc P W (t :: ts) (fun y:α × β=>E y.1 :: F y.2) (fun y=>ok y.1∧ok' y.2):=by
 intro n cs xs hx hc hi
 match xs,cs,hx,hc with
 | x :: xs,u :: cs,hx,hc =>
  have h0:=hi 0 t rfl
  simp only[List.drop_zero,List.take_succ_cons,List.take_zero,List.getElem?_cons_zero] at h0
  obtain⟨y,k1,_,_,k4⟩:=h _ _ _ h0
  obtain⟨z,g1,g2,g3,g4⟩:=hs n cs xs (by simpa using hx) (by simpa using hc) fun i t' ht=>by
   have:=hi (i+1) t' (by simpa using ht)
   simpa using this
  refine⟨(y,z),⟨k1,g1⟩,by simp [g2],by simp [g3,(h1 y).1],fun i c u' hcc hu => ?_⟩
  cases i with
  | zero=>cases hcc;cases hu;exact k4 0 _ _ (by rw[(h1 y).2];rfl) rfl
  | succ i=>exact g4 i c u' (by simpa using hcc) (by simpa using hu)
theorem Rd.struct {fs:Array Field} {α:Type} {ts:List TypeId} {F:α→List AV} {ok:α→Prop} (ht:P.underlying t=some (.struct fs)) (hts:fs.toList.map (·.type)=ts) (hof:fs.toList.map (·.offset)=List.range ts.length) (hk:P.cellsOf t=ts.length)
  (hc:(ts.all fun t=>P.cellsOf t == 1)=true) (h:RdL enc P W ts F ok):Rd enc P W t ts.length (fun y => .agg (F y)) ok:=by
 intro fuel cs x hx
 obtain⟨xs,n,_,_,hl,hlen,hf⟩:=DataW.trod_struct ht hx
 have hfl:fs.size=ts.length:=by rw[← hts];simp
 obtain⟨y,k1,k2,k3,k4⟩:=h n cs xs (by omega) (by omega) fun i t' ht'=>by
  have hi:i<ts.length:=(List.getElem?_eq_some_iff.1 ht').1
  have hg:fs[i]?=some fs[i]:=Array.getElem?_eq_getElem (by omega)
  have e1:(fs[i]).type=t':=by
   rw[← hts,List.getElem?_map,Array.getElem?_toList,hg] at ht'
   exact Option.some.inj ht'
  have e2:(fs[i]).offset=i:=by
   have:(fs.toList.map (·.offset))[i]?=some i:=by rw[hof,List.getElem?_range hi]
   rw[List.getElem?_map,Array.getElem?_toList,hg] at this
   exact Option.some.inj this
  have:=hf i _ hg
  have hct:P.cellsOf t'=1:=by
   have:=List.all_eq_true.1 hc _ (List.mem_of_getElem? ht')
   simpa using this
  rw[e1,e2,hct] at this
  exact this
 exact⟨y,k1,⟨k2,k3⟩,by omega,k4⟩
theorem Rd.agg {α:Type} {k:Nat} {E:α→AV} {F:α→List AV} {ok:α→Prop} (hE:∀y,E y = .agg (F y)) (h:Rd enc P W t k E ok) {v:Value} {d:DataW H} {ps:List MemPlace} (ha:∃us,v = .agg us)
  (hd:DataW.Trod enc P W 0 (fun _=>true) true t v d ps):∃y,ok y∧Rel W (fun b=>b<W.heap.size) (E y) v:=by
 obtain⟨us,rfl⟩:=ha
 obtain⟨fuel,hf⟩:=hd
 obtain⟨y,k1,k2,k3,k4⟩:=h _ _ _ hf
 refine⟨y,k1,?_⟩
 have e1:(E y).cells=F y:=by rw[hE];rfl
 have e2:(Value.agg us).cells.toList=us.toList:=rfl
 have k5:=k2.1
 rw[e1] at k4 k5
 rw[e2] at k3 k4
 rw[hE]
 refine .agg _ _ ?_ fun i c u h1 h2=>k4 i c u h1 (by simpa using h2)
 rw[k5,← k3];simp
theorem okWide_agg {r:Go.Reach} {b:Nat} {fs:Array Field} {v:Value} (ht:P.underlying t=some (.struct fs)) (h:Value.okWide P W r b t v):∃us,v = .agg us:=by
 unfold Value.okWide at h
 rw[ht] at h
 obtain⟨cs,h1,_⟩:=h
 exact⟨cs,h1⟩
theorem Rd.one {α:Type} {E:α→AV} {ok:α→Prop} (h:Rd enc P W t 1 E ok) (h1:∀y,(E y).cells=[E y]) {v:Value} {d:DataW H} {ps:List MemPlace} (hc:v.cells = #[v])
  (hd:DataW.Trod enc P W 0 (fun _=>true) true t v d ps):∃y,ok y∧Rel W (fun b=>b<W.heap.size) (E y) v:=by
 obtain⟨fuel,hf⟩:=hd
 rw[hc] at hf
 obtain⟨y,k1,_,_,k4⟩:=h _ _ _ hf
 exact⟨y,k1,k4 0 _ _ (by rw[h1];rfl) rfl⟩
theorem okWide_cells {r:Go.Reach} {b:Nat} {e:TypeId} {v:Value} (ht:P.underlying t=some (.slice e)) (h:Value.okWide P W r b t v):v.cells = #[v]:=by
 cases v with
 | agg cs =>
  exfalso
  simp only[Value.okWide,ht,Cell.okWide,Cell.ok] at h
 | _=>rfl
end
end Go.AL
end
