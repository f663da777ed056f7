/- Texts of this claim's proof: WVe, WPg, WPh, WRf9, WPj, WPi. No condition. -/
import Derived.Test.YtplamfpmmogbeaaGreatDoorM8
import Derived.Test.YtplamfpmmogbeaaGreatDoorM6
import Derived.Test.YtplamfpmmogbeaaGreatDoorM7
section
namespace Go.AL
open Go Go.RowKit
set_option maxRecDepth 4000
def aView (ps:List Pr) (c:List Int) (V:List (List Int)):AV:=.agg [aPrs ps,aInts c,aRows V]
theorem view_variable1 (v:ByteArray × Int) (k n p q:Int) (s:ByteArray) (l:List Pd):PC Proofs.Tryz.prog 220 [aVar v,.rp 6 [aPd (.mk k n p q s l)] 0 0] (ab (nmB s v)):=by
 generalize hb:nmB s v=b
 refine PC.enter 9 [.tmp 3] [2] Proofs.Tryz.func220 rfl rfl rfl rfl rfl (by simp) (AWp.of ?_);simp only[go_sem]
 refine Wk ?_
 refine ret_eq ?_;simp only[go_sem]
 rw[← hb];rfl
theorem view_variable (ps:List Pr) (hs:Sm ps) (c:List Int) (V:List (List Int)) (k n:Int) (p:Nat) (q:Int) (s:ByteArray) (l:List Pd) (hp:p<ps.length) (hkn:knownB ps p s=true)
  (hV:p<V.length) (hr:V[p].length=ps[p].vars.length) :
  PC Proofs.Tryz.prog 209 [aView ps c V,aPd (.mk k n p q s l)] (ai (V[p].getD (varIx ps[p].vars s).toNat 0)):=by
 have hm:=List.getElem_mem hp
 have hk:=known_get hp hkn
 obtain⟨i,hi,hil⟩:=known_ix hk
 have hfi:PC Proofs.Tryz.prog 192 [aVars ps[p].vars,.clo 220 [.rp 6 [aPd (.mk k n p q s l)] 0 0]] (ai (varIx ps[p].vars s)) :=
  vars_indexFunc ps[p].vars (hs.vars _ hm) (.clo 220 [.rp 6 [aPd (.mk k n p q s l)] 0 0]) rfl (nmB s) fun v _=>(view_variable1 v k n p q s l).clo
 rw[hi] at hfi ⊢
 rw[Int.toNat_natCast]
 have hgp:=getD_map (f:=aPr) hp
 have hgV:=getD_map (f:=aInts) hV
 have hgr:=getD_map (f:=ai) (l:=V[p]) (k:=i) (by omega)
 have hres:V[p].getD i 0=V[p][i]'(by omega):=by rw[List.getD_eq_getElem?_getD,List.getElem?_eq_getElem (by omega)];rfl
 rw[hres]
 generalize V[p][i]'(by omega)=w at *
 have hrl:i<V[p].length:=by omega
 unfold aView
 simp only[aPd_mk] at *
 refine PC.enter 25 [.tmp 4] [2,3] Proofs.Tryz.func209 rfl rfl rfl rfl rfl (by simp) (AWp.of ?_);simp only[go_sem]
 refine W1 hgp ?_
 refine Sd ?_
 refine(hfi).val.use ?_;simp only[go_sem]
 refine W2 hgV hgr ?_
 refine ret_eq ?_;simp only[go_sem]
def leafOk (ps:List Pr) (c:List Int) (V:List (List Int)) (o:Obs):Pd→Prop
 | .mk k n p q s l=>(k=2→PC Proofs.Tryz.prog 209 [aView ps c V,aPd (.mk k n p q s l)] (ai (o.var p s)))∧(k=3→0≤p∧c[p.toNat]?=some (o.cnt p)) ∧
  (k=4→PC Proofs.Tryz.prog 210 [aView ps c V,aPd (.mk k n p q s l)] (ai (o.chn p q)))
theorem bd_child {ps:List Pr} {k n p q:Int} {s:ByteArray} {l:List Pd} (h:(intF ps (.mk k n p q s l)).2.2=true) (hl:l.length≤2):∀x ∈ l,(intF ps x).2.2=true:=by
 rw[intF_mk] at h
 match l,hl with
 | [],_=>intro x hx;cases hx
 | [a],_ =>
  simp only[List.map_cons,List.map_nil,bdN] at h
  split at h
  ·rename_i e;intro x hx;simp at hx;subst hx;exact e
  ·cases h
 | [a,b],_ =>
  simp only[List.map_cons,List.map_nil,bdN] at h
  split at h
  ·rename_i e;intro x hx;simp at hx;rcases hx with rfl|rfl;exact e.1;exact e.2
  ·cases h
theorem view_number (ps:List Pr) (c:List Int) (V:List (List Int)) (o:Obs) (_hcl:c.length≤1000000) (t:Pd):szF t≤1000000→okT ps t=true→t.kind≤8→(intF ps t).2.2=true→AllP (obsB ps o) t→AllP (leafOk ps c V o) t →
  PC Proofs.Tryz.prog 176 [aView ps c V,aPd t] (ai (valF o t)):=by
 induction t using Pd.ind with
 | _ k n p q s l ih =>
 intro hz ht hk hi hob hlf
 have hbnd:=valF_bounds ps o _ ht hk hob hi
 obtain⟨o1,o2,o3,o4⟩:=okT_sub ht
 obtain⟨hpl,_⟩:=loc_len o1
 simp only[Pd.kind] at hk
 have hch:=child_le ht (show k≤12 by omega)
 have hsz:szF (.mk k n p q s l)=szL l+1:=by rw[szF]
 have hsp:=valF_mk o k n p q s l
 have hci:=bd_child hi
 obtain⟨⟨lf2,lf3,lf4⟩,hls⟩:=AllP_sub hlf
 obtain⟨_,hos⟩:=AllP_sub hob
 generalize valF o (.mk k n p q s l)=R at *
 have hb : -1125899906842624≤R∧R≤1125899906842624:=by omega
 clear hbnd hi
 unfold aView at *
 have hcb:=fun (x:Pd) (hx:x ∈ l) (h:l.length≤2)=>valF_bounds ps o x (hch x hx).1 (hch x hx).2 (hos x hx) (hci h x hx)
 rcases parts_cases k with ⟨e,hc⟩|⟨e,hc⟩|⟨e,hc⟩|e
 ·obtain rfl:=len0 (l:=l) (by omega)
  simp only[List.map_nil,valN,aPd_mk] at *
  have hk4:k=1∨k=2∨k=3∨k=4:=by omega
  rcases hk4 with h|h|h|h
  ·have hsp:R=n:=by rw[hsp,if_pos h]
   refine PC.enter 81 [.tmp 4] [2,3] Proofs.Tryz.func176 rfl rfl rfl rfl rfl (by simp) (AWp.of ?_);simp only[go_sem]
   repeat(first|((with_reducible refine AWp.ofC ?_ ?_);exact rfl;simp only[go_sem,(eq_true h)])|((with_reducible refine an ?_ ?_);exact Au))
   refine ret_eq ?_;simp only[go_sem]
   rw[hsp]
  ·have lf:=lf2 h
   have h1:¬k=1:=by omega
   rw[if_neg h1,if_pos h] at hsp
   refine PC.enter 81 [.tmp 4] [2,3] Proofs.Tryz.func176 rfl rfl rfl rfl rfl (by simp) (AWp.of ?_);simp only[go_sem]
   repeat(first|((with_reducible refine AWp.ofC ?_ ?_);exact rfl;simp only[go_sem,(eq_true h),h1])|((with_reducible refine an ?_ ?_);exact Au))
   refine Sd ?_
   refine(lf).val.use ?_;simp only[go_sem]
   refine Wk ?_
   refine ret_eq ?_;simp only[go_sem]
   rw[hsp]
  ·obtain⟨p0,pc⟩:=lf3 h
   obtain⟨hpc,hpe⟩:=List.getElem?_eq_some_iff.1 pc
   have hg:=getD_map (f:=ai) hpc
   have h1:¬k=1:=by omega
   have h2:¬k=2:=by omega
   rw[if_neg h1,if_neg h2,if_pos h] at hsp
   rw[hpe] at hg
   refine PC.enter 81 [.tmp 4] [2,3] Proofs.Tryz.func176 rfl rfl rfl rfl rfl (by simp) (AWp.of ?_);simp only[go_sem]
   repeat(first|((with_reducible refine AWp.ofC ?_ ?_);exact rfl;simp only[go_sem,(eq_true h),h1,h2,hg])|((with_reducible refine an ?_ ?_);exact Au))
   refine ret_eq ?_;simp only[go_sem]
   rw[hsp]
  ·have lf:=lf4 h
   have h1:¬k=1:=by omega
   have h2:¬k=2:=by omega
   have h3:¬k=3:=by omega
   rw[if_neg h1,if_neg h2,if_neg h3] at hsp
   refine PC.enter 81 [.tmp 4] [2,3] Proofs.Tryz.func176 rfl rfl rfl rfl rfl (by simp) (AWp.of ?_);simp only[go_sem]
   repeat(first|((with_reducible refine AWp.ofC ?_ ?_);exact rfl;simp only[go_sem,(eq_true h),h1,h2,h3])|((with_reducible refine an ?_ ?_);exact Au))
   refine Sd ?_
   refine(lf).val.use ?_;simp only[go_sem]
   refine Wk ?_
   refine ret_eq ?_;simp only[go_sem]
   rw[hsp]
 ·obtain⟨a,rfl⟩:=len1 (l:=l) (by omega)
  have h5:k=5:=by omega
  have h1:¬k=1:=by omega
  have h2:¬k=2:=by omega
  have h3:¬k=3:=by omega
  have h4:¬k=4:=by omega
  obtain⟨c1,c2⟩:=hch a (by simp)
  have hza:=szL_mem (l:=[a]) (x:=a) (by simp)
  have hca:=ih a (by simp) (by omega) c1 c2 (hci (by simp) a (by simp)) (hos a (by simp)) (hls a (by simp))
  have hcb:=hcb a (by simp) (by simp)
  simp only[List.map_cons,List.map_nil,valN] at hsp
  generalize valF o a=A at *
  obtain⟨ka,na,pa,qa,sa,la⟩:=a
  simp only[aPd_mk,List.map_cons,List.map_nil] at *
  refine PC.enter 81 [.tmp 4] [2,3] Proofs.Tryz.func176 rfl rfl rfl rfl rfl (by simp) (AWp.of ?_);simp only[go_sem]
  repeat(first|((with_reducible refine AWp.ofC ?_ ?_);exact rfl;simp only[go_sem,(eq_true h5),h1,h2,h3,h4])|((with_reducible refine an ?_ ?_);exact Au))
  repeat(first|(with_reducible refine AWp.seq ?_)|(with_reducible refine AWp.block ?_))
  refine AWp.mix mixed [0,1,2,3,4,5,6,7] .done (by kernel_rfl) ?_;simp only[go_sem]
  refine Sd ?_
  refine Gc hca ?_
  refine Sd ?_
  refine Wk ?_
  refine ret_eq ?_;simp only[go_sem]
  rw[hsp]
 ·obtain⟨a,b,rfl⟩:=len2 (l:=l) (by omega)
  have h1:¬k=1:=by omega
  have h2:¬k=2:=by omega
  have h3:¬k=3:=by omega
  have h4:¬k=4:=by omega
  have h5:¬k=5:=by omega
  obtain⟨c1,c2⟩:=hch a (by simp)
  obtain⟨c3,c4⟩:=hch b (by simp)
  have hza:=szL_mem (l:=[a,b]) (x:=a) (by simp)
  have hzb:=szL_mem (l:=[a,b]) (x:=b) (by simp)
  have hca:=ih a (by simp) (by omega) c1 c2 (hci (by simp) a (by simp)) (hos a (by simp)) (hls a (by simp))
  have hcc:=ih b (by simp) (by omega) c3 c4 (hci (by simp) b (by simp)) (hos b (by simp)) (hls b (by simp))
  have hcba:=hcb a (by simp) (by simp)
  have hcbb:=hcb b (by simp) (by simp)
  simp only[List.map_cons,List.map_nil,valN] at hsp
  have hmw:=fun h=>mulW_eq (a:=valF o a) (b:=valF o b) h
  generalize valF o a=A at *
  generalize valF o b=B at *
  obtain⟨ka,na,pa,qa,sa,la⟩:=a
  obtain⟨kb,nb,pb,qb,sb,lb⟩:=b
  simp only[aPd_mk,List.map_cons,List.map_nil] at *
  refine PC.enter 81 [.tmp 4] [2,3] Proofs.Tryz.func176 rfl rfl rfl rfl rfl (by simp) (AWp.of ?_);simp only[go_sem]
  by_cases h6:k=6
  ·rw[if_pos h6] at hsp
   repeat(first|((with_reducible refine AWp.ofC ?_ ?_);exact rfl;simp only[go_sem,(eq_true h6),h1,h2,h3,h4,h5])|((with_reducible refine an ?_ ?_);exact Au))
   repeat(first|(with_reducible refine AWp.seq ?_)|(with_reducible refine AWp.block ?_))
   refine AWp.mix mixed [0,1,2,3,4,5,6,7,8,9,10,11,12,13] .done (by kernel_rfl) ?_;simp only[go_sem]
   refine Sd ?_
   refine Gc hca ?_
   refine Sd ?_
   refine Gc hcc ?_
   refine Sd ?_
   refine Wk ?_
   refine ret_eq ?_;simp only[go_sem]
   rw[hsp]
  by_cases h7:k=7
  ·rw[if_neg h6,if_pos h7] at hsp
   repeat(first|((with_reducible refine AWp.ofC ?_ ?_);exact rfl;simp only[go_sem,(eq_true h7),h1,h2,h3,h4,h5,h6])|((with_reducible refine an ?_ ?_);exact Au))
   repeat(first|(with_reducible refine AWp.seq ?_)|(with_reducible refine AWp.block ?_))
   refine AWp.mix mixed [0,1,2,3,4,5,6,7,8,9,10,11,12,13] .done (by kernel_rfl) ?_;simp only[go_sem]
   refine Sd ?_
   refine Gc hca ?_
   refine Sd ?_
   refine Gc hcc ?_
   refine Sd ?_
   refine Wk ?_
   refine ret_eq ?_;simp only[go_sem]
   rw[hsp]
  rw[if_neg h6,if_neg h7] at hsp
  have hmw:=hmw (by rw[← hsp];unfold I64;omega)
  repeat(first|((with_reducible refine AWp.ofC ?_ ?_);exact rfl;simp only[go_sem,h1,h2,h3,h4,h5,h6,h7])|((with_reducible refine an ?_ ?_);exact Au))
  refine AWp.seq ?_
  repeat(first|(with_reducible refine AWp.seq ?_)|(with_reducible refine AWp.block ?_))
  refine AWp.mix mixed [0,1,2,3,4,5,6,7,8,9,10,11,12,13] .done (by kernel_rfl) ?_;simp only[go_sem]
  refine Sd ?_
  refine Gc hca ?_
  refine Sd ?_
  refine Gc hcc ?_
  refine Sd ?_
  refine W1 hmw ?_
  refine ret_eq ?_;simp only[go_sem]
  rw[hsp]
 ·omega
theorem variable_values (x:Pr) (h1:x.vars.length≤1000000) (h2:x.evs.length≤1000000) (h3:∀e ∈ x.evs,e.asg.length≤1000000) (ha:AsgOk x) (v:Nat) (hv:v<x.vars.length) :
  PC Proofs.Tryz.prog 231 [aPr x,ai v] (aInts (valsF x v)):=by
 have hst:=variable_states x
 have hvl:=valsF_length x v
 refine PC.enter 20 [.tmp 4] [2,3,17] Proofs.Tryz.func231 rfl rfl rfl rfl rfl (by simp) (AWp.of ?_);simp only[go_sem]
 refine Wk ?_
 intro b5
 refine Sd ?_
 refine AWp.of ?_;simp only[go_sem]
 refine Sd ?_
 refine(hst).val.use ?_;simp only[go_sem]
 refine AWp.block (AWp.rangeFunc rfl [3,5] (stArgs x) (fun j L=>∃w Lw,L=Lw ++ [(b5,.row 100 1 [w] 1)]∧AppSt 3 1 (((valsF x v).take j).map ai) w Lw∧∀p ∈ Lw,p.1 ≠ b5) (fun _ _=>False)
  rfl (variable_states1 x h1 h2 h3 ha) (fun y hy=>by obtain⟨j,hj⟩:=List.getElem?_of_mem hy;unfold stArgs at hj;rw[List.getElem?_map,Option.map_eq_some_iff] at hj;obtain⟨_,_,rfl⟩:=hj;rfl) ⟨anil,[],rfl,.nil,by simp⟩ ?_ ?_ ?_)
 ·rintro j y L' l hy ⟨w,Lw,rfl,hA,hne⟩
  have hjl:j≤x.evs.length:=by
   have:=(List.getElem?_eq_some_iff.1 hy).1
   unfold stArgs at this;simp at this;omega
  rw[stArgs_get x j hjl] at hy
  cases hy
  have hvs:v<(stateAt x j).length:=by rw[stateAt_length];exact hv
  have hgs:=getD_map (f:=ai) hvs
  have hjv:j<(valsF x v).length:=by omega
  have hsu:((valsF x v).take (j+1)).map ai=((valsF x v).take j).map ai ++ [ai (stateAt x j)[v]]:=by
   rw[List.take_succ_eq_append_getElem hjv,List.map_append,valsF_get,List.getD_eq_getElem?_getD,List.getElem?_eq_getElem hvs];rfl
  have hyl:(((valsF x v).take j).map ai).length≤1000000:=by rw[List.length_map,List.length_take];omega
  rw[hsu]
  generalize ((valsF x v).take j).map ai=ys at *
  rcases hA.inv with ⟨e1,rfl,rfl⟩|⟨b,cap,rfl,rfl⟩
  ·simp only[go_sem]
   refine Sd ?_
   refine AWp.of ?_;simp only[go_sem]
   refine AWp.block ?_
   repeat(first|(with_reducible refine AWp.seq ?_)|(with_reducible refine AWp.block ?_))
   refine AWp.mix mixed [1,2,3,4] (.step 0 (.step 5 (.step 6 (.step 7 .done .done) .done) .done) (.step 5 (.step 0 (.step 6 (.step 7 .done .done) .done) .done) .done)) (by kernel_rfl) ?_;simp only[go_sem,hgs]
   refine Sd ?_
   intro b' cap' hlt _
   have n5:¬b5=b':=by omega
   simp only[go_sem,n5]
   refine Sd ?_
   refine⟨_,List.Sublist.refl _,_,[(b',.row 3 1 [_] cap')],rfl,?_,?_⟩
   ·rw[e1];exact .row _ [_] _
   ·intro p hp;simp only[List.mem_singleton] at hp;subst hp;exact fun e=>n5 e.symm
  ·have n1:¬b=b5:=hne (b,_) List.mem_cons_self
   have n2:¬b5=b:=fun e=>n1 e.symm
   simp only[go_sem]
   refine Sd ?_
   refine AWp.of ?_;simp only[go_sem]
   refine AWp.block ?_
   repeat(first|(with_reducible refine AWp.seq ?_)|(with_reducible refine AWp.block ?_))
   refine AWp.mix mixed [1,2,3,4] (.step 0 (.step 5 (.step 6 (.step 7 .done .done) .done) .done) (.step 5 (.step 0 (.step 6 (.step 7 .done .done) .done) .done) .done)) (by kernel_rfl) ?_;simp only[go_sem,hgs,n1,n2]
   refine Sd ?_
   intro b' cap' n5 _
   simp only[go_sem,n5]
   refine Sd ?_
   refine⟨_,List.Sublist.refl _,_,[(b',.row 3 1 (ys ++ [_]) cap')],rfl,?_,?_⟩
   ·have:=AppSt.row (t:=3) (k:=1) b' (ys ++ [ai (stateAt x j)[v]]) cap'
    simpa using this
   ·intro p hp;simp only[List.mem_singleton] at hp;subst hp;exact fun e=>n5 e.symm
 ·rintro L' ⟨w,Lw,rfl,hA,hne⟩
  have hl:(stArgs x).length=x.evs.length+1:=by unfold stArgs;simp
  rw[hl,← hvl,List.take_length] at hA
  rcases hA.inv with ⟨e1,rfl,rfl⟩|⟨b,cap,rfl,rfl⟩
  ·exfalso
   have:=congrArg List.length e1
   rw[List.length_map,hvl] at this
   cases this
  ·have n1:¬b=b5:=hne (b,_) List.mem_cons_self
   have n2:¬b5=b:=fun e=>n1 e.symm
   simp only[go_sem]
   refine W2 n1 n2 ?_
   refine ret_view [true] ?_;simp only[go_sem]
   exact Vw.ofLs (if_pos rfl) (by simp)
 ·rintro e L' h
  exact h.elim
theorem variable_index1 (v:ByteArray × Int) (s:ByteArray):PC Proofs.Tryz.prog 241 [aVar v,.rp 1 [astr s] 0 0] (ab (nmB s v)):=by
 generalize hb:nmB s v=b
 refine PC.enter 8 [.tmp 3] [2] Proofs.Tryz.func241 rfl rfl rfl rfl rfl (by simp) (AWp.of ?_);simp only[go_sem]
 refine Wk ?_
 refine ret_eq ?_;simp only[go_sem]
 rw[← hb];rfl
theorem variable_index (x:Pr) (h1:x.vars.length≤1000000) (s:ByteArray):PC Proofs.Tryz.prog 237 [aPr x,astr s] (ai (varIx x.vars s)):=by
 have hfi:PC Proofs.Tryz.prog 192 [aVars x.vars,.clo 241 [.rp 1 [astr s] 0 0]] (ai (varIx x.vars s)) :=
  vars_indexFunc x.vars h1 (.clo 241 [.rp 1 [astr s] 0 0]) rfl (nmB s) fun v _=>(variable_index1 v s).clo
 generalize varIx x.vars s=r at *
 refine PC.enter 9 [.tmp 4] [2,3] Proofs.Tryz.func237 rfl rfl rfl rfl rfl (by simp) (AWp.of ?_);simp only[go_sem]
 refine Wk ?_
 refine Sd ?_
 refine(hfi).val.use ?_;simp only[go_sem]
 refine Wk ?_
 refine ret_eq ?_;simp only[go_sem]
theorem variable_find (ps:List Pr) (hs:Sm ps) (hv:validF ps=true) (p:Nat) (hp:p<ps.length) (s:ByteArray) (hk:¬varIx ps[p].vars s<0):PC Proofs.Tryz.prog 230 [aTr ps,ai p,astr s] (.tup [ai (varIx ps[p].vars s),ai 0]):=by
 have hval:=trace_Valid ps hs
 rw[hv] at hval
 have hm:=List.getElem_mem hp
 have hgp:=getD_map (f:=aPr) hp
 have hix:=variable_index ps[p] (hs.vars _ hm) s
 generalize varIx ps[p].vars s=r at *
 refine PC.enter 33 [.tmp 6,.tmp 7] [3] Proofs.Tryz.func230 rfl rfl rfl rfl rfl (by simp) (AWp.of ?_);simp only[go_sem]
 refine Wk ?_
 refine Sd ?_
 refine(hval).val.use ?_;simp only[go_sem]
 have h2:¬((p:Int)<0):=by omega
 have h3:¬((ps.length:Int)≤p):=by omega
 refine W3 h2 h3 hgp ?_
 refine Sd ?_
 refine(hix).val.use ?_;simp only[go_sem]
 refine W1 hk ?_
 refine ret_eq ?_;simp only[go_sem]
theorem variable_Range (ps:List Pr) (hs:Sm ps) (hv:validF ps=true) (p:Int) (hpb:isPB ps.length p=true) (s:ByteArray) (hkn:knownB ps p s=true) :
  PC Proofs.Tryz.prog 224 [aTr ps,ai p,astr s] (.tup [ai (varLo ps p s),ai (varHi ps p s),ai 0]):=by
 obtain⟨p,rfl,hp⟩:=isPB_nat hpb
 have hm:=List.getElem_mem hp
 have hgp:=getD_map (f:=aPr) hp
 have hk:ps[p].vars.any (nmB s)=true:=by unfold knownB at hkn;simpa only [Int.toNat_natCast,List.getElem?_eq_getElem hp] using hkn
 have hng:¬varIx ps[p].vars s<0:=fun h=>by rw[(varIx_neg _ _).1 h] at hk;cases hk
 have hfd:=variable_find ps hs hv p hp s hng
 have hlt:(varIx ps[p].vars s).toNat<ps[p].vars.length:=by
  unfold varIx at hng ⊢
  cases hf:ps[p].vars.findIdx? (nmB s) with
  | none=>rw[hf] at hng;exact absurd (by decide) hng
  | some i=>rw[List.findIdx?_eq_some_iff_getElem] at hf;obtain⟨hi,_⟩:=hf;exact hi
 have hvals:=variable_values ps[p] (hs.vars _ hm) (hs.evs _ hm) (hs.asg _ hm) (asg_of_valid hv p hp) _ hlt
 have hvl:=valsF_length ps[p] (varIx ps[p].vars s).toNat
 have hel:=hs.evs _ hm
 have hmn:=ints_minL (valsF ps[p] (varIx ps[p].vars s).toNat) (by omega) (by omega)
 have hmx:=ints_maxL (valsF ps[p] (varIx ps[p].vars s).toNat) (by omega) (by omega)
 have e1:varLo ps p s=minL (valsF ps[p] (varIx ps[p].vars s).toNat):=by unfold varLo;simp only[Int.toNat_natCast,List.getElem?_eq_getElem hp]
 have e2:varHi ps p s=maxL (valsF ps[p] (varIx ps[p].vars s).toNat):=by unfold varHi;simp only[Int.toNat_natCast,List.getElem?_eq_getElem hp]
 rw[e1,e2]
 have hix:((varIx ps[p].vars s).toNat:Int)=varIx ps[p].vars s:=by omega
 rw[hix] at hvals
 generalize minL (valsF ps[p] (varIx ps[p].vars s).toNat)=lo at *
 generalize maxL (valsF ps[p] (varIx ps[p].vars s).toNat)=hi at *
 generalize valsF ps[p] (varIx ps[p].vars s).toNat=vl at *
 generalize varIx ps[p].vars s=ix at *
 refine PC.enter 32 [.tmp 6,.tmp 7,.tmp 8] [3] Proofs.Tryz.func224 rfl rfl rfl rfl rfl (by simp) (AWp.of ?_);simp only[go_sem]
 refine Wk ?_
 refine Sd ?_
 refine(hfd).val.use ?_;simp only[go_sem]
 refine W1 hgp ?_
 refine Sd ?_
 refine(hvals).val.use ?_;simp only[go_sem]
 refine Wk ?_
 refine Sd ?_
 refine(hmn).val.use ?_;simp only[go_sem]
 refine Wk ?_
 refine Sd ?_
 refine(hmx).val.use ?_;simp only[go_sem]
 refine Wk ?_
 refine ret_eq ?_;simp only[go_sem]
theorem predtype_great (a b:Int):PC Proofs.Tryz.prog 216 [aIv a b] (ab (tooB a b)):=by
 generalize hb:tooB a b=r
 unfold aIv
 refine PC.enter 11 [.tmp 2] [1] Proofs.Tryz.func216 rfl rfl rfl rfl rfl (by simp) (AWp.of ?_);simp only[go_sem]
 refine Wk ?_
 refine ret_eq ?_;simp only[go_sem]
 rw[← hb];rfl
theorem res_leaf {ps:List Pr} {k n p q:Int} {s:ByteArray} {l:List Pd} (h:resB ps (.mk k n p q s l)=true):(k=2→isPB ps.length p=true∧knownB ps p s=true)∧(k=3→isPB ps.length p=true)∧(k=4→isPB ps.length p=true∧isPB ps.length q=true∧p ≠ q):=by
 simp only[resB] at h
 refine⟨fun e => ?_,fun e => ?_,fun e => ?_⟩
 ·rw[if_pos e] at h;simp only[Bool.and_eq_true] at h;exact⟨h.1.1,h.2⟩
 ·rw[if_neg (by omega),if_pos e] at h;simp only[Bool.and_eq_true] at h;exact h.1.1
 ·rw[if_neg (by omega),if_neg (by omega),if_pos e] at h;simp only[Bool.and_eq_true,Bool.not_eq_true',decide_eq_false_iff_not] at h;exact⟨h.1.1.1,h.1.1.2,h.1.2⟩
theorem predtype_leaf (ps:List Pr) (hs:Sm ps) (hv:validF ps=true) (k n p q:Int) (s:ByteArray) (hk:1≤k∧k≤4) (hr:resB ps (.mk k n p q s [])=true) :
  PC Proofs.Tryz.prog 215 [aTr ps,aPd (.mk k n p q s [])] (aIv (bdL ps k n p q s).1 (bdL ps k n p q s).2):=by
 obtain⟨r2,r3,r4⟩:=res_leaf hr
 have hsp:bdL ps k n p q s=if k=1 then (n,n) else if k=3 then (0,evN ps p) else if k=4 then (0,msgN ps p q) else (varLo ps p s,varHi ps p s):=rfl
 have hh:=predtype_hull [n] (by simp) (by simp)
 have hms:=fun h=>predtype_messages ps hs p h q
 have hrg:=fun h1 h2=>variable_Range ps hs hv p h1 s h2
 have e1:minL [n]=n:=rfl
 have e2:maxL [n]=n:=rfl
 rw[e1,e2] at hh
 simp only[aInts,List.map_cons,List.map_nil] at hh
 generalize bdL ps k n p q s=i at *
 unfold aIv at *
 have hk4:k=1∨k=3∨k=4∨k=2:=by omega
 rcases hk4 with h|h|h|h
 ·rw[if_pos h] at hsp
  refine PC.enter 49 [.cell 4 250] [2,3,14] Proofs.Tryz.func215 rfl rfl rfl rfl rfl (by simp) (AWp.of ?_);simp only[go_sem]
  refine Wk ?_
  intro b4
  repeat(first|((with_reducible refine AWp.ofC ?_ ?_);exact rfl;simp only[go_sem,(eq_true h)])|((with_reducible refine an ?_ ?_);exact Au))
  refine Sd ?_
  refine(hh).val.use ?_;simp only[go_sem]
  refine Wk ?_
  refine ret_eq ?_;simp only[go_sem]
  rw[hsp]
 ·have h1:¬k=1:=by omega
  rw[if_neg h1,if_pos h] at hsp
  obtain⟨p,rfl,hp⟩:=isPB_nat (r3 h)
  have hgp:=getD_map (f:=aPr) hp
  rw[evN_get hp] at hsp
  refine PC.enter 49 [.cell 4 250] [2,3,14] Proofs.Tryz.func215 rfl rfl rfl rfl rfl (by simp) (AWp.of ?_);simp only[go_sem]
  refine Wk ?_
  intro b4
  repeat(first|((with_reducible refine AWp.ofC ?_ ?_);exact rfl;simp only[go_sem,(eq_true h),h1,hgp])|((with_reducible refine an ?_ ?_);exact Au))
  refine ret_eq ?_;simp only[go_sem]
  rw[hsp]
 ·have h1:¬k=1:=by omega
  have h3:¬k=3:=by omega
  rw[if_neg h1,if_neg h3,if_pos h] at hsp
  have hms:=hms (r4 h).1
  refine PC.enter 49 [.cell 4 250] [2,3,14] Proofs.Tryz.func215 rfl rfl rfl rfl rfl (by simp) (AWp.of ?_);simp only[go_sem]
  refine Wk ?_
  intro b4
  repeat(first|((with_reducible refine AWp.ofC ?_ ?_);exact rfl;simp only[go_sem,(eq_true h),h1,h3])|((with_reducible refine an ?_ ?_);exact Au))
  refine Sd ?_
  refine(hms).val.use ?_;simp only[go_sem]
  refine Wk ?_
  refine ret_eq ?_;simp only[go_sem]
  rw[hsp]
 ·have h1:¬k=1:=by omega
  have h3:¬k=3:=by omega
  have h4:¬k=4:=by omega
  rw[if_neg h1,if_neg h3,if_neg h4] at hsp
  have hrg:=hrg (r2 h).1 (r2 h).2
  refine PC.enter 49 [.cell 4 250] [2,3,14] Proofs.Tryz.func215 rfl rfl rfl rfl rfl (by simp) (AWp.of ?_);simp only[go_sem]
  refine Wk ?_
  intro b4
  refine W3 h1 h3 h4 ?_
  refine Sd ?_
  refine(hrg).val.use ?_;simp only[go_sem]
  refine Wk ?_
  refine ret_eq ?_;simp only[go_sem]
  rw[hsp]
set_option maxHeartbeats 4000000 in
theorem predtype_bounds (ps:List Pr) (hs:Sm ps) (hv:validF ps=true) (t:Pd):szF t≤1000000→okT ps t=true→t.kind≤8→PC Proofs.Tryz.prog 206 [aTr ps,aPd t] (aBd (intF ps t)):=by
 induction t using Pd.ind with
 | _ k n p q s l ih =>
 intro hz ht hk
 obtain⟨o1,o2,o3,o4⟩:=okT_sub ht
 obtain⟨hpl,_⟩:=loc_len o1
 simp only[Pd.kind] at hk
 have hch:=child_le ht (show k≤12 by omega)
 have hsz:szF (.mk k n p q s l)=szL l+1:=by rw[szF]
 have hll:=szL_len l
 have hsp:=intF_mk ps k n p q s l
 generalize intF ps (.mk k n p q s l)=I at *
 rcases parts_cases k with ⟨e,hc⟩|⟨e,hc⟩|⟨e,hc⟩|e
 ·obtain rfl:=len0 (l:=l) (by omega)
  have hlf:=predtype_leaf ps hs hv k n p q s (by omega) o2
  simp only[List.map_nil,bdN,bdG] at hsp
  have hgr:=predtype_great (bdL ps k n p q s).1 (bdL ps k n p q s).2
  generalize bdL ps k n p q s=i at *
  obtain⟨lo,hi⟩:=i
  unfold aBd aIv at *
  simp only[aPd_mk,List.map_nil] at *
  generalize tooB lo hi=g at *
  refine PC.enter 116 [.cell 4 250,.tmp 5] [2,3,6,7,75] Proofs.Tryz.func206 rfl rfl rfl rfl rfl (by simp) (AWp.of ?_);simp only[go_sem]
  refine Wk ?_
  intro b4
  refine Wk ?_
  refine⟨fun h0 => ?_,fun h0 => ?_⟩
  ·refine Wk ?_
   refine Sd ?_
   refine(hlf).val.use ?_;simp only[go_sem]
   refine Wk ?_
   intro b6 _
   refine AWp.seq ?_
   repeat(first|(with_reducible refine AWp.seq ?_)|(with_reducible refine AWp.block ?_))
   refine AWp.mix mixed [0,1,2,3,5] (.step 4 .done .done) (by kernel_rfl) ?_;simp only[go_sem]
   refine Sd ?_
   refine Gc hgr ?_
   refine Sd ?_
   refine Wk ?_
   refine ret_eq ?_;simp only[go_sem]
   rw[hsp]
  ·exact absurd rfl h0
 ·obtain⟨a,rfl⟩:=len1 (l:=l) (by omega)
  obtain⟨c1,c2⟩:=hch a (by simp)
  have hza:=szL_mem (l:=[a]) (x:=a) (by simp)
  have hca:=ih a (by simp) (by omega) c1 c2
  have hok:=intF_ok ps a
  simp only[List.map_cons,List.map_nil,bdN] at hsp
  generalize intF ps a=A at *
  obtain⟨a1,a2,a3⟩:=A
  obtain⟨ka,na,pa,qa,sa,la⟩:=a
  have k5:k=5:=by omega
  simp only[bd2,if_pos k5,bdG] at hsp
  have hgr:=predtype_great (-a2) (-a1)
  generalize tooB (-a2) (-a1)=g at *
  unfold aBd aIv at *
  simp only[aPd_mk,List.map_cons,List.map_nil] at *
  refine PC.enter 116 [.cell 4 250,.tmp 5] [2,3,6,7,75] Proofs.Tryz.func206 rfl rfl rfl rfl rfl (by simp) (AWp.of ?_);simp only[go_sem]
  refine Wk ?_
  intro b4
  refine Wk ?_
  intro _
  refine AWp.seq ?_
  repeat(first|(with_reducible refine AWp.seq ?_)|(with_reducible refine AWp.block ?_))
  refine AWp.mix mixed [0,1,2,3,4,5,6,7,8,11] (.step 9 (.step 10 .done .done) .done) (by kernel_rfl) ?_;simp only[go_sem]
  refine Sd ?_
  refine Gc hca ?_
  refine Sd ?_
  intro b7 h47
  clear ih o4 hch
  refine Wk ?_
  intro b9 h49
  have n1:¬b4=b9:=by omega
  have n2:¬b9=b4:=by omega
  refine W2 n1 n2 ?_
  intro _
  refine W2 n1 n2 ?_
  refine⟨fun h1 => ?_,fun h1 => ?_⟩
  ·refine W2 n1 n2 ?_
   refine ret_eq ?_;simp only[go_sem]
   simp only[n1,go_sem]
   rw[hsp,if_neg (by rw[h1];decide)]
  rw[if_pos h1] at hsp
  have hok:=hok h1
  refine W2 n1 n2 ?_
  intro b11 m1 m2
  have n3:¬b4=b11:=by omega
  have n4:¬b11=b4:=by omega
  have n5:¬b9=b11:=by omega
  have n6:¬b11=b9:=by omega
  repeat(first|((with_reducible refine AWp.ofC ?_ ?_);exact rfl;simp only[go_sem,(eq_true k5),n4,n6])|((with_reducible refine an ?_ ?_);exact Au))
  refine AWp.view [true] [(11,.rp 2 [.agg [ai (-a2),ai (-a1)]] 0 0)] (LVw.refl _) (fun p hp=>by simp only[List.mem_singleton] at hp;subst hp;exact Vw.ofLp (if_pos rfl)) ?_
  simp only[go_sem]
  refine AWp.seq ?_
  repeat(first|(with_reducible refine AWp.seq ?_)|(with_reducible refine AWp.block ?_))
  refine AWp.mix mixed [0,1,2,3,5] (.step 4 .done .done) (by kernel_rfl) ?_;simp only[go_sem]
  refine Sd ?_
  refine GCall.use (ab g) (fun _=>⟨At,(hgr).val.use ⟨rfl,rfl⟩⟩) ?_;simp only[go_sem,n1]
  refine Sd ?_
  refine W2 n1 n2 ?_
  refine ret_eq ?_;simp only[go_sem]
  simp only[n1,go_sem]
  rw[hsp]
 ·obtain⟨a,b,rfl⟩:=len2 (l:=l) (by omega)
  have k5:¬k=5:=by omega
  obtain⟨c1,c2⟩:=hch a (by simp)
  obtain⟨c3,c4⟩:=hch b (by simp)
  have hza:=szL_mem (l:=[a,b]) (x:=a) (by simp)
  have hzb:=szL_mem (l:=[a,b]) (x:=b) (by simp)
  have hca:=ih a (by simp) (by omega) c1 c2
  have hcc:=ih b (by simp) (by omega) c3 c4
  have hoka:=intF_ok ps a
  have hokb:=intF_ok ps b
  simp only[List.map_cons,List.map_nil,bdN] at hsp
  clear ih o4 hch
  generalize intF ps a=A at *
  generalize intF ps b=B at *
  obtain⟨a1,a2,a3⟩:=A
  obtain⟨e1,e2,e3⟩:=B
  obtain⟨ka,na,pa,qa,sa,la⟩:=a
  obtain⟨kb,nb,pb,qb,sb,lb⟩:=b
  unfold aBd aIv at *
  simp only[aPd_mk,List.map_cons,List.map_nil] at *
  refine PC.enter 116 [.cell 4 250,.tmp 5] [2,3,6,7,75] Proofs.Tryz.func206 rfl rfl rfl rfl rfl (by simp) (AWp.of ?_);simp only[go_sem]
  refine Wk ?_
  intro b4
  refine Wk ?_
  intro _
  refine AWp.seq ?_
  repeat(first|(with_reducible refine AWp.seq ?_)|(with_reducible refine AWp.block ?_))
  refine AWp.mix mixed [0,1,2,3,4,5,6,7,8,11] (.step 9 (.step 10 .done .done) .done) (by kernel_rfl) ?_;simp only[go_sem]
  refine Sd ?_
  refine Gc hca ?_
  refine Sd ?_
  intro b7 h47
  refine Wk ?_
  intro b9 h49
  have n1:¬b4=b9:=by omega
  have n2:¬b9=b4:=by omega
  refine W2 n1 n2 ?_
  refine⟨fun _ => ?_,fun h=>absurd rfl h⟩
  repeat(first|(with_reducible refine AWp.seq ?_)|(with_reducible refine AWp.block ?_))
  refine AWp.mix mixed [0,1,2,3,4,5,6,7,8,10] (.step 9 .done .done) (by kernel_rfl) ?_;simp only[go_sem]
  refine Sd ?_
  refine GCall.use (.tup [.agg [ai e1,ai e2],ab e3]) (fun _=>⟨At,(hcc).val.use ⟨rfl,rfl⟩⟩) ?_;simp only[go_sem,n2]
  refine Sd ?_
  refine W2 n1 n2 ?_
  refine⟨fun h1 => ?_,fun h1 => ?_⟩
  ·refine W2 n1 n2 ?_
   refine ret_eq ?_;simp only[go_sem]
   simp only[n1,go_sem]
   rw[hsp,if_neg (by rintro⟨x1,x2⟩;rw[x1,x2] at h1;simp at h1)]
  intro h2
  rw[if_pos ⟨h1,h2⟩] at hsp
  have hoka:=hoka h1
  have hokb:=hokb h2
  refine W2 n1 n2 ?_
  intro b11 m1 m2
  have n3:¬b4=b11:=by omega
  have n4:¬b11=b4:=by omega
  have n5:¬b9=b11:=by omega
  have n6:¬b11=b9:=by omega
  have fin:∀(lo hi:Int),bd2 k (a1,a2,a3) (e1,e2,e3)=(lo,hi)→I=(lo,hi,!tooB lo hi):=fun lo hi h=>by rw[hsp,h];rfl
  clear hsp
  by_cases k6:k=6
  ·have fin:=fin (a1+e1) (a2+e2) (by unfold bd2;rw[if_neg k5,if_pos k6])
   have hgr:=predtype_great (a1+e1) (a2+e2)
   generalize tooB (a1+e1) (a2+e2)=g at *
   unfold aIv at hgr
   repeat(first|((with_reducible refine AWp.ofC ?_ ?_);exact rfl;simp only[go_sem,(eq_true k6),k5,n2,n4,n5,n6])|((with_reducible refine an ?_ ?_);exact Au))
   refine AWp.view [true] [(11,.rp 2 [.agg [ai (a1+e1),ai (a2+e2)]] 0 0)] (LVw.refl _) (fun p hp=>by simp only[List.mem_singleton] at hp;subst hp;exact Vw.ofLp (if_pos rfl)) ?_
   simp only[go_sem]
   refine AWp.seq ?_
   repeat(first|(with_reducible refine AWp.seq ?_)|(with_reducible refine AWp.block ?_))
   refine AWp.mix mixed [0,1,2,3,5] (.step 4 .done .done) (by kernel_rfl) ?_;simp only[go_sem]
   refine Sd ?_
   refine GCall.use (ab g) (fun _=>⟨At,(hgr).val.use ⟨rfl,rfl⟩⟩) ?_;simp only[go_sem,n1]
   refine Sd ?_
   refine W2 n1 n2 ?_
   refine ret_eq ?_;simp only[go_sem]
   simp only[n1,go_sem]
   rw[fin]
  by_cases k7:k=7
  ·have fin:=fin (a1 - e2) (a2 - e1) (by unfold bd2;rw[if_neg k5,if_neg k6,if_pos k7])
   have hgr:=predtype_great (a1 - e2) (a2 - e1)
   generalize tooB (a1 - e2) (a2 - e1)=g at *
   unfold aIv at hgr
   repeat(first|((with_reducible refine AWp.ofC ?_ ?_);exact rfl;simp only[go_sem,(eq_true k7),k5,k6,n2,n4,n5,n6])|((with_reducible refine an ?_ ?_);exact Au))
   refine AWp.view [true] [(11,.rp 2 [.agg [ai (a1 - e2),ai (a2 - e1)]] 0 0)] (LVw.refl _) (fun p hp=>by simp only[List.mem_singleton] at hp;subst hp;exact Vw.ofLp (if_pos rfl)) ?_
   simp only[go_sem]
   refine AWp.seq ?_
   repeat(first|(with_reducible refine AWp.seq ?_)|(with_reducible refine AWp.block ?_))
   refine AWp.mix mixed [0,1,2,3,5] (.step 4 .done .done) (by kernel_rfl) ?_;simp only[go_sem]
   refine Sd ?_
   refine GCall.use (ab g) (fun _=>⟨At,(hgr).val.use ⟨rfl,rfl⟩⟩) ?_;simp only[go_sem,n1]
   refine Sd ?_
   refine W2 n1 n2 ?_
   refine ret_eq ?_;simp only[go_sem]
   simp only[n1,go_sem]
   rw[fin]
  have hp1:=predtype_product a1 e1 (by omega) (by omega)
  have hp2:=predtype_product a1 e2 (by omega) (by omega)
  have hp3:=predtype_product a2 e1 (by omega) (by omega)
  have hp4:=predtype_product a2 e2 (by omega) (by omega)
  have fin:=fin _ _ (by unfold bd2;rw[if_neg k5,if_neg k6,if_neg k7])
  dsimp only at fin
  generalize timesF a1 e1=t1 at *
  generalize timesF a1 e2=t2 at *
  generalize timesF a2 e1=t3 at *
  generalize timesF a2 e2=t4 at *
  have hh:=predtype_hull [t1,t2,t3,t4] (by simp) (by simp)
  generalize minL [t1,t2,t3,t4]=lo at *
  generalize maxL [t1,t2,t3,t4]=hi at *
  have hgr:=predtype_great lo hi
  generalize tooB lo hi=g at *
  simp only[aInts,List.map_cons,List.map_nil] at hh
  unfold aIv at hgr hh
  repeat(first|((with_reducible refine AWp.ofC ?_ ?_);exact rfl;simp only[go_sem,k5,k6,k7,n2,n4,n5,n6])|((with_reducible refine an ?_ ?_);exact Au))
  refine AWp.view [false,true] [(9,.rp 2 [.agg [ai e1,ai e2]] 0 0)] (LVw.refl _) (fun p hp=>by simp only[List.mem_singleton] at hp;subst hp;exact Vw.ofLp (if_pos rfl)) ?_
  simp only[go_sem]
  repeat(first|(with_reducible refine AWp.seq ?_)|(with_reducible refine AWp.block ?_))
  refine AWp.mix mixed [0,1,2,3,4,5,6,7,8,9,10,11,12,13,14,15,16,17,18,19] (.step 20 (.step 21 (.step 22 .done .done) .done) .done) (by kernel_rfl) ?_;simp only[go_sem]
  refine Sd ?_
  refine GCall.use (ai t1) (fun _=>⟨At,(hp1).val.use ⟨rfl,rfl⟩⟩) ?_;simp only[go_sem]
  refine Sd ?_
  refine GCall.use (ai t2) (fun _=>⟨At,(hp2).val.use ⟨rfl,rfl⟩⟩) ?_;simp only[go_sem]
  refine Sd ?_
  refine GCall.use (ai t3) (fun _=>⟨At,(hp3).val.use ⟨rfl,rfl⟩⟩) ?_;simp only[go_sem]
  refine Sd ?_
  refine GCall.use (ai t4) (fun _=>⟨At,(hp4).val.use ⟨rfl,rfl⟩⟩) ?_;simp only[go_sem]
  refine Sd ?_
  refine Sd ?_
  refine(hh).val.use ?_;simp only[go_sem,n4]
  refine Sd ?_
  refine AWp.view [true] [(11,.rp 2 [.agg [ai lo,ai hi]] 0 0)] (LVw.refl _) (fun p hp=>by simp only[List.mem_singleton] at hp;subst hp;exact Vw.ofLp (if_pos rfl)) ?_
  simp only[go_sem]
  refine AWp.seq ?_
  repeat(first|(with_reducible refine AWp.seq ?_)|(with_reducible refine AWp.block ?_))
  refine AWp.mix mixed [0,1,2,3,5] (.step 4 .done .done) (by kernel_rfl) ?_;simp only[go_sem]
  refine Sd ?_
  refine Gc hgr ?_
  refine Sd ?_
  refine Wk ?_
  refine ret_eq ?_;simp only[go_sem]
  rw[fin]
 ·omega
theorem ref25_Value (ps:List Pr) (hs:Sm ps) (p:Nat) (hp:p<ps.length) (v:Nat) (hv:v<ps[p].vars.length) (k:Nat) (hk:k≤ps[p].evs.length) (ha:AsgOk ps[p]) (hd:AsgDis ps[p]) :
  PC Proofs.Tryz.prog 184 [aTr ps,ai p,ai v,ai k] (ai ((stateAt ps[p] k)[v]'(by rw[stateAt_length];exact hv))):=by
 have hm:=List.getElem_mem hp
 have hel:=hs.evs _ hm
 have hl:=hs.procs
 have hvl:=hs.vars _ hm
 have hgP:=getD_map (f:=aPr) hp
 have hgv:=getD_map (f:=aVar) hv
 have hst:∀j,v<(stateAt ps[p] j).length:=fun j=>by rw[stateAt_length];exact hv
 generalize hR:(stateAt ps[p] k)[v]'(hst k)=R at *
 refine PC.enter 56 [.tmp 8] [4] Proofs.Tryz.func184 rfl rfl rfl rfl rfl (by simp) (AWp.of ?_);simp only[go_sem]
 refine Wk ?_
 refine AWp.block (AWp.loopN [9] [1,2,4] (fun m vs L=>L=[]∧m≤k∧vs=[ai ((m:Int) - 1)]∧(stateAt ps[p] m)[v]'(hst m)=R) k ⟨rfl,by omega,rfl,hR⟩ ?_)
 rintro m vs L - ⟨rfl,hmk,rfl,hmR⟩
 simp only[go_sem]
 refine Wk ?_
 refine⟨fun h1 => ?_,fun h1 => ?_⟩
 ·obtain⟨i,rfl⟩:∃i,m=i+1:=⟨m - 1,by omega⟩
  have hi:i<ps[p].evs.length:=by omega
  have hie:(((i+1:Nat):Int) - 1).toNat=i:=by omega
  have hin:((i+1:Nat):Int) - 1=(i:Int):=by omega
  have hge:=getD_map (f:=aEv) hi
  have hal:=hs.asg _ hm _ (List.getElem_mem hi)
  have hao:∀a ∈ ps[p].evs[i].asg,0≤a.1:=fun a h=>(ha _ (List.getElem_mem hi) a h).1
  have hdi:=hd _ (List.getElem_mem hi)
  have hsu:=stateAt_succ ps[p] i hi
  have hmR':(assignL (stateAt ps[p] i) ps[p].evs[i].asg)[v]?=some R:=by rw[← hsu,List.getElem?_eq_getElem (hst _),hmR]
  have hhit:=assignL_hit (v:=v) ps[p].evs[i].asg (stateAt ps[p] i) (hst i) hao hdi
  have hnone:=assignL_none (v:=v) ps[p].evs[i].asg (stateAt ps[p] i)
  rw[hin]
  refine W2 hgP hge ?_
  refine AWp.block (AWp.count 11 ps[p].evs[i].asg.length [] [1,2,4,9,10] (fun j vs L=>L=[]∧∀b (hb:b<ps[p].evs[i].asg.length),b<j→ps[p].evs[i].asg[b].1 ≠ v) rfl rfl ⟨rfl,by omega⟩ ?_)
  rintro j vs L hj - ⟨rfl,hJ⟩
  simp only[go_sem]
  refine Wk ?_
  refine⟨fun h2 => ?_,fun h2 => ?_⟩
  ·have hjl:j<ps[p].evs[i].asg.length:=by omega
   have hga:=getD_map (f:=aAsg) hjl
   refine W1 hga ?_
   refine⟨fun h3 => ?_,fun h3 => ?_⟩
   ·refine W1 hga ?_
    refine ret_eq ?_;simp only[go_sem]
    have:=hhit j hjl h3
    rw[this] at hmR'
    cases hmR';rfl
   ·refine Wk ?_
    refine⟨_,List.Sublist.refl _,rfl,fun b hb hbj => ?_⟩
    by_cases e:b=j
    ·subst e;exact h3
    ·exact hJ b hb (by omega)
  ·refine Wk ?_
   have hno:=hnone fun a haa=>by
    obtain⟨b,hb,rfl⟩:=List.getElem_of_mem haa
    exact⟨hao _ haa,hJ b hb (by omega)⟩
   rw[hno] at hmR'
   rw[List.getElem?_eq_getElem (hst i)] at hmR'
   refine⟨_,List.Sublist.refl _,i,by omega,rfl,by omega,rfl,by simpa using hmR'⟩
 ·have e:m=0:=by omega
  subst e
  have h0:(stateAt ps[p] 0)[v]'(hst 0)=ps[p].vars[v].2:=by simp [stateAt]
  rw[h0] at hmR
  refine W2 hgP hgv ?_
  refine ret_eq ?_;simp only[go_sem]
  rw[← hmR]
theorem ref28_Range (ps:List Pr) (hs:Sm ps) (hv:validF ps=true) (p:Nat) (hp:p<ps.length) (v:Nat) (hvv:v<ps[p].vars.length) :
  PC Proofs.Tryz.prog 181 [aTr ps,ai p,ai v] (.tup [ai (minL (valsF ps[p] v)),ai (maxL (valsF ps[p] v))]):=by
 have hm:=List.getElem_mem hp
 have hel:=hs.evs _ hm
 have hasg:=hs.asg _ hm
 have hao:=asg_of_valid hv p hp
 have hdi:=dis_of_valid hv p hp
 have hgp:=getD_map (f:=aPr) hp
 generalize ps[p]=x at *
 have hgv:=getD_map (f:=aVar) hvv
 have hvl:=valsF_length x v
 have hs0:(valsF x v)[0]'(by omega)=x.vars[v].2:=by
  rw[valsF_get,List.getD_eq_getElem?_getD];simp [stateAt,hvv]
 have h1:(valsF x v).take 1=[x.vars[v].2]:=by rw[List.take_succ_eq_append_getElem (by omega),hs0];rfl
 have hfull:(valsF x v).take (x.evs.length+1)=valsF x v:=by rw[← hvl,List.take_length]
 refine PC.enter 74 [.tmp 6,.tmp 7] [3] Proofs.Tryz.func181 rfl rfl rfl rfl rfl (by simp) (AWp.of ?_);simp only[go_sem]
 refine W2 hgp hgv ?_
 refine AWp.block (AWp.count 10 x.evs.length [8,9] [1,2,3] (fun k vs L=>L=[]∧vs=[ai (minL ((valsF x v).take (k+1))),ai (maxL ((valsF x v).take (k+1)))]) rfl rfl ⟨rfl,by rw[h1];rfl⟩ ?_)
 rintro k vs L' hk - ⟨rfl,rfl⟩
 simp only[go_sem]
 refine W1 hgp ?_
 refine⟨fun h0 => ?_,fun h0 => ?_⟩
 ·have hk:k<x.evs.length:=by omega
  have hge:=getD_map (f:=aEv) hk
  have hme:=List.getElem_mem hk
  have hal:=hasg _ hme
  have hst:=stateAt_succ x k hk
  have htn:=minL_take (l:=valsF x v) (k:=k+1) (by omega) (by omega)
  have htx:=maxL_take (l:=valsF x v) (k:=k+1) (by omega) (by omega)
  rw[valsF_get] at htn htx
  have hvs:v<(stateAt x k).length:=by rw[stateAt_length];exact hvv
  have hold:(stateAt x k).getD v 0 ∈ (valsF x v).take (k+1):=by
   rw[← valsF_get x v (k:=k) (by omega),List.mem_take_iff_getElem]
   exact⟨k,by omega,rfl⟩
  have hnone:(∀b (hb:b<x.evs[k].asg.length),x.evs[k].asg[b].1 ≠ v)→(stateAt x (k+1)).getD v 0=(stateAt x k).getD v 0:=fun h=>by
   rw[hst,List.getD_eq_getElem?_getD,assignL_none x.evs[k].asg _ fun a ha => ?_,List.getD_eq_getElem?_getD]
   obtain⟨b,hb,rfl⟩:=List.getElem_of_mem ha
   exact⟨(hao _ hme _ ha).1,h b hb⟩
  have hhit:∀b (hb:b<x.evs[k].asg.length),x.evs[k].asg[b].1=v→(stateAt x (k+1)).getD v 0=x.evs[k].asg[b].2:=fun b hb h=>by
   rw[hst,List.getD_eq_getElem?_getD,assignL_hit x.evs[k].asg _ hvs (fun a ha=>(hao _ hme _ ha).1) (hdi _ hme) b hb h];rfl
  have hdi:=hdi _ hme
  have hlo:=minL_le hold
  have hhi:=le_maxL hold
  generalize minL ((valsF x v).take (k+1))=lo at *
  generalize maxL ((valsF x v).take (k+1))=hi at *
  generalize (stateAt x (k+1)).getD v 0=w at *
  generalize (stateAt x k).getD v 0=w0 at *
  generalize x.evs[k]=e at *
  refine W2 hgp hge ?_
  refine AWp.block (AWp.count 12 e.asg.length [8,9] [1,2,3,10,11] (fun j vs L=>L=[]∧((vs=[ai lo,ai hi]∧∀b (hb:b<e.asg.length),b<j→e.asg[b].1 ≠ v)∨∃b,∃hb:b<e.asg.length,b<j∧e.asg[b].1=v∧vs=[ai (mn2 lo e.asg[b].2),ai (mx2 hi e.asg[b].2)]))
   rfl rfl ⟨rfl,.inl ⟨rfl,by omega⟩⟩ ?_)
  rintro j vs L hj - ⟨rfl,hJ⟩
  by_cases h2:j<e.asg.length
  ·have hga:=getD_map (f:=aAsg) h2
   by_cases h3:e.asg[j].1=v
   ·rcases hJ with ⟨rfl,hJ⟩|⟨b,hb,hbj,hbv,rfl⟩
    ·simp only[go_sem]
     repeat(first|((with_reducible refine AWp.ofC ?_ ?_);exact rfl;simp only[go_sem,hga,(show (j:Int)<e.asg.length by omega)])|((with_reducible refine an ?_ ?_);exact Au))
     refine⟨fun _ => ?_,fun h=>absurd h3 h⟩
     repeat(first|(with_reducible refine AWp.seq ?_)|(with_reducible refine AWp.block ?_))
     refine AWp.mix mixed [0,1,2,3,4,5,6,7,8,9,10,11,12,13] (.step 14 (.step 15 .done .done) .done) (by kernel_rfl) ?_;simp only[go_sem,hga]
     refine Sd ?_
     refine Wk ?_
     exact⟨_,List.Sublist.refl _,rfl,.inr ⟨j,h2,by omega,h3,rfl⟩⟩
    ·exact absurd (hbv.trans h3.symm) (hdi b j hb h2 hbj)
   ·have hJ':∀vs:List AV,((vs=[ai lo,ai hi]∧∀b (hb:b<e.asg.length),b<j→e.asg[b].1 ≠ v)∨∃b,∃hb:b<e.asg.length,b<j∧e.asg[b].1=v∧vs=[ai (mn2 lo e.asg[b].2),ai (mx2 hi e.asg[b].2)]) →
      ((vs=[ai lo,ai hi]∧∀b (hb:b<e.asg.length),b<j+1→e.asg[b].1 ≠ v)∨∃b,∃hb:b<e.asg.length,b<j+1∧e.asg[b].1=v∧vs=[ai (mn2 lo e.asg[b].2),ai (mx2 hi e.asg[b].2)]):=by
     rintro vs (⟨rfl,h⟩|⟨b,hb,h⟩)
     ·refine .inl ⟨rfl,fun b hb hbj => ?_⟩
      by_cases eb:b=j
      ·subst eb;exact h3
      ·exact h b hb (by omega)
     ·exact .inr ⟨b,hb,by omega,h.2⟩
    have hJ':=hJ' vs hJ
    obtain⟨y,z,rfl⟩:∃y z,vs=[y,z]:=by rcases hJ with ⟨rfl,_⟩|⟨_,_,_,_,rfl⟩ <;> exact⟨_,_,rfl⟩
    simp only[go_sem]
    repeat(first|((with_reducible refine AWp.ofC ?_ ?_);exact rfl;simp only[go_sem,hga,(show (j:Int)<e.asg.length by omega)])|((with_reducible refine an ?_ ?_);exact Au))
    intro _
    refine Wk ?_
    exact⟨_,List.Sublist.refl _,rfl,hJ'⟩
  ·have hres:vs=[ai (mn2 lo w),ai (mx2 hi w)]:=by
    rcases hJ with ⟨rfl,hJ⟩|⟨b,hb,_,hbv,rfl⟩
    ·rw[hnone fun b hb=>hJ b hb (by omega)]
     unfold mn2 mx2
     rw[if_neg (by omega),if_neg (by omega)]
    ·rw[hhit b hb hbv]
   subst hres
   simp only[go_sem]
   repeat(first|((with_reducible refine AWp.ofC ?_ ?_);exact rfl;simp only[go_sem,(show ¬(j:Int)<e.asg.length by omega)])|((with_reducible refine an ?_ ?_);exact Au))
   exact⟨_,List.Sublist.refl _,rfl,by rw[htn,htx]⟩
 ·refine Wk ?_
  refine ret_eq ?_;simp only[go_sem]
  rw[show k=x.evs.length by omega,hfull]
def aBd3 (x:Bd):AV:=.tup [ai x.1,ai x.2.1,ab x.2.2]
theorem hull_eq (a b c d:Int):minL [a,b,c,d]=mn2 (mn2 a b) (mn2 c d)∧maxL [a,b,c,d]=mx2 (mx2 a b) (mx2 c d):=by
 simp only[minL,maxL,List.foldl_cons,List.foldl_nil]
 unfold mn2 mx2
 constructor
 ·repeat' split
  all_goals omega
 ·repeat' split
  all_goals omega
theorem bdG_eq (i:Int × Int):bdG i=(i.1,i.2,decide (-1125899906842624≤i.1) && decide (i.2≤1125899906842624)):=by
 unfold bdG tooB
 congr 2
 rw[Bool.not_or,← decide_not,← decide_not]
 congr 1
 ·exact decide_eq_decide.2 (by omega)
 ·exact decide_eq_decide.2 (by omega)
set_option maxHeartbeats 4000000 in
theorem ref28_interval (ps:List Pr) (hs:Sm ps) (hv:validF ps=true) (t:Pd):szF t≤1000000→okT ps t=true→t.kind≤8→PC Proofs.Tryz.prog 151 [aTr ps,aPd t] (aBd3 (intF ps t)):=by
 induction t using Pd.ind with
 | _ k n p q s l ih =>
 intro hz ht hk
 obtain⟨o1,o2,o3,o4⟩:=okT_sub ht
 obtain⟨hpl,_⟩:=loc_len o1
 simp only[Pd.kind] at hk
 have hch:=child_le ht (show k≤12 by omega)
 have hsz:szF (.mk k n p q s l)=szL l+1:=by rw[szF]
 have hsp:=intF_mk ps k n p q s l
 generalize intF ps (.mk k n p q s l)=I at *
 rcases parts_cases k with ⟨e,hc⟩|⟨e,hc⟩|⟨e,hc⟩|e
 ·obtain rfl:=len0 (l:=l) (by omega)
  obtain⟨r2,r3,r4⟩:=res_leaf o2
  simp only[List.map_nil,bdN,bdG_eq] at hsp
  unfold aBd3
  simp only[aPd_mk,List.map_nil] at *
  have hk4:k=1∨k=2∨k=3∨k=4:=by omega
  have h18:=fun h:k≤4=>(show ¬k=5 by omega)
  rcases hk4 with h|h|h|h
  ·have hl:bdL ps k n p q s=(n,n):=by unfold bdL;rw[if_pos h]
   rw[hl] at hsp
   refine PC.enter 155 [.tmp 4,.tmp 5,.tmp 6] [2,3] Proofs.Tryz.func151 rfl rfl rfl rfl rfl (by simp) (AWp.of ?_);simp only[go_sem]
   refine Wk ?_
   intro _
   refine Wk ?_
   intro _
   repeat(first|((with_reducible refine AWp.ofC ?_ ?_);exact rfl;simp only[go_sem,(eq_true h)])|((with_reducible refine an ?_ ?_);exact Au))
   repeat(first|(with_reducible refine AWp.seq ?_)|(with_reducible refine AWp.block ?_))
   refine AWp.mix mixed [0,1,2,3,4,5] .done (by kernel_rfl) ?_;simp only[go_sem]
   refine Sd ?_
   refine Wk ?_
   refine ret_eq ?_;simp only[go_sem]
   rw[hsp]
  ·have h1:¬k=1:=by omega
   obtain⟨i,rfl,hp⟩:=isPB_nat (r2 h).1
   have hkn:=known_get hp (r2 h).2
   have hl:bdL ps k n i q s=(varLo ps i s,varHi ps i s):=by unfold bdL;rw[if_neg (by omega),if_neg (by omega),if_neg (by omega)]
   rw[hl] at hsp
   have hvx:=ref28_Var ps hs i (r2 h).1 s
   rw[varX_get hp] at hvx
   obtain⟨vx,hvi,hvl⟩:=known_ix hkn
   have hrg:=ref28_Range ps hs hv i hp vx hvl
   have e1:varLo ps i s=minL (valsF ps[i] vx):=by unfold varLo;simp only[Int.toNat_natCast,List.getElem?_eq_getElem hp,hvi]
   have e2:varHi ps i s=maxL (valsF ps[i] vx):=by unfold varHi;simp only[Int.toNat_natCast,List.getElem?_eq_getElem hp,hvi]
   rw[← e1,← e2] at hrg
   rw[hvi] at hvx
   generalize varLo ps i s=lo at *
   generalize varHi ps i s=hi at *
   refine PC.enter 155 [.tmp 4,.tmp 5,.tmp 6] [2,3] Proofs.Tryz.func151 rfl rfl rfl rfl rfl (by simp) (AWp.of ?_);simp only[go_sem]
   refine Wk ?_
   intro _
   refine Wk ?_
   intro _
   repeat(first|((with_reducible refine AWp.ofC ?_ ?_);exact rfl;simp only[go_sem,(eq_true h),h1])|((with_reducible refine an ?_ ?_);exact Au))
   repeat(first|(with_reducible refine AWp.seq ?_)|(with_reducible refine AWp.block ?_))
   refine AWp.mix mixed [0,1,2,3,4,5,6,7,8,9,10,11,12,13,14] .done (by kernel_rfl) ?_;simp only[go_sem]
   refine Sd ?_
   refine Gc hvx ?_
   refine Sd ?_
   refine Gc hrg ?_
   refine Sd ?_
   refine Wk ?_
   refine ret_eq ?_;simp only[go_sem]
   rw[hsp]
  ·have h1:¬k=1:=by omega
   have h2:¬k=2:=by omega
   obtain⟨i,rfl,hp⟩:=isPB_nat (r3 h)
   have hgp:=getD_map (f:=aPr) hp
   have hl:bdL ps k n i q s=(0,(ps[i].evs.length:Int)):=by unfold bdL;rw[if_neg (by omega),if_pos h,evN_get hp]
   rw[hl] at hsp
   refine PC.enter 155 [.tmp 4,.tmp 5,.tmp 6] [2,3] Proofs.Tryz.func151 rfl rfl rfl rfl rfl (by simp) (AWp.of ?_);simp only[go_sem]
   refine Wk ?_
   intro _
   refine Wk ?_
   intro _
   repeat(first|((with_reducible refine AWp.ofC ?_ ?_);exact rfl;simp only[go_sem,(eq_true h),h1,h2,hgp])|((with_reducible refine an ?_ ?_);exact Au))
   refine ret_eq ?_;simp only[go_sem]
   rw[hsp]
  ·have h1:¬k=1:=by omega
   have h2:¬k=2:=by omega
   have h3:¬k=3:=by omega
   have hsn:=ref28_sent ps hs p (r4 h).1 q
   have hl:bdL ps k n p q s=(0,msgN ps p q):=by unfold bdL;rw[if_neg (by omega),if_neg (by omega),if_pos h]
   rw[hl] at hsp
   generalize msgN ps p q=m at *
   refine PC.enter 155 [.tmp 4,.tmp 5,.tmp 6] [2,3] Proofs.Tryz.func151 rfl rfl rfl rfl rfl (by simp) (AWp.of ?_);simp only[go_sem]
   refine Wk ?_
   intro _
   refine Wk ?_
   intro _
   repeat(first|((with_reducible refine AWp.ofC ?_ ?_);exact rfl;simp only[go_sem,(eq_true h),h1,h2,h3])|((with_reducible refine an ?_ ?_);exact Au))
   refine Sd ?_
   refine(hsn).val.use ?_;simp only[go_sem]
   refine Wk ?_
   refine ret_eq ?_;simp only[go_sem]
   rw[hsp]
 ·obtain⟨a,rfl⟩:=len1 (l:=l) (by omega)
  obtain⟨c1,c2⟩:=hch a (by simp)
  have hza:=szL_mem (l:=[a]) (x:=a) (by simp)
  have hca:=ih a (by simp) (by omega) c1 c2
  have hok:=intF_ok ps a
  simp only[List.map_cons,List.map_nil,bdN] at hsp
  clear ih o4 hch
  generalize intF ps a=A at *
  obtain⟨a1,a2,a3⟩:=A
  obtain⟨ka,na,pa,qa,sa,la⟩:=a
  have h5:k=5:=by omega
  have h1:¬k=1:=by omega
  have h2:¬k=2:=by omega
  have h3:¬k=3:=by omega
  have h4:¬k=4:=by omega
  simp only[bd2,if_pos h5,bdG_eq] at hsp
  unfold aBd3 at *
  simp only[aPd_mk,List.map_cons,List.map_nil] at *
  refine PC.enter 155 [.tmp 4,.tmp 5,.tmp 6] [2,3] Proofs.Tryz.func151 rfl rfl rfl rfl rfl (by simp) (AWp.of ?_);simp only[go_sem]
  refine Wk ?_
  refine⟨fun _ => ?_,fun h=>absurd (show (0:Int)<((1:Nat):Int) by decide) h⟩
  repeat(first|(with_reducible refine AWp.seq ?_)|(with_reducible refine AWp.block ?_))
  refine AWp.mix mixed [0,1,2,3,4,5,6,7,8,9,10,11,12] .done (by kernel_rfl) ?_;simp only[go_sem]
  refine Sd ?_
  refine Gc hca ?_
  refine Sd ?_
  refine Wk ?_
  intro _
  refine Wk ?_
  refine⟨fun h6 => ?_,fun h6 => ?_⟩
  ·refine Wk ?_
   refine ret_eq ?_;simp only[go_sem]
   rw[hsp,if_neg (by rw[h6];decide)]
  rw[if_pos h6] at hsp
  have hok:=hok h6
  repeat(first|((with_reducible refine AWp.ofC ?_ ?_);exact rfl;simp only[go_sem,(eq_true h5),h1,h2,h3,h4])|((with_reducible refine an ?_ ?_);exact Au))
  refine ret_eq ?_;simp only[go_sem]
  rw[hsp]
 ·obtain⟨a,b,rfl⟩:=len2 (l:=l) (by omega)
  obtain⟨c1,c2⟩:=hch a (by simp)
  obtain⟨c3,c4⟩:=hch b (by simp)
  have hza:=szL_mem (l:=[a,b]) (x:=a) (by simp)
  have hzb:=szL_mem (l:=[a,b]) (x:=b) (by simp)
  have hca:=ih a (by simp) (by omega) c1 c2
  have hcc:=ih b (by simp) (by omega) c3 c4
  have hoka:=intF_ok ps a
  have hokb:=intF_ok ps b
  simp only[List.map_cons,List.map_nil,bdN,bdG_eq] at hsp
  clear ih o4 hch
  generalize intF ps a=A at *
  generalize intF ps b=B at *
  obtain⟨a1,a2,a3⟩:=A
  obtain⟨e1,e2,e3⟩:=B
  obtain⟨ka,na,pa,qa,sa,la⟩:=a
  obtain⟨kb,nb,pb,qb,sb,lb⟩:=b
  have h1:¬k=1:=by omega
  have h2:¬k=2:=by omega
  have h3:¬k=3:=by omega
  have h4:¬k=4:=by omega
  have h5:¬k=5:=by omega
  unfold aBd3 at *
  simp only[aPd_mk,List.map_cons,List.map_nil] at *
  refine PC.enter 155 [.tmp 4,.tmp 5,.tmp 6] [2,3] Proofs.Tryz.func151 rfl rfl rfl rfl rfl (by simp) (AWp.of ?_);simp only[go_sem]
  refine Wk ?_
  refine⟨fun _ => ?_,fun h=>absurd (show (0:Int)<((2:Nat):Int) by decide) h⟩
  repeat(first|(with_reducible refine AWp.seq ?_)|(with_reducible refine AWp.block ?_))
  refine AWp.mix mixed [0,1,2,3,4,5,6,7,8,9,10,11,12] .done (by kernel_rfl) ?_;simp only[go_sem]
  refine Sd ?_
  refine Gc hca ?_
  refine Sd ?_
  refine Wk ?_
  refine⟨fun _ => ?_,fun h=>absurd (show (1:Int)<((2:Nat):Int) by decide) h⟩
  repeat(first|(with_reducible refine AWp.seq ?_)|(with_reducible refine AWp.block ?_))
  refine AWp.mix mixed [0,1,2,3,4,5,6,7,8,9,10,11,12] .done (by kernel_rfl) ?_;simp only[go_sem]
  refine Sd ?_
  refine Gc hcc ?_
  refine Sd ?_
  refine Wk ?_
  refine⟨fun h6 => ?_,fun h6 => ?_⟩
  ·refine Wk ?_
   refine ret_eq ?_;simp only[go_sem]
   rw[hsp,if_neg (by rintro⟨x1,x2⟩;rw[x1,x2] at h6;simp at h6)]
  intro h7
  rw[if_pos ⟨h6,h7⟩] at hsp
  have hoka:=hoka h6
  have hokb:=hokb h7
  by_cases k6:k=6
  ·have hl:bd2 k (a1,a2,a3) (e1,e2,e3)=(a1+e1,a2+e2):=by unfold bd2;rw[if_neg h5,if_pos k6]
   rw[hl] at hsp
   repeat(first|((with_reducible refine AWp.ofC ?_ ?_);exact rfl;simp only[go_sem,(eq_true k6),h1,h2,h3,h4,h5])|((with_reducible refine an ?_ ?_);exact Au))
   refine ret_eq ?_;simp only[go_sem]
   rw[hsp]
  by_cases k7:k=7
  ·have hl:bd2 k (a1,a2,a3) (e1,e2,e3)=(a1 - e2,a2 - e1):=by unfold bd2;rw[if_neg h5,if_neg k6,if_pos k7]
   rw[hl] at hsp
   repeat(first|((with_reducible refine AWp.ofC ?_ ?_);exact rfl;simp only[go_sem,(eq_true k7),h1,h2,h3,h4,h5,k6])|((with_reducible refine an ?_ ?_);exact Au))
   refine ret_eq ?_;simp only[go_sem]
   rw[hsp]
  have hl:bd2 k (a1,a2,a3) (e1,e2,e3)=(minL [timesF a1 e1,timesF a1 e2,timesF a2 e1,timesF a2 e2],maxL [timesF a1 e1,timesF a1 e2,timesF a2 e1,timesF a2 e2]):=by unfold bd2;rw[if_neg h5,if_neg k6,if_neg k7]
  rw[hl] at hsp
  have hp1:=ref28_times a1 e1 (by omega) (by omega)
  have hp2:=ref28_times a1 e2 (by omega) (by omega)
  have hp3:=ref28_times a2 e1 (by omega) (by omega)
  have hp4:=ref28_times a2 e2 (by omega) (by omega)
  obtain⟨hmn,hmx⟩:=hull_eq (timesF a1 e1) (timesF a1 e2) (timesF a2 e1) (timesF a2 e2)
  generalize timesF a1 e1=t1 at *
  generalize timesF a1 e2=t2 at *
  generalize timesF a2 e1=t3 at *
  generalize timesF a2 e2=t4 at *
  rw[hmn,hmx] at hsp
  unfold mn2 mx2 at hsp
  repeat(first|((with_reducible refine AWp.ofC ?_ ?_);exact rfl;simp only[go_sem,h1,h2,h3,h4,h5,k6,k7])|((with_reducible refine an ?_ ?_);exact Au))
  refine Sd ?_
  refine(hp1).val.use ?_;simp only[go_sem]
  refine Wk ?_
  refine Sd ?_
  refine(hp2).val.use ?_;simp only[go_sem]
  refine Wk ?_
  refine Sd ?_
  refine(hp3).val.use ?_;simp only[go_sem]
  refine Wk ?_
  refine Sd ?_
  refine(hp4).val.use ?_;simp only[go_sem]
  refine Wk ?_
  refine Sd ?_
  refine(hp1).val.use ?_;simp only[go_sem]
  refine Wk ?_
  refine Sd ?_
  refine(hp2).val.use ?_;simp only[go_sem]
  refine Wk ?_
  refine Sd ?_
  refine(hp3).val.use ?_;simp only[go_sem]
  refine Wk ?_
  refine Sd ?_
  refine(hp4).val.use ?_;simp only[go_sem]
  refine Wk ?_
  refine ret_eq ?_;simp only[go_sem]
  rw[hsp]
 ·omega
theorem predtype_small (ps:List Pr) (hs:Sm ps) (hv:validF ps=true) (t:Pd):szF t≤1000000→okT ps t=true→PC Proofs.Tryz.prog 172 [aTr ps,aPd t] (ab (fitB ps t)):=by
 induction t using Pd.ind with
 | _ k n p q s l ih =>
 intro hz ht
 have hsz:szF (.mk k n p q s l)=szL l+1:=by rw[szF]
 have hll:=szL_len l
 have hsp:=fitB_mk ps k n p q s l
 have hr:=predtype_result k
 have hbd:=fun h=>predtype_bounds ps hs hv (.mk k n p q s l) hz ht h
 have h1:∀x ∈ l,PV Proofs.Tryz.prog (.clo 207 [.rp 1 [aTr ps] 0 0]) [aPd x] (ab (!fitB ps x)):=by
  intro x hx
  have hxi:=szL_mem hx
  have hch:=ih x hx (by omega) ((okT_sub ht).2.2.2 x hx).1
  generalize fitB ps x=b at *
  obtain⟨k2,n2,p2,q2,s2,l2⟩:=x
  refine PC.clo ?_
  simp only[aPd_mk] at *
  refine PC.enter 8 [.tmp 3] [2] Proofs.Tryz.func207 rfl rfl rfl rfl rfl (by simp) (AWp.of ?_);simp only[go_sem]
  refine Wk ?_
  refine Sd ?_
  refine(hch).val.use ?_;simp only[go_sem]
  refine Wk ?_
  refine ret_eq ?_;simp only[go_sem]
 have hc:=preds_containsFunc l (by omega) _ rfl (fun x => !fitB ps x) h1
 have hall:l.all (fitB ps) = !l.any fun x => !fitB ps x:=by rw[List.all_eq_not_any_not]
 rw[hall] at hsp
 generalize (l.any fun x => !fitB ps x)=c at *
 generalize fitB ps (.mk k n p q s l)=F at *
 simp only[Pd.kind] at hbd
 have hrk:resF k=1↔k≤8:=by unfold resF;split <;> omega
 generalize resF k=r at *
 generalize intF ps (.mk k n p q s l)=I at *
 unfold aBd aIv at hbd
 simp only[aPd_mk] at *
 refine PC.enter 23 [.tmp 4] [2,3,5] Proofs.Tryz.func172 rfl rfl rfl rfl rfl (by simp) (AWp.of ?_);simp only[go_sem]
 refine Wk ?_
 refine Sd ?_
 refine(hr).val.use ?_;simp only[go_sem]
 refine Wk ?_
 refine⟨fun h2 => ?_,fun h2 => ?_⟩
 ·have hk:=hrk.1 h2
  rw[if_pos hk] at hsp
  have hbd:=hbd hk
  refine Wk ?_
  refine Sd ?_
  refine(hbd).val.use ?_;simp only[go_sem]
  refine Wk ?_
  intro b5
  refine Wk ?_
  refine ret_eq ?_;simp only[go_sem]
  rw[hsp]
 ·rw[if_neg (fun h=>h2 (hrk.2 h))] at hsp
  refine Wk ?_
  refine Sd ?_
  refine(hc).val.use ?_;simp only[go_sem]
  refine Wk ?_
  refine ret_eq ?_;simp only[go_sem]
  rw[hsp]
theorem predtype_Check (ps:List Pr) (hs:Sm ps) (t:Pd) (hz:szF t≤1000000):PC Proofs.Tryz.prog 135 [aTr ps,aPd t] (ai (checkF ps t)):=by
 have h1:=trace_Valid ps hs
 have h2:=predtype_formed t hz
 have h3:=predtype_resolved ps hs t hz
 have h4:=predtype_typed t hz
 have h5:=fun h1 h2=>predtype_small ps hs h1 t hz h2
 have hsp:checkF ps t=if (validF ps && formedB t)=false then 1 else if allB (resB ps) t=false then 13 else if typedB t=false then 14 else if fitB ps t=false then 9 else 0:=rfl
 have hok:formedB t=true→allB (resB ps) t=true→typedB t=true→okT ps t=true:=fun a b c=>by
  unfold okT;unfold formedB at a;unfold typedB at c
  simp only[Bool.and_eq_true] at a ⊢
  exact⟨⟨a.2,b⟩,c⟩
 generalize checkF ps t=r at *
 generalize okT ps t=O at *
 generalize validF ps=V at *
 generalize formedB t=F at *
 generalize allB (resB ps) t=R at *
 generalize typedB t=T at *
 generalize fitB ps t=S at *
 obtain⟨k,n,p,q,s,l⟩:=t
 simp only[aPd_mk] at *
 refine PC.enter 28 [.tmp 4] [2,3] Proofs.Tryz.func135 rfl rfl rfl rfl rfl (by simp) (AWp.of ?_);simp only[go_sem]
 refine Wk ?_
 refine Sd ?_
 refine(h1).val.use ?_;simp only[go_sem]
 refine Sd ?_
 refine Gc h2 ?_
 refine Sd ?_
 refine Wk ?_
 refine⟨fun h6 => ?_,fun h6 => ?_⟩
 ·refine Wk ?_
  refine ret_eq ?_;simp only[go_sem]
  rw[hsp,if_pos (by cases V <;> simp_all)]
 intro h7
 rw[if_neg (by rw[h6,h7];decide)] at hsp
 refine Wk ?_
 refine Sd ?_
 refine(h3).val.use ?_;simp only[go_sem]
 refine Wk ?_
 refine⟨fun h8 => ?_,fun h8 => ?_⟩
 ·refine Wk ?_
  refine ret_eq ?_;simp only[go_sem]
  rw[hsp,if_pos h8]
 rw[if_neg (by rw[h8];decide)] at hsp
 refine Wk ?_
 refine Sd ?_
 refine(h4).val.use ?_;simp only[go_sem]
 refine Wk ?_
 refine⟨fun h9 => ?_,fun h9 => ?_⟩
 ·refine Wk ?_
  refine ret_eq ?_;simp only[go_sem]
  rw[hsp,if_pos h9]
 rw[if_neg (by rw[h9];decide)] at hsp
 have h5:=h5 h6 (hok h7 h8 h9)
 refine Wk ?_
 refine Sd ?_
 refine(h5).val.use ?_;simp only[go_sem]
 refine Wk ?_
 refine⟨fun h10 => ?_,fun h10 => ?_⟩
 ·refine Wk ?_
  refine ret_eq ?_;simp only[go_sem]
  rw[hsp,if_pos h10]
 rw[if_neg (by rw[h10];decide)] at hsp
 refine Wk ?_
 refine ret_eq ?_;simp only[go_sem]
 rw[hsp]
theorem ref28_kind (k n p q:Int) (s:ByteArray) (l:List Pd):PC Proofs.Tryz.prog 150 [aPd (.mk k n p q s l)] (ai (resF k)):=by
 have hr:resF k=if k≤8 then 1 else 2:=rfl
 generalize resF k=r at *
 refine PC.enter 6 [.tmp 2] [1] Proofs.Tryz.func150 rfl rfl rfl rfl rfl (by simp) (AWp.of ?_);simp only[go_sem]
 refine Wk ?_
 refine⟨fun h1 => ?_,fun h1 => ?_⟩
 ·refine Wk ?_
  refine ret_eq ?_;simp only[go_sem]
  rw[hr,if_pos h1]
 ·refine Wk ?_
  refine ret_eq ?_;simp only[go_sem]
  rw[hr,if_neg h1]
theorem all_and2 {α:Type} (f g:α→Bool) (l:List α):(l.all f && l.all g)=l.all fun x=>f x && g x:=by
 induction l with
 | nil=>rfl
 | cons a r ih=>rw[List.all_cons,List.all_cons,List.all_cons,← ih];cases f a <;> cases g a <;> cases r.all f <;> rfl
theorem ref28_typed (t:Pd):szF t≤1000000→allB locB t=true→PC Proofs.Tryz.prog 111 [aPd t] (ab (allB typB t)):=by
 induction t using Pd.ind with
 | _ k n p q s l ih =>
 intro hz ht
 have hsz:szF (.mk k n p q s l)=szL l+1:=by rw[szF]
 have hll:=szL_len l
 obtain⟨ht1,ht2⟩:=allB_sub ht
 obtain⟨hpl,_⟩:=loc_len ht1
 have hsp:allB typB (.mk k n p q s l)=l.all fun x => !tyNe k x.kind && allB typB x:=by
  rw[allB_mk]
  show ((!l.any fun x=>tyNe k x.kind) && l.all (allB typB))=_
  rw[List.not_any_eq_all_not,all_and2]
 generalize allB typB (.mk k n p q s l)=B at *
 obtain⟨pB,hpB⟩:∃pB:Pd→Bool,pB=fun x => !tyNe k x.kind && allB typB x:=⟨_,rfl⟩
 rw[← hpB] at hsp
 refine PC.enter 32 [.tmp 2] [1] Proofs.Tryz.func111 rfl rfl rfl rfl rfl (by simp) (AWp.of ?_);simp only[go_sem]
 refine Wk ?_
 refine AWp.block (AWp.count 3 l.length [] [1] (fun i vs L=>L=[]∧∀j (hj:j<l.length),j<i→pB l[j]=true) rfl rfl ⟨rfl,by omega⟩ ?_)
 rintro i vs L hi - ⟨rfl,hI⟩
 simp only[go_sem]
 refine Wk ?_
 refine⟨fun h4 => ?_,fun h4 => ?_⟩
 ·have hil:i<l.length:=by omega
  have hk:needF k=if 15≤k then 2 else 1:=by
   unfold needF
   rcases parts_cases k with ⟨e,hc⟩|⟨e,hc⟩|⟨e,hc⟩|e
   ·omega
   ·split <;> split <;> omega
   ·split <;> split <;> omega
   ·omega
  have hgi:=getD_map (f:=aPd) hil
  have hzi:=szL_mem (List.getElem_mem hil)
  have hch:=ih l[i] (List.getElem_mem hil) (by omega) (ht2 _ (List.getElem_mem hil))
  have hnx:=all_next (f:=pB) hI hil
  have hno:=all_not (f:=pB) hil
  have hxt:pB l[i]=true↔resF l[i].kind=needF k∧allB typB l[i]=true:=by rw[hpB];simp only[tyNe,Bool.and_eq_true,Bool.not_eq_true',decide_eq_false_iff_not,Decidable.not_not]
  generalize l[i]=x at *
  generalize allB typB x=bx at *
  obtain⟨k2,n2,p2,q2,s2,l2⟩:=x
  have hkd:=ref28_kind k2 n2 p2 q2 s2 l2
  simp only[aPd_mk,Pd.kind] at hgi hch hkd hxt
  generalize resF k2=r at *
  by_cases h15:15≤k
  ·have hk:needF k=2:=by rw[hk,if_pos h15]
   rw[hk] at hxt
   repeat(first|((with_reducible refine AWp.ofC ?_ ?_);exact rfl;simp only[go_sem,(eq_true h15),hgi])|((with_reducible refine an ?_ ?_);exact Au))
   refine Sd ?_
   refine(hkd).val.use ?_;simp only[go_sem,hgi]
   refine Sd ?_
   refine Gc hch ?_
   refine Sd ?_
   refine Wk ?_
   refine⟨fun h5 => ?_,fun h5 => ?_⟩
   ·refine Wk ?_
    refine ret_eq ?_;simp only[go_sem]
    rw[hsp,hno (by rw[← Bool.not_eq_true,hxt];rintro⟨e1,e2⟩;rcases h5 with h5|h5;exact h5 e1;rw[h5] at e2;cases e2)]
   ·intro h6
    refine Wk ?_
    exact⟨_,List.Sublist.refl _,rfl,hnx (hxt.2 ⟨h5,h6⟩)⟩
  ·have hk:needF k=1:=by rw[hk,if_neg h15]
   rw[hk] at hxt
   refine W2 h15 hgi ?_
   refine Sd ?_
   refine(hkd).val.use ?_;simp only[go_sem,hgi]
   refine Sd ?_
   refine Gc hch ?_
   refine Sd ?_
   refine Wk ?_
   refine⟨fun h5 => ?_,fun h5 => ?_⟩
   ·refine Wk ?_
    refine ret_eq ?_;simp only[go_sem]
    rw[hsp,hno (by rw[← Bool.not_eq_true,hxt];rintro⟨e1,e2⟩;rcases h5 with h5|h5;exact h5 e1;rw[h5] at e2;cases e2)]
   ·intro h6
    refine Wk ?_
    exact⟨_,List.Sublist.refl _,rfl,hnx (hxt.2 ⟨h5,h6⟩)⟩
 ·refine Wk ?_
  refine ret_eq ?_;simp only[go_sem]
  rw[hsp,all_of hI (by omega)]
theorem ref28_fits (ps:List Pr) (hs:Sm ps) (hv:validF ps=true) (t:Pd):szF t≤1000000→okT ps t=true→PC Proofs.Tryz.prog 112 [aTr ps,aPd t] (ab (fitB ps t)):=by
 induction t using Pd.ind with
 | _ k n p q s l ih =>
 intro hz ht
 have hsz:szF (.mk k n p q s l)=szL l+1:=by rw[szF]
 have hll:=szL_len l
 have hsp:=fitB_mk ps k n p q s l
 have hr:=ref28_kind k n p q s l
 have hbd:=fun h=>ref28_interval ps hs hv (.mk k n p q s l) hz ht h
 generalize fitB ps (.mk k n p q s l)=F at *
 simp only[Pd.kind] at hbd
 have hrk:resF k=1↔k≤8:=by unfold resF;split <;> omega
 generalize resF k=r at *
 generalize intF ps (.mk k n p q s l)=I at *
 unfold aBd3 at hbd
 simp only[aPd_mk] at hr hbd
 refine PC.enter 35 [.tmp 4] [2,3] Proofs.Tryz.func112 rfl rfl rfl rfl rfl (by simp) (AWp.of ?_);simp only[go_sem]
 refine Wk ?_
 refine Sd ?_
 refine(hr).val.use ?_;simp only[go_sem]
 refine Wk ?_
 refine⟨fun h2 => ?_,fun h2 => ?_⟩
 ·have hk:=hrk.1 h2
  rw[if_pos hk] at hsp
  have hbd:=hbd hk
  refine Wk ?_
  refine Sd ?_
  refine(hbd).val.use ?_;simp only[go_sem]
  refine Wk ?_
  refine ret_eq ?_;simp only[go_sem]
  rw[hsp]
 rw[if_neg (fun h=>h2 (hrk.2 h))] at hsp
 refine Wk ?_
 refine AWp.block (AWp.count 8 l.length [] [2,3] (fun i vs L=>L=[]∧∀j (hj:j<l.length),j<i→fitB ps l[j]=true) rfl rfl ⟨rfl,by omega⟩ ?_)
 rintro i vs L hi - ⟨rfl,hI⟩
 simp only[go_sem]
 refine Wk ?_
 refine⟨fun h4 => ?_,fun h4 => ?_⟩
 ·have hil:i<l.length:=by omega
  have hgi:=getD_map (f:=aPd) hil
  have hzi:=szL_mem (List.getElem_mem hil)
  have hch:=ih l[i] (List.getElem_mem hil) (by omega) ((okT_sub ht).2.2.2 _ (List.getElem_mem hil)).1
  have hnx:=all_next hI hil
  have hno:=all_not (f:=fitB ps) hil
  generalize l[i]=x at *
  generalize fitB ps x=bx at *
  obtain⟨k2,n2,p2,q2,s2,l2⟩:=x
  simp only[aPd_mk] at hgi hch
  refine AWp.seq (AWp.block (AWp.seq ?_))
  repeat(first|(with_reducible refine AWp.seq ?_)|(with_reducible refine AWp.block ?_))
  refine AWp.mix mixed [0,1,2,3,4,5,6,7] .done (by kernel_rfl) ?_;simp only[go_sem,hgi]
  refine Sd ?_
  refine Gc hch ?_
  refine Sd ?_
  refine Wk ?_
  refine⟨fun h5 => ?_,fun h5 => ?_⟩
  ·refine Wk ?_
   refine ret_eq ?_;simp only[go_sem]
   rw[hsp,hno h5]
  ·refine Wk ?_
   exact⟨_,List.Sublist.refl _,rfl,hnx h5⟩
 ·refine Wk ?_
  refine ret_eq ?_;simp only[go_sem]
  rw[hsp,all_of hI (by omega)]
theorem ref28_Check (ps:List Pr) (hs:Sm ps) (t:Pd) (hz:szF t≤1000000):PC Proofs.Tryz.prog 75 [aTr ps,aPd t] (ai (checkF ps t)):=by
 have h1:=ref12_Valid ps hs
 have h2:=ref28_Formed t hz
 have h3:=ref28_Resolved ps hs t hz
 have h4:formedB t=true→PC Proofs.Tryz.prog 111 [aPd t] (ab (typedB t)):=fun h=>by
  unfold formedB at h;simp only[Bool.and_eq_true] at h
  exact ref28_typed t hz h.2
 have h5:=fun h1 h2=>ref28_fits ps hs h1 t hz h2
 have hsp:checkF ps t=if (validF ps && formedB t)=false then 1 else if allB (resB ps) t=false then 13 else if typedB t=false then 14 else if fitB ps t=false then 9 else 0:=rfl
 have hok:formedB t=true→allB (resB ps) t=true→typedB t=true→okT ps t=true:=fun a b c=>by
  unfold okT;unfold formedB at a;unfold typedB at c
  simp only[Bool.and_eq_true] at a ⊢
  exact⟨⟨a.2,b⟩,c⟩
 generalize checkF ps t=r at *
 generalize okT ps t=O at *
 generalize validF ps=V at *
 generalize formedB t=F at *
 generalize allB (resB ps) t=R at *
 generalize typedB t=T at *
 generalize fitB ps t=S at *
 obtain⟨k,n,p,q,s,l⟩:=t
 simp only[aPd_mk] at *
 refine PC.enter 24 [.tmp 4] [2,3] Proofs.Tryz.func75 rfl rfl rfl rfl rfl (by simp) (AWp.of ?_);simp only[go_sem]
 refine Wk ?_
 refine Sd ?_
 refine(h1).val.use ?_;simp only[go_sem]
 refine Sd ?_
 refine Gc h2 ?_
 refine Sd ?_
 refine Wk ?_
 refine⟨fun h6 => ?_,fun h6 => ?_⟩
 ·refine Wk ?_
  refine ret_eq ?_;simp only[go_sem]
  rw[hsp,if_pos (by cases V <;> simp_all)]
 intro h7
 rw[if_neg (by rw[h6,h7];decide)] at hsp
 have h4:=h4 h7
 refine Wk ?_
 refine Sd ?_
 refine(h3).val.use ?_;simp only[go_sem]
 refine Wk ?_
 refine⟨fun h8 => ?_,fun h8 => ?_⟩
 ·refine Wk ?_
  refine ret_eq ?_;simp only[go_sem]
  rw[hsp,if_pos h8]
 rw[if_neg (by rw[h8];decide)] at hsp
 refine Wk ?_
 refine Sd ?_
 refine(h4).val.use ?_;simp only[go_sem]
 refine Wk ?_
 refine⟨fun h9 => ?_,fun h9 => ?_⟩
 ·refine Wk ?_
  refine ret_eq ?_;simp only[go_sem]
  rw[hsp,if_pos h9]
 rw[if_neg (by rw[h9];decide)] at hsp
 have h5:=h5 h6 (hok h7 h8 h9)
 refine Wk ?_
 refine Sd ?_
 refine(h5).val.use ?_;simp only[go_sem]
 refine Wk ?_
 refine⟨fun h10 => ?_,fun h10 => ?_⟩
 ·refine Wk ?_
  refine ret_eq ?_;simp only[go_sem]
  rw[hsp,if_pos h10]
 rw[if_neg (by rw[h10];decide)] at hsp
 refine Wk ?_
 refine ret_eq ?_;simp only[go_sem]
 rw[hsp]
end Go.AL
end
