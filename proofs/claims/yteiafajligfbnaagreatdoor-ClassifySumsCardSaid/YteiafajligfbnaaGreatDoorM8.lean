/- Texts of this claim's proof: WPe, WPg, WPh, WRf1, WRf2, WRf9. No condition. -/
import Derived.Test.YteiafajligfbnaaGreatDoorM7
import Derived.Test.YteiafajligfbnaaGreatDoorM6
import Derived.Test.YteiafajligfbnaaGreatDoorM4
section
namespace Go.AL
open Go Go.RowKit
set_option maxRecDepth 4000
theorem intF_le (ps:List Pr) (t:Pd):(intF ps t).1≤(intF ps t).2.1:=by
 induction t using Pd.ind with
 | _ k n p q s l ih =>
 rw[intF_mk]
 have hv:∀(v:Nat) (x:Pr),minL (valsF x v)≤maxL (valsF x v):=fun v x=>by
  have h:=valsF_mem x v (Nat.zero_le x.evs.length)
  have:=minL_le h;have:=le_maxL h;omega
 have h4:∀a b c d:Int,minL [a,b,c,d]≤maxL [a,b,c,d]:=fun a b c d=>by have:=(hull4 a b c d).1;omega
 have h2:∀a b:Bd,a.1≤a.2.1→b.1≤b.2.1→(bd2 k a b).1≤(bd2 k a b).2:=fun a b ha hb=>by
  unfold bd2
  split
  ·simp only;omega
  ·split
   ·simp only;omega
   ·split
    ·simp only;omega
    ·exact h4 _ _ _ _
 match l,ih with
 | [],_ =>
  simp only[List.map_nil,bdN,bdG]
  unfold bdL
  split
  ·exact Int.le_refl _
  ·split
   ·simp only[evN];split <;> omega
   ·split
    ·simp only[msgN];split <;> omega
    ·simp only[varLo,varHi];split
     ·exact hv _ _
     ·exact Int.le_refl _
 | [a],ih =>
  simp only[List.map_cons,List.map_nil,bdN]
  split
  ·exact h2 _ _ (ih a (by simp)) (ih a (by simp))
  ·exact Int.le_refl _
 | a :: b :: r,ih =>
  simp only[List.map_cons,bdN]
  split
  ·exact h2 _ _ (ih a (by simp)) (ih b (by simp))
  ·exact Int.le_refl _
theorem intF_ok (ps:List Pr) (t:Pd) (h:(intF ps t).2.2=true):(-1125899906842624≤(intF ps t).1∧(intF ps t).1≤1125899906842624) ∧ -1125899906842624≤(intF ps t).2.1∧(intF ps t).2.1≤1125899906842624:=by
 have hle:=intF_le ps t
 obtain⟨k,n,p,q,s,l⟩:=t
 rw[intF_mk] at *
 have hg:∀i:Int × Int,(bdG i).2.2=true → -1125899906842624≤(bdG i).1∧(bdG i).2.1≤1125899906842624:=fun i hi=>tooB_false hi
 match l with
 | []=>have:=hg _ h;simp only[List.map_nil,bdN] at *;omega
 | [a] =>
  simp only[List.map_cons,List.map_nil,bdN] at *
  split at h
  ·rename_i e;rw[if_pos e] at *;have:=hg _ h;omega
  ·cases h
 | a :: b :: r =>
  simp only[List.map_cons,bdN] at *
  split at h
  ·rename_i e;rw[if_pos e] at *;have:=hg _ h;omega
  ·cases h
def aIv (a b:Int):AV:=.agg [ai a,ai b]
def aBd (x:Bd):AV:=.tup [aIv x.1 x.2.1,ab x.2.2]
theorem quo_eq {a b:Int} (ha:0≤a) (ha':a≤1125899906842624) (hb:0<b):IntKind.i64.wrap (a.tdiv b)=a / b:=by
 rw[Int.tdiv_eq_ediv_of_nonneg ha]
 have h1:0≤a / b:=Int.ediv_nonneg ha (Int.le_of_lt hb)
 have h2:a / b≤a:=Int.ediv_le_self b ha
 exact wrap_i64 (by unfold I64;omega)
theorem mul_small {a b:Int} (hb:b ≠ 0) (h:¬1125899906842624 / absF b<absF a) : -1125899906842624≤a * b∧a * b≤1125899906842624:=by
 rw[absF_eq,absF_eq] at h
 have hb':(0:Int)<(b.natAbs:Int):=by omega
 have h1:(a.natAbs:Int) * (b.natAbs:Int)≤1125899906842624:=(Int.le_ediv_iff_mul_le hb').1 (by omega)
 have h2:((a * b).natAbs:Int)=(a.natAbs:Int) * (b.natAbs:Int):=by rw[Int.natAbs_mul];rfl
 omega
theorem mulW_eq {a b:Int} (h:I64 (a * b)):mulW a b=a * b:=wrap_i64 h
theorem predtype_abs (a:Int) (ha : -1125899906842625≤a∧a≤1125899906842625):PC Proofs.Tryz.prog 200 [ai a] (ai (absF a)):=by
 have hsp:absF a=if a < -a then -a else a:=rfl
 generalize absF a=x at *
 refine PC.enter 7 [.tmp 2] [] Proofs.Tryz.func200 rfl rfl rfl rfl rfl (by simp) (AWp.of ?_);simp only[go_sem]
 refine Wk ?_
 refine ret_eq ?_;simp only[go_sem]
 rw[hsp]
theorem predtype_product (a b:Int) (ha : -1125899906842625≤a∧a≤1125899906842625) (hb : -1125899906842625≤b∧b≤1125899906842625):PC Proofs.Tryz.prog 169 [ai a,ai b] (ai (timesF a b)):=by
 have h1:=predtype_abs a ha
 have h2:=predtype_abs b hb
 have hsp:timesF a b=if a=0∨b=0 then 0 else if 1125899906842624 / absF b<absF a then (if (decide (a<0) != decide (b<0))=true then -1125899906842625 else 1125899906842625) else a * b:=rfl
 have hms:=fun h=>mul_small (a:=a) (b:=b) h
 have hpos:b ≠ 0→0<absF b:=fun h=>by rw[absF_eq];omega
 have hquo:=fun h=>quo_eq (a:=1125899906842624) (b:=absF b) (by decide) (by decide) h
 have hmw:=fun h=>mulW_eq (a:=a) (b:=b) h
 generalize timesF a b=r at *
 generalize absF a=A at *
 generalize absF b=B at *
 refine PC.enter 29 [.tmp 4] [] Proofs.Tryz.func169 rfl rfl rfl rfl rfl (by simp) (AWp.of ?_);simp only[go_sem]
 refine Wk ?_
 refine⟨fun h3 => ?_,fun h3 => ?_⟩
 ·refine Wk ?_
  refine ret_eq ?_;simp only[go_sem]
  rw[hsp,if_pos h3]
 intro h3'
 rw[if_neg (by intro h;rcases h with h|h;exact h3 h;exact h3' h)] at hsp
 have hB:=hpos h3'
 have hq:=hquo hB
 refine Wk ?_
 refine Sd ?_
 refine(h1).val.use ?_;simp only[go_sem]
 refine Wk ?_
 refine Sd ?_
 refine(h2).val.use ?_;simp only[go_sem]
 refine W1 hq ?_
 refine⟨fun h4 => ?_,fun h4 => ?_⟩
 ·rw[if_pos h4] at hsp
  refine Wk ?_
  refine Wk ?_
  refine⟨fun h5 => ?_,fun h5 => ?_⟩
  ·refine Wk ?_
   refine ret_eq ?_;simp only[go_sem]
   rw[hsp,if_pos (by simpa using h5)]
  ·refine Wk ?_
   refine ret_eq ?_;simp only[go_sem]
   rw[hsp,if_neg (by simpa using h5)]
 rw[if_neg h4] at hsp
 have hm:=hms h3' h4
 refine Wk ?_
 refine ret_eq ?_;simp only[go_sem]
 rw[hsp,hmw (by unfold I64;omega)]
theorem ref28_times (a b:Int) (ha : -1125899906842625≤a∧a≤1125899906842625) (hb : -1125899906842625≤b∧b≤1125899906842625):PC Proofs.Tryz.prog 116 [ai a,ai b] (ai (timesF a b)):=by
 have hsp:timesF a b=if a=0∨b=0 then 0 else if 1125899906842624 / absF b<absF a then (if (decide (a<0) != decide (b<0))=true then -1125899906842625 else 1125899906842625) else a * b:=rfl
 have hms:=fun h=>mul_small (a:=a) (b:=b) h
 have hpos:b ≠ 0→0<absF b:=fun h=>by rw[absF_eq];omega
 have hquo:=fun h=>quo_eq (a:=1125899906842624) (b:=absF b) (by decide) (by decide) h
 have hmw:=fun h=>mulW_eq (a:=a) (b:=b) h
 have hA:absF a=if a < -a then -a else a:=rfl
 have hB:absF b=if b < -b then -b else b:=rfl
 generalize timesF a b=r at *
 generalize absF a=A at *
 generalize absF b=B at *
 refine PC.enter 33 [.tmp 4] [] Proofs.Tryz.func116 rfl rfl rfl rfl rfl (by simp) (AWp.of ?_);simp only[go_sem]
 refine Wk ?_
 refine⟨fun h3 => ?_,fun h3 => ?_⟩
 ·intro h3'
  rw[if_neg (by intro h;rcases h with h|h;exact h3 h;exact h3' h)] at hsp
  have hq:=hquo (hpos h3')
  repeat(first|((with_reducible refine AWp.ofC ?_ ?_);exact rfl;simp only[go_sem,← hA,← hB,hq])|((with_reducible refine an ?_ ?_);exact Au))
  refine⟨fun h4 => ?_,fun h4 => ?_⟩
  ·rw[if_pos h4] at hsp
   refine Wk ?_
   refine⟨fun h5 => ?_,fun h5 => ?_⟩
   ·refine Wk ?_
    refine ret_eq ?_;simp only[go_sem]
    rw[hsp,if_pos (by simpa using h5)]
   ·refine Wk ?_
    refine ret_eq ?_;simp only[go_sem]
    rw[hsp,if_neg (by simpa using h5)]
  rw[if_neg h4] at hsp
  have hm:=hms h3' h4
  refine Wk ?_
  refine ret_eq ?_;simp only[go_sem]
  rw[hsp,hmw (by unfold I64;omega)]
 have h0:a * b=0:=by
  by_cases e:a=0
  ·rw[e,Int.zero_mul]
  ·rw[h3 e,Int.mul_zero]
 rw[if_pos (by by_cases e:a=0;exact .inl e;exact .inr (h3 e))] at hsp
 refine Wk ?_
 refine ret_eq ?_;simp only[go_sem]
 rw[hsp,hmw (by unfold I64;omega),h0]
theorem ints_minL (l:List Int) (hl:l.length≤2000000) (h0:0<l.length):PC Proofs.Tryz.prog 198 [aInts l] (ai (minL l)):=by
 have hg0:=getD_map (f:=ai) h0
 have hm1:minL (l.take 1)=l[0]:=by cases l with|nil=>simp at h0|cons a r=>rfl
 have hfull:minL (l.take l.length)=minL l:=by rw[List.take_length]
 generalize minL l=res at *
 refine PC.enter 25 [.tmp 2] [] Proofs.Tryz.func198 rfl rfl rfl rfl rfl (by simp) (AWp.of ?_);simp only[go_sem]
 refine Wk ?_
 intro _
 refine W1 hg0 ?_
 refine AWp.block (AWp.loopN [3,4] [0] (fun m vs L=>∃i:Nat,1≤i∧i≤l.length∧m=l.length - i∧L=[]∧vs=[ai (minL (l.take i)),ai i]) (l.length - 1) ⟨1,by omega,by omega,rfl,rfl,by rw[hm1];rfl⟩ ?_)
 rintro m vs L - ⟨i,i1,i2,rfl,rfl,rfl⟩
 simp only[go_sem]
 refine Wk ?_
 refine⟨fun h3 => ?_,fun h3 => ?_⟩
 ·have hil:i<l.length:=by omega
  have hg:=getD_map (f:=ai) hil
  have ht:=minL_take (l:=l) (by omega) hil
  refine W1 hg ?_
  refine⟨_,List.Sublist.refl _,l.length - (i+1),by omega,i+1,by omega,by omega,rfl,rfl,?_⟩
  rw[ht];rfl
 ·refine Wk ?_
  refine ret_eq ?_;simp only[go_sem]
  rw[← hfull,show i=l.length by omega]
theorem ints_maxL (l:List Int) (hl:l.length≤2000000) (h0:0<l.length):PC Proofs.Tryz.prog 199 [aInts l] (ai (maxL l)):=by
 have hg0:=getD_map (f:=ai) h0
 have hm1:maxL (l.take 1)=l[0]:=by cases l with|nil=>simp at h0|cons a r=>rfl
 have hfull:maxL (l.take l.length)=maxL l:=by rw[List.take_length]
 generalize maxL l=res at *
 refine PC.enter 25 [.tmp 2] [] Proofs.Tryz.func199 rfl rfl rfl rfl rfl (by simp) (AWp.of ?_);simp only[go_sem]
 refine Wk ?_
 intro _
 refine W1 hg0 ?_
 refine AWp.block (AWp.loopN [3,4] [0] (fun m vs L=>∃i:Nat,1≤i∧i≤l.length∧m=l.length - i∧L=[]∧vs=[ai (maxL (l.take i)),ai i]) (l.length - 1) ⟨1,by omega,by omega,rfl,rfl,by rw[hm1];rfl⟩ ?_)
 rintro m vs L - ⟨i,i1,i2,rfl,rfl,rfl⟩
 simp only[go_sem]
 refine Wk ?_
 refine⟨fun h3 => ?_,fun h3 => ?_⟩
 ·have hil:i<l.length:=by omega
  have hg:=getD_map (f:=ai) hil
  have ht:=maxL_take (l:=l) (by omega) hil
  refine W1 hg ?_
  refine⟨_,List.Sublist.refl _,l.length - (i+1),by omega,i+1,by omega,by omega,rfl,rfl,?_⟩
  rw[ht];rfl
 ·refine Wk ?_
  refine ret_eq ?_;simp only[go_sem]
  rw[← hfull,show i=l.length by omega]
theorem predtype_hull (l:List Int) (hl:l.length≤2000000) (h0:0<l.length):PC Proofs.Tryz.prog 168 [aInts l] (aIv (minL l) (maxL l)):=by
 have h1:=ints_minL l hl h0
 have h2:=ints_maxL l hl h0
 generalize minL l=a at *
 generalize maxL l=b at *
 refine PC.enter 8 [.cell 2 158] [] Proofs.Tryz.func168 rfl rfl rfl rfl rfl (by simp) (AWp.of ?_);simp only[go_sem]
 refine Wk ?_
 intro b2
 refine Wk ?_
 refine Sd ?_
 refine(h1).val.use ?_;simp only[go_sem]
 refine Wk ?_
 refine Sd ?_
 refine(h2).val.use ?_;simp only[go_sem]
 refine Wk ?_
 refine ret_eq ?_;simp only[go_sem]
 rfl
theorem countP_take {l:List Ev} {f:Ev→Bool} {k:Nat} (hk:k<l.length):((l.take (k+1)).countP f:Int)=(l.take k).countP f+if f l[k]=true then 1 else 0:=by
 rw[List.take_succ_eq_append_getElem hk,List.countP_append,List.countP_cons,List.countP_nil]
 split <;> simp
theorem msgN_get {ps:List Pr} {p:Nat} (hp:p<ps.length) (q:Int):msgN ps p q=(ps[p].evs.countP (sentTo q):Int):=by unfold msgN;simp only[Int.toNat_natCast,List.getElem?_eq_getElem hp]
theorem evN_get {ps:List Pr} {p:Nat} (hp:p<ps.length):evN ps p=ps[p].evs.length:=by unfold evN;simp only[Int.toNat_natCast,List.getElem?_eq_getElem hp]
theorem predtype_messages (ps:List Pr) (hs:Sm ps) (p:Int) (hpb:isPB ps.length p=true) (q:Int):PC Proofs.Tryz.prog 196 [aTr ps,ai p,ai q] (ai (msgN ps p q)):=by
 obtain⟨p,rfl,hp⟩:=isPB_nat hpb
 have hm:=List.getElem_mem hp
 have hel:=hs.evs _ hm
 have hgp:=getD_map (f:=aPr) hp
 rw[msgN_get hp]
 refine PC.enter 34 [.tmp 6] [3,9] Proofs.Tryz.func196 rfl rfl rfl rfl rfl (by simp) (AWp.of ?_);simp only[go_sem]
 refine W1 hgp ?_
 refine AWp.range' ps[p].evs.length [7] [2,15,16] (fun k vs L=>L=[]∧vs=[ai ((ps[p].evs.take k).countP (sentTo q):Int)]) (by omega) rfl rfl rfl ⟨rfl,rfl⟩ ?_ ?_
 ·rintro k vs L' hk - ⟨rfl,rfl⟩
  have hge:=getD_map (f:=aEv) hk
  have hst:=countP_take (f:=sentTo q) hk
  have hcl:(ps[p].evs.take k).countP (sentTo q)≤ps[p].evs.length:=Nat.le_trans List.countP_le_length (by rw[List.length_take];omega)
  have hsp:sentTo q ps[p].evs[k]=(decide (ps[p].evs[k].kind=2) && decide (ps[p].evs[k].peer=q)):=rfl
  generalize ps[p].evs[k]=e at *
  simp only[go_sem]
  refine W1 hge ?_
  intro b9
  refine Wk ?_
  refine⟨fun h1 => ?_,fun h1 => ?_⟩
  ·intro h2
   refine Wk ?_
   refine⟨_,List.Sublist.refl _,rfl,?_⟩
   rw[hst,hsp,decide_eq_true h1,decide_eq_true h2]
   try rfl
  ·refine⟨_,List.Sublist.refl _,rfl,?_⟩
   rw[hst,hsp,if_neg (by simp only[Bool.and_eq_true,decide_eq_true_eq];exact fun h=>h1 h.1 h.2),Int.add_zero]
 ·rintro vs L' - ⟨rfl,rfl⟩
  simp only[go_sem]
  refine Wk ?_
  refine ret_eq ?_;simp only[go_sem]
theorem ref28_sent (ps:List Pr) (hs:Sm ps) (p:Int) (hpb:isPB ps.length p=true) (q:Int):PC Proofs.Tryz.prog 115 [aTr ps,ai p,ai q] (ai (msgN ps p q)):=by
 obtain⟨p,rfl,hp⟩:=isPB_nat hpb
 have hm:=List.getElem_mem hp
 have hel:=hs.evs _ hm
 have hgp:=getD_map (f:=aPr) hp
 rw[msgN_get hp]
 refine PC.enter 42 [.tmp 6] [3,9] Proofs.Tryz.func115 rfl rfl rfl rfl rfl (by simp) (AWp.of ?_);simp only[go_sem]
 refine Wk ?_
 refine AWp.block (AWp.count 8 ps[p].evs.length [7] [1,2,3] (fun k vs L=>L=[]∧vs=[ai ((ps[p].evs.take k).countP (sentTo q):Int)]) rfl rfl ⟨rfl,rfl⟩ ?_)
 rintro k vs L' hk - ⟨rfl,rfl⟩
 simp only[go_sem]
 refine W1 hgp ?_
 refine⟨fun h0 => ?_,fun h0 => ?_⟩
 ·have hk:k<ps[p].evs.length:=by omega
  have hge:=getD_map (f:=aEv) hk
  have hst:=countP_take (f:=sentTo q) hk
  have hcl:(ps[p].evs.take k).countP (sentTo q)≤ps[p].evs.length:=Nat.le_trans List.countP_le_length (by rw[List.length_take];omega)
  have hsp:sentTo q ps[p].evs[k]=(decide (ps[p].evs[k].kind=2) && decide (ps[p].evs[k].peer=q)):=rfl
  generalize ps[p].evs[k]=e at *
  refine W2 hgp hge ?_
  intro b9
  refine Wk ?_
  refine⟨fun h1 => ?_,fun h1 => ?_⟩
  ·intro h2
   refine Wk ?_
   refine⟨_,List.Sublist.refl _,rfl,?_⟩
   rw[hst,hsp,decide_eq_true h1,decide_eq_true h2]
   try rfl
  ·refine Wk ?_
   refine⟨_,List.Sublist.refl _,rfl,?_⟩
   rw[hst,hsp,if_neg (by simp only[Bool.and_eq_true,decide_eq_true_eq];exact fun h=>h1 h.1 h.2),Int.add_zero]
 ·refine Wk ?_
  refine ret_eq ?_;simp only[go_sem]
  rw[show k=ps[p].evs.length by omega,List.take_length]
theorem variable_values (x:Pr) (h1:x.vars.length≤1000000) (h2:x.evs.length≤1000000) (h3:∀e ∈ x.evs,e.asg.length≤1000000) (ha:AsgOk x) (v:Nat) (hv:v<x.vars.length) :
  PC Proofs.Tryz.prog 211 [aPr x,ai v] (aInts (valsF x v)):=by
 have hst:=variable_states x
 have hvl:=valsF_length x v
 refine PC.enter 20 [.tmp 4] [2,3,17] Proofs.Tryz.func211 rfl rfl rfl rfl rfl (by simp) (AWp.of ?_);simp only[go_sem]
 refine Wk ?_
 intro b5
 refine Sd ?_
 refine AWp.of ?_;simp only[go_sem]
 refine Sd ?_
 refine(hst).val.use ?_;simp only[go_sem]
 refine AWp.block (AWp.rangeFunc rfl [3,5] (stArgs x) (fun j L=>∃w Lw,L=Lw ++ [(b5,.row 28 1 [w] 1)]∧AppSt 3 1 (((valsF x v).take j).map ai) w Lw∧∀p ∈ Lw,p.1 ≠ b5) (fun _ _=>False)
  rfl (variable_states1 x h1 h2 h3 ha) (fun y hy=>by obtain⟨j,hj⟩:=List.getElem?_of_mem hy;unfold stArgs at hj;rw[List.getElem?_map,Option.map_eq_some_iff] at hj;obtain⟨_,_,rfl⟩:=hj;rfl) ⟨anil,[],rfl,.nil,by simp⟩ ?_ ?_ ?_)
 ·rintro j y L' l hy ⟨w,Lw,rfl,hA,hne⟩
  have hjl:j≤x.evs.length:=by
   have:=(List.getElem?_eq_some_iff.1 hy).1
   unfold stArgs at this;simp at this;omega
  rw[stArgs_get x j hjl] at hy
  cases hy
  have hvs:v<(stateAt x j).length:=by rw[stateAt_length];exact hv
  have hgs:=getD_map (f:=ai) hvs
  have hjv:j<(valsF x v).length:=by omega
  have hsu:((valsF x v).take (j+1)).map ai=((valsF x v).take j).map ai ++ [ai (stateAt x j)[v]]:=by
   rw[List.take_succ_eq_append_getElem hjv,List.map_append,valsF_get,List.getD_eq_getElem?_getD,List.getElem?_eq_getElem hvs];rfl
  have hyl:(((valsF x v).take j).map ai).length≤1000000:=by rw[List.length_map,List.length_take];omega
  rw[hsu]
  generalize ((valsF x v).take j).map ai=ys at *
  rcases hA.inv with ⟨e1,rfl,rfl⟩|⟨b,cap,rfl,rfl⟩
  ·simp only[go_sem]
   refine Sd ?_
   refine AWp.of ?_;simp only[go_sem]
   refine AWp.block ?_
   repeat(first|(with_reducible refine AWp.seq ?_)|(with_reducible refine AWp.block ?_))
   refine AWp.mix mixed [1,2,3,4] (.step 0 (.step 5 (.step 6 (.step 7 .done .done) .done) .done) (.step 5 (.step 0 (.step 6 (.step 7 .done .done) .done) .done) .done)) (by kernel_rfl) ?_;simp only[go_sem,hgs]
   refine Sd ?_
   intro b' cap' hlt _
   have n5:¬b5=b':=by omega
   simp only[go_sem,n5]
   refine Sd ?_
   refine⟨_,List.Sublist.refl _,_,[(b',.row 3 1 [_] cap')],rfl,?_,?_⟩
   ·rw[e1];exact .row _ [_] _
   ·intro p hp;simp only[List.mem_singleton] at hp;subst hp;exact fun e=>n5 e.symm
  ·have n1:¬b=b5:=hne (b,_) List.mem_cons_self
   have n2:¬b5=b:=fun e=>n1 e.symm
   simp only[go_sem]
   refine Sd ?_
   refine AWp.of ?_;simp only[go_sem,n1,n2]
   refine AWp.block ?_
   repeat(first|(with_reducible refine AWp.seq ?_)|(with_reducible refine AWp.block ?_))
   refine AWp.mix mixed [1,2,3,4] (.step 0 (.step 5 (.step 6 (.step 7 .done .done) .done) .done) (.step 5 (.step 0 (.step 6 (.step 7 .done .done) .done) .done) .done)) (by kernel_rfl) ?_;simp only[go_sem,hgs,n1,n2]
   refine Sd ?_
   intro b' cap' n5 _
   simp only[go_sem,n5]
   refine Sd ?_
   refine⟨_,List.Sublist.refl _,_,[(b',.row 3 1 (ys ++ [_]) cap')],rfl,?_,?_⟩
   ·have:=AppSt.row (t:=3) (k:=1) b' (ys ++ [ai (stateAt x j)[v]]) cap'
    simpa using this
   ·intro p hp;simp only[List.mem_singleton] at hp;subst hp;exact fun e=>n5 e.symm
 ·rintro L' ⟨w,Lw,rfl,hA,hne⟩
  have hl:(stArgs x).length=x.evs.length+1:=by unfold stArgs;simp
  rw[hl,← hvl,List.take_length] at hA
  rcases hA.inv with ⟨e1,rfl,rfl⟩|⟨b,cap,rfl,rfl⟩
  ·exfalso
   have:=congrArg List.length e1
   rw[List.length_map,hvl] at this
   cases this
  ·have n1:¬b=b5:=hne (b,_) List.mem_cons_self
   have n2:¬b5=b:=fun e=>n1 e.symm
   simp only[go_sem]
   refine W2 n1 n2 ?_
   refine ret_view [true] ?_;simp only[go_sem]
   exact Vw.ofLs (if_pos rfl) (by simp)
 ·rintro e L' h
  exact h.elim
theorem variable_index1 (v:ByteArray × Int) (s:ByteArray):PC Proofs.Tryz.prog 215 [aVar v,.rp 1 [astr s] 0 0] (ab (nmB s v)):=by
 generalize hb:nmB s v=b
 refine PC.enter 8 [.tmp 3] [2] Proofs.Tryz.func215 rfl rfl rfl rfl rfl (by simp) (AWp.of ?_);simp only[go_sem]
 refine Wk ?_
 refine ret_eq ?_;simp only[go_sem]
 rw[← hb];rfl
theorem variable_index (x:Pr) (h1:x.vars.length≤1000000) (s:ByteArray):PC Proofs.Tryz.prog 214 [aPr x,astr s] (ai (varIx x.vars s)):=by
 have hfi:PC Proofs.Tryz.prog 43 [aVars x.vars,.clo 215 [.rp 1 [astr s] 0 0]] (ai (varIx x.vars s)) :=
  vars_indexFunc x.vars h1 (.clo 215 [.rp 1 [astr s] 0 0]) rfl (nmB s) fun v _=>(variable_index1 v s).clo
 generalize varIx x.vars s=r at *
 refine PC.enter 9 [.tmp 4] [2,3] Proofs.Tryz.func214 rfl rfl rfl rfl rfl (by simp) (AWp.of ?_);simp only[go_sem]
 refine Wk ?_
 refine Sd ?_
 refine(hfi).val.use ?_;simp only[go_sem]
 refine Wk ?_
 refine ret_eq ?_;simp only[go_sem]
theorem variable_find (ps:List Pr) (hs:Sm ps) (hv:validF ps=true) (p:Nat) (hp:p<ps.length) (s:ByteArray) (hk:¬varIx ps[p].vars s<0):PC Proofs.Tryz.prog 210 [aTr ps,ai p,astr s] (.tup [ai (varIx ps[p].vars s),ai 0]):=by
 have hval:=trace_Valid ps hs
 rw[hv] at hval
 have hm:=List.getElem_mem hp
 have hgp:=getD_map (f:=aPr) hp
 have hix:=variable_index ps[p] (hs.vars _ hm) s
 generalize varIx ps[p].vars s=r at *
 refine PC.enter 33 [.tmp 6,.tmp 7] [3] Proofs.Tryz.func210 rfl rfl rfl rfl rfl (by simp) (AWp.of ?_);simp only[go_sem]
 refine Wk ?_
 refine Sd ?_
 refine(hval).val.use ?_;simp only[go_sem]
 have h2:¬((p:Int)<0):=by omega
 have h3:¬((ps.length:Int)≤p):=by omega
 refine W3 h2 h3 hgp ?_
 refine Sd ?_
 refine(hix).val.use ?_;simp only[go_sem,hgp]
 refine W1 hk ?_
 refine ret_eq ?_;simp only[go_sem]
theorem variable_Range (ps:List Pr) (hs:Sm ps) (hv:validF ps=true) (p:Int) (hpb:isPB ps.length p=true) (s:ByteArray) (hkn:knownB ps p s=true) :
  PC Proofs.Tryz.prog 197 [aTr ps,ai p,astr s] (.tup [ai (varLo ps p s),ai (varHi ps p s),ai 0]):=by
 obtain⟨p,rfl,hp⟩:=isPB_nat hpb
 have hm:=List.getElem_mem hp
 have hgp:=getD_map (f:=aPr) hp
 have hk:ps[p].vars.any (nmB s)=true:=by unfold knownB at hkn;simpa only [Int.toNat_natCast,List.getElem?_eq_getElem hp] using hkn
 have hng:¬varIx ps[p].vars s<0:=fun h=>by rw[(varIx_neg _ _).1 h] at hk;cases hk
 have hfd:=variable_find ps hs hv p hp s hng
 have hlt:(varIx ps[p].vars s).toNat<ps[p].vars.length:=by
  unfold varIx at hng ⊢
  cases hf:ps[p].vars.findIdx? (nmB s) with
  | none=>rw[hf] at hng;exact absurd (by decide) hng
  | some i=>rw[List.findIdx?_eq_some_iff_getElem] at hf;obtain⟨hi,_⟩:=hf;exact hi
 have hvals:=variable_values ps[p] (hs.vars _ hm) (hs.evs _ hm) (hs.asg _ hm) (asg_of_valid hv p hp) _ hlt
 have hvl:=valsF_length ps[p] (varIx ps[p].vars s).toNat
 have hel:=hs.evs _ hm
 have hmn:=ints_minL (valsF ps[p] (varIx ps[p].vars s).toNat) (by omega) (by omega)
 have hmx:=ints_maxL (valsF ps[p] (varIx ps[p].vars s).toNat) (by omega) (by omega)
 have e1:varLo ps p s=minL (valsF ps[p] (varIx ps[p].vars s).toNat):=by unfold varLo;simp only[Int.toNat_natCast,List.getElem?_eq_getElem hp]
 have e2:varHi ps p s=maxL (valsF ps[p] (varIx ps[p].vars s).toNat):=by unfold varHi;simp only[Int.toNat_natCast,List.getElem?_eq_getElem hp]
 rw[e1,e2]
 have hix:((varIx ps[p].vars s).toNat:Int)=varIx ps[p].vars s:=by omega
 rw[hix] at hvals
 generalize minL (valsF ps[p] (varIx ps[p].vars s).toNat)=lo at *
 generalize maxL (valsF ps[p] (varIx ps[p].vars s).toNat)=hi at *
 generalize valsF ps[p] (varIx ps[p].vars s).toNat=vl at *
 generalize varIx ps[p].vars s=ix at *
 refine PC.enter 32 [.tmp 6,.tmp 7,.tmp 8] [3] Proofs.Tryz.func197 rfl rfl rfl rfl rfl (by simp) (AWp.of ?_);simp only[go_sem]
 refine Wk ?_
 refine Sd ?_
 refine(hfd).val.use ?_;simp only[go_sem]
 refine W1 hgp ?_
 refine Sd ?_
 refine(hvals).val.use ?_;simp only[go_sem,hgp]
 refine Wk ?_
 refine Sd ?_
 refine(hmn).val.use ?_;simp only[go_sem]
 refine Wk ?_
 refine Sd ?_
 refine(hmx).val.use ?_;simp only[go_sem]
 refine Wk ?_
 refine ret_eq ?_;simp only[go_sem]
theorem predtype_great (a b:Int):PC Proofs.Tryz.prog 167 [aIv a b] (ab (tooB a b)):=by
 generalize hb:tooB a b=r
 unfold aIv
 refine PC.enter 11 [.tmp 2] [1] Proofs.Tryz.func167 rfl rfl rfl rfl rfl (by simp) (AWp.of ?_);simp only[go_sem]
 refine Wk ?_
 refine ret_eq ?_;simp only[go_sem]
 rw[← hb];rfl
theorem res_leaf {ps:List Pr} {k n p q:Int} {s:ByteArray} {l:List Pd} (h:resB ps (.mk k n p q s l)=true):(k=2→isPB ps.length p=true∧knownB ps p s=true)∧(k=3→isPB ps.length p=true)∧(k=4→isPB ps.length p=true∧isPB ps.length q=true∧p ≠ q):=by
 simp only[resB] at h
 refine⟨fun e => ?_,fun e => ?_,fun e => ?_⟩
 ·rw[if_pos e] at h;simp only[Bool.and_eq_true] at h;exact⟨h.1.1,h.2⟩
 ·rw[if_neg (by omega),if_pos e] at h;simp only[Bool.and_eq_true] at h;exact h.1.1
 ·rw[if_neg (by omega),if_neg (by omega),if_pos e] at h;simp only[Bool.and_eq_true,Bool.not_eq_true',decide_eq_false_iff_not] at h;exact⟨h.1.1.1,h.1.1.2,h.1.2⟩
theorem predtype_leaf (ps:List Pr) (hs:Sm ps) (hv:validF ps=true) (k n p q:Int) (s:ByteArray) (hk:1≤k∧k≤4) (hr:resB ps (.mk k n p q s [])=true) :
  PC Proofs.Tryz.prog 166 [aTr ps,aPd (.mk k n p q s [])] (aIv (bdL ps k n p q s).1 (bdL ps k n p q s).2):=by
 obtain⟨r2,r3,r4⟩:=res_leaf hr
 have hsp:bdL ps k n p q s=if k=1 then (n,n) else if k=3 then (0,evN ps p) else if k=4 then (0,msgN ps p q) else (varLo ps p s,varHi ps p s):=rfl
 have hh:=predtype_hull [n] (by simp) (by simp)
 have hms:=fun h=>predtype_messages ps hs p h q
 have hrg:=fun h1 h2=>variable_Range ps hs hv p h1 s h2
 have e1:minL [n]=n:=rfl
 have e2:maxL [n]=n:=rfl
 rw[e1,e2] at hh
 simp only[aInts,List.map_cons,List.map_nil] at hh
 generalize bdL ps k n p q s=i at *
 unfold aIv at *
 have hk4:k=1∨k=3∨k=4∨k=2:=by omega
 rcases hk4 with h|h|h|h
 ·rw[if_pos h] at hsp
  refine PC.enter 49 [.cell 4 158] [2,3,14] Proofs.Tryz.func166 rfl rfl rfl rfl rfl (by simp) (AWp.of ?_);simp only[go_sem]
  refine Wk ?_
  intro b4
  repeat(first|((with_reducible refine AWp.ofC ?_ ?_);exact rfl;simp only[go_sem,(eq_true h)])|((with_reducible refine an ?_ ?_);exact Au))
  refine Sd ?_
  refine(hh).val.use ?_;simp only[go_sem]
  refine Wk ?_
  refine ret_eq ?_;simp only[go_sem]
  rw[hsp]
 ·have h1:¬k=1:=by omega
  rw[if_neg h1,if_pos h] at hsp
  obtain⟨p,rfl,hp⟩:=isPB_nat (r3 h)
  have hgp:=getD_map (f:=aPr) hp
  rw[evN_get hp] at hsp
  refine PC.enter 49 [.cell 4 158] [2,3,14] Proofs.Tryz.func166 rfl rfl rfl rfl rfl (by simp) (AWp.of ?_);simp only[go_sem]
  refine Wk ?_
  intro b4
  repeat(first|((with_reducible refine AWp.ofC ?_ ?_);exact rfl;simp only[go_sem,(eq_true h),h1,hgp])|((with_reducible refine an ?_ ?_);exact Au))
  refine ret_eq ?_;simp only[go_sem]
  rw[hsp]
 ·have h1:¬k=1:=by omega
  have h3:¬k=3:=by omega
  rw[if_neg h1,if_neg h3,if_pos h] at hsp
  have hms:=hms (r4 h).1
  refine PC.enter 49 [.cell 4 158] [2,3,14] Proofs.Tryz.func166 rfl rfl rfl rfl rfl (by simp) (AWp.of ?_);simp only[go_sem]
  refine Wk ?_
  intro b4
  repeat(first|((with_reducible refine AWp.ofC ?_ ?_);exact rfl;simp only[go_sem,(eq_true h),h1,h3])|((with_reducible refine an ?_ ?_);exact Au))
  refine Sd ?_
  refine(hms).val.use ?_;simp only[go_sem]
  refine Wk ?_
  refine ret_eq ?_;simp only[go_sem]
  rw[hsp]
 ·have h1:¬k=1:=by omega
  have h3:¬k=3:=by omega
  have h4:¬k=4:=by omega
  rw[if_neg h1,if_neg h3,if_neg h4] at hsp
  have hrg:=hrg (r2 h).1 (r2 h).2
  refine PC.enter 49 [.cell 4 158] [2,3,14] Proofs.Tryz.func166 rfl rfl rfl rfl rfl (by simp) (AWp.of ?_);simp only[go_sem]
  refine Wk ?_
  intro b4
  refine W3 h1 h3 h4 ?_
  refine Sd ?_
  refine(hrg).val.use ?_;simp only[go_sem]
  refine Wk ?_
  refine ret_eq ?_;simp only[go_sem]
  rw[hsp]
set_option maxHeartbeats 4000000 in
theorem predtype_bounds (ps:List Pr) (hs:Sm ps) (hv:validF ps=true) (t:Pd):szF t≤1000000→okT ps t=true→t.kind≤8→PC Proofs.Tryz.prog 132 [aTr ps,aPd t] (aBd (intF ps t)):=by
 induction t using Pd.ind with
 | _ k n p q s l ih =>
 intro hz ht hk
 obtain⟨o1,o2,o3,o4⟩:=okT_sub ht
 obtain⟨hpl,_⟩:=loc_len o1
 simp only[Pd.kind] at hk
 have hch:=child_le ht (show k≤12 by omega)
 have hsz:szF (.mk k n p q s l)=szL l+1:=by rw[szF]
 have hll:=szL_len l
 have hsp:=intF_mk ps k n p q s l
 generalize intF ps (.mk k n p q s l)=I at *
 rcases parts_cases k with ⟨e,hc⟩|⟨e,hc⟩|⟨e,hc⟩|e
 ·obtain rfl:=len0 (l:=l) (by omega)
  have hlf:=predtype_leaf ps hs hv k n p q s (by omega) o2
  simp only[List.map_nil,bdN,bdG] at hsp
  have hgr:=predtype_great (bdL ps k n p q s).1 (bdL ps k n p q s).2
  generalize bdL ps k n p q s=i at *
  obtain⟨lo,hi⟩:=i
  unfold aBd aIv at *
  simp only[aPd_mk,List.map_nil] at *
  generalize tooB lo hi=g at *
  refine PC.enter 116 [.cell 4 158,.tmp 5] [2,3,6,7,75] Proofs.Tryz.func132 rfl rfl rfl rfl rfl (by simp) (AWp.of ?_);simp only[go_sem]
  refine Wk ?_
  intro b4
  refine Wk ?_
  refine⟨fun h0 => ?_,fun h0 => ?_⟩
  ·refine Wk ?_
   refine Sd ?_
   refine(hlf).val.use ?_;simp only[go_sem]
   refine Wk ?_
   intro b6 _
   refine AWp.seq ?_
   repeat(first|(with_reducible refine AWp.seq ?_)|(with_reducible refine AWp.block ?_))
   refine AWp.mix mixed [0,1,2,3,5] (.step 4 .done .done) (by kernel_rfl) ?_;simp only[go_sem]
   refine Sd ?_
   refine Gc hgr ?_
   refine Sd ?_
   refine Wk ?_
   refine ret_eq ?_;simp only[go_sem]
   rw[hsp]
  ·exact absurd rfl h0
 ·obtain⟨a,rfl⟩:=len1 (l:=l) (by omega)
  obtain⟨c1,c2⟩:=hch a (by simp)
  have hza:=szL_mem (l:=[a]) (x:=a) (by simp)
  have hca:=ih a (by simp) (by omega) c1 c2
  have hok:=intF_ok ps a
  simp only[List.map_cons,List.map_nil,bdN] at hsp
  generalize intF ps a=A at *
  obtain⟨a1,a2,a3⟩:=A
  obtain⟨ka,na,pa,qa,sa,la⟩:=a
  have k5:k=5:=by omega
  simp only[bd2,if_pos k5,bdG] at hsp
  have hgr:=predtype_great (-a2) (-a1)
  generalize tooB (-a2) (-a1)=g at *
  unfold aBd aIv at *
  simp only[aPd_mk,List.map_cons,List.map_nil] at *
  refine PC.enter 116 [.cell 4 158,.tmp 5] [2,3,6,7,75] Proofs.Tryz.func132 rfl rfl rfl rfl rfl (by simp) (AWp.of ?_);simp only[go_sem]
  refine Wk ?_
  intro b4
  refine Wk ?_
  intro _
  refine AWp.seq ?_
  repeat(first|(with_reducible refine AWp.seq ?_)|(with_reducible refine AWp.block ?_))
  refine AWp.mix mixed [0,1,2,3,4,5,6,7,8,11] (.step 9 (.step 10 .done .done) .done) (by kernel_rfl) ?_;simp only[go_sem]
  refine Sd ?_
  refine Gc hca ?_
  refine Sd ?_
  intro b7 h47
  clear ih o4 hch
  refine Wk ?_
  intro b9 h49
  have n1:¬b4=b9:=by omega
  have n2:¬b9=b4:=by omega
  refine W2 n1 n2 ?_
  intro _
  refine W2 n1 n2 ?_
  refine⟨fun h1 => ?_,fun h1 => ?_⟩
  ·refine W2 n1 n2 ?_
   refine ret_eq ?_;simp only[go_sem]
   simp only[n1,n2,go_sem]
   rw[hsp,if_neg (by rw[h1];decide)]
  rw[if_pos h1] at hsp
  have hok:=hok h1
  refine W2 n1 n2 ?_
  intro b11 m1 m2
  have n3:¬b4=b11:=by omega
  have n4:¬b11=b4:=by omega
  have n5:¬b9=b11:=by omega
  have n6:¬b11=b9:=by omega
  repeat(first|((with_reducible refine AWp.ofC ?_ ?_);exact rfl;simp only[go_sem,(eq_true k5),n1,n2,n3,n4,n5,n6])|((with_reducible refine an ?_ ?_);exact Au))
  refine AWp.view [true] [(11,.rp 2 [.agg [ai (-a2),ai (-a1)]] 0 0)] (LVw.refl _) (fun p hp=>by simp only[List.mem_singleton] at hp;subst hp;exact Vw.ofLp (if_pos rfl)) ?_
  simp only[go_sem]
  refine AWp.seq ?_
  repeat(first|(with_reducible refine AWp.seq ?_)|(with_reducible refine AWp.block ?_))
  refine AWp.mix mixed [0,1,2,3,5] (.step 4 .done .done) (by kernel_rfl) ?_;simp only[go_sem,n1,n2]
  refine Sd ?_
  refine GCall.use (ab g) (fun _=>⟨At,(hgr).val.use ⟨rfl,rfl⟩⟩) ?_;simp only[go_sem,n1,n2]
  refine Sd ?_
  refine W2 n1 n2 ?_
  refine ret_eq ?_;simp only[go_sem]
  simp only[n1,n2,go_sem]
  rw[hsp]
 ·obtain⟨a,b,rfl⟩:=len2 (l:=l) (by omega)
  have k5:¬k=5:=by omega
  obtain⟨c1,c2⟩:=hch a (by simp)
  obtain⟨c3,c4⟩:=hch b (by simp)
  have hza:=szL_mem (l:=[a,b]) (x:=a) (by simp)
  have hzb:=szL_mem (l:=[a,b]) (x:=b) (by simp)
  have hca:=ih a (by simp) (by omega) c1 c2
  have hcc:=ih b (by simp) (by omega) c3 c4
  have hoka:=intF_ok ps a
  have hokb:=intF_ok ps b
  simp only[List.map_cons,List.map_nil,bdN] at hsp
  clear ih o4 hch
  generalize intF ps a=A at *
  generalize intF ps b=B at *
  obtain⟨a1,a2,a3⟩:=A
  obtain⟨e1,e2,e3⟩:=B
  obtain⟨ka,na,pa,qa,sa,la⟩:=a
  obtain⟨kb,nb,pb,qb,sb,lb⟩:=b
  unfold aBd aIv at *
  simp only[aPd_mk,List.map_cons,List.map_nil] at *
  refine PC.enter 116 [.cell 4 158,.tmp 5] [2,3,6,7,75] Proofs.Tryz.func132 rfl rfl rfl rfl rfl (by simp) (AWp.of ?_);simp only[go_sem]
  refine Wk ?_
  intro b4
  refine Wk ?_
  intro _
  refine AWp.seq ?_
  repeat(first|(with_reducible refine AWp.seq ?_)|(with_reducible refine AWp.block ?_))
  refine AWp.mix mixed [0,1,2,3,4,5,6,7,8,11] (.step 9 (.step 10 .done .done) .done) (by kernel_rfl) ?_;simp only[go_sem]
  refine Sd ?_
  refine Gc hca ?_
  refine Sd ?_
  intro b7 h47
  refine Wk ?_
  intro b9 h49
  have n1:¬b4=b9:=by omega
  have n2:¬b9=b4:=by omega
  refine W2 n1 n2 ?_
  refine⟨fun _ => ?_,fun h=>absurd rfl h⟩
  repeat(first|(with_reducible refine AWp.seq ?_)|(with_reducible refine AWp.block ?_))
  refine AWp.mix mixed [0,1,2,3,4,5,6,7,8,10] (.step 9 .done .done) (by kernel_rfl) ?_;simp only[go_sem,n1,n2]
  refine Sd ?_
  refine GCall.use (.tup [.agg [ai e1,ai e2],ab e3]) (fun _=>⟨At,(hcc).val.use ⟨rfl,rfl⟩⟩) ?_;simp only[go_sem,n1,n2]
  refine Sd ?_
  refine W2 n1 n2 ?_
  refine⟨fun h1 => ?_,fun h1 => ?_⟩
  ·refine W2 n1 n2 ?_
   refine ret_eq ?_;simp only[go_sem]
   simp only[n1,n2,go_sem]
   rw[hsp,if_neg (by rintro⟨x1,x2⟩;rw[x1,x2] at h1;simp at h1)]
  intro h2
  rw[if_pos ⟨h1,h2⟩] at hsp
  have hoka:=hoka h1
  have hokb:=hokb h2
  refine W2 n1 n2 ?_
  intro b11 m1 m2
  have n3:¬b4=b11:=by omega
  have n4:¬b11=b4:=by omega
  have n5:¬b9=b11:=by omega
  have n6:¬b11=b9:=by omega
  have fin:∀(lo hi:Int),bd2 k (a1,a2,a3) (e1,e2,e3)=(lo,hi)→I=(lo,hi,!tooB lo hi):=fun lo hi h=>by rw[hsp,h];rfl
  clear hsp
  by_cases k6:k=6
  ·have fin:=fin (a1+e1) (a2+e2) (by unfold bd2;rw[if_neg k5,if_pos k6])
   have hgr:=predtype_great (a1+e1) (a2+e2)
   generalize tooB (a1+e1) (a2+e2)=g at *
   unfold aIv at hgr
   repeat(first|((with_reducible refine AWp.ofC ?_ ?_);exact rfl;simp only[go_sem,(eq_true k6),k5,n1,n2,n3,n4,n5,n6])|((with_reducible refine an ?_ ?_);exact Au))
   refine AWp.view [true] [(11,.rp 2 [.agg [ai (a1+e1),ai (a2+e2)]] 0 0)] (LVw.refl _) (fun p hp=>by simp only[List.mem_singleton] at hp;subst hp;exact Vw.ofLp (if_pos rfl)) ?_
   simp only[go_sem]
   refine AWp.seq ?_
   repeat(first|(with_reducible refine AWp.seq ?_)|(with_reducible refine AWp.block ?_))
   refine AWp.mix mixed [0,1,2,3,5] (.step 4 .done .done) (by kernel_rfl) ?_;simp only[go_sem,n1,n2]
   refine Sd ?_
   refine GCall.use (ab g) (fun _=>⟨At,(hgr).val.use ⟨rfl,rfl⟩⟩) ?_;simp only[go_sem,n1,n2]
   refine Sd ?_
   refine W2 n1 n2 ?_
   refine ret_eq ?_;simp only[go_sem]
   simp only[n1,n2,go_sem]
   rw[fin]
  by_cases k7:k=7
  ·have fin:=fin (a1 - e2) (a2 - e1) (by unfold bd2;rw[if_neg k5,if_neg k6,if_pos k7])
   have hgr:=predtype_great (a1 - e2) (a2 - e1)
   generalize tooB (a1 - e2) (a2 - e1)=g at *
   unfold aIv at hgr
   repeat(first|((with_reducible refine AWp.ofC ?_ ?_);exact rfl;simp only[go_sem,(eq_true k7),k5,k6,n1,n2,n3,n4,n5,n6])|((with_reducible refine an ?_ ?_);exact Au))
   refine AWp.view [true] [(11,.rp 2 [.agg [ai (a1 - e2),ai (a2 - e1)]] 0 0)] (LVw.refl _) (fun p hp=>by simp only[List.mem_singleton] at hp;subst hp;exact Vw.ofLp (if_pos rfl)) ?_
   simp only[go_sem]
   refine AWp.seq ?_
   repeat(first|(with_reducible refine AWp.seq ?_)|(with_reducible refine AWp.block ?_))
   refine AWp.mix mixed [0,1,2,3,5] (.step 4 .done .done) (by kernel_rfl) ?_;simp only[go_sem,n1,n2]
   refine Sd ?_
   refine GCall.use (ab g) (fun _=>⟨At,(hgr).val.use ⟨rfl,rfl⟩⟩) ?_;simp only[go_sem,n1,n2]
   refine Sd ?_
   refine W2 n1 n2 ?_
   refine ret_eq ?_;simp only[go_sem]
   simp only[n1,n2,go_sem]
   rw[fin]
  have hp1:=predtype_product a1 e1 (by omega) (by omega)
  have hp2:=predtype_product a1 e2 (by omega) (by omega)
  have hp3:=predtype_product a2 e1 (by omega) (by omega)
  have hp4:=predtype_product a2 e2 (by omega) (by omega)
  have fin:=fin _ _ (by unfold bd2;rw[if_neg k5,if_neg k6,if_neg k7])
  dsimp only at fin
  generalize timesF a1 e1=t1 at *
  generalize timesF a1 e2=t2 at *
  generalize timesF a2 e1=t3 at *
  generalize timesF a2 e2=t4 at *
  have hh:=predtype_hull [t1,t2,t3,t4] (by simp) (by simp)
  generalize minL [t1,t2,t3,t4]=lo at *
  generalize maxL [t1,t2,t3,t4]=hi at *
  have hgr:=predtype_great lo hi
  generalize tooB lo hi=g at *
  simp only[aInts,List.map_cons,List.map_nil] at hh
  unfold aIv at hgr hh
  repeat(first|((with_reducible refine AWp.ofC ?_ ?_);exact rfl;simp only[go_sem,k5,k6,k7,n1,n2,n3,n4,n5,n6])|((with_reducible refine an ?_ ?_);exact Au))
  refine AWp.view [false,true] [(9,.rp 2 [.agg [ai e1,ai e2]] 0 0)] (LVw.refl _) (fun p hp=>by simp only[List.mem_singleton] at hp;subst hp;exact Vw.ofLp (if_pos rfl)) ?_
  simp only[go_sem]
  repeat(first|(with_reducible refine AWp.seq ?_)|(with_reducible refine AWp.block ?_))
  refine AWp.mix mixed [0,1,2,3,4,5,6,7,8,9,10,11,12,13,14,15,16,17,18,19] (.step 20 (.step 21 (.step 22 .done .done) .done) .done) (by kernel_rfl) ?_;simp only[go_sem,n3,n4]
  refine Sd ?_
  refine GCall.use (ai t1) (fun _=>⟨At,(hp1).val.use ⟨rfl,rfl⟩⟩) ?_;simp only[go_sem,n3,n4]
  refine Sd ?_
  refine GCall.use (ai t2) (fun _=>⟨At,(hp2).val.use ⟨rfl,rfl⟩⟩) ?_;simp only[go_sem,n3,n4]
  refine Sd ?_
  refine GCall.use (ai t3) (fun _=>⟨At,(hp3).val.use ⟨rfl,rfl⟩⟩) ?_;simp only[go_sem,n3,n4]
  refine Sd ?_
  refine GCall.use (ai t4) (fun _=>⟨At,(hp4).val.use ⟨rfl,rfl⟩⟩) ?_;simp only[go_sem,n3,n4]
  refine Sd ?_
  refine Sd ?_
  refine(hh).val.use ?_;simp only[go_sem,n3,n4]
  refine Sd ?_
  refine AWp.view [true] [(11,.rp 2 [.agg [ai lo,ai hi]] 0 0)] (LVw.refl _) (fun p hp=>by simp only[List.mem_singleton] at hp;subst hp;exact Vw.ofLp (if_pos rfl)) ?_
  simp only[go_sem]
  refine AWp.seq ?_
  repeat(first|(with_reducible refine AWp.seq ?_)|(with_reducible refine AWp.block ?_))
  refine AWp.mix mixed [0,1,2,3,5] (.step 4 .done .done) (by kernel_rfl) ?_;simp only[go_sem]
  refine Sd ?_
  refine Gc hgr ?_
  refine Sd ?_
  refine Wk ?_
  refine ret_eq ?_;simp only[go_sem]
  rw[fin]
 ·omega
theorem ref12_letter (n:Int):PC Proofs.Tryz.prog 156 [au8 n] (ab (letterI n)):=by
 refine PC.enter 17 [.tmp 2] [] Proofs.Tryz.func156 rfl rfl rfl rfl rfl (by simp) (AWp.of ?_);simp only[go_sem]
 refine Wk ?_
 refine ret_eq ?_;simp only[go_sem]
 unfold letterI;rw[Bool.or_comm]
theorem ref12_digit (n:Int):PC Proofs.Tryz.prog 157 [au8 n] (ab (digitI n)):=by
 refine PC.enter 9 [.tmp 2] [] Proofs.Tryz.func157 rfl rfl rfl rfl rfl (by simp) (AWp.of ?_);simp only[go_sem]
 refine Wk ?_
 refine ret_eq ?_;simp only[go_sem]
 rfl
theorem ref12_value (n:Int):PC Proofs.Tryz.prog 118 [ai n] (ab (inI n (-1073741824) 1073741824)):=by
 refine PC.enter 9 [.tmp 2] [] Proofs.Tryz.func118 rfl rfl rfl rfl rfl (by simp) (AWp.of ?_);simp only[go_sem]
 refine Wk ?_
 refine ret_eq ?_;simp only[go_sem]
 rfl
def nameCh (s:ByteArray) (i:Nat):Bool:=letterI (sb s i) || digitI (sb s i) || decide (sb s i=95)
theorem nameOk_of {s:ByteArray} (h1:1≤s.size) (h2:s.size≤16) (h3:letterI (sb s 0)=true):nameOk s=(List.range s.size).all (nameCh s):=by
 unfold nameOk
 rw[decide_eq_true (by omega),decide_eq_true h2,h3];rfl
theorem nameOk_not {s:ByteArray} (h:s.size<1∨16<s.size∨letterI (sb s 0)=false):nameOk s=false:=by
 unfold nameOk
 rcases h with h|h|h
 ·rw[decide_eq_false (by omega)];rfl
 ·rw[decide_eq_false (show ¬s.size≤16 by omega)];simp
 ·rw[h];simp
theorem ref12_Name (s:ByteArray):PC Proofs.Tryz.prog 117 [astr s] (ab (nameOk s)):=by
 refine PC.enter 42 [.tmp 2] [] Proofs.Tryz.func117 rfl rfl rfl rfl rfl (by simp) (AWp.of ?_);simp only[go_sem]
 repeat(first|((with_reducible refine AWp.ofC ?_ ?_);exact rfl;simp only[go_sem,size_empty])|((with_reducible refine an ?_ ?_);exact Au))
 refine Sd ?_
 refine GCall.use (ab (letterI (sb s 0))) (fun _=>⟨At,(ref12_letter _).val.use ⟨rfl,rfl⟩⟩) ?_;simp only[go_sem]
 refine Wk ?_
 refine⟨fun ht => ?_,fun h1 => ?_⟩
 ·refine Wk ?_
  refine ret_eq ?_;simp only[go_sem]
  rw[nameOk_not]
  rcases ht with (h|h)|h
  ·exact .inl (by omega)
  ·exact .inr (.inl (by omega))
  ·exact .inr (.inr h)
 ·intro h2 h3
  refine Wk ?_
  refine AWp.block (AWp.loopN [3] [0] (fun m vs L=>∃k:Nat,vs=[ai k]∧1≤k∧k≤s.size∧m=s.size - k∧L=[]∧∀i,i<k→nameCh s i=true) (s.size - 1) ?_ ?_)
  ·exact⟨1,rfl,by omega,by omega,rfl,rfl,fun i hi=>by rw[show i=0 by omega];unfold nameCh;rw[h3];rfl⟩
  rintro m vs L - ⟨k,rfl,k1,k2,rfl,rfl,hI⟩
  simp only[go_sem]
  refine Wk ?_
  refine⟨fun h4 => ?_,fun h4 => ?_⟩
  ·refine Wk ?_
   refine(ref12_letter _).val.use ?_
   simp only[go_sem]
   refine Sd ?_
   refine GCall.use (ab (digitI (sb s k))) (fun _=>⟨At,(ref12_digit _).val.use ⟨rfl,rfl⟩⟩) ?_;simp only[go_sem]
   refine Wk ?_
   refine⟨fun h5 h6 h7 => ?_,fun h5 => ?_⟩
   ·refine Wk ?_
    refine ret_eq ?_;simp only[go_sem]
    rw[nameOk_of (by omega) (by omega) h3]
    congr 2;symm
    rw[List.all_eq_false]
    refine⟨k,List.mem_range.2 (by omega),?_⟩
    unfold nameCh
    have h8:¬sb s k=95:=h7
    rw[show letterI (sb s k)=false from h5,h6,decide_eq_false h8];decide
   ·refine Wk ?_
    refine⟨_,List.Sublist.refl _,s.size - (k+1),by omega,k+1,rfl,by omega,by omega,rfl,rfl,fun i hi => ?_⟩
    by_cases e:i=k
    ·subst e
     unfold nameCh
     cases h6:letterI (sb s i)
     ·cases h7:digitI (sb s i)
      ·have h8:=h5 h6 h7
       have h9:sb s i=95:=h8
       rw[decide_eq_true h9];rfl
      ·rfl
     ·rfl
    ·exact hI i (by omega)
  ·refine Wk ?_
   refine ret_eq ?_;simp only[go_sem]
   rw[nameOk_of (by omega) (by omega) h3]
   congr 2;symm
   rw[List.all_eq_true]
   exact fun i hi=>hI i (by have:=List.mem_range.1 hi;omega)
theorem ref12_headH (ps:List Pr) (hs:Smh ps) (p:Nat) (hp:p<ps.length):PC Proofs.Tryz.prog 78 [aTr ps,ai p] (ai (procF ps p)):=by
 have hm:=List.getElem_mem hp
 have hl:=hs.procs
 have hvl:=hs.vars _ hm
 have hpf:procF ps p=if !nameOk ps[p].name || (ps.take p).any (fun y=>decide (y.name=ps[p].name)) then 13 else if 8<ps[p].vars.length then 5 else
   if fstF (varF ps[p].vars) ps[p].vars.length ≠ 0 then fstF (varF ps[p].vars) ps[p].vars.length else if 64<ps[p].evs.length then 5 else 0:=by
  unfold procF;rw[List.getElem?_eq_getElem hp]
 have htk:∀(q:Nat) (hq:q<ps.length),q<p→(∃(y:Pr),y ∈ ps.take p∧y.name=ps[q].name):=fun q hq hlt=>⟨ps[q],by
  refine List.mem_of_getElem? (i:=q) ?_
  rw[List.getElem?_take,if_pos hlt,List.getElem?_eq_getElem hq],rfl⟩
 refine PC.enter 81 [.tmp 4] [2,5] Proofs.Tryz.func78 rfl rfl rfl rfl rfl (by simp) (AWp.of ?_);simp only[go_sem]
 repeat(first|((with_reducible refine AWp.ofC ?_ ?_);exact rfl;simp only[go_sem,getD_map hp])|((with_reducible refine an ?_ ?_);exact Au))
 intro b5
 refine Wk ?_
 refine Sd ?_
 refine(ref12_Name _).val.use ?_;simp only[go_sem]
 refine Wk ?_
 refine⟨fun h1 => ?_,fun h1 => ?_⟩
 ·refine Wk ?_
  refine ret_eq ?_;simp only[go_sem]
  rw[hpf,if_pos (by rw[h1];rfl)]
 ·refine Wk ?_
  refine AWp.block (AWp.count 6 p [] [1,2,5] (fun q vs L=>L=[]∧∀(r:Nat) (hr:r<ps.length),r<q→ps[r].name ≠ ps[p].name) rfl rfl ⟨rfl,by omega⟩ ?_)
  rintro q vs L hq - ⟨rfl,hI⟩
  simp only[go_sem]
  refine Wk ?_
  refine⟨fun h2 => ?_,fun h2 => ?_⟩
  ·have hqp:q<ps.length:=by omega
   refine AWp.seq (AWp.block (AWp.seq ?_))
   refine AWp.drawn mixed 8 (by kernel_rfl) ?_;simp only[go_sem,getD_map hqp]
   refine Sd ?_
   refine Wk ?_
   refine⟨fun h3 => ?_,fun h3 => ?_⟩
   ·refine Wk ?_
    refine ret_eq ?_;simp only[go_sem]
    obtain⟨y,hy,e⟩:=htk q hqp (by omega)
    rw[hpf,if_pos]
    rw[Bool.or_eq_true]
    exact .inr (List.any_eq_true.2 ⟨y,hy,decide_eq_true (e.trans h3)⟩)
   ·refine Wk ?_
    refine⟨_,List.Sublist.refl _,rfl,fun r hr hrq => ?_⟩
    by_cases e:r=q
    ·subst e;exact h3
    ·exact hI r hr (by omega)
  ·have hno:(ps.take p).any (fun y=>decide (y.name=ps[p].name))=false:=by
    rw[List.any_eq_false]
    intro y hy
    obtain⟨r,hr,rfl⟩:=List.getElem_of_mem hy
    have hr':r<p:=by rw[List.length_take] at hr;omega
    rw[List.getElem_take]
    simpa using hI r (by omega) (by omega)
   have hpf:procF ps p=if 8<ps[p].vars.length then 5 else if fstF (varF ps[p].vars) ps[p].vars.length ≠ 0 then fstF (varF ps[p].vars) ps[p].vars.length else if 64<ps[p].evs.length then 5 else 0:=by
    rw[hpf,if_neg (by rw[h1,hno];decide)]
   refine Wk ?_
   refine Wk ?_
   refine⟨fun h4 => ?_,fun h4 => ?_⟩
   ·refine Wk ?_
    refine ret_eq ?_;simp only[go_sem]
    rw[hpf,if_pos (by omega)]
   ·have hpf:procF ps p=if fstF (varF ps[p].vars) ps[p].vars.length ≠ 0 then fstF (varF ps[p].vars) ps[p].vars.length else if 64<ps[p].evs.length then 5 else 0:=by
     rw[hpf,if_neg (by omega)]
    refine Wk ?_
    generalize ps[p].vars=vrs at *
    refine AWp.block (AWp.count 7 vrs.length [] [5] (fun i vs L=>L=[]∧∀j,j<i→varF vrs j=0) rfl rfl ⟨rfl,by omega⟩ ?_)
    rintro i vs L hi - ⟨rfl,hV⟩
    simp only[go_sem]
    refine Wk ?_
    refine⟨fun h5 => ?_,fun h5 => ?_⟩
    ·have hiv:i<vrs.length:=by omega
     have e3:vrs[i]?=some vrs[i]:=List.getElem?_eq_getElem hiv
     have hvf:varF vrs i=if !nameOk vrs[i].1 || (vrs.take i).any (fun w=>decide (w.1=vrs[i].1)) then 13 else if !inI vrs[i].2 (-1073741824) 1073741824 then 2 else 0:=by simp only[varF,e3]
     have hret:varF vrs i ≠ 0→procF ps p=varF vrs i:=fun h=>by
      rw[hpf,fstF_hit hiv hV h,if_pos h]
     repeat(first|((with_reducible refine AWp.ofC ?_ ?_);exact rfl;simp only[go_sem,getD_map hiv])|((with_reducible refine an ?_ ?_);exact Au))
     refine Sd ?_
     refine(ref12_Name _).val.use ?_;simp only[go_sem]
     refine Wk ?_
     refine⟨fun h6 => ?_,fun h6 => ?_⟩
     ·refine Wk ?_
      refine ret_eq ?_;simp only[go_sem]
      have hv13:varF vrs i=13:=by rw[hvf,if_pos (by rw[h6];rfl)]
      rw[hret (by rw[hv13];decide),hv13]
     ·refine Wk ?_
      refine AWp.block (AWp.count 8 i [] [5,7] (fun j vs L=>L=[]∧∀(r:Nat) (hr:r<vrs.length),r<j→vrs[r].1 ≠ vrs[i].1) rfl rfl ⟨rfl,by omega⟩ ?_)
      rintro j vs L hj - ⟨rfl,hJ⟩
      simp only[go_sem]
      refine Wk ?_
      refine⟨fun h7 => ?_,fun h7 => ?_⟩
      ·have hjv:j<vrs.length:=by omega
       refine AWp.seq (AWp.block (AWp.seq ?_))
       refine AWp.drawn mixed 12 (by kernel_rfl) ?_;simp only[go_sem,getD_map hiv,getD_map hjv]
       refine Sd ?_
       refine Wk ?_
       refine⟨fun h8 => ?_,fun h8 => ?_⟩
       ·refine Wk ?_
        refine ret_eq ?_;simp only[go_sem]
        have hv13:varF vrs i=13:=by
         rw[hvf,if_pos]
         rw[Bool.or_eq_true]
         refine .inr (List.any_eq_true.2 ⟨vrs[j],?_,decide_eq_true h8⟩)
         refine List.mem_of_getElem? (i:=j) ?_
         rw[List.getElem?_take,if_pos (by omega),List.getElem?_eq_getElem hjv]
        rw[hret (by rw[hv13];decide),hv13]
       ·refine Wk ?_
        refine⟨_,List.Sublist.refl _,rfl,fun r hr hrq => ?_⟩
        by_cases e:r=j
        ·subst e;exact h8
        ·exact hJ r hr (by omega)
      ·have hno:(vrs.take i).any (fun w=>decide (w.1=vrs[i].1))=false:=by
        rw[List.any_eq_false]
        intro y hy
        obtain⟨r,hr,rfl⟩:=List.getElem_of_mem hy
        have hr':r<i:=by rw[List.length_take] at hr;omega
        rw[List.getElem_take]
        simpa using hJ r (by omega) (by omega)
       repeat(first|((with_reducible refine AWp.ofC ?_ ?_);exact rfl;simp only[go_sem,getD_map hiv])|((with_reducible refine an ?_ ?_);exact Au))
       refine Sd ?_
       refine(ref12_value _).val.use ?_;simp only[go_sem]
       refine Wk ?_
       refine⟨fun h8 => ?_,fun h8 => ?_⟩
       ·refine Wk ?_
        refine ret_eq ?_;simp only[go_sem]
        have hv2:varF vrs i=2:=by rw[hvf,if_neg (by rw[h6,hno];decide),if_pos (by rw[h8];rfl)]
        rw[hret (by rw[hv2];decide),hv2]
       ·refine Wk ?_
        refine⟨_,List.Sublist.refl _,rfl,fun r hr => ?_⟩
        by_cases e:r=i
        ·subst e;rw[hvf,if_neg (by rw[h6,hno];decide),if_neg (by rw[h8];decide)]
        ·exact hV r (by omega)
    ·have hz:=fstF_none (f:=varF vrs) (n:=vrs.length) fun r hr=>hV r (by omega)
     refine Wk ?_
     refine Wk ?_
     refine⟨fun h6 => ?_,fun h6 => ?_⟩
     ·refine Wk ?_
      refine ret_eq ?_;simp only[go_sem]
      rw[hpf,hz,if_neg (by simp),if_pos (by omega)]
     ·refine Wk ?_
      refine ret_eq ?_;simp only[go_sem]
      rw[hpf,hz,if_neg (by simp),if_neg (by omega)]
theorem ref12_head (ps:List Pr) (hs:Sm ps) (p:Nat) (hp:p<ps.length):PC Proofs.Tryz.prog 78 [aTr ps,ai p] (ai (procF ps p)):=ref12_headH ps hs.h p hp
theorem ref12_Find (ps:List Pr) (hs:Sm ps) (kind m:Int):PC Proofs.Tryz.prog 83 [aTr ps,ai kind,ai m] (aEid (findIn (evIds ps) kind m)):=by
 have hl:=hs.procs
 refine PC.enter 52 [.cell 6 89] [3,9] Proofs.Tryz.func83 rfl rfl rfl rfl rfl (by simp) (AWp.of ?_);simp only[go_sem]
 intro b6
 refine Wk ?_
 refine AWp.block (AWp.count 7 ps.length [] [1,2,3,6] (fun p vs L=>L=[(b6,.row 89 2 [aEid (0,0)] 1)]∧∀(j:Nat) (y:Eid × Ev),j<off ps p→(evIds ps)[j]?=some y→¬(y.2.kind=kind∧y.2.msg=m)) rfl rfl ⟨by simp [aEid],by simp [off]⟩ ?_)
 rintro p vs L hp - ⟨rfl,hI⟩
 simp only[go_sem]
 refine Wk ?_
 refine⟨fun h1 => ?_,fun h1 => ?_⟩
 ·have hpp:p<ps.length:=by omega
  have hel:=hs.evs _ (List.getElem_mem hpp)
  refine Wk ?_
  refine AWp.block (AWp.count 8 ps[p].evs.length [] [1,2,3,6,7] (fun i vs L=>L=[(b6,.row 89 2 [aEid (0,0)] 1)]∧∀(j:Nat) (y:Eid × Ev),j<off ps p+i→(evIds ps)[j]?=some y→¬(y.2.kind=kind∧y.2.msg=m)) rfl rfl ⟨rfl,hI⟩ ?_)
  rintro i vs L hi - ⟨rfl,hJ⟩
  simp only[go_sem]
  repeat(first|((with_reducible refine AWp.ofC ?_ ?_);exact rfl;simp only[go_sem,getD_map hpp])|((with_reducible refine an ?_ ?_);exact Au))
  refine⟨fun h2 => ?_,fun h2 => ?_⟩
  ·have hie:i<ps[p].evs.length:=by omega
   have hev:=evIds_get hpp hie
   refine Sd ?_
   refine AWp.of ?_;simp only[go_sem,getD_map hpp,getD_map hie]
   refine Sd ?_
   intro b9 _
   refine Wk ?_
   refine⟨fun h3 h4 => ?_,fun h3 => ?_⟩
   ·refine Wk ?_
    have hf:=findIn_hit hev hJ ⟨h3,h4⟩
    rw[hf]
    refine ret_eq ?_
    simp only[go_sem]
   ·refine Wk ?_
    refine⟨_,List.Sublist.refl _,rfl,fun j y hj hy => ?_⟩
    by_cases e:j=off ps p+i
    ·subst e;rw[hev] at hy;cases hy;exact fun h=>h3 h.1 h.2
    ·exact hJ j y (by omega) hy
  ·refine Wk ?_
   refine⟨_,List.Sublist.refl _,rfl,fun j y hj hy=>hJ j y ?_ hy⟩
   rw[off_succ hpp] at hj;omega
 ·refine Wk ?_
  have hf:findIn (evIds ps) kind m=(0,0):=findIn_none fun x hx=>by
   obtain⟨j,hj⟩:=List.getElem?_of_mem hx
   refine hI j x ?_ hj
   have h2:=(List.getElem?_eq_some_iff.1 hj).1
   rw[evIds_length] at h2
   have:p=ps.length:=by omega
   rw[this];exact h2
  rw[hf]
  refine ret_eq ?_
  simp only[go_sem]
theorem ref12_At (ps:List Pr) (hs:Sm ps) (p:Nat) (hp:p<ps.length) (i:Nat) (hi:i<ps[p].evs.length):PC Proofs.Tryz.prog 119 [aTr ps,aEid (p,(i:Int)+1)] (aEv ps[p].evs[i]):=by
 have hl:=hs.procs
 have hel:=hs.evs _ (List.getElem_mem hp)
 have e1:((i:Int)+1 - 1).toNat=i:=by omega
 have hgi:=getD_map (f:=aEv) hi
 refine PC.enter 17 [.cell 4 60] [2,3] Proofs.Tryz.func119 rfl rfl rfl rfl rfl (by simp) (AWp.of ?_);simp only[go_sem]
 intro b4
 refine AWp.seq ?_
 repeat(first|(with_reducible refine AWp.seq ?_)|(with_reducible refine AWp.block ?_))
 refine AWp.mix mixed [0,1,2,3,4,5,6,7,8,9,10,11] (.step 12 .done .done) (by kernel_rfl) ?_;simp only[go_sem,getD_map hp,e1,hgi]
 refine Sd ?_
 refine Wk ?_
 refine ret_eq ?_
 simp only[go_sem]
theorem ref12_form (ps:List Pr) (hs:Sm ps) (p:Nat) (hp:p<ps.length) (i:Nat) (hi:i<ps[p].evs.length):PC Proofs.Tryz.prog 79 [aTr ps,ai p,ai i] (ai (evF ps p i)):=by
 have hm:=List.getElem_mem hp
 have hl:=hs.procs
 have hel:=hs.evs _ hm
 have hvl:=hs.vars _ hm
 have hal:=hs.asg _ hm _ (List.getElem_mem hi)
 have hi':((i:Int) - 1).toNat<ps[p].evs.length:=by omega
 have hgi:=getD_map (f:=aEv) hi
 have hgi':=getD_map (f:=aEv) hi'
 have ex:evF ps p i=if !formedI ps.length p ps[p].evs[i] then 3 else if !inI ps[p].evs[i].time 0 1099511627776 || decide (ps[p].evs[i].time<lastT ps[p].evs i) then 11 else if 8<ps[p].evs[i].asg.length then 5 else fstF (asgF ps[p].vars.length ps[p].evs[i].asg) ps[p].evs[i].asg.length:=by
  simp only[evF,List.getElem?_eq_getElem hp,List.getElem?_eq_getElem hi]
 have hlt:lastT ps[p].evs i=if i=0 then 0 else ps[p].evs[((i:Int) - 1).toNat].time:=by
  unfold lastT
  by_cases h:i=0
  ·rw[if_pos h,if_pos h]
  ·have e:((i:Int) - 1).toNat=i - 1:=by omega
   rw[if_neg h,if_neg h,List.getElem?_eq_getElem (show i - 1<ps[p].evs.length by omega)]
   simp only[e]
 generalize lastT ps[p].evs i=lt at *
 generalize ps[p].evs[i]=e at *
 generalize ps[p].evs[((i:Int) - 1).toNat]=e' at *
 refine PC.enter 147 [.tmp 6] [3,7,9] Proofs.Tryz.func79 rfl rfl rfl rfl rfl (by simp) (AWp.of ?_);simp only[go_sem]
 repeat(first|((with_reducible refine AWp.ofC ?_ ?_);exact rfl;simp only[go_sem,getD_map hp,hgi])|((with_reducible refine an ?_ ?_);exact Au))
 intro b7
 refine AWp.cut [1,2,3,7] (fun vs L=>L=[]∧formedI ps.length p e=true∧vs=[ai p,ai i,.rp 1 [aTr ps] 0 0,.rp 5 [aEv e] 0 0]) ?_ ?_
 ·refine Wk ?_
  refine⟨fun h1 => ?_,fun h1 => ?_⟩
  ·refine Wk ?_
   refine⟨fun h2 => ?_,fun h2 h3 => ?_⟩
   ·refine Wk ?_
    refine ret_eq ?_;simp only[go_sem]
    rw[ex,if_pos]
    unfold formedI
    rw[if_pos h1]
    rcases h2 with h2|h2
    ·rw[decide_eq_false h2];rfl
    ·rw[decide_eq_false h2,Bool.and_false];rfl
   ·refine⟨_,List.Sublist.refl _,rfl,?_⟩
    unfold formedI
    rw[if_pos h1,decide_eq_true (by omega),decide_eq_true (by omega)];rfl
  ·refine Wk ?_
   refine⟨fun h2 => ?_,fun h2 => ?_⟩
   ·refine Wk ?_
    refine ret_eq ?_;simp only[go_sem]
    rw[ex,if_pos]
    unfold formedI inI
    rw[if_neg h1]
    by_cases h3:e.kind=2∨e.kind=3
    ·rw[if_pos h3,Bool.not_eq_true',← Bool.not_eq_true]
     intro h
     simp only[Bool.and_eq_true,decide_eq_true_eq,Bool.not_eq_true',decide_eq_false_iff_not] at h
     omega
    ·rw[if_neg h3];rfl
   ·intro h3 h4 h5 h6 h7
    refine⟨_,List.Sublist.refl _,rfl,?_⟩
    unfold formedI inI
    have hk:e.kind=2∨e.kind=3:=by
     by_cases h:e.kind=2
     ·exact .inl h
     ·exact .inr (h2 h)
    rw[if_neg h1,if_pos hk]
    simp only[Bool.and_eq_true,decide_eq_true_eq,Bool.not_eq_true',decide_eq_false_iff_not]
    omega
 ·rintro vs L - ⟨rfl,hfm,rfl⟩
  have ex:evF ps p i=if !inI e.time 0 1099511627776 || decide (e.time<lt) then 11 else if 8<e.asg.length then 5 else fstF (asgF ps[p].vars.length e.asg) e.asg.length:=by
   rw[ex,if_neg (by rw[hfm];decide)]
  simp only[go_sem]
  refine AWp.seq (AWp.seq ?_)
  refine AWp.drawn mixed 27 (by kernel_rfl) ?_;simp only[go_sem,getD_map hp,hgi']
  refine Sd ?_
  refine Wk ?_
  refine⟨fun h1 => ?_,fun h1 => ?_⟩
  ·refine Wk ?_
   refine ret_eq ?_;simp only[go_sem]
   rw[ex,if_pos]
   unfold inI
   rw[Bool.or_eq_true,Bool.not_eq_true',← Bool.not_eq_true,decide_eq_true_eq,Bool.and_eq_true,decide_eq_true_eq,decide_eq_true_eq]
   by_cases h0:i=0
   ·refine .inl fun h => ?_
    rcases h1 with (h1|h1)|h1
    ·omega
    ·omega
    ·have:=h1.1;omega
   ·rw[if_neg h0] at hlt
    rcases h1 with (h1|h1)|h1
    ·exact .inl fun h=>by omega
    ·exact .inl fun h=>by omega
    ·exact .inr (by rw[hlt];exact h1.2)
  ·intro h2 h3
   have ex:evF ps p i=if 8<e.asg.length then 5 else fstF (asgF ps[p].vars.length e.asg) e.asg.length:=by
    rw[ex,if_neg]
    unfold inI
    rw[Bool.or_eq_true,Bool.not_eq_true',← Bool.not_eq_true,decide_eq_true_eq,Bool.and_eq_true,decide_eq_true_eq,decide_eq_true_eq]
    rintro(h|h)
    ·exact h ⟨by omega,by omega⟩
    ·rw[hlt] at h
     split at h
     ·omega
     ·exact h3 (by omega) h
   refine Wk ?_
   refine Wk ?_
   refine⟨fun h4 => ?_,fun h4 => ?_⟩
   ·refine Wk ?_
    refine ret_eq ?_;simp only[go_sem]
    rw[ex,if_pos (by omega)]
   ·have ex:evF ps p i=fstF (asgF ps[p].vars.length e.asg) e.asg.length:=by rw[ex,if_neg (by omega)]
    refine Wk ?_
    generalize e.asg=al at *
    generalize hnv:ps[p].vars.length=nv at *
    refine AWp.block (AWp.count 8 al.length [] [1,3,7] (fun k vs L=>L=[]∧∀j,j<k→asgF nv al j=0) rfl rfl ⟨rfl,by omega⟩ ?_)
    rintro k vs L hk - ⟨rfl,hI⟩
    simp only[go_sem]
    refine Wk ?_
    refine⟨fun h5 => ?_,fun h5 => ?_⟩
    ·have hka:k<al.length:=by omega
     have e3:al[k]?=some al[k]:=List.getElem?_eq_getElem hka
     have hvf:asgF nv al k=if !inI al[k].1 0 ((nv:Int) - 1) || !inI al[k].2 (-1073741824) 1073741824 then 2 else if (al.take k).any (fun b=>decide (b.1=al[k].1)) then 8 else 0:=by simp only[asgF,e3]
     have hret:asgF nv al k ≠ 0→evF ps p i=asgF nv al k:=fun h=>by rw[ex,fstF_hit hka hI h]
     have hgk:=getD_map (f:=aAsg) hka
     refine W1 hgk ?_
     intro b9
     refine AWp.seq (AWp.seq ?_)
     refine AWp.drawn mixed 20 (by kernel_rfl) ?_;simp only[go_sem,getD_map hp,hnv]
     refine Sd ?_
     refine GCall.use (ab (inI al[k].2 (-1073741824) 1073741824)) (fun _=>⟨At,(ref12_value _).val.use ⟨rfl,rfl⟩⟩) ?_;simp only[go_sem]
     refine Wk ?_
     refine⟨fun h6 => ?_,fun h6 => ?_⟩
     ·refine Wk ?_
      refine ret_eq ?_;simp only[go_sem]
      have hv2:asgF nv al k=2:=by
       rw[hvf,if_pos]
       rw[Bool.or_eq_true,Bool.not_eq_true',← Bool.not_eq_true,Bool.not_eq_true']
       rcases h6 with (h6|h6)|h6
       ·exact .inl fun h=>by unfold inI at h;rw[Bool.and_eq_true,decide_eq_true_eq,decide_eq_true_eq] at h;omega
       ·exact .inl fun h=>by unfold inI at h;rw[Bool.and_eq_true,decide_eq_true_eq,decide_eq_true_eq] at h;omega
       ·exact .inr h6
      rw[hret (by rw[hv2];decide),hv2]
     ·intro h7 h8
      have hc:¬((!inI al[k].1 0 ((nv:Int) - 1) || !inI al[k].2 (-1073741824) 1073741824)=true):=by
       rw[h8,Bool.not_true,Bool.or_false]
       unfold inI
       rw[Bool.not_eq_true',← Bool.not_eq_true,Bool.and_eq_true,decide_eq_true_eq,decide_eq_true_eq]
       omega
      refine Wk ?_
      refine AWp.block (AWp.count 10 k [] [1,3,7,8,9] (fun j vs L=>L=[]∧∀(r:Nat) (hr:r<al.length),r<j→al[r].1 ≠ al[k].1) rfl rfl ⟨rfl,by omega⟩ ?_)
      rintro j vs L hj - ⟨rfl,hJ⟩
      simp only[go_sem]
      refine Wk ?_
      refine⟨fun h9 => ?_,fun h9 => ?_⟩
      ·have hja:j<al.length:=by omega
       have hgj:=getD_map (f:=aAsg) hja
       refine AWp.seq (AWp.block (AWp.seq ?_))
       refine AWp.drawn mixed 8 (by kernel_rfl) ?_;simp only[go_sem,hgj]
       refine Sd ?_
       refine Wk ?_
       refine⟨fun h10 => ?_,fun h10 => ?_⟩
       ·refine Wk ?_
        refine ret_eq ?_;simp only[go_sem]
        have hv8:asgF nv al k=8:=by
         rw[hvf,if_neg hc,if_pos]
         refine List.any_eq_true.2 ⟨al[j],?_,decide_eq_true h10⟩
         refine List.mem_of_getElem? (i:=j) ?_
         rw[List.getElem?_take,if_pos (by omega),List.getElem?_eq_getElem hja]
        rw[hret (by rw[hv8];decide),hv8]
       ·refine Wk ?_
        refine⟨_,List.Sublist.refl _,rfl,fun r hr hrq => ?_⟩
        by_cases e:r=j
        ·subst e;exact h10
        ·exact hJ r hr (by omega)
      ·have hno:(al.take k).any (fun b=>decide (b.1=al[k].1))=false:=by
        rw[List.any_eq_false]
        intro y hy
        obtain⟨r,hr,rfl⟩:=List.getElem_of_mem hy
        have hr':r<k:=by rw[List.length_take] at hr;omega
        rw[List.getElem_take]
        simpa using hJ r (by omega) (by omega)
       refine Wk ?_
       refine⟨_,List.Sublist.refl _,rfl,fun r hr => ?_⟩
       by_cases e:r=k
       ·subst e;rw[hvf,if_neg hc,if_neg (by rw[hno];decide)]
       ·exact hI r (by omega)
    ·refine Wk ?_
     refine ret_eq ?_;simp only[go_sem]
     rw[ex,fstF_none fun r hr=>hI r (by omega)]
end Go.AL
end
