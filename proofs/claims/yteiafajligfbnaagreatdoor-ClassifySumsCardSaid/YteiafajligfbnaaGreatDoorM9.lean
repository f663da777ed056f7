/- Texts of this claim's proof: WPj, WPt, WRf3, WDn, WRf4, WRf5, WRf6, WRf7. No condition. -/
import Derived.Test.YteiafajligfbnaaGreatDoorM8
import Derived.Test.YteiafajligfbnaaGreatDoorM7
import Derived.Test.YteiafajligfbnaaGreatDoorM4
section
namespace Go.AL
open Go Go.RowKit
set_option maxRecDepth 4000
theorem ref28_Range (ps:List Pr) (hs:Sm ps) (hv:validF ps=true) (p:Nat) (hp:p<ps.length) (v:Nat) (hvv:v<ps[p].vars.length) :
  PC Proofs.Tryz.prog 114 [aTr ps,ai p,ai v] (.tup [ai (minL (valsF ps[p] v)),ai (maxL (valsF ps[p] v))]):=by
 have hm:=List.getElem_mem hp
 have hel:=hs.evs _ hm
 have hasg:=hs.asg _ hm
 have hao:=asg_of_valid hv p hp
 have hdi:=dis_of_valid hv p hp
 have hgp:=getD_map (f:=aPr) hp
 generalize ps[p]=x at *
 have hgv:=getD_map (f:=aVar) hvv
 have hvl:=valsF_length x v
 have hs0:(valsF x v)[0]'(by omega)=x.vars[v].2:=by
  rw[valsF_get,List.getD_eq_getElem?_getD];simp [stateAt,hvv]
 have h1:(valsF x v).take 1=[x.vars[v].2]:=by rw[List.take_succ_eq_append_getElem (by omega),hs0];rfl
 have hfull:(valsF x v).take (x.evs.length+1)=valsF x v:=by rw[← hvl,List.take_length]
 refine PC.enter 74 [.tmp 6,.tmp 7] [3] Proofs.Tryz.func114 rfl rfl rfl rfl rfl (by simp) (AWp.of ?_);simp only[go_sem]
 refine W2 hgp hgv ?_
 refine AWp.block (AWp.count 10 x.evs.length [8,9] [1,2,3] (fun k vs L=>L=[]∧vs=[ai (minL ((valsF x v).take (k+1))),ai (maxL ((valsF x v).take (k+1)))]) rfl rfl ⟨rfl,by rw[h1];rfl⟩ ?_)
 rintro k vs L' hk - ⟨rfl,rfl⟩
 simp only[go_sem]
 refine W1 hgp ?_
 refine⟨fun h0 => ?_,fun h0 => ?_⟩
 ·have hk:k<x.evs.length:=by omega
  have hge:=getD_map (f:=aEv) hk
  have hme:=List.getElem_mem hk
  have hal:=hasg _ hme
  have hst:=stateAt_succ x k hk
  have htn:=minL_take (l:=valsF x v) (k:=k+1) (by omega) (by omega)
  have htx:=maxL_take (l:=valsF x v) (k:=k+1) (by omega) (by omega)
  rw[valsF_get] at htn htx
  have hvs:v<(stateAt x k).length:=by rw[stateAt_length];exact hvv
  have hold:(stateAt x k).getD v 0 ∈ (valsF x v).take (k+1):=by
   rw[← valsF_get x v (k:=k) (by omega),List.mem_take_iff_getElem]
   exact⟨k,by omega,rfl⟩
  have hnone:(∀b (hb:b<x.evs[k].asg.length),x.evs[k].asg[b].1 ≠ v)→(stateAt x (k+1)).getD v 0=(stateAt x k).getD v 0:=fun h=>by
   rw[hst,List.getD_eq_getElem?_getD,assignL_none x.evs[k].asg _ fun a ha => ?_,List.getD_eq_getElem?_getD]
   obtain⟨b,hb,rfl⟩:=List.getElem_of_mem ha
   exact⟨(hao _ hme _ ha).1,h b hb⟩
  have hhit:∀b (hb:b<x.evs[k].asg.length),x.evs[k].asg[b].1=v→(stateAt x (k+1)).getD v 0=x.evs[k].asg[b].2:=fun b hb h=>by
   rw[hst,List.getD_eq_getElem?_getD,assignL_hit x.evs[k].asg _ hvs (fun a ha=>(hao _ hme _ ha).1) (hdi _ hme) b hb h];rfl
  have hdi:=hdi _ hme
  have hlo:=minL_le hold
  have hhi:=le_maxL hold
  generalize minL ((valsF x v).take (k+1))=lo at *
  generalize maxL ((valsF x v).take (k+1))=hi at *
  generalize (stateAt x (k+1)).getD v 0=w at *
  generalize (stateAt x k).getD v 0=w0 at *
  generalize x.evs[k]=e at *
  refine W2 hgp hge ?_
  refine AWp.block (AWp.count 12 e.asg.length [8,9] [1,2,3,10,11] (fun j vs L=>L=[]∧((vs=[ai lo,ai hi]∧∀b (hb:b<e.asg.length),b<j→e.asg[b].1 ≠ v)∨∃b,∃hb:b<e.asg.length,b<j∧e.asg[b].1=v∧vs=[ai (mn2 lo e.asg[b].2),ai (mx2 hi e.asg[b].2)]))
   rfl rfl ⟨rfl,.inl ⟨rfl,by omega⟩⟩ ?_)
  rintro j vs L hj - ⟨rfl,hJ⟩
  by_cases h2:j<e.asg.length
  ·have hga:=getD_map (f:=aAsg) h2
   by_cases h3:e.asg[j].1=v
   ·rcases hJ with ⟨rfl,hJ⟩|⟨b,hb,hbj,hbv,rfl⟩
    ·simp only[go_sem]
     repeat(first|((with_reducible refine AWp.ofC ?_ ?_);exact rfl;simp only[go_sem,hga,(show (j:Int)<e.asg.length by omega)])|((with_reducible refine an ?_ ?_);exact Au))
     refine⟨fun _ => ?_,fun h=>absurd h3 h⟩
     repeat(first|(with_reducible refine AWp.seq ?_)|(with_reducible refine AWp.block ?_))
     refine AWp.mix mixed [0,1,2,3,4,5,6,7,8,9,10,11,12,13] (.step 14 (.step 15 .done .done) .done) (by kernel_rfl) ?_;simp only[go_sem,hga]
     refine Sd ?_
     refine Wk ?_
     exact⟨_,List.Sublist.refl _,rfl,.inr ⟨j,h2,by omega,h3,rfl⟩⟩
    ·exact absurd (hbv.trans h3.symm) (hdi b j hb h2 hbj)
   ·have hJ':∀vs:List AV,((vs=[ai lo,ai hi]∧∀b (hb:b<e.asg.length),b<j→e.asg[b].1 ≠ v)∨∃b,∃hb:b<e.asg.length,b<j∧e.asg[b].1=v∧vs=[ai (mn2 lo e.asg[b].2),ai (mx2 hi e.asg[b].2)]) →
      ((vs=[ai lo,ai hi]∧∀b (hb:b<e.asg.length),b<j+1→e.asg[b].1 ≠ v)∨∃b,∃hb:b<e.asg.length,b<j+1∧e.asg[b].1=v∧vs=[ai (mn2 lo e.asg[b].2),ai (mx2 hi e.asg[b].2)]):=by
     rintro vs (⟨rfl,h⟩|⟨b,hb,h⟩)
     ·refine .inl ⟨rfl,fun b hb hbj => ?_⟩
      by_cases eb:b=j
      ·subst eb;exact h3
      ·exact h b hb (by omega)
     ·exact .inr ⟨b,hb,by omega,h.2⟩
    have hJ':=hJ' vs hJ
    obtain⟨y,z,rfl⟩:∃y z,vs=[y,z]:=by rcases hJ with ⟨rfl,_⟩|⟨_,_,_,_,rfl⟩ <;> exact⟨_,_,rfl⟩
    simp only[go_sem]
    repeat(first|((with_reducible refine AWp.ofC ?_ ?_);exact rfl;simp only[go_sem,hga,(show (j:Int)<e.asg.length by omega)])|((with_reducible refine an ?_ ?_);exact Au))
    intro _
    refine Wk ?_
    exact⟨_,List.Sublist.refl _,rfl,hJ'⟩
  ·have hres:vs=[ai (mn2 lo w),ai (mx2 hi w)]:=by
    rcases hJ with ⟨rfl,hJ⟩|⟨b,hb,_,hbv,rfl⟩
    ·rw[hnone fun b hb=>hJ b hb (by omega)]
     unfold mn2 mx2
     rw[if_neg (by omega),if_neg (by omega)]
    ·rw[hhit b hb hbv]
   subst hres
   simp only[go_sem]
   repeat(first|((with_reducible refine AWp.ofC ?_ ?_);exact rfl;simp only[go_sem,(show ¬(j:Int)<e.asg.length by omega)])|((with_reducible refine an ?_ ?_);exact Au))
   exact⟨_,List.Sublist.refl _,rfl,by rw[htn,htx]⟩
 ·refine Wk ?_
  refine ret_eq ?_;simp only[go_sem]
  rw[show k=x.evs.length by omega,hfull]
def aBd3 (x:Bd):AV:=.tup [ai x.1,ai x.2.1,ab x.2.2]
theorem hull_eq (a b c d:Int):minL [a,b,c,d]=mn2 (mn2 a b) (mn2 c d)∧maxL [a,b,c,d]=mx2 (mx2 a b) (mx2 c d):=by
 simp only[minL,maxL,List.foldl_cons,List.foldl_nil]
 unfold mn2 mx2
 constructor
 ·repeat' split
  all_goals omega
 ·repeat' split
  all_goals omega
theorem bdG_eq (i:Int × Int):bdG i=(i.1,i.2,decide (-1125899906842624≤i.1) && decide (i.2≤1125899906842624)):=by
 unfold bdG tooB
 congr 2
 rw[Bool.not_or,← decide_not,← decide_not]
 congr 1
 ·exact decide_eq_decide.2 (by omega)
 ·exact decide_eq_decide.2 (by omega)
set_option maxHeartbeats 4000000 in
theorem ref28_interval (ps:List Pr) (hs:Sm ps) (hv:validF ps=true) (t:Pd):szF t≤1000000→okT ps t=true→t.kind≤8→PC Proofs.Tryz.prog 77 [aTr ps,aPd t] (aBd3 (intF ps t)):=by
 induction t using Pd.ind with
 | _ k n p q s l ih =>
 intro hz ht hk
 obtain⟨o1,o2,o3,o4⟩:=okT_sub ht
 obtain⟨hpl,_⟩:=loc_len o1
 simp only[Pd.kind] at hk
 have hch:=child_le ht (show k≤12 by omega)
 have hsz:szF (.mk k n p q s l)=szL l+1:=by rw[szF]
 have hsp:=intF_mk ps k n p q s l
 generalize intF ps (.mk k n p q s l)=I at *
 rcases parts_cases k with ⟨e,hc⟩|⟨e,hc⟩|⟨e,hc⟩|e
 ·obtain rfl:=len0 (l:=l) (by omega)
  obtain⟨r2,r3,r4⟩:=res_leaf o2
  simp only[List.map_nil,bdN,bdG_eq] at hsp
  unfold aBd3
  simp only[aPd_mk,List.map_nil] at *
  have hk4:k=1∨k=2∨k=3∨k=4:=by omega
  have h18:=fun h:k≤4=>(show ¬k=5 by omega)
  rcases hk4 with h|h|h|h
  ·have hl:bdL ps k n p q s=(n,n):=by unfold bdL;rw[if_pos h]
   rw[hl] at hsp
   refine PC.enter 155 [.tmp 4,.tmp 5,.tmp 6] [2,3] Proofs.Tryz.func77 rfl rfl rfl rfl rfl (by simp) (AWp.of ?_);simp only[go_sem]
   refine Wk ?_
   intro _
   refine Wk ?_
   intro _
   repeat(first|((with_reducible refine AWp.ofC ?_ ?_);exact rfl;simp only[go_sem,(eq_true h)])|((with_reducible refine an ?_ ?_);exact Au))
   repeat(first|(with_reducible refine AWp.seq ?_)|(with_reducible refine AWp.block ?_))
   refine AWp.mix mixed [0,1,2,3,4,5] .done (by kernel_rfl) ?_;simp only[go_sem]
   refine Sd ?_
   refine Wk ?_
   refine ret_eq ?_;simp only[go_sem]
   rw[hsp]
  ·have h1:¬k=1:=by omega
   obtain⟨i,rfl,hp⟩:=isPB_nat (r2 h).1
   have hkn:=known_get hp (r2 h).2
   have hl:bdL ps k n i q s=(varLo ps i s,varHi ps i s):=by unfold bdL;rw[if_neg (by omega),if_neg (by omega),if_neg (by omega)]
   rw[hl] at hsp
   have hvx:=ref28_Var ps hs i (r2 h).1 s
   rw[varX_get hp] at hvx
   obtain⟨vx,hvi,hvl⟩:=known_ix hkn
   have hrg:=ref28_Range ps hs hv i hp vx hvl
   have e1:varLo ps i s=minL (valsF ps[i] vx):=by unfold varLo;simp only[Int.toNat_natCast,List.getElem?_eq_getElem hp,hvi]
   have e2:varHi ps i s=maxL (valsF ps[i] vx):=by unfold varHi;simp only[Int.toNat_natCast,List.getElem?_eq_getElem hp,hvi]
   rw[← e1,← e2] at hrg
   rw[hvi] at hvx
   generalize varLo ps i s=lo at *
   generalize varHi ps i s=hi at *
   refine PC.enter 155 [.tmp 4,.tmp 5,.tmp 6] [2,3] Proofs.Tryz.func77 rfl rfl rfl rfl rfl (by simp) (AWp.of ?_);simp only[go_sem]
   refine Wk ?_
   intro _
   refine Wk ?_
   intro _
   repeat(first|((with_reducible refine AWp.ofC ?_ ?_);exact rfl;simp only[go_sem,(eq_true h),h1])|((with_reducible refine an ?_ ?_);exact Au))
   repeat(first|(with_reducible refine AWp.seq ?_)|(with_reducible refine AWp.block ?_))
   refine AWp.mix mixed [0,1,2,3,4,5,6,7,8,9,10,11,12,13,14] .done (by kernel_rfl) ?_;simp only[go_sem]
   refine Sd ?_
   refine Gc hvx ?_
   refine Sd ?_
   refine Gc hrg ?_
   refine Sd ?_
   refine Wk ?_
   refine ret_eq ?_;simp only[go_sem]
   rw[hsp]
  ·have h1:¬k=1:=by omega
   have h2:¬k=2:=by omega
   obtain⟨i,rfl,hp⟩:=isPB_nat (r3 h)
   have hgp:=getD_map (f:=aPr) hp
   have hl:bdL ps k n i q s=(0,(ps[i].evs.length:Int)):=by unfold bdL;rw[if_neg (by omega),if_pos h,evN_get hp]
   rw[hl] at hsp
   refine PC.enter 155 [.tmp 4,.tmp 5,.tmp 6] [2,3] Proofs.Tryz.func77 rfl rfl rfl rfl rfl (by simp) (AWp.of ?_);simp only[go_sem]
   refine Wk ?_
   intro _
   refine Wk ?_
   intro _
   repeat(first|((with_reducible refine AWp.ofC ?_ ?_);exact rfl;simp only[go_sem,(eq_true h),h1,h2,hgp])|((with_reducible refine an ?_ ?_);exact Au))
   refine ret_eq ?_;simp only[go_sem]
   rw[hsp]
  ·have h1:¬k=1:=by omega
   have h2:¬k=2:=by omega
   have h3:¬k=3:=by omega
   have hsn:=ref28_sent ps hs p (r4 h).1 q
   have hl:bdL ps k n p q s=(0,msgN ps p q):=by unfold bdL;rw[if_neg (by omega),if_neg (by omega),if_pos h]
   rw[hl] at hsp
   generalize msgN ps p q=m at *
   refine PC.enter 155 [.tmp 4,.tmp 5,.tmp 6] [2,3] Proofs.Tryz.func77 rfl rfl rfl rfl rfl (by simp) (AWp.of ?_);simp only[go_sem]
   refine Wk ?_
   intro _
   refine Wk ?_
   intro _
   repeat(first|((with_reducible refine AWp.ofC ?_ ?_);exact rfl;simp only[go_sem,(eq_true h),h1,h2,h3])|((with_reducible refine an ?_ ?_);exact Au))
   refine Sd ?_
   refine(hsn).val.use ?_;simp only[go_sem]
   refine Wk ?_
   refine ret_eq ?_;simp only[go_sem]
   rw[hsp]
 ·obtain⟨a,rfl⟩:=len1 (l:=l) (by omega)
  obtain⟨c1,c2⟩:=hch a (by simp)
  have hza:=szL_mem (l:=[a]) (x:=a) (by simp)
  have hca:=ih a (by simp) (by omega) c1 c2
  have hok:=intF_ok ps a
  simp only[List.map_cons,List.map_nil,bdN] at hsp
  clear ih o4 hch
  generalize intF ps a=A at *
  obtain⟨a1,a2,a3⟩:=A
  obtain⟨ka,na,pa,qa,sa,la⟩:=a
  have h5:k=5:=by omega
  have h1:¬k=1:=by omega
  have h2:¬k=2:=by omega
  have h3:¬k=3:=by omega
  have h4:¬k=4:=by omega
  simp only[bd2,if_pos h5,bdG_eq] at hsp
  unfold aBd3 at *
  simp only[aPd_mk,List.map_cons,List.map_nil] at *
  refine PC.enter 155 [.tmp 4,.tmp 5,.tmp 6] [2,3] Proofs.Tryz.func77 rfl rfl rfl rfl rfl (by simp) (AWp.of ?_);simp only[go_sem]
  refine Wk ?_
  refine⟨fun _ => ?_,fun h=>absurd (show (0:Int)<((1:Nat):Int) by decide) h⟩
  repeat(first|(with_reducible refine AWp.seq ?_)|(with_reducible refine AWp.block ?_))
  refine AWp.mix mixed [0,1,2,3,4,5,6,7,8,9,10,11,12] .done (by kernel_rfl) ?_;simp only[go_sem]
  refine Sd ?_
  refine Gc hca ?_
  refine Sd ?_
  refine Wk ?_
  intro _
  refine Wk ?_
  refine⟨fun h6 => ?_,fun h6 => ?_⟩
  ·refine Wk ?_
   refine ret_eq ?_;simp only[go_sem]
   rw[hsp,if_neg (by rw[h6];decide)]
  rw[if_pos h6] at hsp
  have hok:=hok h6
  repeat(first|((with_reducible refine AWp.ofC ?_ ?_);exact rfl;simp only[go_sem,(eq_true h5),h1,h2,h3,h4])|((with_reducible refine an ?_ ?_);exact Au))
  refine ret_eq ?_;simp only[go_sem]
  rw[hsp]
 ·obtain⟨a,b,rfl⟩:=len2 (l:=l) (by omega)
  obtain⟨c1,c2⟩:=hch a (by simp)
  obtain⟨c3,c4⟩:=hch b (by simp)
  have hza:=szL_mem (l:=[a,b]) (x:=a) (by simp)
  have hzb:=szL_mem (l:=[a,b]) (x:=b) (by simp)
  have hca:=ih a (by simp) (by omega) c1 c2
  have hcc:=ih b (by simp) (by omega) c3 c4
  have hoka:=intF_ok ps a
  have hokb:=intF_ok ps b
  simp only[List.map_cons,List.map_nil,bdN,bdG_eq] at hsp
  clear ih o4 hch
  generalize intF ps a=A at *
  generalize intF ps b=B at *
  obtain⟨a1,a2,a3⟩:=A
  obtain⟨e1,e2,e3⟩:=B
  obtain⟨ka,na,pa,qa,sa,la⟩:=a
  obtain⟨kb,nb,pb,qb,sb,lb⟩:=b
  have h1:¬k=1:=by omega
  have h2:¬k=2:=by omega
  have h3:¬k=3:=by omega
  have h4:¬k=4:=by omega
  have h5:¬k=5:=by omega
  unfold aBd3 at *
  simp only[aPd_mk,List.map_cons,List.map_nil] at *
  refine PC.enter 155 [.tmp 4,.tmp 5,.tmp 6] [2,3] Proofs.Tryz.func77 rfl rfl rfl rfl rfl (by simp) (AWp.of ?_);simp only[go_sem]
  refine Wk ?_
  refine⟨fun _ => ?_,fun h=>absurd (show (0:Int)<((2:Nat):Int) by decide) h⟩
  repeat(first|(with_reducible refine AWp.seq ?_)|(with_reducible refine AWp.block ?_))
  refine AWp.mix mixed [0,1,2,3,4,5,6,7,8,9,10,11,12] .done (by kernel_rfl) ?_;simp only[go_sem]
  refine Sd ?_
  refine Gc hca ?_
  refine Sd ?_
  refine Wk ?_
  refine⟨fun _ => ?_,fun h=>absurd (show (1:Int)<((2:Nat):Int) by decide) h⟩
  repeat(first|(with_reducible refine AWp.seq ?_)|(with_reducible refine AWp.block ?_))
  refine AWp.mix mixed [0,1,2,3,4,5,6,7,8,9,10,11,12] .done (by kernel_rfl) ?_;simp only[go_sem]
  refine Sd ?_
  refine Gc hcc ?_
  refine Sd ?_
  refine Wk ?_
  refine⟨fun h6 => ?_,fun h6 => ?_⟩
  ·refine Wk ?_
   refine ret_eq ?_;simp only[go_sem]
   rw[hsp,if_neg (by rintro⟨x1,x2⟩;rw[x1,x2] at h6;simp at h6)]
  intro h7
  rw[if_pos ⟨h6,h7⟩] at hsp
  have hoka:=hoka h6
  have hokb:=hokb h7
  by_cases k6:k=6
  ·have hl:bd2 k (a1,a2,a3) (e1,e2,e3)=(a1+e1,a2+e2):=by unfold bd2;rw[if_neg h5,if_pos k6]
   rw[hl] at hsp
   repeat(first|((with_reducible refine AWp.ofC ?_ ?_);exact rfl;simp only[go_sem,(eq_true k6),h1,h2,h3,h4,h5])|((with_reducible refine an ?_ ?_);exact Au))
   refine ret_eq ?_;simp only[go_sem]
   rw[hsp]
  by_cases k7:k=7
  ·have hl:bd2 k (a1,a2,a3) (e1,e2,e3)=(a1 - e2,a2 - e1):=by unfold bd2;rw[if_neg h5,if_neg k6,if_pos k7]
   rw[hl] at hsp
   repeat(first|((with_reducible refine AWp.ofC ?_ ?_);exact rfl;simp only[go_sem,(eq_true k7),h1,h2,h3,h4,h5,k6])|((with_reducible refine an ?_ ?_);exact Au))
   refine ret_eq ?_;simp only[go_sem]
   rw[hsp]
  have hl:bd2 k (a1,a2,a3) (e1,e2,e3)=(minL [timesF a1 e1,timesF a1 e2,timesF a2 e1,timesF a2 e2],maxL [timesF a1 e1,timesF a1 e2,timesF a2 e1,timesF a2 e2]):=by unfold bd2;rw[if_neg h5,if_neg k6,if_neg k7]
  rw[hl] at hsp
  have hp1:=ref28_times a1 e1 (by omega) (by omega)
  have hp2:=ref28_times a1 e2 (by omega) (by omega)
  have hp3:=ref28_times a2 e1 (by omega) (by omega)
  have hp4:=ref28_times a2 e2 (by omega) (by omega)
  obtain⟨hmn,hmx⟩:=hull_eq (timesF a1 e1) (timesF a1 e2) (timesF a2 e1) (timesF a2 e2)
  generalize timesF a1 e1=t1 at *
  generalize timesF a1 e2=t2 at *
  generalize timesF a2 e1=t3 at *
  generalize timesF a2 e2=t4 at *
  rw[hmn,hmx] at hsp
  unfold mn2 mx2 at hsp
  repeat(first|((with_reducible refine AWp.ofC ?_ ?_);exact rfl;simp only[go_sem,h1,h2,h3,h4,h5,k6,k7])|((with_reducible refine an ?_ ?_);exact Au))
  refine Sd ?_
  refine(hp1).val.use ?_;simp only[go_sem]
  refine Wk ?_
  refine Sd ?_
  refine(hp2).val.use ?_;simp only[go_sem]
  refine Wk ?_
  refine Sd ?_
  refine(hp3).val.use ?_;simp only[go_sem]
  refine Wk ?_
  refine Sd ?_
  refine(hp4).val.use ?_;simp only[go_sem]
  refine Wk ?_
  refine Sd ?_
  refine(hp1).val.use ?_;simp only[go_sem]
  refine Wk ?_
  refine Sd ?_
  refine(hp2).val.use ?_;simp only[go_sem]
  refine Wk ?_
  refine Sd ?_
  refine(hp3).val.use ?_;simp only[go_sem]
  refine Wk ?_
  refine Sd ?_
  refine(hp4).val.use ?_;simp only[go_sem]
  refine Wk ?_
  refine ret_eq ?_;simp only[go_sem]
  rw[hsp]
 ·omega
def truN (k:Int) (v:List Int) (b:List Bool):Bool :=
 if k=9 then decide (v.getD 0 0=v.getD 1 0) else if k=10 then !decide (v.getD 0 0=v.getD 1 0) else if k=11 then decide (v.getD 0 0<v.getD 1 0) else if k=12 then decide (v.getD 0 0≤v.getD 1 0) else
 if k=13 then true else if k=14 then false else if k=15 then !b.getD 0 false else if k=16 then b.getD 0 false && b.getD 1 false else b.getD 0 false || b.getD 1 false
mutual
def truF (o:Obs):Pd→Bool
 | .mk k _ _ _ _ l=>truN k (valL o l) (truL o l)
def truL (o:Obs):List Pd→List Bool
 | []=>[]
 | x :: r=>truF o x :: truL o r
end
theorem truL_map (o:Obs):∀l,truL o l=l.map (truF o)
 | []=>by rw[truL];rfl
 | x :: r=>by rw[truL,truL_map o r];rfl
theorem truF_mk (o:Obs) (k n p q:Int) (s:ByteArray) (l:List Pd):truF o (.mk k n p q s l)=truN k (l.map (valF o)) (l.map (truF o)):=by rw[truF,truL_map,valL_map]
theorem child_bool {ps:List Pr} {k n p q:Int} {s:ByteArray} {l:List Pd} (h:okT ps (.mk k n p q s l)=true) (hk:13≤k):∀x ∈ l,okT ps x=true∧9≤x.kind:=by
 intro x hx
 obtain⟨h1,h2⟩:=(okT_sub h).2.2.2 x hx
 refine⟨h1,?_⟩
 unfold needF at h2
 rw[if_neg (by omega)] at h2
 unfold resF at h2
 split at h2 <;> omega
def tempB:Pd→Bool | .mk k _ _ _ _ _=>decide (18≤k∧k≤21)
def ntmB (x:Pd):Bool:=!tempB x
noncomputable def checkF (ps:List Pr) (t:Pd):Int:=if (validF ps && formedB t)=false then 1 else if allB (resB ps) t=false then 13 else if typedB t=false then 14 else if fitB ps t=false then 9 else 0
theorem checkF_zero {ps:List Pr} {t:Pd} (h:checkF ps t=0):validF ps=true∧formedB t=true∧okT ps t=true∧fitB ps t=true:=by
 unfold checkF at h
 split at h
 ·cases h
 ·rename_i h1
  split at h
  ·cases h
  ·rename_i h2
   split at h
   ·cases h
   ·rename_i h3
    split at h
    ·cases h
    ·rename_i h4
     have h1:(validF ps && formedB t)=true:=by simpa using h1
     rw[Bool.and_eq_true] at h1
     refine⟨h1.1,h1.2,?_,by simpa using h4⟩
     unfold okT
     have h5:=h1.2
     unfold formedB at h5
     simp only[Bool.and_eq_true] at h5 ⊢
     exact⟨⟨h5.2,by simpa using h2⟩,by unfold typedB at h3;simpa using h3⟩
def lclB (pr:Int):Pd→Bool
 | .mk k _ p _ _ _=>if k=4∨(18≤k∧k≤21) then false else if k=2∨k=3 then decide (p=pr) else true
noncomputable def lclF (ps:List Pr) (pr k:Int) (t:Pd):Int :=
 if checkF ps t ≠ 0 then checkF ps t else if ¬(0≤pr∧pr<ps.length∧0≤k∧k≤evN ps pr) then 2 else if t.kind≤8 then 14 else if allB (lclB pr) t=false then 15 else 0
def cutO (ps:List Pr) (c:List Int) (ch:Int→Int→Int):Obs:=⟨fun p s=>match ps[p.toNat]? with|some x=>(stateAt x (c.getD p.toNat 0).toNat).getD (varIx x.vars s).toNat 0|none=>0,fun p=>c.getD p.toNat 0,ch⟩
def stC (n p:Nat) (k:Int):List Int:=(List.replicate n 0).set p k
theorem pair_first {ps:List Pr} {p:Nat} (hp:p<ps.length) {i:Nat} (hi:i<ps[p].evs.length) :
  findIn (evIds ps) ps[p].evs[i].kind ps[p].evs[i].msg=((p:Int),(i:Int)+1)↔¬0<(findIn ((evIds ps).take (off ps p+i)) ps[p].evs[i].kind ps[p].evs[i].msg).2:=by
 have hev:=evIds_get hp hi
 constructor
 ·intro h h0
  have hsplit:evIds ps=(evIds ps).take (off ps p+i) ++ (evIds ps).drop (off ps p+i):=(List.take_append_drop _ _).symm
  unfold findIn at h0
  cases hf:((evIds ps).take (off ps p+i)).find? (fun x=>decide (x.2.kind=ps[p].evs[i].kind) && decide (x.2.msg=ps[p].evs[i].msg)) with
  | none=>rw[hf] at h0;simp at h0
  | some y =>
   have h1:findIn (evIds ps) ps[p].evs[i].kind ps[p].evs[i].msg=y.1:=by
    unfold findIn
    rw[hsplit,List.find?_append,hf];rfl
   have hy:=List.mem_of_find?_eq_some hf
   obtain⟨j,hj⟩:=List.getElem?_of_mem hy
   rw[List.getElem?_take] at hj
   split at hj
   ·rename_i hlt
    obtain⟨q,hq,r,hr,e,e2⟩:=evIds_inv hj
    rw[e2] at h1
    rw[h1,Prod.mk.injEq] at h
    have e3:q=p:=by omega
    have e4:r=i:=by omega
    subst e3;subst e4
    omega
   ·cases hj
 ·intro hno
  refine findIn_hit hev (fun j y hj hy hc=>hno ?_) ⟨rfl,rfl⟩
  have hmem:y ∈ (evIds ps).take (off ps p+i):=by
   refine List.mem_of_getElem? (i:=j) ?_
   rw[List.getElem?_take,if_pos hj];exact hy
  unfold findIn
  cases hf:((evIds ps).take (off ps p+i)).find? (fun x=>decide (x.2.kind=ps[p].evs[i].kind) && decide (x.2.msg=ps[p].evs[i].msg)) with
  | some x=>exact evIds_pos ps x (List.mem_of_mem_take (List.mem_of_find?_eq_some hf))
  | none =>
   rw[List.find?_eq_none] at hf
   have:=hf y hmem
   simp [hc.1,hc.2] at this
theorem ref12_paired (ps:List Pr) (hs:Sm ps) (hf:Formed ps) (p:Nat) (hp:p<ps.length) (i:Nat) (hi:i<ps[p].evs.length):PC Proofs.Tryz.prog 80 [aTr ps,aEid (p,(i:Int)+1)] (ai (pairF ps (off ps p+i))):=by
 have hfe:=hf p hp _ (List.getElem_mem hi)
 have hev:=evIds_get hp hi
 have hpf:pairF ps (off ps p+i)=if ps[p].evs[i].kind=2 then if (findIn ((evIds ps).take (off ps p+i)) 2 ps[p].evs[i].msg).2 > 0 then 8 else 0 else if ps[p].evs[i].kind=3 then if (findIn ((evIds ps).take (off ps p+i)) 3 ps[p].evs[i].msg).2 > 0 then 8 else if !sendsB ps ps[p].evs[i].peer ps[p].evs[i].msg p then 7 else 0 else 0:=by
  unfold pairF;rw[hev]
 have hfst:=pair_first hp hi
 have hat:=ref12_At ps hs p hp i hi
 generalize ps[p].evs[i]=e at *
 refine PC.enter 70 [.tmp 4] [2,3,5,8] Proofs.Tryz.func80 rfl rfl rfl rfl rfl (by simp) (AWp.of ?_);simp only[go_sem]
 refine Wk ?_
 refine Sd ?_
 refine(hat).val.use ?_;simp only[go_sem]
 refine Sd ?_
 intro b5
 refine Wk ?_
 refine⟨fun h1 => ?_,fun h1 => ?_⟩
 ·refine Wk ?_
  refine ret_eq ?_;simp only[go_sem]
  rw[hpf,if_neg (by omega),if_neg (by omega)]
 ·have hk:e.kind=2∨e.kind=3:=by
   unfold formedI at hfe
   rw[if_neg h1] at hfe
   by_cases h:e.kind=2∨e.kind=3
   ·exact h
   ·rw[if_neg h] at hfe;cases hfe
  obtain⟨m1,m2,m3,m4⟩:=formed_msg hfe hk
  have hfd:=ref12_Find ps hs e.kind e.msg
  generalize hfi:findIn (evIds ps) e.kind e.msg=f at *
  refine Wk ?_
  refine AWp.seq (AWp.seq ?_)
  refine AWp.drawn mixed 7 (by kernel_rfl) ?_;simp only[go_sem]
  refine Sd ?_
  refine Gc hfd ?_
  refine Wk ?_
  refine⟨fun h2 => ?_,fun h2 => ?_⟩
  ·have hne:¬f=((p:Int),(i:Int)+1):=fun h=>by rw[h] at h2;exact h2 rfl rfl
   have h0:0<(findIn ((evIds ps).take (off ps p+i)) e.kind e.msg).2:=by
    by_cases h:0<(findIn ((evIds ps).take (off ps p+i)) e.kind e.msg).2
    ·exact h
    ·exact absurd (hfst.2 h) hne
   refine Wk ?_
   refine ret_eq ?_;simp only[go_sem]
   rw[hpf]
   rcases hk with hk|hk
   ·rw[hk] at h0;rw[if_pos hk,if_pos h0]
   ·rw[hk] at h0;rw[if_neg (by omega),if_pos hk,if_pos h0]
  ·intro h3
   have he:f=((p:Int),(i:Int)+1):=Prod.ext h2 h3
   have h0:=hfst.1 he
   refine Wk ?_
   refine Wk ?_
   refine⟨fun h4 => ?_,fun h4 => ?_⟩
   ·have hpn:e.peer.toNat<ps.length:=by omega
    have hpe:((e.peer.toNat:Nat):Int)=e.peer:=Int.toNat_of_nonneg m3
    have hel:=hs.evs _ (List.getElem_mem hpn)
    have hgp:=getD_map (f:=aPr) hpn
    have hsd:sendsB ps e.peer e.msg p=ps[e.peer.toNat].evs.any fun x=>decide (x.kind=2) && decide (x.msg=e.msg) && decide (x.peer=p):=by
     simp only[sendsB,List.getElem?_eq_getElem hpn]
    rw[h4] at h0
    have hpf:pairF ps (off ps p+i)=if !sendsB ps e.peer e.msg p then 7 else 0:=by
     rw[hpf,if_neg (by omega),if_pos h4,if_neg h0]
    rw[hsd] at hpf
    refine Wk ?_
    obtain⟨es,hes⟩:∃es,ps[e.peer.toNat].evs=es:=⟨_,rfl⟩
    rw[hes] at hsd hpf hel
    refine AWp.block (AWp.count 7 es.length [6] [2,3,5] (fun j vs L=>L=[]∧vs=[ab ((es.take j).any fun x=>decide (x.kind=2) && decide (x.msg=e.msg) && decide (x.peer=p))]) rfl rfl ⟨rfl,rfl⟩ ?_)
    rintro j vs L hj - ⟨rfl,rfl⟩
    simp only[go_sem]
    refine W2 hgp hes ?_
    refine⟨fun h5 => ?_,fun h5 => ?_⟩
    ·have hje:j<es.length:=by omega
     have hgj:=getD_map (f:=aEv) hje
     have hsu:(es.take (j+1)).any (fun x=>decide (x.kind=2) && decide (x.msg=e.msg) && decide (x.peer=p))=((es.take j).any (fun x=>decide (x.kind=2) && decide (x.msg=e.msg) && decide (x.peer=p)) || (decide (es[j].kind=2) && decide (es[j].msg=e.msg) && decide (es[j].peer=p))):=by
      rw[List.take_succ_eq_append_getElem hje,List.any_append];simp
     generalize (es.take j).any (fun x=>decide (x.kind=2) && decide (x.msg=e.msg) && decide (x.peer=p))=b at *
     refine Sd ?_
     refine AWp.of ?_;simp only[go_sem,hgp,hes,hgj]
     refine Sd ?_
     intro b8
     refine Wk ?_
     repeat((with_reducible refine And.intro ?_ ?_);focus (intro h;refine⟨h,?_⟩;intro h1;first|exact⟨h,h1⟩|(intro h2;exact⟨h,h1,h2⟩)))
     refine Wk ?_
     refine⟨_,List.Sublist.refl _,rfl,?_⟩
     rw[hsu]
    ·refine Wk ?_
     rw[List.take_of_length_le (by omega)]
     refine Wk ?_
     refine⟨fun h6 => ?_,fun h6 => ?_⟩
     ·refine Wk ?_
      refine ret_eq ?_;simp only[go_sem]
      rw[hpf,if_pos (by rw[h6];rfl)]
     ·refine Wk ?_
      refine ret_eq ?_;simp only[go_sem]
      rw[hpf,if_neg (by rw[h6];decide)]
   ·refine Wk ?_
    refine ret_eq ?_;simp only[go_sem]
    rw[hpf]
    rcases hk with hk|hk
    ·rw[hk] at h0;rw[if_pos hk,if_neg h0]
    ·exact absurd hk h4
end Go.AL
end
section
namespace Go.AL
open Go Go.RowKit
def dnA (n:Nat) (c:Nat→Nat):List AV:=(List.range n).map fun q=>ai (c q)
theorem dnA_length (n:Nat) (c:Nat→Nat):(dnA n c).length=n:=by simp [dnA]
theorem dnA_set {n p:Nat} {c c':Nat→Nat} {x:Int} (hx:(c' p:Int)=x) (ho:∀q,q ≠ p→c' q=c q):(dnA n c).set p (ai x)=dnA n c':=by
 unfold dnA
 rw[map_range_set];congr 1;funext q
 by_cases e:q=p
 ·rw[if_pos e,e,hx]
 ·rw[if_neg e,ho q e]
theorem dnA_get {n p:Nat} (hp:p<n) (c:Nat→Nat):(dnA n c).getD p .any=ai (c p):=map_range_getD hp _
theorem nd2 {b c:Nat} {x y:ABlk} {r:AHeap} (h:((((b,x) :: (c,y) :: r:AHeap)).map (·.1)).Nodup):¬b=c∧¬c=b∧∀z ∈ r,(¬b=z.1∧¬z.1=b)∧¬c=z.1∧¬z.1=c:=by
 simp only[List.map_cons,List.nodup_cons,List.mem_cons,not_or,List.mem_map,not_exists,not_and] at h
 obtain⟨⟨h1,h2⟩,h3,_⟩:=h
 exact⟨h1,fun e=>h1 e.symm,fun z hz=>⟨⟨fun e=>h2 z hz e.symm,h2 z hz⟩,fun e=>h3 z hz e.symm,h3 z hz⟩⟩
theorem nd3 {b c d:Nat} {x y z:ABlk} {r:AHeap} (h:((((b,x) :: (c,y) :: (d,z) :: r:AHeap)).map (·.1)).Nodup):(¬b=c∧¬c=b)∧(¬b=d∧¬d=b)∧(¬c=d∧¬d=c)∧∀w ∈ r,(¬b=w.1∧¬w.1=b)∧(¬c=w.1∧¬w.1=c)∧¬d=w.1∧¬w.1=d:=by
 obtain⟨h1,h2,h3⟩:=nd2 h
 rw[List.map_cons,List.nodup_cons] at h
 obtain⟨h4,h5,h6⟩:=nd2 h.2
 exact⟨⟨h1,h2⟩,(h3 (d,z) List.mem_cons_self).1,⟨h4,h5⟩,fun w hw=>⟨(h3 w (List.mem_cons_of_mem _ hw)).1,(h6 w hw).1,(h6 w hw).2⟩⟩
end Go.AL
end
section
namespace Go.AL
open Go Go.RowKit
set_option maxRecDepth 4000
noncomputable def acyB (ps:List Pr):Bool:=(List.range ps.length).all fun p=>decide (nev ps p≤(stampF ps p).length)
theorem acyB_cyc {ps:List Pr} (hs:Sm ps) (hm:msgF ps=none) (h:acyB ps=true):cycF ps=none:=by
 refine cycF_of_stamps hm (stampF_gen hs).1 fun p hp => ?_
 unfold acyB at h
 rw[List.all_eq_true] at h
 simpa using h p (List.mem_range.2 hp)
theorem ref12_acyclic (ps:List Pr) (hs:Sm ps) (hm:msgF ps=none) (hn:1≤ps.length):PC Proofs.Tryz.prog 81 [aTr ps] (ab (acyB ps)):=by
 have hl:=hs.procs
 refine PC.enter 86 [.tmp 2] [1,6,7] Proofs.Tryz.func81 rfl rfl rfl rfl rfl (by simp) (AWp.of ?_);simp only[go_sem]
 refine Sd ?_
 refine AWp.of ?_;simp only[go_sem]
 refine Sd ?_
 intro bd
 have hD0:List.replicate ps.length (ai 0)=dnA ps.length (lenS fun _=>[]):=by
  unfold dnA lenS;apply List.ext_getElem (by simp);intro i h1 h2;simp
 rw[hD0]
 have hB:∀S,Gen ps S→totS ps.length (lenS S)≤ps.length * 1000000:=fun S h=>totS_le _ fun q hq=>by
  have h1:=h.le_nev q
  rw[nev_get hq] at h1
  have h2:=hs.evs _ (List.getElem_mem hq)
  unfold lenS;omega
 refine AWp.cut [1,3] (fun vs L=>∃S,Gen ps S∧(∀p,¬Rdy ps (lenS S) p)∧L=[(bd,.row 3 1 (dnA ps.length (lenS S)) ps.length)]∧vs=[.rp 1 [aTr ps] 0 0,.ls bd 1 0 ps.length ps.length]) ?_ ?_
 ·refine AWp.block (AWp.loopN [] [1,3] (fun m vs L=>∃S,Gen ps S∧L=[(bd,.row 3 1 (dnA ps.length (lenS S)) ps.length)]∧m=ps.length * 1000000 - totS ps.length (lenS S)) (ps.length * 1000000 - totS ps.length (lenS fun _=>[])) ?_ ?_)
  ·exact⟨_,.init,rfl,rfl⟩
  rintro m vs L - ⟨S0,hG0,rfl,rfl⟩
  simp only[go_sem]
  refine Wk ?_
  refine AWp.block (AWp.count 5 ps.length [4] [1,3] (fun p vs L=>∃S g,vs=[ab g]∧L=[(bd,.row 3 1 (dnA ps.length (lenS S)) ps.length)]∧Gen ps S∧(g=false→S=S0∧∀q,q<p→¬Rdy ps (lenS S) q)∧(g=true→totS ps.length (lenS S0)<totS ps.length (lenS S)))
   rfl rfl ⟨S0,false,rfl,rfl,hG0,fun _=>⟨rfl,fun q hq=>by omega⟩,fun h=>(by cases h)⟩ ?_)
  rintro p vs L hp - ⟨S1,g1,rfl,rfl,hG1,hf1,ht1⟩
  simp only[go_sem]
  refine Wk ?_
  refine⟨fun h1 => ?_,fun h1 => ?_⟩
  ·have hpp:p<ps.length:=by omega
   have hel:=hs.evs _ (List.getElem_mem hpp)
   have hgP:=getD_map (f:=aPr) hpp
   refine AWp.seq (AWp.block (AWp.block (AWp.loopN [4] [1,3,5] (fun m vs L=>∃S g,vs=[ab g]∧L=[(bd,.row 3 1 (dnA ps.length (lenS S)) ps.length)]∧Gen ps S∧(g=false→S=S0∧∀q,q<p→¬Rdy ps (lenS S) q)∧(g=true→totS ps.length (lenS S0)<totS ps.length (lenS S))∧m=1000000 - (S p).length)
    (1000000 - (S1 p).length) ?_ ?_)))
   ·exact⟨S1,g1,rfl,rfl,hG1,hf1,ht1,rfl⟩
   rintro m' vs L - ⟨S,g,rfl,rfl,hG,hf,ht,hm'⟩
   have hle:=hG.le_nev p
   rw[nev_get hpp] at hle
   have hgd:=dnA_get hpp (lenS S)
   have hlS:lenS S p=(S p).length:=rfl
   simp only[go_sem]
   refine AWp.seq (AWp.seq ?_)
   repeat(first|(with_reducible refine AWp.seq ?_)|(with_reducible refine AWp.block ?_))
   refine AWp.mix mixed [0,1,2,4,5,6,7,8,9,10] (.step 3 (.step 11 .done .done) .done) (by kernel_rfl) ?_;simp only[go_sem,hgP,hgd,dnA_length]
   refine Sd ?_
   refine Wk ?_
   refine⟨fun h2 => ?_,fun h2 => ?_⟩
   ·have hk:(S p).length<ps[p].evs.length:=by unfold lenS at h2;omega
    have hgk:=getD_map (f:=aEv) hk
    have heq:=evq_get hpp hk
    have hrdy:Rdy ps (lenS S) p↔(ps[p].evs[(S p).length].kind=3→0<(sndr ps ps[p].evs[(S p).length].msg).2∧(sndr ps ps[p].evs[(S p).length].msg).2≤lenS S (sndr ps ps[p].evs[(S p).length].msg).1.toNat):=by
     unfold Rdy
     rw[hlS,heq]
     exact⟨fun h=>h.2.2,fun h=>⟨hpp,by rw[nev_get hpp];exact hk,h⟩⟩
    have h0s:=recv_sndr hm hpp hk
    rw[hlS] at hgd
    generalize ps[p].evs[(S p).length]=e at *
    refine AWp.block ?_
    refine AWp.cut [1,3,4,5,6] (fun vs L=>L=[(bd,.row 3 1 (dnA ps.length (lenS S)) ps.length)]∧vs=[.rp 1 [aTr ps] 0 0,.ls bd 1 0 ps.length ps.length,ab g,ai p,.rp 5 [aEv e] 0 0]) ?_ ?_
    ·repeat(first|(with_reducible refine AWp.seq ?_)|(with_reducible refine AWp.block ?_))
     refine AWp.mix mixed [0,1,2,3,4,5,6,7,8] (.step 9 (.step 10 (.step 11 (.step 12 (.step 13 .done .done) .done) (.step 12 (.step 11 (.step 13 .done .done) .done) .done)) (.step 12 (.step 10 (.step 11 (.step 13 .done .done) .done) .done) .done)) (.step 12 (.step 9 (.step 10 (.step 11 (.step 13 .done .done) .done) .done) .done) .done)) (by kernel_rfl) ?_;simp only[go_sem,hgP,hgd,hgk,dnA_length]
     repeat' (first|(with_reducible refine And.intro ?_ ?_)|intro _)
     all_goals first|omega|exact⟨_,List.Sublist.refl _,rfl⟩|(rename_i bN k1;have nb:¬bd=bN:=(by omega);simp only[go_sem,nb,hgd,hgk,dnA_length])
     all_goals repeat' (first|(with_reducible refine And.intro ?_ ?_)|intro _)
     all_goals first|omega|exact⟨_,List.Sublist.refl _,rfl⟩
    ·rintro vs L - ⟨rfl,rfl⟩
     simp only[go_sem]
     refine AWp.cut [1,3,4,5] (fun vs L=>Rdy ps (lenS S) p∧L=[(bd,.row 3 1 (dnA ps.length (lenS S)) ps.length)]∧vs=[.rp 1 [aTr ps] 0 0,.ls bd 1 0 ps.length ps.length,ab g,ai p]) ?_ ?_
     ·refine Wk ?_
      refine⟨fun h3 => ?_,fun h3 => ?_⟩
      ·have hfd:=ref12_Find ps hs 2 e.msg
       have hse:findIn (evIds ps) 2 e.msg=sndr ps e.msg:=rfl
       obtain⟨f1,f2⟩:=findIn_proc hn 2 e.msg
       rw[hse] at hfd f1 f2
       generalize sndr ps e.msg=sd at *
       have hgs:=dnA_get (show sd.1.toNat<ps.length by omega) (lenS S)
       refine Wk ?_
       refine Sd ?_
       refine(hfd).val.use ?_;simp only[go_sem]
       refine Sd ?_
       intro b7 hb7
       have nb:¬bd=b7:=by omega
       refine AWp.seq ?_
       repeat(first|(with_reducible refine AWp.seq ?_)|(with_reducible refine AWp.block ?_))
       refine AWp.mix mixed [0,1,2,3,5,6] (.step 4 (.step 7 .done .done) .done) (by kernel_rfl) ?_;simp only[go_sem,hgs,dnA_length,nb]
       refine Sd ?_
       refine Wk ?_
       refine⟨fun h4 => ?_,fun h4 => ?_⟩
       ·refine Wk ?_
        refine⟨_,List.Sublist.refl _,S,g,rfl,rfl,hG,fun hg => ?_,ht⟩
        obtain⟨e1,e2⟩:=hf hg
        refine⟨e1,fun q hq => ?_⟩
        by_cases e:q=p
        ·subst e
         intro hr
         have:=hrdy.1 hr h3
         omega
        ·exact e2 q (by omega)
       ·exact⟨_,List.Sublist.refl _,hrdy.2 fun _=>⟨h0s h3,by omega⟩,rfl⟩
      ·exact⟨_,List.Sublist.refl _,hrdy.2 fun h=>absurd h h3,rfl⟩
     ·rintro vs L - ⟨hrd,rfl,rfl⟩
      have hG':=hG.step hrd
      have htot:=totS_up hpp (S:=S) (vecV ps S p (S p).length)
      have hset:=dnA_set (n:=ps.length) (p:=p) (c:=lenS S) (c':=lenS (upS S p (vecV ps S p (S p).length))) (x:=((S p).length:Int)+1) (by unfold lenS;rw[upS_len,if_pos rfl];omega) (fun q hq=>by unfold lenS;rw[upS_len,if_neg hq])
      have hlen':(upS S p (vecV ps S p (S p).length) p).length=(S p).length+1:=by rw[upS_len,if_pos rfl]
      simp only[go_sem]
      refine Sd ?_
      refine AWp.of ?_;simp only[go_sem,hgd,dnA_length]
      refine Sd ?_
      rw[hset]
      refine Wk ?_
      refine⟨_,List.Sublist.refl _,1000000 - (upS S p (vecV ps S p (S p).length) p).length,by omega,_,true,rfl,rfl,hG',fun h=>(by cases h),fun _ => ?_,rfl⟩
      rw[htot]
      cases hg:g with
      | true=>have:=ht hg;omega
      | false=>rw[(hf hg).1];omega
   ·refine Wk ?_
    refine⟨_,List.Sublist.refl _,S,g,rfl,rfl,hG,fun hg => ?_,ht⟩
    obtain⟨e1,e2⟩:=hf hg
    refine⟨e1,fun q hq => ?_⟩
    by_cases e:q=p
    ·subst e
     intro hr
     have:=hr.2.1
     rw[nev_get hpp] at this
     omega
    ·exact e2 q (by omega)
  ·have hpn:p=ps.length:=by omega
   refine Wk ?_
   refine⟨fun h2 => ?_,fun h2 => ?_⟩
   ·refine⟨_,List.Sublist.refl _,S1,hG1,fun q hr => ?_,rfl⟩
    exact(hf1 h2).2 q (by have:=hr.1;omega) hr
   ·have h3:=ht1 h2
    have h4:=hB S1 hG1
    exact⟨_,List.Sublist.refl _,_,by omega,S1,hG1,rfl,rfl⟩
 ·rintro vs L - ⟨S,hG,hmx,rfl,rfl⟩
  have hst:=stampF_eq hG hmx
  simp only[go_sem]
  refine Wk ?_
  refine AWp.block (AWp.count 8 ps.length [] [1,3] (fun p vs L=>L=[(bd,.row 3 1 (dnA ps.length (lenS S)) ps.length)]∧∀q,q<p→nev ps q≤(stampF ps q).length) rfl rfl ⟨rfl,by omega⟩ ?_)
  rintro p vs L hp - ⟨rfl,hI⟩
  simp only[go_sem]
  refine Wk ?_
  refine⟨fun h1 => ?_,fun h1 => ?_⟩
  ·have hpp:p<ps.length:=by omega
   have hel:=hs.evs _ (List.getElem_mem hpp)
   have hgP:=getD_map (f:=aPr) hpp
   have hgd:=dnA_get hpp (lenS S)
   refine AWp.seq (AWp.block (AWp.seq ?_))
   repeat(first|(with_reducible refine AWp.seq ?_)|(with_reducible refine AWp.block ?_))
   refine AWp.mix mixed [0,1,2,4,5,6,7,8,9,10] (.step 3 (.step 11 .done .done) .done) (by kernel_rfl) ?_;simp only[go_sem,hgP,hgd,dnA_length]
   refine Sd ?_
   refine Wk ?_
   refine⟨fun h2 => ?_,fun h2 => ?_⟩
   ·refine Wk ?_
    refine ret_eq ?_;simp only[go_sem]
    unfold acyB
    congr 2;symm
    rw[List.all_eq_false]
    refine⟨p,List.mem_range.2 hpp,?_⟩
    rw[hst,decide_eq_true_eq,nev_get hpp]
    unfold lenS at h2;omega
   ·refine Wk ?_
    refine⟨_,List.Sublist.refl _,rfl,fun q hq => ?_⟩
    by_cases e:q=p
    ·subst e;rw[hst,nev_get hpp];unfold lenS at h2;omega
    ·exact hI q (by omega)
  ·refine Wk ?_
   refine ret_eq ?_;simp only[go_sem]
   unfold acyB
   congr 2;symm
   rw[List.all_eq_true]
   exact fun q hq=>decide_eq_true (hI q (by have:=List.mem_range.1 hq;omega))
structure Psr (ps:List Pr) (x:Eid) (seen q:List Eid):Prop where
 sv:∀y ∈ seen,VEv ps y∧Reach ps y x
 qv:∀y ∈ q,VEv ps y∧Reach ps y x
 nodup:seen.Nodup
 c1:∀z,VEv ps z→Nx ps z x→z ∈ seen∨z ∈ q
 c2:∀y ∈ seen,∀z,VEv ps z→Nx ps z y→z ∈ seen∨z ∈ q
 size:q.length≤2 * (seen.length+1)
theorem dirL_length (ps:List Pr) (p i:Nat):(dirL ps p i).length≤2:=by
 unfold dirL
 rw[List.length_append]
 have h1:(if 0<i then [((p:Int),(i:Int))] else []).length≤1:=by split <;> simp
 have h2:(if (evq ps p i).kind=3 then [sndr ps (evq ps p i).msg] else []).length≤1:=by split <;> simp
 omega
theorem Psr.start {ps:List Pr} (hm:msgF ps=none) {p:Nat} (hp:p<ps.length) {i:Nat} (hi:i<ps[p].evs.length):Psr ps ((p:Int),(i:Int)+1) [] (dirL ps p i) :=
 ⟨fun y h=>(by cases h),fun y h=>let ⟨a,b⟩:=(dirL_iff hm hp hi y).1 h;⟨a,.single b⟩,.nil,fun z h1 h2 => .inr ((dirL_iff hm hp hi z).2 ⟨h1,h2⟩),fun y h=>(by cases h),(by have:=dirL_length ps p i;simp only[List.length_nil];omega)⟩
theorem Psr.skip {ps:List Pr} {x y:Eid} {seen q:List Eid} (h:Psr ps x seen (y :: q)) (hy:y ∈ seen):Psr ps x seen q:=by
 have hc:∀z,z ∈ seen∨z ∈ y :: q→z ∈ seen∨z ∈ q:=fun z hz=>by
  rcases hz with hz|hz
  ·exact .inl hz
  ·rcases List.mem_cons.1 hz with rfl|hz
   ·exact .inl hy
   ·exact .inr hz
 exact⟨h.sv,fun z hz=>h.qv z (List.mem_cons_of_mem _ hz),h.nodup,fun z h1 h2=>hc z (h.c1 z h1 h2),fun w hw z h1 h2=>hc z (h.c2 w hw z h1 h2),by have:=h.size;simp at this;omega⟩
theorem Reach.head {ps:List Pr} {a b y:Eid} (hr:Reach ps b y) (hn:Nx ps a b):Reach ps a y:=by
 induction hr with
 | single h=>exact .tail (.single hn) h
 | tail _ h ih=>exact .tail ih h
theorem Psr.mark {ps:List Pr} (hm:msgF ps=none) {x:Eid} {seen q:List Eid} {p:Nat} (hp:p<ps.length) {i:Nat} (hi:i<ps[p].evs.length) (h:Psr ps x seen (((p:Int),(i:Int)+1) :: q)) (hy:((p:Int),(i:Int)+1) ∉ seen) :
  Psr ps x (((p:Int),(i:Int)+1) :: seen) (q ++ dirL ps p i):=by
 have hyx:=h.qv _ List.mem_cons_self
 have hc:∀z,z ∈ seen∨z ∈ ((p:Int),(i:Int)+1) :: q→z ∈ ((p:Int),(i:Int)+1) :: seen∨z ∈ q ++ dirL ps p i:=fun z hz=>by
  rcases hz with hz|hz
  ·exact .inl (List.mem_cons_of_mem _ hz)
  ·rcases List.mem_cons.1 hz with rfl|hz
   ·exact .inl List.mem_cons_self
   ·exact .inr (List.mem_append_left _ hz)
 refine⟨fun z hz => ?_,fun z hz => ?_,List.nodup_cons.2 ⟨hy,h.nodup⟩,fun z h1 h2=>hc z (h.c1 z h1 h2),fun w hw z h1 h2 => ?_,?_⟩
 ·rcases List.mem_cons.1 hz with rfl|hz
  ·exact hyx
  ·exact h.sv z hz
 ·rcases List.mem_append.1 hz with hz|hz
  ·exact h.qv z (List.mem_cons_of_mem _ hz)
  ·obtain⟨a,b⟩:=(dirL_iff hm hp hi z).1 hz
   exact⟨a,hyx.2.head b⟩
 ·rcases List.mem_cons.1 hw with rfl|hw
  ·exact .inr (List.mem_append_right _ ((dirL_iff hm hp hi z).2 ⟨h1,h2⟩))
  ·exact hc z (h.c2 w hw z h1 h2)
 ·have h1:=h.size
  have h2:=dirL_length ps p i
  simp only[List.length_cons,List.length_append] at h1 ⊢
  omega
theorem Psr.done {ps:List Pr} {x:Eid} {seen:List Eid} (h:Psr ps x seen []) {z:Eid} (hz:VEv ps z):z ∈ seen↔Reach ps z x:=by
 refine⟨fun hs=>(h.sv z hs).2,fun hr => ?_⟩
 have key:∀c,Reach ps z c→(c=x∨c ∈ seen)→z ∈ seen:=fun c hc=>by
  induction hc with
  | single hn =>
   rintro(rfl|hc)
   ·exact(h.c1 z hz hn).resolve_right (by simp)
   ·exact(h.c2 _ hc z hz hn).resolve_right (by simp)
  | @tail b c hb hn ih =>
   have hbv:VEv ps b:=Reach.valid hb hz
   rintro(rfl|hc)
   ·exact ih (.inr ((h.c1 b hbv hn).resolve_right (by simp)))
   ·exact ih (.inr ((h.c2 _ hc b hbv hn).resolve_right (by simp)))
 exact key x hr (.inl rfl)
theorem Psr.small {ps:List Pr} {x:Eid} {seen q:List Eid} (h:Psr ps x seen q):seen.length≤(evIds ps).length:=by
 have:=List.Nodup.length_le_of_subset h.nodup (l₂:=(evIds ps).map (·.1)) (fun y hy=>(h.sv y hy).1.mem)
 simpa using this
def pRow (ps:List Pr) (seen:List Eid) (p:Nat):List AV:=(List.range (nev ps p+1)).map fun (k:Nat)=>ab (decide (((p:Int),(k:Int)) ∈ seen))
theorem pRow_length (ps:List Pr) (seen:List Eid) (p:Nat):(pRow ps seen p).length=nev ps p+1:=by simp [pRow]
theorem pRow_get {ps:List Pr} {seen:List Eid} {p k:Nat} (hk:k<nev ps p+1):(pRow ps seen p).getD k .any=ab (decide (((p:Int),(k:Int)) ∈ seen)):=map_range_getD hk _
theorem pRow_set {ps:List Pr} {seen:List Eid} {p k:Nat} : (pRow ps seen p).set k (ab true)=pRow ps (((p:Int),(k:Int)) :: seen) p:=by
 unfold pRow
 rw[map_range_set];congr 1;funext j
 by_cases e:j=k
 ·subst e;rw[if_pos rfl,decide_eq_true List.mem_cons_self]
 ·rw[if_neg e]
  have:(((p:Int),(j:Int)) ∈ ((p:Int),(k:Int)) :: seen)↔(((p:Int),(j:Int)) ∈ seen):=by
   rw[List.mem_cons,Prod.mk.injEq]
   exact⟨fun h=>h.resolve_left fun h=>e (by omega),.inr⟩
  rw[decide_eq_decide.2 this]
theorem pRow_other {ps:List Pr} {seen:List Eid} {p k q:Nat} (h:q ≠ p):pRow ps (((p:Int),(k:Int)) :: seen) q=pRow ps seen q:=by
 unfold pRow
 congr 1;funext j
 have:(((q:Int),(j:Int)) ∈ ((p:Int),(k:Int)) :: seen)↔(((q:Int),(j:Int)) ∈ seen):=by
  rw[List.mem_cons,Prod.mk.injEq]
  exact⟨fun h'=>h'.resolve_left fun h'=>h (by omega),.inr⟩
 rw[decide_eq_decide.2 this]
theorem pRow_nil (ps:List Pr) (p:Nat):pRow ps [] p=List.replicate (nev ps p+1) (ab false):=by
 unfold pRow;apply List.ext_getElem (by simp);intro i h1 h2;simp
open Classical in
noncomputable def pastA (ps:List Pr) (x:Eid):AV:=.sl 1 ((List.range ps.length).map fun (p:Nat) => .sl 1 ((List.range (nev ps p+1)).map fun (k:Nat)=>ab (decide (VEv ps ((p:Int),(k:Int))∧Reach ps ((p:Int),(k:Int)) x))))
theorem pastA_of {ps:List Pr} {x:Eid} {seen:List Eid} (h:Psr ps x seen []):AV.sl 1 ((List.range ps.length).map fun p=>AV.sl 1 (pRow ps seen p))=pastA ps x:=by
 unfold pastA pRow
 congr 2;funext p;congr 2;funext k
 have:(((p:Int),(k:Int)) ∈ seen)↔(VEv ps ((p:Int),(k:Int))∧Reach ps ((p:Int),(k:Int)) x) :=
  ⟨fun hs=>h.sv _ hs,fun ⟨h1,h2⟩=>(h.done h1).2 h2⟩
 rw[decide_eq_decide.2 this]
theorem ref12_Directly (ps:List Pr) (hs:Sm ps) (p:Nat) (hp:p<ps.length) (i:Nat) (hi:i<ps[p].evs.length):MCalls Proofs.Tryz.prog 120 [aTr ps,aEid (p,(i:Int)+1)] [] fun r L=>AppSt 89 2 ((dirL ps p i).map aEid) r L:=by
 have hel:=hs.evs _ (List.getElem_mem hp)
 have hat:=ref12_At ps hs p hp i hi
 have hd:dirL ps p i=(if 0<i then [((p:Int),(i:Int))] else []) ++ (if ps[p].evs[i].kind=3 then [sndr ps ps[p].evs[i].msg] else []):=by
  unfold dirL;rw[evq_get hp hi]
 have hfd:=ref12_Find ps hs 2 ps[p].evs[i].msg
 have hse:findIn (evIds ps) 2 ps[p].evs[i].msg=sndr ps ps[p].evs[i].msg:=rfl
 rw[hse] at hfd
 rw[hd]
 generalize ps[p].evs[i]=e at *
 generalize sndr ps e.msg=sd at *
 have e1:(i:Int)+1 - 1=i:=by omega
 refine MCalls.enter' 33 [.tmp 4] [2,3,6,17,30] Proofs.Tryz.func120 rfl rfl rfl rfl rfl (by simp) (AWp.of ?_);simp only[go_sem]
 refine Wk ?_
 refine Wk ?_
 refine⟨fun h1 => ?_,fun h1 => ?_⟩
 ·rw[if_pos (show 0<i by omega)]
  refine W1 e1 ?_
  refine Sd ?_
  intro b cap g1
  refine Wk ?_
  refine Sd ?_
  refine(hat).val.use ?_;simp only[go_sem]
  refine Sd ?_
  intro b6 g2
  refine Wk ?_
  refine⟨fun h2 => ?_,fun h2 => ?_⟩
  ·rw[if_pos h2]
   refine Wk ?_
   refine Sd ?_
   refine(hfd).val.use ?_;simp only[go_sem]
   refine Sd ?_
   intro b2 cap2 g3
   refine Wk ?_
   refine ret_own ?_
   simp only[go_sem]
   rw[e1]
   exact .row _ [_,_] _
  ·rw[if_neg h2]
   refine Wk ?_
   refine ret_own ?_
   simp only[go_sem]
   rw[e1]
   exact .row _ [_] _
 ·rw[if_neg (show ¬0<i by omega)]
  refine Wk ?_
  refine Sd ?_
  refine(hat).val.use ?_;simp only[go_sem]
  refine Sd ?_
  intro b6
  refine Wk ?_
  refine⟨fun h2 => ?_,fun h2 => ?_⟩
  ·rw[if_pos h2]
   refine Wk ?_
   refine Sd ?_
   refine(hfd).val.use ?_;simp only[go_sem]
   refine Sd ?_
   intro b2 cap2 g3
   refine Wk ?_
   refine ret_own ?_
   simp only[go_sem]
   exact .row _ [_] _
  ·rw[if_neg h2]
   refine Wk ?_
   refine ret_own ?_
   simp only[go_sem]
   exact .nil
end Go.AL
end
section
namespace Go.AL
open Go Go.RowKit
set_option maxRecDepth 4000
def RSt (n bo cap:Nat) (Y:Nat→List AV) (L:AHeap):Prop :=
 ∃(V:Nat→AV) (Ls:Nat→AHeap),L.Perm ((bo,.row 124 1 ((List.range n).map V) cap) :: famL n Ls)∧∀p,p<n→AppSt 4 1 (Y p) (V p) (Ls p)
theorem RSt.perm {n bo cap:Nat} {Y:Nat→List AV} {L L':AHeap} (hp:L'.Perm L) (h:RSt n bo cap Y L):RSt n bo cap Y L' :=
 let ⟨V,Ls,h1,h2⟩:=h
 ⟨V,Ls,hp.trans h1,h2⟩
theorem RSt.open {n bo cap:Nat} {Y:Nat→List AV} {L:AHeap} (h:RSt n bo cap Y L) {p:Nat} (hp:p<n) (hY:0<(Y p).length) :
  ∃(V:Nat→AV) (b cp:Nat) (X:AHeap),L.Perm ((bo,.row 124 1 ((List.range n).map V) cap) :: (b,.row 4 1 (Y p) cp) :: X)∧V p = .ls b 1 0 (Y p).length cp ∧
   ∀(Y':Nat→List AV) (L':AHeap),(∀q,q ≠ p→Y' q=Y q)→(Y' p).length=(Y p).length→L'.Perm ((bo,.row 124 1 ((List.range n).map V) cap) :: (b,.row 4 1 (Y' p) cp) :: X)→RSt n bo cap Y' L':=by
 obtain⟨V,Ls,h1,h2⟩:=h
 rcases (h2 p hp).inv with ⟨e,_,_⟩|⟨b,cp,e1,e2⟩
 ·rw[e] at hY;simp at hY
 ·have hsp:=fam_split hp Ls
  rw[e2] at hsp
  refine⟨V,b,cp,famR n p Ls,h1.trans (hsp.cons _),e1,fun Y' L' hq hl hL => ?_⟩
  refine⟨V,fun q=>if q=p then [(b,.row 4 1 (Y' p) cp)] else Ls q,?_,fun q hqn => ?_⟩
  ·refine hL.trans (List.Perm.cons _ ?_)
   have hsp:=fam_split hp (fun q=>if q=p then [(b,ABlk.row 4 1 (Y' p) cp)] else Ls q)
   rw[if_pos rfl,famR_congr (Ls:=Ls) (fun q hq=>if_neg hq)] at hsp
   exact hsp.symm
  ·by_cases e:q=p
   ·subst e;dsimp only;rw[if_pos rfl,e1,← hl];exact .row _ _ _
   ·dsimp only;rw[if_neg e,hq q e];exact h2 q hqn
def QSt (q:List Eid) (v:AV) (L:AHeap):Prop :=
 (q=[]∧v=anil∧L=[])∨∃b off cap capb xs,v = .ls b 2 off q.length cap∧L=[(b,.row 89 2 xs capb)]∧(xs.drop off).take q.length=q.map aEid∧off+q.length≤xs.length∧q.length≤cap∧off+cap=capb
theorem QSt.of {q:List Eid} {v:AV} {L:AHeap} (h:AppSt 89 2 (q.map aEid) v L) (hc:∀b cap,L=[(b,.row 89 2 (q.map aEid) cap)]→q.length≤cap):QSt q v L:=by
 rcases h.inv with ⟨e1,e2,e3⟩|⟨b,cap,e1,e2⟩
 ·exact .inl ⟨by simpa using e1,e2,e3⟩
 ·refine .inr ⟨b,0,cap,cap,q.map aEid,by rw[e1,List.length_map],e2,?_,by simp,hc b cap e2,by omega⟩
  rw[List.drop_zero,List.take_of_length_le (by simp)]
theorem AWp.queue {C:Cfg} {c:Code} {Q:AQ} {ρ:Env} {L Lq L1:AHeap} {q:List Eid} {v:AV} (hP:L.Perm (Lq ++ L1)) (hA:AppSt 89 2 (q.map aEid) v Lq) (h:QSt q v Lq→AWp C c Q ρ L):AWp C c Q ρ L:=by
 rcases hA.inv with ⟨e1,e2,e3⟩|⟨b,cap,e1,e2⟩
 ·exact h (.inl ⟨by simpa using e1,e2,e3⟩)
 ·subst e2
  refine AWp.rowLe (hP.mem_iff.2 (List.mem_append_left _ (List.mem_singleton_self _))) fun hle=>h (QSt.of hA fun b' cap' e => ?_)
  simp only[List.cons.injEq,Prod.mk.injEq,ABlk.row.injEq,and_true] at e
  obtain⟨_,_,_,_,rfl⟩:=e
  simpa using hle
theorem queue_tail {xs:List AV} {off n:Nat} {a:AV} {l:List AV} (h:(xs.drop off).take (n+1)=a :: l):xs.getD off .any=a∧(xs.drop (off+1)).take n=l:=by
 have hd:xs.drop (off+1)=(xs.drop off).drop 1:=by rw[List.drop_drop]
 cases hx:xs.drop off with
 | nil=>rw[hx] at h;cases h
 | cons b r =>
  rw[hx] at h
  simp only[List.take_succ_cons,List.cons.injEq] at h
  refine⟨?_,by rw[hd,hx];simpa using h.2⟩
  have e:xs[off]?=some b:=by
   have:=List.getElem?_drop (xs:=xs) (i:=off) (j:=0)
   rw[hx] at this
   simpa using this.symm
  rw[List.getD_eq_getElem?_getD,e];exact h.1
theorem ref12_Past (ps:List Pr) (hs:Sm ps) (hm:msgF ps=none) (hn:1≤ps.length) (p:Nat) (hp:p<ps.length) (i:Nat) (hi:i<ps[p].evs.length):PC Proofs.Tryz.prog 82 [aTr ps,aEid (p,(i:Int)+1)] (pastA ps ((p:Int),(i:Int)+1)):=by
 have hl:=hs.procs
 refine PC.enter 75 [.tmp 4] [2,3,8,28,72] Proofs.Tryz.func82 rfl rfl rfl rfl rfl (by simp) (AWp.of ?_);simp only[go_sem]
 refine Sd ?_
 refine AWp.of ?_;simp only[go_sem]
 refine AWp.cut [2,3,5] (fun vs L=>∃bo cap,vs=[.rp 1 [aTr ps] 0 0,.rp 2 [aEid (p,(i:Int)+1)] 0 0,.ls bo 1 0 ps.length cap]∧RSt ps.length bo cap (pRow ps []) L) ?_ ?_
 ·refine Wk ?_
  refine AWp.block (AWp.count 6 ps.length [5] [2,3] (fun k vs L=>∃v Lv V Ls,vs=[v]∧L.Perm (Lv ++ famL k Ls)∧AppSt 124 1 ((List.range k).map V) v Lv∧∀q,q<k→AppSt 4 1 (pRow ps [] q) (V q) (Ls q))
   rfl rfl ⟨anil,[],fun _=>anil,fun _=>[],rfl,.refl _,.nil,fun q hq=>by omega⟩ ?_)
  rintro k vs L hk - ⟨v,Lv,V,Ls,rfl,hP,hA,hF⟩
  refine AWp.perm hP ?_
  simp only[go_sem]
  refine Wk ?_
  refine⟨fun h1 => ?_,fun h1 => ?_⟩
  ·have hkp:k<ps.length:=by omega
   have hel:=hs.evs _ (List.getElem_mem hkp)
   have e1:((ps[k].evs.length:Int)+1).toNat=nev ps k+1:=by rw[nev_get hkp];omega
   have hz:ab false :: List.replicate (nev ps k) (ab false)=pRow ps [] k:=by rw[pRow_nil,List.replicate_succ]
   have hzl:=pRow_length ps [] k
   -- the family with one row more
   have hfam:∀b:Nat,(famL (k+1) (fun q=>if q=k then [(b,ABlk.row 4 1 (pRow ps [] k) (nev ps k+1))] else Ls q)).Perm ((b,.row 4 1 (pRow ps [] k) (nev ps k+1)) :: famL k Ls):=fun b=>by
    unfold famL
    rw[List.range_succ,List.flatMap_append]
    have e:(List.range k).flatMap (fun q=>if q=k then [(b,ABlk.row 4 1 (pRow ps [] k) (nev ps k+1))] else Ls q)=(List.range k).flatMap Ls :=
     flatMap_ext fun q hq=>if_neg (by have:=List.mem_range.1 hq;omega)
    rw[e]
    simp only[List.flatMap_cons,List.flatMap_nil,if_true]
    exact List.perm_append_comm (l₂:=[_])
   have hmap:∀x,(List.range k ++ [k]).map (fun q=>if q=k then x else V q)=(List.range k).map V ++ [x]:=fun x=>by
    rw[List.map_append]
    congr 1
    ·refine List.map_congr_left fun q hq=>if_neg (by have:=List.mem_range.1 hq;omega)
    ·simp
   have hAll:∀b:Nat,∀q,q<k+1→AppSt 4 1 (pRow ps [] q) (if q=k then .ls b 1 0 (nev ps k+1) (nev ps k+1) else V q) (if q=k then [(b,ABlk.row 4 1 (pRow ps [] k) (nev ps k+1))] else Ls q):=fun b q hq=>by
    by_cases e:q=k
    ·subst e
     rw[if_pos rfl,if_pos rfl]
     have:=AppSt.row (t:=4) (k:=1) b (pRow ps [] q) (nev ps q+1)
     rwa [hzl] at this
    ·rw[if_neg e,if_neg e];exact hF q (by omega)
   have hyl:((List.range k).map V).length=k:=by simp
   generalize (List.range k).map V=ys at *
   rcases hA.inv with ⟨e2,rfl,rfl⟩|⟨bv,cap,rfl,rfl⟩
   ·refine Sd ?_
    refine AWp.of ?_;simp only[go_sem,getD_map hkp,e1]
    refine Sd ?_
    intro b hb b' cap' g1 g2 g3
    rw[hz]
    refine Wk ?_
    refine⟨_,List.Sublist.refl _,.ls b' 1 0 1 cap',[(b',.row 124 1 [.ls b 1 0 (nev ps k+1) (nev ps k+1)] cap')],_,_,rfl,List.Perm.cons _ (hfam b).symm,?_,hAll b⟩
    rw[hmap,e2]
    exact .row _ [_] _
   ·refine Sd ?_
    refine AWp.of ?_;simp only[go_sem,getD_map hkp,e1]
    refine Sd ?_
    intro b hb g0
    have nb:¬bv=b:=by omega
    simp only[go_sem,nb]
    refine Sd ?_
    intro b' cap' g1 g2 g3
    rw[hz]
    refine Wk ?_
    refine⟨_,List.Sublist.refl _,.ls b' 1 0 (ys.length+1) cap',[(b',.row 124 1 (ys ++ [.ls b 1 0 (nev ps k+1) (nev ps k+1)]) cap')],_,_,rfl,List.Perm.cons _ (hfam b).symm,?_,hAll b⟩
    rw[hmap]
    have:=AppSt.row (t:=124) (k:=1) b' (ys ++ [.ls b 1 0 (nev ps k+1) (nev ps k+1)]) cap'
    simpa using this
  ·have hkn:k=ps.length:=by omega
   subst hkn
   rcases hA.inv with ⟨e2,rfl,rfl⟩|⟨bv,cap,rfl,rfl⟩
   ·have h9:ps.length=0:=by have:=congrArg List.length e2;simpa using this
    omega
   ·refine⟨_,List.Sublist.refl _,bv,cap,?_,V,Ls,.refl _,hF⟩
    simp
 ·rintro vs L - ⟨bo,cap,rfl,hR⟩
  have hdir:=ref12_Directly ps hs p hp i hi
  simp only[go_sem]
  have hE:=evIds_small hs
  refine AWp.cut [2,5,7] (fun vs L=>∃v Lq L1,vs=[.rp 1 [aTr ps] 0 0,.ls bo 1 0 ps.length cap,v]∧L.Perm (Lq ++ L1)∧AppSt 89 2 ((dirL ps p i).map aEid) v Lq∧RSt ps.length bo cap (pRow ps []) L1) ?_ ?_
  ·refine Sd ?_
   refine AWp.of ?_;simp only[go_sem]
   refine((hdir.val).frame (Lr:=L)).mono ?_
   rintro r L' ⟨Lq,rfl,hA⟩
   have hfo:=hA.fo
   simp only[go_sem,hfo]
   exact⟨_,List.Sublist.refl _,r,Lq,L,rfl,.refl _,hA,hR⟩
  ·rintro vs L' - ⟨v,Lq,L1,rfl,hP,hA,hR⟩
   refine AWp.queue hP hA fun hQ => ?_
   simp only[go_sem]
   refine AWp.seq (AWp.block (AWp.loopN [7] [2,5] (fun m vs L=>∃seen q v Lq L1,vs=[v]∧L.Perm (Lq ++ L1)∧QSt q v Lq∧RSt ps.length bo cap (pRow ps seen) L1∧Psr ps ((p:Int),(i:Int)+1) seen q∧m=3 * ((evIds ps).length - seen.length)+q.length)
    (3 * ((evIds ps).length - 0)+(dirL ps p i).length) ?_ ?_))
   ·exact⟨[],_,v,Lq,L1,rfl,hP,hQ,hR,Psr.start hm hp hi,rfl⟩
   rintro m vs L - ⟨seen,q,v,Lq,L1,rfl,hP,hQ,hR,hS,rfl⟩
   -- the end,where the queue is empty
   have hend:q=[]→fo v=(True,v)→True:=fun _ _=>trivial
   rcases hQ with ⟨rfl,rfl,rfl⟩|⟨b,off,cq,capq,xs,rfl,rfl,hxs,hl1,hl2,hl3⟩
   ·simp only[go_sem]
    refine Wk ?_
    intro _
    obtain⟨V,Ls,hPr,hF⟩:=hR
    have hP2:=hP.trans (List.Perm.append_left _ hPr)
    obtain⟨Lx,hLx⟩:∃Lx:AHeap,Lx=[]:=⟨_,rfl⟩
    rw[← hLx] at hP2
    refine AWp.nodup fun hnd => ?_
    have hP3:L.Perm (famL ps.length Ls ++ ((bo,.row 124 1 ((List.range ps.length).map V) cap) :: Lx)):=hP2.trans ((List.perm_append_comm (l₁:=Lx)).trans ((List.perm_append_comm (l₁:=[_])).append_right _ |>.trans (by rw[List.append_assoc];exact .refl _)))
    have hnd':((famL ps.length Ls).map (·.1)).Nodup:=by
     have:=(hP3.map (·.1)).nodup_iff.1 hnd
     rw[List.map_append,List.nodup_append] at this
     exact this.1
    refine AWp.viewP hP3 (.row (fam_views hnd' hF) (LVw.none _)) [] (by simp) ?_
    simp only[go_sem]
    refine Wk ?_
    refine ret_view [true] ?_;simp only[go_sem]
    rw[← pastA_of hS]
    exact Vw.ofLs (t:=124) (cap:=cap) (if_pos rfl) (by simp)
   ·cases q with
    | nil =>
     simp only[go_sem]
     refine Wk ?_
     intro _
     obtain⟨V,Ls,hPr,hF⟩:=hR
     have hP2:=hP.trans (List.Perm.append_left _ hPr)
     obtain⟨Lx,hLx⟩:∃Lx:AHeap,Lx=[(b,.row 89 2 xs capq)]:=⟨_,rfl⟩
     rw[← hLx] at hP2
     refine AWp.nodup fun hnd => ?_
     have hP3:L.Perm (famL ps.length Ls ++ ((bo,.row 124 1 ((List.range ps.length).map V) cap) :: Lx)):=hP2.trans ((List.perm_append_comm (l₁:=Lx)).trans ((List.perm_append_comm (l₁:=[_])).append_right _ |>.trans (by rw[List.append_assoc];exact .refl _)))
     have hnd':((famL ps.length Ls).map (·.1)).Nodup:=by
      have:=(hP3.map (·.1)).nodup_iff.1 hnd
      rw[List.map_append,List.nodup_append] at this
      exact this.1
     refine AWp.viewP hP3 (.row (fam_views hnd' hF) (LVw.none _)) [] (by simp) ?_
     simp only[go_sem]
     refine Wk ?_
     refine ret_view [true] ?_;simp only[go_sem]
     rw[← pastA_of hS]
     exact Vw.ofLs (t:=124) (cap:=cap) (if_pos rfl) (by simp)
    | cons y q' =>
     simp only[List.length_cons,List.map_cons] at hxs hl1 hl2
     obtain⟨hg0,htl⟩:=queue_tail hxs
     have hsz:=hS.size
     have hsm:=hS.small
     simp only[List.length_cons] at hsz
     obtain⟨⟨py,hpy,iy,hiy,rfl⟩,hreach⟩:=hS.qv y List.mem_cons_self
     have hnv:=nev_get hpy
     have hely:=hs.evs _ (List.getElem_mem hpy)
     obtain⟨V,br,cp,X,hPr,hVr,hcl⟩:=hR.open hpy (by rw[pRow_length];omega)
     refine AWp.perm (hP.trans (hPr.cons _)) (AWp.nodup fun hnd => ?_)
     obtain⟨⟨m1,m2⟩,⟨m3,m4⟩,⟨m5,m6⟩,_⟩:=nd3 hnd
     have hgV:((List.range ps.length).map V).getD py .any = .ls br 1 0 (nev ps py+1) cp:=by rw[map_range_getD hpy,hVr,pRow_length]
     have hgr:(pRow ps seen py).getD ((iy:Int)+1).toNat .any=ab (decide (((py:Int),(iy:Int)+1) ∈ seen)):=by
      have e:((iy:Int)+1).toNat=iy+1:=by omega
      rw[e,pRow_get (by omega)];simp
     have hrl:=pRow_length ps seen py
     simp only[go_sem]
     refine Wk ?_
     refine⟨fun _ => ?_,fun h=>(by exfalso;omega)⟩
     refine W1 hg0 ?_
     refine Sd ?_
     intro b8 h8 h9 h10 h11
     refine Wk ?_
     refine AWp.seq (AWp.seq ?_)
     repeat(first|(with_reducible refine AWp.seq ?_)|(with_reducible refine AWp.block ?_))
     refine AWp.mix mixed [0,1,2,3,5,6] (.step 4 (.step 7 (.step 8 .done .done) .done) .done) (by kernel_rfl) ?_;simp only[go_sem,m1,m2,m3,m4,m5,m6,hgV,hgr,hrl,List.length_range]
     refine Sd ?_
     refine Wk ?_
     refine⟨fun h1 => ?_,fun h1 => ?_⟩
     ·refine Wk ?_
      refine⟨_,List.Sublist.refl _,3 * ((evIds ps).length - seen.length)+q'.length,by omega,seen,q',_,[(b,.row 89 2 xs capq)],(bo,.row 124 1 ((List.range ps.length).map V) cap) :: (br,.row 4 1 (pRow ps seen py) cp) :: X,rfl,.refl _,?_,hR.perm hPr.symm,hS.skip h1,rfl⟩
      exact .inr ⟨b,off+1,cq - 1,capq,xs,by rw[Nat.add_sub_cancel],rfl,htl,by omega,by omega,by omega⟩
     ·have hset:(pRow ps seen py).set ((iy:Int)+1).toNat (ab true)=pRow ps (((py:Int),(iy:Int)+1) :: seen) py:=by
       have e:((iy:Int)+1).toNat=iy+1:=by omega
       rw[e];exact pRow_set
      have hR2:RSt ps.length bo cap (pRow ps (((py:Int),(iy:Int)+1) :: seen)) ((bo,.row 124 1 ((List.range ps.length).map V) cap) :: (br,.row 4 1 (pRow ps (((py:Int),(iy:Int)+1) :: seen) py) cp) :: X) :=
       hcl _ _ (fun q hq=>pRow_other (k:=iy+1) hq) (by rw[pRow_length,pRow_length]) (.refl _)
      have hmk:=Psr.mark hm hpy hiy hS h1
      have hdir2:=ref12_Directly ps hs py hpy iy hiy
      have hd2:=dirL_length ps py iy
      have hms:=hmk.small
      simp only[List.length_cons] at hms
      refine AWp.seq ?_
      repeat(first|(with_reducible refine AWp.seq ?_)|(with_reducible refine AWp.block ?_))
      refine AWp.mix mixed [0,1,2,3,5,6] (.step 4 (.step 7 (.step 8 .done .done) .done) .done) (by kernel_rfl) ?_;simp only[go_sem,m1,m2,m3,m4,m5,m6,hgV,hgr,hrl,List.length_range]
      refine Sd ?_
      rw[hset]
      generalize dirL ps py iy=dl at *
      obtain⟨LR,hLR⟩:∃LR:AHeap,LR=(bo,.row 124 1 ((List.range ps.length).map V) cap) :: (br,.row 4 1 (pRow ps (((py:Int),(iy:Int)+1) :: seen) py) cp) :: X:=⟨_,rfl⟩
      rw[← hLR] at hR2 ⊢
      refine Wk ?_
      refine((hdir2.val).frame (Lr:=(b,.row 89 2 xs capq) :: LR)).mono ?_
      rintro r L' ⟨Ln,rfl,hAn⟩
      have hfo:=hAn.fo
      simp only[go_sem,hfo]
      refine AWp.viewP (Lf:=Ln) (Lk:=(b,.row 89 2 xs capq) :: LR) (.refl _) (LVw.refl _) [(9,.sl 2 (dl.map aEid))] ?_ ?_
      ·intro q hq
       simp only[List.mem_singleton] at hq
       subst hq
       have:=hAn.vw []
       rw[List.append_nil] at this
       show Vw Ln _ (.sl 2 (dl.map aEid))
       simpa only [get,if_true] using this
      simp only[go_sem]
      refine Wk ?_
      refine AWp.block (AWp.count 10 dl.length [7] [2,5,9] (fun j vs L=>∃v Lq L1,vs=[v]∧L.Perm (Lq ++ L1)∧QSt (q' ++ dl.take j) v Lq∧RSt ps.length bo cap (pRow ps (((py:Int),(iy:Int)+1) :: seen)) L1) rfl rfl ?_ ?_)
      ·refine⟨_,[(b,.row 89 2 xs capq)],LR,rfl,.refl _,?_,hR2⟩
       rw[List.take_zero,List.append_nil]
       exact .inr ⟨b,off+1,cq - 1,capq,xs,rfl,rfl,htl,by omega,by omega,by omega⟩
      rintro j vs L hj - ⟨w,Lw,L2,rfl,hPw,hQw,hRw⟩
      refine AWp.perm hPw ?_
      simp only[go_sem]
      refine Wk ?_
      refine⟨fun h2 => ?_,fun h2 => ?_⟩
      ·have hjd:j<dl.length:=by omega
       have hgj:=getD_map (f:=aEid) hjd
       have hsu:q' ++ dl.take (j+1)=(q' ++ dl.take j) ++ [dl[j]]:=by rw[List.take_succ_eq_append_getElem hjd,List.append_assoc]
       have hql:(q' ++ dl.take j).length≤q'.length+2:=by rw[List.length_append,List.length_take];omega
       obtain⟨qq,hqq⟩:∃qq,q' ++ dl.take j=qq:=⟨_,rfl⟩
       rw[hqq] at hQw hsu hql
       generalize dl[j]=z at *
       rcases hQw with ⟨rfl,rfl,rfl⟩|⟨bw,ow,cw,capw,ys,rfl,rfl,hys,y1,y2,y3⟩
       ·refine Sd ?_
        refine AWp.of ?_;simp only[go_sem,hgj]
        refine Sd ?_
        intro b' cap' g1 g2
        refine Wk ?_
        refine⟨_,List.Sublist.refl _,.ls b' 2 0 1 cap',[(b',.row 89 2 [aEid z] cap')],L2,rfl,.refl _,.inr ⟨b',0,cap',cap',[aEid z],by rw[hsu];rfl,rfl,by rw[hsu];simp,by rw[hsu];simp,by rw[hsu];simpa using g2,by omega⟩,hRw⟩
       ·have hzl:(qq ++ [z]).length=qq.length+1:=by simp
        cases ow with
        | zero =>
         simp only[Nat.zero_add] at y3 y1
         subst y3
         rw[List.drop_zero] at hys
         refine Sd ?_
         refine AWp.of ?_;simp only[go_sem,hgj]
         refine Sd ?_
         intro b' cap' g1 g2
         refine Wk ?_
         refine⟨_,List.Sublist.refl _,.ls b' 2 0 (qq.length+1) cap',[(b',.row 89 2 (ys.take qq.length ++ [aEid z]) cap')],L2,rfl,.refl _,.inr ⟨b',0,cap',cap',_,by rw[hsu,hzl],rfl,?_,?_,by rw[hsu,hzl];exact g2,by omega⟩,hRw⟩
         ·rw[hsu,hys,List.drop_zero,List.take_of_length_le (by simp)];simp
         ·rw[hsu,hys];simp
        | succ ow =>
         refine Sd ?_
         refine AWp.of ?_;simp only[go_sem,hgj]
         refine Sd ?_
         refine⟨fun g2 => ?_,fun b' cap' g1 g2 => ?_⟩
         ·refine Wk ?_
          refine⟨_,List.Sublist.refl _,.ls bw 2 (ow+1) (qq.length+1) cw,[(bw,.row 89 2 (ys.take (ow+1+qq.length) ++ [aEid z]) capw)],L2,rfl,.refl _,.inr ⟨bw,ow+1,cw,capw,_,by rw[hsu,hzl],rfl,?_,?_,by rw[hsu,hzl];exact g2,y3⟩,hRw⟩
          ·have hd:(ys.take (ow+1+qq.length)).drop (ow+1)=qq.map aEid:=by
            rw[List.drop_take,Nat.add_sub_cancel_left];exact hys
           rw[hsu,List.drop_append_of_le_length (by rw[List.length_take];omega),hd,List.take_of_length_le (by simp)];simp
          ·rw[hsu,hzl,List.length_append,List.length_take];simp only[List.length_cons,List.length_nil];omega
         ·intro g3
          refine Wk ?_
          refine⟨_,List.Sublist.refl _,.ls b' 2 0 (qq.length+1) cap',[(b',.row 89 2 ((ys.drop (ow+1)).take qq.length ++ [aEid z]) cap')],L2,rfl,.refl _,.inr ⟨b',0,cap',cap',_,by rw[hsu,hzl],rfl,?_,?_,by rw[hsu,hzl];omega,by omega⟩,hRw⟩
          ·rw[hsu,hys,List.drop_zero,List.take_of_length_le (by simp)];simp
          ·rw[hsu,hys];simp
      ·refine Wk ?_
       refine⟨_,List.Sublist.refl _,3 * ((evIds ps).length - (seen.length+1))+(q' ++ dl).length,?_,_,_,w,Lw,L2,rfl,.refl _,?_,hRw,hmk,by simp⟩
       ·rw[List.length_append];omega
       ·rwa [List.take_of_length_le (by omega)] at hQw
theorem pairF_zero {ps:List Pr} (h:∀p (hp:p<ps.length) i (hi:i<ps[p].evs.length),pairF ps (off ps p+i)=0):msgF ps=none:=by
 refine msgF_none fun k hk => ?_
 obtain⟨p,hp,i,hi,e,_⟩:=evIds_inv (List.getElem?_eq_getElem hk)
 rw[e];exact h p hp i hi
def Ahead (ps:List Pr) (f:Nat→Nat→Prop) (p i:Nat):Prop:=(∀q (hq:q<ps.length) j,q<p→j<ps[q].evs.length→f q j)∧∀j,j<i→f p j
theorem Ahead.next {ps:List Pr} {f:Nat→Nat→Prop} {p i:Nat} (h:Ahead ps f p i) (hf:f p i):Ahead ps f p (i+1) :=
 ⟨h.1,fun j hj=>by
  by_cases e:j=i
  ·rw[e];exact hf
  ·exact h.2 j (by omega)⟩
theorem Ahead.row {ps:List Pr} {f:Nat→Nat→Prop} {p:Nat} (hp:p<ps.length) (h:Ahead ps f p ps[p].evs.length):Ahead ps f (p+1) 0 :=
 ⟨fun q hq j hqp hj=>by
  by_cases e:q=p
  ·subst e;exact h.2 j hj
  ·exact h.1 q hq j (by omega) hj,fun j hj=>by omega⟩
theorem Ahead.idx {ps:List Pr} {f:Nat→Nat→Prop} {p i:Nat} (hp:p<ps.length) (hi:i≤ps[p].evs.length) (h:Ahead ps f p i) {q j:Nat} (hq:q<ps.length) (hj:j<ps[q].evs.length) (hlt:off ps q+j<off ps p+i):f q j:=by
 have mono:∀a b,a≤b→b≤ps.length→off ps a≤off ps b:=by
  intro a b hab hb
  induction b with
  | zero=>have:a=0:=by omega
          subst this;exact Nat.le_refl _
  | succ b ih =>
   by_cases e:a=b+1
   ·subst e;exact Nat.le_refl _
   ·have:=ih (by omega) (by omega)
    rw[off_succ (by omega)];omega
 by_cases h1:q<p
 ·exact h.1 q hq j h1 hj
 ·by_cases h2:q=p
  ·subst h2;exact h.2 j (by omega)
  ·have h3:=mono (p+1) q (by omega) (by omega)
   rw[off_succ hp] at h3
   omega
open Classical in
noncomputable def pastR (ps:List Pr) (x:Eid) (p:Nat):List AV:=(List.range (nev ps p+1)).map fun (k:Nat)=>ab (decide (VEv ps ((p:Int),(k:Int))∧Reach ps ((p:Int),(k:Int)) x))
theorem pastA_eq (ps:List Pr) (x:Eid):pastA ps x = .sl 1 ((List.range ps.length).map fun p => .sl 1 (pastR ps x p)):=rfl
open Classical in
theorem pastR_get {ps:List Pr} (x:Eid) {p:Nat} (hp:p<ps.length) {i:Nat} (hi:i<ps[p].evs.length):(pastR ps x p).getD ((i:Int)+1).toNat .any=ab (decide (Reach ps ((p:Int),(i:Int)+1) x)):=by
 have e:((i:Int)+1).toNat=i+1:=by omega
 unfold pastR
 rw[e,map_range_getD (by rw[nev_get hp];omega)]
 have hc:(((i+1:Nat):Int))=(i:Int)+1:=rfl
 rw[hc]
 have hv:VEv ps ((p:Int),(i:Int)+1):=⟨p,hp,i,hi,rfl⟩
 congr 2
 exact propext ⟨fun h=>h.2,fun h=>⟨hv,h⟩⟩
theorem ref12_Fault (ps:List Pr) (hs:Sm ps):PC Proofs.Tryz.prog 49 [aTr ps] (aFault (faultF ps)):=by
 have hl:=hs.procs
 refine PC.enter 137 [.cell 2 89,.tmp 3] [1,11,15] Proofs.Tryz.func49 rfl rfl rfl rfl rfl (by simp) (AWp.of ?_);simp only[go_sem]
 intro b2
 refine Wk ?_
 refine Wk ?_
 refine⟨fun h1 => ?_,fun h1 => ?_⟩
 ·refine Wk ?_
  have hf:faultF ps=((0,0),1):=by
   unfold faultF
   rw[if_pos]
   unfold inI
   rw[Bool.not_eq_true',← Bool.not_eq_true,Bool.and_eq_true,decide_eq_true_eq,decide_eq_true_eq]
   omega
  rw[hf]
  refine ret_eq ?_
  simp only[go_sem]
 ·intro h1'
  have hin:¬((!inI ps.length 1 8)=true):=by
   unfold inI
   rw[Bool.not_eq_true',← Bool.not_eq_true,Bool.and_eq_true,decide_eq_true_eq,decide_eq_true_eq]
   omega
  refine Wk ?_
  refine AWp.block (AWp.count 4 ps.length [] [1,2] (fun k vs L=>L=[(b2,.row 89 2 [aEid (0,0)] 1)]∧∀j,j<k→procF ps j=0) rfl rfl ⟨by simp [aEid],by omega⟩ ?_)
  rintro k vs L hk - ⟨rfl,hI⟩
  simp only[go_sem]
  refine Wk ?_
  refine⟨fun h2 => ?_,fun h2 => ?_⟩
  ·have hkp:k<ps.length:=by omega
   refine Wk ?_
   refine Sd ?_
   refine(ref12_head ps hs k hkp).val.use ?_;simp only[go_sem]
   refine Wk ?_
   refine⟨fun h3 => ?_,fun h3 => ?_⟩
   ·refine Wk ?_
    have hf:faultF ps=(((k:Int),0),procF ps k):=by unfold faultF;rw[if_neg hin,procFirst_hit hkp hI h3]
    rw[hf]
    refine ret_eq ?_
    simp only[go_sem]
   ·refine Wk ?_
    refine⟨_,List.Sublist.refl _,rfl,fun j hj => ?_⟩
    by_cases e:j=k
    ·rw[e];exact h3
    ·exact hI j (by omega)
  ·have hpf:=procFirst_none (ps:=ps) fun j hj=>hI j (by omega)
   refine Wk ?_
   refine AWp.block (AWp.count 6 ps.length [] [1,2] (fun p vs L=>L=[(b2,.row 89 2 [aEid (0,0)] 1)]∧Ahead ps (fun q j=>evF ps q j=0) p 0) rfl rfl ⟨by simp [aEid],fun _ _ _ h=>by omega,fun j hj=>by omega⟩ ?_)
   rintro p vs L hp - ⟨rfl,hA⟩
   simp only[go_sem]
   refine Wk ?_
   refine⟨fun h4 => ?_,fun h4 => ?_⟩
   ·have hpp:p<ps.length:=by omega
    have hgP:=getD_map (f:=aPr) hpp
    have hel:=hs.evs _ (List.getElem_mem hpp)
    refine Wk ?_
    refine AWp.block (AWp.count 7 ps[p].evs.length [] [1,2,6] (fun i vs L=>L=[(b2,.row 89 2 [aEid (0,0)] 1)]∧Ahead ps (fun q j=>evF ps q j=0) p i) rfl rfl ⟨by simp [aEid],hA⟩ ?_)
    rintro i vs L hi - ⟨rfl,hB⟩
    simp only[go_sem]
    refine W1 hgP ?_
    refine⟨fun h5 => ?_,fun h5 => ?_⟩
    ·have hie:i<ps[p].evs.length:=by omega
     refine Wk ?_
     refine Sd ?_
     refine(ref12_form ps hs p hpp i hie).val.use ?_;simp only[go_sem]
     refine Wk ?_
     refine⟨fun h6 => ?_,fun h6 => ?_⟩
     ·refine Wk ?_
      have hat:evAt ps ((p:Int),(i:Int)+1)=evF ps p i:=by simp only[evAt,Int.toNat_natCast,show ((i:Int)+1 - 1).toNat=i by omega]
      have hhit:=evFirst_hit (evIds_get hpp hie) (fun j y hj hy=>by
       obtain⟨q,hq,r,hr,e,rfl⟩:=evIds_inv hy
       have:=hB.idx hpp (by omega) hq hr (by omega)
       simpa only [evAt,Int.toNat_natCast,show ((r:Int)+1 - 1).toNat=r by omega] using this) (by rw[hat];exact h6)
      have hf:faultF ps=(((p:Int),(i:Int)+1),evF ps p i):=by unfold faultF;rw[if_neg hin,hpf,hhit,hat]
      rw[hf]
      refine ret_eq ?_
      simp only[go_sem]
     ·refine Wk ?_
      exact⟨_,List.Sublist.refl _,rfl,hB.next h6⟩
    ·have e:i=ps[p].evs.length:=by omega
     rw[e] at hB
     refine Wk ?_
     exact⟨_,List.Sublist.refl _,rfl,hB.row hpp⟩
   ·have hpn:p=ps.length:=by omega
    have hef:evFirst ps=none:=evFirst_none fun j y hy=>by
     obtain⟨q,hq,r,hr,e,rfl⟩:=evIds_inv hy
     have:=hA.1 q hq r (by omega) hr
     simpa only [evAt,Int.toNat_natCast,show ((r:Int)+1 - 1).toNat=r by omega] using this
    have hfm:=formed_of_evFirst hef
    clear hA
    refine Wk ?_
    refine AWp.block (AWp.count 9 ps.length [] [1,2] (fun p vs L=>L=[(b2,.row 89 2 [aEid (0,0)] 1)]∧Ahead ps (fun q j=>pairF ps (off ps q+j)=0) p 0) rfl rfl ⟨by simp [aEid],fun _ _ _ h=>by omega,fun j hj=>by omega⟩ ?_)
    rintro p vs L hp - ⟨rfl,hA⟩
    simp only[go_sem]
    refine Wk ?_
    refine⟨fun h4 => ?_,fun h4 => ?_⟩
    ·have hpp:p<ps.length:=by omega
     have hgP:=getD_map (f:=aPr) hpp
     have hel:=hs.evs _ (List.getElem_mem hpp)
     refine Wk ?_
     refine AWp.block (AWp.count 10 ps[p].evs.length [] [1,2,9] (fun i vs L=>L=[(b2,.row 89 2 [aEid (0,0)] 1)]∧Ahead ps (fun q j=>pairF ps (off ps q+j)=0) p i) rfl rfl ⟨by simp [aEid],hA⟩ ?_)
     rintro i vs L hi - ⟨rfl,hB⟩
     simp only[go_sem]
     refine W1 hgP ?_
     refine⟨fun h5 => ?_,fun h5 => ?_⟩
     ·have hie:i<ps[p].evs.length:=by omega
      refine Wk ?_
      intro b11 _
      refine Wk ?_
      refine Sd ?_
      refine(ref12_paired ps hs hfm p hpp i hie).val.use ?_;simp only[go_sem]
      refine Wk ?_
      refine⟨fun h6 => ?_,fun h6 => ?_⟩
      ·refine Wk ?_
       have hhit:=msgF_hit (evIds_get hpp hie) (fun j hj=>by
        have hjl:j<(evIds ps).length:=by have:=(List.getElem?_eq_some_iff.1 (evIds_get hpp hie)).1;omega
        obtain⟨q,hq,r,hr,e,_⟩:=evIds_inv (List.getElem?_eq_getElem hjl)
        rw[e];exact hB.idx hpp (by omega) hq hr (by omega)) h6
       have hf:faultF ps=(((p:Int),(i:Int)+1),pairF ps (off ps p+i)):=by unfold faultF;rw[if_neg hin,hpf,hef,hhit]
       rw[hf]
       refine ret_eq ?_
       simp only[go_sem]
      ·refine Wk ?_
       exact⟨_,List.Sublist.refl _,rfl,hB.next h6⟩
     ·have e:i=ps[p].evs.length:=by omega
      rw[e] at hB
      refine Wk ?_
      exact⟨_,List.Sublist.refl _,rfl,hB.row hpp⟩
    ·have hmf:msgF ps=none:=pairF_zero fun q hq r hr=>hA.1 q hq r (by omega) hr
     clear hA
     have hn1:1≤ps.length:=by omega
     refine Wk ?_
     refine Sd ?_
     refine(ref12_acyclic ps hs hmf hn1).val.use ?_;simp only[go_sem]
     refine Wk ?_
     refine⟨fun h7 => ?_,fun h7 => ?_⟩
     ·refine Wk ?_
      have hf:faultF ps=((0,0),0):=by unfold faultF;rw[if_neg hin,hpf,hef,hmf,acyB_cyc hs hmf h7]
      rw[hf]
      refine ret_eq ?_
      simp only[go_sem]
     ·refine Wk ?_
      refine AWp.block (AWp.count 13 ps.length [] [1,2] (fun p vs L=>L=[(b2,.row 89 2 [aEid (0,0)] 1)]∧Ahead ps (fun q j=>¬Reach ps ((q:Int),(j:Int)+1) ((q:Int),(j:Int)+1)) p 0) rfl rfl ⟨by simp [aEid],fun _ _ _ h=>by omega,fun j hj=>by omega⟩ ?_)
      rintro p vs L hp - ⟨rfl,hA⟩
      simp only[go_sem]
      refine Wk ?_
      refine⟨fun h4 => ?_,fun h4 => ?_⟩
      ·have hpp:p<ps.length:=by omega
       have hgP:=getD_map (f:=aPr) hpp
       have hel:=hs.evs _ (List.getElem_mem hpp)
       refine Wk ?_
       refine AWp.block (AWp.count 14 ps[p].evs.length [] [1,2,13] (fun i vs L=>L=[(b2,.row 89 2 [aEid (0,0)] 1)]∧Ahead ps (fun q j=>¬Reach ps ((q:Int),(j:Int)+1) ((q:Int),(j:Int)+1)) p i) rfl rfl ⟨by simp [aEid],hA⟩ ?_)
       rintro i vs L hi - ⟨rfl,hB⟩
       simp only[go_sem]
       refine W1 hgP ?_
       refine⟨fun h5 => ?_,fun h5 => ?_⟩
       ·have hie:i<ps[p].evs.length:=by omega
        have hpast:=ref12_Past ps hs hmf hn1 p hpp i hie
        rw[pastA_eq] at hpast
        have hg1:((List.range ps.length).map fun q=>AV.sl 1 (pastR ps ((p:Int),(i:Int)+1) q)).getD p .any = .sl 1 (pastR ps ((p:Int),(i:Int)+1) p):=map_range_getD hpp _
        have hg2:=pastR_get ((p:Int),(i:Int)+1) hpp hie
        have hgl:(pastR ps ((p:Int),(i:Int)+1) p).length=ps[p].evs.length+1:=by unfold pastR;rw[List.length_map,List.length_range,nev_get hpp]
        refine Wk ?_
        intro b15 _
        refine Wk ?_
        refine Sd ?_
        refine(hpast).val.use ?_;simp only[go_sem,hg1,hg2,hgl,List.length_range]
        refine Sd ?_
        refine Wk ?_
        refine⟨fun h6 => ?_,fun h6 => ?_⟩
        ·refine Wk ?_
         have hhit:=cycF_hit (evIds_get hpp hie) (fun j y hj hy=>by
          obtain⟨q,hq,r,hr,e,rfl⟩:=evIds_inv hy
          exact hB.idx hpp (by omega) hq hr (by omega)) h6
         have hf:faultF ps=(((p:Int),(i:Int)+1),10):=by unfold faultF;rw[if_neg hin,hpf,hef,hmf,hhit]
         rw[hf]
         refine ret_eq ?_
         simp only[go_sem]
        ·refine Wk ?_
         exact⟨_,List.Sublist.refl _,rfl,hB.next h6⟩
       ·have e:i=ps[p].evs.length:=by omega
        rw[e] at hB
        refine Wk ?_
        exact⟨_,List.Sublist.refl _,rfl,hB.row hpp⟩
      ·have hcf:cycF ps=none:=cycF_none fun j y hy=>by
        obtain⟨q,hq,r,hr,e,rfl⟩:=evIds_inv hy
        exact hA.1 q hq r (by omega) hr
       refine Wk ?_
       have hf:faultF ps=((0,0),0):=by unfold faultF;rw[if_neg hin,hpf,hef,hmf,hcf]
       rw[hf]
       refine ret_eq ?_
       simp only[go_sem]
theorem ref12_Valid (ps:List Pr) (hs:Sm ps):PC Proofs.Tryz.prog 22 [aTr ps] (ab (validF ps)):=by
 refine PC.enter 12 [.tmp 2] [1,3] Proofs.Tryz.func22 rfl rfl rfl rfl rfl (by simp) (AWp.of ?_);simp only[go_sem]
 refine Wk ?_
 refine Sd ?_
 refine(ref12_Fault ps hs).val.use ?_;simp only[go_sem]
 refine Sd ?_
 intros
 refine AWp.of ?_;simp only[go_sem]
 refine Wk ?_
 refine ret_eq ?_;simp only[go_sem]
 rfl
end Go.AL
end
