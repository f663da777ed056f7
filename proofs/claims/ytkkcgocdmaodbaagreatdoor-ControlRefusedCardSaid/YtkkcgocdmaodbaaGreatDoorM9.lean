/- Texts of this claim's proof: WPt, WPe, WVe, WPg, WPh, WRf9, WPj, WPi, WVt, WVb, WJn, WPw, WPw2. No condition. -/
import Derived.Test.YtkkcgocdmaodbaaGreatDoorM8
import Derived.Test.YtkkcgocdmaodbaaGreatDoorM6
import Derived.Test.YtkkcgocdmaodbaaGreatDoorM7
section
namespace Go.AL
open Go Go.RowKit
set_option maxRecDepth 4000
def truN (k:Int) (v:List Int) (b:List Bool):Bool :=
 if k=9 then decide (v.getD 0 0=v.getD 1 0) else if k=10 then !decide (v.getD 0 0=v.getD 1 0) else if k=11 then decide (v.getD 0 0<v.getD 1 0) else if k=12 then decide (v.getD 0 0≤v.getD 1 0) else
 if k=13 then true else if k=14 then false else if k=15 then !b.getD 0 false else if k=16 then b.getD 0 false && b.getD 1 false else b.getD 0 false || b.getD 1 false
mutual
def truF (o:Obs):Pd→Bool
 | .mk k _ _ _ _ l=>truN k (valL o l) (truL o l)
def truL (o:Obs):List Pd→List Bool
 | []=>[]
 | x :: r=>truF o x :: truL o r
end
theorem truL_map (o:Obs):∀l,truL o l=l.map (truF o)
 | []=>by rw[truL];rfl
 | x :: r=>by rw[truL,truL_map o r];rfl
theorem truF_mk (o:Obs) (k n p q:Int) (s:ByteArray) (l:List Pd):truF o (.mk k n p q s l)=truN k (l.map (valF o)) (l.map (truF o)):=by rw[truF,truL_map,valL_map]
def agrB (o o':Obs):Pd→Prop
 | .mk k _ p q s _=>(k=2→o.var p s=o'.var p s)∧(k=3→o.cnt p=o'.cnt p)∧(k=4→o.chn p q=o'.chn p q)
theorem valF_congr {ps:List Pr} {o o':Obs} (t:Pd):okT ps t=true→t.kind≤8→AllP (agrB o o') t→valF o t=valF o' t:=by
 induction t using Pd.ind with
 | _ k n p q s l ih =>
 intro ht hk ha
 obtain⟨⟨a2,a3,a4⟩,hs⟩:=AllP_sub ha
 have hch:=child_le ht (show k≤12 by simp only[Pd.kind] at hk;omega)
 obtain⟨h1,_⟩:=okT_sub ht
 obtain⟨hpl,_⟩:=loc_len h1
 rw[valF_mk,valF_mk]
 have e:l.map (valF o)=l.map (valF o'):=List.map_congr_left fun x hx=>ih x hx (hch x hx).1 (hch x hx).2 (hs x hx)
 rw[e]
 cases l with
 | nil =>
  simp only[Pd.kind] at hk
  simp only[List.map_nil,valN]
  have:1≤k∧k≤4:=by rcases parts_cases k with ⟨_,hc⟩|⟨e,hc⟩|⟨e,hc⟩|e <;> simp at hpl <;> omega
  by_cases k1:k=1
  ·rw[if_pos k1,if_pos k1]
  by_cases k2:k=2
  ·rw[if_neg k1,if_pos k2,if_neg k1,if_pos k2,a2 k2]
  by_cases k3:k=3
  ·rw[if_neg k1,if_neg k2,if_pos k3,if_neg k1,if_neg k2,if_pos k3,a3 k3]
  ·rw[if_neg k1,if_neg k2,if_neg k3,if_neg k1,if_neg k2,if_neg k3,a4 (by omega)]
 | cons a r=>cases r <;> rfl
theorem child_bool {ps:List Pr} {k n p q:Int} {s:ByteArray} {l:List Pd} (h:okT ps (.mk k n p q s l)=true) (hk:13≤k):∀x ∈ l,okT ps x=true∧9≤x.kind:=by
 intro x hx
 obtain⟨h1,h2⟩:=(okT_sub h).2.2.2 x hx
 refine⟨h1,?_⟩
 unfold needF at h2
 rw[if_neg (by omega)] at h2
 unfold resF at h2
 split at h2 <;> omega
def tempB:Pd→Bool | .mk k _ _ _ _ _=>decide (18≤k∧k≤21)
def ntmB (x:Pd):Bool:=!tempB x
theorem truF_congr {ps:List Pr} {o o':Obs} (t:Pd):okT ps t=true→9≤t.kind→AllP (agrB o o') t→truF o t=truF o' t:=by
 induction t using Pd.ind with
 | _ k n p q s l ih =>
 intro ht hk ha
 obtain⟨_,hs⟩:=AllP_sub ha
 simp only[Pd.kind] at hk
 rw[truF_mk,truF_mk]
 by_cases h12:k≤12
 ·have hch:=child_le ht h12
  have e:l.map (valF o)=l.map (valF o'):=List.map_congr_left fun x hx=>valF_congr x (hch x hx).1 (hch x hx).2 (hs x hx)
  rw[e]
  unfold truN
  by_cases k1:k=9
  ·rw[if_pos k1,if_pos k1]
  by_cases k2:k=10
  ·rw[if_neg k1,if_pos k2,if_neg k1,if_pos k2]
  by_cases k3:k=11
  ·rw[if_neg k1,if_neg k2,if_pos k3,if_neg k1,if_neg k2,if_pos k3]
  ·have k4:k=12:=by omega
   rw[if_neg k1,if_neg k2,if_neg k3,if_pos k4,if_neg k1,if_neg k2,if_neg k3,if_pos k4]
 ·have hch:=child_bool ht (by omega)
  have e:l.map (truF o)=l.map (truF o'):=List.map_congr_left fun x hx=>ih x hx (hch x hx).1 (hch x hx).2 (hs x hx)
  rw[e]
  unfold truN
  rw[if_neg (show ¬k=9 by omega),if_neg (show ¬k=10 by omega),if_neg (show ¬k=11 by omega),if_neg (show ¬k=12 by omega),if_neg (show ¬k=9 by omega),if_neg (show ¬k=10 by omega),if_neg (show ¬k=11 by omega),if_neg (show ¬k=12 by omega)]
noncomputable def checkF (ps:List Pr) (t:Pd):Int:=if (validF ps && formedB t)=false then 1 else if allB (resB ps) t=false then 13 else if typedB t=false then 14 else if fitB ps t=false then 9 else 0
theorem checkF_zero {ps:List Pr} {t:Pd} (h:checkF ps t=0):validF ps=true∧formedB t=true∧okT ps t=true∧fitB ps t=true:=by
 unfold checkF at h
 split at h
 ·cases h
 ·rename_i h1
  split at h
  ·cases h
  ·rename_i h2
   split at h
   ·cases h
   ·rename_i h3
    split at h
    ·cases h
    ·rename_i h4
     have h1:(validF ps && formedB t)=true:=by simpa using h1
     rw[Bool.and_eq_true] at h1
     refine⟨h1.1,h1.2,?_,by simpa using h4⟩
     unfold okT
     have h5:=h1.2
     unfold formedB at h5
     simp only[Bool.and_eq_true] at h5 ⊢
     exact⟨⟨h5.2,by simpa using h2⟩,by unfold typedB at h3;simpa using h3⟩
def lclB (pr:Int):Pd→Bool
 | .mk k _ p _ _ _=>if k=4∨(18≤k∧k≤21) then false else if k=2∨k=3 then decide (p=pr) else true
noncomputable def lclF (ps:List Pr) (pr k:Int) (t:Pd):Int :=
 if checkF ps t ≠ 0 then checkF ps t else if ¬(0≤pr∧pr<ps.length∧0≤k∧k≤evN ps pr) then 2 else if t.kind≤8 then 14 else if allB (lclB pr) t=false then 15 else 0
def cutO (ps:List Pr) (c:List Int) (ch:Int→Int→Int):Obs:=⟨fun p s=>match ps[p.toNat]? with|some x=>(stateAt x (c.getD p.toNat 0).toNat).getD (varIx x.vars s).toNat 0|none=>0,fun p=>c.getD p.toNat 0,ch⟩
def stC (n p:Nat) (k:Int):List Int:=(List.replicate n 0).set p k
def stO (ps:List Pr) (p:Nat) (k:Int):Obs:=cutO ps (stC ps.length p k) fun _ _=>0
def lclT (ps:List Pr) (p:Nat) (t:Pd) (k:Int):Bool:=truF (stO ps p k) t
def truthsF (ps:List Pr) (p:Nat) (t:Pd):List Bool:=(List.range ((evN ps p).toNat+1)).map fun (k:Nat)=>lclT ps p t k
theorem intF_le (ps:List Pr) (t:Pd):(intF ps t).1≤(intF ps t).2.1:=by
 induction t using Pd.ind with
 | _ k n p q s l ih =>
 rw[intF_mk]
 have hv:∀(v:Nat) (x:Pr),minL (valsF x v)≤maxL (valsF x v):=fun v x=>by
  have h:=valsF_mem x v (Nat.zero_le x.evs.length)
  have:=minL_le h;have:=le_maxL h;omega
 have h4:∀a b c d:Int,minL [a,b,c,d]≤maxL [a,b,c,d]:=fun a b c d=>by have:=(hull4 a b c d).1;omega
 have h2:∀a b:Bd,a.1≤a.2.1→b.1≤b.2.1→(bd2 k a b).1≤(bd2 k a b).2:=fun a b ha hb=>by
  unfold bd2
  split
  ·simp only;omega
  ·split
   ·simp only;omega
   ·split
    ·simp only;omega
    ·exact h4 _ _ _ _
 match l,ih with
 | [],_ =>
  simp only[List.map_nil,bdN,bdG]
  unfold bdL
  split
  ·exact Int.le_refl _
  ·split
   ·simp only[evN];split <;> omega
   ·split
    ·simp only[msgN];split <;> omega
    ·simp only[varLo,varHi];split
     ·exact hv _ _
     ·exact Int.le_refl _
 | [a],ih =>
  simp only[List.map_cons,List.map_nil,bdN]
  split
  ·exact h2 _ _ (ih a (by simp)) (ih a (by simp))
  ·exact Int.le_refl _
 | a :: b :: r,ih =>
  simp only[List.map_cons,bdN]
  split
  ·exact h2 _ _ (ih a (by simp)) (ih b (by simp))
  ·exact Int.le_refl _
theorem intF_ok (ps:List Pr) (t:Pd) (h:(intF ps t).2.2=true):(-1125899906842624≤(intF ps t).1∧(intF ps t).1≤1125899906842624) ∧ -1125899906842624≤(intF ps t).2.1∧(intF ps t).2.1≤1125899906842624:=by
 have hle:=intF_le ps t
 obtain⟨k,n,p,q,s,l⟩:=t
 rw[intF_mk] at *
 have hg:∀i:Int × Int,(bdG i).2.2=true → -1125899906842624≤(bdG i).1∧(bdG i).2.1≤1125899906842624:=fun i hi=>tooB_false hi
 match l with
 | []=>have:=hg _ h;simp only[List.map_nil,bdN] at *;omega
 | [a] =>
  simp only[List.map_cons,List.map_nil,bdN] at *
  split at h
  ·rename_i e;rw[if_pos e] at *;have:=hg _ h;omega
  ·cases h
 | a :: b :: r =>
  simp only[List.map_cons,bdN] at *
  split at h
  ·rename_i e;rw[if_pos e] at *;have:=hg _ h;omega
  ·cases h
def aIv (a b:Int):AV:=.agg [ai a,ai b]
def aBd (x:Bd):AV:=.tup [aIv x.1 x.2.1,ab x.2.2]
theorem quo_eq {a b:Int} (ha:0≤a) (ha':a≤1125899906842624) (hb:0<b):IntKind.i64.wrap (a.tdiv b)=a / b:=by
 rw[Int.tdiv_eq_ediv_of_nonneg ha]
 have h1:0≤a / b:=Int.ediv_nonneg ha (Int.le_of_lt hb)
 have h2:a / b≤a:=Int.ediv_le_self b ha
 exact wrap_i64 (by unfold I64;omega)
theorem mul_small {a b:Int} (hb:b ≠ 0) (h:¬1125899906842624 / absF b<absF a) : -1125899906842624≤a * b∧a * b≤1125899906842624:=by
 rw[absF_eq,absF_eq] at h
 have hb':(0:Int)<(b.natAbs:Int):=by omega
 have h1:(a.natAbs:Int) * (b.natAbs:Int)≤1125899906842624:=(Int.le_ediv_iff_mul_le hb').1 (by omega)
 have h2:((a * b).natAbs:Int)=(a.natAbs:Int) * (b.natAbs:Int):=by rw[Int.natAbs_mul];rfl
 omega
theorem mulW_eq {a b:Int} (h:I64 (a * b)):mulW a b=a * b:=wrap_i64 h
theorem predtype_abs (a:Int) (ha : -1125899906842625≤a∧a≤1125899906842625):PC Proofs.Tryz.prog 230 [ai a] (ai (absF a)):=by
 have hsp:absF a=if a < -a then -a else a:=rfl
 generalize absF a=x at *
 refine PC.enter 7 [.tmp 2] [] Proofs.Tryz.func230 rfl rfl rfl rfl rfl (by simp) (AWp.of ?_);simp only[go_sem]
 refine Wk ?_
 refine ret_eq ?_;simp only[go_sem]
 rw[hsp]
theorem predtype_product (a b:Int) (ha : -1125899906842625≤a∧a≤1125899906842625) (hb : -1125899906842625≤b∧b≤1125899906842625):PC Proofs.Tryz.prog 204 [ai a,ai b] (ai (timesF a b)):=by
 have h1:=predtype_abs a ha
 have h2:=predtype_abs b hb
 have hsp:timesF a b=if a=0∨b=0 then 0 else if 1125899906842624 / absF b<absF a then (if (decide (a<0) != decide (b<0))=true then -1125899906842625 else 1125899906842625) else a * b:=rfl
 have hms:=fun h=>mul_small (a:=a) (b:=b) h
 have hpos:b ≠ 0→0<absF b:=fun h=>by rw[absF_eq];omega
 have hquo:=fun h=>quo_eq (a:=1125899906842624) (b:=absF b) (by decide) (by decide) h
 have hmw:=fun h=>mulW_eq (a:=a) (b:=b) h
 generalize timesF a b=r at *
 generalize absF a=A at *
 generalize absF b=B at *
 refine PC.enter 29 [.tmp 4] [] Proofs.Tryz.func204 rfl rfl rfl rfl rfl (by simp) (AWp.of ?_);simp only[go_sem]
 refine Wk ?_
 refine⟨fun h3 => ?_,fun h3 => ?_⟩
 ·refine Wk ?_
  refine ret_eq ?_;simp only[go_sem]
  rw[hsp,if_pos h3]
 intro h3'
 rw[if_neg (by intro h;rcases h with h|h;exact h3 h;exact h3' h)] at hsp
 have hB:=hpos h3'
 have hq:=hquo hB
 refine Wk ?_
 refine Sd ?_
 refine(h1).val.use ?_;simp only[go_sem]
 refine Wk ?_
 refine Sd ?_
 refine(h2).val.use ?_;simp only[go_sem]
 refine W1 hq ?_
 refine⟨fun h4 => ?_,fun h4 => ?_⟩
 ·rw[if_pos h4] at hsp
  refine Wk ?_
  refine Wk ?_
  refine⟨fun h5 => ?_,fun h5 => ?_⟩
  ·refine Wk ?_
   refine ret_eq ?_;simp only[go_sem]
   rw[hsp,if_pos (by simpa using h5)]
  ·refine Wk ?_
   refine ret_eq ?_;simp only[go_sem]
   rw[hsp,if_neg (by simpa using h5)]
 rw[if_neg h4] at hsp
 have hm:=hms h3' h4
 refine Wk ?_
 refine ret_eq ?_;simp only[go_sem]
 rw[hsp,hmw (by unfold I64;omega)]
theorem ints_minL (l:List Int) (hl:l.length≤2000000) (h0:0<l.length):PC Proofs.Tryz.prog 228 [aInts l] (ai (minL l)):=by
 have hg0:=getD_map (f:=ai) h0
 have hm1:minL (l.take 1)=l[0]:=by cases l with|nil=>simp at h0|cons a r=>rfl
 have hfull:minL (l.take l.length)=minL l:=by rw[List.take_length]
 generalize minL l=res at *
 refine PC.enter 25 [.tmp 2] [] Proofs.Tryz.func228 rfl rfl rfl rfl rfl (by simp) (AWp.of ?_);simp only[go_sem]
 refine Wk ?_
 intro _
 refine W1 hg0 ?_
 refine AWp.block (AWp.loopN [3,4] [0] (fun m vs L=>∃i:Nat,1≤i∧i≤l.length∧m=l.length - i∧L=[]∧vs=[ai (minL (l.take i)),ai i]) (l.length - 1) ⟨1,by omega,by omega,rfl,rfl,by rw[hm1];rfl⟩ ?_)
 rintro m vs L - ⟨i,i1,i2,rfl,rfl,rfl⟩
 simp only[go_sem]
 refine Wk ?_
 refine⟨fun h3 => ?_,fun h3 => ?_⟩
 ·have hil:i<l.length:=by omega
  have hg:=getD_map (f:=ai) hil
  have ht:=minL_take (l:=l) (by omega) hil
  refine W1 hg ?_
  refine⟨_,List.Sublist.refl _,l.length - (i+1),by omega,i+1,by omega,by omega,rfl,rfl,?_⟩
  rw[ht];rfl
 ·refine Wk ?_
  refine ret_eq ?_;simp only[go_sem]
  rw[← hfull,show i=l.length by omega]
theorem ints_maxL (l:List Int) (hl:l.length≤2000000) (h0:0<l.length):PC Proofs.Tryz.prog 229 [aInts l] (ai (maxL l)):=by
 have hg0:=getD_map (f:=ai) h0
 have hm1:maxL (l.take 1)=l[0]:=by cases l with|nil=>simp at h0|cons a r=>rfl
 have hfull:maxL (l.take l.length)=maxL l:=by rw[List.take_length]
 generalize maxL l=res at *
 refine PC.enter 25 [.tmp 2] [] Proofs.Tryz.func229 rfl rfl rfl rfl rfl (by simp) (AWp.of ?_);simp only[go_sem]
 refine Wk ?_
 intro _
 refine W1 hg0 ?_
 refine AWp.block (AWp.loopN [3,4] [0] (fun m vs L=>∃i:Nat,1≤i∧i≤l.length∧m=l.length - i∧L=[]∧vs=[ai (maxL (l.take i)),ai i]) (l.length - 1) ⟨1,by omega,by omega,rfl,rfl,by rw[hm1];rfl⟩ ?_)
 rintro m vs L - ⟨i,i1,i2,rfl,rfl,rfl⟩
 simp only[go_sem]
 refine Wk ?_
 refine⟨fun h3 => ?_,fun h3 => ?_⟩
 ·have hil:i<l.length:=by omega
  have hg:=getD_map (f:=ai) hil
  have ht:=maxL_take (l:=l) (by omega) hil
  refine W1 hg ?_
  refine⟨_,List.Sublist.refl _,l.length - (i+1),by omega,i+1,by omega,by omega,rfl,rfl,?_⟩
  rw[ht];rfl
 ·refine Wk ?_
  refine ret_eq ?_;simp only[go_sem]
  rw[← hfull,show i=l.length by omega]
theorem predtype_hull (l:List Int) (hl:l.length≤2000000) (h0:0<l.length):PC Proofs.Tryz.prog 203 [aInts l] (aIv (minL l) (maxL l)):=by
 have h1:=ints_minL l hl h0
 have h2:=ints_maxL l hl h0
 generalize minL l=a at *
 generalize maxL l=b at *
 refine PC.enter 8 [.cell 2 211] [] Proofs.Tryz.func203 rfl rfl rfl rfl rfl (by simp) (AWp.of ?_);simp only[go_sem]
 refine Wk ?_
 intro b2
 refine Wk ?_
 refine Sd ?_
 refine(h1).val.use ?_;simp only[go_sem]
 refine Wk ?_
 refine Sd ?_
 refine(h2).val.use ?_;simp only[go_sem]
 refine Wk ?_
 refine ret_eq ?_;simp only[go_sem]
 rfl
theorem countP_take {l:List Ev} {f:Ev→Bool} {k:Nat} (hk:k<l.length):((l.take (k+1)).countP f:Int)=(l.take k).countP f+if f l[k]=true then 1 else 0:=by
 rw[List.take_succ_eq_append_getElem hk,List.countP_append,List.countP_cons,List.countP_nil]
 split <;> simp
theorem msgN_get {ps:List Pr} {p:Nat} (hp:p<ps.length) (q:Int):msgN ps p q=(ps[p].evs.countP (sentTo q):Int):=by unfold msgN;simp only[Int.toNat_natCast,List.getElem?_eq_getElem hp]
theorem evN_get {ps:List Pr} {p:Nat} (hp:p<ps.length):evN ps p=ps[p].evs.length:=by unfold evN;simp only[Int.toNat_natCast,List.getElem?_eq_getElem hp]
theorem predtype_messages (ps:List Pr) (hs:Sm ps) (p:Int) (hpb:isPB ps.length p=true) (q:Int):PC Proofs.Tryz.prog 226 [aTr ps,ai p,ai q] (ai (msgN ps p q)):=by
 obtain⟨p,rfl,hp⟩:=isPB_nat hpb
 have hm:=List.getElem_mem hp
 have hel:=hs.evs _ hm
 have hgp:=getD_map (f:=aPr) hp
 rw[msgN_get hp]
 refine PC.enter 34 [.tmp 6] [3,9] Proofs.Tryz.func226 rfl rfl rfl rfl rfl (by simp) (AWp.of ?_);simp only[go_sem]
 refine W1 hgp ?_
 refine AWp.range' ps[p].evs.length [7] [2,15,16] (fun k vs L=>L=[]∧vs=[ai ((ps[p].evs.take k).countP (sentTo q):Int)]) (by omega) rfl rfl rfl ⟨rfl,rfl⟩ ?_ ?_
 ·rintro k vs L' hk - ⟨rfl,rfl⟩
  have hge:=getD_map (f:=aEv) hk
  have hst:=countP_take (f:=sentTo q) hk
  have hcl:(ps[p].evs.take k).countP (sentTo q)≤ps[p].evs.length:=Nat.le_trans List.countP_le_length (by rw[List.length_take];omega)
  have hsp:sentTo q ps[p].evs[k]=(decide (ps[p].evs[k].kind=2) && decide (ps[p].evs[k].peer=q)):=rfl
  generalize ps[p].evs[k]=e at *
  simp only[go_sem]
  refine W1 hge ?_
  intro b9
  refine Wk ?_
  refine⟨fun h1 => ?_,fun h1 => ?_⟩
  ·intro h2
   refine Wk ?_
   refine⟨_,List.Sublist.refl _,rfl,?_⟩
   rw[hst,hsp,decide_eq_true h1,decide_eq_true h2]
   try rfl
  ·refine⟨_,List.Sublist.refl _,rfl,?_⟩
   rw[hst,hsp,if_neg (by simp only[Bool.and_eq_true,decide_eq_true_eq];exact fun h=>h1 h.1 h.2),Int.add_zero]
 ·rintro vs L' - ⟨rfl,rfl⟩
  simp only[go_sem]
  refine Wk ?_
  refine ret_eq ?_;simp only[go_sem]
def aView (ps:List Pr) (c:List Int) (V:List (List Int)):AV:=.agg [aPrs ps,aInts c,aRows V]
theorem view_variable1 (v:ByteArray × Int) (k n p q:Int) (s:ByteArray) (l:List Pd):PC Proofs.Tryz.prog 207 [aVar v,.rp 6 [aPd (.mk k n p q s l)] 0 0] (ab (nmB s v)):=by
 generalize hb:nmB s v=b
 refine PC.enter 9 [.tmp 3] [2] Proofs.Tryz.func207 rfl rfl rfl rfl rfl (by simp) (AWp.of ?_);simp only[go_sem]
 refine Wk ?_
 refine ret_eq ?_;simp only[go_sem]
 rw[← hb];rfl
theorem view_variable (ps:List Pr) (hs:Sm ps) (c:List Int) (V:List (List Int)) (k n:Int) (p:Nat) (q:Int) (s:ByteArray) (l:List Pd) (hp:p<ps.length) (hkn:knownB ps p s=true)
  (hV:p<V.length) (hr:V[p].length=ps[p].vars.length) :
  PC Proofs.Tryz.prog 162 [aView ps c V,aPd (.mk k n p q s l)] (ai (V[p].getD (varIx ps[p].vars s).toNat 0)):=by
 have hm:=List.getElem_mem hp
 have hk:=known_get hp hkn
 obtain⟨i,hi,hil⟩:=known_ix hk
 have hfi:PC Proofs.Tryz.prog 206 [aVars ps[p].vars,.clo 207 [.rp 6 [aPd (.mk k n p q s l)] 0 0]] (ai (varIx ps[p].vars s)) :=
  vars_indexFunc ps[p].vars (hs.vars _ hm) (.clo 207 [.rp 6 [aPd (.mk k n p q s l)] 0 0]) rfl (nmB s) fun v _=>(view_variable1 v k n p q s l).clo
 rw[hi] at hfi ⊢
 rw[Int.toNat_natCast]
 have hgp:=getD_map (f:=aPr) hp
 have hgV:=getD_map (f:=aInts) hV
 have hgr:=getD_map (f:=ai) (l:=V[p]) (k:=i) (by omega)
 have hres:V[p].getD i 0=V[p][i]'(by omega):=by rw[List.getD_eq_getElem?_getD,List.getElem?_eq_getElem (by omega)];rfl
 rw[hres]
 generalize V[p][i]'(by omega)=w at *
 have hrl:i<V[p].length:=by omega
 unfold aView
 simp only[aPd_mk] at *
 refine PC.enter 25 [.tmp 4] [2,3] Proofs.Tryz.func162 rfl rfl rfl rfl rfl (by simp) (AWp.of ?_);simp only[go_sem]
 refine W1 hgp ?_
 refine Sd ?_
 refine(hfi).val.use ?_;simp only[go_sem]
 refine W2 hgV hgr ?_
 refine ret_eq ?_;simp only[go_sem]
def leafOk (ps:List Pr) (c:List Int) (V:List (List Int)) (o:Obs):Pd→Prop
 | .mk k n p q s l=>(k=2→PC Proofs.Tryz.prog 162 [aView ps c V,aPd (.mk k n p q s l)] (ai (o.var p s)))∧(k=3→0≤p∧c[p.toNat]?=some (o.cnt p)) ∧
  (k=4→PC Proofs.Tryz.prog 163 [aView ps c V,aPd (.mk k n p q s l)] (ai (o.chn p q)))
theorem bd_child {ps:List Pr} {k n p q:Int} {s:ByteArray} {l:List Pd} (h:(intF ps (.mk k n p q s l)).2.2=true) (hl:l.length≤2):∀x ∈ l,(intF ps x).2.2=true:=by
 rw[intF_mk] at h
 match l,hl with
 | [],_=>intro x hx;cases hx
 | [a],_ =>
  simp only[List.map_cons,List.map_nil,bdN] at h
  split at h
  ·rename_i e;intro x hx;simp at hx;subst hx;exact e
  ·cases h
 | [a,b],_ =>
  simp only[List.map_cons,List.map_nil,bdN] at h
  split at h
  ·rename_i e;intro x hx;simp at hx;rcases hx with rfl|rfl;exact e.1;exact e.2
  ·cases h
theorem view_number (ps:List Pr) (c:List Int) (V:List (List Int)) (o:Obs) (_hcl:c.length≤1000000) (t:Pd):szF t≤1000000→okT ps t=true→t.kind≤8→(intF ps t).2.2=true→AllP (obsB ps o) t→AllP (leafOk ps c V o) t →
  PC Proofs.Tryz.prog 111 [aView ps c V,aPd t] (ai (valF o t)):=by
 induction t using Pd.ind with
 | _ k n p q s l ih =>
 intro hz ht hk hi hob hlf
 have hbnd:=valF_bounds ps o _ ht hk hob hi
 obtain⟨o1,o2,o3,o4⟩:=okT_sub ht
 obtain⟨hpl,_⟩:=loc_len o1
 simp only[Pd.kind] at hk
 have hch:=child_le ht (show k≤12 by omega)
 have hsz:szF (.mk k n p q s l)=szL l+1:=by rw[szF]
 have hsp:=valF_mk o k n p q s l
 have hci:=bd_child hi
 obtain⟨⟨lf2,lf3,lf4⟩,hls⟩:=AllP_sub hlf
 obtain⟨_,hos⟩:=AllP_sub hob
 generalize valF o (.mk k n p q s l)=R at *
 have hb : -1125899906842624≤R∧R≤1125899906842624:=by omega
 clear hbnd hi
 unfold aView at *
 have hcb:=fun (x:Pd) (hx:x ∈ l) (h:l.length≤2)=>valF_bounds ps o x (hch x hx).1 (hch x hx).2 (hos x hx) (hci h x hx)
 rcases parts_cases k with ⟨e,hc⟩|⟨e,hc⟩|⟨e,hc⟩|e
 ·obtain rfl:=len0 (l:=l) (by omega)
  simp only[List.map_nil,valN,aPd_mk] at *
  have hk4:k=1∨k=2∨k=3∨k=4:=by omega
  rcases hk4 with h|h|h|h
  ·have hsp:R=n:=by rw[hsp,if_pos h]
   refine PC.enter 81 [.tmp 4] [2,3] Proofs.Tryz.func111 rfl rfl rfl rfl rfl (by simp) (AWp.of ?_);simp only[go_sem]
   repeat(first|((with_reducible refine AWp.ofC ?_ ?_);exact rfl;simp only[go_sem,(eq_true h)])|((with_reducible refine an ?_ ?_);exact Au))
   refine ret_eq ?_;simp only[go_sem]
   rw[hsp]
  ·have lf:=lf2 h
   have h1:¬k=1:=by omega
   rw[if_neg h1,if_pos h] at hsp
   refine PC.enter 81 [.tmp 4] [2,3] Proofs.Tryz.func111 rfl rfl rfl rfl rfl (by simp) (AWp.of ?_);simp only[go_sem]
   repeat(first|((with_reducible refine AWp.ofC ?_ ?_);exact rfl;simp only[go_sem,(eq_true h),h1])|((with_reducible refine an ?_ ?_);exact Au))
   refine Sd ?_
   refine(lf).val.use ?_;simp only[go_sem]
   refine Wk ?_
   refine ret_eq ?_;simp only[go_sem]
   rw[hsp]
  ·obtain⟨p0,pc⟩:=lf3 h
   obtain⟨hpc,hpe⟩:=List.getElem?_eq_some_iff.1 pc
   have hg:=getD_map (f:=ai) hpc
   have h1:¬k=1:=by omega
   have h2:¬k=2:=by omega
   rw[if_neg h1,if_neg h2,if_pos h] at hsp
   rw[hpe] at hg
   refine PC.enter 81 [.tmp 4] [2,3] Proofs.Tryz.func111 rfl rfl rfl rfl rfl (by simp) (AWp.of ?_);simp only[go_sem]
   repeat(first|((with_reducible refine AWp.ofC ?_ ?_);exact rfl;simp only[go_sem,(eq_true h),h1,h2,hg])|((with_reducible refine an ?_ ?_);exact Au))
   refine ret_eq ?_;simp only[go_sem]
   rw[hsp]
  ·have lf:=lf4 h
   have h1:¬k=1:=by omega
   have h2:¬k=2:=by omega
   have h3:¬k=3:=by omega
   rw[if_neg h1,if_neg h2,if_neg h3] at hsp
   refine PC.enter 81 [.tmp 4] [2,3] Proofs.Tryz.func111 rfl rfl rfl rfl rfl (by simp) (AWp.of ?_);simp only[go_sem]
   repeat(first|((with_reducible refine AWp.ofC ?_ ?_);exact rfl;simp only[go_sem,(eq_true h),h1,h2,h3])|((with_reducible refine an ?_ ?_);exact Au))
   refine Sd ?_
   refine(lf).val.use ?_;simp only[go_sem]
   refine Wk ?_
   refine ret_eq ?_;simp only[go_sem]
   rw[hsp]
 ·obtain⟨a,rfl⟩:=len1 (l:=l) (by omega)
  have h5:k=5:=by omega
  have h1:¬k=1:=by omega
  have h2:¬k=2:=by omega
  have h3:¬k=3:=by omega
  have h4:¬k=4:=by omega
  obtain⟨c1,c2⟩:=hch a (by simp)
  have hza:=szL_mem (l:=[a]) (x:=a) (by simp)
  have hca:=ih a (by simp) (by omega) c1 c2 (hci (by simp) a (by simp)) (hos a (by simp)) (hls a (by simp))
  have hcb:=hcb a (by simp) (by simp)
  simp only[List.map_cons,List.map_nil,valN] at hsp
  generalize valF o a=A at *
  obtain⟨ka,na,pa,qa,sa,la⟩:=a
  simp only[aPd_mk,List.map_cons,List.map_nil] at *
  refine PC.enter 81 [.tmp 4] [2,3] Proofs.Tryz.func111 rfl rfl rfl rfl rfl (by simp) (AWp.of ?_);simp only[go_sem]
  repeat(first|((with_reducible refine AWp.ofC ?_ ?_);exact rfl;simp only[go_sem,(eq_true h5),h1,h2,h3,h4])|((with_reducible refine an ?_ ?_);exact Au))
  repeat(first|(with_reducible refine AWp.seq ?_)|(with_reducible refine AWp.block ?_))
  refine AWp.mix mixed [0,1,2,3,4,5,6,7] .done (by kernel_rfl) ?_;simp only[go_sem]
  refine Sd ?_
  refine Gc hca ?_
  refine Sd ?_
  refine Wk ?_
  refine ret_eq ?_;simp only[go_sem]
  rw[hsp]
 ·obtain⟨a,b,rfl⟩:=len2 (l:=l) (by omega)
  have h1:¬k=1:=by omega
  have h2:¬k=2:=by omega
  have h3:¬k=3:=by omega
  have h4:¬k=4:=by omega
  have h5:¬k=5:=by omega
  obtain⟨c1,c2⟩:=hch a (by simp)
  obtain⟨c3,c4⟩:=hch b (by simp)
  have hza:=szL_mem (l:=[a,b]) (x:=a) (by simp)
  have hzb:=szL_mem (l:=[a,b]) (x:=b) (by simp)
  have hca:=ih a (by simp) (by omega) c1 c2 (hci (by simp) a (by simp)) (hos a (by simp)) (hls a (by simp))
  have hcc:=ih b (by simp) (by omega) c3 c4 (hci (by simp) b (by simp)) (hos b (by simp)) (hls b (by simp))
  have hcba:=hcb a (by simp) (by simp)
  have hcbb:=hcb b (by simp) (by simp)
  simp only[List.map_cons,List.map_nil,valN] at hsp
  have hmw:=fun h=>mulW_eq (a:=valF o a) (b:=valF o b) h
  generalize valF o a=A at *
  generalize valF o b=B at *
  obtain⟨ka,na,pa,qa,sa,la⟩:=a
  obtain⟨kb,nb,pb,qb,sb,lb⟩:=b
  simp only[aPd_mk,List.map_cons,List.map_nil] at *
  refine PC.enter 81 [.tmp 4] [2,3] Proofs.Tryz.func111 rfl rfl rfl rfl rfl (by simp) (AWp.of ?_);simp only[go_sem]
  by_cases h6:k=6
  ·rw[if_pos h6] at hsp
   repeat(first|((with_reducible refine AWp.ofC ?_ ?_);exact rfl;simp only[go_sem,(eq_true h6),h1,h2,h3,h4,h5])|((with_reducible refine an ?_ ?_);exact Au))
   repeat(first|(with_reducible refine AWp.seq ?_)|(with_reducible refine AWp.block ?_))
   refine AWp.mix mixed [0,1,2,3,4,5,6,7,8,9,10,11,12,13] .done (by kernel_rfl) ?_;simp only[go_sem]
   refine Sd ?_
   refine Gc hca ?_
   refine Sd ?_
   refine Gc hcc ?_
   refine Sd ?_
   refine Wk ?_
   refine ret_eq ?_;simp only[go_sem]
   rw[hsp]
  by_cases h7:k=7
  ·rw[if_neg h6,if_pos h7] at hsp
   repeat(first|((with_reducible refine AWp.ofC ?_ ?_);exact rfl;simp only[go_sem,(eq_true h7),h1,h2,h3,h4,h5,h6])|((with_reducible refine an ?_ ?_);exact Au))
   repeat(first|(with_reducible refine AWp.seq ?_)|(with_reducible refine AWp.block ?_))
   refine AWp.mix mixed [0,1,2,3,4,5,6,7,8,9,10,11,12,13] .done (by kernel_rfl) ?_;simp only[go_sem]
   refine Sd ?_
   refine Gc hca ?_
   refine Sd ?_
   refine Gc hcc ?_
   refine Sd ?_
   refine Wk ?_
   refine ret_eq ?_;simp only[go_sem]
   rw[hsp]
  rw[if_neg h6,if_neg h7] at hsp
  have hmw:=hmw (by rw[← hsp];unfold I64;omega)
  repeat(first|((with_reducible refine AWp.ofC ?_ ?_);exact rfl;simp only[go_sem,h1,h2,h3,h4,h5,h6,h7])|((with_reducible refine an ?_ ?_);exact Au))
  refine AWp.seq ?_
  repeat(first|(with_reducible refine AWp.seq ?_)|(with_reducible refine AWp.block ?_))
  refine AWp.mix mixed [0,1,2,3,4,5,6,7,8,9,10,11,12,13] .done (by kernel_rfl) ?_;simp only[go_sem]
  refine Sd ?_
  refine Gc hca ?_
  refine Sd ?_
  refine Gc hcc ?_
  refine Sd ?_
  refine W1 hmw ?_
  refine ret_eq ?_;simp only[go_sem]
  rw[hsp]
 ·omega
theorem variable_values (x:Pr) (h1:x.vars.length≤1000000) (h2:x.evs.length≤1000000) (h3:∀e ∈ x.evs,e.asg.length≤1000000) (ha:AsgOk x) (v:Nat) (hv:v<x.vars.length) :
  PC Proofs.Tryz.prog 253 [aPr x,ai v] (aInts (valsF x v)):=by
 have hst:=variable_states x
 have hvl:=valsF_length x v
 refine PC.enter 20 [.tmp 4] [2,3,17] Proofs.Tryz.func253 rfl rfl rfl rfl rfl (by simp) (AWp.of ?_);simp only[go_sem]
 refine Wk ?_
 intro b5
 refine Sd ?_
 refine AWp.of ?_;simp only[go_sem]
 refine Sd ?_
 refine(hst).val.use ?_;simp only[go_sem]
 refine AWp.block (AWp.rangeFunc rfl [3,5] (stArgs x) (fun j L=>∃w Lw,L=Lw ++ [(b5,.row 43 1 [w] 1)]∧AppSt 3 1 (((valsF x v).take j).map ai) w Lw∧∀p ∈ Lw,p.1 ≠ b5) (fun _ _=>False)
  rfl (variable_states1 x h1 h2 h3 ha) (fun y hy=>by obtain⟨j,hj⟩:=List.getElem?_of_mem hy;unfold stArgs at hj;rw[List.getElem?_map,Option.map_eq_some_iff] at hj;obtain⟨_,_,rfl⟩:=hj;rfl) ⟨anil,[],rfl,.nil,by simp⟩ ?_ ?_ ?_)
 ·rintro j y L' l hy ⟨w,Lw,rfl,hA,hne⟩
  have hjl:j≤x.evs.length:=by
   have:=(List.getElem?_eq_some_iff.1 hy).1
   unfold stArgs at this;simp at this;omega
  rw[stArgs_get x j hjl] at hy
  cases hy
  have hvs:v<(stateAt x j).length:=by rw[stateAt_length];exact hv
  have hgs:=getD_map (f:=ai) hvs
  have hjv:j<(valsF x v).length:=by omega
  have hsu:((valsF x v).take (j+1)).map ai=((valsF x v).take j).map ai ++ [ai (stateAt x j)[v]]:=by
   rw[List.take_succ_eq_append_getElem hjv,List.map_append,valsF_get,List.getD_eq_getElem?_getD,List.getElem?_eq_getElem hvs];rfl
  have hyl:(((valsF x v).take j).map ai).length≤1000000:=by rw[List.length_map,List.length_take];omega
  rw[hsu]
  generalize ((valsF x v).take j).map ai=ys at *
  rcases hA.inv with ⟨e1,rfl,rfl⟩|⟨b,cap,rfl,rfl⟩
  ·simp only[go_sem]
   refine Sd ?_
   refine AWp.of ?_;simp only[go_sem]
   refine AWp.block ?_
   repeat(first|(with_reducible refine AWp.seq ?_)|(with_reducible refine AWp.block ?_))
   refine AWp.mix mixed [1,2,3,4] (.step 0 (.step 5 (.step 6 (.step 7 .done .done) .done) .done) (.step 5 (.step 0 (.step 6 (.step 7 .done .done) .done) .done) .done)) (by kernel_rfl) ?_;simp only[go_sem,hgs]
   refine Sd ?_
   intro b' cap' hlt _
   have n5:¬b5=b':=by omega
   simp only[go_sem,n5]
   refine Sd ?_
   refine⟨_,List.Sublist.refl _,_,[(b',.row 3 1 [_] cap')],rfl,?_,?_⟩
   ·rw[e1];exact .row _ [_] _
   ·intro p hp;simp only[List.mem_singleton] at hp;subst hp;exact fun e=>n5 e.symm
  ·have n1:¬b=b5:=hne (b,_) List.mem_cons_self
   have n2:¬b5=b:=fun e=>n1 e.symm
   simp only[go_sem]
   refine Sd ?_
   refine AWp.of ?_;simp only[go_sem]
   refine AWp.block ?_
   repeat(first|(with_reducible refine AWp.seq ?_)|(with_reducible refine AWp.block ?_))
   refine AWp.mix mixed [1,2,3,4] (.step 0 (.step 5 (.step 6 (.step 7 .done .done) .done) .done) (.step 5 (.step 0 (.step 6 (.step 7 .done .done) .done) .done) .done)) (by kernel_rfl) ?_;simp only[go_sem,hgs,n1,n2]
   refine Sd ?_
   intro b' cap' n5 _
   simp only[go_sem,n5]
   refine Sd ?_
   refine⟨_,List.Sublist.refl _,_,[(b',.row 3 1 (ys ++ [_]) cap')],rfl,?_,?_⟩
   ·have:=AppSt.row (t:=3) (k:=1) b' (ys ++ [ai (stateAt x j)[v]]) cap'
    simpa using this
   ·intro p hp;simp only[List.mem_singleton] at hp;subst hp;exact fun e=>n5 e.symm
 ·rintro L' ⟨w,Lw,rfl,hA,hne⟩
  have hl:(stArgs x).length=x.evs.length+1:=by unfold stArgs;simp
  rw[hl,← hvl,List.take_length] at hA
  rcases hA.inv with ⟨e1,rfl,rfl⟩|⟨b,cap,rfl,rfl⟩
  ·exfalso
   have:=congrArg List.length e1
   rw[List.length_map,hvl] at this
   cases this
  ·have n1:¬b=b5:=hne (b,_) List.mem_cons_self
   have n2:¬b5=b:=fun e=>n1 e.symm
   simp only[go_sem]
   refine W2 n1 n2 ?_
   refine ret_view [true] ?_;simp only[go_sem]
   exact Vw.ofLs (if_pos rfl) (by simp)
 ·rintro e L' h
  exact h.elim
theorem variable_index1 (v:ByteArray × Int) (s:ByteArray):PC Proofs.Tryz.prog 264 [aVar v,.rp 1 [astr s] 0 0] (ab (nmB s v)):=by
 generalize hb:nmB s v=b
 refine PC.enter 8 [.tmp 3] [2] Proofs.Tryz.func264 rfl rfl rfl rfl rfl (by simp) (AWp.of ?_);simp only[go_sem]
 refine Wk ?_
 refine ret_eq ?_;simp only[go_sem]
 rw[← hb];rfl
theorem variable_index (x:Pr) (h1:x.vars.length≤1000000) (s:ByteArray):PC Proofs.Tryz.prog 262 [aPr x,astr s] (ai (varIx x.vars s)):=by
 have hfi:PC Proofs.Tryz.prog 206 [aVars x.vars,.clo 264 [.rp 1 [astr s] 0 0]] (ai (varIx x.vars s)) :=
  vars_indexFunc x.vars h1 (.clo 264 [.rp 1 [astr s] 0 0]) rfl (nmB s) fun v _=>(variable_index1 v s).clo
 generalize varIx x.vars s=r at *
 refine PC.enter 9 [.tmp 4] [2,3] Proofs.Tryz.func262 rfl rfl rfl rfl rfl (by simp) (AWp.of ?_);simp only[go_sem]
 refine Wk ?_
 refine Sd ?_
 refine(hfi).val.use ?_;simp only[go_sem]
 refine Wk ?_
 refine ret_eq ?_;simp only[go_sem]
theorem variable_find (ps:List Pr) (hs:Sm ps) (hv:validF ps=true) (p:Nat) (hp:p<ps.length) (s:ByteArray) (hk:¬varIx ps[p].vars s<0):PC Proofs.Tryz.prog 252 [aTr ps,ai p,astr s] (.tup [ai (varIx ps[p].vars s),ai 0]):=by
 have hval:=trace_Valid ps hs
 rw[hv] at hval
 have hm:=List.getElem_mem hp
 have hgp:=getD_map (f:=aPr) hp
 have hix:=variable_index ps[p] (hs.vars _ hm) s
 generalize varIx ps[p].vars s=r at *
 refine PC.enter 33 [.tmp 6,.tmp 7] [3] Proofs.Tryz.func252 rfl rfl rfl rfl rfl (by simp) (AWp.of ?_);simp only[go_sem]
 refine Wk ?_
 refine Sd ?_
 refine(hval).val.use ?_;simp only[go_sem]
 have h2:¬((p:Int)<0):=by omega
 have h3:¬((ps.length:Int)≤p):=by omega
 refine W3 h2 h3 hgp ?_
 refine Sd ?_
 refine(hix).val.use ?_;simp only[go_sem]
 refine W1 hk ?_
 refine ret_eq ?_;simp only[go_sem]
theorem variable_Range (ps:List Pr) (hs:Sm ps) (hv:validF ps=true) (p:Int) (hpb:isPB ps.length p=true) (s:ByteArray) (hkn:knownB ps p s=true) :
  PC Proofs.Tryz.prog 227 [aTr ps,ai p,astr s] (.tup [ai (varLo ps p s),ai (varHi ps p s),ai 0]):=by
 obtain⟨p,rfl,hp⟩:=isPB_nat hpb
 have hm:=List.getElem_mem hp
 have hgp:=getD_map (f:=aPr) hp
 have hk:ps[p].vars.any (nmB s)=true:=by unfold knownB at hkn;simpa only [Int.toNat_natCast,List.getElem?_eq_getElem hp] using hkn
 have hng:¬varIx ps[p].vars s<0:=fun h=>by rw[(varIx_neg _ _).1 h] at hk;cases hk
 have hfd:=variable_find ps hs hv p hp s hng
 have hlt:(varIx ps[p].vars s).toNat<ps[p].vars.length:=by
  unfold varIx at hng ⊢
  cases hf:ps[p].vars.findIdx? (nmB s) with
  | none=>rw[hf] at hng;exact absurd (by decide) hng
  | some i=>rw[List.findIdx?_eq_some_iff_getElem] at hf;obtain⟨hi,_⟩:=hf;exact hi
 have hvals:=variable_values ps[p] (hs.vars _ hm) (hs.evs _ hm) (hs.asg _ hm) (asg_of_valid hv p hp) _ hlt
 have hvl:=valsF_length ps[p] (varIx ps[p].vars s).toNat
 have hel:=hs.evs _ hm
 have hmn:=ints_minL (valsF ps[p] (varIx ps[p].vars s).toNat) (by omega) (by omega)
 have hmx:=ints_maxL (valsF ps[p] (varIx ps[p].vars s).toNat) (by omega) (by omega)
 have e1:varLo ps p s=minL (valsF ps[p] (varIx ps[p].vars s).toNat):=by unfold varLo;simp only[Int.toNat_natCast,List.getElem?_eq_getElem hp]
 have e2:varHi ps p s=maxL (valsF ps[p] (varIx ps[p].vars s).toNat):=by unfold varHi;simp only[Int.toNat_natCast,List.getElem?_eq_getElem hp]
 rw[e1,e2]
 have hix:((varIx ps[p].vars s).toNat:Int)=varIx ps[p].vars s:=by omega
 rw[hix] at hvals
 generalize minL (valsF ps[p] (varIx ps[p].vars s).toNat)=lo at *
 generalize maxL (valsF ps[p] (varIx ps[p].vars s).toNat)=hi at *
 generalize valsF ps[p] (varIx ps[p].vars s).toNat=vl at *
 generalize varIx ps[p].vars s=ix at *
 refine PC.enter 32 [.tmp 6,.tmp 7,.tmp 8] [3] Proofs.Tryz.func227 rfl rfl rfl rfl rfl (by simp) (AWp.of ?_);simp only[go_sem]
 refine Wk ?_
 refine Sd ?_
 refine(hfd).val.use ?_;simp only[go_sem]
 refine W1 hgp ?_
 refine Sd ?_
 refine(hvals).val.use ?_;simp only[go_sem]
 refine Wk ?_
 refine Sd ?_
 refine(hmn).val.use ?_;simp only[go_sem]
 refine Wk ?_
 refine Sd ?_
 refine(hmx).val.use ?_;simp only[go_sem]
 refine Wk ?_
 refine ret_eq ?_;simp only[go_sem]
theorem predtype_great (a b:Int):PC Proofs.Tryz.prog 202 [aIv a b] (ab (tooB a b)):=by
 generalize hb:tooB a b=r
 unfold aIv
 refine PC.enter 11 [.tmp 2] [1] Proofs.Tryz.func202 rfl rfl rfl rfl rfl (by simp) (AWp.of ?_);simp only[go_sem]
 refine Wk ?_
 refine ret_eq ?_;simp only[go_sem]
 rw[← hb];rfl
theorem res_leaf {ps:List Pr} {k n p q:Int} {s:ByteArray} {l:List Pd} (h:resB ps (.mk k n p q s l)=true):(k=2→isPB ps.length p=true∧knownB ps p s=true)∧(k=3→isPB ps.length p=true)∧(k=4→isPB ps.length p=true∧isPB ps.length q=true∧p ≠ q):=by
 simp only[resB] at h
 refine⟨fun e => ?_,fun e => ?_,fun e => ?_⟩
 ·rw[if_pos e] at h;simp only[Bool.and_eq_true] at h;exact⟨h.1.1,h.2⟩
 ·rw[if_neg (by omega),if_pos e] at h;simp only[Bool.and_eq_true] at h;exact h.1.1
 ·rw[if_neg (by omega),if_neg (by omega),if_pos e] at h;simp only[Bool.and_eq_true,Bool.not_eq_true',decide_eq_false_iff_not] at h;exact⟨h.1.1.1,h.1.1.2,h.1.2⟩
theorem predtype_leaf (ps:List Pr) (hs:Sm ps) (hv:validF ps=true) (k n p q:Int) (s:ByteArray) (hk:1≤k∧k≤4) (hr:resB ps (.mk k n p q s [])=true) :
  PC Proofs.Tryz.prog 201 [aTr ps,aPd (.mk k n p q s [])] (aIv (bdL ps k n p q s).1 (bdL ps k n p q s).2):=by
 obtain⟨r2,r3,r4⟩:=res_leaf hr
 have hsp:bdL ps k n p q s=if k=1 then (n,n) else if k=3 then (0,evN ps p) else if k=4 then (0,msgN ps p q) else (varLo ps p s,varHi ps p s):=rfl
 have hh:=predtype_hull [n] (by simp) (by simp)
 have hms:=fun h=>predtype_messages ps hs p h q
 have hrg:=fun h1 h2=>variable_Range ps hs hv p h1 s h2
 have e1:minL [n]=n:=rfl
 have e2:maxL [n]=n:=rfl
 rw[e1,e2] at hh
 simp only[aInts,List.map_cons,List.map_nil] at hh
 generalize bdL ps k n p q s=i at *
 unfold aIv at *
 have hk4:k=1∨k=3∨k=4∨k=2:=by omega
 rcases hk4 with h|h|h|h
 ·rw[if_pos h] at hsp
  refine PC.enter 49 [.cell 4 211] [2,3,14] Proofs.Tryz.func201 rfl rfl rfl rfl rfl (by simp) (AWp.of ?_);simp only[go_sem]
  refine Wk ?_
  intro b4
  repeat(first|((with_reducible refine AWp.ofC ?_ ?_);exact rfl;simp only[go_sem,(eq_true h)])|((with_reducible refine an ?_ ?_);exact Au))
  refine Sd ?_
  refine(hh).val.use ?_;simp only[go_sem]
  refine Wk ?_
  refine ret_eq ?_;simp only[go_sem]
  rw[hsp]
 ·have h1:¬k=1:=by omega
  rw[if_neg h1,if_pos h] at hsp
  obtain⟨p,rfl,hp⟩:=isPB_nat (r3 h)
  have hgp:=getD_map (f:=aPr) hp
  rw[evN_get hp] at hsp
  refine PC.enter 49 [.cell 4 211] [2,3,14] Proofs.Tryz.func201 rfl rfl rfl rfl rfl (by simp) (AWp.of ?_);simp only[go_sem]
  refine Wk ?_
  intro b4
  repeat(first|((with_reducible refine AWp.ofC ?_ ?_);exact rfl;simp only[go_sem,(eq_true h),h1,hgp])|((with_reducible refine an ?_ ?_);exact Au))
  refine ret_eq ?_;simp only[go_sem]
  rw[hsp]
 ·have h1:¬k=1:=by omega
  have h3:¬k=3:=by omega
  rw[if_neg h1,if_neg h3,if_pos h] at hsp
  have hms:=hms (r4 h).1
  refine PC.enter 49 [.cell 4 211] [2,3,14] Proofs.Tryz.func201 rfl rfl rfl rfl rfl (by simp) (AWp.of ?_);simp only[go_sem]
  refine Wk ?_
  intro b4
  repeat(first|((with_reducible refine AWp.ofC ?_ ?_);exact rfl;simp only[go_sem,(eq_true h),h1,h3])|((with_reducible refine an ?_ ?_);exact Au))
  refine Sd ?_
  refine(hms).val.use ?_;simp only[go_sem]
  refine Wk ?_
  refine ret_eq ?_;simp only[go_sem]
  rw[hsp]
 ·have h1:¬k=1:=by omega
  have h3:¬k=3:=by omega
  have h4:¬k=4:=by omega
  rw[if_neg h1,if_neg h3,if_neg h4] at hsp
  have hrg:=hrg (r2 h).1 (r2 h).2
  refine PC.enter 49 [.cell 4 211] [2,3,14] Proofs.Tryz.func201 rfl rfl rfl rfl rfl (by simp) (AWp.of ?_);simp only[go_sem]
  refine Wk ?_
  intro b4
  refine W3 h1 h3 h4 ?_
  refine Sd ?_
  refine(hrg).val.use ?_;simp only[go_sem]
  refine Wk ?_
  refine ret_eq ?_;simp only[go_sem]
  rw[hsp]
set_option maxHeartbeats 4000000 in
theorem predtype_bounds (ps:List Pr) (hs:Sm ps) (hv:validF ps=true) (t:Pd):szF t≤1000000→okT ps t=true→t.kind≤8→PC Proofs.Tryz.prog 159 [aTr ps,aPd t] (aBd (intF ps t)):=by
 induction t using Pd.ind with
 | _ k n p q s l ih =>
 intro hz ht hk
 obtain⟨o1,o2,o3,o4⟩:=okT_sub ht
 obtain⟨hpl,_⟩:=loc_len o1
 simp only[Pd.kind] at hk
 have hch:=child_le ht (show k≤12 by omega)
 have hsz:szF (.mk k n p q s l)=szL l+1:=by rw[szF]
 have hll:=szL_len l
 have hsp:=intF_mk ps k n p q s l
 generalize intF ps (.mk k n p q s l)=I at *
 rcases parts_cases k with ⟨e,hc⟩|⟨e,hc⟩|⟨e,hc⟩|e
 ·obtain rfl:=len0 (l:=l) (by omega)
  have hlf:=predtype_leaf ps hs hv k n p q s (by omega) o2
  simp only[List.map_nil,bdN,bdG] at hsp
  have hgr:=predtype_great (bdL ps k n p q s).1 (bdL ps k n p q s).2
  generalize bdL ps k n p q s=i at *
  obtain⟨lo,hi⟩:=i
  unfold aBd aIv at *
  simp only[aPd_mk,List.map_nil] at *
  generalize tooB lo hi=g at *
  refine PC.enter 116 [.cell 4 211,.tmp 5] [2,3,6,7,75] Proofs.Tryz.func159 rfl rfl rfl rfl rfl (by simp) (AWp.of ?_);simp only[go_sem]
  refine Wk ?_
  intro b4
  refine Wk ?_
  refine⟨fun h0 => ?_,fun h0 => ?_⟩
  ·refine Wk ?_
   refine Sd ?_
   refine(hlf).val.use ?_;simp only[go_sem]
   refine Wk ?_
   intro b6 _
   refine AWp.seq ?_
   repeat(first|(with_reducible refine AWp.seq ?_)|(with_reducible refine AWp.block ?_))
   refine AWp.mix mixed [0,1,2,3,5] (.step 4 .done .done) (by kernel_rfl) ?_;simp only[go_sem]
   refine Sd ?_
   refine Gc hgr ?_
   refine Sd ?_
   refine Wk ?_
   refine ret_eq ?_;simp only[go_sem]
   rw[hsp]
  ·exact absurd rfl h0
 ·obtain⟨a,rfl⟩:=len1 (l:=l) (by omega)
  obtain⟨c1,c2⟩:=hch a (by simp)
  have hza:=szL_mem (l:=[a]) (x:=a) (by simp)
  have hca:=ih a (by simp) (by omega) c1 c2
  have hok:=intF_ok ps a
  simp only[List.map_cons,List.map_nil,bdN] at hsp
  generalize intF ps a=A at *
  obtain⟨a1,a2,a3⟩:=A
  obtain⟨ka,na,pa,qa,sa,la⟩:=a
  have k5:k=5:=by omega
  simp only[bd2,if_pos k5,bdG] at hsp
  have hgr:=predtype_great (-a2) (-a1)
  generalize tooB (-a2) (-a1)=g at *
  unfold aBd aIv at *
  simp only[aPd_mk,List.map_cons,List.map_nil] at *
  refine PC.enter 116 [.cell 4 211,.tmp 5] [2,3,6,7,75] Proofs.Tryz.func159 rfl rfl rfl rfl rfl (by simp) (AWp.of ?_);simp only[go_sem]
  refine Wk ?_
  intro b4
  refine Wk ?_
  intro _
  refine AWp.seq ?_
  repeat(first|(with_reducible refine AWp.seq ?_)|(with_reducible refine AWp.block ?_))
  refine AWp.mix mixed [0,1,2,3,4,5,6,7,8,11] (.step 9 (.step 10 .done .done) .done) (by kernel_rfl) ?_;simp only[go_sem]
  refine Sd ?_
  refine Gc hca ?_
  refine Sd ?_
  intro b7 h47
  clear ih o4 hch
  refine Wk ?_
  intro b9 h49
  have n1:¬b4=b9:=by omega
  have n2:¬b9=b4:=by omega
  refine W2 n1 n2 ?_
  intro _
  refine W2 n1 n2 ?_
  refine⟨fun h1 => ?_,fun h1 => ?_⟩
  ·refine W2 n1 n2 ?_
   refine ret_eq ?_;simp only[go_sem]
   simp only[n1,go_sem]
   rw[hsp,if_neg (by rw[h1];decide)]
  rw[if_pos h1] at hsp
  have hok:=hok h1
  refine W2 n1 n2 ?_
  intro b11 m1 m2
  have n3:¬b4=b11:=by omega
  have n4:¬b11=b4:=by omega
  have n5:¬b9=b11:=by omega
  have n6:¬b11=b9:=by omega
  repeat(first|((with_reducible refine AWp.ofC ?_ ?_);exact rfl;simp only[go_sem,(eq_true k5),n4,n6])|((with_reducible refine an ?_ ?_);exact Au))
  refine AWp.view [true] [(11,.rp 2 [.agg [ai (-a2),ai (-a1)]] 0 0)] (LVw.refl _) (fun p hp=>by simp only[List.mem_singleton] at hp;subst hp;exact Vw.ofLp (if_pos rfl)) ?_
  simp only[go_sem]
  refine AWp.seq ?_
  repeat(first|(with_reducible refine AWp.seq ?_)|(with_reducible refine AWp.block ?_))
  refine AWp.mix mixed [0,1,2,3,5] (.step 4 .done .done) (by kernel_rfl) ?_;simp only[go_sem]
  refine Sd ?_
  refine GCall.use (ab g) (fun _=>⟨At,(hgr).val.use ⟨rfl,rfl⟩⟩) ?_;simp only[go_sem,n1]
  refine Sd ?_
  refine W2 n1 n2 ?_
  refine ret_eq ?_;simp only[go_sem]
  simp only[n1,go_sem]
  rw[hsp]
 ·obtain⟨a,b,rfl⟩:=len2 (l:=l) (by omega)
  have k5:¬k=5:=by omega
  obtain⟨c1,c2⟩:=hch a (by simp)
  obtain⟨c3,c4⟩:=hch b (by simp)
  have hza:=szL_mem (l:=[a,b]) (x:=a) (by simp)
  have hzb:=szL_mem (l:=[a,b]) (x:=b) (by simp)
  have hca:=ih a (by simp) (by omega) c1 c2
  have hcc:=ih b (by simp) (by omega) c3 c4
  have hoka:=intF_ok ps a
  have hokb:=intF_ok ps b
  simp only[List.map_cons,List.map_nil,bdN] at hsp
  clear ih o4 hch
  generalize intF ps a=A at *
  generalize intF ps b=B at *
  obtain⟨a1,a2,a3⟩:=A
  obtain⟨e1,e2,e3⟩:=B
  obtain⟨ka,na,pa,qa,sa,la⟩:=a
  obtain⟨kb,nb,pb,qb,sb,lb⟩:=b
  unfold aBd aIv at *
  simp only[aPd_mk,List.map_cons,List.map_nil] at *
  refine PC.enter 116 [.cell 4 211,.tmp 5] [2,3,6,7,75] Proofs.Tryz.func159 rfl rfl rfl rfl rfl (by simp) (AWp.of ?_);simp only[go_sem]
  refine Wk ?_
  intro b4
  refine Wk ?_
  intro _
  refine AWp.seq ?_
  repeat(first|(with_reducible refine AWp.seq ?_)|(with_reducible refine AWp.block ?_))
  refine AWp.mix mixed [0,1,2,3,4,5,6,7,8,11] (.step 9 (.step 10 .done .done) .done) (by kernel_rfl) ?_;simp only[go_sem]
  refine Sd ?_
  refine Gc hca ?_
  refine Sd ?_
  intro b7 h47
  refine Wk ?_
  intro b9 h49
  have n1:¬b4=b9:=by omega
  have n2:¬b9=b4:=by omega
  refine W2 n1 n2 ?_
  refine⟨fun _ => ?_,fun h=>absurd rfl h⟩
  repeat(first|(with_reducible refine AWp.seq ?_)|(with_reducible refine AWp.block ?_))
  refine AWp.mix mixed [0,1,2,3,4,5,6,7,8,10] (.step 9 .done .done) (by kernel_rfl) ?_;simp only[go_sem]
  refine Sd ?_
  refine GCall.use (.tup [.agg [ai e1,ai e2],ab e3]) (fun _=>⟨At,(hcc).val.use ⟨rfl,rfl⟩⟩) ?_;simp only[go_sem,n2]
  refine Sd ?_
  refine W2 n1 n2 ?_
  refine⟨fun h1 => ?_,fun h1 => ?_⟩
  ·refine W2 n1 n2 ?_
   refine ret_eq ?_;simp only[go_sem]
   simp only[n1,go_sem]
   rw[hsp,if_neg (by rintro⟨x1,x2⟩;rw[x1,x2] at h1;simp at h1)]
  intro h2
  rw[if_pos ⟨h1,h2⟩] at hsp
  have hoka:=hoka h1
  have hokb:=hokb h2
  refine W2 n1 n2 ?_
  intro b11 m1 m2
  have n3:¬b4=b11:=by omega
  have n4:¬b11=b4:=by omega
  have n5:¬b9=b11:=by omega
  have n6:¬b11=b9:=by omega
  have fin:∀(lo hi:Int),bd2 k (a1,a2,a3) (e1,e2,e3)=(lo,hi)→I=(lo,hi,!tooB lo hi):=fun lo hi h=>by rw[hsp,h];rfl
  clear hsp
  by_cases k6:k=6
  ·have fin:=fin (a1+e1) (a2+e2) (by unfold bd2;rw[if_neg k5,if_pos k6])
   have hgr:=predtype_great (a1+e1) (a2+e2)
   generalize tooB (a1+e1) (a2+e2)=g at *
   unfold aIv at hgr
   repeat(first|((with_reducible refine AWp.ofC ?_ ?_);exact rfl;simp only[go_sem,(eq_true k6),k5,n2,n4,n5,n6])|((with_reducible refine an ?_ ?_);exact Au))
   refine AWp.view [true] [(11,.rp 2 [.agg [ai (a1+e1),ai (a2+e2)]] 0 0)] (LVw.refl _) (fun p hp=>by simp only[List.mem_singleton] at hp;subst hp;exact Vw.ofLp (if_pos rfl)) ?_
   simp only[go_sem]
   refine AWp.seq ?_
   repeat(first|(with_reducible refine AWp.seq ?_)|(with_reducible refine AWp.block ?_))
   refine AWp.mix mixed [0,1,2,3,5] (.step 4 .done .done) (by kernel_rfl) ?_;simp only[go_sem]
   refine Sd ?_
   refine GCall.use (ab g) (fun _=>⟨At,(hgr).val.use ⟨rfl,rfl⟩⟩) ?_;simp only[go_sem,n1]
   refine Sd ?_
   refine W2 n1 n2 ?_
   refine ret_eq ?_;simp only[go_sem]
   simp only[n1,go_sem]
   rw[fin]
  by_cases k7:k=7
  ·have fin:=fin (a1 - e2) (a2 - e1) (by unfold bd2;rw[if_neg k5,if_neg k6,if_pos k7])
   have hgr:=predtype_great (a1 - e2) (a2 - e1)
   generalize tooB (a1 - e2) (a2 - e1)=g at *
   unfold aIv at hgr
   repeat(first|((with_reducible refine AWp.ofC ?_ ?_);exact rfl;simp only[go_sem,(eq_true k7),k5,k6,n2,n4,n5,n6])|((with_reducible refine an ?_ ?_);exact Au))
   refine AWp.view [true] [(11,.rp 2 [.agg [ai (a1 - e2),ai (a2 - e1)]] 0 0)] (LVw.refl _) (fun p hp=>by simp only[List.mem_singleton] at hp;subst hp;exact Vw.ofLp (if_pos rfl)) ?_
   simp only[go_sem]
   refine AWp.seq ?_
   repeat(first|(with_reducible refine AWp.seq ?_)|(with_reducible refine AWp.block ?_))
   refine AWp.mix mixed [0,1,2,3,5] (.step 4 .done .done) (by kernel_rfl) ?_;simp only[go_sem]
   refine Sd ?_
   refine GCall.use (ab g) (fun _=>⟨At,(hgr).val.use ⟨rfl,rfl⟩⟩) ?_;simp only[go_sem,n1]
   refine Sd ?_
   refine W2 n1 n2 ?_
   refine ret_eq ?_;simp only[go_sem]
   simp only[n1,go_sem]
   rw[fin]
  have hp1:=predtype_product a1 e1 (by omega) (by omega)
  have hp2:=predtype_product a1 e2 (by omega) (by omega)
  have hp3:=predtype_product a2 e1 (by omega) (by omega)
  have hp4:=predtype_product a2 e2 (by omega) (by omega)
  have fin:=fin _ _ (by unfold bd2;rw[if_neg k5,if_neg k6,if_neg k7])
  dsimp only at fin
  generalize timesF a1 e1=t1 at *
  generalize timesF a1 e2=t2 at *
  generalize timesF a2 e1=t3 at *
  generalize timesF a2 e2=t4 at *
  have hh:=predtype_hull [t1,t2,t3,t4] (by simp) (by simp)
  generalize minL [t1,t2,t3,t4]=lo at *
  generalize maxL [t1,t2,t3,t4]=hi at *
  have hgr:=predtype_great lo hi
  generalize tooB lo hi=g at *
  simp only[aInts,List.map_cons,List.map_nil] at hh
  unfold aIv at hgr hh
  repeat(first|((with_reducible refine AWp.ofC ?_ ?_);exact rfl;simp only[go_sem,k5,k6,k7,n2,n4,n5,n6])|((with_reducible refine an ?_ ?_);exact Au))
  refine AWp.view [false,true] [(9,.rp 2 [.agg [ai e1,ai e2]] 0 0)] (LVw.refl _) (fun p hp=>by simp only[List.mem_singleton] at hp;subst hp;exact Vw.ofLp (if_pos rfl)) ?_
  simp only[go_sem]
  repeat(first|(with_reducible refine AWp.seq ?_)|(with_reducible refine AWp.block ?_))
  refine AWp.mix mixed [0,1,2,3,4,5,6,7,8,9,10,11,12,13,14,15,16,17,18,19] (.step 20 (.step 21 (.step 22 .done .done) .done) .done) (by kernel_rfl) ?_;simp only[go_sem]
  refine Sd ?_
  refine GCall.use (ai t1) (fun _=>⟨At,(hp1).val.use ⟨rfl,rfl⟩⟩) ?_;simp only[go_sem]
  refine Sd ?_
  refine GCall.use (ai t2) (fun _=>⟨At,(hp2).val.use ⟨rfl,rfl⟩⟩) ?_;simp only[go_sem]
  refine Sd ?_
  refine GCall.use (ai t3) (fun _=>⟨At,(hp3).val.use ⟨rfl,rfl⟩⟩) ?_;simp only[go_sem]
  refine Sd ?_
  refine GCall.use (ai t4) (fun _=>⟨At,(hp4).val.use ⟨rfl,rfl⟩⟩) ?_;simp only[go_sem]
  refine Sd ?_
  refine Sd ?_
  refine(hh).val.use ?_;simp only[go_sem,n4]
  refine Sd ?_
  refine AWp.view [true] [(11,.rp 2 [.agg [ai lo,ai hi]] 0 0)] (LVw.refl _) (fun p hp=>by simp only[List.mem_singleton] at hp;subst hp;exact Vw.ofLp (if_pos rfl)) ?_
  simp only[go_sem]
  refine AWp.seq ?_
  repeat(first|(with_reducible refine AWp.seq ?_)|(with_reducible refine AWp.block ?_))
  refine AWp.mix mixed [0,1,2,3,5] (.step 4 .done .done) (by kernel_rfl) ?_;simp only[go_sem]
  refine Sd ?_
  refine Gc hgr ?_
  refine Sd ?_
  refine Wk ?_
  refine ret_eq ?_;simp only[go_sem]
  rw[fin]
 ·omega
theorem ref25_Value (ps:List Pr) (hs:Sm ps) (p:Nat) (hp:p<ps.length) (v:Nat) (hv:v<ps[p].vars.length) (k:Nat) (hk:k≤ps[p].evs.length) (ha:AsgOk ps[p]) (hd:AsgDis ps[p]) :
  PC Proofs.Tryz.prog 183 [aTr ps,ai p,ai v,ai k] (ai ((stateAt ps[p] k)[v]'(by rw[stateAt_length];exact hv))):=by
 have hm:=List.getElem_mem hp
 have hel:=hs.evs _ hm
 have hl:=hs.procs
 have hvl:=hs.vars _ hm
 have hgP:=getD_map (f:=aPr) hp
 have hgv:=getD_map (f:=aVar) hv
 have hst:∀j,v<(stateAt ps[p] j).length:=fun j=>by rw[stateAt_length];exact hv
 generalize hR:(stateAt ps[p] k)[v]'(hst k)=R at *
 refine PC.enter 56 [.tmp 8] [4] Proofs.Tryz.func183 rfl rfl rfl rfl rfl (by simp) (AWp.of ?_);simp only[go_sem]
 refine Wk ?_
 refine AWp.block (AWp.loopN [9] [1,2,4] (fun m vs L=>L=[]∧m≤k∧vs=[ai ((m:Int) - 1)]∧(stateAt ps[p] m)[v]'(hst m)=R) k ⟨rfl,by omega,rfl,hR⟩ ?_)
 rintro m vs L - ⟨rfl,hmk,rfl,hmR⟩
 simp only[go_sem]
 refine Wk ?_
 refine⟨fun h1 => ?_,fun h1 => ?_⟩
 ·obtain⟨i,rfl⟩:∃i,m=i+1:=⟨m - 1,by omega⟩
  have hi:i<ps[p].evs.length:=by omega
  have hie:(((i+1:Nat):Int) - 1).toNat=i:=by omega
  have hin:((i+1:Nat):Int) - 1=(i:Int):=by omega
  have hge:=getD_map (f:=aEv) hi
  have hal:=hs.asg _ hm _ (List.getElem_mem hi)
  have hao:∀a ∈ ps[p].evs[i].asg,0≤a.1:=fun a h=>(ha _ (List.getElem_mem hi) a h).1
  have hdi:=hd _ (List.getElem_mem hi)
  have hsu:=stateAt_succ ps[p] i hi
  have hmR':(assignL (stateAt ps[p] i) ps[p].evs[i].asg)[v]?=some R:=by rw[← hsu,List.getElem?_eq_getElem (hst _),hmR]
  have hhit:=assignL_hit (v:=v) ps[p].evs[i].asg (stateAt ps[p] i) (hst i) hao hdi
  have hnone:=assignL_none (v:=v) ps[p].evs[i].asg (stateAt ps[p] i)
  rw[hin]
  refine W2 hgP hge ?_
  refine AWp.block (AWp.count 11 ps[p].evs[i].asg.length [] [1,2,4,9,10] (fun j vs L=>L=[]∧∀b (hb:b<ps[p].evs[i].asg.length),b<j→ps[p].evs[i].asg[b].1 ≠ v) rfl rfl ⟨rfl,by omega⟩ ?_)
  rintro j vs L hj - ⟨rfl,hJ⟩
  simp only[go_sem]
  refine Wk ?_
  refine⟨fun h2 => ?_,fun h2 => ?_⟩
  ·have hjl:j<ps[p].evs[i].asg.length:=by omega
   have hga:=getD_map (f:=aAsg) hjl
   refine W1 hga ?_
   refine⟨fun h3 => ?_,fun h3 => ?_⟩
   ·refine W1 hga ?_
    refine ret_eq ?_;simp only[go_sem]
    have:=hhit j hjl h3
    rw[this] at hmR'
    cases hmR';rfl
   ·refine Wk ?_
    refine⟨_,List.Sublist.refl _,rfl,fun b hb hbj => ?_⟩
    by_cases e:b=j
    ·subst e;exact h3
    ·exact hJ b hb (by omega)
  ·refine Wk ?_
   have hno:=hnone fun a haa=>by
    obtain⟨b,hb,rfl⟩:=List.getElem_of_mem haa
    exact⟨hao _ haa,hJ b hb (by omega)⟩
   rw[hno] at hmR'
   rw[List.getElem?_eq_getElem (hst i)] at hmR'
   refine⟨_,List.Sublist.refl _,i,by omega,rfl,by omega,rfl,by simpa using hmR'⟩
 ·have e:m=0:=by omega
  subst e
  have h0:(stateAt ps[p] 0)[v]'(hst 0)=ps[p].vars[v].2:=by simp [stateAt]
  rw[h0] at hmR
  refine W2 hgP hgv ?_
  refine ret_eq ?_;simp only[go_sem]
  rw[← hmR]
theorem predtype_small (ps:List Pr) (hs:Sm ps) (hv:validF ps=true) (t:Pd):szF t≤1000000→okT ps t=true→PC Proofs.Tryz.prog 107 [aTr ps,aPd t] (ab (fitB ps t)):=by
 induction t using Pd.ind with
 | _ k n p q s l ih =>
 intro hz ht
 have hsz:szF (.mk k n p q s l)=szL l+1:=by rw[szF]
 have hll:=szL_len l
 have hsp:=fitB_mk ps k n p q s l
 have hr:=predtype_result k
 have hbd:=fun h=>predtype_bounds ps hs hv (.mk k n p q s l) hz ht h
 have h1:∀x ∈ l,PV Proofs.Tryz.prog (.clo 160 [.rp 1 [aTr ps] 0 0]) [aPd x] (ab (!fitB ps x)):=by
  intro x hx
  have hxi:=szL_mem hx
  have hch:=ih x hx (by omega) ((okT_sub ht).2.2.2 x hx).1
  generalize fitB ps x=b at *
  obtain⟨k2,n2,p2,q2,s2,l2⟩:=x
  refine PC.clo ?_
  simp only[aPd_mk] at *
  refine PC.enter 8 [.tmp 3] [2] Proofs.Tryz.func160 rfl rfl rfl rfl rfl (by simp) (AWp.of ?_);simp only[go_sem]
  refine Wk ?_
  refine Sd ?_
  refine(hch).val.use ?_;simp only[go_sem]
  refine Wk ?_
  refine ret_eq ?_;simp only[go_sem]
 have hc:=preds_containsFunc l (by omega) _ rfl (fun x => !fitB ps x) h1
 have hall:l.all (fitB ps) = !l.any fun x => !fitB ps x:=by rw[List.all_eq_not_any_not]
 rw[hall] at hsp
 generalize (l.any fun x => !fitB ps x)=c at *
 generalize fitB ps (.mk k n p q s l)=F at *
 simp only[Pd.kind] at hbd
 have hrk:resF k=1↔k≤8:=by unfold resF;split <;> omega
 generalize resF k=r at *
 generalize intF ps (.mk k n p q s l)=I at *
 unfold aBd aIv at hbd
 simp only[aPd_mk] at *
 refine PC.enter 23 [.tmp 4] [2,3,5] Proofs.Tryz.func107 rfl rfl rfl rfl rfl (by simp) (AWp.of ?_);simp only[go_sem]
 refine Wk ?_
 refine Sd ?_
 refine(hr).val.use ?_;simp only[go_sem]
 refine Wk ?_
 refine⟨fun h2 => ?_,fun h2 => ?_⟩
 ·have hk:=hrk.1 h2
  rw[if_pos hk] at hsp
  have hbd:=hbd hk
  refine Wk ?_
  refine Sd ?_
  refine(hbd).val.use ?_;simp only[go_sem]
  refine Wk ?_
  intro b5
  refine Wk ?_
  refine ret_eq ?_;simp only[go_sem]
  rw[hsp]
 ·rw[if_neg (fun h=>h2 (hrk.2 h))] at hsp
  refine Wk ?_
  refine Sd ?_
  refine(hc).val.use ?_;simp only[go_sem]
  refine Wk ?_
  refine ret_eq ?_;simp only[go_sem]
  rw[hsp]
theorem predtype_Check (ps:List Pr) (hs:Sm ps) (t:Pd) (hz:szF t≤1000000):PC Proofs.Tryz.prog 69 [aTr ps,aPd t] (ai (checkF ps t)):=by
 have h1:=trace_Valid ps hs
 have h2:=predtype_formed t hz
 have h3:=predtype_resolved ps hs t hz
 have h4:=predtype_typed t hz
 have h5:=fun h1 h2=>predtype_small ps hs h1 t hz h2
 have hsp:checkF ps t=if (validF ps && formedB t)=false then 1 else if allB (resB ps) t=false then 13 else if typedB t=false then 14 else if fitB ps t=false then 9 else 0:=rfl
 have hok:formedB t=true→allB (resB ps) t=true→typedB t=true→okT ps t=true:=fun a b c=>by
  unfold okT;unfold formedB at a;unfold typedB at c
  simp only[Bool.and_eq_true] at a ⊢
  exact⟨⟨a.2,b⟩,c⟩
 generalize checkF ps t=r at *
 generalize okT ps t=O at *
 generalize validF ps=V at *
 generalize formedB t=F at *
 generalize allB (resB ps) t=R at *
 generalize typedB t=T at *
 generalize fitB ps t=S at *
 obtain⟨k,n,p,q,s,l⟩:=t
 simp only[aPd_mk] at *
 refine PC.enter 28 [.tmp 4] [2,3] Proofs.Tryz.func69 rfl rfl rfl rfl rfl (by simp) (AWp.of ?_);simp only[go_sem]
 refine Wk ?_
 refine Sd ?_
 refine(h1).val.use ?_;simp only[go_sem]
 refine Sd ?_
 refine Gc h2 ?_
 refine Sd ?_
 refine Wk ?_
 refine⟨fun h6 => ?_,fun h6 => ?_⟩
 ·refine Wk ?_
  refine ret_eq ?_;simp only[go_sem]
  rw[hsp,if_pos (by cases V <;> simp_all)]
 intro h7
 rw[if_neg (by rw[h6,h7];decide)] at hsp
 refine Wk ?_
 refine Sd ?_
 refine(h3).val.use ?_;simp only[go_sem]
 refine Wk ?_
 refine⟨fun h8 => ?_,fun h8 => ?_⟩
 ·refine Wk ?_
  refine ret_eq ?_;simp only[go_sem]
  rw[hsp,if_pos h8]
 rw[if_neg (by rw[h8];decide)] at hsp
 refine Wk ?_
 refine Sd ?_
 refine(h4).val.use ?_;simp only[go_sem]
 refine Wk ?_
 refine⟨fun h9 => ?_,fun h9 => ?_⟩
 ·refine Wk ?_
  refine ret_eq ?_;simp only[go_sem]
  rw[hsp,if_pos h9]
 rw[if_neg (by rw[h9];decide)] at hsp
 have h5:=h5 h6 (hok h7 h8 h9)
 refine Wk ?_
 refine Sd ?_
 refine(h5).val.use ?_;simp only[go_sem]
 refine Wk ?_
 refine⟨fun h10 => ?_,fun h10 => ?_⟩
 ·refine Wk ?_
  refine ret_eq ?_;simp only[go_sem]
  rw[hsp,if_pos h10]
 rw[if_neg (by rw[h10];decide)] at hsp
 refine Wk ?_
 refine ret_eq ?_;simp only[go_sem]
 rw[hsp]
theorem fit_child {ps:List Pr} {k n p q:Int} {s:ByteArray} {l:List Pd} (h:fitB ps (.mk k n p q s l)=true) (hk:9≤k):∀x ∈ l,fitB ps x=true:=by
 rw[fitB_mk,if_neg (by omega),List.all_eq_true] at h;exact h
theorem fit_int {ps:List Pr} {x:Pd} (h:fitB ps x=true) (hk:x.kind≤8):(intF ps x).2.2=true:=by
 obtain⟨k,n,p,q,s,l⟩:=x
 simp only[Pd.kind] at hk
 rw[fitB_mk,if_pos hk] at h;exact h
theorem view_truth (ps:List Pr) (c:List Int) (V:List (List Int)) (o:Obs) (hcl:c.length≤1000000) (t:Pd):szF t≤1000000→okT ps t=true→9≤t.kind→fitB ps t=true→allB ntmB t=true→AllP (obsB ps o) t→AllP (leafOk ps c V o) t →
  PC Proofs.Tryz.prog 73 [aView ps c V,aPd t] (ab (truF o t)):=by
 induction t using Pd.ind with
 | _ k n p q s l ih =>
 intro hz ht hk hi htm hob hlf
 obtain⟨o1,o2,o3,o4⟩:=okT_sub ht
 obtain⟨hpl,_⟩:=loc_len o1
 simp only[Pd.kind] at hk
 obtain⟨ht1,ht2⟩:=allB_sub htm
 have hnt:¬(18≤k∧k≤21):=by unfold ntmB tempB at ht1;simp at ht1;omega
 have hsz:szF (.mk k n p q s l)=szL l+1:=by rw[szF]
 have hsp:=truF_mk o k n p q s l
 have hfc:=fit_child hi hk
 obtain⟨_,hls⟩:=AllP_sub hlf
 obtain⟨_,hos⟩:=AllP_sub hob
 generalize truF o (.mk k n p q s l)=R at *
 unfold truN at hsp
 by_cases h12:k≤12
 ·have hch:=child_le ht h12
  obtain⟨a,b,rfl⟩:=len2 (l:=l) (by rcases parts_cases k with ⟨e,hc⟩|⟨e,hc⟩|⟨e,hc⟩|e <;> omega)
  obtain⟨c1,c2⟩:=hch a (by simp)
  obtain⟨c3,c4⟩:=hch b (by simp)
  have hza:=szL_mem (l:=[a,b]) (x:=a) (by simp)
  have hzb:=szL_mem (l:=[a,b]) (x:=b) (by simp)
  have hca:=view_number ps c V o hcl a (by omega) c1 c2 (fit_int (hfc a (by simp)) c2) (hos a (by simp)) (hls a (by simp))
  have hcc:=view_number ps c V o hcl b (by omega) c3 c4 (fit_int (hfc b (by simp)) c4) (hos b (by simp)) (hls b (by simp))
  simp only[List.map_cons,List.map_nil,List.getD_cons_zero,List.getD_cons_succ] at hsp
  generalize valF o a=A at *
  generalize valF o b=B at *
  clear ih hlf hls hob hos htm ht2 hch hfc
  unfold aView at *
  obtain⟨ka,na,pa,qa,sa,la⟩:=a
  obtain⟨kb,nb,pb,qb,sb,lb⟩:=b
  simp only[aPd_mk,List.map_cons,List.map_nil] at *
  refine PC.enter 112 [.tmp 4] [2,3] Proofs.Tryz.func73 rfl rfl rfl rfl rfl (by simp) (AWp.of ?_);simp only[go_sem]
  by_cases h9:k=9
  ·rw[if_pos h9] at hsp
   repeat(first|((with_reducible refine AWp.ofC ?_ ?_);exact rfl;simp only[go_sem,(eq_true h9)])|((with_reducible refine an ?_ ?_);exact Au))
   repeat(first|(with_reducible refine AWp.seq ?_)|(with_reducible refine AWp.block ?_))
   refine AWp.mix mixed [0,1,2,3,4,5,6,7,8,9,10,11,12,13] .done (by kernel_rfl) ?_;simp only[go_sem]
   refine Sd ?_
   refine Gc hca ?_
   refine Sd ?_
   refine Gc hcc ?_
   refine Sd ?_
   refine Wk ?_
   refine ret_eq ?_;simp only[go_sem]
   rw[hsp]
  by_cases h10:k=10
  ·rw[if_neg h9,if_pos h10] at hsp
   repeat(first|((with_reducible refine AWp.ofC ?_ ?_);exact rfl;simp only[go_sem,(eq_true h10),h9])|((with_reducible refine an ?_ ?_);exact Au))
   repeat(first|(with_reducible refine AWp.seq ?_)|(with_reducible refine AWp.block ?_))
   refine AWp.mix mixed [0,1,2,3,4,5,6,7,8,9,10,11,12,13] .done (by kernel_rfl) ?_;simp only[go_sem]
   refine Sd ?_
   refine Gc hca ?_
   refine Sd ?_
   refine Gc hcc ?_
   refine Sd ?_
   refine Wk ?_
   refine ret_eq ?_;simp only[go_sem]
   rw[hsp]
  by_cases h11:k=11
  ·rw[if_neg h9,if_neg h10,if_pos h11] at hsp
   repeat(first|((with_reducible refine AWp.ofC ?_ ?_);exact rfl;simp only[go_sem,(eq_true h11),h9,h10])|((with_reducible refine an ?_ ?_);exact Au))
   repeat(first|(with_reducible refine AWp.seq ?_)|(with_reducible refine AWp.block ?_))
   refine AWp.mix mixed [0,1,2,3,4,5,6,7,8,9,10,11,12,13] .done (by kernel_rfl) ?_;simp only[go_sem]
   refine Sd ?_
   refine Gc hca ?_
   refine Sd ?_
   refine Gc hcc ?_
   refine Sd ?_
   refine Wk ?_
   refine ret_eq ?_;simp only[go_sem]
   rw[hsp]
  have h12:k=12:=by omega
  rw[if_neg h9,if_neg h10,if_neg h11,if_pos h12] at hsp
  repeat(first|((with_reducible refine AWp.ofC ?_ ?_);exact rfl;simp only[go_sem,(eq_true h12),h9,h10,h11])|((with_reducible refine an ?_ ?_);exact Au))
  repeat(first|(with_reducible refine AWp.seq ?_)|(with_reducible refine AWp.block ?_))
  refine AWp.mix mixed [0,1,2,3,4,5,6,7,8,9,10,11,12,13] .done (by kernel_rfl) ?_;simp only[go_sem]
  refine Sd ?_
  refine Gc hca ?_
  refine Sd ?_
  refine Gc hcc ?_
  refine Sd ?_
  refine Wk ?_
  refine ret_eq ?_;simp only[go_sem]
  rw[hsp]
 have h9:¬k=9:=by omega
 have h10:¬k=10:=by omega
 have h11:¬k=11:=by omega
 have h12:¬k=12:=by omega
 rw[if_neg h9,if_neg h10,if_neg h11,if_neg h12] at hsp
 have hch:=child_bool ht (by omega)
 rcases parts_cases k with ⟨e,hc⟩|⟨e,hc⟩|⟨e,hc⟩|e
 ·obtain rfl:=len0 (l:=l) (by omega)
  unfold aView
  simp only[aPd_mk,List.map_nil] at *
  refine PC.enter 112 [.tmp 4] [2,3] Proofs.Tryz.func73 rfl rfl rfl rfl rfl (by simp) (AWp.of ?_);simp only[go_sem]
  by_cases h13:k=13
  ·rw[if_pos h13] at hsp
   repeat(first|((with_reducible refine AWp.ofC ?_ ?_);exact rfl;simp only[go_sem,(eq_true h13),h9,h10,h11,h12])|((with_reducible refine an ?_ ?_);exact Au))
   refine ret_eq ?_;simp only[go_sem]
   rw[hsp]
  ·have h14:k=14:=by omega
   rw[if_neg h13,if_pos h14] at hsp
   repeat(first|((with_reducible refine AWp.ofC ?_ ?_);exact rfl;simp only[go_sem,(eq_true h14),h9,h10,h11,h12,h13])|((with_reducible refine an ?_ ?_);exact Au))
   refine ret_eq ?_;simp only[go_sem]
   rw[hsp]
 ·obtain⟨a,rfl⟩:=len1 (l:=l) (by omega)
  have h13:¬k=13:=by omega
  have h14:¬k=14:=by omega
  have h15:k=15:=by omega
  obtain⟨c1,c2⟩:=hch a (by simp)
  have hza:=szL_mem (l:=[a]) (x:=a) (by simp)
  have hca:=ih a (by simp) (by omega) c1 c2 (hfc a (by simp)) (ht2 a (by simp)) (hos a (by simp)) (hls a (by simp))
  simp only[List.map_cons,List.map_nil,List.getD_cons_zero,if_neg h13,if_neg h14,if_pos h15] at hsp
  generalize truF o a=A at *
  clear ih hlf hls hob hos htm ht2 hch hfc
  unfold aView at *
  obtain⟨ka,na,pa,qa,sa,la⟩:=a
  simp only[aPd_mk,List.map_cons,List.map_nil] at *
  refine PC.enter 112 [.tmp 4] [2,3] Proofs.Tryz.func73 rfl rfl rfl rfl rfl (by simp) (AWp.of ?_);simp only[go_sem]
  repeat(first|((with_reducible refine AWp.ofC ?_ ?_);exact rfl;simp only[go_sem,(eq_true h15),h9,h10,h11,h12,h13,h14])|((with_reducible refine an ?_ ?_);exact Au))
  repeat(first|(with_reducible refine AWp.seq ?_)|(with_reducible refine AWp.block ?_))
  refine AWp.mix mixed [0,1,2,3,4,5,6,7] .done (by kernel_rfl) ?_;simp only[go_sem]
  refine Sd ?_
  refine Gc hca ?_
  refine Sd ?_
  refine Wk ?_
  refine ret_eq ?_;simp only[go_sem]
  rw[hsp]
 ·obtain⟨a,b,rfl⟩:=len2 (l:=l) (by omega)
  have h13:¬k=13:=by omega
  have h14:¬k=14:=by omega
  have h15:¬k=15:=by omega
  obtain⟨c1,c2⟩:=hch a (by simp)
  obtain⟨c3,c4⟩:=hch b (by simp)
  have hza:=szL_mem (l:=[a,b]) (x:=a) (by simp)
  have hzb:=szL_mem (l:=[a,b]) (x:=b) (by simp)
  have hca:=ih a (by simp) (by omega) c1 c2 (hfc a (by simp)) (ht2 a (by simp)) (hos a (by simp)) (hls a (by simp))
  have hcc:=ih b (by simp) (by omega) c3 c4 (hfc b (by simp)) (ht2 b (by simp)) (hos b (by simp)) (hls b (by simp))
  simp only[List.map_cons,List.map_nil,List.getD_cons_zero,List.getD_cons_succ,if_neg h13,if_neg h14,if_neg h15] at hsp
  generalize truF o a=A at *
  generalize truF o b=B at *
  clear ih hlf hls hob hos htm ht2 hch hfc
  unfold aView at *
  obtain⟨ka,na,pa,qa,sa,la⟩:=a
  obtain⟨kb,nb,pb,qb,sb,lb⟩:=b
  simp only[aPd_mk,List.map_cons,List.map_nil] at *
  refine PC.enter 112 [.tmp 4] [2,3] Proofs.Tryz.func73 rfl rfl rfl rfl rfl (by simp) (AWp.of ?_);simp only[go_sem]
  by_cases h16:k=16
  ·rw[if_pos h16] at hsp
   repeat(first|((with_reducible refine AWp.ofC ?_ ?_);exact rfl;simp only[go_sem,(eq_true h16),h9,h10,h11,h12,h13,h14,h15])|((with_reducible refine an ?_ ?_);exact Au))
   repeat(first|(with_reducible refine AWp.seq ?_)|(with_reducible refine AWp.block ?_))
   refine AWp.mix mixed [0,1,2,3,4,5,6,7,8,9,10,11,12,13,14] .done (by kernel_rfl) ?_;simp only[go_sem]
   refine Sd ?_
   refine Gc hca ?_
   refine Sd ?_
   refine Gc hcc ?_
   refine Sd ?_
   refine Wk ?_
   refine ret_eq ?_;simp only[go_sem]
   rw[hsp]
  ·rw[if_neg h16] at hsp
   repeat(first|((with_reducible refine AWp.ofC ?_ ?_);exact rfl;simp only[go_sem,h9,h10,h11,h12,h13,h14,h15,h16])|((with_reducible refine an ?_ ?_);exact Au))
   refine AWp.seq ?_
   repeat(first|(with_reducible refine AWp.seq ?_)|(with_reducible refine AWp.block ?_))
   refine AWp.mix mixed [0,1,2,3,4,5,6,7,8,9,10,11,12,13,14] .done (by kernel_rfl) ?_;simp only[go_sem]
   refine Sd ?_
   refine Gc hca ?_
   refine Sd ?_
   refine Gc hcc ?_
   refine Sd ?_
   refine Wk ?_
   refine ret_eq ?_;simp only[go_sem]
   rw[hsp]
 ·omega
theorem evaluate_typed (t:Pd) (hz:szF t≤1000000) (h1:formedB t=true) (h2:typedB t=true) (w:Int):PC Proofs.Tryz.prog 70 [aPd t,ai w] (ai (if resF t.kind=w then 0 else 14)):=by
 have ht:=predtype_TypeX t hz
 rw[h1,h2] at ht
 rw[if_neg (by decide),if_neg (by decide),if_neg (by decide),if_neg (by decide)] at ht
 generalize resF t.kind=r at *
 obtain⟨k,n,p,q,s,l⟩:=t
 simp only[aPd_mk] at *
 refine PC.enter 19 [.tmp 4] [2] Proofs.Tryz.func70 rfl rfl rfl rfl rfl (by simp) (AWp.of ?_);simp only[go_sem]
 refine Wk ?_
 refine Sd ?_
 refine(ht).val.use ?_;simp only[go_sem]
 refine Wk ?_
 refine⟨fun h3 => ?_,fun h3 => ?_⟩
 ·refine Wk ?_
  refine ret_eq ?_;simp only[go_sem]
  rw[if_neg h3]
 ·refine Wk ?_
  refine ret_eq ?_;simp only[go_sem]
  rw[if_pos h3]
theorem predtype_temporal (k:Int):PC Proofs.Tryz.prog 174 [ai k] (ab (decide (18≤k∧k≤21))):=by
 generalize hb:decide (18≤k∧k≤21)=b
 refine PC.enter 9 [.tmp 2] [] Proofs.Tryz.func174 rfl rfl rfl rfl rfl (by simp) (AWp.of ?_);simp only[go_sem]
 refine Wk ?_
 refine ret_eq ?_;simp only[go_sem]
 rw[← hb]
 congr 2
 rw[Bool.eq_iff_iff];simp
theorem predtype_Temporal1 (x:Pd):PC Proofs.Tryz.prog 173 [aPd x] (ab (ntmB x)):=by
 obtain⟨k,n,p,q,s,l⟩:=x
 have h:=predtype_temporal k
 have hsp:ntmB (.mk k n p q s l) = !decide (18≤k∧k≤21):=rfl
 rw[hsp]
 generalize decide (18≤k∧k≤21)=b at *
 refine PC.enter 7 [.tmp 2] [1] Proofs.Tryz.func173 rfl rfl rfl rfl rfl (by simp) (AWp.of ?_);simp only[go_sem]
 refine Wk ?_
 refine Sd ?_
 refine(h).val.use ?_;simp only[go_sem]
 refine Wk ?_
 refine ret_eq ?_;simp only[go_sem]
theorem predtype_Temporal (t:Pd) (hz:szF t≤1000000):PC Proofs.Tryz.prog 120 [aPd t] (ab (formedB t && !allB ntmB t)):=by
 have hf:=predtype_formed t hz
 have he:=predtype_eachV ntmB 173 (fun x hx=>(predtype_Temporal1 x).val) t hz
 generalize formedB t=f at *
 generalize allB ntmB t=a at *
 obtain⟨k,n,p,q,s,l⟩:=t
 simp only[aPd_mk] at *
 refine PC.enter 10 [.tmp 2] [1] Proofs.Tryz.func120 rfl rfl rfl rfl rfl (by simp) (AWp.of ?_);simp only[go_sem]
 refine Wk ?_
 refine Sd ?_
 refine(hf).val.use ?_;simp only[go_sem]
 refine Sd ?_
 refine Gc he ?_
 refine Sd ?_
 refine Wk ?_
 refine ret_eq ?_;simp only[go_sem]
open Classical in
noncomputable def atV (ps:List Pr) (c:List Int) (t:Pd):AV:=if c.length ≠ ps.length∨checkF ps t ≠ 0∨givenF ps [c] [] ≠ 0 then aView [] [] [] else aView ps c (valuesAt ps c)
def nchB:Pd→Bool | .mk k _ _ _ _ _=>decide (k ≠ 4)
def andB (f g:Pd→Bool) (x:Pd):Bool:=f x && g x
theorem allB_and {f g:Pd→Bool} (t:Pd):allB f t=true→allB g t=true→allB (andB f g) t=true:=by
 induction t using Pd.ind with
 | _ k n p q s l ih =>
  intro hf hg
  obtain⟨f1,f2⟩:=allB_sub hf
  obtain⟨g1,g2⟩:=allB_sub hg
  rw[allB_mk,Bool.and_eq_true,List.all_eq_true]
  exact⟨by unfold andB;rw[f1,g1];rfl,fun x hx=>ih x hx (f2 x hx) (g2 x hx)⟩
theorem cut_leaf (ps:List Pr) (hs:Sm ps) (c:List Int) (ch:Int→Int→Int) (hg:givenF ps [c] []=0) (t:Pd) (hr:allB (resB ps) t=true) (hn:allB nchB t=true) :
  AllP (leafOk ps c (valuesAt ps c) (cutO ps c ch)) t∧AllP (obsB ps (cutO ps c ch)) t:=by
 obtain⟨hv,hc,hir,_⟩:=givenF_zero hg
 have hb:=allB_and t hr hn
 have hvl:(valuesAt ps c).length=ps.length:=by unfold valuesAt;rw[List.length_map,List.length_zip];omega
 have hcg:∀i (hi:i<ps.length),c.getD i 0=c[i]'(by omega):=fun i hi=>by rw[List.getD_eq_getElem?_getD,List.getElem?_eq_getElem (by omega)];rfl
 refine⟨AllP_of_allB (fun x hx => ?_) t hb,AllP_of_allB (fun x hx => ?_) t hb⟩
 ·obtain⟨k,n,p,q,s,l⟩:=x
  unfold andB at hx
  rw[Bool.and_eq_true] at hx
  obtain⟨r2,r3,r4⟩:=res_leaf hx.1
  refine⟨fun e => ?_,fun e => ?_,fun e => ?_⟩
  ·obtain⟨i,rfl,hp⟩:=isPB_nat (r2 e).1
   have hvg:=valuesAt_get (c:=c) hp (by omega)
   have h:=view_variable ps hs c (valuesAt ps c) k n i q s l hp (r2 e).2 (by omega) (by rw[hvg,stateAt_length])
   rw[hvg] at h
   have ho:(cutO ps c ch).var i s=(stateAt ps[i] (c[i]'(by omega)).toNat).getD (varIx ps[i].vars s).toNat 0:=by
    unfold cutO;simp only[Int.toNat_natCast,List.getElem?_eq_getElem hp,hcg i hp]
   rw[ho];exact h
  ·obtain⟨i,rfl,hp⟩:=isPB_nat (r3 e)
   refine⟨by omega,?_⟩
   have ho:(cutO ps c ch).cnt i=c[i]'(by omega):=by unfold cutO;simp only[Int.toNat_natCast,hcg i hp]
   rw[ho,Int.toNat_natCast,List.getElem?_eq_getElem (by omega)]
  ·have:=hx.2
   unfold nchB at this
   simp only[decide_eq_true_eq] at this
   exact absurd e this
 ·obtain⟨k,n,p,q,s,l⟩:=x
  unfold andB at hx
  rw[Bool.and_eq_true] at hx
  obtain⟨r2,r3,r4⟩:=res_leaf hx.1
  refine⟨fun e => ?_,fun e => ?_,fun e => ?_⟩
  ·obtain⟨i,rfl,hp⟩:=isPB_nat (r2 e).1
   obtain⟨b1,b2⟩:=inRangeF_get hir hc hp
   have ho:(cutO ps c ch).var i s=(stateAt ps[i] (c[i]'(by omega)).toNat).getD (varIx ps[i].vars s).toNat 0:=by
    unfold cutO;simp only[Int.toNat_natCast,List.getElem?_eq_getElem hp,hcg i hp]
   have hm:=valsF_mem ps[i] (varIx ps[i].vars s).toNat (k:=(c[i]'(by omega)).toNat) (by omega)
   rw[ho]
   unfold varLo varHi
   simp only[Int.toNat_natCast,List.getElem?_eq_getElem hp]
   exact⟨minL_le hm,le_maxL hm⟩
  ·obtain⟨i,rfl,hp⟩:=isPB_nat (r3 e)
   obtain⟨b1,b2⟩:=inRangeF_get hir hc hp
   have ho:(cutO ps c ch).cnt i=c[i]'(by omega):=by unfold cutO;simp only[Int.toNat_natCast,hcg i hp]
   rw[ho,evN_get hp]
   exact⟨b1,b2⟩
  ·have:=hx.2
   unfold nchB at this
   simp only[decide_eq_true_eq] at this
   exact absurd e this
end Go.AL
end
section
namespace Go.AL
open Go Go.RowKit
set_option maxRecDepth 4000
def fillZ (l:List Int) (n i:Nat):List Int:=l.take i ++ List.replicate (n - i) 0
theorem fillZ_set {l:List Int} {n i:Nat} (hl:l.length=n) (hi:i<n):(fillZ l n i).set i (l[i]'(by omega))=fillZ l n (i+1):=by
 unfold fillZ
 have e:n - i=(n - (i+1))+1:=by omega
 rw[List.set_append_right _ _ (by rw[List.length_take];omega),List.length_take,show i - min i l.length=0 by omega,e,List.replicate_succ,List.set_cons_zero,List.take_succ_eq_append_getElem (by omega),List.append_assoc]
 rfl
theorem fillZ_zero (l:List Int) (n:Nat):fillZ l n 0=List.replicate n 0:=by unfold fillZ;simp
theorem fillZ_full {l:List Int} {n:Nat} (h:l.length=n):fillZ l n n=l:=by unfold fillZ;subst h;simp
theorem fillZ_length {l:List Int} {n i:Nat} (hl:l.length=n) (hi:i≤n):(fillZ l n i).length=n:=by unfold fillZ;rw[List.length_append,List.length_take,List.length_replicate];omega
theorem map_set_ai (l:List Int) (i:Nat) (v:Int):(l.map ai).set i (ai v)=(l.set i v).map ai:=by rw[List.map_set]
theorem replicate_ai (n:Nat):(List.replicate n (0:Int)).map ai=List.replicate n (ai 0):=by rw[List.map_replicate]
theorem givenL {ps:List Pr} {l:List (List Int)} : givenF ps l []=0↔(validF ps=true∧∀c ∈ l,c.length=ps.length)∧(∀c ∈ l,inRangeF ps c=true)∧∀c ∈ l,closedF ps c=true:=by
 have h1:sizedF ps l=true↔validF ps=true∧∀c ∈ l,c.length=ps.length:=by
  refine⟨sizedF_inv,fun h => ?_⟩
  unfold sizedF
  rw[h.1,Bool.true_and,Bool.not_eq_true',List.any_eq_false]
  intro c hc
  rw[decide_eq_true (h.2 c hc)];decide
 have h2:=List.all_eq_true (l:=l) (p:=inRangeF ps)
 have h3:=List.all_eq_true (l:=l) (p:=closedF ps)
 rw[← h1,← h2,← h3]
 unfold givenF
 cases sizedF ps l <;> cases l.all (inRangeF ps) <;> cases l.all (closedF ps) <;> simp
mutual
def rwF (c:List Int):Pd→Pd
 | .mk k n p q s l=>if k=3 then .mk 6 0 0 0 ByteArray.empty [.mk k n p q s l,.mk 1 (c.getD p.toNat 0) 0 0 ByteArray.empty []] else .mk k n p q s (rwL c l)
def rwL (c:List Int):List Pd→List Pd
 | []=>[]
 | x :: r=>rwF c x :: rwL c r
end
end Go.AL
end
