/- Texts of this claim's proof: WK2, WOg, WGr, WK3, WI33. No condition. -/
import Derived.Test.YtbbcigpnpbiojaaGreatDoorM20
import Derived.Test.YtbbcigpnpbiojaaGreatDoorM10
import Derived.Test.YtbbcigpnpbiojaaGreatDoorM9
import Derived.Test.YtbbcigpnpbiojaaGreatDoorM12
import Derived.Test.YtbbcigpnpbiojaaGreatDoorM18
section
namespace Go.AL
open Go Go.RowKit
set_option maxRecDepth 4000
theorem adE_some {k c d:Int} {f g:Tms} {r:Int × Tms} (h:adE k c d f g=some r):okA k c d f g=true∧r=((sumF k c d).1,addT k f g):=by
 unfold adE at h
 split at h
 ·rename_i h1;cases h;exact⟨h1,rfl⟩
 ·cases h
theorem linE_inv1 {k n p q:Int} {s:ByteArray} {x:Pd} {r:Int × Tms} (hk:¬k=1) (hk2:¬(k=2∨k=3∨k=4)) (h:linE (.mk k n p q s [x])=some r):∃a,linE x=some a∧adE (-1) 0 a.1 [] a.2=some r:=by
 cases hx:linE x with
 | none=>rw[lin_none (l:=[x]) (i:=0) (by simp) hx] at h;cases h
 | some a=>rw[linE_1 hx,linN,if_neg hk,if_neg hk2] at h;exact⟨a,rfl,h⟩
theorem linE_inv2 {k n p q:Int} {s:ByteArray} {x y:Pd} {r:Int × Tms} (hk:¬k=1) (hk2:¬(k=2∨k=3∨k=4)) (h:linE (.mk k n p q s [x,y])=some r):∃a b,linE x=some a∧linE y=some b ∧
  (if k=6 then adE 1 a.1 b.1 a.2 b.2 else if k=7 then adE (-1) a.1 b.1 a.2 b.2 else if a.2.length=0 then adE a.1 0 b.1 [] b.2 else if b.2.length=0 then adE b.1 0 a.1 [] a.2 else none)=some r:=by
 cases hx:linE x with
 | none=>rw[lin_none (l:=[x,y]) (i:=0) (by simp) hx] at h;cases h
 | some a =>
  cases hy:linE y with
  | none=>rw[lin_none (l:=[x,y]) (i:=1) (by simp) hy] at h;cases h
  | some b=>rw[linE_2 hx hy,linN,if_neg hk,if_neg hk2] at h;exact⟨a,b,rfl,rfl,h⟩
theorem addT_mem {k:Int} {f:Tms} (hf:OkT f):∀g:Tms,∀x ∈ addT k f g,x.1 ∈ f.map Prod.fst∨x.1 ∈ g.map Prod.fst
 | [],x,hx => .inl (List.mem_map.2 ⟨x,hx,rfl⟩)
 | y :: g,x,hx=>by
  rw[addT] at hx
  rcases (st_ok (addT_ok k hf g) (sumF_num _ _ _)).2 x hx with h|h
  ·exact .inr (by rw[h];simp)
  ·rcases addT_mem hf g x h with h|h
   ·exact .inl h
   ·exact .inr (by rw[List.map_cons];exact List.mem_cons_of_mem _ h)
theorem lin_ad {t:Pd} {k c d:Int} {f g:Tms} {r:Int × Tms} (hE:linE t=some r) (h:adE k c d f g=some r) (hf:OkT f) (hg:OkT g) (hmem:∀a,(a ∈ f.map Prod.fst∨a ∈ g.map Prod.fst)→a ∈ lvF t) (hv:∀o,valF o t=(c+sT (obV o) f)+k * (d+sT (obV o) g)):LinS t r.1 r.2:=by
 obtain⟨h1,rfl⟩:=adE_some h
 have h1':=h1
 unfold okA at h1
 rw[Bool.and_eq_true] at h1
 exact lin_of (addT_ok k hf g) (addT_mem hf g) h1.1 (fun v=>addT_s v g hg.nd h1.2) hmem hv ⟨_,hE,.refl (addT_ok k hf g)⟩
theorem linE_lin (t:Pd):IntOk t→∀r,linE t=some r→LinS t r.1 r.2:=by
 induction t using Pd.ind with
 | _ k n p q s l ih =>
 intro hio r h
 obtain⟨hsub,hc⟩:=int_parts hio
 rcases hc with ⟨hk,rfl⟩|⟨rfl,x,rfl⟩|⟨hk,x,y,rfl⟩
 ·by_cases h1:k=1
  ·subst h1
   have hn:NumB n:=by
    have h1:=hio.1
    rw[allB_mk,Bool.and_eq_true] at h1
    have h2:=(loc_len h1.1).2
    unfold numB at h2
    rw[if_pos rfl,decide_eq_true_eq] at h2
    unfold NumB;omega
   rw[linE_mk,linL_nil] at h
   have h:(if (1:Int)=1 then some (n,[]) else _)=some r:=h
   rw[if_pos rfl] at h
   cases h
   exact lin_num p q s hn
  ·have h2:k=2∨k=3∨k=4:=by omega
   rw[linE_mk,linL_nil] at h
   have h:(if k=1 then some (n,[]) else if k=2∨k=3∨k=4 then some (0,[((k,p,q,s),1)]) else _)=some r:=h
   rw[if_neg h1,if_pos h2] at h
   cases h
   exact lin_leaf h2 n p q s
 ·obtain⟨a,ha,h'⟩:=linE_inv1 (by decide) (by decide) h
  have hx:=ih x (by simp) (hsub x (by simp)) a ha
  refine lin_ad h h' ok_nil hx.ok (fun b hb => ?_) fun o => ?_
  ·rcases hb with hb|hb
   ·simp at hb
   ·exact lv_mem (by decide) (x:=x) (by simp) (lin_mem hx hb)
  ·rw[valF_mk]
   show -valF o x=_
   rw[hx.val o]
   show _=0+0 + -1 * _
   omega
 ·obtain⟨a,b,ha,hb,h'⟩:=linE_inv2 (by omega) (by omega) h
  have hx:=ih x (by simp) (hsub x (by simp)) a ha
  have hy:=ih y (by simp) (hsub y (by simp)) b hb
  have hk4:¬(k=2∨k=3∨k=4):=by omega
  have mx:∀u,u ∈ a.2.map Prod.fst→u ∈ lvF (.mk k n p q s [x,y]):=fun u hu=>lv_mem hk4 (x:=x) (by simp) (lin_mem hx hu)
  have my:∀u,u ∈ b.2.map Prod.fst→u ∈ lvF (.mk k n p q s [x,y]):=fun u hu=>lv_mem hk4 (x:=y) (by simp) (lin_mem hy hu)
  have hvl:∀o,valF o (.mk k n p q s [x,y])=if k=6 then valF o x+valF o y else if k=7 then valF o x - valF o y else valF o x * valF o y:=fun o=>by rw[valF_mk];rfl
  split at h'
  ·rename_i e
   refine lin_ad h h' hx.ok hy.ok (fun u hu=>hu.elim (mx u) (my u)) fun o => ?_
   rw[hvl,if_pos e,hx.val,hy.val]
   omega
  split at h'
  ·rename_i e6 e
   refine lin_ad h h' hx.ok hy.ok (fun u hu=>hu.elim (mx u) (my u)) fun o => ?_
   rw[hvl,if_neg e6,if_pos e,hx.val,hy.val]
   omega
  split at h'
  ·rename_i e6 e7 e
   refine lin_ad h h' ok_nil hy.ok (fun u hu=>hu.elim (fun hu=>by simp at hu) (my u)) fun o => ?_
   rw[hvl,if_neg e6,if_neg e7,hx.val,hy.val,List.length_eq_zero_iff.1 e]
   show (a.1+0) * _=0+0+a.1 * _
   rw[Int.add_zero,Int.zero_add,Int.zero_add]
  split at h'
  ·rename_i e6 e7 e8 e
   refine lin_ad h h' ok_nil hx.ok (fun u hu=>hu.elim (fun hu=>by simp at hu) (mx u)) fun o => ?_
   rw[hvl,if_neg e6,if_neg e7,hx.val,hy.val,List.length_eq_zero_iff.1 e]
   show _ * (b.1+0)=0+0+b.1 * _
   rw[Int.add_zero,Int.zero_add,Int.zero_add,Int.mul_comm]
  ·cases h'
def mvIs (st:Int × Int) (x:Atm × Int):Int × Int:=if x.1.1=4∧0<x.2 then (x.1.2.1,x.1.2.2.1) else if x.1.1=4 then (x.1.2.2.1,x.1.2.1) else if 0<x.2 then (x.1.2.1,st.2) else (st.1,x.1.2.1)
def mvI (h:Tms):Int × Int:=h.foldl mvIs (-1,-1)
theorem two_inv {h:Tms} (ht:twoS h=true):(∃x,h=[x]∧x.1.1=4)∨∃x y,(h=[x,y]∨h=[y,x])∧x.1.1=3∧0<x.2∧y.1.1=3∧¬0<y.2:=by
 unfold twoS at ht
 simp only[Bool.or_eq_true,Bool.and_eq_true,decide_eq_true_eq] at ht
 rcases ht with ⟨h1,h2⟩|⟨⟨h1,h2⟩,h3⟩
 ·obtain⟨x,rfl⟩:=ln1 (l:=h) (by omega)
  refine .inl ⟨x,rfl,?_⟩
  by_cases e:x.1.1=4
  ·exact e
  ·unfold nF at h2
   simp [isChn,e] at h2
 ·obtain⟨x,y,rfl⟩:=ln2 (l:=h) (by omega)
  refine .inr ?_
  unfold nF at h2 h3
  by_cases px:isPos x=true
  ·have hx:x.1.1=3∧0<x.2:=by unfold isPos at px;simpa using px
   have nx:isNeg x=false:=by unfold isNeg;simp [hx.2]
   by_cases ny:isNeg y=true
   ·have hy:y.1.1=3∧¬0<y.2:=by unfold isNeg at ny;simpa using ny
    exact⟨x,y,.inl rfl,hx.1,hx.2,hy.1,hy.2⟩
   ·have ny:isNeg y=false:=by simpa using ny
    simp [nx,ny] at h3
  ·have px:isPos x=false:=by simpa using px
   by_cases py:isPos y=true
   ·have hy:y.1.1=3∧0<y.2:=by unfold isPos at py;simpa using py
    have ny:isNeg y=false:=by unfold isNeg;simp [hy.2]
    by_cases nx:isNeg x=true
    ·have hx:x.1.1=3∧¬0<x.2:=by unfold isNeg at nx;simpa using nx
     exact⟨y,x,.inr rfl,hy.1,hy.2,hx.1,hx.2⟩
    ·have nx:isNeg x=false:=by simpa using nx
     simp [nx,ny] at h3
   ·have py:isPos y=false:=by simpa using py
    simp [px,py] at h2
theorem mv_chn {x:Atm × Int} (h:x.1.1=4):mvI [x]=if 0<x.2 then (x.1.2.1,x.1.2.2.1) else (x.1.2.2.1,x.1.2.1):=by
 show mvIs (-1,-1) x=_
 unfold mvIs
 by_cases h2:0<x.2
 ·rw[if_pos ⟨h,h2⟩,if_pos h2]
 ·rw[if_neg (fun e=>h2 e.2),if_pos h,if_neg h2]
theorem mv_cnt {x y:Atm × Int} (h1:x.1.1=3) (h2:0<x.2) (h3:y.1.1=3) (h4:¬0<y.2):mvI [x,y]=(x.1.2.1,y.1.2.1)∧mvI [y,x]=(x.1.2.1,y.1.2.1):=by
 have n1:¬x.1.1=4:=by omega
 have n2:¬y.1.1=4:=by omega
 have e:∀st,mvIs st x=(x.1.2.1,st.2):=fun st=>by unfold mvIs;rw[if_neg (fun e=>n1 e.1),if_neg n1,if_pos h2]
 have e':∀st,mvIs st y=(st.1,y.1.2.1):=fun st=>by unfold mvIs;rw[if_neg (fun e=>n2 e.1),if_neg n2,if_neg h4]
 constructor
 ·show mvIs (mvIs (-1,-1) x) y=_
  rw[e,e']
 ·show mvIs (mvIs (-1,-1) y) x=_
  rw[e',e]
theorem perm_two {α:Type} {h:List α} {x y:α} (hp:h.Perm [x,y]):h=[x,y]∨h=[y,x]:=by
 obtain⟨a,b,rfl⟩:=ln2 (l:=h) hp.length_eq
 have ha:a ∈ [x,y]:=hp.mem_iff.1 (by simp)
 simp only[List.mem_cons,List.not_mem_nil,or_false] at ha
 rcases ha with rfl|rfl
 ·have:=(List.perm_cons a).1 hp
  have:=List.perm_singleton.1 this
  exact .inl (by rw[this])
 ·have h2:[a,b].Perm [a,x]:=hp.trans (List.Perm.swap a x [])
  have:=(List.perm_cons a).1 h2
  have:=List.perm_singleton.1 this
  exact .inr (by rw[this])
theorem mv_two {g h:Tms} (ht:twoS g=true) (hp:h.Perm g):mvI h=mvI g:=by
 rcases two_inv ht with ⟨x,rfl,_⟩|⟨x,y,e,h1,h2,h3,h4⟩
 ·rw[List.perm_singleton.1 hp]
 ·obtain⟨m1,m2⟩:=mv_cnt h1 h2 h3 h4
  have hp':h.Perm [x,y]:=by
   rcases e with rfl|rfl
   ·exact hp
   ·exact hp.trans (List.Perm.swap x y [])
  have a1:mvI g=(x.1.2.1,y.1.2.1):=by rcases e with rfl|rfl;exact m1;exact m2
  rw[a1]
  rcases perm_two hp' with rfl|rfl
  ·exact m1
  ·exact m2
theorem mv_up:∀(h:Tms) (st:Int × Int),(∀x ∈ h,x.1.1=3∧0<x.2)→(h.foldl mvIs st).2=st.2
 | [],_,_=>rfl
 | x :: h,st,hx=>by
  rw[List.foldl_cons,mv_up h _ fun y hy=>hx y (List.mem_cons_of_mem _ hy)]
  obtain⟨h1,h2⟩:=hx x (by simp)
  unfold mvIs
  rw[if_neg (fun e=>by omega),if_neg (by omega),if_pos h2]
theorem cnt_inv {g:Tms} (hg:OkT g) (h:cntS 1 g=true):∀x ∈ g,x.1.1=3∧0<x.2:=fun x hx=>by
 unfold cntS at h
 have:=List.all_eq_true.1 h x hx
 rw[Bool.and_eq_true,Bool.not_eq_true',decide_eq_true_eq,decide_eq_false_iff_not] at this
 have:=(hg.co x hx).1
 omega
theorem mv_down {g:Tms} (hg:OkT g) (h:cntS 1 g=true):(mvI g).2 = -1:=mv_up g _ (cnt_inv hg h)
def AtmOk (ps:List Pr) (g:Tms):Prop:=∀x ∈ g,(x.1.1=3→∃i:Nat,x.1.2.1=i∧i<ps.length)∧(x.1.1=4→∃i j:Nat,x.1.2.1=i∧i<ps.length∧x.1.2.2.1=j∧j<ps.length)
theorem lv_res {ps:List Pr} (t:Pd):allB (resB ps) t=true→∀a ∈ lvF t,(a.1=3→∃i:Nat,a.2.1=i∧i<ps.length)∧(a.1=4→∃i j:Nat,a.2.1=i∧i<ps.length∧a.2.2.1=j∧j<ps.length):=by
 induction t using Pd.ind with
 | _ k n p q s l ih =>
 intro hr a ha
 rw[allB_mk,Bool.and_eq_true,List.all_eq_true] at hr
 rw[lvF_mk] at ha
 split at ha
 ·obtain rfl:=List.mem_singleton.1 ha
  obtain⟨_,r3,r4⟩:=res_leaf hr.1
  refine⟨fun e => ?_,fun e => ?_⟩
  ·obtain⟨i,e1,hi⟩:=isPB_nat (r3 e)
   exact⟨i,e1,hi⟩
  ·obtain⟨i,e1,hi⟩:=isPB_nat (r4 e).1
   obtain⟨j,e2,hj⟩:=isPB_nat (r4 e).2.1
   exact⟨i,j,e1,hi,e2,hj⟩
 ·have hL:∀l:List Pd,(∀x ∈ l,∀a ∈ lvF x,(a.1=3→∃i:Nat,a.2.1=i∧i<ps.length)∧(a.1=4→∃i j:Nat,a.2.1=i∧i<ps.length∧a.2.2.1=j∧j<ps.length))→∀a ∈ lvL l,(a.1=3→∃i:Nat,a.2.1=i∧i<ps.length)∧(a.1=4→∃i j:Nat,a.2.1=i∧i<ps.length∧a.2.2.1=j∧j<ps.length):=by
   intro l
   induction l with
   | nil=>intro _ a ha;rw[lvL] at ha;cases ha
   | cons x l ihl =>
    intro hl a ha
    rw[lvL] at ha
    rcases List.mem_append.1 ha with ha|ha
    ·exact hl x (by simp) a ha
    ·exact ihl (fun y hy=>hl y (List.mem_cons_of_mem _ hy)) a ha
  exact hL l (fun x hx=>ih x hx (hr.2 x hx)) a ha
theorem obV_cnt {ps:List Pr} {c:List Int} {a:Atm} {i:Nat} (h:a.1=3) (e:a.2.1=i):obV (obC ps c) a=c.getD i 0:=by
 unfold obV
 rw[if_neg (by omega),if_pos h,e]
 show c.getD ((i:Nat):Int).toNat 0=_
 rw[Int.toNat_natCast]
theorem obV_chn {ps:List Pr} {c:List Int} {a:Atm} {i j:Nat} (h:a.1=4) (e:a.2.1=i) (e':a.2.2.1=j):obV (obC ps c) a=undF ps c i j:=by
 unfold obV
 rw[if_neg (by omega),if_neg (by omega),e,e'];rfl
theorem two_val {ps:List Pr} (hv:validF ps=true) {g:Tms} (hg:OkT g) (ha:AtmOk ps g) (ht:twoS g=true):∃i j:Nat,mvI g=((i:Int),(j:Int))∧i<ps.length∧j<ps.length∧∀ {c d:List Int},leC c d →
  (c.getD j 0=d.getD j 0→sT (obV (obC ps c)) g≤sT (obV (obC ps d)) g)∧(c.getD i 0=d.getD i 0→sT (obV (obC ps d)) g≤sT (obV (obC ps c)) g):=by
 rcases two_inv ht with ⟨x,rfl,h4⟩|⟨x,y,e,h1,h2,h3,h4⟩
 ·obtain⟨i,j,e1,hi,e2,hj⟩:=(ha x (by simp)).2 h4
  have hx0:=(hg.co x (by simp)).1
  have hs:∀c,sT (obV (obC ps c)) [x]=x.2 * undF ps c i j:=fun c=>by
   show x.2 * obV (obC ps c) x.1+0=_
   rw[obV_chn h4 e1 e2,Int.add_zero]
  rw[mv_chn h4]
  by_cases h0:0<x.2
  ·rw[if_pos h0,e1,e2]
   refine⟨i,j,rfl,hi,hj,fun {c d} hle=>⟨fun h => ?_,fun h => ?_⟩⟩
   ·rw[hs,hs]
    exact Int.mul_le_mul_of_nonneg_left (und_more hv hle i j h) (by omega)
   ·rw[hs,hs]
    exact Int.mul_le_mul_of_nonneg_left (und_same hle i j h) (by omega)
  ·rw[if_neg h0,e1,e2]
   refine⟨j,i,rfl,hj,hi,fun {c d} hle=>⟨fun h => ?_,fun h => ?_⟩⟩
   ·rw[hs,hs]
    exact Int.mul_le_mul_of_nonpos_left (by omega) (und_same hle i j h)
   ·rw[hs,hs]
    exact Int.mul_le_mul_of_nonpos_left (by omega) (und_more hv hle i j h)
 ·have hmx:x ∈ g:=by rcases e with rfl|rfl <;> simp
  have hmy:y ∈ g:=by rcases e with rfl|rfl <;> simp
  obtain⟨i,e1,hi⟩:=(ha x hmx).1 h1
  obtain⟨j,e2,hj⟩:=(ha y hmy).1 h3
  obtain⟨m1,m2⟩:=mv_cnt h1 h2 h3 h4
  have hm:mvI g=((i:Int),(j:Int)):=by rw[← e1,← e2];rcases e with rfl|rfl;exact m1;exact m2
  have hs:∀c,sT (obV (obC ps c)) g=x.2 * c.getD i 0+y.2 * c.getD j 0:=fun c=>by
   rw[← obV_cnt (ps:=ps) (c:=c) h1 e1,← obV_cnt (ps:=ps) (c:=c) h3 e2]
   rcases e with rfl|rfl
   ·show x.2 * _+(y.2 * _+0)=_
    omega
   ·show y.2 * _+(x.2 * _+0)=_
    omega
  refine⟨i,j,hm,hi,hj,fun {c d} hle=>⟨fun h => ?_,fun h => ?_⟩⟩
  ·rw[hs,hs,h]
   have:=Int.mul_le_mul_of_nonneg_left (hle i) (show 0≤x.2 by omega)
   omega
  ·rw[hs,hs,h]
   have:=Int.mul_le_mul_of_nonpos_left (show y.2≤0 by omega) (hle j)
   omega
theorem cnt_val {ps:List Pr} {c d:List Int} (hle:leC c d):∀ {g:Tms},AtmOk ps g→(∀x ∈ g,x.1.1=3∧0<x.2)→sT (obV (obC ps c)) g≤sT (obV (obC ps d)) g
 | [],_,_=>Int.le_refl _
 | x :: g,ha,hx=>by
  have ih:=cnt_val hle (g:=g) (fun y hy=>ha y (List.mem_cons_of_mem _ hy)) fun y hy=>hx y (List.mem_cons_of_mem _ hy)
  obtain⟨h1,h2⟩:=hx x (by simp)
  obtain⟨i,e,hi⟩:=(ha x (by simp)).1 h1
  rw[sT,sT,obV_cnt h1 e,obV_cnt h1 e]
  have:=Int.mul_le_mul_of_nonneg_left (hle i) (show 0≤x.2 by omega)
  omega
structure IsGr (ps:List Pr) (E:Elim) (c:List Int):Prop where
 sat:SatD ps E c
 up:∀d,SatD ps E d→∀p,p<ps.length→cAt d p≤cAt c p
open Classical in
noncomputable def greatO (ps:List Pr) (E:Elim):Option (List Int):=if h:∃c,IsGr ps E c then some (Classical.choose h) else none
section
variable {ps:List Pr} {E:Elim}
theorem totC_lt {d e:List Int} (hl:e.length=d.length) (hle:∀q,q<d.length→0≤cAt e q∧cAt e q≤cAt d q) (hlt:∃q,q<d.length∧cAt e q<cAt d q):totC e<totC d:=by
 have key:∀(d e:List Int),e.length=d.length→(∀q,q<d.length→0≤cAt e q∧cAt e q≤cAt d q)→totC e≤totC d∧((∃q,q<d.length∧cAt e q<cAt d q)→totC e<totC d):=by
  intro d
  induction d with
  | nil =>
   intro e hl _
   have:e=[]:=List.length_eq_zero_iff.1 (by simpa using hl)
   subst this
   exact⟨Nat.le_refl _,fun ⟨q,hq,_⟩=>by simp at hq⟩
  | cons a d ih =>
   intro e hl h
   cases e with
   | nil=>simp at hl
   | cons b e =>
    have hc:∀(x:Int) (l:List Int) (q:Nat),cAt (x :: l) ((q+1:Nat):Int)=cAt l (q:Int):=fun x l q=>by
     unfold cAt
     rw[Int.toNat_natCast,Int.toNat_natCast]
     simp
    have h0:=h 0 (by simp)
    have e0:∀(x:Int) (l:List Int),cAt (x :: l) ((0:Nat):Int)=x:=fun x l=>by unfold cAt;simp
    rw[e0,e0] at h0
    obtain⟨i1,i2⟩:=ih e (by simpa using hl) fun q hq=>by
     have:=h (q+1) (by simpa using hq)
     rw[hc,hc] at this
     exact this
    have ht:∀(x:Int) (l:List Int),totC (x :: l)=x.toNat+totC l:=fun x l=>by simp [totC]
    rw[ht,ht]
    refine⟨by omega,?_⟩
    rintro⟨q,hq,hlt⟩
    cases q with
    | zero=>rw[e0,e0] at hlt;omega
    | succ q =>
     rw[hc,hc] at hlt
     have:=i2 ⟨q,by simpa using hq,hlt⟩
     omega
 exact(key d e hl hle).2 hlt
end
end Go.AL
end
section
namespace Go.AL
open Go Go.RowKit
set_option maxRecDepth 4000
structure PartOk (ps:List Pr) (t:Pd):Prop where
 ok:PredOk t
 ck:checkF ps t=0
 ntm:allB ntmB t=true
 sz:szF t≤1000000
 lin:(locR t).2=true∨bndF t 1=true∨bothF t=true
theorem PartOk.okt {ps:List Pr} {t:Pd} (h:PartOk ps t):okT ps t=true:=(checkF_zero h.ck).2.2.1
def difV (o:Obs):Pd→Int
 | .mk _ _ _ _ _ [x,y]=>valF o x - valF o y
 | _=>0
noncomputable def fbF (ps:List Pr) (c:List Int) (t:Pd):Int :=
 if (locR t).2 then ownF t else match cmpE t with
  | some g=>if t.kind=9∧difV (obC ps c) t<0 then (mvI g.2).1 else (mvI g.2).2
  | none => -1
theorem okT_res {ps:List Pr} {t:Pd} (h:okT ps t=true):allB (resB ps) t=true:=by
 unfold okT at h
 simp only[Bool.and_eq_true] at h
 exact h.1.2
theorem dfP_ok {x y:Pd} (hx:IntOk x) (hy:IntOk y):IntOk (dfP x y):=by
 refine⟨?_,?_,show (7:Int)≤8 by decide⟩
 ·unfold dfP
  rw[allB_mk,Bool.and_eq_true,List.all_eq_true]
  refine⟨by unfold locB partsF numB nameB;simp,fun z hz => ?_⟩
  simp only[List.mem_cons,List.not_mem_nil,or_false] at hz
  rcases hz with rfl|rfl
  ·exact hx.1
  ·exact hy.1
 ·unfold dfP
  rw[allB_mk,Bool.and_eq_true,List.all_eq_true]
  refine⟨typ_nd (k:=7) (l:=[x,y]) fun z hz => ?_,fun z hz => ?_⟩
  ·simp only[List.mem_cons,List.not_mem_nil,or_false] at hz
   rcases hz with rfl|rfl
   ·exact res_of_int hx.2.2
   ·exact res_of_int hy.2.2
  ·simp only[List.mem_cons,List.not_mem_nil,or_false] at hz
   rcases hz with rfl|rfl
   ·exact hx.2.1
   ·exact hy.2.1
structure CmpPt (ps:List Pr) (k:Int) (x y:Pd) (g:Int × Tms):Prop where
 k4:k=9∨k=10∨k=11∨k=12
 ix:IntOk x
 iy:IntOk y
 he:cmpE (nd k [x,y])=some g
 hl:linE (dfP x y)=some g
 ok:OkT g.2
 at':AtmOk ps g.2
 val:∀o,valF o x - valF o y=g.1+sT (obV o) g.2
 is:(g.2.length=0∨((k=11∨k=12)∧cntS 1 g.2=true))∨(¬k=10∧twoS g.2=true)
theorem part_cmp {ps:List Pr} {t:Pd} (h:PartOk ps t) (hl:(locR t).2=false):∃k x y g,t=nd k [x,y]∧CmpPt ps k x y g:=by
 have hor:bndF t 1=true∨bothF t=true:=by
  rcases h.lin with e|e
  ·rw[hl] at e;cases e
  ·exact e
 obtain⟨g,hg⟩:∃g,cmpE t=some g:=by
  cases hc:cmpE t with
  | some g=>exact⟨g,rfl⟩
  | none =>
   unfold bndF bothF at hor
   rw[hc] at hor
   simp at hor
 have hk12:t.kind≤12:=by
  by_cases e:9≤t.kind∧t.kind≤12
  ·exact e.2
  ·rw[cmpE_no e] at hg;cases hg
 obtain⟨k,x,y,hk4,rfl,hx,hy⟩:=pred_cmp h.ok hk12
 have hd:=dfP_ok hx hy
 have hg':=hg
 rw[cmpE_nd hk4] at hg'
 have hL:=linE_lin (dfP x y) hd g hg'
 have hr:=okT_res h.okt
 rw[nd_allB] at hr
 simp only[Bool.and_eq_true,List.all_cons,List.all_nil,Bool.and_true] at hr
 have hrd:∀a ∈ lvF (dfP x y),a ∈ lvF x∨a ∈ lvF y:=fun a ha=>by
  unfold dfP at ha
  rw[lvF_mk,if_neg (by decide),lvL,lvL,lvL,List.append_nil] at ha
  exact List.mem_append.1 ha
 refine⟨k,x,y,g,rfl,hk4,hx,hy,hg,hg',hL.ok,fun z hz => ?_,fun o => ?_,?_⟩
 ·rcases hrd _ (hL.mem z hz) with ha|ha
  ·exact lv_res x hr.2.1 _ ha
  ·exact lv_res y hr.2.2 _ ha
 ·rw[← hL.val o]
  unfold dfP
  rw[valF_mk];rfl
 ·rcases hor with e|e
  ·unfold bndF at e
   rw[hg] at e
   simp only[Bool.or_eq_true,Bool.and_eq_true,decide_eq_true_eq] at e
   rcases e with e|⟨e1,e2⟩
   ·exact .inl (.inl (by omega))
   ·exact .inl (.inr ⟨e1,e2⟩)
  ·unfold bothF at e
   rw[hg] at e
   simp only[Bool.and_eq_true,Bool.not_eq_true',decide_eq_false_iff_not] at e
   exact .inr ⟨e.1,e.2⟩
theorem fb_cmp {ps:List Pr} {k:Int} {x y:Pd} {g:Int × Tms} (hl:(locR (nd k [x,y])).2=false) (h:CmpPt ps k x y g) (c:List Int) :
  fbF ps c (nd k [x,y])=if k=9∧valF (obC ps c) x - valF (obC ps c) y<0 then (mvI g.2).1 else (mvI g.2).2:=by
 unfold fbF
 rw[hl,h.he];rfl
theorem tru_cmp (o:Obs) (k:Int) (x y:Pd):truF o (nd k [x,y])=truN k [valF o x,valF o y] [truF o x,truF o y]:=by unfold nd;rw[truF_mk];rfl
theorem fb_spec {ps:List Pr} (hv:validF ps=true) {t:Pd} (h:PartOk ps t) {c d:List Int} (hle:leC c d) (hf:truF (obC ps c) t=false) (ht:truF (obC ps d) t=true):∃i:Nat,fbF ps c t=i∧i<ps.length∧c.getD i 0<d.getD i 0:=by
 cases hl:(locR t).2 with
 | true =>
  have hne:¬truF (obC ps c) t=truF (obC ps d) t:=by rw[hf,ht];decide
  have e:fbF ps c t=ownF t:=by unfold fbF;rw[hl];rfl
  rcases (loc_own (okT_res h.okt) hl).2 with ⟨e1,_⟩|⟨i,e1,hi,_⟩
  ·exact absurd (loc_tru h.okt h.ok.2.2 hl fun i e2=>by omega) hne
  ·refine⟨i,e.trans e1,hi,?_⟩
   by_cases e2:c.getD i 0=d.getD i 0
   ·exact absurd (loc_tru h.okt h.ok.2.2 hl fun j e3=>by
     have:j=i:=by omega
     rw[this];exact e2) hne
   ·have:=hle i
    omega
 | false =>
  obtain⟨k,x,y,g,rfl,hc⟩:=part_cmp h hl
  rw[fb_cmp hl hc c]
  rw[tru_cmp] at hf ht
  have v1:=hc.val (obC ps c)
  have v2:=hc.val (obC ps d)
  generalize valF (obC ps c) x=a at *
  generalize valF (obC ps c) y=b at *
  generalize valF (obC ps d) x=a' at *
  generalize valF (obC ps d) y=b' at *
  have key:(¬k=9∧¬k=10→a' - b'<a - b)∧(k=9→(a - b<0→a - b<a' - b')∧(¬a - b<0→a' - b'<a - b)):=by
   rcases hc.k4 with rfl|rfl|rfl|rfl
   ·have h1:decide (a=b)=false:=hf
    have h2:decide (a'=b')=true:=ht
    have h1:=of_decide_eq_false h1
    have h2:=of_decide_eq_true h2
    exact⟨fun e=>absurd rfl e.1,fun _=>⟨fun _=>by omega,fun _=>by omega⟩⟩
   ·exact⟨fun e=>absurd rfl e.2,fun e=>absurd e (by decide)⟩
   ·have h1:decide (a<b)=false:=hf
    have h2:decide (a'<b')=true:=ht
    have h1:=of_decide_eq_false h1
    have h2:=of_decide_eq_true h2
    exact⟨fun _=>by omega,fun e=>absurd e (by decide)⟩
   ·have h1:decide (a≤b)=false:=hf
    have h2:decide (a'≤b')=true:=ht
    have h1:=of_decide_eq_false h1
    have h2:=of_decide_eq_true h2
    exact⟨fun _=>by omega,fun e=>absurd e (by decide)⟩
  rcases hc.is with (e0|⟨e1,e2⟩)|⟨e1,e2⟩
  ·exfalso
   have e0:=List.length_eq_zero_iff.1 e0
   rw[e0] at v1 v2
   have s0:∀v,sT v ([]:Tms)=0:=fun _=>rfl
   rw[s0] at v1 v2
   have e3:a - b=a' - b':=by omega
   have e4:truN k [a,b] [truF (obC ps c) x,truF (obC ps c) y]=truN k [a',b'] [truF (obC ps d) x,truF (obC ps d) y]:=by
    rcases hc.k4 with rfl|rfl|rfl|rfl
    ·show decide (a=b)=decide (a'=b')
     rw[decide_eq_decide];omega
    ·show (!decide (a=b)) = !decide (a'=b')
     congr 1
     rw[decide_eq_decide];omega
    ·show decide (a<b)=decide (a'<b')
     rw[decide_eq_decide];omega
    ·show decide (a≤b)=decide (a'≤b')
     rw[decide_eq_decide];omega
   rw[e4,ht] at hf
   cases hf
  ·exfalso
   have:=cnt_val hle hc.at' (cnt_inv hc.ok e2)
   have:=key.1 (by omega)
   omega
  ·obtain⟨i,j,em,hi,hj,hm⟩:=two_val hv hc.ok hc.at' e2
   obtain⟨m1,m2⟩:=hm hle
   have gi:=hle i
   have gj:=hle j
   rw[em]
   by_cases hk:k=9∧a - b<0
   ·rw[if_pos hk]
    refine⟨i,rfl,hi,?_⟩
    by_cases e:c.getD i 0=d.getD i 0
    ·have:=m2 e
     have:=(key.2 hk.1).1 hk.2
     omega
    ·omega
   ·rw[if_neg hk]
    refine⟨j,rfl,hj,?_⟩
    by_cases e:c.getD j 0=d.getD j 0
    ·have:=m1 e
     by_cases k9:k=9
     ·have:=(key.2 k9).2 fun e=>hk ⟨k9,e⟩
      omega
     ·have:=key.1 ⟨k9,e1⟩
      omega
    ·omega
theorem fb_rng {ps:List Pr} (hv:validF ps=true) {t:Pd} (h:PartOk ps t) (c:List Int):fbF ps c t = -1∨∃i:Nat,fbF ps c t=i∧i<ps.length:=by
 cases hl:(locR t).2 with
 | true =>
  have e:fbF ps c t=ownF t:=by unfold fbF;rw[hl];rfl
  rw[e]
  rcases (loc_own (okT_res h.okt) hl).2 with ⟨e1,_⟩|⟨i,e1,hi,_⟩
  ·exact .inl e1
  ·exact .inr ⟨i,e1,hi⟩
 | false =>
  obtain⟨k,x,y,g,rfl,hc⟩:=part_cmp h hl
  rw[fb_cmp hl hc c]
  rcases hc.is with (e0|⟨e1,e2⟩)|⟨e1,e2⟩
  ·have e0:=List.length_eq_zero_iff.1 e0
   rw[e0]
   left
   split <;> rfl
  ·rw[if_neg (by omega),mv_down hc.ok e2]
   exact .inl rfl
  ·obtain⟨i,j,em,hi,hj,_⟩:=two_val hv hc.ok hc.at' e2
   rw[em]
   split
   ·exact .inr ⟨i,rfl,hi⟩
   ·exact .inr ⟨j,rfl,hj⟩
theorem fb_perm {ps:List Pr} {k:Int} {x y:Pd} {g:Int × Tms} (h:CmpPt ps k x y g) (b:Prop) [Decidable b] {f:Tms} (hp:f.Perm g.2):(if k=9∧b then (mvI f).1 else (mvI f).2)=if k=9∧b then (mvI g.2).1 else (mvI g.2).2:=by
 rcases h.is with (e0|⟨e1,e2⟩)|⟨e1,e2⟩
 ·have e0:=List.length_eq_zero_iff.1 e0
  rw[e0] at hp ⊢
  rw[List.perm_nil.1 hp]
 ·rw[if_neg (by omega),if_neg (by omega),mv_down h.ok e2,show (mvI f).2 = -1 from mv_up f _ fun z hz=>cnt_inv h.ok e2 z (hp.mem_iff.1 hz)]
 ·rw[mv_two e2 hp]
structure Lst (ps:List Pr) (T:List Int→Prop) (c d:List Int):Prop where
 is:isF ps d=true
 ge:leC c d
 tru:T d
 least:∀e,isF ps e=true→leC c e→T e→leC d e
theorem leC_anti {c d:List Int} (hl:c.length=d.length) (h:leC c d) (h':leC d c):c=d:=by
 apply List.ext_getElem hl
 intro i h1 h2
 have a:=h i
 have b:=h' i
 rw[List.getD_eq_getElem?_getD,List.getD_eq_getElem?_getD,List.getElem?_eq_getElem h1,List.getElem?_eq_getElem h2] at a b
 simp only[Option.getD_some] at a b
 omega
theorem Lst.uniq {ps:List Pr} {T:List Int→Prop} {c d e:List Int} (h:Lst ps T c d) (h':Lst ps T c e):d=e :=
 leC_anti ((isF_iff.1 h.is).1.trans (isF_iff.1 h'.is).1.symm) (h.least e h'.is h'.ge h'.tru) (h'.least d h.is h.ge h.tru)
open Classical in
noncomputable def lstQ (ps:List Pr) (T:List Int→Prop) (c:List Int):Option (List Int):=if h:∃d,Lst ps T c d then some h.choose else none
theorem lsq_eq {ps:List Pr} {T:List Int→Prop} {c d:List Int} (h:Lst ps T c d):lstQ ps T c=some d:=by
 unfold lstQ
 rw[dif_pos ⟨d,h⟩]
 exact congrArg some ((⟨d,h⟩:∃d,Lst ps T c d).choose_spec.uniq h)
theorem lsq_none {ps:List Pr} {T:List Int→Prop} {c:List Int} (h:∀e,isF ps e=true→leC c e→¬T e):lstQ ps T c=none:=by
 unfold lstQ
 rw[dif_neg]
 rintro⟨d,hd⟩
 exact h d hd.is hd.ge hd.tru
theorem lsq_some {ps:List Pr} {T:List Int→Prop} {c d:List Int} (h:lstQ ps T c=some d):Lst ps T c d:=by
 unfold lstQ at h
 split at h
 ·rename_i h1
  cases h
  exact h1.choose_spec
 ·cases h
theorem totC_ltC {ps:List Pr} {c d:List Int} (hc:isF ps c=true) (hd:isF ps d=true) (h:leC c d) (hlt:∃i:Nat,i<ps.length∧c.getD i 0<d.getD i 0):totC c<totC d:=by
 have hcl:=(isF_iff.1 hc).1
 have hdl:=(isF_iff.1 hd).1
 have hcA:∀(e:List Int) (q:Nat),cAt e q=e.getD q 0:=fun e q=>by unfold cAt;rw[Int.toNat_natCast]
 refine totC_lt (hcl.trans hdl.symm) (fun q hq => ?_) ?_
 ·rw[hcA,hcA]
  refine⟨?_,h q⟩
  obtain⟨b1,_⟩:=inRangeF_get (isF_iff.1 hc).2.1 hcl (show q<ps.length by omega)
  rw[List.getD_eq_getElem?_getD,List.getElem?_eq_getElem (by omega)]
  exact b1
 ·obtain⟨i,hi,hlt⟩:=hlt
  exact⟨i,by omega,by rw[hcA,hcA];exact hlt⟩
theorem inRangeF_of {ps:List Pr} {c:List Int} (hc:c.length=ps.length) (h:∀q (hq:q<ps.length),0≤c[q]'(by omega)∧c[q]'(by omega)≤ps[q].evs.length):inRangeF ps c=true:=by
 unfold inRangeF
 rw[List.all_eq_true]
 intro q hq
 have hq:=List.mem_range.1 hq
 have h1:=h q (by omega)
 unfold cntOk
 rw[List.getElem?_eq_getElem (show q<ps.length by omega),List.getElem?_eq_getElem hq]
 simp only[Bool.and_eq_true,decide_eq_true_eq]
 exact h1
theorem close_step {ps:List Pr} (hv:validF ps=true) {c:List Int} (hc:isF ps c=true) {i:Nat} (hi:i<ps.length) (hlt:c.getD i 0<ps[i].evs.length) :
  (c.set i (c.getD i 0+1)).length=ps.length∧inRangeF ps (c.set i (c.getD i 0+1))=true∧isF ps (closeF ps (c.set i (c.getD i 0+1)))=true∧leC c (closeF ps (c.set i (c.getD i 0+1)))∧c.getD i 0<(closeF ps (c.set i (c.getD i 0+1))).getD i 0 ∧
   ∀e,isF ps e=true→leC c e→c.getD i 0<e.getD i 0→leC (closeF ps (c.set i (c.getD i 0+1))) e:=by
 have hcA:∀(e:List Int) (q:Nat),cAt e q=e.getD q 0:=fun e q=>by unfold cAt;rw[Int.toNat_natCast]
 obtain⟨hcl,hcr,hcc⟩:=isF_iff.1 hc
 have h1:(c.set i (c.getD i 0+1)).length=ps.length:=by rw[List.length_set];exact hcl
 have hg:∀q,q<ps.length→(c.set i (c.getD i 0+1)).getD q 0=if i=q then c.getD i 0+1 else c.getD q 0:=fun q hq=>by
  rw[List.getD_eq_getElem?_getD,List.getElem?_eq_getElem (by omega),List.getElem_set,List.getD_eq_getElem?_getD (l:=c) (i:=q),List.getElem?_eq_getElem (by omega)]
  rfl
 have h2:inRangeF ps (c.set i (c.getD i 0+1))=true:=by
  refine inRangeF_of h1 fun q hq => ?_
  have hgq:=hg q hq
  rw[List.getD_eq_getElem?_getD,List.getElem?_eq_getElem (by omega)] at hgq
  have hgq:(c.set i (c.getD i 0+1))[q]=_:=hgq
  rw[hgq]
  obtain⟨b1,b2⟩:=inRangeF_get hcr hcl hq
  have e:c.getD q 0=c[q]:=by rw[List.getD_eq_getElem?_getD,List.getElem?_eq_getElem (by omega)];rfl
  split
  ·rename_i e2;subst e2
   omega
  ·omega
 obtain⟨a1,a2,a3⟩:=closeF_ok hv h1 h2
 have a4:=closeF_ge hv h1 h2
 have hout:∀(e:List Int) (q:Nat),e.length=ps.length→¬q<ps.length→e.getD q 0=0:=fun e q he hq=>by
  rw[List.getD_eq_getElem?_getD,List.getElem?_eq_none (by omega)];rfl
 refine⟨h1,h2,isF_iff.2 ⟨a1,a2,closeF_closed hv h1 h2⟩,fun q => ?_,?_,fun e he hle hlt q => ?_⟩
 ·by_cases hq:q<ps.length
  ·have:=a4 q hq
   rw[hcA,hcA,hg q hq] at this
   split at this
   ·rename_i e;subst e;omega
   ·exact this
  ·rw[hout c q hcl hq,hout _ q a1 hq];exact Int.le_refl _
 ·have:=a4 i hi
  rw[hcA,hcA,hg i hi,if_pos rfl] at this
  omega
 ·obtain⟨e1,e2,e3⟩:=isF_iff.1 he
  by_cases hq:q<ps.length
  ·have:=closeF_least hv e1 e3 h1 h2 (fun p hp=>by
    rw[hcA,hcA,hg p hp]
    split
    ·rename_i e;subst e;omega
    ·exact hle p) q hq
   rw[hcA,hcA] at this
   exact this
  ·rw[hout e q e1 hq,hout _ q a1 hq];exact Int.le_refl _
end Go.AL
end
section
namespace Go.AL
open Go Go.RowKit
set_option maxRecDepth 4000
theorem tinfo_iatoms:tinfo Proofs.Tryz.prog 130=some ⟨.map 189 3,1,8,.v (.map none)⟩:=by simp only[go_sem]
def entT (a:Atm) (h:Tms):Tms:=match fdT a h with
 | some _=>h
 | none=>h ++ [(a,0)]
def posT (a:Atm) (h:Tms):Nat:=match fdT a h with
 | some i=>i
 | none=>h.length
theorem keysT_app (h g:Tms):keysT (h ++ g)=keysT h ++ keysT g:=List.map_append
theorem valsT_app (h g:Tms):valsT (h ++ g)=valsT h ++ valsT g:=List.map_append
theorem mentry_T (a:Atm) (h:Tms) (st:Int):mentry (atmV a) (ai 0) (keysT h) (valsT h) st = .amapE (keysT (entT a h)) (valsT (entT a h)) (posT a h) st:=by
 unfold mentry entT posT
 rw[mfind_T]
 cases fdT a h with
 | some i=>rfl
 | none=>simp only[keysT_app,valsT_app,keysT_len];rfl
theorem cfT_app_no {a:Atm} (h:Tms) (hn:fdT a h=none) (x:Int):cfT a (h ++ [(a,x)])=x∧cfT a h=0:=by
 induction h with
 | nil =>
  refine⟨?_,rfl⟩
  show (if a=a then x else 0)=x
  rw[if_pos rfl]
 | cons y h ih =>
  rw[fdT] at hn
  by_cases e:a=y.1
  ·rw[if_pos e] at hn;cases hn
  ·rw[if_neg e] at hn
   have hn':fdT a h=none:=by
    cases hf:fdT a h with
    | none=>rfl
    | some i=>rw[hf] at hn;cases hn
   rw[List.cons_append,cfT,cfT,if_neg e,if_neg e]
   exact ih hn'
theorem cfT_ent (a:Atm) (h:Tms):cfT a (entT a h)=cfT a h:=by
 unfold entT
 cases hf:fdT a h with
 | some i=>rfl
 | none =>
  obtain⟨h1,h2⟩:=cfT_app_no h hf 0
  show cfT a (h ++ [(a,0)])=_
  rw[h1,h2]
theorem set_T (a:Atm) (m:Int) (h:Tms):ABlk.amap (keysT (entT a h)) ((valsT (entT a h)).set (posT a h) (ai m)) = .amap (keysT (putT a m h)) (valsT (putT a m h)):=by
 rw[← mput_T]
 unfold mput entT posT
 rw[mfind_T]
 cases fdT a h with
 | some i=>rfl
 | none =>
  simp only[keysT_app,valsT_app]
  rw[← valsT_len h,List.set_append_right _ _ (Nat.le_refl _),Nat.sub_self]
  rfl
def CopI (f:Tms) (vis:List Nat) (h:Tms):Prop:=OkT h∧(∀v,sT v h=visT v f vis)∧∀(j:Nat) (hj:j<f.length),j ∉ vis→cfT f[j].1 h=0
theorem copI_step {f:Tms} {vis:List Nat} {h:Tms} (hf:OkT f) (hI:CopI f vis h) {i:Nat} (hi:i<f.length) (hv:i ∉ vis):CopI f (vis ++ [i]) (putT f[i].1 f[i].2 h):=by
 obtain⟨h1,h2,h3⟩:=hI
 obtain⟨hne,hnb⟩:=hf.co _ (List.getElem_mem hi)
 have hst:stT f[i].1 f[i].2 h=putT f[i].1 f[i].2 h:=by unfold stT;rw[if_neg hne]
 have hok:=(st_ok (a:=f[i].1) (m:=f[i].2) h1 hnb).1
 rw[hst] at hok
 refine⟨hok,fun v => ?_,fun j hj hjv => ?_⟩
 ·rw[sT_put,h2,h3 i hi hv,visT_snoc,getD_a0 hi,Int.sub_zero]
 ·rw[List.mem_append,List.mem_singleton,not_or] at hjv
  rw[cfT_put _ _ _ (getD_ne hf.nd hj hi hjv.2),h3 j hj hjv.1]
def PluI (k:Int) (f g:Tms) (vis:List Nat) (h:Tms):Prop:=OkT h∧(∀v,sT v h=sT v f+k * visT v g vis)∧∀(j:Nat) (hj:j<g.length),j ∉ vis→cfT g[j].1 h=cfT g[j].1 f
theorem pluI_step {k:Int} {f g:Tms} {vis:List Nat} {h:Tms} (hg:OkT g) (hI:PluI k f g vis h) {i:Nat} (hi:i<g.length) (hv:i ∉ vis) (hn:NumB (cfT g[i].1 h+k * g[i].2)):PluI k f g (vis ++ [i]) (stT g[i].1 (cfT g[i].1 h+k * g[i].2) h):=by
 obtain⟨h1,h2,h3⟩:=hI
 refine⟨(st_ok h1 hn).1,fun v => ?_,fun j hj hjv => ?_⟩
 ·rw[sT_st,h2 v,visT_snoc,getD_a0 hi,Int.mul_add]
  generalize g[i].2=n at *
  generalize cfT g[i].1 h=m at *
  generalize v g[i].1=w at *
  have e2:m+k * n - m=k * n:=by omega
  rw[e2,Int.mul_assoc]
  omega
 ·rw[List.mem_append,List.mem_singleton,not_or] at hjv
  rw[cfT_st _ _ _ (getD_ne hg.nd hj hi hjv.2),h3 j hj hjv.1]
theorem vis_lt {h:Tms} {vis:List Nat} {i:Nat} (hvn:vis.Nodup) (hvl:∀j ∈ vis,j<h.length) (hi:i<h.length) (hn:i ∉ vis):(vis ++ [i]).Nodup∧(∀j ∈ vis ++ [i],j<h.length)∧h.length - (vis ++ [i]).length<h.length - vis.length:=by
 have h1:(vis ++ [i]).Nodup:=List.nodup_append.2 ⟨hvn,by simp,fun a ha b hb=>by rw[List.mem_singleton.1 hb];rintro rfl;exact hn ha⟩
 have h2:∀j ∈ vis ++ [i],j<h.length:=fun j hj=>by
  rcases List.mem_append.1 hj with hj|hj
  ·exact hvl j hj
  ·rw[List.mem_singleton.1 hj];exact hi
 refine⟨h1,h2,?_⟩
 have:=List.Nodup.length_le_of_subset h1 (l₂:=List.range h.length) (fun j hj=>List.mem_range.2 (h2 j hj))
 rw[List.length_range,List.length_append,List.length_singleton] at this
 rw[List.length_append,List.length_singleton]
 omega
theorem cfT_put_same (a:Atm) (m:Int):∀h,cfT a (putT a m h)=m
 | []=>by rw[putT];show (if a=a then m else 0)=m;rw[if_pos rfl]
 | x :: h=>by
  rw[putT]
  by_cases e:a=x.1
  ·rw[if_pos e,cfT,if_pos e]
  ·rw[if_neg e,cfT,if_neg e,cfT_put_same a m h]
set_option maxHeartbeats 4000000 in
theorem irr_plus (c d k:Int) (f g:Tms) (hc:NumB c) (hd:NumB d) (hk:NumB k) (hf:OkT f) (hg:OkT g) (hok:okA k c d f g=true) :
  MCalls Proofs.Tryz.prog 85 [.agg [ai c,.rm (keysT f) (valsT f)],.agg [ai d,.rm (keysT g) (valsT g)],ai k] [] fun r L=>L=[]∧∃h,r = .agg [ai (sumF k c d).1,.rm (keysT h) (valsT h)]∧EqT h (addT k f g):=by
 unfold okA at hok
 rw[Bool.and_eq_true] at hok
 obtain⟨ho1,ho2⟩:=hok
 have hs1:=sumF_ok ho1
 have hs2:=sumF_num k c d
 rw[hs1] at hs2 ⊢
 have hsum:∀i (hi:i<g.length),NumB (cfT g[i].1 f+k * g[i].2):=fun i hi=>by
  have h1:=List.all_eq_true.1 ho2 _ (List.getElem_mem hi)
  rw[← sumF_ok h1]
  exact sumF_num _ _ _
 have hfin:∀h,OkT h→(∀v,sT v h=sT v f+k * sT v g)→EqT h (addT k f g):=fun h h1 h2=>⟨h1,addT_ok k hf g,fun v=>by rw[h2,addT_s v g hg.nd ho2]⟩
 have hfits:=keysT_fits
 have hkf:=keysT_len f
 have hkg:=keysT_len g
 have hb : -9223372036854775808≤k * d∧k * d≤9223372036854775807:=by unfold NumB at *;omega
 unfold NumB at hc hd hk hs2
 have hmul:=mulW_eq (a:=k) (b:=d) (by unfold I64;omega)
 refine MCalls.enter' 60 [.cell 6 132] [3,4,7,8,10] Proofs.Tryz.func85 rfl rfl rfl rfl rfl (by simp) (AWp.of ?_);simp only[go_sem]
 intro b6
 refine W1 hmul ?_
 intro bm g1 b7 g2 g3
 have n1:¬b6=bm:=by omega
 have n2:¬bm=b6:=by omega
 refine Sd ?_
 refine W2 n1 n2 ?_
 refine AOp.rangeMap (ks:=keysT f) (vs:=valsT f) (kt:=189) (et:=3) rfl tinfo_iatoms (fun i hi=>by cases hi;decide) rfl ?_
 intro bi g4
 simp only[go_sem] at g4 ⊢
 have m1:¬bi=bm:=by omega
 have m2:¬bm=bi:=by omega
 have m3:¬bi=b6:=by omega
 have m4:¬b6=bi:=by omega
 refine W2 n1 n2 ?_
 refine AWp.block (AWp.loopN [] [2,4,6,7,23] (fun m vs L=>∃vis h,m=f.length - vis.length∧vis.Nodup∧(∀i ∈ vis,i<f.length)∧vs=[]∧L=[(bi,.iter (keysT f) (valsT f) vis),(bm,.amap (keysT h) (valsT h)),(b6,.row 132 2 [.agg [ai 0,.v (.map none)]] 1)]∧CopI f vis h) f.length ⟨[],[],rfl,.nil,by simp,rfl,rfl,ok_nil,fun _=>rfl,fun _ _ _=>rfl⟩ ?_)
 rintro m vs L - ⟨vis,h,rfl,hvn,hvl,rfl,rfl,hI⟩
 have hstep:=fun i (hi:i<f.length) (hn:i ∉ vis)=>vis_lt hvn hvl hi hn
 simp only[go_sem]
 refine Sd ?_
 refine AWp.of ?_;simp only[go_sem,m1,m2,m3,m4]
 refine AOp.nextMap (ks:=keysT f) (vs:=valsT f) (vis:=vis) (b:=bi) rfl ?_ rfl (if_pos rfl) (fun hall => ?_) ?_
 ·intro i hi;cases hi;decide
 ·rw[hkf] at hall
  have hI0:PluI k f g [] h:=⟨hI.1,fun v=>by rw[hI.2.1 v,visT_all hvn hvl hall];show _=_+k * 0;rw[Int.mul_zero,Int.add_zero],fun j hj _=>by
   have h1:=EqT.mk hI.1 hf (fun v=>by rw[hI.2.1 v,visT_all hvn hvl hall])
   exact h1.cf _⟩
  clear hI hstep
  simp only[go_sem]
  refine W6 m1 m2 m3 m4 n1 n2 ?_
  refine AOp.rangeMap (ks:=keysT g) (vs:=valsT g) (kt:=189) (et:=3) rfl tinfo_iatoms (fun i hi=>by cases hi;decide) rfl ?_
  intro bj g5
  simp only[go_sem] at g5 ⊢
  have p1:¬bj=bm:=by omega
  have p2:¬bm=bj:=by omega
  have p3:¬bj=b6:=by omega
  have p4:¬b6=bj:=by omega
  have p5:¬bj=bi:=by omega
  have p6:¬bi=bj:=by omega
  refine W6 m1 m2 m3 m4 n1 n2 ?_
  refine AWp.block (AWp.loopN [] [2,6,7,35] (fun m vs L=>∃ws h,m=g.length - ws.length∧ws.Nodup∧(∀i ∈ ws,i<g.length)∧vs=[]∧L=[(bj,.iter (keysT g) (valsT g) ws),(bi,.iter (keysT f) (valsT f) vis),(bm,.amap (keysT h) (valsT h)),(b6,.row 132 2 [.agg [ai 0,.v (.map none)]] 1)]∧PluI k f g ws h) g.length ⟨[],h,rfl,.nil,by simp,rfl,rfl,hI0⟩ ?_)
  clear hI0
  rintro m vs L - ⟨ws,h,rfl,hwn,hwl,rfl,rfl,hI⟩
  have hstep:=fun i (hi:i<g.length) (hn:i ∉ ws)=>vis_lt hwn hwl hi hn
  simp only[go_sem]
  refine Sd ?_
  refine AWp.of ?_;simp only[go_sem,p1,p2,p3,p4,p5,p6]
  refine AOp.nextMap (ks:=keysT g) (vs:=valsT g) (vis:=ws) (b:=bj) rfl ?_ rfl (if_pos rfl) (fun hall => ?_) ?_
  ·intro i hi;cases hi;decide
  ·rw[hkg] at hall
   have hres:=hfin h hI.1 fun v=>by rw[hI.2.1 v,visT_all hwn hwl hall]
   simp only[go_sem]
   repeat(first|((with_reducible refine AWp.ofC ?_ ?_);exact rfl;simp only[go_sem,m1,m2,m3,m4,n1,n2,p1,p2,p3,p4,p5,p6])|((with_reducible refine an ?_ ?_);exact Au))
   refine ret_viewK [false,false,true,false] (.agg [ai (c+k * d),.rm (keysT h) (valsT h)]) ⟨rfl,h,rfl,hres⟩ ?_
   simp only[go_sem,m1,m2,m3,m4,n1,n2,p1,p2,p3,p4,p5,p6]
   exact .mkAgg (Vws.cons (.refl _) (Vws.cons (.lm (if_pos rfl) rfl (Vws.refl _).2) .nil))
  ·intro i hi hn
   rw[hkg] at hi
   obtain⟨hwn',hwl',hwc⟩:=hstep i hi hn
   have hcf:=hI.2.2 i hi hn
   have hnb:=hsum i hi
   rw[← hcf] at hnb
   have hI':=pluI_step hg hI hi hn hnb
   have hcn:=cfT_num (a:=g[i].1) hI.1.co
   have hgn:=(hg.co _ (List.getElem_mem hi)).2
   unfold NumB at hnb hcn hgn
   have hmw:=mulW_eq (a:=k) (b:=g[i].2) (by unfold I64;omega)
   clear hstep hsum hfin hI hcf
   simp only[go_sem]
   repeat(first|((with_reducible refine AWp.ofC ?_ ?_);exact rfl;simp only[go_sem,m1,m2,m3,m4,n1,n2,p1,p2,p3,p4,p5,p6])|((with_reducible refine an ?_ ?_);exact Au))
   refine AOp.entryMap (ks:=keysT g) (vs:=valsT g) (vis:=ws) (i:=i) (b:=bj) rfl ?_ rfl (if_pos rfl) ?_
   ·intro i hi;cases hi;decide
   simp only[go_sem,keysT_getD hi,valsT_getD hi,zav_atmV]
   generalize hxe:g[i].1=x at *
   generalize g[i].2=n at *
   have hgt:=mget_T x h
   have hen:=fun st=>mentry_T x h st
   have hst:=fun m=>set_T x m h
   have hg2:=fun m=>mget_T x (putT x m h)
   have hcs:=fun m=>cfT_put_same x m h
   have hfh:=hfits h
   have hfp:=fun m=>hfits (putT x m h)
   intro b11
   intros
   have q1:¬bj=b11:=by omega
   have q2:¬b11=bj:=by omega
   have q3:¬bi=b11:=by omega
   have q4:¬b11=bi:=by omega
   have q5:¬bm=b11:=by omega
   have q6:¬b11=bm:=by omega
   have q7:¬b6=b11:=by omega
   have q8:¬b11=b6:=by omega
   refine Sd ?_
   repeat(first|((with_reducible refine AWp.ofC ?_ ?_);exact rfl;simp only[go_sem,atm_key,atmV_fits,m1,m2,m3,m4,n1,n2,p1,p2,p3,p4,p5,p6,q1,q2,q3,q4,q5,q6,q7,q8])|((with_reducible refine an ?_ ?_);exact Au))
   have hge:=mget_T x (entT x h)
   have hce:=cfT_ent x h
   have hfe:=hfits (entT x h)
   repeat(first|(with_reducible refine AWp.seq ?_)|(with_reducible refine AWp.block ?_))
   refine AWp.mix mixed [0,1,2,4,5,6] (.step 3 (.step 7 (.step 8 (.step 9 (.step 10 .done .done) .done) .done) (.step 8 (.step 7 (.step 9 (.step 10 .done .done) .done) (.step 9 (.step 7 (.step 10 .done .done) .done) .done)) .done)) (.step 8 (.step 3 (.step 7 (.step 9 (.step 10 .done .done) .done) (.step 9 (.step 7 (.step 10 .done .done) .done) .done)) (.step 9 (.step 3 (.step 7 (.step 10 .done .done) .done) .done) .done)) .done)) (by kernel_rfl) ?_;simp only[go_sem,atm_key,atmV_fits,hfh,hgt,hen,hge,hce,hfe,hmw,m1,m2,m3,m4,n1,n2,p1,p2,p3,p4,p5,p6,q1,q2,q3,q4,q5,q6,q7,q8]
   repeat' (first|(with_reducible refine And.intro ?_ ?_)|(with_reducible intro _))
   all_goals first|omega|skip
   all_goals
    rw[hst]
    generalize hM:cfT x h+k * n=M at *
    repeat(first|((with_reducible refine AWp.ofC ?_ ?_);exact rfl;simp only[go_sem,atm_key,atmV_fits,hg2,hcs,hfp,m1,m2,m3,m4,n1,n2,p1,p2,p3,p4,p5,p6,q1,q2,q3,q4,q5,q6,q7,q8])|((with_reducible refine an ?_ ?_);exact Au))
    refine⟨fun h0 => ?_,fun h0 => ?_⟩
    ·have hsT:stT x M h=delT x h:=by unfold stT;rw[if_pos h0]
     rw[hsT] at hI'
     repeat(first|((with_reducible refine AWp.ofC ?_ ?_);exact rfl;simp only[go_sem,atm_key,atmV_fits,hg2,hcs,hfp,m1,m2,m3,m4,n1,n2,p1,p2,p3,p4,p5,p6,q1,q2,q3,q4,q5,q6,q7,q8])|((with_reducible refine an ?_ ?_);exact Au))
     refine AOp.deleteMap (kt:=189) (et:=3) (κ:=KK.st [.int,.int,.int,.str]) (kv:=atmV x) (b:=bm) (ks:=keysT (putT x M h)) (vs:=valsT (putT x M h)) rfl rfl rfl rfl (fun i hi=>by cases hi) tinfo_iatoms (by simp only[go_sem]) rfl (by simp only[go_sem,atm_key,atmV_fits,hg2,hcs,hfp,m1,m2,m3,m4,n1,n2,p1,p2,p3,p4,p5,p6,q1,q2,q3,q4,q5,q6,q7,q8]) (by simp only[go_sem]) (by simp only[go_sem];rfl) (atmV_fits x) (hfits _) ?_
     rw[mdel_T,del_put]
     simp only[go_sem,atm_key,atmV_fits,hg2,hcs,hfp,m1,m2,m3,m4,n1,n2,p1,p2,p3,p4,p5,p6,q1,q2,q3,q4,q5,q6,q7,q8]
     repeat(first|((with_reducible refine AWp.ofC ?_ ?_);exact rfl;simp only[go_sem,atm_key,atmV_fits,hg2,hcs,hfp,m1,m2,m3,m4,n1,n2,p1,p2,p3,p4,p5,p6,q1,q2,q3,q4,q5,q6,q7,q8])|((with_reducible refine an ?_ ?_);exact Au))
     exact⟨_,List.Sublist.refl _,_,hwc,ws ++ [i],_,rfl,hwn',hwl',rfl,hI'⟩
    ·have hsT:stT x M h=putT x M h:=by unfold stT;rw[if_neg h0]
     rw[hsT] at hI'
     repeat(first|((with_reducible refine AWp.ofC ?_ ?_);exact rfl;simp only[go_sem,atm_key,atmV_fits,hg2,hcs,hfp,m1,m2,m3,m4,n1,n2,p1,p2,p3,p4,p5,p6,q1,q2,q3,q4,q5,q6,q7,q8])|((with_reducible refine an ?_ ?_);exact Au))
     exact⟨_,List.Sublist.refl _,_,hwc,ws ++ [i],_,rfl,hwn',hwl',rfl,hI'⟩
 ·intro i hi hn
  rw[hkf] at hi
  obtain⟨hvn',hvl',hvc⟩:=hstep i hi hn
  have hI':=copI_step hf hI hi hn
  clear hstep hsum hfin hI
  simp only[go_sem]
  refine W6 m1 m2 m3 m4 n1 n2 ?_
  refine AOp.entryMap (ks:=keysT f) (vs:=valsT f) (vis:=vis) (i:=i) (b:=bi) rfl ?_ rfl (if_pos rfl) ?_
  ·intro i hi;cases hi;decide
  simp only[go_sem,keysT_getD hi,valsT_getD hi,zav_atmV]
  generalize hxe:f[i].1=x at *
  generalize f[i].2=n at *
  have hpt:=mput_T x n h
  have hfh:=hfits h
  intro b11
  intros
  have q1:¬bi=b11:=by omega
  have q2:¬b11=bi:=by omega
  have q3:¬bm=b11:=by omega
  have q4:¬b11=bm:=by omega
  have q5:¬b6=b11:=by omega
  have q6:¬b11=b6:=by omega
  refine Sd ?_
  repeat(first|((with_reducible refine AWp.ofC ?_ ?_);exact rfl;simp only[go_sem,atm_key,atmV_fits,hfh,hpt,m1,m2,m3,m4,n1,n2,q1,q2,q3,q4,q5,q6])|((with_reducible refine an ?_ ?_);exact Au))
  exact⟨_,List.Sublist.refl _,_,hvc,vis ++ [i],_,rfl,hvn',hvl',rfl,hI'⟩
end Go.AL
end
