/- Texts of this claim's proof: WCx, AlCutf, AlRed, WCf. No condition. -/
import Derived.Test.YtkkcgocdmaodbaaGreatDoorM10
import Derived.Test.YtkkcgocdmaodbaaGreatDoorM6
import Derived.Test.YtkkcgocdmaodbaaGreatDoorM4
section
namespace Go.AL
open Go Go.RowKit Go.Sort Go.Proofs
set_option maxRecDepth 4000
def cmpL:List Int→List Int→Int
 | [],[]=>0
 | [],_ :: _ => -1
 | _ :: _,[]=>1
 | x :: xs,y :: ys=>if x<y then -1 else if y<x then 1 else cmpL xs ys
theorem cmpL_cons (x y:Int) (xs ys:List Int):cmpL (x :: xs) (y :: ys)=if x<y then -1 else if y<x then 1 else cmpL xs ys:=by rw[cmpL]
theorem cmpL_irr:∀a,cmpL a a=0
 | []=>rfl
 | x :: xs=>by unfold cmpL;rw[if_neg (by omega),if_neg (by omega)];exact cmpL_irr xs
theorem cmpL_anti:∀a b,¬cmpL a b<0→¬cmpL b a<0→a=b
 | [],[],_,_=>rfl
 | [],_ :: _,h,_=>absurd (show cmpL [] _<0 from (by unfold cmpL;omega)) h
 | _ :: _,[],_,h=>absurd (show cmpL [] _<0 from (by unfold cmpL;omega)) h
 | x :: xs,y :: ys,h1,h2=>by
  unfold cmpL at h1 h2
  by_cases c1:x<y
  ·rw[if_pos c1] at h1;omega
  ·by_cases c2:y<x
   ·rw[if_pos c2] at h2;omega
   ·rw[if_neg c1,if_neg c2] at h1;rw[if_neg c2,if_neg c1] at h2
    rw[cmpL_anti xs ys h1 h2,show x=y by omega]
theorem cmpL_trans:∀a b c,cmpL a b<0→cmpL b c<0→cmpL a c<0
 | [],_,[],h1,h2=>by
  cases ‹List Int› with
  | nil=>unfold cmpL at h1;omega
  | cons=>unfold cmpL at h2;omega
 | [],_,_ :: _,_,_=>by unfold cmpL;omega
 | _ :: _,[],_,h,_=>by unfold cmpL at h;omega
 | _ :: _,_ :: _,[],_,h=>by unfold cmpL at h;omega
 | x :: xs,y :: ys,z :: zs,h1,h2=>by
  unfold cmpL at h1 h2 ⊢
  by_cases c1:x<y
  ·by_cases c2:y<z
   ·rw[if_pos (by omega)];omega
   ·rw[if_neg c2] at h2
    by_cases c3:z<y
    ·rw[if_pos c3] at h2;omega
    ·rw[if_pos (by omega)];omega
  ·rw[if_neg c1] at h1
   by_cases c4:y<x
   ·rw[if_pos c4] at h1;omega
   ·rw[if_neg c4] at h1
    by_cases c2:y<z
    ·rw[if_pos (by omega)];omega
    ·rw[if_neg c2] at h2
     by_cases c3:z<y
     ·rw[if_pos c3] at h2;omega
     ·rw[if_neg c3] at h2
      rw[if_neg (by omega),if_neg (by omega)]
      exact cmpL_trans xs ys zs h1 h2
theorem cmpL_ntrans (a b c:List Int) (h1:¬cmpL a b<0) (h2:¬cmpL b c<0):¬cmpL a c<0:=fun h=>by
 by_cases e:cmpL b a<0
 ·exact h2 (cmpL_trans b a c e h)
 ·rw[cmpL_anti a b h1 e] at h;exact h2 h
theorem swoL:SWO (ltOf cmpL) where
 irrefl x:=by simp [ltOf,cmpL_irr]
 trans x y z h1 h2:=by simp only[ltOf,decide_eq_true_eq] at *;exact cmpL_trans x y z h1 h2
 ntrans x y z h1 h2:=by simp only[ltOf,decide_eq_false_iff_not] at *;exact cmpL_ntrans x y z h1 h2
theorem cmpL_drop:∀(k:Nat) (a b:List Int),k≤a.length→k≤b.length→(∀(i:Nat) (h:i<a.length) (h':i<b.length),i<k→a[i]=b[i])→cmpL a b=cmpL (a.drop k) (b.drop k)
 | 0,_,_,_,_,_=>rfl
 | k+1,[],_,h,_,_=>by simp at h
 | k+1,_ :: _,[],_,h,_=>by simp at h
 | k+1,x :: a,y :: b,h1,h2,h3=>by
  have e:x=y:=h3 0 (by simp) (by simp) (by omega)
  subst e
  rw[List.drop_succ_cons,List.drop_succ_cons,← cmpL_drop k a b (by simpa using h1) (by simpa using h2) fun i h h' hi=>h3 (i+1) (by simpa using h) (by simpa using h') (by omega)]
  conv=>lhs;unfold cmpL
  rw[if_neg (by omega),if_neg (by omega)]
theorem nan_int (x:Int):PC Proofs.Tryz.prog 242 [ai x] (ab false):=by
 refine PC.enter 6 [.tmp 2] [] Proofs.Tryz.func242 rfl rfl rfl rfl rfl (by simp) (AWp.of ?_);simp only[go_sem]
 refine Wk ?_
 refine ret_eq ?_;simp only[go_sem]
def cmpI (x y:Int):Int:=if x<y then -1 else if y<x then 1 else 0
theorem cmp_int (x y:Int):PC Proofs.Tryz.prog 212 [ai x,ai y] (ai (cmpI x y)):=by
 refine PC.enter 20 [.tmp 4] [] Proofs.Tryz.func212 rfl rfl rfl rfl rfl (by simp) (AWp.of ?_);simp only[go_sem]
 refine Wk ?_
 refine Sd ?_
 refine(nan_int x).val.use ?_;simp only[go_sem]
 refine Wk ?_
 refine Sd ?_
 refine(nan_int y).val.use ?_;simp only[go_sem]
 refine Wk ?_
 refine Wk ?_
 refine⟨fun h => ?_,fun h => ?_⟩
 ·refine Wk ?_
  refine ret_eq ?_;simp only[go_sem]
  unfold cmpI;rw[if_pos h]
 ·refine Wk ?_
  refine⟨fun h2 => ?_,fun h2 => ?_⟩
  ·refine Wk ?_
   refine ret_eq ?_;simp only[go_sem]
   unfold cmpI;rw[if_neg h,if_pos (by omega)]
  ·refine Wk ?_
   refine ret_eq ?_;simp only[go_sem]
   unfold cmpI;rw[if_neg h,if_neg (by omega)]
theorem ints_compare (a b:List Int) (ha:a.length≤1000000):PC Proofs.Tryz.prog 168 [aInts a,aInts b] (ai (cmpL a b)):=by
 refine PC.enter 36 [.tmp 4] [] Proofs.Tryz.func168 rfl rfl rfl rfl rfl (by simp) (AWp.of ?_);simp only[go_sem]
 refine Wk ?_
 refine AWp.range' a.length [] [0,1,9,10] (fun k vs L=>L=[]∧k≤b.length∧∀(i:Nat) (hi:i<a.length) (h':i<b.length),i<k→a[i]=b[i]) (by omega) rfl rfl rfl ⟨rfl,by omega,by omega⟩ ?_ ?_
 ·rintro k vs L' hk - ⟨rfl,hkb,hI⟩
  simp only[go_sem]
  have hd:=cmpL_drop k a b (by omega) hkb hI
  rw[List.drop_eq_getElem_cons hk] at hd
  repeat(first|((with_reducible refine AWp.ofC ?_ ?_);exact rfl;simp only[go_sem,getD_map hk])|((with_reducible refine an ?_ ?_);exact Au))
  refine Wk ?_
  refine⟨fun h1 => ?_,fun h1 => ?_⟩
  ·refine Wk ?_
   refine ret_eq ?_;simp only[go_sem]
   rw[hd,show b.drop k=[] from List.drop_of_length_le (by omega)];rfl
  ·have hkb2:k<b.length:=by omega
   rw[List.drop_eq_getElem_cons hkb2] at hd
   rw[cmpL_cons] at hd
   repeat(first|((with_reducible refine AWp.ofC ?_ ?_);exact rfl;simp only[go_sem,getD_map hkb2])|((with_reducible refine an ?_ ?_);exact Au))
   refine Sd ?_
   refine(cmp_int a[k] b[k]).val.use ?_;simp only[go_sem]
   refine Wk ?_
   refine⟨fun h2 => ?_,fun h2 => ?_⟩
   ·refine Wk ?_
    refine ret_eq ?_;simp only[go_sem]
    rw[hd];unfold cmpI at h2 ⊢
    by_cases c1:a[k]<b[k]
    ·rw[if_pos c1,if_pos c1]
    ·by_cases c2:b[k]<a[k]
     ·rw[if_neg c1,if_neg c1,if_pos c2,if_pos c2]
     ·rw[if_neg c1,if_neg c2] at h2;exact absurd rfl h2
   ·refine⟨[],List.Sublist.refl _,rfl,by omega,fun i hi h' hik => ?_⟩
    by_cases e:i=k
    ·subst e;unfold cmpI at h2
     by_cases c1:a[i]<b[i]
     ·rw[if_pos c1] at h2;exact absurd h2 (by omega)
     ·by_cases c2:b[i]<a[i]
      ·rw[if_neg c1,if_pos c2] at h2;exact absurd h2 (by omega)
      ·omega
    ·exact hI i hi h' (by omega)
 ·rintro vs L' - ⟨rfl,hkb,hI⟩
  simp only[go_sem]
  have hd:=cmpL_drop a.length a b (by omega) hkb hI
  rw[List.drop_of_length_le (Nat.le_refl _)] at hd
  refine Wk ?_
  refine⟨fun h1 => ?_,fun h1 => ?_⟩
  ·refine Wk ?_
   refine ret_eq ?_;simp only[go_sem]
   rw[hd,List.drop_eq_getElem_cons (show a.length<b.length by omega)];rfl
  ·refine Wk ?_
   refine ret_eq ?_;simp only[go_sem]
   rw[hd,List.drop_of_length_le (by omega)];rfl
theorem next_cmp (a b:List Int) (ha:a.length≤1000000):PC Proofs.Tryz.prog 167 [aInts a,aInts b] (ai (cmpL a b)):=by
 refine PC.enter 8 [.tmp 4] [] Proofs.Tryz.func167 rfl rfl rfl rfl rfl (by simp) (AWp.of ?_);simp only[go_sem]
 refine Wk ?_
 refine Sd ?_
 refine(ints_compare a b ha).val.use ?_;simp only[go_sem]
 refine Wk ?_
 refine ret_eq ?_;simp only[go_sem]
theorem next_same (a b:List Int) (ha:a.length≤1000000):PC Proofs.Tryz.prog 170 [aInts a,aInts b] (ab (decide (a=b))):=by
 refine PC.enter 8 [.tmp 4] [] Proofs.Tryz.func170 rfl rfl rfl rfl rfl (by simp) (AWp.of ?_);simp only[go_sem]
 refine Wk ?_
 refine Sd ?_
 refine(ints_equal a b ha).val.use ?_;simp only[go_sem]
 refine Wk ?_
 refine ret_eq ?_;simp only[go_sem]
def sortL (xs:List (List Int)):List (List Int):=sortBy cmpL xs
theorem sort_rows (b cap:Nat) (xs:List (List Int)) (hx:∀x ∈ xs,x.length≤1000000) (hl:xs.length≤1000000) (t:TypeId) :
  MCalls Proofs.Tryz.prog 166 [.ls b 1 0 xs.length cap,.v (.func (.func 167) #[] #[])] [(b,.row t 1 (xs.map aInts) cap)] fun r L'=>r = .tup []∧L'=[(b,.row t 1 ((sortL xs).map aInts) cap)] :=
 sort_calls' sortRows aInts (fun x=>x.length≤1000000) [] (by simp) (fun w A=>⟨.slice none 0 0,.sl0 _ _ _ (Nat.zero_le _)⟩) (fun x _=>rfl) cmpL swoL cmpL_anti (fun x y h _=>next_cmp x y h) b cap xs hx (by omega)
end Go.AL
end
section
namespace Go.AL
open Go Go.RowKit
variable {C:Cfg} {a b:Code} {Q:AQ} {ρ:Env} {L:AHeap}
theorem AWp.cutF (ks:List Nat) (J:List AV→AHeap→Prop) (h1:AWp C a (cutQ ks J fun _ _ _=>False) ρ [])
  (h2:∀vs L',vs.length=ks.length→J vs L'→AWp C b Q (ks.zip vs) (L ++ L')):AWp C (.seq a b) Q ρ L:=by
 refine AWp.cut ks (fun vs L'=>∃L1,L'=L ++ L1∧J vs L1) ?_ ?_
 ·have h:=AWp.frame L h1
  rw[List.append_nil] at h
  refine h.mono fun e ρ' L'' ⟨L',e1,hq⟩ => ?_
  cases e with
  | normal =>
   obtain⟨L1,hs,hj⟩:=hq
   exact⟨L ++ L1,e1 ▸ (List.Sublist.refl _).append hs,L1,rfl,hj⟩
  | _=>exact hq.elim
 ·rintro vs L' hl ⟨L1,rfl,hj⟩
  exact h2 vs L1 hl hj
theorem AWp.viewA {c:Code} {t:TypeId} {k j:Nat} {ys:List AV} {v:AV} {L1:AHeap} (hA:AppSt t k ys v L1) (hj:get ρ j=v) (h:AWp C c Q ((j,.sl k ys) :: ρ) L):AWp C c Q ρ (L ++ L1):=by
 refine AWp.viewP (Lf:=L1) (Lk:=L) (L':=L) List.perm_append_comm (LVw.refl _) [(j,.sl k ys)] (fun p hp => ?_) h
 obtain rfl:=List.mem_singleton.1 hp
 have:=hA.vw []
 rw[List.append_nil] at this
 rw[hj];exact this
theorem AWp.capOk {c:Code} {b k cap:Nat} {t:TypeId} {xs:List AV} (hl:lk L b=some (.row t k xs cap)) (h:xs.length≤cap→AWp C c Q ρ L):AWp C c Q ρ L:=fun hok n w0 M A0 a w hs=>by
 obtain⟨A,ds,h1,h2,h3,h4⟩:=hs
 obtain⟨_,_,_,h5,_⟩:=BlkRel.row_iff.1 (h3.lk hl)
 exact h h5 hok n w0 M A0 a w ⟨A,ds,h1,h2,h3,h4⟩
end Go.AL
end
section
namespace Go.AL
open Go Go.RowKit
def aNilR (P:Program) (op:BinOp) (t:TypeId) (x y:AV):Option (Prop × AV) :=
 match x,y,tinfo P t with
 | .sl _ xs,.v (.slice none 0 0),some ⟨.slice _,_,_,_⟩=>match op with
  | .eql=>some (xs ≠ [],ab false)
  | .neq=>some (xs ≠ [],ab true)
  | _=>none
 | _,_,_=>none
def avalR (P:Program) (ρ:Env) (L:AHeap) (op:Op):Option (Prop × AV) :=
 match aval P ρ L op with
 | some z=>some z
 | none=>match op with
  | .binOp b t x y _=>w2 (ev ρ x) (ev ρ y) (aNilR P b t)
  | _=>none
theorem avalR_congr {P:Program} {ρ ρ':Env} {L:AHeap} {op:Op} (h:∀x ∈ op.operands,ev ρ' x=ev ρ x):avalR P ρ' L op=avalR P ρ L op:=by
 unfold avalR
 rw[aval_congr h]
 cases op with
 | binOp b t x y t' =>
  have e1:=h x (by simp [Op.operands])
  have e2:=h y (by simp [Op.operands])
  simp only[e1,e2]
 | _=>rfl
theorem aNilR_sound {C:Cfg} {o:Oper} {ρ:Env} {L:AHeap} {op:BinOp} {t t':TypeId} {x y:Operand} (ho:o.op = .binOp op t x y t') (hd:dstOk C o) {c:Prop} {z:AV} (h:w2 (ev ρ x) (ev ρ y) (aNilR C.P op t)=some (c,z)) (hc:c) :
  AOp C o ρ L fun ρ' L'=>ρ'=put ρ o.dst z∧L'=L:=by
 obtain⟨h1,h2,c',h3,h4⟩:=w2_inv h hc
 unfold aNilR at h3
 split at h3
 ·rename_i k xs e _ _ _ hx hy hti
  have hu:=tinfo_slice hti
  have main:∀(f:Bool→Bool),((op = .eql∧f=id)∨(op = .neq∧f=not))→xs ≠ []→z=ab (f false)→AOp C o ρ L fun ρ' L'=>ρ'=put ρ o.dst z∧L'=L:=fun f hf hne hz =>
   AOp.of_run (fun c e=>by rw[ho] at e;cases e) fun w0 M A0 a w A ds hs=>by
    have rx:=fo_ok (hs.ev x) h1;rw[hx] at rx
    have ry:=fo_ok (hs.ev y) h2;rw[hy] at ry
    have ry:=ry.inv_v
    have hval:∃a0 n m,a.eval x = .slice a0 n m∧a0.isNone=false:=by
     generalize a.eval x=u at rx
     cases rx with
     | sl0 _ a0 cap hc=>exact absurd rfl hne
     | sl _ _ b off cap=>exact⟨_,_,_,rfl,rfl⟩
    obtain⟨a0,n,m,e,hne⟩:=hval
    refine⟨_,w,?_,.inl ⟨.bool (f a0.isNone),rfl,_,_,⟨by rw[hz],rfl⟩,st_iff.2 ⟨A,ds,hs.put hd (by rw[hne];exact .v _)⟩⟩⟩
    unfold execOp
    rw[ho]
    rcases hf with ⟨rfl,rfl⟩|⟨rfl,rfl⟩
    ·simp [e,ry,eqGuard_slice,binOp,equal_slice_nil hu]
    ·simp [e,ry,eqGuard_slice,binOp,equal_slice_nil hu]
  split at h3
  ·cases h3;exact main id (.inl ⟨rfl,rfl⟩) h4 rfl
  ·cases h3;exact main not (.inr ⟨rfl,rfl⟩) h4 rfl
  ·cases h3
 ·cases h3
theorem avalR_sound {C:Cfg} {o:Oper} {ρ:Env} {L:AHeap} {c:Prop} {x:AV} (hv:avalR C.P ρ L o.op=some (c,x)) (hc:c) (hd:dstOk C o) (hdef:∀c,o.op ≠ .defer c):AOp C o ρ L fun ρ' L'=>ρ'=put ρ o.dst x∧L'=L:=by
 unfold avalR at hv
 split at hv
 ·rename_i z hz
  cases hv
  exact aval_sound hz hc hd hdef
 ·split at hv
  ·rename_i ho
   exact aNilR_sound ho hd hv hc
  ·cases hv
def YldL (C:Cfg) (ops:Array Oper) (i:Nat) (o:Oper) (x:AV) (ρ:Env) (L:AHeap):Prop :=
 ∀ρ',(∀t ∈ o.looksAt ops,get ρ' t=get ρ t)→GOp C ops i ρ' L fun ρ2 L2=>ρ2=put ρ' o.dst x∧L2=L
def aqL (C:Cfg) (all:List Oper) (o:Oper) (ρ:Env) (L:AHeap) (K:Env→Prop):Prop :=
 match o.guard with
 | none=>match avalR C.P ρ L o.op with
  | some (c,x)=>c∧K (put ρ o.dst x)
  | none=>match o.op with
   | .call c=>match c.callee with
    | .value g=>GCall C.P True ((fo (ev ρ g)).1∧fos (c.args.toList.map (ev ρ))) (fo (ev ρ g)).2 (c.args.toList.map fun x=>(fo (ev ρ x)).2) L (putQ K ρ o.dst)
    | _=>False
   | _=>False
 | some (j,want)=>match gval all ρ j want with
  | some b=>match avalR C.P ρ L o.op with
   | some (c,x)=>(b=want→c)∧K (put ρ o.dst (.cond (b == want) x))
   | none=>match o.op with
    | .call c=>match c.callee with
     | .value g=>GCall C.P (b=want) ((fo (ev ρ g)).1∧fos (c.args.toList.map (ev ρ))) (fo (ev ρ g)).2 (c.args.toList.map fun x=>(fo (ev ρ x)).2) L (putQC K ρ o.dst (b == want))
     | _=>b ≠ want∧K (put ρ o.dst (.cond (b == want) .any))
    | _=>b ≠ want∧K (put ρ o.dst (.cond (b == want) .any))
  | none=>False
def aqLRun (C:Cfg) (all:List Oper) (L:AHeap):List Nat→(Env→Prop)→Env→Prop
 | [],K,ρ=>K ρ
 | i :: r,K,ρ=>match all[i]? with
  | some o=>aqL C all o ρ L (aqLRun C all L r K)
  | none=>False
section
variable {C:Cfg} {ops:Array Oper} {L:AHeap}
theorem aqL_yields {i:Nat} {o:Oper} {ρ:Env} {K:Env→Prop} (hi:ops[i]?=some o) (hok:operOk C.N o=true) (h:aqL C ops.toList o ρ L K):∃x,YldL C ops i o x ρ L∧K (put ρ o.dst x):=by
 have hd:=operOk_dst hok
 have hdef:=operOk_def hok
 unfold aqL at h
 split at h
 ·rename_i hg
  split at h
  ·rename_i c x hv
   exact⟨x,fun ρ' hag=>AOp.gop hi hg (avalR_sound (by rw[avalR_congr (agree_ops hag)];exact hv) h.1 hd hdef),h.2⟩
  ·split at h
   ·rename_i cl ho
    split at h
    ·rename_i g h0
     obtain⟨r,h1,h2⟩:=h
     refine⟨r,fun ρ' hag=>AOp.gop hi hg ?_,h2⟩
     have hag':=agree_ops hag
     rw[ho] at hag'
     obtain⟨e1,e2,e3⟩:=call_congr h0 hag'
     exact call_sound ho h0 hd (by rw[e1,e2,e3];exact⟨(h1 trivial).1.1,(h1 trivial).1.2,(h1 trivial).2⟩)
    ·exact h.elim
   ·exact h.elim
 ·rename_i j want hg
  split at h
  ·rename_i b hv
   split at h
   ·rename_i c x ha
    refine⟨_,fun ρ' hag=>GOp.of_cond hi hg (by rw[agree_guard hag hg];exact hv) hd fun hb=>avalR_sound (by rw[avalR_congr (agree_ops hag)];exact ha) (h.1 hb) hd hdef,h.2⟩
   ·split at h
    ·rename_i cl ho
     split at h
     ·rename_i g h0
      obtain⟨r,h1,h2⟩:=h
      refine⟨_,fun ρ' hag=>GOp.of_cond hi hg (by rw[agree_guard hag hg];exact hv) hd fun hb => ?_,h2⟩
      have hag':=agree_ops hag
      rw[ho] at hag'
      obtain⟨e1,e2,e3⟩:=call_congr h0 hag'
      exact call_sound ho h0 hd (by rw[e1,e2,e3];exact⟨(h1 hb).1.1,(h1 hb).1.2,(h1 hb).2⟩)
     ·refine⟨_,fun ρ' hag=>GOp.of_cond hi hg (by rw[agree_guard hag hg];exact hv) hd fun hb=>absurd hb h.1,h.2⟩
    ·refine⟨_,fun ρ' hag=>GOp.of_cond hi hg (by rw[agree_guard hag hg];exact hv) hd fun hb=>absurd hb h.1,h.2⟩
  ·exact h.elim
def QFactL (C:Cfg) (ops:Array Oper) (ρ:Env) (L:AHeap) (q:Nat):Prop:=∃o x,ops[q]?=some o∧YldL C ops q o x ρ L∧∀d,o.dst=some d→get ρ d=x
theorem YldL.of_agree {i:Nat} {o:Oper} {x:AV} {ρ ρ':Env} (h:YldL C ops i o x ρ L) (he:∀t ∈ o.looksAt ops,get ρ' t=get ρ t):YldL C ops i o x ρ' L :=
 fun ρ2 hag=>h ρ2 fun t ht=>(hag t ht).trans (he t ht)
theorem aqLRun_facts {qs0:List Nat} (hm:mixOk ops qs0=true) (hok:ops.toList.all (operOk C.N)=true):∀(qs:List Nat) (ρ:Env) (K:Env→Prop),(∀q ∈ qs,q ∈ qs0)→ascend qs=true→aqLRun C ops.toList L qs K ρ →
  ∃ρq,K ρq∧(∀q ∈ qs,QFactL C ops ρq L q)∧∀s,(∀q ∈ qs,dstOf ops q ≠ some s)→get ρq s=get ρ s
 | [],ρ,K,_,_,h=>⟨ρ,h,fun q hq=>(by cases hq),fun _ _=>rfl⟩
 | i :: r,ρ,K,hsub,hasc,h=>by
  obtain⟨hlt,hasc'⟩:=ascend_cons hasc
  simp only[aqLRun] at h
  cases ho:ops.toList[i]? with
  | none=>rw[ho] at h;exact h.elim
  | some o =>
   rw[ho] at h
   have ho':ops[i]?=some o:=by simpa using ho
   obtain⟨x,hy,hK⟩:=aqL_yields ho' (List.all_eq_true.1 hok o (List.mem_of_getElem? ho)) h
   obtain⟨ρq,h1,h2,h3⟩:=aqLRun_facts hm hok r _ K (fun q hq=>hsub q (List.mem_cons_of_mem _ hq)) hasc' hK
   obtain⟨p1,p2,_⟩:=mix_at hm ho'
   have hself:∀d,o.dst=some d→d ∉ o.looksAt ops:=fun d hd hm'=>by
    have:=(p2 i (hsub i List.mem_cons_self) d (by simp [dstOf,ho',hd])).1 hm'
    exact absurd (p1 i this) (Nat.lt_irrefl i)
   refine⟨ρq,h1,fun q hq => ?_,fun s hs => ?_⟩
   ·rcases List.mem_cons.1 hq with rfl|hq
    ·refine⟨o,x,ho',hy.of_agree fun t ht => ?_,fun d hd => ?_⟩
     ·rw[h3 t fun q' hq' he => ?_,get_put,if_neg fun he=>hself t he ht]
      have:=(p2 q' (hsub q' (List.mem_cons_of_mem _ hq')) t he).1 ht
      have:=p1 q' this;have:=hlt q' hq';omega
     ·rw[h3 d fun q' hq' he => ?_,get_put,if_pos hd]
      exact(p2 q' (hsub q' (List.mem_cons_of_mem _ hq')) d he).2 (by have:=hlt q' hq';omega) hd
    ·exact h2 q hq
   ·rw[h3 s fun q hq=>hs q (List.mem_cons_of_mem _ hq),get_put,if_neg]
    have:=hs i List.mem_cons_self
    simpa [dstOf,ho'] using this
theorem read_sound {qs:List Nat} (hm:mixOk ops qs=true) (hall:∀i,i<ops.size→i ∈ qs) {K:ARes} {n:Nat} {w0:World} {M A0:Foot} {Q:Exit→Act→World→Prop} (hQ:∀a w,post w0 M A0 C.N K a w→Q .normal a w) {ρT:Env} (hK:K ρT L) :
  ∀(f:Nat) (listed:Array Bool) (a:Act) (w:World),listed.size=ops.size →
   (∀l:List Nat,l.Nodup→(∀i ∈ l,listed.getD i true=false)→l.length≤f) →
   (∀q ∈ qs,listed.getD q true=false→QFactL C ops ρT L q)→St w0 M A0 C.N (mask ops qs listed ρT) L a w →
   wpAnyIn (Fw C.r) n C.P .any ops Q f listed a w:=by
 have fin:∀(listed:Array Bool) (a:Act) (w:World),listed.size=ops.size→St w0 M A0 C.N (mask ops qs listed ρT) L a w→Region.ready .any ops listed=[]→Q .normal a w:=by
  intro listed a w hsz hs hr
  have all:∀i,listed.getD i true=true:=by
   intro i
   induction i using Nat.strongRecOn with
   | _ i ih =>
    cases hi:listed.getD i true with
    | true=>rfl
    | false =>
     exfalso
     have hlt:i<ops.size:=by
      rw[← hsz]
      by_cases h:i<listed.size
      ·exact h
      ·simp [Array.getD,h] at hi
     have ho:ops[i]?=some ops[i]:=Array.getElem?_eq_getElem hlt
     have:i ∈ Region.ready .any ops listed:=mem_ready.2 ⟨hi,_,ho,fun e he hb=>by
      have hp:=(mix_at hm ho).1 e.on (List.mem_map.2 ⟨e,List.mem_filter.2 ⟨by simpa using he,hb⟩,rfl⟩)
      exact getD_ft (by omega) (ih _ hp)⟩
     rw[hr] at this;cases this
  refine hQ a w ⟨ρT,L,hK,st_forget hs fun i => .inr ?_⟩
  rw[mask_out fun q _ hl=>by rw[all q] at hl;cases hl]
 intro f
 induction f with
 | zero =>
  intro listed a w hsz hcnt hfact hs
  have hr:Region.ready .any ops listed=[]:=by
   cases hh:Region.ready .any ops listed with
   | nil=>rfl
   | cons j r =>
    have hj:j ∈ Region.ready .any ops listed:=by rw[hh];exact List.mem_cons_self
    have:=hcnt [j] (by simp) (fun i hi=>by simp at hi;subst hi;exact(mem_ready.1 hj).1)
    simp at this
  exact⟨hr,fin listed a w hsz hs hr⟩
 | succ f ih =>
  intro listed a w hsz hcnt hfact hs
  refine⟨fin listed a w hsz hs,fun i hi => ?_⟩
  obtain⟨hun,o,ho,hpre⟩:=mem_ready.1 hi
  have hlt:i<ops.size:=(Array.getElem?_eq_some_iff.1 ho).1
  obtain⟨m1,m2,m3⟩:=mix_at hm ho
  have hlooks:∀t ∈ o.looksAt ops,get (mask ops qs listed ρT) t=get ρT t:=fun t ht=>mask_out fun q hq hl hd=>by
   have hp:=(m2 q hq t hd).1 ht
   obtain⟨e,he,rfl⟩:=List.mem_map.1 hp
   obtain⟨he1,he2⟩:=List.mem_filter.1 he
   have:=getD_tf (hpre e (by simpa using he1) he2)
   rw[hl] at this;cases this
  have hcnt':∀l:List Nat,l.Nodup→(∀j ∈ l,(listed.setIfInBounds i true).getD j true=false)→l.length≤f:=fun l hn hl=>by
   have hil:i ∉ l:=fun h=>by
    have:=hl i h
    simp [Array.getD,show i<listed.size by omega] at this
   have:=hcnt (i :: l) (List.nodup_cons.2 ⟨hil,hn⟩) (fun j hj=>by
    rcases List.mem_cons.1 hj with rfl|hj
    ·exact hun
    ·have:=hl j hj
     have hne:i ≠ j:=fun e=>hil (e ▸ hj)
     rwa [getD_set_ne true hne] at this)
   simp at this;omega
  have hset:∀j,j ≠ i→(listed.setIfInBounds i true).getD j true=listed.getD j true:=fun j hj=>getD_set_ne true (Ne.symm hj)
  have hq:=hall i hlt
  obtain⟨o',x,ho',hy,hgx⟩:=hfact i hq hun
  rw[ho] at ho';cases ho'
  refine wpOpIn_mono ?_ (hy _ hlooks n w0 M A0 a w Q hs)
  rintro a' w' ⟨ρ2,L2,⟨rfl,rfl⟩,hs2⟩
  refine ih _ a' w' (by simpa using hsz) hcnt' (fun q hq' hl=>hfact q hq' (by
   by_cases e:q=i
   ·subst e;exact hun
   ·rwa [hset q e] at hl)) (st_forget hs2 fun s => ?_)
  rcases mask_or (ops:=ops) qs (listed.setIfInBounds i true) ρT s with ⟨h1,_⟩|⟨h1,h2⟩
  ·exact .inl h1
  ·refine .inr ?_
   rw[h1,get_put]
   by_cases hd:o.dst=some s
   ·rw[if_pos hd];exact hgx s hd
   ·rw[if_neg hd,mask_out fun q hq' hl hds => ?_]
    by_cases e:q=i
    ·subst e;exact hd (by simpa [dstOf,ho] using hds)
    ·exact h2 q hq' (by rw[hset q e];exact hl) hds
end
def readAll (ops:Array Oper) (qs:List Nat):Bool:=mixOk ops qs && (List.range ops.size).all fun i=>qs.contains i
def readK (K:ARes) (L:AHeap) (ρ:Env):Prop:=K ρ L
theorem AWp.read {C:Cfg} {id:Nat} {ops:Array Oper} {Q:AQ} {ρ:Env} {L:AHeap} (hmx:C.P.follows .mixedOrders=true) (qs:List Nat) (hT:readAll ops qs=true) (h:aqLRun C ops.toList L qs (readK (Q .normal) L) ρ) :
  AWp C (.region id ops true) Q ρ L:=fun hok n w0 M A0 a w hs=>by
 simp only[readAll,Bool.and_eq_true,List.all_eq_true,List.contains_eq_mem,decide_eq_true_eq] at hT
 obtain⟨hm,hal⟩:=hT
 have hasc:=mix_asc hm
 obtain⟨ρq,hK,hF,hother⟩:=aqLRun_facts hm hok qs ρ _ (fun _ h=>h) hasc.1 h
 refine wpIn_region_any hmx ?_
 obtain⟨A,ds,hs'⟩:=st_iff.1 hs
 refine read_sound hm (fun i hi=>hal i (List.mem_range.2 hi)) (K:=Q .normal) (fun a w ⟨ρ',L',h1,h2⟩=>⟨ρ',L',h1,h2⟩) hK ops.size _ a _ (by simp) ?_ (fun q hq _=>hF q hq) (st_forget (st_iff.2 ⟨A,ds,hs'.drew⟩) fun s => ?_)
 ·intro l hn hl
  have:=List.Nodup.length_le_of_subset hn (l₂:=List.range ops.size) (fun i hi=>by
   have:=hl i hi
   rw[List.mem_range]
   by_cases h:i<ops.size
   ·exact h
   ·simp [Array.getD,h] at this)
  simpa using this
 ·rcases mask_or (ops:=ops) qs (Array.replicate ops.size false) ρq s with ⟨h1,_⟩|⟨h1,h2⟩
  ·exact .inl h1
  ·refine .inr ?_
   rw[h1]
   exact hother s fun q hq hd=>h2 q hq (by simp [Array.getD,hasc.2 q hq]) hd
theorem aqLRun_nil (C:Cfg) (all:List Oper) (L:AHeap) (K:Env→Prop) (ρ:Env):aqLRun C all L [] K ρ=K ρ:=rfl
theorem aqLRun_cons (C:Cfg) (all:List Oper) (L:AHeap) (i:Nat) (r:List Nat) (K:Env→Prop) (ρ:Env):aqLRun C all L (i :: r) K ρ=(match all[i]? with|some o=>aqL C all o ρ L (aqLRun C all L r K)|none=>False):=rfl
attribute [go_sem] aqLRun_nil aqLRun_cons aqL readK avalR aNilR
end Go.AL
end
section
namespace Go.AL
open Go Go.RowKit
set_option maxRecDepth 4000
def compN (xs:List (List Int)):Nat→List (List Int)
 | 0=>[]
 | 1=>xs.take 1
 | n+2=>if xs[n+1]?=xs[n]? then compN xs (n+1) else compN xs (n+1) ++ xs[n+1]?.toList
def compL (xs:List (List Int)):List (List Int):=compN xs xs.length
theorem compN_all {xs:List (List Int)} : ∀ {n:Nat},n≤xs.length→(∀(i:Nat),0<i→i<n→xs[i]? ≠ xs[i - 1]?)→compN xs n=xs.take n
 | 0,_,_=>by simp [compN]
 | 1,_,_=>rfl
 | n+2,hn,h=>by
  have h1:=compN_all (n:=n+1) (by omega) fun i h0 hi=>h i h0 (by omega)
  have h2:=h (n+1) (by omega) (by omega)
  unfold compN
  rw[if_neg (by simpa using h2),h1,List.take_add_one (i:=n+1)]
theorem compN_mem {xs:List (List Int)} {x:List Int} : ∀n,x ∈ compN xs n↔x ∈ xs.take n
 | 0=>by simp [compN]
 | 1=>by unfold compN;rfl
 | n+2=>by
  have ih:=compN_mem (xs:=xs) (x:=x) (n+1)
  unfold compN
  rw[List.take_add_one (i:=n+1),List.mem_append,← ih]
  split
  ·rename_i e
   refine⟨.inl,fun h=>h.elim id fun h=>ih.2 ?_⟩
   rw[e] at h
   rw[List.take_add_one,List.mem_append];exact .inr h
  ·rw[List.mem_append]
theorem compL_mem {xs:List (List Int)} {x:List Int} : x ∈ compL xs↔x ∈ xs:=by unfold compL;rw[compN_mem,List.take_length]
theorem compN_pair {xs:List (List Int)} (hs:xs.Pairwise fun x y=>¬cmpL y x<0):∀n,n≤xs.length→(compN xs n).Pairwise (fun x y=>cmpL x y<0)
 | 0,_=>by simp [compN]
 | 1,_=>by
  unfold compN
  cases xs with
  | nil=>simp
  | cons x xs=>simp
 | n+2,hn=>by
  have ih:=compN_pair hs (n+1) (by omega)
  unfold compN
  split
  ·exact ih
  ·rename_i hne
   rw[List.getElem?_eq_getElem (by omega),List.getElem?_eq_getElem (show n<xs.length by omega)] at hne
   rw[List.getElem?_eq_getElem (by omega)]
   rw[List.pairwise_append]
   refine⟨ih,by simp,fun x hx y hy => ?_⟩
   obtain rfl:y=xs[n+1]:=by simpa using hy
   rw[compN_mem] at hx
   obtain⟨i,hi,rfl⟩:=List.getElem_of_mem hx
   have hi':i<n+1:=by simp at hi;omega
   rw[List.getElem_take]
   rw[List.pairwise_iff_getElem] at hs
   have h1:¬cmpL xs[n+1] xs[n]<0:=hs n (n+1) (by omega) (by omega) (by omega)
   have h3:cmpL xs[n] xs[n+1]<0:=by
    by_cases c:cmpL xs[n] xs[n+1]<0
    ·exact c
    ·exact absurd (congrArg some (cmpL_anti _ _ h1 c)) hne
   by_cases e:i=n
   ·subst e;exact h3
   ·have h2:¬cmpL xs[n] xs[i]<0:=hs i n (by omega) (by omega) (by omega)
    by_cases c:cmpL xs[i] xs[n]<0
    ·exact cmpL_trans _ _ _ c h3
    ·rw[cmpL_anti _ _ c h2];exact h3
theorem compN_two (xs:List (List Int)) (n:Nat):compN xs (n+2)=if xs[n+1]?=xs[n]? then compN xs (n+1) else compN xs (n+1) ++ xs[n+1]?.toList:=by rw[compN]
theorem rows_compact (b cap:Nat) (xs:List (List Int)) (hx:∀x ∈ xs,x.length≤1000000) (hl:xs.length≤1000000) :
  MCalls Proofs.Tryz.prog 169 [.ls b 1 0 xs.length cap,.v (.func (.func 170) #[] #[])] [(b,.row 43 1 (xs.map aInts) cap)]
   fun r L'=>∃ws cap',r = .ls b 1 0 (compL xs).length cap'∧L'=[(b,.row 43 1 ((compL xs).map aInts ++ ws) cap)]:=by
 refine MCalls.enter' 66 [.tmp 4] [] Proofs.Tryz.func169 rfl rfl rfl rfl rfl (by simp) (AWp.of ?_);simp only[go_sem]
 refine AWp.capOk (b:=b) (if_pos rfl) fun hcap => ?_
 rw[List.length_map] at hcap
 refine Wk ?_
 refine⟨fun h => ?_,fun h => ?_⟩
 ·refine Wk ?_
  refine ret_own ?_
  simp only[go_sem]
  have e:compL xs=xs:=by
   unfold compL
   rw[compN_all (Nat.le_refl _) (fun i h0 hi=>by omega),List.take_length]
  exact⟨[],cap,by rw[e],by rw[e,List.append_nil]⟩
 ·refine Wk ?_
  refine AWp.block (AWp.loopN [5] [0,1] (fun m vs L=>∃k:Nat,vs=[ai k]∧1≤k∧k≤xs.length∧m=xs.length - k∧L=[(b,.row 43 1 (xs.map aInts) cap)]∧∀(i:Nat),0<i→i<k→xs[i]? ≠ xs[i - 1]?) (xs.length - 1) ⟨1,rfl,by omega,by omega,rfl,rfl,fun i h1 h2=>by omega⟩ ?_)
  rintro m vs L - ⟨k,rfl,k1,k2,rfl,rfl,hI⟩
  simp only[go_sem]
  refine Wk ?_
  refine⟨fun h1 => ?_,fun h1 => ?_⟩
  ·have hk:k<xs.length:=by omega
   have hk1:k - 1<xs.length:=by omega
   refine Wk ?_
   refine AWp.seq (AWp.block (AWp.seq ?_))
   have hkm:((k:Int) - 1).toNat=k - 1:=by omega
   have sm:=next_same xs[k] xs[k - 1] (hx _ (List.getElem_mem hk))
   simp only[go_sem] at sm
   repeat(first|(with_reducible refine AWp.seq ?_)|(with_reducible refine AWp.block ?_))
   refine AWp.read mixed [0,1,2,3,4,5,6,7,8,9,10] (by kernel_rfl) ?_;simp only[go_sem,getD_map hk,getD_map hk1,hkm]
   refine Sd ?_
   refine GCall.use (ab (decide (xs[k]=xs[k - 1]))) (fun _=>⟨At,sm.val.use ⟨rfl,rfl⟩⟩) ?_
   simp only[go_sem]
   refine Wk ?_
   refine⟨fun h2 => ?_,fun h2 => ?_⟩
   ·have c0:compN xs (k+1)=xs.take k:=by
     obtain⟨j,rfl⟩:∃j,k=j+1:=⟨k - 1,by omega⟩
     rw[compN_two,if_pos (by rw[List.getElem?_eq_getElem hk,List.getElem?_eq_getElem (show j<xs.length by omega)];exact congrArg some h2)]
     exact compN_all (by omega) hI
    refine Wk ?_
    refine AWp.block (AWp.loopN [5,7] [0,1,6] (fun m vs L=>∃(q:Nat) (c zs:List (List Int)),vs=[ai c.length,ai q]∧1≤q∧k+q≤xs.length∧c=compN xs (k+q)∧c.length≤k+q - 1∧zs=c ++ xs.drop c.length∧m=xs.length - (k+q) ∧
     L=[(b,.row 43 1 (zs.map aInts) cap)]) (xs.length - (k+1)) ⟨1,xs.take k,xs,by rw[List.length_take,Nat.min_eq_left k2];rfl,by omega,by omega,c0.symm,by rw[List.length_take];omega,by rw[List.length_take,Nat.min_eq_left k2,List.take_append_drop],rfl,rfl⟩ ?_)
    rintro m vs L - ⟨q,c,zs,rfl,q1,q2,hc,hcl,hz,rfl,rfl⟩
    have zl:zs.length=xs.length:=by rw[hz,List.length_append,List.length_drop];omega
    have zg:∀(i:Nat) (h1:i<xs.length),c.length≤i→(zs.map aInts).getD i .any=aInts xs[i]:=fun i h1 h2=>by
     rw[getD_map (by omega)]
     subst hz
     rw[List.getElem_append_right h2,List.getElem_drop]
     congr 2;omega
    simp only[go_sem]
    refine Wk ?_
    refine⟨fun h3 => ?_,fun h3 => ?_⟩
    ·have hkq:k+q<xs.length:=by omega
     have hkq1:k+q - 1<xs.length:=by omega
     have g1:=zg (k+q) hkq (by omega)
     have g2:=zg (k+q - 1) hkq1 (by omega)
     have e1:((q:Int) - 1).toNat=q - 1:=by omega
     have e2:k+(q - 1)=k+q - 1:=by omega
     have sm:=next_same xs[k+q] xs[k+q - 1] (hx _ (List.getElem_mem hkq))
     simp only[go_sem] at sm
     refine Wk ?_
     refine AWp.seq (AWp.block (AWp.seq ?_))
     repeat(first|(with_reducible refine AWp.seq ?_)|(with_reducible refine AWp.block ?_))
     refine AWp.read mixed [0,1,2,3,4,5,6,7,8,9,10,11] (by kernel_rfl) ?_;simp only[go_sem,g1,g2,e1,e2]
     refine Sd ?_
     refine GCall.use (ab (decide (xs[k+q]=xs[k+q - 1]))) (fun _=>⟨At,sm.val.use ⟨rfl,rfl⟩⟩) ?_
     simp only[go_sem]
     have hq':k+q - 2+1=k+q - 1:=by omega
     have hstep:compN xs (k+(q+1))=if xs[k+q]?=xs[k+q - 1]? then c else c ++ xs[k+q]?.toList:=by
      rw[show k+(q+1)=(k+q - 1)+2 by omega,compN_two,show k+q - 1+1=k+q by omega,← hc]
     rw[List.getElem?_eq_getElem hkq,List.getElem?_eq_getElem hkq1] at hstep
     have g0:=zg c.length (by omega) (Nat.le_refl _)
     refine W5 g1 g2 e1 e2 g0 ?_
     refine⟨fun h4 => ?_,fun h4 => ?_⟩
     ·rw[if_neg (fun e=>h4 (Option.some.inj e))] at hstep
      refine W5 g1 g2 e1 e2 g0 ?_
      refine⟨_,List.Sublist.refl _,_,?_,q+1,c ++ [xs[k+q]],zs.set c.length xs[k+q],?_,by omega,by omega,hstep.symm,by simp;omega,?_,rfl,?_⟩
      ·omega
      ·rw[List.length_append];rfl
      ·rw[hz,List.set_append_right _ _ (Nat.le_refl _),Nat.sub_self,List.drop_eq_getElem_cons (show c.length<xs.length by omega),List.set_cons_zero,List.append_assoc,List.length_append];rfl
      ·rw[List.map_set];rfl
     ·rw[if_pos (congrArg some h4)] at hstep
      refine Wk ?_
      exact⟨_,List.Sublist.refl _,_,by omega,q+1,c,zs,rfl,by omega,by omega,hstep.symm,by omega,hz,rfl,rfl⟩
    ·have hn:k+q=xs.length:=by omega
     have hcl2:compL xs=c:=by unfold compL;rw[← hn,hc]
     have hcx:c.length≤xs.length:=by omega
     refine Wk ?_
     refine ret_own ?_
     simp only[go_sem]
     refine⟨List.replicate (xs.length - c.length) anil,cap,by rw[hcl2],?_⟩
     rw[hcl2,List.length_replicate,show c.length+(xs.length - c.length)=zs.length by omega,List.drop_length,List.map_nil,List.append_nil,hz,List.take_left]
   ·refine Wk ?_
    refine⟨_,List.Sublist.refl _,_,?_,k+1,rfl,by omega,by omega,rfl,rfl,fun i h0 hi => ?_⟩
    ·omega
    ·by_cases e:i=k
     ·subst e;rw[List.getElem?_eq_getElem hk,List.getElem?_eq_getElem hk1];exact fun e=>h2 (Option.some.inj e)
     ·exact hI i h0 (by omega)
  ·refine Wk ?_
   refine ret_own ?_
   simp only[go_sem]
   have e:compL xs=xs:=by
    unfold compL
    rw[compN_all (Nat.le_refl _) (fun i h0 hi=>hI i h0 (by omega)),List.take_length]
   exact⟨[],cap,by rw[e],by rw[e,List.append_nil]⟩
end Go.AL
end
