/- Texts of this claim's proof: WK5, WI26, WK6, WI32, WZ1, WK7. No condition. -/
import Derived.Test.YtpcmoecaaphjmaaGreatDoorM22
import Derived.Test.YtpcmoecaaphjmaaGreatDoorM20
import Derived.Test.YtpcmoecaaphjmaaGreatDoorM23
import Derived.Test.YtpcmoecaaphjmaaGreatDoorM21
import Derived.Test.YtpcmoecaaphjmaaGreatDoorM16
import Derived.Test.YtpcmoecaaphjmaaGreatDoorM11
section
namespace Go.AL
open Go Go.RowKit
set_option maxRecDepth 4000
theorem check_of {ps:List Pr} {t:Pd} (hv:validF ps=true) (hf:formedB t=true) (hr:allB (resB ps) t=true) (hty:typedB t=true) (hfi:fitB ps t=true):checkF ps t=0:=by
 unfold checkF
 rw[hv,hf,hr,hty,hfi];rfl
theorem formed_sub {k:Int} {l:List Pd} {x:Pd} (hx:x ∈ l) (h:formedB (nd k l)=true):formedB x=true:=by
 unfold formedB at *
 simp only[Bool.and_eq_true,decide_eq_true_eq] at *
 obtain⟨⟨h1,h2⟩,h3⟩:=h
 rw[nd_szF] at h1
 rw[nd_dpF] at h2
 rw[nd_allB,Bool.and_eq_true,List.all_eq_true] at h3
 have:=szL_mem hx
 have:=dpL_mem hx
 exact⟨⟨by omega,by omega⟩,h3.2 x hx⟩
theorem check_sub {ps:List Pr} {k:Int} (hk:9≤k) {l:List Pd} {x:Pd} (hx:x ∈ l) (h:checkF ps (nd k l)=0):checkF ps x=0:=by
 obtain⟨h1,h2,h3,h4⟩:=checkF_zero h
 unfold okT at h3
 rw[fit_nd ps hk,List.all_eq_true] at h4
 rw[nd_allB,nd_allB,nd_allB] at h3
 simp only[Bool.and_eq_true,List.all_eq_true] at h3
 exact check_of h1 (formed_sub hx h2) (h3.1.2.2 x hx) (h3.2.2 x hx) (h4 x hx)
theorem prd_of {ps:List Pr} {t:Pd} (h:checkF ps t=0) (h9:9≤t.kind):prdF t=0:=by
 obtain⟨_,h2,h3,_⟩:=checkF_zero h
 unfold okT at h3
 simp only[Bool.and_eq_true] at h3
 unfold prdF
 rw[h2,show typedB t=true from h3.2,res_of_bool h9];rfl
mutual
def cjF:Pd→List Pd
 | .mk k n p q s l=>if k=16∧(locR (.mk k n p q s l)).2=false then cjL l else [.mk k n p q s l]
def cjL:List Pd→List Pd
 | []=>[]
 | x :: r=>cjF x ++ cjL r
end
theorem cjF_nd (k:Int) (l:List Pd):cjF (nd k l)=if k=16∧(locR (nd k l)).2=false then cjL l else [nd k l]:=by unfold nd;rw[cjF]
theorem cjL_2 (x y:Pd):cjL [x,y]=cjF x ++ cjF y:=by rw[cjL,cjL,cjL,List.append_nil]
structure NfOk (ps:List Pr) (t:Pd):Prop where
 ok:PredOk t
 ck:checkF ps t=0
 nf:normF t false=t
theorem nf_of {ps:List Pr} {t:Pd} (h:checkF ps t=0) (hp:prdF t=0):NfOk ps (normF t false) :=
 ⟨(norm_ok t (prd_ok hp) false).ok,check_norm h hp false,norm_norm t (prd_ok hp) false false⟩
theorem nf_and {ps:List Pr} {x y:Pd} (h:NfOk ps (nd 16 [x,y])) (hx:PredOk x) (hy:PredOk y):NfOk ps x∧NfOk ps y:=by
 have h1:=h.nf
 rw[norm_bin 16 (.inl rfl)] at h1
 have h1:nd 16 [normF x false,normF y false]=nd 16 [x,y]:=h1
 unfold nd at h1
 simp only[Pd.mk.injEq,List.cons.injEq,and_true,true_and] at h1
 exact⟨⟨hx,check_sub (by decide) (by simp) h.ck,h1.1⟩,⟨hy,check_sub (by decide) (by simp) h.ck,h1.2⟩⟩
theorem NfOk.prd {ps:List Pr} {t:Pd} (h:NfOk ps t):prdF t=0:=prd_of h.ck h.ok.2.2
theorem nf_ind {ps:List Pr} {P:Pd→Prop} (one:∀t,NfOk ps t→¬(t.kind=16∧(locR t).2=false)→P t) (two:∀x y,NfOk ps (nd 16 [x,y])→(locR (nd 16 [x,y])).2=false→NfOk ps x→NfOk ps y→P x→P y→P (nd 16 [x,y])) (t:Pd) (h:NfOk ps t):P t:=by
 refine PredOk.ind (P:=fun t=>NfOk ps t→P t) ?_ ?_ ?_ ?_ ?_ t h.ok h
 ·intro k hk h
  exact one _ h fun e=>by have e1:k=16:=e.1;omega
 ·intro k x y hk _ _ h
  exact one _ h fun e=>by have e1:k=16:=e.1;omega
 ·intro x _ _ h
  exact one _ h fun e=>by have e1:(15:Int)=16:=e.1;omega
 ·intro k x y hk hx hy ihx ihy h
  by_cases e:k=16∧(locR (nd k [x,y])).2=false
  ·obtain⟨rfl,e2⟩:=e
   obtain⟨h1,h2⟩:=nf_and h hx hy
   exact two x y h e2 h1 h2 (ihx h1) (ihy h2)
  ·exact one _ h e
 ·intro k x hk _ _ h
  exact one _ h fun e=>by have e1:k=16:=e.1;omega
theorem cjF_one {t:Pd} (h:¬(t.kind=16∧(locR t).2=false)):cjF t=[t]:=by
 obtain⟨k,n,p,q,s,l⟩:=t
 rw[cjF]
 exact if_neg h
theorem nf_sz {ps:List Pr} {t:Pd} (h:NfOk ps t):szF t≤1000000:=by
 have:=(checkF_zero h.ck).2.1
 unfold formedB at this
 simp only[Bool.and_eq_true,decide_eq_true_eq] at this
 omega
theorem pt_ok {ps:List Pr} (t:Pd) (h:NfOk ps t):lnrF t=true→allB ntmB t=true→∀u ∈ cjF t,PartOk ps u:=by
 refine nf_ind (P:=fun t=>lnrF t=true→allB ntmB t=true→∀u ∈ cjF t,PartOk ps u) ?_ ?_ t h
 ·intro t h hn hl ht u hu
  rw[cjF_one hn] at hu
  obtain rfl:=List.mem_singleton.1 hu
  refine⟨h.ok,h.ck,ht,nf_sz h,?_⟩
  obtain⟨k,n,p,q,s,l⟩:=u
  rw[lnrF] at hl
  simp only[Bool.or_eq_true,Bool.and_eq_true,decide_eq_true_eq] at hl
  rcases hl with (((hl|hl)|hl)|hl)|hl
  ·exact .inl hl
  ·exact .inr (.inl hl)
  ·exact .inr (.inr hl)
  ·rw[allB_mk,Bool.and_eq_true] at ht
   have h1:(!decide (18≤k∧k≤21))=true:=ht.1
   rw[Bool.not_eq_true',decide_eq_false_iff_not] at h1
   omega
  ·by_cases e:(locR (.mk k n p q s l)).2=true
   ·exact .inl e
   ·exact absurd ⟨hl.1,by simpa using e⟩ hn
 ·intro x y h hloc hx hy ihx ihy hl ht u hu
  rw[cjF_nd,if_pos ⟨rfl,hloc⟩,cjL_2] at hu
  rw[lnrF_nd,hloc,lnrL_2] at hl
  rw[nd_allB] at ht
  simp only[Bool.and_eq_true,List.all_cons,List.all_nil,Bool.and_true] at ht
  have hc:cmpE (nd 16 [x,y])=none:=cmpE_no fun e=>by have e1:(16:Int)≤12:=e.2;omega
  have hb:bndF (nd 16 [x,y]) 1=false:=by unfold bndF;rw[hc]
  have ho:bothF (nd 16 [x,y])=false:=by unfold bothF;rw[hc]
  rw[hb,ho] at hl
  simp only[Bool.or_eq_true,Bool.and_eq_true,decide_eq_true_eq,Bool.false_eq_true,false_or] at hl
  rcases hl with hl|hl
  ·exact absurd hl (by decide)
  ·rcases List.mem_append.1 hu with hu|hu
   ·exact ihx hl.2.1 ht.2.1 u hu
   ·exact ihy hl.2.2 ht.2.2 u hu
theorem pt_tru {ps:List Pr} (o:Obs) (t:Pd) (h:NfOk ps t):truF o t=(cjF t).all (truF o):=by
 refine nf_ind (P:=fun t=>truF o t=(cjF t).all (truF o)) ?_ ?_ t h
 ·intro t h hn
  rw[cjF_one hn];simp
 ·intro x y h hloc hx hy ihx ihy
  rw[cjF_nd,if_pos ⟨rfl,hloc⟩,cjL_2,List.all_append,← ihx,← ihy]
  unfold nd
  rw[truF_mk];rfl
theorem pt_len {ps:List Pr} (t:Pd) (h:NfOk ps t):(cjF t).length≤szF t:=by
 refine nf_ind (P:=fun t=>(cjF t).length≤szF t) ?_ ?_ t h
 ·intro t h hn
  rw[cjF_one hn]
  obtain⟨k,n,p,q,s,l⟩:=t
  rw[szF];simp
 ·intro x y h hloc hx hy ihx ihy
  rw[cjF_nd,if_pos ⟨rfl,hloc⟩,cjL_2,nd_szF,List.length_append]
  simp only[szL]
  omega
theorem pt_ne {ps:List Pr} (t:Pd) (h:NfOk ps t):cjF t ≠ []:=by
 refine nf_ind (P:=fun t=>cjF t ≠ []) ?_ ?_ t h
 ·intro t h hn
  rw[cjF_one hn];simp
 ·intro x y h hloc hx hy ihx ihy
  rw[cjF_nd,if_pos ⟨rfl,hloc⟩,cjL_2]
  simp [ihx]
noncomputable def TruP (ps:List Pr) (t:Pd) (c:List Int):Prop:=truF (obC ps c) t=true
theorem evaluate_IntC (ps:List Pr) (hs:Sm ps) (c:List Int) (hcl:c.length≤1000000) (t:Pd) (hz:szF t≤1000000) (hck:checkF ps t=0) (hgv:givenF ps [c] []=0) (hcp:c.length=ps.length) (hk:t.kind≤8) (htm:allB ntmB t=true):PC Proofs.Tryz.prog 153 [aTr ps,aInts c,aPd t] (.tup [ai (valF (cutO ps c (undF ps c)) t),ai 0]):=by
 have hE:atE ps c t 1=0:=by
  unfold atE
  rw[if_neg (by omega),hck,if_neg (by decide),hgv,if_neg (by decide),res_of_int hk,if_neg (by decide),htm]
  rfl
 have h1:=evaluate_at ps hs c hcl t hz 1
 rw[hE] at h1
 obtain⟨g6,g7,g8,g9⟩:=checkF_zero hck
 have h3:atV ps c t=aView ps c (valuesAt ps c):=by unfold atV;rw[if_neg (by rintro(h|h|h);exact h hcp;exact h hck;exact h hgv)]
 have g10:=g8
 unfold okT at g10
 simp only[Bool.and_eq_true] at g10
 obtain⟨l1,l2⟩:=und_leaf2 ps hs c hgv t g10.1.2
 have hfi:(intF ps t).2.2=true:=by
  obtain⟨k,n,p,q,s,l⟩:=t
  rw[fitB_mk,if_pos (show k≤8 from hk)] at g9
  exact g9
 have h2:=view_number ps c _ _ hcl t hz g8 hk hfi l2 l1
 rw[h3] at h1
 generalize valF (cutO ps c (undF ps c)) t=b at *
 obtain⟨k,n,p,q,s,l⟩:=t
 unfold aView at *
 simp only[aPd_mk] at *
 refine PC.enter 23 [.tmp 6,.tmp 7] [3,5,8] Proofs.Tryz.func153 rfl rfl rfl rfl rfl (by simp) (AWp.of ?_);simp only[go_sem]
 refine Wk ?_
 refine Sd ?_
 refine(h1).val.use ?_;simp only[go_sem]
 refine Wk ?_
 intro b8
 refine Wk ?_
 refine Sd ?_
 refine(h2).val.use ?_;simp only[go_sem]
 refine Wk ?_
 refine ret_eq ?_;simp only[go_sem]
def aPt (t:Pd):AV:=match t with | .mk k n p q s l => .agg [ai k,ai n,ai p,ai q,astr s,.sl 6 (l.map aPd),ab (locR (.mk k n p q s l)).2]
def aPts (l:List Pd):AV:=.sl 7 (l.map aPt)
theorem aPt_shape (t:Pd):∃k n p q s X,aPd t = .agg [ai k,ai n,ai p,ai q,astr s,.sl 6 X]∧aPt t = .agg [ai k,ai n,ai p,ai q,astr s,.sl 6 X,ab (locR t).2]:=by
 obtain⟨k,n,p,q,s,l⟩:=t
 exact⟨k,n,p,q,s,l.map aPd,by rw[aPd_mk],rfl⟩
theorem forb_loc (ps:List Pr) (t:Pd) (hz:szF t≤1000000) (hl:(locR t).2=true) (c:List Int):PC Proofs.Tryz.prog 91 [aPt t,aTr ps,aInts c] (ai (fbF ps c t)):=by
 have e:fbF ps c t=ownF t:=by unfold fbF;rw[hl];rfl
 rw[e]
 have h1:=irr_owner t hz
 obtain⟨k,n,p,q,s,X,e1,e2⟩:=aPt_shape t
 rw[hl] at e2
 rw[e1] at h1
 rw[e2]
 generalize ownF t=o at *
 have hT:aTr ps = .agg [.sl 3 (ps.map aPr)]:=rfl
 have hC:aInts c = .sl 1 (c.map ai):=rfl
 rw[hT,hC]
 refine PC.enter 67 [.tmp 6] [3,4] Proofs.Tryz.func91 rfl rfl rfl rfl rfl (by simp) (AWp.of ?_);simp only[go_sem]
 refine Wk ?_
 refine Sd ?_
 refine(h1).val.use ?_;simp only[go_sem]
 refine Wk ?_
 refine ret_eq ?_;simp only[go_sem]
theorem int_check {ps:List Pr} {k:Int} (hk:k=9∨k=10∨k=11∨k=12) {x y:Pd} (h:checkF ps (nd k [x,y])=0):checkF ps x=0∧checkF ps y=0:=⟨check_sub (by omega) (by simp) h,check_sub (by omega) (by simp) h⟩
set_option maxHeartbeats 4000000 in
theorem forb_cmp (ps:List Pr) (hs:Sm ps) (k:Int) (x y:Pd) (g:Int × Tms) (h:PartOk ps (nd k [x,y])) (hl:(locR (nd k [x,y])).2=false) (hc:CmpPt ps k x y g) (c:List Int) (hcf:isF ps c=true) :
  PC Proofs.Tryz.prog 91 [aPt (nd k [x,y]),aTr ps,aInts c] (ai (fbF ps c (nd k [x,y]))):=by
 rw[fb_cmp hl hc c]
 have hv:=(checkF_zero h.ck).1
 have hzt:=h.sz
 rw[nd_szF] at hzt
 simp only[szL] at hzt
 have hcl:c.length=ps.length:=(isF_iff.1 hcf).1
 have h8:=(valid_len hv).2
 obtain⟨ckx,cky⟩:=int_check hc.k4 h.ck
 have hnt:=h.ntm
 rw[nd_allB] at hnt
 simp only[Bool.and_eq_true,List.all_cons,List.all_nil,Bool.and_true] at hnt
 have v1:=evaluate_IntC ps hs c (by omega) x (by omega) ckx ((isF_given hv).2 hcf) hcl hc.ix.2.2 hnt.2.1
 have v2:=evaluate_IntC ps hs c (by omega) y (by omega) cky ((isF_given hv).2 hcf) hcl hc.iy.2.2 hnt.2.2
 have hE:=hc.hl
 unfold dfP at hE
 obtain⟨a,b,ha,hb,h'⟩:=linE_inv2 (by decide) (by decide) hE
 rw[if_neg (by decide),if_pos rfl] at h'
 have hcx:=irr_linear x (by omega) hc.ix a ha
 have hcy:=irr_linear y (by omega) hc.iy b hb
 have nx:=(linE_lin x hc.ix a ha).num
 have ny:=(linE_lin y hc.iy b hb).num
 have nm:NumB (-1):=by unfold NumB;decide
 have hpm:=fun (b:Prop) (d:Decidable b) (f:Tms) (hp:f.Perm g.2) => @fb_perm ps k x y g hc b d f hp
 have hk4:=hc.k4
 have hP:aPt (nd k [x,y]) = .agg [ai k,ai 0,ai 0,ai 0,astr ByteArray.empty,.sl 6 [aPd x,aPd y],ab false]:=by
  have:aPt (nd k [x,y]) = .agg [ai k,ai 0,ai 0,ai 0,astr ByteArray.empty,.sl 6 [aPd x,aPd y],ab (locR (nd k [x,y])).2]:=rfl
  rw[this,hl]
 rw[hP]
 obtain⟨k1,o1,p1,q1,s1,X1,hX⟩:=aPd_shape x
 obtain⟨k2,o2,p2,q2,s2,X2,hY⟩:=aPd_shape y
 simp only[hX,hY] at *
 have hT:aTr ps = .agg [.sl 3 (ps.map aPr)]:=rfl
 have hC:aInts c = .sl 1 (c.map ai):=rfl
 rw[hT,hC] at v1 v2 ⊢
 generalize valF (obC ps c) x=vx at *
 generalize valF (obC ps c) y=vy at *
 generalize ps.map aPr=T at *
 generalize c.map ai=CC at *
 clear hE ha hb hc hcf h hnt hcl ckx cky hl hP hs hT hC hX hY
 refine PC.enter 67 [.tmp 6] [3,4] Proofs.Tryz.func91 rfl rfl rfl rfl rfl (by simp) (AWp.of ?_);simp only[go_sem]
 refine Wk ?_
 refine AWp.cut [2,3,4,7,8] (fun vs L=>∃f,f.Perm g.2∧L=[]∧vs=[.sl 1 CC,.rp 7 [.agg [ai k,ai 0,ai 0,ai 0,astr ByteArray.empty,.sl 6 [.agg [ai k1,ai o1,ai p1,ai q1,astr s1,.sl 6 X1],.agg [ai k2,ai o2,ai p2,ai q2,astr s2,.sl 6 X2]],ab false]] 0 0,.rp 1 [.agg [.sl 3 T]] 0 0,ai (mvI f).1,ai (mvI f).2]) ?_ ?_
 ·repeat(first|(with_reducible refine AWp.seq ?_)|(with_reducible refine AWp.block ?_))
  refine AWp.mix mixed [0,1,2,3,4,6,7,8,9,10] (.step 5 (.step 11 (.step 12 (.step 13 (.step 14 (.step 15 (.step 16 (.step 17 (.step 18 .done .done) .done) (.step 17 (.step 16 (.step 18 .done .done) .done) .done)) (.step 16 (.step 15 (.step 17 (.step 18 .done .done) .done) .done) .done)) .done) .done) .done) .done) .done) (by kernel_rfl) ?_;simp only[go_sem]
  refine Sd ?_
  refine(MVal.frame (Lm:=[]) (Lr:=_) hcx.val).mono ?_
  rintro r L ⟨L1,rfl,rfl,f1,rfl,q1⟩
  simp only[go_sem]
  refine Sd ?_
  refine(MVal.frame (Lm:=[]) (Lr:=_) hcy.val).mono ?_
  rintro r L ⟨L1,rfl,rfl,f2,rfl,q2⟩
  simp only[go_sem]
  refine(MVal.frame (Lm:=[]) (Lr:=_) (irr_plusA h' q1 q2 nx ny nm).val).mono ?_
  rintro r L ⟨L1,rfl,rfl,f3,rfl,q3⟩
  simp only[go_sem]
  refine(MVal.frame (Lm:=[]) (Lr:=_) (irr_movers g.1 f3).val).mono ?_
  rintro r L ⟨L1,rfl,rfl,f,hp,rfl⟩
  simp only[go_sem]
  refine Sd ?_
  exact⟨_,List.Sublist.refl _,f,hp.trans q3.perm,rfl,rfl⟩
 ·rintro vs L - ⟨f,hp,rfl,rfl⟩
  simp only[go_sem]
  refine Wk ?_
  refine⟨fun e => ?_,fun e => ?_⟩
  ·have hR:=hpm (vx - vy<0) inferInstance f hp
   rw[if_neg (fun h=>e h.1),if_neg (fun h=>e h.1)] at hR
   rw[if_neg (fun h=>e h.1),← hR]
   refine Wk ?_
   refine ret_eq ?_;simp only[go_sem]
  ·subst e
   have hR:=hpm (vx - vy<0) inferInstance f hp
   repeat(first|(with_reducible refine AWp.seq ?_)|(with_reducible refine AWp.block ?_))
   refine AWp.mix mixed [0,1,2,3,4,5,6,7,8,9,10,11,12] .done (by kernel_rfl) ?_;simp only[go_sem]
   refine Sd ?_
   refine Gc v1 ?_
   refine Sd ?_
   refine Wk ?_
   repeat(first|(with_reducible refine AWp.seq ?_)|(with_reducible refine AWp.block ?_))
   refine AWp.mix mixed [0,1,2,3,4,5,6,7,8,9,10,11,12] .done (by kernel_rfl) ?_;simp only[go_sem]
   refine Sd ?_
   refine Gc v2 ?_
   refine Sd ?_
   refine Wk ?_
   refine⟨fun e => ?_,fun e => ?_⟩
   ·rw[if_pos ⟨rfl,(by omega:vx - vy<0)⟩,if_pos ⟨rfl,(by omega:vx - vy<0)⟩] at hR
    rw[if_pos (by omega),← hR]
    refine Wk ?_
    refine ret_eq ?_;simp only[go_sem]
   ·rw[if_neg (fun h=>e (by omega)),if_neg (fun h=>e (by omega))] at hR
    rw[if_neg (by omega),← hR]
    refine Wk ?_
    refine ret_eq ?_;simp only[go_sem]
theorem irr_forbidden (ps:List Pr) (hs:Sm ps) (t:Pd) (h:PartOk ps t) (c:List Int) (hc:isF ps c=true):PC Proofs.Tryz.prog 91 [aPt t,aTr ps,aInts c] (ai (fbF ps c t)):=by
 cases hl:(locR t).2 with
 | true=>exact forb_loc ps t h.sz hl c
 | false =>
  obtain⟨k,x,y,g,rfl,hcp⟩:=part_cmp h hl
  exact forb_cmp ps hs k x y g h hl hcp c hc
def orB (B bit:Int) (h:Bool):Int:=if h then orK .i64 B bit else B
def bitsF (n:Pd) (s:Bool):Int :=
 orB (orB (orB (orB (orB (orB (orB (orB (orB (orB 0 1 (locR n).2) 2 (prtF 16 n).2) 4 (prtF 17 n).2) 8 (lnrF n)) 16 (plnF n)) 32 (lnrF n && plnF n)) 64 (stabF n)) 128 s) 256 (!allB nchB n)) 512 (!allB ntmB n)
theorem classify_setB (b8:Nat) (B bit:Int) (h:Bool) (X1 X2 X3 X4:AV) (Lr:AHeap):MVal Proofs.Tryz.prog (.clo 134 [.lp b8 5 0 0]) [ai bit,ab h] ((b8,.row 133 5 [.agg [ai B,X1,X2,X3,X4]] 1) :: Lr)
  fun _ L=>L=(b8,.row 133 5 [.agg [ai (orB B bit h),X1,X2,X3,X4]] 1) :: Lr:=classify_set b8 B bit h X1 X2 X3 X4 Lr
set_option maxHeartbeats 4000000 in
theorem classify_Class (ps:List Pr) (hs:Sm ps) (t:Pd) (hz:szF t≤1000000) (hck:checkF ps t=0) (hp:prdF t=0) :
  MCalls Proofs.Tryz.prog 87 [aTr ps,aPd t] [] fun r L=>L=[]∧∃s X Y o b,r = .tup [.agg [ai (bitsF (normF t false) s),.sl 6 X,.sl 3 Y,ai o,ai b],ai 0]:=by
 have h1:=classify_checked ps hs t hz hck hp
 have hok:=norm_ok t (prd_ok hp) false
 have hzn:=Nat.le_trans hok.sz hz
 have h2:=classify_parts 16 (.inl rfl) (normF t false) hzn hok.ok.1
 have h3:=classify_parts 17 (.inr rfl) (normF t false) hzn hok.ok.1
 have h4:=classify_local (normF t false) hzn
 have h5:=classify_sumS t hz hp
 have h6:=classify_meets (normF t false) hok.ok hzn
 have h7:=classify_joins (normF t false) hok.ok hzn
 have h8:=classify_stable (normF t false) hok.ok hzn
 have h9:=classify_hasC (normF t false) hzn
 have h10:=classify_hasT (normF t false) hzn
 have h11:=classify_joined ps hs 16 13 (.inl rfl) (normF t false) hzn hok.ok.1
 have h12:=classify_joined ps hs 17 14 (.inr rfl) (normF t false) hzn hok.ok.1
 unfold bitsF
 obtain⟨k1,o1,p1,q1,s1,XP,hP⟩:=aPd_shape t
 obtain⟨k2,o2,p2,q2,s2,XN,hN⟩:=aPd_shape (normF t false)
 have hT:aTr ps = .agg [.sl 3 (ps.map aPr)]:=rfl
 have hJ1:aPds (jnL ps.length 16 13 (normF t false)) = .sl 6 ((jnL ps.length 16 13 (normF t false)).map aPd):=rfl
 have hJ2:aPds (jnL ps.length 17 14 (normF t false)) = .sl 6 ((jnL ps.length 17 14 (normF t false)).map aPd):=rfl
 rw[hJ1] at h11
 rw[hJ2] at h12
 have hP1:aPds (prtF 16 (normF t false)).1 = .sl 6 ((prtF 16 (normF t false)).1.map aPd):=rfl
 have hP2:aPds (prtF 17 (normF t false)).1 = .sl 6 ((prtF 17 (normF t false)).1.map aPd):=rfl
 rw[hP1] at h2
 rw[hP2] at h3
 clear hJ1 hJ2 hP1 hP2
 rw[hP,hN,hT] at h1
 rw[hN,hT] at h11 h12
 rw[hN] at h2 h3 h4 h5 h6 h7 h8 h9 h10
 rw[hP,hT]
 generalize ps.map aPr=T at *
 generalize (jnL ps.length 16 13 (normF t false)).map aPd=J1 at *
 generalize (jnL ps.length 17 14 (normF t false)).map aPd=J2 at *
 generalize (prtF 16 (normF t false)).1.map aPd=P1 at *
 generalize (prtF 17 (normF t false)).1.map aPd=P2 at *
 generalize (prtF 16 (normF t false)).2=Q1 at *
 generalize (prtF 17 (normF t false)).2=Q2 at *
 generalize (locR (normF t false)).1=pr at *
 generalize (locR (normF t false)).2=Q3 at *
 generalize lnrF (normF t false)=Q4 at *
 generalize plnF (normF t false)=Q5 at *
 generalize stabF (normF t false)=Q6 at *
 generalize (!allB nchB (normF t false))=Q7 at *
 generalize (!allB ntmB (normF t false))=Q8 at *
 clear hck hp hok hzn hP hN
 refine MCalls.enter' 113 [.cell 4 133,.tmp 5] [2,3,6] Proofs.Tryz.func87 rfl rfl rfl rfl rfl (by simp) (AWp.of ?_);simp only[go_sem]
 intro b4
 refine Wk ?_
 refine Sd ?_
 refine(h1).val.use ?_;simp only[go_sem]
 refine Wk ?_
 intro b6 g6
 have n1:¬b4=b6:=by omega
 have n2:¬b6=b4:=by omega
 try simp only[go_sem,n1,n2]
 refine Sd ?_
 refine W2 n1 n2 ?_
 intro b8 g8
 have n3:¬b4=b8:=by omega
 have n4:¬b8=b4:=by omega
 refine Sd ?_
 refine W2 n3 n4 ?_
 refine Sd ?_
 refine(h2).val.use ?_;simp only[go_sem]
 refine Wk ?_
 refine Sd ?_
 refine(h3).val.use ?_;simp only[go_sem]
 refine Wk ?_
 refine Sd ?_
 refine(h4).val.use ?_;simp only[go_sem]
 refine Wk ?_
 refine(MVal.frame (Lm:=[]) (Lr:=_) h5.val).mono ?_
 rintro r L ⟨L1,rfl,rfl,a,b,c,hR⟩
 have hR:∃(X:AV) (m1 m2:Int) (s:Bool),(X=anil∨∃Y,X = .sl 3 Y)∧r = .tup [X,ai m1,ai m2,ab s]:=by
  rcases hR with rfl|⟨rfl,_,⟨X,rfl⟩,⟨m1,rfl⟩,⟨m2,rfl⟩⟩
  ·exact⟨_,_,_,_,.inl rfl,rfl⟩
  ·exact⟨_,_,_,_,.inr ⟨_,rfl⟩,rfl⟩
 obtain⟨X,m1,m2,s,hX,rfl⟩:=hR
 have hfo:fo X=(True,X):=by rcases hX with rfl|⟨Y,rfl⟩ <;> rfl
 simp only[go_sem,hfo]
 refine W3 n3 n4 hfo ?_
 refine(classify_setB _ _ _ _ _ _ _ _ _).mono ?_
 rintro r L rfl
 generalize hB1:orB 0 1 Q3=B1 at *
 simp only[go_sem,hfo]
 refine W3 n3 n4 hfo ?_
 refine(classify_setB _ _ _ _ _ _ _ _ _).mono ?_
 rintro r L rfl
 generalize hB2:orB B1 2 Q1=B2 at *
 simp only[go_sem,hfo]
 refine W3 n3 n4 hfo ?_
 refine(classify_setB _ _ _ _ _ _ _ _ _).mono ?_
 rintro r L rfl
 generalize hB3:orB B2 4 Q2=B3 at *
 simp only[go_sem,hfo]
 refine W3 n3 n4 hfo ?_
 refine Sd ?_
 refine(h6).val.use ?_;simp only[go_sem]
 refine W3 n3 n4 hfo ?_
 refine(classify_setB _ _ _ _ _ _ _ _ _).mono ?_
 rintro r L rfl
 generalize hB4:orB B3 8 Q4=B4 at *
 simp only[go_sem,hfo]
 refine W3 n3 n4 hfo ?_
 refine Sd ?_
 refine(h7).val.use ?_;simp only[go_sem]
 refine W3 n3 n4 hfo ?_
 refine(classify_setB _ _ _ _ _ _ _ _ _).mono ?_
 rintro r L rfl
 generalize hB5:orB B4 16 Q5=B5 at *
 simp only[go_sem,hfo]
 refine W3 n3 n4 hfo ?_
 refine Sd ?_
 refine(h6).val.use ?_;simp only[go_sem]
 refine Sd ?_
 refine Gc h7 ?_
 refine Sd ?_
 refine W3 n3 n4 hfo ?_
 refine(classify_setB _ _ _ _ _ _ _ _ _).mono ?_
 rintro r L rfl
 generalize hB6:orB B5 32 (Q4 && Q5)=B6 at *
 simp only[go_sem,hfo]
 refine W3 n3 n4 hfo ?_
 refine Sd ?_
 refine(h8).val.use ?_;simp only[go_sem]
 refine W3 n3 n4 hfo ?_
 refine(classify_setB _ _ _ _ _ _ _ _ _).mono ?_
 rintro r L rfl
 generalize hB7:orB B6 64 Q6=B7 at *
 simp only[go_sem,hfo]
 refine W3 n3 n4 hfo ?_
 refine(classify_setB _ _ _ _ _ _ _ _ _).mono ?_
 rintro r L rfl
 generalize hB8:orB B7 128 s=B8 at *
 simp only[go_sem,hfo]
 refine W3 n3 n4 hfo ?_
 refine Sd ?_
 refine(h9).val.use ?_;simp only[go_sem]
 refine W3 n3 n4 hfo ?_
 refine(classify_setB _ _ _ _ _ _ _ _ _).mono ?_
 rintro r L rfl
 generalize hB9:orB B8 256 Q7=B9 at *
 simp only[go_sem,hfo]
 refine W3 n3 n4 hfo ?_
 refine Sd ?_
 refine(h10).val.use ?_;simp only[go_sem]
 refine W3 n3 n4 hfo ?_
 refine(classify_setB _ _ _ _ _ _ _ _ _).mono ?_
 rintro r L rfl
 generalize hB10:orB B9 512 Q8=B10 at *
 simp only[go_sem,hfo]
 refine W3 n3 n4 hfo ?_
 cases s with
 | true =>
  have hfin:∀(X Y:List AV) (o b:Int),(([]:AHeap)=[]∧∃s X' Y' o' b',AV.tup [.agg [ai B10,.sl 6 X,.sl 3 Y,ai o,ai b],ai 0] = .tup [.agg [ai (orB (orB (orB B7 128 s) 256 Q7) 512 Q8),.sl 6 X',.sl 3 Y',ai o',ai b'],ai 0]):=fun X Y o b=>⟨rfl,true,X,Y,o,b,by rw[hB8,hB9,hB10]⟩
  cases Q1 with
  | true =>
   have h11:=h11 rfl
   refine W3 n3 n4 hfo ?_
   refine⟨fun _ => ?_,fun h=>absurd h (by decide)⟩
   try simp only[go_sem]
   refine W3 n3 n4 hfo ?_
   refine Sd ?_
   refine(h11).val.use ?_;simp only[go_sem]
   refine W3 n3 n4 hfo ?_
   first|refine⟨fun _ => ?_,fun h=>absurd h (by decide)⟩|skip
   try simp only[go_sem]
   rcases hX with rfl|⟨YY,rfl⟩
   ·simp only[go_sem]
    refine W3 n3 n4 hfo ?_
    refine ret_viewK [] (.tup [.agg [ai B10,.sl 6 J1,.sl 3 [],ai m1,ai m2],ai 0]) (hfin _ _ _ _) ?_
    simp only[go_sem,n3,n4,hfo]
    exact .mkTup (Vws.cons (.mkAgg (Vws.cons (.refl _) (Vws.cons (.refl _) (Vws.cons (.nil 3) (Vws.refl _))))) (Vws.refl _))
   ·simp only[go_sem]
    refine W3 n3 n4 hfo ?_
    refine ret_viewK [] (.tup [.agg [ai B10,.sl 6 J1,.sl 3 YY,ai m1,ai m2],ai 0]) (hfin _ _ _ _) ?_
    simp only[go_sem,n3,n4,hfo]
    exact .mkTup (Vws.cons (.mkAgg (Vws.cons (.refl _) (Vws.cons (.refl _) (Vws.cons (.refl _) (Vws.refl _))))) (Vws.refl _))
  | false =>
   cases Q2 with
   | true =>
    have h12:=h12 rfl
    refine W3 n3 n4 hfo ?_
    refine⟨fun h=>absurd h (by decide),fun _ => ?_⟩
    try simp only[go_sem]
    refine W3 n3 n4 hfo ?_
    refine Sd ?_
    refine(h12).val.use ?_;simp only[go_sem]
    refine W3 n3 n4 hfo ?_
    first|refine⟨fun _ => ?_,fun h=>absurd h (by decide)⟩|skip
    try simp only[go_sem]
    rcases hX with rfl|⟨YY,rfl⟩
    ·simp only[go_sem]
     refine W3 n3 n4 hfo ?_
     refine ret_viewK [] (.tup [.agg [ai B10,.sl 6 J2,.sl 3 [],ai m1,ai m2],ai 0]) (hfin _ _ _ _) ?_
     simp only[go_sem,n3,n4,hfo]
     exact .mkTup (Vws.cons (.mkAgg (Vws.cons (.refl _) (Vws.cons (.refl _) (Vws.cons (.nil 3) (Vws.refl _))))) (Vws.refl _))
    ·simp only[go_sem]
     refine W3 n3 n4 hfo ?_
     refine ret_viewK [] (.tup [.agg [ai B10,.sl 6 J2,.sl 3 YY,ai m1,ai m2],ai 0]) (hfin _ _ _ _) ?_
     simp only[go_sem,n3,n4,hfo]
     exact .mkTup (Vws.cons (.mkAgg (Vws.cons (.refl _) (Vws.cons (.refl _) (Vws.cons (.refl _) (Vws.refl _))))) (Vws.refl _))
   | false =>
    refine W3 n3 n4 hfo ?_
    refine⟨fun h=>absurd h (by decide),fun _ => ?_⟩
    try simp only[go_sem]
    refine W3 n3 n4 hfo ?_
    first|refine⟨fun _ => ?_,fun h=>absurd h (by decide)⟩|skip
    try simp only[go_sem]
    rcases hX with rfl|⟨YY,rfl⟩
    ·simp only[go_sem]
     refine W3 n3 n4 hfo ?_
     refine ret_viewK [] (.tup [.agg [ai B10,.sl 6 [],.sl 3 [],ai m1,ai m2],ai 0]) (hfin _ _ _ _) ?_
     simp only[go_sem,n3,n4,hfo]
     exact .mkTup (Vws.cons (.mkAgg (Vws.cons (.refl _) (Vws.cons (.nil 6) (Vws.cons (.nil 3) (Vws.refl _))))) (Vws.refl _))
    ·simp only[go_sem]
     refine W3 n3 n4 hfo ?_
     refine ret_viewK [] (.tup [.agg [ai B10,.sl 6 [],.sl 3 YY,ai m1,ai m2],ai 0]) (hfin _ _ _ _) ?_
     simp only[go_sem,n3,n4,hfo]
     exact .mkTup (Vws.cons (.mkAgg (Vws.cons (.refl _) (Vws.cons (.nil 6) (Vws.cons (.refl _) (Vws.refl _))))) (Vws.refl _))
 | false =>
  have hfin:∀(X Y:List AV) (o b:Int),(([]:AHeap)=[]∧∃s X' Y' o' b',AV.tup [.agg [ai B10,.sl 6 X,.sl 3 Y,ai o,ai b],ai 0] = .tup [.agg [ai (orB (orB (orB B7 128 s) 256 Q7) 512 Q8),.sl 6 X',.sl 3 Y',ai o',ai b'],ai 0]):=fun X Y o b=>⟨rfl,false,X,Y,o,b,by rw[hB8,hB9,hB10]⟩
  cases Q1 with
  | true =>
   have h11:=h11 rfl
   refine W3 n3 n4 hfo ?_
   refine⟨fun _ => ?_,fun h=>absurd h (by decide)⟩
   try simp only[go_sem]
   refine W3 n3 n4 hfo ?_
   refine Sd ?_
   refine(h11).val.use ?_;simp only[go_sem]
   refine W3 n3 n4 hfo ?_
   first|refine⟨fun h=>absurd h (by decide),fun _ => ?_⟩|skip
   try simp only[go_sem]
   refine W3 n3 n4 hfo ?_
   refine ret_viewK [] (.tup [.agg [ai B10,.sl 6 J1,.sl 3 [],ai 0,ai 0],ai 0]) (hfin _ _ _ _) ?_
   simp only[go_sem,n3,n4,hfo]
   exact .mkTup (Vws.cons (.mkAgg (Vws.cons (.refl _) (Vws.cons (.refl _) (Vws.cons (.nil 3) (Vws.refl _))))) (Vws.refl _))
  | false =>
   cases Q2 with
   | true =>
    have h12:=h12 rfl
    refine W3 n3 n4 hfo ?_
    refine⟨fun h=>absurd h (by decide),fun _ => ?_⟩
    try simp only[go_sem]
    refine W3 n3 n4 hfo ?_
    refine Sd ?_
    refine(h12).val.use ?_;simp only[go_sem]
    refine W3 n3 n4 hfo ?_
    first|refine⟨fun h=>absurd h (by decide),fun _ => ?_⟩|skip
    try simp only[go_sem]
    refine W3 n3 n4 hfo ?_
    refine ret_viewK [] (.tup [.agg [ai B10,.sl 6 J2,.sl 3 [],ai 0,ai 0],ai 0]) (hfin _ _ _ _) ?_
    simp only[go_sem,n3,n4,hfo]
    exact .mkTup (Vws.cons (.mkAgg (Vws.cons (.refl _) (Vws.cons (.refl _) (Vws.cons (.nil 3) (Vws.refl _))))) (Vws.refl _))
   | false =>
    refine W3 n3 n4 hfo ?_
    refine⟨fun h=>absurd h (by decide),fun _ => ?_⟩
    try simp only[go_sem]
    refine W3 n3 n4 hfo ?_
    first|refine⟨fun h=>absurd h (by decide),fun _ => ?_⟩|skip
    try simp only[go_sem]
    refine W3 n3 n4 hfo ?_
    refine ret_viewK [] (.tup [.agg [ai B10,.sl 6 [],.sl 3 [],ai 0,ai 0],ai 0]) (hfin _ _ _ _) ?_
    simp only[go_sem,n3,n4,hfo]
    exact .mkTup (Vws.cons (.mkAgg (Vws.cons (.refl _) (Vws.cons (.nil 6) (Vws.cons (.nil 3) (Vws.refl _))))) (Vws.refl _))
theorem bv_nat {x:Nat} (h:x<2 ^ 64):(BitVec.ofInt 64 (x:Int)).toNat=x:=by
 rw[BitVec.ofInt_natCast,BitVec.toNat_ofNat,Nat.mod_eq_of_lt h]
theorem wrap_i64n {x:Nat} (h:x<2 ^ 62):IntKind.i64.wrap (x:Int)=x:=IntWalk.i64_in _ (by omega)
theorem and_nati {x y:Nat} (hx:x<2 ^ 62) (hy:y<2 ^ 62):andK .i64 (x:Nat) (y:Nat)=((x &&& y:Nat):Int):=by
 have hl:x &&& y<2 ^ 62:=Nat.lt_of_le_of_lt Nat.and_le_left hx
 have e:(BitVec.ofInt IntKind.i64.bits (x:Nat) &&& BitVec.ofInt IntKind.i64.bits (y:Nat)).toNat=x &&& y:=by
  show (BitVec.ofInt 64 (x:Nat) &&& BitVec.ofInt 64 (y:Nat)).toNat=_
  rw[BitVec.toNat_and,bv_nat (by omega),bv_nat (by omega)]
 unfold andK
 rw[e]
 exact wrap_i64n hl
theorem or_nati {x y:Nat} (hx:x<2 ^ 62) (hy:y<2 ^ 62):orK .i64 (x:Nat) (y:Nat)=((x ||| y:Nat):Int):=by
 have hl:x ||| y<2 ^ 62:=Nat.or_lt_two_pow hx hy
 have e:(BitVec.ofInt IntKind.i64.bits (x:Nat) ||| BitVec.ofInt IntKind.i64.bits (y:Nat)).toNat=x ||| y:=by
  show (BitVec.ofInt 64 (x:Nat) ||| BitVec.ofInt 64 (y:Nat)).toNat=_
  rw[BitVec.toNat_or,bv_nat (by omega),bv_nat (by omega)]
 unfold orK
 rw[e]
 exact wrap_i64n hl
def orN (x b:Nat) (h:Bool):Nat:=if h then x ||| 2 ^ b else x
theorem orB_nat {x b:Nat} (hx:x<2 ^ 10) (hb:b<10) (h:Bool):orB (x:Nat) ((2 ^ b:Nat):Int) h=(orN x b h:Nat)∧orN x b h<2 ^ 10:=by
 have hp:2 ^ b<2 ^ 10:=Nat.pow_lt_pow_right (by decide) hb
 unfold orB orN
 cases h with
 | false=>exact⟨rfl,hx⟩
 | true=>exact⟨or_nati (by omega) (by omega),Nat.or_lt_two_pow hx hp⟩
theorem orN_bit (x b i:Nat) (h:Bool):(orN x b h).testBit i=(x.testBit i || (h && decide (b=i))):=by
 unfold orN
 cases h with
 | false=>simp
 | true=>simp [Nat.testBit_or,Nat.testBit_two_pow]
def bitsN (a0 a1 a2 a3 a4 a5 a6 a7 a8 a9:Bool):Nat:=orN (orN (orN (orN (orN (orN (orN (orN (orN (orN 0 0 a0) 1 a1) 2 a2) 3 a3) 4 a4) 5 a5) 6 a6) 7 a7) 8 a8) 9 a9
theorem bitsF_nat (n:Pd) (s:Bool):bitsF n s=(bitsN (locR n).2 (prtF 16 n).2 (prtF 17 n).2 (lnrF n) (plnF n) (lnrF n && plnF n) (stabF n) s (!allB nchB n) (!allB ntmB n):Nat) ∧
  bitsN (locR n).2 (prtF 16 n).2 (prtF 17 n).2 (lnrF n) (plnF n) (lnrF n && plnF n) (stabF n) s (!allB nchB n) (!allB ntmB n)<2 ^ 10:=by
 unfold bitsF bitsN
 generalize (locR n).2=a0
 generalize (prtF 16 n).2=a1
 generalize (prtF 17 n).2=a2
 generalize lnrF n=a3
 generalize plnF n=a4
 generalize (a3 && a4)=a5
 generalize stabF n=a6
 generalize (!allB nchB n)=a8
 generalize (!allB ntmB n)=a9
 obtain⟨e0,l0⟩:=orB_nat (x:=0) (b:=0) (by decide) (by decide) a0
 obtain⟨e1,l1⟩:=orB_nat (b:=1) l0 (by decide) a1
 obtain⟨e2,l2⟩:=orB_nat (b:=2) l1 (by decide) a2
 obtain⟨e3,l3⟩:=orB_nat (b:=3) l2 (by decide) a3
 obtain⟨e4,l4⟩:=orB_nat (b:=4) l3 (by decide) a4
 obtain⟨e5,l5⟩:=orB_nat (b:=5) l4 (by decide) a5
 obtain⟨e6,l6⟩:=orB_nat (b:=6) l5 (by decide) a6
 obtain⟨e7,l7⟩:=orB_nat (b:=7) l6 (by decide) s
 obtain⟨e8,l8⟩:=orB_nat (b:=8) l7 (by decide) a8
 obtain⟨e9,l9⟩:=orB_nat (b:=9) l8 (by decide) a9
 refine⟨?_,l9⟩
 rw[← e9,← e8,← e7,← e6,← e5,← e4,← e3,← e2,← e1,← e0]
 rfl
theorem and_bit {x b:Nat} (hx:x<2 ^ 10) (hb:b<10):(andK .i64 (x:Nat) ((2 ^ b:Nat):Int)=0)↔x.testBit b=false:=by
 have hp:2 ^ b<2 ^ 10:=Nat.pow_lt_pow_right (by decide) hb
 rw[and_nati (by omega) (by omega)]
 rw[show (((x &&& 2 ^ b:Nat):Int)=0)↔(x &&& 2 ^ b=0) from by omega]
 constructor
 ·intro h
  have h2:(x &&& 2 ^ b).testBit b=false:=by rw[h];exact Nat.zero_testBit b
  rw[Nat.testBit_and,Nat.testBit_two_pow_self,Bool.and_true] at h2
  exact h2
 ·intro h
  refine Nat.eq_of_testBit_eq fun i => ?_
  rw[Nat.testBit_and,Nat.zero_testBit,Nat.testBit_two_pow]
  by_cases e:b=i
  ·subst e;rw[h];rfl
  ·simp [e]
theorem bits_1 (n:Pd) (s:Bool):andK .i64 (bitsF n s) 1=0↔(locR n).2=false:=by
 obtain⟨e,l⟩:=bitsF_nat n s
 rw[e]
 refine(and_bit (b:=0) l (by decide)).trans ?_
 unfold bitsN
 simp only[orN_bit]
 simp
theorem bits_8 (n:Pd) (s:Bool):andK .i64 (bitsF n s) 8=0↔lnrF n=false:=by
 obtain⟨e,l⟩:=bitsF_nat n s
 rw[e]
 refine(and_bit (b:=3) l (by decide)).trans ?_
 unfold bitsN
 simp only[orN_bit]
 simp
theorem bits_32 (n:Pd) (s:Bool):andK .i64 (bitsF n s) 32=0↔(lnrF n && plnF n)=false:=by
 obtain⟨e,l⟩:=bitsF_nat n s
 rw[e]
 refine(and_bit (b:=5) l (by decide)).trans ?_
 unfold bitsN
 simp only[orN_bit]
 simp
theorem bits_512 (n:Pd) (s:Bool):andK .i64 (bitsF n s) 512=0↔allB ntmB n=true:=by
 obtain⟨e,l⟩:=bitsF_nat n s
 rw[e]
 refine(and_bit (b:=9) l (by decide)).trans ?_
 unfold bitsN
 simp only[orN_bit]
 simp
set_option maxHeartbeats 2000000 in
theorem irr_parts (ps:List Pr) (hs:Sm ps) (t:Pd) (h:NfOk ps t):MCalls Proofs.Tryz.prog 89 [aTr ps,aPd t] [] fun r L=>AppSt 141 7 ((cjF t).map aPt) r L:=by
 refine nf_ind (P:=fun t=>MCalls Proofs.Tryz.prog 89 [aTr ps,aPd t] [] fun r L=>AppSt 141 7 ((cjF t).map aPt) r L) ?_ ?_ t h
 ·intro t h hn
  have hC:=classify_Class ps hs t (nf_sz h) h.ck h.prd
  rw[h.nf] at hC
  rw[cjF_one hn]
  have hb:=bits_1 t
  have hk:t.kind=16→(locR t).2=true:=fun e=>by
   cases e2:(locR t).2 with
   | true=>rfl
   | false=>exact absurd ⟨e,e2⟩ hn
  generalize bitsF t=BF at *
  obtain⟨k,n,p,q,s,l⟩:=t
  have hk:k=16→(locR (.mk k n p q s l)).2=true:=hk
  have hT:aTr ps = .agg [.sl 3 (ps.map aPr)]:=rfl
  have hP:aPt (.mk k n p q s l) = .agg [ai k,ai n,ai p,ai q,astr s,.sl 6 (l.map aPd),ab (locR (.mk k n p q s l)).2]:=rfl
  rw[List.map_cons,List.map_nil,hP]
  rw[hT] at hC ⊢
  simp only[aPd_mk] at hC ⊢
  generalize (locR (.mk k n p q s l)).2=lc at *
  refine MCalls.enter' 42 [.tmp 4] [2,3,5] Proofs.Tryz.func89 rfl rfl rfl rfl rfl (by simp) (AWp.of ?_);simp only[go_sem]
  refine Wk ?_
  refine(MVal.frame (Lm:=[]) (Lr:=_) hC.val).mono ?_
  rintro r L ⟨L1,rfl,rfl,s',X,Y,o,b,rfl⟩
  have hb:=hb s'
  generalize BF s'=B at *
  simp only[go_sem]
  intro b5
  refine Sd ?_
  generalize hA:andK .i64 B 1=A at *
  by_cases e0:A=0
  ·have hlc:=hb.1 e0
   subst hlc
   have hk16:¬k=16:=fun e=>absurd (hk e) (by decide)
   refine W3 e0 hA hk16 ?_
   intro b1
   refine Sd ?_
   refine Wk ?_
   refine ret_own ?_
   simp only[go_sem]
   exact .row b1 [_] 1
  ·have hlc:lc=true:=by
    cases lc with
    | true=>rfl
    | false=>exact absurd (hb.2 rfl) e0
   subst hlc
   refine W2 e0 hA ?_
   intro b1
   refine Sd ?_
   refine Wk ?_
   refine ret_own ?_
   simp only[go_sem]
   exact .row b1 [_] 1
 ·intro x y h hloc hx hy ihx ihy
  have hC:=classify_Class ps hs _ (nf_sz h) h.ck h.prd
  rw[h.nf] at hC
  rw[cjF_nd,if_pos ⟨rfl,hloc⟩,cjL_2,List.map_append]
  have hb:=bits_1 (nd 16 [x,y])
  rw[hloc] at hb
  have z1:=pt_len x hx
  have z2:=pt_len y hy
  have z3:=nf_sz hx
  have z4:=nf_sz hy
  have m1:((cjF x).map aPt).length≤1000000:=by rw[List.length_map];omega
  have m2:((cjF y).map aPt).length≤1000000:=by rw[List.length_map];omega
  have ne1:(cjF x).map aPt ≠ []:=by simp [pt_ne x hx]
  have ne2:(cjF y).map aPt ≠ []:=by simp [pt_ne y hy]
  generalize bitsF (nd 16 [x,y])=BF at *
  generalize (cjF x).map aPt=P1 at *
  generalize (cjF y).map aPt=P2 at *
  have hT:aTr ps = .agg [.sl 3 (ps.map aPr)]:=rfl
  have hN:aPd (nd 16 [x,y]) = .agg [ai 16,ai 0,ai 0,ai 0,astr ByteArray.empty,.sl 6 [aPd x,aPd y]]:=by unfold nd;rw[aPd_mk];rfl
  rw[hN] at hC ⊢
  rw[hT] at hC ihx ihy ⊢
  obtain⟨k1,o1,p1,q1,s1,X1,hX⟩:=aPd_shape x
  obtain⟨k2,o2,p2,q2,s2,X2,hY⟩:=aPd_shape y
  simp only[hX,hY] at hC ihx ihy ⊢
  generalize ps.map aPr=T at *
  clear h hx hy hloc z1 z2 z3 z4 hN hX hY hs hT
  refine MCalls.enter' 42 [.tmp 4] [2,3,5] Proofs.Tryz.func89 rfl rfl rfl rfl rfl (by simp) (AWp.of ?_);simp only[go_sem]
  refine Wk ?_
  refine(MVal.frame (Lm:=[]) (Lr:=_) hC.val).mono ?_
  rintro r L ⟨L1,rfl,rfl,s',X,Y,o,b,rfl⟩
  have hb:=hb s'
  generalize BF s'=B at *
  have hA:andK .i64 B 1=0:=hb.2 rfl
  simp only[go_sem]
  intro b5
  refine Sd ?_
  repeat(first|((with_reducible refine AWp.ofC ?_ ?_);exact rfl;simp only[go_sem,hA,Int.reduceEq])|((with_reducible refine an ?_ ?_);exact Au))
  repeat(first|(with_reducible refine AWp.seq ?_)|(with_reducible refine AWp.block ?_))
  refine AWp.mix mixed [0,1,2,3,4,6,7,8,9,10] (.step 5 (.step 11 (.step 12 (.step 13 .done .done) .done) .done) .done) (by kernel_rfl) ?_;simp only[go_sem]
  refine Sd ?_
  refine(MVal.frame (Lm:=[]) (Lr:=_) ihx.val).mono ?_
  rintro r L ⟨L1,rfl,hA1⟩
  rcases hA1.inv with ⟨rfl,rfl,rfl⟩|⟨c1,cap1,rfl,rfl⟩
  ·exact absurd rfl ne1
  simp only[go_sem]
  refine Sd ?_
  have hyP:PC Proofs.Tryz.prog 89 [.agg [.sl 3 T],.agg [ai k2,ai o2,ai p2,ai q2,astr s2,.sl 6 X2]] (.sl 7 P2):=ihy.pc fun r L hA=>by have:=hA.vw [];rwa [List.append_nil] at this
  refine Sd ?_
  refine(hyP).val.use ?_;simp only[go_sem]
  refine Sd ?_
  intro b' cap' g8
  refine Wk ?_
  refine ret_own ?_
  simp only[go_sem]
  rw[← List.length_append]
  exact .row b' _ cap'
theorem irr_partsP (ps:List Pr) (hs:Sm ps) (t:Pd) (h:NfOk ps t):PC Proofs.Tryz.prog 89 [aTr ps,aPd t] (aPts (cjF t)) :=
 (irr_parts ps hs t h).pc fun r L hA=>by have:=hA.vw [];rwa [List.append_nil] at this
end Go.AL
end
