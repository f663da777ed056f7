/- Texts of this claim's proof: WI19, WI20, WI21. No condition. -/
import Derived.Test.YtpcmoecaaphjmaaGreatDoorM18
section
namespace Go.AL
open Go Go.RowKit
set_option maxRecDepth 4000
def seenT (k:Int) (f g:Tms) (vis:List Nat):Bool:=vis.all fun i=>(sumF k (cfT (g.getD i a0).1 f) (g.getD i a0).2).2
def AddI (k c d:Int) (f g:Tms) (vis:List Nat) (h:Tms) (ok:Bool):Prop :=
 OkT h∧(∀x ∈ h,x.1 ∈ f.map Prod.fst∨x.1 ∈ g.map Prod.fst)∧(ok=true→(sumF k c d).2=true∧∀v,sT v h=sT v f+k * visT v g vis)∧(∀(j:Nat) (hj:j<g.length),j ∉ vis→cfT g[j].1 h=cfT g[j].1 f)∧ok=((sumF k c d).2 && seenT k f g vis)
theorem getD_ne {g:Tms} (hn:(g.map Prod.fst).Nodup) {i j:Nat} (hi:i<g.length) (hj:j<g.length) (h:i ≠ j):g[i].1 ≠ g[j].1:=by
 intro e
 apply h
 have h1:(g.map Prod.fst)[i]'(by rw[List.length_map];exact hi)=(g.map Prod.fst)[j]'(by rw[List.length_map];exact hj):=by rw[List.getElem_map,List.getElem_map,e]
 exact(List.getElem_inj hn).1 h1
theorem addI_step {k c d:Int} {f g:Tms} {vis:List Nat} {h:Tms} {ok:Bool} (hg:OkT g) (hI:AddI k c d f g vis h ok) {i:Nat} (hi:i<g.length) (hv:i ∉ vis) :
  AddI k c d f g (vis ++ [i]) (stT g[i].1 (sumF k (cfT g[i].1 h) g[i].2).1 h) (ok && (sumF k (cfT g[i].1 h) g[i].2).2):=by
 obtain⟨h1,h2,h3,h6,h7⟩:=hI
 obtain⟨g1,g2⟩:=st_ok (a:=g[i].1) (m:=(sumF k (cfT g[i].1 h) g[i].2).1) h1 (sumF_num _ _ _)
 refine⟨g1,fun x hx => ?_,fun he => ?_,fun j hj hjv => ?_,?_⟩
 ·rcases g2 x hx with e|hx
  ·rw[e];exact .inr (List.mem_map.2 ⟨_,List.getElem_mem hi,rfl⟩)
  ·exact h2 x hx
 ·rw[Bool.and_eq_true] at he
  obtain⟨h4,h5⟩:=h3 he.1
  refine⟨h4,fun v => ?_⟩
  have e1:=sumF_ok he.2
  rw[sT_st,h5 v,visT_snoc,getD_a0 hi,e1,Int.mul_add]
  generalize g[i].2=n at *
  generalize cfT g[i].1 h=m at *
  generalize v g[i].1=w at *
  have e2:m+k * n - m=k * n:=by omega
  rw[e2,Int.mul_assoc]
  omega
 ·rw[List.mem_append,List.mem_singleton,not_or] at hjv
  rw[cfT_st _ _ _ (getD_ne hg.nd hj hi hjv.2),h6 j hj hjv.1]
 ·rw[h7,h6 i hi hv]
  unfold seenT
  rw[List.all_append,List.all_cons,List.all_nil,Bool.and_true,getD_a0 hi,Bool.and_assoc]
theorem seen_all {k:Int} {f g:Tms} {vis:List Nat} (hl:∀i ∈ vis,i<g.length) (ha:∀i,i<g.length→i ∈ vis):seenT k f g vis=g.all fun x=>(sumF k (cfT x.1 f) x.2).2:=by
 unfold seenT
 rw[Bool.eq_iff_iff,List.all_eq_true,List.all_eq_true]
 refine⟨fun h x hx => ?_,fun h i hi => ?_⟩
 ·obtain⟨i,hi,rfl⟩:=List.getElem_of_mem hx
  have:=h i (ha i hi)
  rwa [getD_a0 hi] at this
 ·rw[getD_a0 (hl i hi)]
  exact h _ (List.getElem_mem _)
set_option maxHeartbeats 1000000 in
theorem classify_add (c d k:Int) (f g:Tms) (hc:NumB c) (hd:NumB d) (hk:NumB k) (hf:OkT f) (hg:OkT g) :
  MCalls Proofs.Tryz.prog 273 [.agg [ai c,mapT f],.agg [ai d,mapT g],ai k] [] fun r L=>L=[]∧∃h ok,r = .tup [.agg [ai (sumF k c d).1,mapT h],ab ok]∧OkT h∧(∀x ∈ h,x.1 ∈ f.map Prod.fst∨x.1 ∈ g.map Prod.fst)∧(ok=true→(sumF k c d).2=true∧∀v,sT v h=sT v f+k * sT v g)∧ok=okA k c d f g:=by
 have hcl:=maps_Clone (keysT f) (valsT f)
 have h0:=classify_add1 k c d hk hc hd
 have hN:=fun (x y:Int) hx hy=>classify_add1 k x y hk hx hy
 have hI0:AddI k c d f g [] f (sumF k c d).2:=⟨hf,fun x hx => .inl (List.mem_map.2 ⟨x,hx,rfl⟩),fun h=>⟨h,fun v=>by show _=_+k * 0;simp⟩,fun _ _ _=>rfl,by unfold seenT;simp⟩
 have hfits:=keysT_fits
 unfold mapT
 refine MCalls.enter' 63 [.cell 6 249,.tmp 7] [3,4,5,11] Proofs.Tryz.func273 rfl rfl rfl rfl rfl (by simp) (AWp.of ?_);simp only[go_sem]
 intro b6
 refine Wk ?_
 refine(MVal.nd (MVal.frame (Lm:=[]) (Lr:=_) hcl.val)).mono ?_
 rintro r L ⟨hnd,L1,rfl,bm,rfl,rfl⟩
 simp only[go_sem]
 intro b8 g1 g2
 have hm6:¬bm=b6:=by simp at hnd;exact hnd
 have n1:¬b6=bm:=fun e=>hm6 e.symm
 have n2:¬b8=bm:=by omega
 have n3:¬bm=b8:=by omega
 have n4:¬b8=b6:=by omega
 have n5:¬b6=b8:=by omega
 have h0:=PC.clo (args:=[_,_]) (caps:=[_]) h0
 refine Sd ?_
 refine W6 hm6 n1 n2 n3 n4 n5 ?_
 refine Sd ?_
 refine(h0).use ?_;simp only[go_sem,hm6,n1,n2,n3,n4,n5]
 refine W6 hm6 n1 n2 n3 n4 n5 ?_
 refine AOp.rangeMap (ks:=keysT g) (vs:=valsT g) (kt:=253) (et:=3) rfl (tinfo_atoms) (fun i hi=>by cases hi;decide) rfl ?_
 intro bi g3
 simp only[go_sem] at g3 ⊢
 have m1:¬bi=b8:=by omega
 have m2:¬b8=bi:=by omega
 have m3:¬bi=bm:=by omega
 have m4:¬bm=bi:=by omega
 have m5:¬bi=b6:=by omega
 have m6:¬b6=bi:=by omega
 refine W6 hm6 n1 n2 n3 n4 n5 ?_
 refine AWp.block (AWp.loopN [10] [6,8,9,32] (fun m vs L=>∃vis h ok,m=g.length - vis.length∧vis.Nodup∧(∀i ∈ vis,i<g.length)∧vs=[ab ok]∧L=[(bi,.iter (keysT g) (valsT g) vis),(b8,.row 249 2 [.agg [ai (sumF k c d).1,.lm bm]] 1),(bm,.amap (keysT h) (valsT h)),(b6,.row 249 2 [.agg [ai 0,.v (.map none)]] 1)]∧AddI k c d f g vis h ok) g.length ⟨[],f,_,rfl,.nil,by simp,rfl,rfl,hI0⟩ ?_)
 rintro m vs L - ⟨vis,h,ok,rfl,hvn,hvl,rfl,rfl,hI⟩
 simp only[go_sem]
 refine Sd ?_
 refine AWp.of ?_;simp only[go_sem,m1,m2,m3,m4,m5,m6]
 refine AOp.nextMap (ks:=keysT g) (vs:=valsT g) (vis:=vis) (b:=bi) rfl ?_ rfl (if_pos rfl) (fun hall => ?_) ?_
 ·intro i hi;cases hi;decide
 ·rw[keysT_len] at hall
  have hva:=fun v=>visT_all (v:=v) hvn hvl hall
  simp only[go_sem]
  repeat(first|((with_reducible refine AWp.ofC ?_ ?_);exact rfl;simp only[go_sem,m1,m2,m3,m4,m5,m6,hm6,n1,n2,n3,n4,n5])|((with_reducible refine an ?_ ?_);exact Au))
  refine ret_viewK [false,false,true,false] (.tup [.agg [ai (sumF k c d).1,.rm (keysT h) (valsT h)],ab ok]) ⟨rfl,h,ok,rfl,hI.1,hI.2.1,fun e=>⟨(hI.2.2.1 e).1,fun v=>by rw[(hI.2.2.1 e).2 v,hva]⟩,by rw[hI.2.2.2.2,seen_all hvl hall];rfl⟩ ?_
  simp only[go_sem,m1,m2,m3,m4,m5,m6,hm6,n1,n2,n3,n4,n5]
  exact .mkTup (Vws.cons (.mkAgg (Vws.cons (.refl _) (Vws.cons (.lm (if_pos rfl) rfl (Vws.refl _).2) .nil))) (Vws.refl _))
 ·intro i hi hn
  rw[keysT_len] at hi
  have hI':=addI_step hg hI hi hn
  have hN:=PC.clo (args:=[_,_]) (caps:=[_]) (hN (cfT g[i].1 h) g[i].2 (cfT_num hI.1.co) (hg.co _ (List.getElem_mem hi)).2)
  have hlen:(vis ++ [i]).length≤g.length:=by
   have hnd':(vis ++ [i]).Nodup:=List.nodup_append.2 ⟨hvn,by simp,fun a ha b hb=>by rw[List.mem_singleton.1 hb];rintro rfl;exact hn ha⟩
   have:=List.Nodup.length_le_of_subset hnd' (l₂:=List.range g.length) (fun j hj=>by
    rcases List.mem_append.1 hj with hj|hj
    ·exact List.mem_range.2 (hvl j hj)
    ·rw[List.mem_singleton.1 hj];exact List.mem_range.2 hi)
   rwa [List.length_range] at this
  rw[List.length_append,List.length_singleton] at hlen
  simp only[go_sem]
  refine W6 m1 m2 m3 m4 m5 m6 ?_
  refine AOp.entryMap (ks:=keysT g) (vs:=valsT g) (vis:=vis) (i:=i) (b:=bi) rfl ?_ rfl (if_pos rfl) ?_
  ·intro i hi;cases hi;decide
  simp only[go_sem,keysT_getD hi,valsT_getD hi,zav_atmV]
  intro b11 g4 g5 g6 g7
  have q1:¬bi=b11:=by omega
  have q2:¬b11=bi:=by omega
  have q3:¬b8=b11:=by omega
  have q4:¬b11=b8:=by omega
  have q5:¬bm=b11:=by omega
  have q6:¬b11=bm:=by omega
  have q7:¬b6=b11:=by omega
  have q8:¬b11=b6:=by omega
  generalize sumF k (cfT g[i].1 h) g[i].2=S at *
  generalize hxe:g[i].1=x at *
  have hgt:=mget_T x h
  have hpt:=fun m=>mput_T x m h
  have hfh:=hfits h
  refine Sd ?_
  repeat(first|((with_reducible refine AWp.ofC ?_ ?_);exact rfl;simp only[go_sem,atm_key,atmV_fits,hfh,hgt,m1,m2,m3,m4,m5,m6,hm6,n1,n2,n3,n4,n5,q1,q2,q3,q4,q5,q6,q7,q8])|((with_reducible refine an ?_ ?_);exact Au))
  refine Sd ?_
  refine(hN).use ?_;simp only[go_sem,atm_key,atmV_fits,hfh,hgt,m1,m2,m3,m4,m5,m6,hm6,n1,n2,n3,n4,n5,q1,q2,q3,q4,q5,q6,q7,q8]
  repeat(first|((with_reducible refine AWp.ofC ?_ ?_);exact rfl;simp only[go_sem,atm_key,atmV_fits,hfh,hpt,m1,m2,m3,m4,m5,m6,hm6,n1,n2,n3,n4,n5,q1,q2,q3,q4,q5,q6,q7,q8])|((with_reducible refine an ?_ ?_);exact Au))
  have hvn':(vis ++ [i]).Nodup:=List.nodup_append.2 ⟨hvn,by simp,fun a ha b hb=>by rw[List.mem_singleton.1 hb];rintro rfl;exact hn ha⟩
  have hvl':∀j ∈ vis ++ [i],j<g.length:=fun j hj=>by
   rcases List.mem_append.1 hj with hj|hj
   ·exact hvl j hj
   ·rw[List.mem_singleton.1 hj];exact hi
  have hll:g.length - (vis ++ [i]).length<g.length - vis.length:=by rw[List.length_append,List.length_singleton];omega
  refine⟨fun h0 => ?_,fun h0 => ?_⟩
  ·have hst:stT x S.1 h=delT x h:=by unfold stT;rw[if_pos h0]
   rw[hst] at hI'
   refine AOp.deleteMap (kt:=253) (et:=3) (κ:=KK.st [.int,.int,.int,.str]) (kv:=atmV x) (b:=bm) (ks:=keysT (putT x S.1 h)) (vs:=valsT (putT x S.1 h)) rfl rfl rfl rfl (fun i hi=>by cases hi) tinfo_atoms (by simp only[go_sem]) rfl (by simp only[go_sem,m1,m2,m3,m4,m5,m6,hm6,n1,n2,n3,n4,n5,q1,q2,q3,q4,q5,q6,q7,q8]) (by simp only[go_sem]) (by simp only[go_sem];rfl) (atmV_fits x) (hfits _) ?_
   rw[mdel_T,del_put]
   simp only[go_sem,m1,m2,m3,m4,m5,m6,hm6,n1,n2,n3,n4,n5,q1,q2,q3,q4,q5,q6,q7,q8]
   repeat(first|((with_reducible refine AWp.ofC ?_ ?_);exact rfl;simp only[go_sem,m1,m2,m3,m4,m5,m6,hm6,n1,n2,n3,n4,n5,q1,q2,q3,q4,q5,q6,q7,q8])|((with_reducible refine an ?_ ?_);exact Au))
   exact⟨_,List.Sublist.refl _,_,hll,vis ++ [i],_,_,rfl,hvn',hvl',rfl,rfl,hI'⟩
  ·have hst:stT x S.1 h=putT x S.1 h:=by unfold stT;rw[if_neg h0]
   rw[hst] at hI'
   exact⟨_,List.Sublist.refl _,_,hll,vis ++ [i],_,_,rfl,hvn',hvl',rfl,rfl,hI'⟩
theorem AWp.viewA' {C:Cfg} {Q:AQ} {ρ:Env} {L:AHeap} {c:Code} {t:TypeId} {k j:Nat} {ys:List AV} {v:AV} {L1:AHeap} (hA:AppSt t k ys v L1) (hj:get ρ j=v) (h:AWp C c Q ((j,.sl k ys) :: ρ) L):AWp C c Q ρ (L1 ++ L):=by
 refine AWp.viewP (Lf:=L1) (Lk:=L) (L':=L) (List.Perm.refl _) (LVw.refl _) [(j,.sl k ys)] (fun p hp => ?_) h
 obtain rfl:=List.mem_singleton.1 hp
 have:=hA.vw []
 rw[List.append_nil] at this
 rw[hj];exact this
def obV (o:Obs) (a:Atm):Int:=if a.1=2 then o.var a.2.1 a.2.2.2 else if a.1=3 then o.cnt a.2.1 else o.chn a.2.1 a.2.2.1
mutual
def lvF:Pd→List Atm
 | .mk k _ p q s l=>if k=2∨k=3∨k=4 then [(k,p,q,s)] else lvL l
def lvL:List Pd→List Atm
 | []=>[]
 | x :: r=>lvF x ++ lvL r
end
theorem lvF_mk (k n p q:Int) (s:ByteArray) (l:List Pd):lvF (.mk k n p q s l)=if k=2∨k=3∨k=4 then [(k,p,q,s)] else lvL l:=by rw[lvF]
theorem lvL_mem {l:List Pd} {x:Pd} (hx:x ∈ l) {a:Atm} (ha:a ∈ lvF x):a ∈ lvL l:=by
 induction l with
 | nil=>cases hx
 | cons y l ih =>
  rw[lvL]
  rcases List.mem_cons.1 hx with rfl|hx
  ·exact List.mem_append_left _ ha
  ·exact List.mem_append_right _ (ih hx)
def adE (k c d:Int) (f g:Tms):Option (Int × Tms):=if okA k c d f g=true then some ((sumF k c d).1,addT k f g) else none
def linN (k n p q:Int) (s:ByteArray) (l:List (Int × Tms)):Option (Int × Tms) :=
 if k=1 then some (n,[]) else if k=2∨k=3∨k=4 then some (0,[((k,p,q,s),1)]) else
 match l with
 | [x]=>adE (-1) 0 x.1 [] x.2
 | [x,y]=>if k=6 then adE 1 x.1 y.1 x.2 y.2 else if k=7 then adE (-1) x.1 y.1 x.2 y.2 else if x.2.length=0 then adE x.1 0 y.1 [] y.2 else if y.2.length=0 then adE y.1 0 x.1 [] x.2 else none
 | _=>none
mutual
def linE:Pd→Option (Int × Tms)
 | .mk k n p q s l=>match linL l with
  | some fs=>linN k n p q s fs
  | none=>none
def linL:List Pd→Option (List (Int × Tms))
 | []=>some []
 | x :: r=>match linE x with
  | some a=>match linL r with
   | some b=>some (a :: b)
   | none=>none
  | none=>none
end
theorem linE_mk (k n p q:Int) (s:ByteArray) (l:List Pd):linE (.mk k n p q s l)=match linL l with|some fs=>linN k n p q s fs|none=>none:=by rw[linE]
theorem linL_nil:linL []=some []:=by rw[linL]
theorem linL_none:∀ {l:List Pd} {i:Nat} (hi:i<l.length),linE l[i]=none→linL l=none
 | x :: l,0,_,h=>by
  have h:linE x=none:=h
  rw[linL,h]
 | x :: l,i+1,hi,h=>by
  have h:=linL_none (l:=l) (Nat.lt_of_succ_lt_succ hi) h
  rw[linL,h]
  cases linE x <;> rfl
theorem lin_none {k n p q:Int} {s:ByteArray} {l:List Pd} {i:Nat} (hi:i<l.length) (h:linE l[i]=none):linE (.mk k n p q s l)=none:=by rw[linE_mk,linL_none hi h]
theorem linE_1 {k n p q:Int} {s:ByteArray} {x:Pd} {a:Int × Tms} (h:linE x=some a):linE (.mk k n p q s [x])=linN k n p q s [a]:=by rw[linE_mk,linL,h,linL_nil]
theorem linE_2 {k n p q:Int} {s:ByteArray} {x y:Pd} {a b:Int × Tms} (h:linE x=some a) (h':linE y=some b):linE (.mk k n p q s [x,y])=linN k n p q s [a,b]:=by rw[linE_mk,linL,h,linL,h',linL_nil]
theorem ok_nil:OkT []:=⟨List.nodup_nil,fun x hx=>by cases hx⟩
structure LinS (t:Pd) (c:Int) (h:Tms):Prop where
 num:NumB c
 ok:OkT h
 can:∃g,linE t=some (c,g)∧EqT h g
 val:∀o,valF o t=c+sT (obV o) h
 mem:∀x ∈ h,x.1 ∈ lvF t
inductive LinR (t:Pd):AV→Prop
 | yes (c:Int) (h:Tms) (hs:LinS t c h):LinR t (.tup [.agg [ai c,.rm (keysT h) (valsT h)],ab true])
 | no (c:Int) (m:AV) (hm:m = .v (.map none)∨∃ks vs,m = .rm ks vs) (hE:linE t=none):LinR t (.tup [.agg [ai c,m],ab false])
theorem classify_zeroP:PC Proofs.Tryz.prog 299 [] (.agg [ai 0,.rm [] []]):=by
 refine classify_zero.pc ?_
 rintro r L ⟨b,rfl,rfl⟩
 exact .mkAgg (Vws.cons (.refl _) (Vws.cons (.lm (if_pos rfl) rfl (Vws.refl _).2) .nil))
def lfA (x:Int × Tms):AV:=.agg [ai x.1,.rm (keysT x.2) (valsT x.2)]
theorem lin_num {n:Int} (p q:Int) (s:ByteArray) (h:NumB n):LinS (.mk 1 n p q s []) n []:=⟨h,⟨List.nodup_nil,fun x hx=>by cases hx⟩,⟨[],by rw[linE_mk,linL_nil];rfl,.refl ok_nil⟩,fun o=>by rw[valF_mk];show n=n+0;omega,fun x hx=>by cases hx⟩
theorem lin_leaf {k:Int} (hk:k=2∨k=3∨k=4) (n p q:Int) (s:ByteArray):LinS (.mk k n p q s []) 0 [((k,p,q,s),1)]:=by
 have hok:OkT [((k,p,q,s),1)]:=⟨by simp,fun x hx=>by
  obtain rfl:=List.mem_singleton.1 hx
  exact⟨(by decide:(1:Int) ≠ 0),(by unfold NumB;decide:NumB 1)⟩⟩
 have hk1:¬k=1:=by omega
 refine⟨by unfold NumB;decide,hok,⟨_,by rw[linE_mk,linL_nil];show (if k=1 then _ else _)=_;rw[if_neg hk1,if_pos hk],.refl hok⟩,fun o => ?_,fun x hx => ?_⟩
 ·rw[valF_mk]
  show valN o k n p q s []=0+(1 * obV o (k,p,q,s)+0)
  unfold valN obV
  rcases hk with rfl|rfl|rfl <;> simp
 ·obtain rfl:=List.mem_singleton.1 hx
  rw[lvF_mk,if_pos hk];simp
theorem lin_of {t:Pd} {c d k:Int} {f g h:Tms} (hok:OkT h) (hm:∀x ∈ h,x.1 ∈ f.map Prod.fst∨x.1 ∈ g.map Prod.fst) (h2:(sumF k c d).2=true) (hs:∀v,sT v h=sT v f+k * sT v g)
  (hmem:∀a,(a ∈ f.map Prod.fst∨a ∈ g.map Prod.fst)→a ∈ lvF t) (hv:∀o,valF o t=(c+sT (obV o) f)+k * (d+sT (obV o) g)) (hcan:∃g,linE t=some ((sumF k c d).1,g)∧EqT h g):LinS t (sumF k c d).1 h:=by
 refine⟨sumF_num _ _ _,hok,hcan,fun o => ?_,fun x hx=>hmem _ (hm x hx)⟩
 rw[hv o,hs,sumF_ok h2,Int.mul_add]
 omega
theorem lin_res {t:Pd} {c d k:Int} {f g f' g':Tms} (hf:EqT f f') (hg:EqT g g') (hE:linE t=adE k c d f' g') (hmem:∀a,(a ∈ f.map Prod.fst∨a ∈ g.map Prod.fst)→a ∈ lvF t) (hv:∀o,valF o t=(c+sT (obV o) f)+k * (d+sT (obV o) g))
  (h:Tms) (ok:Bool) (e1:OkT h) (e2:∀x ∈ h,x.1 ∈ f.map Prod.fst∨x.1 ∈ g.map Prod.fst) (e3:ok=true→(sumF k c d).2=true∧∀v,sT v h=sT v f+k * sT v g) (e4:ok=okA k c d f g):LinR t (.tup [.agg [ai (sumF k c d).1,.rm (keysT h) (valsT h)],ab ok]):=by
 unfold adE at hE
 rw[← okA_eq hf hg,← e4] at hE
 cases ok with
 | false=>exact .no _ _ (.inr ⟨_,_,rfl⟩) hE
 | true =>
  obtain⟨e5,e6⟩:=e3 rfl
  refine .yes _ _ (lin_of e1 e2 e5 e6 hmem hv ⟨_,hE,⟨e1,addT_ok k hf.r g',fun v => ?_⟩⟩)
  have h2:=okA_eq (k:=k) (c:=c) (d:=d) hf hg
  rw[← e4] at h2
  unfold okA at h2
  have h3:=((Bool.and_eq_true _ _).mp h2.symm).2
  rw[e6,addT_s v g' hg.r.nd h3,hf.eq,hg.eq]
theorem lin_mem {x:Pd} {c:Int} {h:Tms} (hs:LinS x c h) {a:Atm} (ha:a ∈ h.map Prod.fst):a ∈ lvF x:=by
 obtain⟨y,hy,rfl⟩:=List.mem_map.1 ha
 exact hs.mem y hy
theorem lv_mem {k:Int} (hk:¬(k=2∨k=3∨k=4)) {n p q:Int} {s:ByteArray} {l:List Pd} {x:Pd} (hx:x ∈ l) {a:Atm} (ha:a ∈ lvF x):a ∈ lvF (.mk k n p q s l):=by
 rw[lvF_mk,if_neg hk]
 exact lvL_mem hx ha
theorem ln1 {α:Type} : ∀ {l:List α},l.length=1→∃x,l=[x]
 | [x],_=>⟨x,rfl⟩
theorem ln2 {α:Type} : ∀ {l:List α},l.length=2→∃x y,l=[x,y]
 | [x,y],_=>⟨x,y,rfl⟩
set_option maxHeartbeats 2000000 in
theorem classify_linear (t:Pd):szF t≤1000000→IntOk t→MCalls Proofs.Tryz.prog 272 [aPd t] [] fun r L=>L=[]∧LinR t r:=by
 induction t using Pd.ind with
 | _ k n p q s l ih =>
 intro hz hio
 obtain⟨h1,h2,h8⟩:=hio
 have h8:k≤8:=h8
 rw[allB_mk,Bool.and_eq_true,List.all_eq_true] at h1 h2
 have hsz:szF (.mk k n p q s l)=szL l+1:=by rw[szF]
 have hll:=szL_len l
 have hch:∀i (hi:i<l.length),MCalls Proofs.Tryz.prog 272 [aPd l[i]] [] fun r L=>L=[]∧LinR l[i] r:=fun i hi=>by
  have hm:=List.getElem_mem hi
  have:=szL_mem hm
  refine ih _ hm (by omega) ⟨h1.2 _ hm,h2.2 _ hm,?_⟩
  have h3:=typ_parts h2.1 hm
  have h4:needF k=1:=by unfold needF;rw[if_pos (by omega)]
  exact res_int (h3.trans h4)
 clear ih
 rw[aPd_mk]
 refine MCalls.enter' 114 [.cell 2 249,.tmp 3] [1,6,7,30] Proofs.Tryz.func272 rfl rfl rfl rfl rfl (by simp) (AWp.of ?_);simp only[go_sem]
 intro b2
 refine Wk ?_
 refine AWp.range' l.length [4] [1,2,14,15] (fun i vs L=>∃v Ln,∃fs:List (Int × Tms),vs=[v]∧L=Ln ++ [(b2,.row 249 2 [.agg [ai 0,.v (.map none)]] 1)]∧AppSt 249 2 (fs.map lfA) v Ln∧(∀x ∈ Ln,x.1 ≠ b2)∧fs.length=i∧∀j (h:j<l.length) (hj:j<fs.length),LinS l[j] fs[j].1 fs[j].2) (by omega) rfl rfl rfl ⟨anil,[],[],rfl,rfl,.nil,by simp,rfl,fun j _ h=>absurd h (by simp)⟩ ?_ ?_
 ·rintro i vs L hil - ⟨v,Ln,fs,rfl,rfl,hA,hne,hfl,hfs⟩
  have hgi:=getD_map (f:=aPd) hil
  have hci:=hch i hil
  have hyl:(fs.map lfA).length≤1000000:=by simp;omega
  obtain⟨k2,o2,p2,q2,s2,X2,hX⟩:=aPd_shape l[i]
  rw[hX] at hgi hci
  simp only[go_sem]
  have hfs':∀c h,LinS l[i] c h→∀j (h1:j<l.length) (hj:j<(fs ++ [(c,h)]).length),LinS l[j] (fs ++ [(c,h)])[j].1 (fs ++ [(c,h)])[j].2:=fun c h hs j h1 hj=>by
   rw[List.length_append,List.length_singleton] at hj
   by_cases e:j=fs.length
   ·subst e
    rw[List.getElem_append_right (Nat.le_refl _)]
    simp only[Nat.sub_self,List.getElem_singleton]
    simp only[hfl]
    exact hs
   ·rw[List.getElem_append_left (by omega)]
    exact hfs j h1 (by omega)
  have hmp:∀c h,(fs ++ [(c,h)]).map lfA=fs.map lfA ++ [.agg [ai c,.rm (keysT h) (valsT h)]]:=fun c h=>by rw[List.map_append];rfl
  have hfl':∀x,(fs ++ [x]).length=i+1:=fun x=>by rw[List.length_append,List.length_singleton,hfl]
  generalize hys:fs.map lfA=ys at *
  rcases hA.inv with ⟨rfl,rfl,rfl⟩|⟨b,cap,rfl,rfl⟩
  ·refine W1 hgi ?_
   intro b6 g6
   refine Sd ?_
   refine Wk ?_
   refine(MVal.frame (Lm:=[]) (Lr:=_) hci.val).mono ?_
   rintro r L ⟨L1,rfl,rfl,hR⟩
   rcases hR with ⟨c,h,hs⟩|⟨c,m,rfl|⟨ks,vs,rfl⟩,hE⟩
   ·simp only[go_sem]
    refine Wk ?_
    intro b7 g7
    refine Sd ?_
    refine Wk ?_
    intro b' cap' g8
    intros
    have n1:¬b2=b':=by omega
    have n2:¬b'=b2:=by omega
    refine W2 n1 n2 ?_
    exact⟨_,List.Sublist.refl _,_,[(b',_)],_,rfl,rfl,by rw[hmp c h];exact .row b' [_] cap',by simp;exact n2,hfl' _,hfs' c h hs⟩
   ·simp only[go_sem]
    refine Wk ?_
    intro b7 g7
    refine Sd ?_
    refine Wk ?_
    refine ret_viewK [] (.tup [.agg [ai 0,.v (.map none)],ab false]) ⟨rfl,.no _ _ (.inl rfl) (lin_none hil hE)⟩ ?_
    simp only[go_sem]
    exact .refl _
   ·simp only[go_sem]
    refine Wk ?_
    intro b7 g7
    refine Sd ?_
    refine Wk ?_
    refine ret_viewK [] (.tup [.agg [ai 0,.v (.map none)],ab false]) ⟨rfl,.no _ _ (.inl rfl) (lin_none hil hE)⟩ ?_
    simp only[go_sem]
    exact .refl _
  ·have m1:¬b=b2:=hne (b,_) List.mem_cons_self
   have m2:¬b2=b:=fun e=>m1 e.symm
   refine W3 hgi m1 m2 ?_
   intro b6 g6
   intros
   refine Sd ?_
   refine W2 m1 m2 ?_
   refine(MVal.frame (Lm:=[]) (Lr:=_) hci.val).mono ?_
   rintro r L ⟨L1,rfl,rfl,hR⟩
   rcases hR with ⟨c,h,hs⟩|⟨c,m,rfl|⟨ks,vs,rfl⟩,hE⟩
   ·simp only[go_sem]
    refine W2 m1 m2 ?_
    intro b7 g7
    intros
    refine Sd ?_
    refine W2 m1 m2 ?_
    intro b' cap' n5 g8
    have n6:¬b'=b2:=fun e=>n5 e.symm
    try simp only[go_sem,n5,n6]
    exact⟨_,List.Sublist.refl _,_,[(b',_)],_,rfl,rfl,by rw[hmp c h];exact AppSt.snoc _ _ _ rfl,by simp;exact n6,hfl' _,hfs' c h hs⟩
   ·simp only[go_sem]
    refine W2 m1 m2 ?_
    intro b7 g7
    intros
    refine Sd ?_
    refine W2 m1 m2 ?_
    refine ret_viewK [] (.tup [.agg [ai 0,.v (.map none)],ab false]) ⟨rfl,.no _ _ (.inl rfl) (lin_none hil hE)⟩ ?_
    simp only[go_sem,m1,m2]
    exact .refl _
   ·simp only[go_sem]
    refine W2 m1 m2 ?_
    intro b7 g7
    intros
    refine Sd ?_
    refine W2 m1 m2 ?_
    refine ret_viewK [] (.tup [.agg [ai 0,.v (.map none)],ab false]) ⟨rfl,.no _ _ (.inl rfl) (lin_none hil hE)⟩ ?_
    simp only[go_sem,m1,m2]
    exact .refl _
 ·rintro vs L - ⟨v,Ln,fs,rfl,rfl,hA,hne,hfl,hfs⟩
  have hpl:=locB_len h1.1
  have hnm:=(loc_len h1.1).2
  refine AWp.viewA' hA (j:=4) rfl ?_
  clear hA hne hch
  simp only[go_sem]
  have hk1:1≤k:=by
   by_cases e:1≤k
   ·exact e
   ·exfalso
    have:partsF k = -1:=by unfold partsF;rw[if_neg (by omega),if_neg (by omega),if_neg (by omega)]
    omega
  have hk:k=1∨(k=2∨k=3∨k=4)∨k=5∨k=6∨k=7∨k=8:=by omega
  rcases hk with rfl|hk|rfl|rfl|rfl|rfl
  ·obtain rfl:l=[]:=List.length_eq_zero_iff.1 (by rw[show partsF 1=0 from by decide] at hpl;omega)
   obtain rfl:fs=[]:=List.length_eq_zero_iff.1 hfl
   have hn:NumB n:=by unfold numB at hnm;rw[if_pos rfl,decide_eq_true_eq] at hnm;unfold NumB;omega
   repeat(first|((with_reducible refine AWp.ofC ?_ ?_);exact rfl;simp only[go_sem,Int.reduceEq])|((with_reducible refine an ?_ ?_);exact Au))
   refine Sd ?_
   refine(classify_zeroP).val.use ?_;simp only[go_sem]
   intro b9 g9
   have n1:¬b2=b9:=by omega
   have n2:¬b9=b2:=by omega
   try simp only[go_sem,n1,n2]
   refine Sd ?_
   refine W2 n1 n2 ?_
   refine ret_viewK [] (.tup [.agg [ai n,.rm [] []],ab true]) ⟨rfl,.yes n [] (lin_num p q s hn)⟩ ?_
   simp only[go_sem,n1,n2]
   exact .refl _
  ·obtain rfl:l=[]:=List.length_eq_zero_iff.1 (by rw[show partsF k=0 from by rcases hk with rfl|rfl|rfl <;> decide] at hpl;omega)
   obtain rfl:fs=[]:=List.length_eq_zero_iff.1 hfl
   have hlf:=lin_leaf hk n p q s
   have hkey:Value.agg #[.int .i64 k,.int .i64 p,.int .i64 q,.string s]=atmV (k,p,q,s):=rfl
   have hfit:=atmV_fits (k,p,q,s)
   have hkT:keysT [((k,p,q,s),1)]=[atmV (k,p,q,s)]:=rfl
   have hvT:valsT [((k,p,q,s),1)]=[ai 1]:=rfl
   have hres:LinR (.mk k n p q s []) (.tup [.agg [ai 0,.rm [atmV (k,p,q,s)] [ai 1]],ab true]):=.yes 0 [((k,p,q,s),1)] hlf
   generalize LinR (.mk k n p q s [])=RR at *
   clear h1 h2 hlf hkT hvT
   generalize atmV (k,p,q,s)=kv at *
   rcases hk with rfl|rfl|rfl
   all_goals
    repeat(first|((with_reducible refine AWp.ofC ?_ ?_);exact rfl;simp only[go_sem,Int.reduceEq])|((with_reducible refine an ?_ ?_);exact Au))
    refine(MVal.nd (MVal.frame (Lm:=[]) (Lr:=_) classify_zero.val)).mono ?_
    rintro r L ⟨hnd,L1,rfl,bm,rfl,rfl⟩
    have h1:¬bm=b2:=by simp at hnd;exact hnd
    have h2:¬b2=bm:=fun e=>h1 e.symm
    simp only[go_sem]
    intro b9 g1 g2
    have n1:¬b2=b9:=by omega
    have n2:¬b9=b2:=by omega
    have n3:¬bm=b9:=by omega
    have n4:¬b9=bm:=by omega
    refine Sd ?_
    repeat(first|((with_reducible refine AWp.ofC ?_ ?_);exact rfl;simp only[go_sem,h1,h2,n1,n2,n3,n4,hkey,hfit,mput_nil])|((with_reducible refine an ?_ ?_);exact Au))
    refine ret_viewK [false,true,false] _ ⟨rfl,hres⟩ ?_
    simp only[go_sem,h1,h2,n1,n2,n3,n4]
    exact .mkTup (Vws.cons (.mkAgg (Vws.cons (.refl _) (Vws.cons (.lm (if_pos rfl) rfl (Vws.refl _).2) .nil))) (Vws.refl _))
  ·obtain⟨x,rfl⟩:=len_one (l:=l) (by rw[show partsF 5=1 from by decide] at hpl;omega)
   obtain⟨f,rfl⟩:=ln1 hfl
   have hx:=hfs 0 (by simp) (by simp)
   simp only[List.getElem_cons_zero] at hx
   obtain⟨d,g⟩:=f
   obtain⟨g',x1,x2⟩:=hx.can
   have ha:=classify_add 0 d (-1) [] g (by unfold NumB;decide) hx.num (by unfold NumB;decide) ok_nil hx.ok
   have hR:=lin_res (t:=.mk 5 n p q s [x]) (c:=0) (d:=d) (k:=-1) (f:=[]) (g:=g) (.refl ok_nil) x2 (linE_1 x1) (fun a ha=>by
    rcases ha with ha|ha
    ·cases ha
    ·exact lv_mem (by decide) (by simp) (lin_mem hx ha)) (fun o=>by
    rw[valF_mk]
    show -valF o x=0+0 + -1 * (d+sT (obV o) g)
    rw[hx.val o]
    show -(d+sT (obV o) g)=_
    omega)
   simp only[List.map_cons,List.map_nil,lfA]
   unfold mapT at ha
   generalize LinR (.mk 5 n p q s [x])=RR at *
   clear h1 h2 hx hfs x1 x2
   repeat(first|((with_reducible refine AWp.ofC ?_ ?_);exact rfl;simp only[go_sem,Int.reduceEq])|((with_reducible refine an ?_ ?_);exact Au))
   repeat(first|(with_reducible refine AWp.seq ?_)|(with_reducible refine AWp.block ?_))
   refine AWp.mix mixed [0,1,2,3] (.step 4 (.step 5 (.step 6 (.step 7 (.step 8 .done .done) .done) .done) (.step 6 (.step 5 (.step 7 (.step 8 .done .done) .done) .done) .done)) .done) (by kernel_rfl) ?_;simp only[go_sem]
   refine Sd ?_
   refine Gc classify_zeroP ?_
   refine Sd ?_
   refine(MVal.frame (Lm:=[]) (Lr:=_) ha.val).mono ?_
   rintro r L ⟨L1,rfl,rfl,h,ok,rfl,e1,e2,e3,e4⟩
   simp only[go_sem]
   repeat' (first|(with_reducible refine And.intro ?_ ?_)|(with_reducible intro _))
   all_goals
    refine Wk ?_
    refine ret_viewK [] _ ⟨rfl,hR h ok e1 e2 e3 e4⟩ ?_
    simp only[go_sem]
    exact .refl _
  ·obtain⟨x,y,rfl⟩:=len_two (l:=l) (by rw[show partsF 6=2 from by decide] at hpl;omega)
   obtain⟨f,g,rfl⟩:=ln2 hfl
   have hx:=hfs 0 (by simp) (by simp)
   have hy:=hfs 1 (by simp) (by simp)
   simp only[List.getElem_cons_zero,List.getElem_cons_succ] at hx hy
   obtain⟨c,f⟩:=f
   obtain⟨d,g⟩:=g
   obtain⟨f',x1,x2⟩:=hx.can
   obtain⟨g',y1,y2⟩:=hy.can
   have ha:=classify_add c d (1) f g hx.num hy.num (by unfold NumB;decide) hx.ok hy.ok
   have hR:=lin_res (t:=.mk 6 n p q s [x,y]) (c:=c) (d:=d) (k:=1) (f:=f) (g:=g) x2 y2 (linE_2 x1 y1) (fun a ha=>by
    rcases ha with ha|ha
    ·exact lv_mem (by decide) (by simp) (lin_mem hx ha)
    ·exact lv_mem (by decide) (by simp) (lin_mem hy ha)) (fun o=>by
    rw[valF_mk]
    show valF o x+valF o y=_
    rw[hx.val o,hy.val o]
    show c+sT (obV o) f+(d+sT (obV o) g)=_
    omega)
   simp only[List.map_cons,List.map_nil,lfA]
   unfold mapT at ha
   generalize LinR (.mk 6 n p q s [x,y])=RR at *
   clear h1 h2 hx hy hfs x1 x2 y1 y2
   repeat(first|((with_reducible refine AWp.ofC ?_ ?_);exact rfl;simp only[go_sem,Int.reduceEq])|((with_reducible refine an ?_ ?_);exact Au))
   repeat(first|(with_reducible refine AWp.seq ?_)|(with_reducible refine AWp.block ?_))
   refine AWp.mix mixed [0,1,2,3,4,5] (.step 6 (.step 7 (.step 8 (.step 9 (.step 10 .done .done) .done) .done) (.step 8 (.step 7 (.step 9 (.step 10 .done .done) .done) .done) .done)) .done) (by kernel_rfl) ?_;simp only[go_sem]
   refine Sd ?_
   refine(MVal.frame (Lm:=[]) (Lr:=_) ha.val).mono ?_
   rintro r L ⟨L1,rfl,rfl,h,ok,rfl,e1,e2,e3,e4⟩
   simp only[go_sem]
   repeat' (first|(with_reducible refine And.intro ?_ ?_)|(with_reducible intro _))
   all_goals
    refine Wk ?_
    refine ret_viewK [] _ ⟨rfl,hR h ok e1 e2 e3 e4⟩ ?_
    simp only[go_sem]
    exact .refl _
  ·obtain⟨x,y,rfl⟩:=len_two (l:=l) (by rw[show partsF 7=2 from by decide] at hpl;omega)
   obtain⟨f,g,rfl⟩:=ln2 hfl
   have hx:=hfs 0 (by simp) (by simp)
   have hy:=hfs 1 (by simp) (by simp)
   simp only[List.getElem_cons_zero,List.getElem_cons_succ] at hx hy
   obtain⟨c,f⟩:=f
   obtain⟨d,g⟩:=g
   obtain⟨f',x1,x2⟩:=hx.can
   obtain⟨g',y1,y2⟩:=hy.can
   have ha:=classify_add c d (-1) f g hx.num hy.num (by unfold NumB;decide) hx.ok hy.ok
   have hR:=lin_res (t:=.mk 7 n p q s [x,y]) (c:=c) (d:=d) (k:=-1) (f:=f) (g:=g) x2 y2 (linE_2 x1 y1) (fun a ha=>by
    rcases ha with ha|ha
    ·exact lv_mem (by decide) (by simp) (lin_mem hx ha)
    ·exact lv_mem (by decide) (by simp) (lin_mem hy ha)) (fun o=>by
    rw[valF_mk]
    show valF o x - valF o y=_
    rw[hx.val o,hy.val o]
    show c+sT (obV o) f - (d+sT (obV o) g)=_
    omega)
   simp only[List.map_cons,List.map_nil,lfA]
   unfold mapT at ha
   generalize LinR (.mk 7 n p q s [x,y])=RR at *
   clear h1 h2 hx hy hfs x1 x2 y1 y2
   repeat(first|((with_reducible refine AWp.ofC ?_ ?_);exact rfl;simp only[go_sem,Int.reduceEq])|((with_reducible refine an ?_ ?_);exact Au))
   repeat(first|(with_reducible refine AWp.seq ?_)|(with_reducible refine AWp.block ?_))
   refine AWp.mix mixed [0,1,2,3,4,5] (.step 6 (.step 7 (.step 8 (.step 9 (.step 10 .done .done) .done) .done) (.step 8 (.step 7 (.step 9 (.step 10 .done .done) .done) .done) .done)) .done) (by kernel_rfl) ?_;simp only[go_sem]
   refine Sd ?_
   refine(MVal.frame (Lm:=[]) (Lr:=_) ha.val).mono ?_
   rintro r L ⟨L1,rfl,rfl,h,ok,rfl,e1,e2,e3,e4⟩
   simp only[go_sem]
   repeat' (first|(with_reducible refine And.intro ?_ ?_)|(with_reducible intro _))
   all_goals
    refine Wk ?_
    refine ret_viewK [] _ ⟨rfl,hR h ok e1 e2 e3 e4⟩ ?_
    simp only[go_sem]
    exact .refl _
  ·obtain⟨x,y,rfl⟩:=len_two (l:=l) (by rw[show partsF 8=2 from by decide] at hpl;omega)
   obtain⟨f,g,rfl⟩:=ln2 hfl
   have hx:=hfs 0 (by simp) (by simp)
   have hy:=hfs 1 (by simp) (by simp)
   simp only[List.getElem_cons_zero,List.getElem_cons_succ] at hx hy
   obtain⟨c,f⟩:=f
   obtain⟨d,g⟩:=g
   obtain⟨f',x1,x2⟩:=hx.can
   obtain⟨g',y1,y2⟩:=hy.can
   simp only[List.map_cons,List.map_nil,lfA]
   clear h1 h2 hfs
   by_cases hf:f=[]
   ·subst hf
    have ha:=classify_add 0 d c [] g (by unfold NumB;decide) hy.num hx.num ok_nil hy.ok
    have hR:=lin_res (t:=.mk 8 n p q s [x,y]) (c:=0) (d:=d) (k:=c) (f:=[]) (g:=g) (.refl ok_nil) y2 ((linE_2 x1 y1).trans (by rw[linN,if_neg (by decide),if_neg (by decide)];simp only[];rw[if_neg (by decide),if_neg (by decide),if_pos (by rw[x2.nil.1 rfl];rfl)])) (fun a ha=>by
     rcases ha with ha|ha
     ·cases ha
     ·exact lv_mem (by decide) (by simp) (lin_mem hy ha)) (fun o=>by
     rw[valF_mk]
     show valF o x * valF o y=_
     rw[hx.val o,hy.val o]
     show (c+0) * (d+sT (obV o) g)=0+0+c * (d+sT (obV o) g)
     rw[Int.add_zero];omega)
    unfold mapT at ha
    have hz0:¬(0:Int)<((keysT []).length:Int):=by decide
    generalize LinR (.mk 8 n p q s [x,y])=RR at *
    clear hx hy x1 x2 y1 y2
    repeat(first|((with_reducible refine AWp.ofC ?_ ?_);exact rfl;simp only[go_sem,Int.reduceEq])|((with_reducible refine an ?_ ?_);exact Au))
    repeat(first|(with_reducible refine AWp.seq ?_)|(with_reducible refine AWp.block ?_))
    refine AWp.mix mixed [0,1,2,3,4,5] (.step 6 (.step 7 (.step 8 (.step 9 .done .done) .done) .done) (.step 7 (.step 6 (.step 8 (.step 9 .done .done) .done) .done) .done)) (by kernel_rfl) ?_;simp only[go_sem]
    repeat' (first|(with_reducible refine And.intro ?_ ?_)|(with_reducible intro _))
    all_goals first|omega|skip
    all_goals
     rename_i bx f1 bz f2 f3
     have n1:¬bx=bz:=by omega
     have n2:¬bz=bx:=by omega
     have n3:¬b2=bx:=by omega
     have n4:¬bx=b2:=by omega
     have n5:¬b2=bz:=by omega
     have n6:¬bz=b2:=by omega
     simp only[go_sem,n1,n2,n3,n4,n5,n6]
     refine Sd ?_
     try simp only[go_sem,n1,n2,n3,n4,n5,n6]
     refine Sd ?_
     repeat(first|((with_reducible refine AWp.ofC ?_ ?_);exact rfl;simp only[go_sem,n1,n2,n3,n4,n5,n6,hz0])|((with_reducible refine an ?_ ?_);exact Au))
     repeat(first|(with_reducible refine AWp.seq ?_)|(with_reducible refine AWp.block ?_))
     refine AWp.mix mixed [0,2] (.step 1 (.step 3 (.step 4 (.step 5 (.step 6 (.step 7 (.step 8 .done .done) .done) .done) (.step 6 (.step 5 (.step 7 (.step 8 .done .done) .done) .done) .done)) .done) .done) (.step 3 (.step 1 (.step 4 (.step 5 (.step 6 (.step 7 (.step 8 .done .done) .done) .done) (.step 6 (.step 5 (.step 7 (.step 8 .done .done) .done) .done) .done)) .done) .done) .done)) (by kernel_rfl) ?_;simp only[go_sem,n1,n2,n3,n4,n5,n6]
     refine Sd ?_
     refine GCall.use (.agg [ai 0,.rm [] []]) (fun _=>⟨At,(classify_zeroP).val.use ⟨rfl,rfl⟩⟩) ?_;simp only[go_sem,n1,n2,n3,n4,n5,n6]
     refine Sd ?_
     repeat' (with_reducible refine And.intro ?_ ?_)
     all_goals
      refine(MVal.frame (Lm:=[]) (Lr:=_) ha.val).mono ?_
      rintro r L ⟨L1,rfl,rfl,h,ok,rfl,e1,e2,e3,e4⟩
      simp only[go_sem,n1,n2,n3,n4,n5,n6]
      repeat' (first|(with_reducible refine And.intro ?_ ?_)|(with_reducible intro _))
      all_goals
       refine W6 n1 n2 n3 n4 n5 n6 ?_
       refine ret_viewK [] _ ⟨rfl,hR h ok e1 e2 e3 e4⟩ ?_
       simp only[go_sem,n1,n2,n3,n4,n5,n6]
       exact .refl _
   ·have hzf:(0:Int)<((keysT f).length:Int):=by
     rw[keysT_len]
     have:=List.length_pos_iff.2 hf
     omega
    by_cases hg:g=[]
    ·subst hg
     have ha:=classify_add 0 c d [] f (by unfold NumB;decide) hx.num hy.num ok_nil hx.ok
     have hR:=lin_res (t:=.mk 8 n p q s [x,y]) (c:=0) (d:=c) (k:=d) (f:=[]) (g:=f) (.refl ok_nil) x2 ((linE_2 x1 y1).trans (by rw[linN,if_neg (by decide),if_neg (by decide)];simp only[];rw[if_neg (by decide),if_neg (by decide),if_neg (fun e=>hf (x2.nil.2 (List.length_eq_zero_iff.1 e))),if_pos (by rw[y2.nil.1 rfl];rfl)])) (fun a ha=>by
      rcases ha with ha|ha
      ·cases ha
      ·exact lv_mem (by decide) (by simp) (lin_mem hx ha)) (fun o=>by
      rw[valF_mk]
      show valF o x * valF o y=_
      rw[hx.val o,hy.val o]
      show (c+sT (obV o) f) * (d+0)=0+0+d * (c+sT (obV o) f)
      rw[Int.add_zero,Int.mul_comm];omega)
     unfold mapT at ha
     have hz0:¬(0:Int)<((keysT []).length:Int):=by decide
     generalize LinR (.mk 8 n p q s [x,y])=RR at *
     clear hx hy x1 x2 y1 y2
     repeat(first|((with_reducible refine AWp.ofC ?_ ?_);exact rfl;simp only[go_sem,Int.reduceEq])|((with_reducible refine an ?_ ?_);exact Au))
     repeat(first|(with_reducible refine AWp.seq ?_)|(with_reducible refine AWp.block ?_))
     refine AWp.mix mixed [0,1,2,3,4,5] (.step 6 (.step 7 (.step 8 (.step 9 .done .done) .done) .done) (.step 7 (.step 6 (.step 8 (.step 9 .done .done) .done) .done) .done)) (by kernel_rfl) ?_;simp only[go_sem]
     repeat' (first|(with_reducible refine And.intro ?_ ?_)|(with_reducible intro _))
     all_goals first|omega|skip
     all_goals
      rename_i bx f1 bz f2 f3
      have n1:¬bx=bz:=by omega
      have n2:¬bz=bx:=by omega
      have n3:¬b2=bx:=by omega
      have n4:¬bx=b2:=by omega
      have n5:¬b2=bz:=by omega
      have n6:¬bz=b2:=by omega
      simp only[go_sem,n1,n2,n3,n4,n5,n6]
      refine Sd ?_
      try simp only[go_sem,n1,n2,n3,n4,n5,n6]
      refine Sd ?_
      repeat(first|((with_reducible refine AWp.ofC ?_ ?_);exact rfl;simp only[go_sem,n1,n2,n3,n4,n5,n6,hzf,hz0])|((with_reducible refine an ?_ ?_);exact Au))
      repeat(first|(with_reducible refine AWp.seq ?_)|(with_reducible refine AWp.block ?_))
      refine AWp.mix mixed [0,2] (.step 1 (.step 3 (.step 4 (.step 5 (.step 6 (.step 7 (.step 8 .done .done) .done) .done) (.step 6 (.step 5 (.step 7 (.step 8 .done .done) .done) .done) .done)) .done) .done) (.step 3 (.step 1 (.step 4 (.step 5 (.step 6 (.step 7 (.step 8 .done .done) .done) .done) (.step 6 (.step 5 (.step 7 (.step 8 .done .done) .done) .done) .done)) .done) .done) .done)) (by kernel_rfl) ?_;simp only[go_sem,n1,n2,n3,n4,n5,n6]
      refine Sd ?_
      refine GCall.use (.agg [ai 0,.rm [] []]) (fun _=>⟨At,(classify_zeroP).val.use ⟨rfl,rfl⟩⟩) ?_;simp only[go_sem,n1,n2,n3,n4,n5,n6]
      refine Sd ?_
      repeat' (with_reducible refine And.intro ?_ ?_)
      all_goals
       refine(MVal.frame (Lm:=[]) (Lr:=_) ha.val).mono ?_
       rintro r L ⟨L1,rfl,rfl,h,ok,rfl,e1,e2,e3,e4⟩
       simp only[go_sem,n1,n2,n3,n4,n5,n6]
       repeat' (first|(with_reducible refine And.intro ?_ ?_)|(with_reducible intro _))
       all_goals
        refine W6 n1 n2 n3 n4 n5 n6 ?_
        refine ret_viewK [] _ ⟨rfl,hR h ok e1 e2 e3 e4⟩ ?_
        simp only[go_sem,n1,n2,n3,n4,n5,n6]
        exact .refl _
    ·have hzg:(0:Int)<((keysT g).length:Int):=by
      rw[keysT_len]
      have:=List.length_pos_iff.2 hg
      omega
     have hR:LinR (.mk 8 n p q s [x,y]) (.tup [.agg [ai 0,.v (.map none)],ab false]):=.no _ _ (.inl rfl) ((linE_2 x1 y1).trans (by rw[linN,if_neg (by decide),if_neg (by decide)];simp only[];rw[if_neg (by decide),if_neg (by decide),if_neg (fun e=>hf (x2.nil.2 (List.length_eq_zero_iff.1 e))),if_neg (fun e=>hg (y2.nil.2 (List.length_eq_zero_iff.1 e)))]))
     generalize LinR (.mk 8 n p q s [x,y])=RR at *
     clear hx hy x1 x2 y1 y2
     repeat(first|((with_reducible refine AWp.ofC ?_ ?_);exact rfl;simp only[go_sem,Int.reduceEq])|((with_reducible refine an ?_ ?_);exact Au))
     repeat(first|(with_reducible refine AWp.seq ?_)|(with_reducible refine AWp.block ?_))
     refine AWp.mix mixed [0,1,2,3,4,5] (.step 6 (.step 7 (.step 8 (.step 9 .done .done) .done) .done) (.step 7 (.step 6 (.step 8 (.step 9 .done .done) .done) .done) .done)) (by kernel_rfl) ?_;simp only[go_sem]
     repeat' (first|(with_reducible refine And.intro ?_ ?_)|(with_reducible intro _))
     all_goals first|omega|skip
     all_goals
      rename_i bx f1 bz f2 f3
      have n1:¬bx=bz:=by omega
      have n2:¬bz=bx:=by omega
      have n3:¬b2=bx:=by omega
      have n4:¬bx=b2:=by omega
      have n5:¬b2=bz:=by omega
      have n6:¬bz=b2:=by omega
      simp only[go_sem,n1,n2,n3,n4,n5,n6]
      refine Sd ?_
      try simp only[go_sem,n1,n2,n3,n4,n5,n6]
      refine Sd ?_
      repeat(first|((with_reducible refine AWp.ofC ?_ ?_);exact rfl;simp only[go_sem,n1,n2,n3,n4,n5,n6,hzf,hzg])|((with_reducible refine an ?_ ?_);exact Au))
      refine ret_viewK [] _ ⟨rfl,hR⟩ ?_
      simp only[go_sem,n1,n2,n3,n4,n5,n6]
      exact .refl _
def dfP (x y:Pd):Pd:=.mk 7 0 0 0 ByteArray.empty [x,y]
set_option maxHeartbeats 2000000 in
theorem classify_compared (k:Int) (hk:9≤k∧k≤12) (n p q:Int) (s:ByteArray) (x y:Pd) (hzx:szF x≤1000000) (hzy:szF y≤1000000) (hx:IntOk x) (hy:IntOk y) :
  MCalls Proofs.Tryz.prog 208 [aPd (.mk k n p q s [x,y])] [] fun r L=>L=[]∧LinR (dfP x y) r:=by
 have h1:=classify_comparison (.mk k n p q s [x,y])
 rw[decide_eq_true (show 9≤(Pd.mk k n p q s [x,y]).kind∧(Pd.mk k n p q s [x,y]).kind≤12 from hk)] at h1
 have c1:=classify_linear x hzx hx
 have c2:=classify_linear y hzy hy
 have hno:(linE x=none∨linE y=none)→∀c m,(m = .v (.map none)∨∃ks vs,m = .rm ks vs)→LinR (dfP x y) (.tup [.agg [ai c,m],ab false]):=fun hn c m h => .no c m h (by
  rcases hn with hn|hn
  ·exact lin_none (l:=[x,y]) (i:=0) (by simp) hn
  ·exact lin_none (l:=[x,y]) (i:=1) (by simp) hn)
 have hyes:∀c f d g,LinS x c f→LinS y d g→MCalls Proofs.Tryz.prog 273 [.agg [ai c,.rm (keysT f) (valsT f)],.agg [ai d,.rm (keysT g) (valsT g)],ai (-1)] [] fun r L=>L=[]∧LinR (dfP x y) r:=fun c f d g hx hy=>by
  obtain⟨f',x1,x2⟩:=hx.can
  obtain⟨g',y1,y2⟩:=hy.can
  have ha:=classify_add c d (-1) f g hx.num hy.num (by unfold NumB;decide) hx.ok hy.ok
  have hR:=lin_res (t:=dfP x y) (c:=c) (d:=d) (k:=-1) (f:=f) (g:=g) x2 y2 (linE_2 x1 y1) (fun a ha=>by
   rcases ha with ha|ha
   ·exact lv_mem (by decide) (by simp) (lin_mem hx ha)
   ·exact lv_mem (by decide) (by simp) (lin_mem hy ha)) (fun o=>by
   unfold dfP
   rw[valF_mk]
   show valF o x - valF o y=_
   rw[hx.val o,hy.val o]
   omega)
  unfold mapT at ha
  refine ha.mono ?_
  rintro r L ⟨rfl,h,ok,rfl,e1,e2,e3,e4⟩
  exact⟨rfl,hR h ok e1 e2 e3 e4⟩
 have hsh:∀r,LinR (dfP x y) r→∃(a:Int) (e:AV) (b:Bool),r = .tup [.agg [ai a,e],ab b]:=fun r h=>by
  rcases h with ⟨c,h,_⟩|⟨c,m,_,_⟩ <;> exact⟨_,_,_,rfl⟩
 have hfe:∀a e b,LinR (dfP x y) (.tup [.agg [ai a,e],ab b])→e = .v (.map none)∨∃ks vs,e = .rm ks vs:=fun a e b h=>by
  generalize hr:AV.tup [.agg [ai a,e],ab b]=r at h
  rcases h with ⟨c,h,_⟩|⟨c,m,h,_⟩
  ·simp at hr;exact .inr ⟨_,_,hr.1.2⟩
  ·simp at hr;rw[hr.1.2];exact h
 generalize LinR (dfP x y)=RR at *
 obtain⟨k1,o1,p1,q1,s1,X1,hX⟩:=aPd_shape x
 obtain⟨k2,o2,p2,q2,s2,X2,hY⟩:=aPd_shape y
 simp only[aPd_mk,List.map_cons,List.map_nil,hX,hY] at *
 refine MCalls.enter' 40 [.cell 2 249,.tmp 3] [1,4,6] Proofs.Tryz.func208 rfl rfl rfl rfl rfl (by simp) (AWp.of ?_);simp only[go_sem]
 intro b2
 refine Wk ?_
 refine Sd ?_
 refine(h1).val.use ?_;simp only[go_sem]
 refine Wk ?_
 refine(MVal.frame (Lm:=[]) (Lr:=_) c1.val).mono ?_
 rintro r L ⟨L1,rfl,rfl,hR⟩
 rcases hR with ⟨c,f,hs1⟩|⟨c,m,rfl|⟨ks1,vs1,rfl⟩,hE1⟩
 all_goals
  simp only[go_sem]
  refine Wk ?_
  intro b4 g4
  have n1:¬b2=b4:=by omega
  have n2:¬b4=b2:=by omega
  try simp only[go_sem,n1,n2]
  refine Sd ?_
  refine W2 n1 n2 ?_
  refine(MVal.frame (Lm:=[]) (Lr:=_) c2.val).mono ?_
  rintro r L ⟨L1,rfl,rfl,hR⟩
  rcases hR with ⟨d,g,hs2⟩|⟨d,m2,rfl|⟨ks2,vs2,rfl⟩,hE2⟩
  all_goals
   simp only[go_sem]
   refine W2 n1 n2 ?_
   intro b6 g6
   have n3:¬b2=b6:=by omega
   have n4:¬b6=b2:=by omega
   try simp only[go_sem,n1,n2,n3,n4]
   refine Sd ?_
   refine W4 n1 n2 n3 n4 ?_
   try (refine ret_viewK [] _ ⟨rfl,hno (by first|exact .inl hE1|exact .inr hE2) 0 (.v (.map none)) (.inl rfl)⟩ ?_;simp only[go_sem,n1,n2,n3,n4];exact .refl _)
 refine(MVal.frame (Lm:=[]) (Lr:=_) (hyes _ _ _ _ hs1 hs2).val).mono ?_
 rintro r L ⟨L1,rfl,rfl,hR⟩
 obtain⟨a,e,b,rfl⟩:∃(a:Int) (e:AV) (b:Bool),r = .tup [.agg [ai a,e],ab b]:=hsh r hR
 rcases hfe a e b hR with rfl|⟨ks,vs,rfl⟩
 all_goals
  simp only[go_sem]
  refine Wk ?_
  refine ret_viewK [] _ ⟨rfl,hR⟩ ?_
  simp only[go_sem]
  exact .refl _
end Go.AL
end
