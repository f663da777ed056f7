/- Texts of this claim's proof: WI15, WI18, WI19, WI20. No condition. -/
import Derived.Test.YteiafajligfbnaaGreatDoorM18
import Derived.Test.YteiafajligfbnaaGreatDoorM13
section
namespace Go.AL
open Go Go.RowKit
set_option maxRecDepth 4000
abbrev Tms:=List (Atm × Int)
def keysT (h:Tms):List Value:=h.map fun x=>atmV x.1
def valsT (h:Tms):List AV:=h.map fun x=>ai x.2
def mapT (h:Tms):AV:=.rm (keysT h) (valsT h)
theorem keysT_cons (x:Atm × Int) (h:Tms):keysT (x :: h)=atmV x.1 :: keysT h:=rfl
theorem keysT_len (h:Tms):(keysT h).length=h.length:=List.length_map _
theorem keysT_fits (h:Tms):(keysT h).all (KK.st [.int,.int,.int,.str]).fits=true:=by
 rw[List.all_eq_true]
 intro v hv
 obtain⟨x,_,rfl⟩:=List.mem_map.1 hv
 exact atmV_fits x.1
theorem keyB_atm (a b:Atm):keyB (atmV a) (atmV b)=decide (a=b):=by
 show (decide (a.1=b.1) && (decide (a.2.1=b.2.1) && (decide (a.2.2.1=b.2.2.1) && (seqB a.2.2.2 b.2.2.2 && true))))=decide (a=b)
 rw[seqB_dec',Bool.eq_iff_iff]
 obtain⟨a1,a2,a3,a4⟩:=a
 obtain⟨b1,b2,b3,b4⟩:=b
 simp
def fdT (a:Atm):Tms→Option Nat
 | []=>none
 | x :: h=>if a=x.1 then some 0 else match fdT a h with
  | some i=>some (i+1)
  | none=>none
def cfT (a:Atm):Tms→Int
 | []=>0
 | x :: h=>if a=x.1 then x.2 else cfT a h
def putT (a:Atm) (m:Int):Tms→Tms
 | []=>[(a,m)]
 | x :: h=>if a=x.1 then (x.1,m) :: h else x :: putT a m h
def delT (a:Atm):Tms→Tms
 | []=>[]
 | x :: h=>if a=x.1 then h else x :: delT a h
theorem mfind_T (a:Atm):∀h,mfind (atmV a) (keysT h)=fdT a h
 | []=>rfl
 | x :: h=>by
  rw[keysT_cons,mfind,fdT,keyB_atm,mfind_T a h]
  by_cases e:a=x.1
  ·rw[decide_eq_true e,if_pos rfl,if_pos e]
  ·rw[decide_eq_false e,if_neg (by decide),if_neg e]
   cases fdT a h <;> rfl
theorem fdT_get (a:Atm):∀h,(match fdT a h with|some i=>(valsT h).getD i .any|none=>ai 0)=ai (cfT a h)
 | []=>rfl
 | x :: h=>by
  rw[fdT,cfT]
  by_cases e:a=x.1
  ·rw[if_pos e,if_pos e];rfl
  ·rw[if_neg e,if_neg e,← fdT_get a h]
   cases fdT a h <;> rfl
theorem mget_T (a:Atm) (h:Tms):mget (atmV a) (keysT h) (valsT h) (ai 0)=ai (cfT a h):=by
 unfold mget
 rw[mfind_T]
 exact fdT_get a h
theorem fdT_put (a:Atm) (m:Int):∀h,(match fdT a h with|some i=>ABlk.amap (keysT h) ((valsT h).set i (ai m))|none => .amap (keysT h ++ [atmV a]) (valsT h ++ [ai m])) = .amap (keysT (putT a m h)) (valsT (putT a m h))
 | []=>rfl
 | x :: h=>by
  have ih:=fdT_put a m h
  rw[fdT,putT]
  by_cases e:a=x.1
  ·rw[if_pos e,if_pos e];rfl
  ·rw[if_neg e,if_neg e]
   cases hf:fdT a h with
   | none =>
    rw[hf] at ih
    have ih:ABlk.amap (keysT h ++ [atmV a]) (valsT h ++ [ai m])=_:=ih
    injection ih with i1 i2
    show ABlk.amap (atmV x.1 :: (keysT h ++ [atmV a])) (ai x.2 :: (valsT h ++ [ai m]))=_
    rw[i1,i2];rfl
   | some i =>
    rw[hf] at ih
    have ih:ABlk.amap (keysT h) ((valsT h).set i (ai m))=_:=ih
    injection ih with i1 i2
    show ABlk.amap (atmV x.1 :: keysT h) (ai x.2 :: (valsT h).set i (ai m))=_
    rw[i1,i2];rfl
theorem mput_T (a:Atm) (m:Int) (h:Tms):mput (atmV a) (ai m) (keysT h) (valsT h) = .amap (keysT (putT a m h)) (valsT (putT a m h)):=by
 unfold mput
 rw[mfind_T]
 exact fdT_put a m h
theorem fdT_del (a:Atm):∀h,(match fdT a h with|some i=>ABlk.amap ((keysT h).eraseIdx i) ((valsT h).eraseIdx i)|none => .amap (keysT h) (valsT h)) = .amap (keysT (delT a h)) (valsT (delT a h))
 | []=>rfl
 | x :: h=>by
  have ih:=fdT_del a h
  rw[fdT,delT]
  by_cases e:a=x.1
  ·rw[if_pos e,if_pos e];rfl
  ·rw[if_neg e,if_neg e]
   cases hf:fdT a h with
   | none =>
    rw[hf] at ih
    have ih:ABlk.amap (keysT h) (valsT h)=_:=ih
    injection ih with i1 i2
    show ABlk.amap (atmV x.1 :: keysT h) (ai x.2 :: valsT h)=_
    rw[i1,i2];rfl
   | some i =>
    rw[hf] at ih
    have ih:ABlk.amap ((keysT h).eraseIdx i) ((valsT h).eraseIdx i)=_:=ih
    injection ih with i1 i2
    show ABlk.amap (atmV x.1 :: (keysT h).eraseIdx i) (ai x.2 :: (valsT h).eraseIdx i)=_
    rw[i1,i2];rfl
theorem mdel_T (a:Atm) (h:Tms):mdel (atmV a) (keysT h) (valsT h) = .amap (keysT (delT a h)) (valsT (delT a h)):=by
 unfold mdel
 rw[mfind_T]
 exact fdT_del a h
theorem del_put (a:Atm) (m:Int):∀h,delT a (putT a m h)=delT a h
 | []=>by rw[putT];show (if a=a then [] else _)=_;rw[if_pos rfl];rfl
 | x :: h=>by
  rw[putT,delT]
  by_cases e:a=x.1
  ·rw[if_pos e,if_pos e,delT,if_pos e]
  ·rw[if_neg e,if_neg e,delT,if_neg e,del_put a m h]
def stT (a:Atm) (m:Int) (h:Tms):Tms:=if m=0 then delT a h else putT a m h
def sT (v:Atm→Int):Tms→Int
 | []=>0
 | x :: h=>x.2 * v x.1+sT v h
theorem sT_put (v:Atm→Int) (a:Atm) (m:Int):∀h,sT v (putT a m h)=sT v h+(m - cfT a h) * v a
 | []=>by
  show m * v a+0=0+(m - 0) * v a
  simp
 | x :: h=>by
  rw[putT,cfT]
  by_cases e:a=x.1
  ·rw[if_pos e,if_pos e,sT,sT,e,Int.sub_mul]
   show m * v x.1+sT v h=x.2 * v x.1+sT v h+(m * v x.1 - x.2 * v x.1)
   omega
  ·rw[if_neg e,if_neg e,sT,sT,sT_put v a m h]
   omega
theorem sT_del (v:Atm→Int) (a:Atm):∀h,sT v (delT a h)=sT v h - cfT a h * v a
 | []=>by rw[delT,sT,cfT];simp
 | x :: h=>by
  rw[delT,cfT]
  by_cases e:a=x.1
  ·rw[if_pos e,if_pos e,sT,e]
   omega
  ·rw[if_neg e,if_neg e,sT,sT,sT_del v a h]
   omega
theorem sT_st (v:Atm→Int) (a:Atm) (m:Int) (h:Tms):sT v (stT a m h)=sT v h+(m - cfT a h) * v a:=by
 unfold stT
 split
 ·rename_i e
  rw[sT_del,e,Int.sub_mul]
  omega
 ·exact sT_put v a m h
structure OkT (h:Tms):Prop where
 nd:(h.map Prod.fst).Nodup
 co:∀x ∈ h,x.2 ≠ 0∧NumB x.2
theorem cfT_num {a:Atm} : ∀ {h:Tms},(∀x ∈ h,x.2 ≠ 0∧NumB x.2)→NumB (cfT a h)
 | [],_=>by unfold cfT NumB;decide
 | x :: h,hc=>by
  rw[cfT]
  split
  ·exact(hc x (by simp)).2
  ·exact cfT_num fun y hy=>hc y (List.mem_cons_of_mem _ hy)
theorem putT_mem {a:Atm} {m:Int} : ∀ {h:Tms} {x:Atm × Int},x ∈ putT a m h→x=(a,m)∨x ∈ h
 | [],x,hx=>by rw[putT] at hx;exact .inl (List.mem_singleton.1 hx)
 | y :: h,x,hx=>by
  rw[putT] at hx
  split at hx
  ·rename_i e
   rcases List.mem_cons.1 hx with rfl|hx
   ·rw[← e];exact .inl rfl
   ·exact .inr (List.mem_cons_of_mem _ hx)
  ·rcases List.mem_cons.1 hx with rfl|hx
   ·exact .inr (by simp)
   ·rcases putT_mem hx with h1|h1
    ·exact .inl h1
    ·exact .inr (List.mem_cons_of_mem _ h1)
theorem putT_nd {a:Atm} {m:Int} : ∀ {h:Tms},(h.map Prod.fst).Nodup→((putT a m h).map Prod.fst).Nodup
 | [],_=>by rw[putT];simp
 | y :: h,hn=>by
  rw[putT]
  rw[List.map_cons,List.nodup_cons] at hn
  split
  ·rw[List.map_cons,List.nodup_cons];exact hn
  ·rename_i e
   rw[List.map_cons,List.nodup_cons]
   refine⟨fun hm => ?_,putT_nd hn.2⟩
   obtain⟨x,hx,hxe⟩:=List.mem_map.1 hm
   rcases putT_mem hx with rfl|hx
   ·exact e hxe
   ·exact hn.1 (List.mem_map.2 ⟨x,hx,hxe⟩)
theorem delT_sub (a:Atm):∀h:Tms,List.Sublist (delT a h) h
 | []=>List.Sublist.refl _
 | x :: h=>by
  rw[delT]
  split
  ·exact List.sublist_cons_self _ _
  ·exact(delT_sub a h).cons_cons _
theorem st_ok {a:Atm} {m:Int} {h:Tms} (hk:OkT h) (hm:NumB m):OkT (stT a m h)∧∀x ∈ stT a m h,x.1=a∨x ∈ h:=by
 unfold stT
 split
 ·exact⟨⟨hk.nd.sublist ((delT_sub a h).map _),fun x hx=>hk.co x ((delT_sub a h).mem hx)⟩,fun x hx => .inr ((delT_sub a h).mem hx)⟩
 ·rename_i h0
  refine⟨⟨putT_nd hk.nd,fun x hx => ?_⟩,fun x hx => ?_⟩
  ·rcases putT_mem hx with rfl|hx
   ·exact⟨h0,hm⟩
   ·exact hk.co x hx
  ·rcases putT_mem hx with rfl|hx
   ·exact .inl rfl
   ·exact .inr hx
def a0:Atm × Int:=((0,0,0,ByteArray.empty),0)
def sumI:List Int→Int
 | []=>0
 | x :: l=>x+sumI l
theorem sumI_app:∀a b,sumI (a ++ b)=sumI a+sumI b
 | [],b=>by rw[List.nil_append,sumI];omega
 | x :: a,b=>by rw[List.cons_append,sumI,sumI,sumI_app a b];omega
theorem sumI_perm {a b:List Int} (h:a.Perm b):sumI a=sumI b:=by
 induction h with
 | nil=>rfl
 | cons x _ ih=>rw[sumI,sumI,ih]
 | swap x y l=>rw[sumI,sumI,sumI,sumI];omega
 | trans _ _ h1 h2=>exact h1.trans h2
def visT (v:Atm→Int) (g:Tms) (vis:List Nat):Int:=sumI (vis.map fun i=>(g.getD i a0).2 * v (g.getD i a0).1)
theorem visT_snoc (v:Atm→Int) (g:Tms) (vis:List Nat) (i:Nat):visT v g (vis ++ [i])=visT v g vis+(g.getD i a0).2 * v (g.getD i a0).1:=by
 unfold visT
 rw[List.map_append,sumI_app]
 show _+((g.getD i a0).2 * v (g.getD i a0).1+0)=_
 omega
theorem visT_range (v:Atm→Int):∀g:Tms,visT v g (List.range g.length)=sT v g
 | []=>rfl
 | x :: g=>by
  have ih:=visT_range v g
  unfold visT at *
  rw[List.length_cons,List.range_succ_eq_map,List.map_cons,List.map_map,sumI,sT,← ih]
  rfl
theorem visT_all {v:Atm→Int} {g:Tms} {vis:List Nat} (hn:vis.Nodup) (hl:∀i ∈ vis,i<g.length) (ha:∀i,i<g.length→i ∈ vis):visT v g vis=sT v g:=by
 rw[← visT_range]
 have hp:vis.Perm (List.range g.length):=(List.perm_ext_iff_of_nodup hn List.nodup_range).2 fun i=>⟨fun h=>List.mem_range.2 (hl i h),fun h=>ha i (List.mem_range.1 h)⟩
 exact sumI_perm (hp.map _)
theorem keysT_getD {g:Tms} {i:Nat} (hi:i<g.length):(keysT g).getD i undef=atmV g[i].1:=by
 unfold keysT
 rw[List.getD_eq_getElem?_getD,List.getElem?_map,List.getElem?_eq_getElem hi];rfl
theorem valsT_getD {g:Tms} {i:Nat} (hi:i<g.length):(valsT g).getD i .any=ai g[i].2:=getD_map (f:=fun x:Atm × Int=>ai x.2) hi
theorem getD_a0 {g:Tms} {i:Nat} (hi:i<g.length):g.getD i a0=g[i]:=by rw[List.getD_eq_getElem?_getD,List.getElem?_eq_getElem hi];rfl
theorem sumF_num (k x y:Int):NumB (sumF k x y).1:=by
 unfold sumF
 split
 ·unfold NumB;decide
 ·show NumB (if _ then _ else _)
  split
  ·assumption
  ·unfold NumB;decide
theorem sumF_ok {k x y:Int} (h:(sumF k x y).2=true):(sumF k x y).1=x+k * y:=by
 unfold sumF at *
 split at h
 ·cases h
 ·rename_i h1
  have h2:(mulF k y).2=0:=by simpa using h1
  have h3:(mulF k y).1=k * y:=by
   unfold mulF at *
   split at h2
   ·rename_i h4
    rw[if_pos h4]
    rcases h4 with rfl|rfl <;> simp
   ·rename_i h4
    rw[if_neg h4]
    split at h2
    ·exact absurd h2 (by decide)
    ·rename_i h5
     rw[if_neg h5]
  have h4:NumB (x+(mulF k y).1):=of_decide_eq_true h
  rw[if_neg h1]
  show (if _ then _ else _)=_
  rw[if_pos h4,h3]
def AddI (k c d:Int) (f g:Tms) (vis:List Nat) (h:Tms) (ok:Bool):Prop :=
 OkT h∧(∀x ∈ h,x.1 ∈ f.map Prod.fst∨x.1 ∈ g.map Prod.fst)∧(ok=true→(sumF k c d).2=true∧∀v,sT v h=sT v f+k * visT v g vis)
theorem addI_step {k c d:Int} {f g:Tms} {vis:List Nat} {h:Tms} {ok:Bool} (hI:AddI k c d f g vis h ok) {i:Nat} (hi:i<g.length) :
  AddI k c d f g (vis ++ [i]) (stT g[i].1 (sumF k (cfT g[i].1 h) g[i].2).1 h) (ok && (sumF k (cfT g[i].1 h) g[i].2).2):=by
 obtain⟨h1,h2,h3⟩:=hI
 obtain⟨g1,g2⟩:=st_ok (a:=g[i].1) (m:=(sumF k (cfT g[i].1 h) g[i].2).1) h1 (sumF_num _ _ _)
 refine⟨g1,fun x hx => ?_,fun he => ?_⟩
 ·rcases g2 x hx with e|hx
  ·rw[e];exact .inr (List.mem_map.2 ⟨_,List.getElem_mem hi,rfl⟩)
  ·exact h2 x hx
 ·rw[Bool.and_eq_true] at he
  obtain⟨h4,h5⟩:=h3 he.1
  refine⟨h4,fun v => ?_⟩
  have e1:=sumF_ok he.2
  rw[sT_st,h5 v,visT_snoc,getD_a0 hi,e1,Int.mul_add]
  generalize g[i].2=n at *
  generalize cfT g[i].1 h=m at *
  generalize v g[i].1=w at *
  have e2:m+k * n - m=k * n:=by omega
  rw[e2,Int.mul_assoc]
  omega
set_option maxHeartbeats 1000000 in
theorem classify_add (c d k:Int) (f g:Tms) (hc:NumB c) (hd:NumB d) (hk:NumB k) (hf:OkT f) (hg:OkT g) :
  MCalls Proofs.Tryz.prog 93 [.agg [ai c,mapT f],.agg [ai d,mapT g],ai k] [] fun r L=>L=[]∧∃h ok,r = .tup [.agg [ai (sumF k c d).1,mapT h],ab ok]∧OkT h∧(∀x ∈ h,x.1 ∈ f.map Prod.fst∨x.1 ∈ g.map Prod.fst)∧(ok=true→(sumF k c d).2=true∧∀v,sT v h=sT v f+k * sT v g):=by
 have hcl:=maps_Clone (keysT f) (valsT f)
 have h0:=classify_add1 k c d hk hc hd
 have hN:=fun (x y:Int) hx hy=>classify_add1 k x y hk hx hy
 have hI0:AddI k c d f g [] f (sumF k c d).2:=⟨hf,fun x hx => .inl (List.mem_map.2 ⟨x,hx,rfl⟩),fun h=>⟨h,fun v=>by show _=_+k * 0;simp⟩⟩
 have hfits:=keysT_fits
 unfold mapT
 refine MCalls.enter' 63 [.cell 6 97,.tmp 7] [3,4,5,11] Proofs.Tryz.func93 rfl rfl rfl rfl rfl (by simp) (AWp.of ?_);simp only[go_sem]
 intro b6
 refine Wk ?_
 refine(MVal.nd (MVal.frame (Lm:=[]) (Lr:=_) hcl.val)).mono ?_
 rintro r L ⟨hnd,L1,rfl,bm,rfl,rfl⟩
 simp only[go_sem]
 intro b8 g1 g2
 have hm6:¬bm=b6:=by simp at hnd;exact hnd
 have n1:¬b6=bm:=fun e=>hm6 e.symm
 have n2:¬b8=bm:=by omega
 have n3:¬bm=b8:=by omega
 have n4:¬b8=b6:=by omega
 have n5:¬b6=b8:=by omega
 have h0:=PC.clo (args:=[_,_]) (caps:=[_]) h0
 refine Sd ?_
 refine W6 hm6 n1 n2 n3 n4 n5 ?_
 refine Sd ?_
 refine(h0).use ?_;simp only[go_sem,hm6,n1,n2,n3,n4,n5]
 refine W6 hm6 n1 n2 n3 n4 n5 ?_
 refine AOp.rangeMap (ks:=keysT g) (vs:=valsT g) (kt:=101) (et:=3) rfl (tinfo_atoms) (fun i hi=>by cases hi;decide) rfl ?_
 intro bi g3
 simp only[go_sem] at g3 ⊢
 have m1:¬bi=b8:=by omega
 have m2:¬b8=bi:=by omega
 have m3:¬bi=bm:=by omega
 have m4:¬bm=bi:=by omega
 have m5:¬bi=b6:=by omega
 have m6:¬b6=bi:=by omega
 refine W6 hm6 n1 n2 n3 n4 n5 ?_
 refine AWp.block (AWp.loopN [10] [6,8,9,32] (fun m vs L=>∃vis h ok,m=g.length - vis.length∧vis.Nodup∧(∀i ∈ vis,i<g.length)∧vs=[ab ok]∧L=[(bi,.iter (keysT g) (valsT g) vis),(b8,.row 97 2 [.agg [ai (sumF k c d).1,.lm bm]] 1),(bm,.amap (keysT h) (valsT h)),(b6,.row 97 2 [.agg [ai 0,.v (.map none)]] 1)]∧AddI k c d f g vis h ok) g.length ⟨[],f,_,rfl,.nil,by simp,rfl,rfl,hI0⟩ ?_)
 rintro m vs L - ⟨vis,h,ok,rfl,hvn,hvl,rfl,rfl,hI⟩
 simp only[go_sem]
 refine Sd ?_
 refine AWp.of ?_;simp only[go_sem,m1,m2,m3,m4,m5,m6]
 refine AOp.nextMap (ks:=keysT g) (vs:=valsT g) (vis:=vis) (b:=bi) rfl ?_ rfl (if_pos rfl) (fun hall => ?_) ?_
 ·intro i hi;cases hi;decide
 ·rw[keysT_len] at hall
  have hva:=fun v=>visT_all (v:=v) hvn hvl hall
  simp only[go_sem]
  repeat(first|((with_reducible refine AWp.ofC ?_ ?_);exact rfl;simp only[go_sem,m1,m2,m3,m4,m5,m6,hm6,n1,n2,n3,n4,n5])|((with_reducible refine an ?_ ?_);exact Au))
  refine ret_viewK [false,false,true,false] (.tup [.agg [ai (sumF k c d).1,.rm (keysT h) (valsT h)],ab ok]) ⟨rfl,h,ok,rfl,hI.1,hI.2.1,fun e=>⟨(hI.2.2 e).1,fun v=>by rw[(hI.2.2 e).2 v,hva]⟩⟩ ?_
  simp only[go_sem,m1,m2,m3,m4,m5,m6,hm6,n1,n2,n3,n4,n5]
  exact .mkTup (Vws.cons (.mkAgg (Vws.cons (.refl _) (Vws.cons (.lm (if_pos rfl) rfl (Vws.refl _).2) .nil))) (Vws.refl _))
 ·intro i hi hn
  rw[keysT_len] at hi
  have hI':=addI_step hI hi
  have hN:=PC.clo (args:=[_,_]) (caps:=[_]) (hN (cfT g[i].1 h) g[i].2 (cfT_num hI.1.co) (hg.co _ (List.getElem_mem hi)).2)
  have hlen:(vis ++ [i]).length≤g.length:=by
   have hnd':(vis ++ [i]).Nodup:=List.nodup_append.2 ⟨hvn,by simp,fun a ha b hb=>by rw[List.mem_singleton.1 hb];rintro rfl;exact hn ha⟩
   have:=List.Nodup.length_le_of_subset hnd' (l₂:=List.range g.length) (fun j hj=>by
    rcases List.mem_append.1 hj with hj|hj
    ·exact List.mem_range.2 (hvl j hj)
    ·rw[List.mem_singleton.1 hj];exact List.mem_range.2 hi)
   rwa [List.length_range] at this
  rw[List.length_append,List.length_singleton] at hlen
  simp only[go_sem]
  refine W6 m1 m2 m3 m4 m5 m6 ?_
  refine AOp.entryMap (ks:=keysT g) (vs:=valsT g) (vis:=vis) (i:=i) (b:=bi) rfl ?_ rfl (if_pos rfl) ?_
  ·intro i hi;cases hi;decide
  simp only[go_sem,keysT_getD hi,valsT_getD hi,zav_atmV]
  intro b11 g4 g5 g6 g7
  have q1:¬bi=b11:=by omega
  have q2:¬b11=bi:=by omega
  have q3:¬b8=b11:=by omega
  have q4:¬b11=b8:=by omega
  have q5:¬bm=b11:=by omega
  have q6:¬b11=bm:=by omega
  have q7:¬b6=b11:=by omega
  have q8:¬b11=b6:=by omega
  generalize sumF k (cfT g[i].1 h) g[i].2=S at *
  generalize hxe:g[i].1=x at *
  have hgt:=mget_T x h
  have hpt:=fun m=>mput_T x m h
  have hfh:=hfits h
  refine Sd ?_
  repeat(first|((with_reducible refine AWp.ofC ?_ ?_);exact rfl;simp only[go_sem,atm_key,atmV_fits,hfh,hgt,m1,m2,m3,m4,m5,m6,hm6,n1,n2,n3,n4,n5,q1,q2,q3,q4,q5,q6,q7,q8])|((with_reducible refine an ?_ ?_);exact Au))
  refine Sd ?_
  refine(hN).use ?_;simp only[go_sem,atm_key,atmV_fits,hfh,hgt,m1,m2,m3,m4,m5,m6,hm6,n1,n2,n3,n4,n5,q1,q2,q3,q4,q5,q6,q7,q8]
  repeat(first|((with_reducible refine AWp.ofC ?_ ?_);exact rfl;simp only[go_sem,atm_key,atmV_fits,hfh,hpt,m1,m2,m3,m4,m5,m6,hm6,n1,n2,n3,n4,n5,q1,q2,q3,q4,q5,q6,q7,q8])|((with_reducible refine an ?_ ?_);exact Au))
  have hvn':(vis ++ [i]).Nodup:=List.nodup_append.2 ⟨hvn,by simp,fun a ha b hb=>by rw[List.mem_singleton.1 hb];rintro rfl;exact hn ha⟩
  have hvl':∀j ∈ vis ++ [i],j<g.length:=fun j hj=>by
   rcases List.mem_append.1 hj with hj|hj
   ·exact hvl j hj
   ·rw[List.mem_singleton.1 hj];exact hi
  have hll:g.length - (vis ++ [i]).length<g.length - vis.length:=by rw[List.length_append,List.length_singleton];omega
  refine⟨fun h0 => ?_,fun h0 => ?_⟩
  ·have hst:stT x S.1 h=delT x h:=by unfold stT;rw[if_pos h0]
   rw[hst] at hI'
   refine AOp.deleteMap (kt:=101) (et:=3) (κ:=KK.st [.int,.int,.int,.str]) (kv:=atmV x) (b:=bm) (ks:=keysT (putT x S.1 h)) (vs:=valsT (putT x S.1 h)) rfl rfl rfl rfl (fun i hi=>by cases hi) tinfo_atoms (by simp only[go_sem]) rfl (by simp only[go_sem,m1,m2,m3,m4,m5,m6,hm6,n1,n2,n3,n4,n5,q1,q2,q3,q4,q5,q6,q7,q8]) (by simp only[go_sem]) (by simp only[go_sem];rfl) (atmV_fits x) (hfits _) ?_
   rw[mdel_T,del_put]
   simp only[go_sem,m1,m2,m3,m4,m5,m6,hm6,n1,n2,n3,n4,n5,q1,q2,q3,q4,q5,q6,q7,q8]
   repeat(first|((with_reducible refine AWp.ofC ?_ ?_);exact rfl;simp only[go_sem,m1,m2,m3,m4,m5,m6,hm6,n1,n2,n3,n4,n5,q1,q2,q3,q4,q5,q6,q7,q8])|((with_reducible refine an ?_ ?_);exact Au))
   exact⟨_,List.Sublist.refl _,_,hll,vis ++ [i],_,_,rfl,hvn',hvl',rfl,rfl,hI'⟩
  ·have hst:stT x S.1 h=putT x S.1 h:=by unfold stT;rw[if_neg h0]
   rw[hst] at hI'
   exact⟨_,List.Sublist.refl _,_,hll,vis ++ [i],_,_,rfl,hvn',hvl',rfl,rfl,hI'⟩
theorem AWp.viewA' {C:Cfg} {Q:AQ} {ρ:Env} {L:AHeap} {c:Code} {t:TypeId} {k j:Nat} {ys:List AV} {v:AV} {L1:AHeap} (hA:AppSt t k ys v L1) (hj:get ρ j=v) (h:AWp C c Q ((j,.sl k ys) :: ρ) L):AWp C c Q ρ (L1 ++ L):=by
 refine AWp.viewP (Lf:=L1) (Lk:=L) (L':=L) (List.Perm.refl _) (LVw.refl _) [(j,.sl k ys)] (fun p hp => ?_) h
 obtain rfl:=List.mem_singleton.1 hp
 have:=hA.vw []
 rw[List.append_nil] at this
 rw[hj];exact this
def obV (o:Obs) (a:Atm):Int:=if a.1=2 then o.var a.2.1 a.2.2.2 else if a.1=3 then o.cnt a.2.1 else o.chn a.2.1 a.2.2.1
mutual
def lvF:Pd→List Atm
 | .mk k _ p q s l=>if k=2∨k=3∨k=4 then [(k,p,q,s)] else lvL l
def lvL:List Pd→List Atm
 | []=>[]
 | x :: r=>lvF x ++ lvL r
end
theorem lvF_mk (k n p q:Int) (s:ByteArray) (l:List Pd):lvF (.mk k n p q s l)=if k=2∨k=3∨k=4 then [(k,p,q,s)] else lvL l:=by rw[lvF]
theorem lvL_mem {l:List Pd} {x:Pd} (hx:x ∈ l) {a:Atm} (ha:a ∈ lvF x):a ∈ lvL l:=by
 induction l with
 | nil=>cases hx
 | cons y l ih =>
  rw[lvL]
  rcases List.mem_cons.1 hx with rfl|hx
  ·exact List.mem_append_left _ ha
  ·exact List.mem_append_right _ (ih hx)
structure LinS (t:Pd) (c:Int) (h:Tms):Prop where
 num:NumB c
 ok:OkT h
 val:∀o,valF o t=c+sT (obV o) h
 mem:∀x ∈ h,x.1 ∈ lvF t
inductive LinR (t:Pd):AV→Prop
 | yes (c:Int) (h:Tms) (hs:LinS t c h):LinR t (.tup [.agg [ai c,.rm (keysT h) (valsT h)],ab true])
 | no (c:Int) (m:AV) (hm:m = .v (.map none)∨∃ks vs,m = .rm ks vs):LinR t (.tup [.agg [ai c,m],ab false])
theorem classify_zeroP:PC Proofs.Tryz.prog 136 [] (.agg [ai 0,.rm [] []]):=by
 refine classify_zero.pc ?_
 rintro r L ⟨b,rfl,rfl⟩
 exact .mkAgg (Vws.cons (.refl _) (Vws.cons (.lm (if_pos rfl) rfl (Vws.refl _).2) .nil))
def lfA (x:Int × Tms):AV:=.agg [ai x.1,.rm (keysT x.2) (valsT x.2)]
theorem lin_num {n:Int} (p q:Int) (s:ByteArray) (h:NumB n):LinS (.mk 1 n p q s []) n []:=⟨h,⟨List.nodup_nil,fun x hx=>by cases hx⟩,fun o=>by rw[valF_mk];show n=n+0;omega,fun x hx=>by cases hx⟩
theorem lin_leaf {k:Int} (hk:k=2∨k=3∨k=4) (n p q:Int) (s:ByteArray):LinS (.mk k n p q s []) 0 [((k,p,q,s),1)]:=by
 refine⟨by unfold NumB;decide,⟨by simp,fun x hx => ?_⟩,fun o => ?_,fun x hx => ?_⟩
 ·obtain rfl:=List.mem_singleton.1 hx
  exact⟨(by decide:(1:Int) ≠ 0),(by unfold NumB;decide:NumB 1)⟩
 ·rw[valF_mk]
  show valN o k n p q s []=0+(1 * obV o (k,p,q,s)+0)
  unfold valN obV
  rcases hk with rfl|rfl|rfl <;> simp
 ·obtain rfl:=List.mem_singleton.1 hx
  rw[lvF_mk,if_pos hk];simp
theorem lin_of {t:Pd} {c d k:Int} {f g h:Tms} (hok:OkT h) (hm:∀x ∈ h,x.1 ∈ f.map Prod.fst∨x.1 ∈ g.map Prod.fst) (h2:(sumF k c d).2=true) (hs:∀v,sT v h=sT v f+k * sT v g)
  (hmem:∀a,(a ∈ f.map Prod.fst∨a ∈ g.map Prod.fst)→a ∈ lvF t) (hv:∀o,valF o t=(c+sT (obV o) f)+k * (d+sT (obV o) g)):LinS t (sumF k c d).1 h:=by
 refine⟨sumF_num _ _ _,hok,fun o => ?_,fun x hx=>hmem _ (hm x hx)⟩
 rw[hv o,hs,sumF_ok h2,Int.mul_add]
 omega
theorem lin_res {t:Pd} {c d k:Int} {f g:Tms} (hmem:∀a,(a ∈ f.map Prod.fst∨a ∈ g.map Prod.fst)→a ∈ lvF t) (hv:∀o,valF o t=(c+sT (obV o) f)+k * (d+sT (obV o) g))
  (h:Tms) (ok:Bool) (e1:OkT h) (e2:∀x ∈ h,x.1 ∈ f.map Prod.fst∨x.1 ∈ g.map Prod.fst) (e3:ok=true→(sumF k c d).2=true∧∀v,sT v h=sT v f+k * sT v g):LinR t (.tup [.agg [ai (sumF k c d).1,.rm (keysT h) (valsT h)],ab ok]):=by
 cases ok with
 | false=>exact .no _ _ (.inr ⟨_,_,rfl⟩)
 | true =>
  obtain⟨e4,e5⟩:=e3 rfl
  exact .yes _ _ (lin_of e1 e2 e4 e5 hmem hv)
theorem lin_mem {x:Pd} {c:Int} {h:Tms} (hs:LinS x c h) {a:Atm} (ha:a ∈ h.map Prod.fst):a ∈ lvF x:=by
 obtain⟨y,hy,rfl⟩:=List.mem_map.1 ha
 exact hs.mem y hy
theorem lv_mem {k:Int} (hk:¬(k=2∨k=3∨k=4)) {n p q:Int} {s:ByteArray} {l:List Pd} {x:Pd} (hx:x ∈ l) {a:Atm} (ha:a ∈ lvF x):a ∈ lvF (.mk k n p q s l):=by
 rw[lvF_mk,if_neg hk]
 exact lvL_mem hx ha
theorem ln1 {α:Type} : ∀ {l:List α},l.length=1→∃x,l=[x]
 | [x],_=>⟨x,rfl⟩
theorem ln2 {α:Type} : ∀ {l:List α},l.length=2→∃x y,l=[x,y]
 | [x,y],_=>⟨x,y,rfl⟩
theorem ok_nil:OkT []:=⟨List.nodup_nil,fun x hx=>by cases hx⟩
set_option maxHeartbeats 2000000 in
theorem classify_linear (t:Pd):szF t≤1000000→IntOk t→MCalls Proofs.Tryz.prog 92 [aPd t] [] fun r L=>L=[]∧LinR t r:=by
 induction t using Pd.ind with
 | _ k n p q s l ih =>
 intro hz hio
 obtain⟨h1,h2,h8⟩:=hio
 have h8:k≤8:=h8
 rw[allB_mk,Bool.and_eq_true,List.all_eq_true] at h1 h2
 have hsz:szF (.mk k n p q s l)=szL l+1:=by rw[szF]
 have hll:=szL_len l
 have hch:∀i (hi:i<l.length),MCalls Proofs.Tryz.prog 92 [aPd l[i]] [] fun r L=>L=[]∧LinR l[i] r:=fun i hi=>by
  have hm:=List.getElem_mem hi
  have:=szL_mem hm
  refine ih _ hm (by omega) ⟨h1.2 _ hm,h2.2 _ hm,?_⟩
  have h3:=typ_parts h2.1 hm
  have h4:needF k=1:=by unfold needF;rw[if_pos (by omega)]
  exact res_int (h3.trans h4)
 clear ih
 rw[aPd_mk]
 refine MCalls.enter' 114 [.cell 2 97,.tmp 3] [1,6,7,30] Proofs.Tryz.func92 rfl rfl rfl rfl rfl (by simp) (AWp.of ?_);simp only[go_sem]
 intro b2
 refine Wk ?_
 refine AWp.range' l.length [4] [1,2,14,15] (fun i vs L=>∃v Ln,∃fs:List (Int × Tms),vs=[v]∧L=Ln ++ [(b2,.row 97 2 [.agg [ai 0,.v (.map none)]] 1)]∧AppSt 97 2 (fs.map lfA) v Ln∧(∀x ∈ Ln,x.1 ≠ b2)∧fs.length=i∧∀j (h:j<l.length) (hj:j<fs.length),LinS l[j] fs[j].1 fs[j].2) (by omega) rfl rfl rfl ⟨anil,[],[],rfl,rfl,.nil,by simp,rfl,fun j _ h=>absurd h (by simp)⟩ ?_ ?_
 ·rintro i vs L hil - ⟨v,Ln,fs,rfl,rfl,hA,hne,hfl,hfs⟩
  have hgi:=getD_map (f:=aPd) hil
  have hci:=hch i hil
  have hyl:(fs.map lfA).length≤1000000:=by simp;omega
  obtain⟨k2,o2,p2,q2,s2,X2,hX⟩:=aPd_shape l[i]
  rw[hX] at hgi hci
  simp only[go_sem]
  have hfs':∀c h,LinS l[i] c h→∀j (h1:j<l.length) (hj:j<(fs ++ [(c,h)]).length),LinS l[j] (fs ++ [(c,h)])[j].1 (fs ++ [(c,h)])[j].2:=fun c h hs j h1 hj=>by
   rw[List.length_append,List.length_singleton] at hj
   by_cases e:j=fs.length
   ·subst e
    rw[List.getElem_append_right (Nat.le_refl _)]
    simp only[Nat.sub_self,List.getElem_singleton]
    simp only[hfl]
    exact hs
   ·rw[List.getElem_append_left (by omega)]
    exact hfs j h1 (by omega)
  have hmp:∀c h,(fs ++ [(c,h)]).map lfA=fs.map lfA ++ [.agg [ai c,.rm (keysT h) (valsT h)]]:=fun c h=>by rw[List.map_append];rfl
  have hfl':∀x,(fs ++ [x]).length=i+1:=fun x=>by rw[List.length_append,List.length_singleton,hfl]
  generalize hys:fs.map lfA=ys at *
  rcases hA.inv with ⟨rfl,rfl,rfl⟩|⟨b,cap,rfl,rfl⟩
  ·refine W1 hgi ?_
   intro b6 g6
   refine Sd ?_
   refine Wk ?_
   refine(MVal.frame (Lm:=[]) (Lr:=_) hci.val).mono ?_
   rintro r L ⟨L1,rfl,rfl,hR⟩
   rcases hR with ⟨c,h,hs⟩|⟨c,m,rfl|⟨ks,vs,rfl⟩⟩
   ·simp only[go_sem]
    refine Wk ?_
    intro b7 g7
    refine Sd ?_
    refine Wk ?_
    intro b' cap' g8
    intros
    have n1:¬b2=b':=by omega
    have n2:¬b'=b2:=by omega
    refine W2 n1 n2 ?_
    exact⟨_,List.Sublist.refl _,_,[(b',_)],_,rfl,rfl,by rw[hmp c h];exact .row b' [_] cap',by simp;exact n2,hfl' _,hfs' c h hs⟩
   ·simp only[go_sem]
    refine Wk ?_
    intro b7 g7
    refine Sd ?_
    refine Wk ?_
    refine ret_viewK [] (.tup [.agg [ai 0,.v (.map none)],ab false]) ⟨rfl,.no _ _ (.inl rfl)⟩ ?_
    simp only[go_sem]
    exact .refl _
   ·simp only[go_sem]
    refine Wk ?_
    intro b7 g7
    refine Sd ?_
    refine Wk ?_
    refine ret_viewK [] (.tup [.agg [ai 0,.v (.map none)],ab false]) ⟨rfl,.no _ _ (.inl rfl)⟩ ?_
    simp only[go_sem]
    exact .refl _
  ·have m1:¬b=b2:=hne (b,_) List.mem_cons_self
   have m2:¬b2=b:=fun e=>m1 e.symm
   refine W3 hgi m1 m2 ?_
   intro b6 g6
   intros
   refine Sd ?_
   refine W2 m1 m2 ?_
   refine(MVal.frame (Lm:=[]) (Lr:=_) hci.val).mono ?_
   rintro r L ⟨L1,rfl,rfl,hR⟩
   rcases hR with ⟨c,h,hs⟩|⟨c,m,rfl|⟨ks,vs,rfl⟩⟩
   ·simp only[go_sem]
    refine W2 m1 m2 ?_
    intro b7 g7
    intros
    refine Sd ?_
    refine W2 m1 m2 ?_
    intro b' cap' n5 g8
    have n6:¬b'=b2:=fun e=>n5 e.symm
    try simp only[go_sem,n5,n6]
    exact⟨_,List.Sublist.refl _,_,[(b',_)],_,rfl,rfl,by rw[hmp c h];exact AppSt.snoc _ _ _ rfl,by simp;exact n6,hfl' _,hfs' c h hs⟩
   ·simp only[go_sem]
    refine W2 m1 m2 ?_
    intro b7 g7
    intros
    refine Sd ?_
    refine W2 m1 m2 ?_
    refine ret_viewK [] (.tup [.agg [ai 0,.v (.map none)],ab false]) ⟨rfl,.no _ _ (.inl rfl)⟩ ?_
    simp only[go_sem,m1,m2]
    exact .refl _
   ·simp only[go_sem]
    refine W2 m1 m2 ?_
    intro b7 g7
    intros
    refine Sd ?_
    refine W2 m1 m2 ?_
    refine ret_viewK [] (.tup [.agg [ai 0,.v (.map none)],ab false]) ⟨rfl,.no _ _ (.inl rfl)⟩ ?_
    simp only[go_sem,m1,m2]
    exact .refl _
 ·rintro vs L - ⟨v,Ln,fs,rfl,rfl,hA,hne,hfl,hfs⟩
  have hpl:=locB_len h1.1
  have hnm:=(loc_len h1.1).2
  refine AWp.viewA' hA (j:=4) rfl ?_
  clear hA hne hch
  simp only[go_sem]
  have hk1:1≤k:=by
   by_cases e:1≤k
   ·exact e
   ·exfalso
    have:partsF k = -1:=by unfold partsF;rw[if_neg (by omega),if_neg (by omega),if_neg (by omega)]
    omega
  have hk:k=1∨(k=2∨k=3∨k=4)∨k=5∨k=6∨k=7∨k=8:=by omega
  rcases hk with rfl|hk|rfl|rfl|rfl|rfl
  ·obtain rfl:l=[]:=List.length_eq_zero_iff.1 (by rw[show partsF 1=0 from by decide] at hpl;omega)
   obtain rfl:fs=[]:=List.length_eq_zero_iff.1 hfl
   have hn:NumB n:=by unfold numB at hnm;rw[if_pos rfl,decide_eq_true_eq] at hnm;unfold NumB;omega
   repeat(first|((with_reducible refine AWp.ofC ?_ ?_);exact rfl;simp only[go_sem,Int.reduceEq])|((with_reducible refine an ?_ ?_);exact Au))
   refine Sd ?_
   refine(classify_zeroP).val.use ?_;simp only[go_sem]
   intro b9 g9
   have n1:¬b2=b9:=by omega
   have n2:¬b9=b2:=by omega
   try simp only[go_sem,n1,n2]
   refine Sd ?_
   refine W2 n1 n2 ?_
   refine ret_viewK [] (.tup [.agg [ai n,.rm [] []],ab true]) ⟨rfl,.yes n [] (lin_num p q s hn)⟩ ?_
   simp only[go_sem,n1,n2]
   exact .refl _
  ·obtain rfl:l=[]:=List.length_eq_zero_iff.1 (by rw[show partsF k=0 from by rcases hk with rfl|rfl|rfl <;> decide] at hpl;omega)
   obtain rfl:fs=[]:=List.length_eq_zero_iff.1 hfl
   have hlf:=lin_leaf hk n p q s
   have hkey:Value.agg #[.int .i64 k,.int .i64 p,.int .i64 q,.string s]=atmV (k,p,q,s):=rfl
   have hfit:=atmV_fits (k,p,q,s)
   have hkT:keysT [((k,p,q,s),1)]=[atmV (k,p,q,s)]:=rfl
   have hvT:valsT [((k,p,q,s),1)]=[ai 1]:=rfl
   have hres:LinR (.mk k n p q s []) (.tup [.agg [ai 0,.rm [atmV (k,p,q,s)] [ai 1]],ab true]):=.yes 0 [((k,p,q,s),1)] hlf
   generalize LinR (.mk k n p q s [])=RR at *
   clear h1 h2 hlf hkT hvT
   generalize atmV (k,p,q,s)=kv at *
   rcases hk with rfl|rfl|rfl
   all_goals
    repeat(first|((with_reducible refine AWp.ofC ?_ ?_);exact rfl;simp only[go_sem,Int.reduceEq])|((with_reducible refine an ?_ ?_);exact Au))
    refine(MVal.nd (MVal.frame (Lm:=[]) (Lr:=_) classify_zero.val)).mono ?_
    rintro r L ⟨hnd,L1,rfl,bm,rfl,rfl⟩
    have h1:¬bm=b2:=by simp at hnd;exact hnd
    have h2:¬b2=bm:=fun e=>h1 e.symm
    simp only[go_sem]
    intro b9 g1 g2
    have n1:¬b2=b9:=by omega
    have n2:¬b9=b2:=by omega
    have n3:¬bm=b9:=by omega
    have n4:¬b9=bm:=by omega
    refine Sd ?_
    repeat(first|((with_reducible refine AWp.ofC ?_ ?_);exact rfl;simp only[go_sem,h1,h2,n1,n2,n3,n4,hkey,hfit,mput_nil])|((with_reducible refine an ?_ ?_);exact Au))
    refine ret_viewK [false,true,false] _ ⟨rfl,hres⟩ ?_
    simp only[go_sem,h1,h2,n1,n2,n3,n4]
    exact .mkTup (Vws.cons (.mkAgg (Vws.cons (.refl _) (Vws.cons (.lm (if_pos rfl) rfl (Vws.refl _).2) .nil))) (Vws.refl _))
  ·obtain⟨x,rfl⟩:=len_one (l:=l) (by rw[show partsF 5=1 from by decide] at hpl;omega)
   obtain⟨f,rfl⟩:=ln1 hfl
   have hx:=hfs 0 (by simp) (by simp)
   simp only[List.getElem_cons_zero] at hx
   obtain⟨d,g⟩:=f
   have ha:=classify_add 0 d (-1) [] g (by unfold NumB;decide) hx.num (by unfold NumB;decide) ok_nil hx.ok
   have hR:=lin_res (t:=.mk 5 n p q s [x]) (c:=0) (d:=d) (k:=-1) (f:=[]) (g:=g) (fun a ha=>by
    rcases ha with ha|ha
    ·cases ha
    ·exact lv_mem (by decide) (by simp) (lin_mem hx ha)) (fun o=>by
    rw[valF_mk]
    show -valF o x=0+0 + -1 * (d+sT (obV o) g)
    rw[hx.val o]
    show -(d+sT (obV o) g)=_
    omega)
   simp only[List.map_cons,List.map_nil,lfA]
   unfold mapT at ha
   generalize LinR (.mk 5 n p q s [x])=RR at *
   clear h1 h2 hx hfs
   repeat(first|((with_reducible refine AWp.ofC ?_ ?_);exact rfl;simp only[go_sem,Int.reduceEq])|((with_reducible refine an ?_ ?_);exact Au))
   repeat(first|(with_reducible refine AWp.seq ?_)|(with_reducible refine AWp.block ?_))
   refine AWp.mix mixed [0,1,2,3] (.step 4 (.step 5 (.step 6 (.step 7 (.step 8 .done .done) .done) .done) (.step 6 (.step 5 (.step 7 (.step 8 .done .done) .done) .done) .done)) .done) (by kernel_rfl) ?_;simp only[go_sem]
   refine Sd ?_
   refine Gc classify_zeroP ?_
   refine Sd ?_
   refine(MVal.frame (Lm:=[]) (Lr:=_) ha.val).mono ?_
   rintro r L ⟨L1,rfl,rfl,h,ok,rfl,e1,e2,e3⟩
   simp only[go_sem]
   repeat' (first|(with_reducible refine And.intro ?_ ?_)|(with_reducible intro _))
   all_goals
    refine Wk ?_
    refine ret_viewK [] _ ⟨rfl,hR h ok e1 e2 e3⟩ ?_
    simp only[go_sem]
    exact .refl _
  ·obtain⟨x,y,rfl⟩:=len_two (l:=l) (by rw[show partsF 6=2 from by decide] at hpl;omega)
   obtain⟨f,g,rfl⟩:=ln2 hfl
   have hx:=hfs 0 (by simp) (by simp)
   have hy:=hfs 1 (by simp) (by simp)
   simp only[List.getElem_cons_zero,List.getElem_cons_succ] at hx hy
   obtain⟨c,f⟩:=f
   obtain⟨d,g⟩:=g
   have ha:=classify_add c d (1) f g hx.num hy.num (by unfold NumB;decide) hx.ok hy.ok
   have hR:=lin_res (t:=.mk 6 n p q s [x,y]) (c:=c) (d:=d) (k:=1) (f:=f) (g:=g) (fun a ha=>by
    rcases ha with ha|ha
    ·exact lv_mem (by decide) (by simp) (lin_mem hx ha)
    ·exact lv_mem (by decide) (by simp) (lin_mem hy ha)) (fun o=>by
    rw[valF_mk]
    show valF o x+valF o y=_
    rw[hx.val o,hy.val o]
    show c+sT (obV o) f+(d+sT (obV o) g)=_
    omega)
   simp only[List.map_cons,List.map_nil,lfA]
   unfold mapT at ha
   generalize LinR (.mk 6 n p q s [x,y])=RR at *
   clear h1 h2 hx hy hfs
   repeat(first|((with_reducible refine AWp.ofC ?_ ?_);exact rfl;simp only[go_sem,Int.reduceEq])|((with_reducible refine an ?_ ?_);exact Au))
   repeat(first|(with_reducible refine AWp.seq ?_)|(with_reducible refine AWp.block ?_))
   refine AWp.mix mixed [0,1,2,3,4,5] (.step 6 (.step 7 (.step 8 (.step 9 (.step 10 .done .done) .done) .done) (.step 8 (.step 7 (.step 9 (.step 10 .done .done) .done) .done) .done)) .done) (by kernel_rfl) ?_;simp only[go_sem]
   refine Sd ?_
   refine(MVal.frame (Lm:=[]) (Lr:=_) ha.val).mono ?_
   rintro r L ⟨L1,rfl,rfl,h,ok,rfl,e1,e2,e3⟩
   simp only[go_sem]
   repeat' (first|(with_reducible refine And.intro ?_ ?_)|(with_reducible intro _))
   all_goals
    refine Wk ?_
    refine ret_viewK [] _ ⟨rfl,hR h ok e1 e2 e3⟩ ?_
    simp only[go_sem]
    exact .refl _
  ·obtain⟨x,y,rfl⟩:=len_two (l:=l) (by rw[show partsF 7=2 from by decide] at hpl;omega)
   obtain⟨f,g,rfl⟩:=ln2 hfl
   have hx:=hfs 0 (by simp) (by simp)
   have hy:=hfs 1 (by simp) (by simp)
   simp only[List.getElem_cons_zero,List.getElem_cons_succ] at hx hy
   obtain⟨c,f⟩:=f
   obtain⟨d,g⟩:=g
   have ha:=classify_add c d (-1) f g hx.num hy.num (by unfold NumB;decide) hx.ok hy.ok
   have hR:=lin_res (t:=.mk 7 n p q s [x,y]) (c:=c) (d:=d) (k:=-1) (f:=f) (g:=g) (fun a ha=>by
    rcases ha with ha|ha
    ·exact lv_mem (by decide) (by simp) (lin_mem hx ha)
    ·exact lv_mem (by decide) (by simp) (lin_mem hy ha)) (fun o=>by
    rw[valF_mk]
    show valF o x - valF o y=_
    rw[hx.val o,hy.val o]
    show c+sT (obV o) f - (d+sT (obV o) g)=_
    omega)
   simp only[List.map_cons,List.map_nil,lfA]
   unfold mapT at ha
   generalize LinR (.mk 7 n p q s [x,y])=RR at *
   clear h1 h2 hx hy hfs
   repeat(first|((with_reducible refine AWp.ofC ?_ ?_);exact rfl;simp only[go_sem,Int.reduceEq])|((with_reducible refine an ?_ ?_);exact Au))
   repeat(first|(with_reducible refine AWp.seq ?_)|(with_reducible refine AWp.block ?_))
   refine AWp.mix mixed [0,1,2,3,4,5] (.step 6 (.step 7 (.step 8 (.step 9 (.step 10 .done .done) .done) .done) (.step 8 (.step 7 (.step 9 (.step 10 .done .done) .done) .done) .done)) .done) (by kernel_rfl) ?_;simp only[go_sem]
   refine Sd ?_
   refine(MVal.frame (Lm:=[]) (Lr:=_) ha.val).mono ?_
   rintro r L ⟨L1,rfl,rfl,h,ok,rfl,e1,e2,e3⟩
   simp only[go_sem]
   repeat' (first|(with_reducible refine And.intro ?_ ?_)|(with_reducible intro _))
   all_goals
    refine Wk ?_
    refine ret_viewK [] _ ⟨rfl,hR h ok e1 e2 e3⟩ ?_
    simp only[go_sem]
    exact .refl _
  ·obtain⟨x,y,rfl⟩:=len_two (l:=l) (by rw[show partsF 8=2 from by decide] at hpl;omega)
   obtain⟨f,g,rfl⟩:=ln2 hfl
   have hx:=hfs 0 (by simp) (by simp)
   have hy:=hfs 1 (by simp) (by simp)
   simp only[List.getElem_cons_zero,List.getElem_cons_succ] at hx hy
   obtain⟨c,f⟩:=f
   obtain⟨d,g⟩:=g
   simp only[List.map_cons,List.map_nil,lfA]
   clear h1 h2 hfs
   by_cases hf:f=[]
   ·subst hf
    have ha:=classify_add 0 d c [] g (by unfold NumB;decide) hy.num hx.num ok_nil hy.ok
    have hR:=lin_res (t:=.mk 8 n p q s [x,y]) (c:=0) (d:=d) (k:=c) (f:=[]) (g:=g) (fun a ha=>by
     rcases ha with ha|ha
     ·cases ha
     ·exact lv_mem (by decide) (by simp) (lin_mem hy ha)) (fun o=>by
     rw[valF_mk]
     show valF o x * valF o y=_
     rw[hx.val o,hy.val o]
     show (c+0) * (d+sT (obV o) g)=0+0+c * (d+sT (obV o) g)
     rw[Int.add_zero];omega)
    unfold mapT at ha
    have hz0:¬(0:Int)<((keysT []).length:Int):=by decide
    generalize LinR (.mk 8 n p q s [x,y])=RR at *
    clear hx hy
    repeat(first|((with_reducible refine AWp.ofC ?_ ?_);exact rfl;simp only[go_sem,Int.reduceEq])|((with_reducible refine an ?_ ?_);exact Au))
    repeat(first|(with_reducible refine AWp.seq ?_)|(with_reducible refine AWp.block ?_))
    refine AWp.mix mixed [0,1,2,3,4,5] (.step 6 (.step 7 (.step 8 (.step 9 .done .done) .done) .done) (.step 7 (.step 6 (.step 8 (.step 9 .done .done) .done) .done) .done)) (by kernel_rfl) ?_;simp only[go_sem]
    repeat' (first|(with_reducible refine And.intro ?_ ?_)|(with_reducible intro _))
    all_goals first|omega|skip
    all_goals
     rename_i bx f1 bz f2 f3
     have n1:¬bx=bz:=by omega
     have n2:¬bz=bx:=by omega
     have n3:¬b2=bx:=by omega
     have n4:¬bx=b2:=by omega
     have n5:¬b2=bz:=by omega
     have n6:¬bz=b2:=by omega
     simp only[go_sem,n1,n2,n3,n4,n5,n6]
     refine Sd ?_
     try simp only[go_sem,n1,n2,n3,n4,n5,n6]
     refine Sd ?_
     repeat(first|((with_reducible refine AWp.ofC ?_ ?_);exact rfl;simp only[go_sem,n1,n2,n3,n4,n5,n6,hz0])|((with_reducible refine an ?_ ?_);exact Au))
     repeat(first|(with_reducible refine AWp.seq ?_)|(with_reducible refine AWp.block ?_))
     refine AWp.mix mixed [0,2] (.step 1 (.step 3 (.step 4 (.step 5 (.step 6 (.step 7 (.step 8 .done .done) .done) .done) (.step 6 (.step 5 (.step 7 (.step 8 .done .done) .done) .done) .done)) .done) .done) (.step 3 (.step 1 (.step 4 (.step 5 (.step 6 (.step 7 (.step 8 .done .done) .done) .done) (.step 6 (.step 5 (.step 7 (.step 8 .done .done) .done) .done) .done)) .done) .done) .done)) (by kernel_rfl) ?_;simp only[go_sem,n1,n2,n3,n4,n5,n6]
     refine Sd ?_
     refine GCall.use (.agg [ai 0,.rm [] []]) (fun _=>⟨At,(classify_zeroP).val.use ⟨rfl,rfl⟩⟩) ?_;simp only[go_sem,n1,n2,n3,n4,n5,n6]
     refine Sd ?_
     repeat' (with_reducible refine And.intro ?_ ?_)
     all_goals
      refine(MVal.frame (Lm:=[]) (Lr:=_) ha.val).mono ?_
      rintro r L ⟨L1,rfl,rfl,h,ok,rfl,e1,e2,e3⟩
      simp only[go_sem,n1,n2,n3,n4,n5,n6]
      repeat' (first|(with_reducible refine And.intro ?_ ?_)|(with_reducible intro _))
      all_goals
       refine W6 n1 n2 n3 n4 n5 n6 ?_
       refine ret_viewK [] _ ⟨rfl,hR h ok e1 e2 e3⟩ ?_
       simp only[go_sem,n1,n2,n3,n4,n5,n6]
       exact .refl _
   ·have hzf:(0:Int)<((keysT f).length:Int):=by
     rw[keysT_len]
     have:=List.length_pos_iff.2 hf
     omega
    by_cases hg:g=[]
    ·subst hg
     have ha:=classify_add 0 c d [] f (by unfold NumB;decide) hx.num hy.num ok_nil hx.ok
     have hR:=lin_res (t:=.mk 8 n p q s [x,y]) (c:=0) (d:=c) (k:=d) (f:=[]) (g:=f) (fun a ha=>by
      rcases ha with ha|ha
      ·cases ha
      ·exact lv_mem (by decide) (by simp) (lin_mem hx ha)) (fun o=>by
      rw[valF_mk]
      show valF o x * valF o y=_
      rw[hx.val o,hy.val o]
      show (c+sT (obV o) f) * (d+0)=0+0+d * (c+sT (obV o) f)
      rw[Int.add_zero,Int.mul_comm];omega)
     unfold mapT at ha
     have hz0:¬(0:Int)<((keysT []).length:Int):=by decide
     generalize LinR (.mk 8 n p q s [x,y])=RR at *
     clear hx hy
     repeat(first|((with_reducible refine AWp.ofC ?_ ?_);exact rfl;simp only[go_sem,Int.reduceEq])|((with_reducible refine an ?_ ?_);exact Au))
     repeat(first|(with_reducible refine AWp.seq ?_)|(with_reducible refine AWp.block ?_))
     refine AWp.mix mixed [0,1,2,3,4,5] (.step 6 (.step 7 (.step 8 (.step 9 .done .done) .done) .done) (.step 7 (.step 6 (.step 8 (.step 9 .done .done) .done) .done) .done)) (by kernel_rfl) ?_;simp only[go_sem]
     repeat' (first|(with_reducible refine And.intro ?_ ?_)|(with_reducible intro _))
     all_goals first|omega|skip
     all_goals
      rename_i bx f1 bz f2 f3
      have n1:¬bx=bz:=by omega
      have n2:¬bz=bx:=by omega
      have n3:¬b2=bx:=by omega
      have n4:¬bx=b2:=by omega
      have n5:¬b2=bz:=by omega
      have n6:¬bz=b2:=by omega
      simp only[go_sem,n1,n2,n3,n4,n5,n6]
      refine Sd ?_
      try simp only[go_sem,n1,n2,n3,n4,n5,n6]
      refine Sd ?_
      repeat(first|((with_reducible refine AWp.ofC ?_ ?_);exact rfl;simp only[go_sem,n1,n2,n3,n4,n5,n6,hzf,hz0])|((with_reducible refine an ?_ ?_);exact Au))
      repeat(first|(with_reducible refine AWp.seq ?_)|(with_reducible refine AWp.block ?_))
      refine AWp.mix mixed [0,2] (.step 1 (.step 3 (.step 4 (.step 5 (.step 6 (.step 7 (.step 8 .done .done) .done) .done) (.step 6 (.step 5 (.step 7 (.step 8 .done .done) .done) .done) .done)) .done) .done) (.step 3 (.step 1 (.step 4 (.step 5 (.step 6 (.step 7 (.step 8 .done .done) .done) .done) (.step 6 (.step 5 (.step 7 (.step 8 .done .done) .done) .done) .done)) .done) .done) .done)) (by kernel_rfl) ?_;simp only[go_sem,n1,n2,n3,n4,n5,n6]
      refine Sd ?_
      refine GCall.use (.agg [ai 0,.rm [] []]) (fun _=>⟨At,(classify_zeroP).val.use ⟨rfl,rfl⟩⟩) ?_;simp only[go_sem,n1,n2,n3,n4,n5,n6]
      refine Sd ?_
      repeat' (with_reducible refine And.intro ?_ ?_)
      all_goals
       refine(MVal.frame (Lm:=[]) (Lr:=_) ha.val).mono ?_
       rintro r L ⟨L1,rfl,rfl,h,ok,rfl,e1,e2,e3⟩
       simp only[go_sem,n1,n2,n3,n4,n5,n6]
       repeat' (first|(with_reducible refine And.intro ?_ ?_)|(with_reducible intro _))
       all_goals
        refine W6 n1 n2 n3 n4 n5 n6 ?_
        refine ret_viewK [] _ ⟨rfl,hR h ok e1 e2 e3⟩ ?_
        simp only[go_sem,n1,n2,n3,n4,n5,n6]
        exact .refl _
    ·have hzg:(0:Int)<((keysT g).length:Int):=by
      rw[keysT_len]
      have:=List.length_pos_iff.2 hg
      omega
     have hR:LinR (.mk 8 n p q s [x,y]) (.tup [.agg [ai 0,.v (.map none)],ab false]):=.no _ _ (.inl rfl)
     generalize LinR (.mk 8 n p q s [x,y])=RR at *
     clear hx hy
     repeat(first|((with_reducible refine AWp.ofC ?_ ?_);exact rfl;simp only[go_sem,Int.reduceEq])|((with_reducible refine an ?_ ?_);exact Au))
     repeat(first|(with_reducible refine AWp.seq ?_)|(with_reducible refine AWp.block ?_))
     refine AWp.mix mixed [0,1,2,3,4,5] (.step 6 (.step 7 (.step 8 (.step 9 .done .done) .done) .done) (.step 7 (.step 6 (.step 8 (.step 9 .done .done) .done) .done) .done)) (by kernel_rfl) ?_;simp only[go_sem]
     repeat' (first|(with_reducible refine And.intro ?_ ?_)|(with_reducible intro _))
     all_goals first|omega|skip
     all_goals
      rename_i bx f1 bz f2 f3
      have n1:¬bx=bz:=by omega
      have n2:¬bz=bx:=by omega
      have n3:¬b2=bx:=by omega
      have n4:¬bx=b2:=by omega
      have n5:¬b2=bz:=by omega
      have n6:¬bz=b2:=by omega
      simp only[go_sem,n1,n2,n3,n4,n5,n6]
      refine Sd ?_
      try simp only[go_sem,n1,n2,n3,n4,n5,n6]
      refine Sd ?_
      repeat(first|((with_reducible refine AWp.ofC ?_ ?_);exact rfl;simp only[go_sem,n1,n2,n3,n4,n5,n6,hzf,hzg])|((with_reducible refine an ?_ ?_);exact Au))
      refine ret_viewK [] _ ⟨rfl,hR⟩ ?_
      simp only[go_sem,n1,n2,n3,n4,n5,n6]
      exact .refl _
end Go.AL
end
