/- Texts of this claim's proof: WI18, WI19. No condition. -/
import Derived.Test.YtbbcigpnpbiojaaGreatDoorM16
section
namespace Go.AL
open Go Go.RowKit
set_option maxRecDepth 4000
abbrev Tms:=List (Atm × Int)
def keysT (h:Tms):List Value:=h.map fun x=>atmV x.1
def valsT (h:Tms):List AV:=h.map fun x=>ai x.2
def mapT (h:Tms):AV:=.rm (keysT h) (valsT h)
theorem keysT_cons (x:Atm × Int) (h:Tms):keysT (x :: h)=atmV x.1 :: keysT h:=rfl
theorem keysT_len (h:Tms):(keysT h).length=h.length:=List.length_map _
theorem valsT_len (h:Tms):(valsT h).length=h.length:=List.length_map _
theorem keysT_fits (h:Tms):(keysT h).all (KK.st [.int,.int,.int,.str]).fits=true:=by
 rw[List.all_eq_true]
 intro v hv
 obtain⟨x,_,rfl⟩:=List.mem_map.1 hv
 exact atmV_fits x.1
theorem keyB_atm (a b:Atm):keyB (atmV a) (atmV b)=decide (a=b):=by
 show (decide (a.1=b.1) && (decide (a.2.1=b.2.1) && (decide (a.2.2.1=b.2.2.1) && (seqB a.2.2.2 b.2.2.2 && true))))=decide (a=b)
 rw[seqB_dec',Bool.eq_iff_iff]
 obtain⟨a1,a2,a3,a4⟩:=a
 obtain⟨b1,b2,b3,b4⟩:=b
 simp
def fdT (a:Atm):Tms→Option Nat
 | []=>none
 | x :: h=>if a=x.1 then some 0 else match fdT a h with
  | some i=>some (i+1)
  | none=>none
def cfT (a:Atm):Tms→Int
 | []=>0
 | x :: h=>if a=x.1 then x.2 else cfT a h
def putT (a:Atm) (m:Int):Tms→Tms
 | []=>[(a,m)]
 | x :: h=>if a=x.1 then (x.1,m) :: h else x :: putT a m h
def delT (a:Atm):Tms→Tms
 | []=>[]
 | x :: h=>if a=x.1 then h else x :: delT a h
theorem mfind_T (a:Atm):∀h,mfind (atmV a) (keysT h)=fdT a h
 | []=>rfl
 | x :: h=>by
  rw[keysT_cons,mfind,fdT,keyB_atm,mfind_T a h]
  by_cases e:a=x.1
  ·rw[decide_eq_true e,if_pos rfl,if_pos e]
  ·rw[decide_eq_false e,if_neg (by decide),if_neg e]
   cases fdT a h <;> rfl
theorem fdT_get (a:Atm):∀h,(match fdT a h with|some i=>(valsT h).getD i .any|none=>ai 0)=ai (cfT a h)
 | []=>rfl
 | x :: h=>by
  rw[fdT,cfT]
  by_cases e:a=x.1
  ·rw[if_pos e,if_pos e];rfl
  ·rw[if_neg e,if_neg e,← fdT_get a h]
   cases fdT a h <;> rfl
theorem mget_T (a:Atm) (h:Tms):mget (atmV a) (keysT h) (valsT h) (ai 0)=ai (cfT a h):=by
 unfold mget
 rw[mfind_T]
 exact fdT_get a h
theorem fdT_put (a:Atm) (m:Int):∀h,(match fdT a h with|some i=>ABlk.amap (keysT h) ((valsT h).set i (ai m))|none => .amap (keysT h ++ [atmV a]) (valsT h ++ [ai m])) = .amap (keysT (putT a m h)) (valsT (putT a m h))
 | []=>rfl
 | x :: h=>by
  have ih:=fdT_put a m h
  rw[fdT,putT]
  by_cases e:a=x.1
  ·rw[if_pos e,if_pos e];rfl
  ·rw[if_neg e,if_neg e]
   cases hf:fdT a h with
   | none =>
    rw[hf] at ih
    have ih:ABlk.amap (keysT h ++ [atmV a]) (valsT h ++ [ai m])=_:=ih
    injection ih with i1 i2
    show ABlk.amap (atmV x.1 :: (keysT h ++ [atmV a])) (ai x.2 :: (valsT h ++ [ai m]))=_
    rw[i1,i2];rfl
   | some i =>
    rw[hf] at ih
    have ih:ABlk.amap (keysT h) ((valsT h).set i (ai m))=_:=ih
    injection ih with i1 i2
    show ABlk.amap (atmV x.1 :: keysT h) (ai x.2 :: (valsT h).set i (ai m))=_
    rw[i1,i2];rfl
theorem mput_T (a:Atm) (m:Int) (h:Tms):mput (atmV a) (ai m) (keysT h) (valsT h) = .amap (keysT (putT a m h)) (valsT (putT a m h)):=by
 unfold mput
 rw[mfind_T]
 exact fdT_put a m h
theorem fdT_del (a:Atm):∀h,(match fdT a h with|some i=>ABlk.amap ((keysT h).eraseIdx i) ((valsT h).eraseIdx i)|none => .amap (keysT h) (valsT h)) = .amap (keysT (delT a h)) (valsT (delT a h))
 | []=>rfl
 | x :: h=>by
  have ih:=fdT_del a h
  rw[fdT,delT]
  by_cases e:a=x.1
  ·rw[if_pos e,if_pos e];rfl
  ·rw[if_neg e,if_neg e]
   cases hf:fdT a h with
   | none =>
    rw[hf] at ih
    have ih:ABlk.amap (keysT h) (valsT h)=_:=ih
    injection ih with i1 i2
    show ABlk.amap (atmV x.1 :: keysT h) (ai x.2 :: valsT h)=_
    rw[i1,i2];rfl
   | some i =>
    rw[hf] at ih
    have ih:ABlk.amap ((keysT h).eraseIdx i) ((valsT h).eraseIdx i)=_:=ih
    injection ih with i1 i2
    show ABlk.amap (atmV x.1 :: (keysT h).eraseIdx i) (ai x.2 :: (valsT h).eraseIdx i)=_
    rw[i1,i2];rfl
theorem mdel_T (a:Atm) (h:Tms):mdel (atmV a) (keysT h) (valsT h) = .amap (keysT (delT a h)) (valsT (delT a h)):=by
 unfold mdel
 rw[mfind_T]
 exact fdT_del a h
theorem del_put (a:Atm) (m:Int):∀h,delT a (putT a m h)=delT a h
 | []=>by rw[putT];show (if a=a then [] else _)=_;rw[if_pos rfl];rfl
 | x :: h=>by
  rw[putT,delT]
  by_cases e:a=x.1
  ·rw[if_pos e,if_pos e,delT,if_pos e]
  ·rw[if_neg e,if_neg e,delT,if_neg e,del_put a m h]
def stT (a:Atm) (m:Int) (h:Tms):Tms:=if m=0 then delT a h else putT a m h
def sT (v:Atm→Int):Tms→Int
 | []=>0
 | x :: h=>x.2 * v x.1+sT v h
theorem sT_put (v:Atm→Int) (a:Atm) (m:Int):∀h,sT v (putT a m h)=sT v h+(m - cfT a h) * v a
 | []=>by
  show m * v a+0=0+(m - 0) * v a
  simp
 | x :: h=>by
  rw[putT,cfT]
  by_cases e:a=x.1
  ·rw[if_pos e,if_pos e,sT,sT,e,Int.sub_mul]
   show m * v x.1+sT v h=x.2 * v x.1+sT v h+(m * v x.1 - x.2 * v x.1)
   omega
  ·rw[if_neg e,if_neg e,sT,sT,sT_put v a m h]
   omega
theorem sT_del (v:Atm→Int) (a:Atm):∀h,sT v (delT a h)=sT v h - cfT a h * v a
 | []=>by rw[delT,sT,cfT];simp
 | x :: h=>by
  rw[delT,cfT]
  by_cases e:a=x.1
  ·rw[if_pos e,if_pos e,sT,e]
   omega
  ·rw[if_neg e,if_neg e,sT,sT,sT_del v a h]
   omega
theorem sT_st (v:Atm→Int) (a:Atm) (m:Int) (h:Tms):sT v (stT a m h)=sT v h+(m - cfT a h) * v a:=by
 unfold stT
 split
 ·rename_i e
  rw[sT_del,e,Int.sub_mul]
  omega
 ·exact sT_put v a m h
structure OkT (h:Tms):Prop where
 nd:(h.map Prod.fst).Nodup
 co:∀x ∈ h,x.2 ≠ 0∧NumB x.2
theorem cfT_num {a:Atm} : ∀ {h:Tms},(∀x ∈ h,x.2 ≠ 0∧NumB x.2)→NumB (cfT a h)
 | [],_=>by unfold cfT NumB;decide
 | x :: h,hc=>by
  rw[cfT]
  split
  ·exact(hc x (by simp)).2
  ·exact cfT_num fun y hy=>hc y (List.mem_cons_of_mem _ hy)
theorem putT_mem {a:Atm} {m:Int} : ∀ {h:Tms} {x:Atm × Int},x ∈ putT a m h→x=(a,m)∨x ∈ h
 | [],x,hx=>by rw[putT] at hx;exact .inl (List.mem_singleton.1 hx)
 | y :: h,x,hx=>by
  rw[putT] at hx
  split at hx
  ·rename_i e
   rcases List.mem_cons.1 hx with rfl|hx
   ·rw[← e];exact .inl rfl
   ·exact .inr (List.mem_cons_of_mem _ hx)
  ·rcases List.mem_cons.1 hx with rfl|hx
   ·exact .inr (by simp)
   ·rcases putT_mem hx with h1|h1
    ·exact .inl h1
    ·exact .inr (List.mem_cons_of_mem _ h1)
theorem putT_nd {a:Atm} {m:Int} : ∀ {h:Tms},(h.map Prod.fst).Nodup→((putT a m h).map Prod.fst).Nodup
 | [],_=>by rw[putT];simp
 | y :: h,hn=>by
  rw[putT]
  rw[List.map_cons,List.nodup_cons] at hn
  split
  ·rw[List.map_cons,List.nodup_cons];exact hn
  ·rename_i e
   rw[List.map_cons,List.nodup_cons]
   refine⟨fun hm => ?_,putT_nd hn.2⟩
   obtain⟨x,hx,hxe⟩:=List.mem_map.1 hm
   rcases putT_mem hx with rfl|hx
   ·exact e hxe
   ·exact hn.1 (List.mem_map.2 ⟨x,hx,hxe⟩)
theorem delT_sub (a:Atm):∀h:Tms,List.Sublist (delT a h) h
 | []=>List.Sublist.refl _
 | x :: h=>by
  rw[delT]
  split
  ·exact List.sublist_cons_self _ _
  ·exact(delT_sub a h).cons_cons _
theorem st_ok {a:Atm} {m:Int} {h:Tms} (hk:OkT h) (hm:NumB m):OkT (stT a m h)∧∀x ∈ stT a m h,x.1=a∨x ∈ h:=by
 unfold stT
 split
 ·exact⟨⟨hk.nd.sublist ((delT_sub a h).map _),fun x hx=>hk.co x ((delT_sub a h).mem hx)⟩,fun x hx => .inr ((delT_sub a h).mem hx)⟩
 ·rename_i h0
  refine⟨⟨putT_nd hk.nd,fun x hx => ?_⟩,fun x hx => ?_⟩
  ·rcases putT_mem hx with rfl|hx
   ·exact⟨h0,hm⟩
   ·exact hk.co x hx
  ·rcases putT_mem hx with rfl|hx
   ·exact .inl rfl
   ·exact .inr hx
theorem cfT_no {a:Atm} : ∀ {h:Tms},a ∉ h.map Prod.fst→cfT a h=0
 | [],_=>rfl
 | x :: h,hn=>by
  rw[List.map_cons,List.mem_cons,not_or] at hn
  rw[cfT,if_neg hn.1,cfT_no hn.2]
theorem cfT_mem {a:Atm} {n:Int} : ∀ {h:Tms},(h.map Prod.fst).Nodup→(a,n) ∈ h→cfT a h=n
 | x :: h,hn,hm=>by
  rw[List.map_cons,List.nodup_cons] at hn
  rw[cfT]
  rcases List.mem_cons.1 hm with rfl|hm
  ·rw[if_pos rfl]
  ·rw[if_neg (fun e:a=x.1=>hn.1 (by rw[← e];exact List.mem_map.2 ⟨(a,n),hm,rfl⟩)),cfT_mem hn.2 hm]
theorem cfT_in {a:Atm} : ∀ {h:Tms},cfT a h ≠ 0→(a,cfT a h) ∈ h
 | [],hc=>absurd rfl hc
 | x :: h,hc=>by
  rw[cfT] at hc ⊢
  by_cases e:a=x.1
  ·rw[if_pos e,e];exact List.mem_cons_self
  ·rw[if_neg e] at hc ⊢;exact List.mem_cons_of_mem _ (cfT_in hc)
theorem sT_ind (a:Atm):∀ {h:Tms},(h.map Prod.fst).Nodup→sT (fun b=>if b=a then 1 else 0) h=cfT a h
 | [],_=>rfl
 | x :: h,hn=>by
  rw[List.map_cons,List.nodup_cons] at hn
  rw[sT,sT_ind a hn.2,cfT]
  by_cases e:a=x.1
  ·rw[if_pos e,if_pos e.symm,e,cfT_no hn.1];omega
  ·rw[if_neg e,if_neg (fun h=>e h.symm)];omega
theorem cfT_put (a b:Atm) (m:Int) (hne:a ≠ b):∀h,cfT a (putT b m h)=cfT a h
 | []=>by
  rw[putT]
  show (if a=b then m else 0)=0
  rw[if_neg hne]
 | x :: h=>by
  rw[putT]
  split
  ·rename_i e
   rw[cfT,cfT]
   have hx:¬a=x.1:=fun h=>hne (h.trans e.symm)
   rw[if_neg hx,if_neg hx]
  ·rw[cfT,cfT,cfT_put a b m hne h]
theorem cfT_del (a b:Atm) (hne:a ≠ b):∀h,cfT a (delT b h)=cfT a h
 | []=>rfl
 | x :: h=>by
  rw[delT]
  split
  ·rename_i e
   rw[cfT,if_neg (fun h=>hne (h.trans e.symm))]
  ·rw[cfT,cfT,cfT_del a b hne h]
theorem cfT_st (a b:Atm) (m:Int) (hne:a ≠ b) (h:Tms):cfT a (stT b m h)=cfT a h:=by
 unfold stT
 split
 ·exact cfT_del a b hne h
 ·exact cfT_put a b m hne h
structure EqT (h g:Tms):Prop where
 l:OkT h
 r:OkT g
 eq:∀v,sT v h=sT v g
theorem EqT.cf {h g:Tms} (e:EqT h g) (a:Atm):cfT a h=cfT a g:=by rw[← sT_ind a e.l.nd,← sT_ind a e.r.nd,e.eq]
theorem EqT.symm {h g:Tms} (e:EqT h g):EqT g h:=⟨e.r,e.l,fun v=>(e.eq v).symm⟩
theorem EqT.trans {h g f:Tms} (e:EqT h g) (e':EqT g f):EqT h f:=⟨e.l,e'.r,fun v=>(e.eq v).trans (e'.eq v)⟩
theorem EqT.refl {h:Tms} (e:OkT h):EqT h h:=⟨e,e,fun _=>rfl⟩
theorem EqT.mem {h g:Tms} (e:EqT h g) {x:Atm × Int} (hx:x ∈ h):x ∈ g:=by
 have h1:cfT x.1 h=x.2:=cfT_mem e.l.nd hx
 have h2:=e.cf x.1
 have h3:=cfT_in (a:=x.1) (h:=g) (by rw[← h2,h1];exact(e.l.co x hx).1)
 rw[← h2,h1] at h3
 exact h3
theorem nodup_fst {h:Tms} (hn:(h.map Prod.fst).Nodup):h.Nodup:=List.Pairwise.of_map Prod.fst (fun _ _ hab e=>hab (by rw[e])) hn
theorem EqT.perm {h g:Tms} (e:EqT h g):h.Perm g:=(List.perm_ext_iff_of_nodup (nodup_fst e.l.nd) (nodup_fst e.r.nd)).2 fun _=>⟨e.mem,e.symm.mem⟩
theorem EqT.nil {h g:Tms} (e:EqT h g):h=[]↔g=[]:=by rw[← List.length_eq_zero_iff,← List.length_eq_zero_iff,e.perm.length_eq]
def okA (k c d:Int) (f g:Tms):Bool:=(sumF k c d).2 && g.all fun x=>(sumF k (cfT x.1 f) x.2).2
def addT (k:Int) (f:Tms):Tms→Tms
 | []=>f
 | x :: g=>stT x.1 (sumF k (cfT x.1 f) x.2).1 (addT k f g)
theorem all_perm {α:Type} {p:α→Bool} {a b:List α} (h:a.Perm b):a.all p=b.all p:=by
 rw[Bool.eq_iff_iff,List.all_eq_true,List.all_eq_true]
 exact⟨fun g x hx=>g x (h.mem_iff.2 hx),fun g x hx=>g x (h.mem_iff.1 hx)⟩
theorem okA_eq {k c d:Int} {f f' g g':Tms} (hf:EqT f f') (hg:EqT g g'):okA k c d f g=okA k c d f' g':=by
 unfold okA
 rw[all_perm hg.perm]
 simp only[hf.cf]
theorem sumF_num (k x y:Int):NumB (sumF k x y).1:=by
 unfold sumF
 split
 ·unfold NumB;decide
 ·show NumB (if _ then _ else _)
  split
  ·assumption
  ·unfold NumB;decide
theorem sumF_ok {k x y:Int} (h:(sumF k x y).2=true):(sumF k x y).1=x+k * y:=by
 unfold sumF at *
 split at h
 ·cases h
 ·rename_i h1
  have h2:(mulF k y).2=0:=by simpa using h1
  have h3:(mulF k y).1=k * y:=by
   unfold mulF at *
   split at h2
   ·rename_i h4
    rw[if_pos h4]
    rcases h4 with rfl|rfl <;> simp
   ·rename_i h4
    rw[if_neg h4]
    split at h2
    ·exact absurd h2 (by decide)
    ·rename_i h5
     rw[if_neg h5]
  have h4:NumB (x+(mulF k y).1):=of_decide_eq_true h
  rw[if_neg h1]
  show (if _ then _ else _)=_
  rw[if_pos h4,h3]
theorem addT_cf (k:Int) (f:Tms) (a:Atm):∀g:Tms,a ∉ g.map Prod.fst→cfT a (addT k f g)=cfT a f
 | [],_=>rfl
 | x :: g,hn=>by
  rw[List.map_cons,List.mem_cons,not_or] at hn
  rw[addT,cfT_st _ _ _ hn.1,addT_cf k f a g hn.2]
theorem addT_ok (k:Int) {f:Tms} (hf:OkT f):∀g:Tms,OkT (addT k f g)
 | []=>hf
 | x :: g=>(st_ok (addT_ok k hf g) (sumF_num _ _ _)).1
theorem addT_s {k:Int} {f:Tms} (v:Atm→Int):∀g:Tms,(g.map Prod.fst).Nodup→(g.all fun x=>(sumF k (cfT x.1 f) x.2).2)=true→sT v (addT k f g)=sT v f+k * sT v g
 | [],_,_=>by show sT v f=sT v f+k * 0;simp
 | x :: g,hn,ha=>by
  rw[List.map_cons,List.nodup_cons] at hn
  rw[List.all_cons,Bool.and_eq_true] at ha
  rw[addT,sT_st,addT_s v g hn.2 ha.2,addT_cf k f _ g hn.1,sumF_ok ha.1,sT,Int.mul_add]
  have e:cfT x.1 f+k * x.2 - cfT x.1 f=k * x.2:=by omega
  rw[e,Int.mul_assoc]
  omega
def a0:Atm × Int:=((0,0,0,ByteArray.empty),0)
def sumI:List Int→Int
 | []=>0
 | x :: l=>x+sumI l
theorem sumI_app:∀a b,sumI (a ++ b)=sumI a+sumI b
 | [],b=>by rw[List.nil_append,sumI];omega
 | x :: a,b=>by rw[List.cons_append,sumI,sumI,sumI_app a b];omega
theorem sumI_perm {a b:List Int} (h:a.Perm b):sumI a=sumI b:=by
 induction h with
 | nil=>rfl
 | cons x _ ih=>rw[sumI,sumI,ih]
 | swap x y l=>rw[sumI,sumI,sumI,sumI];omega
 | trans _ _ h1 h2=>exact h1.trans h2
def visT (v:Atm→Int) (g:Tms) (vis:List Nat):Int:=sumI (vis.map fun i=>(g.getD i a0).2 * v (g.getD i a0).1)
theorem visT_snoc (v:Atm→Int) (g:Tms) (vis:List Nat) (i:Nat):visT v g (vis ++ [i])=visT v g vis+(g.getD i a0).2 * v (g.getD i a0).1:=by
 unfold visT
 rw[List.map_append,sumI_app]
 show _+((g.getD i a0).2 * v (g.getD i a0).1+0)=_
 omega
theorem visT_range (v:Atm→Int):∀g:Tms,visT v g (List.range g.length)=sT v g
 | []=>rfl
 | x :: g=>by
  have ih:=visT_range v g
  unfold visT at *
  rw[List.length_cons,List.range_succ_eq_map,List.map_cons,List.map_map,sumI,sT,← ih]
  rfl
theorem visT_all {v:Atm→Int} {g:Tms} {vis:List Nat} (hn:vis.Nodup) (hl:∀i ∈ vis,i<g.length) (ha:∀i,i<g.length→i ∈ vis):visT v g vis=sT v g:=by
 rw[← visT_range]
 have hp:vis.Perm (List.range g.length):=(List.perm_ext_iff_of_nodup hn List.nodup_range).2 fun i=>⟨fun h=>List.mem_range.2 (hl i h),fun h=>ha i (List.mem_range.1 h)⟩
 exact sumI_perm (hp.map _)
theorem keysT_getD {g:Tms} {i:Nat} (hi:i<g.length):(keysT g).getD i undef=atmV g[i].1:=by
 unfold keysT
 rw[List.getD_eq_getElem?_getD,List.getElem?_map,List.getElem?_eq_getElem hi];rfl
theorem valsT_getD {g:Tms} {i:Nat} (hi:i<g.length):(valsT g).getD i .any=ai g[i].2:=getD_map (f:=fun x:Atm × Int=>ai x.2) hi
theorem getD_a0 {g:Tms} {i:Nat} (hi:i<g.length):g.getD i a0=g[i]:=by rw[List.getD_eq_getElem?_getD,List.getElem?_eq_getElem hi];rfl
def seenT (k:Int) (f g:Tms) (vis:List Nat):Bool:=vis.all fun i=>(sumF k (cfT (g.getD i a0).1 f) (g.getD i a0).2).2
def AddI (k c d:Int) (f g:Tms) (vis:List Nat) (h:Tms) (ok:Bool):Prop :=
 OkT h∧(∀x ∈ h,x.1 ∈ f.map Prod.fst∨x.1 ∈ g.map Prod.fst)∧(ok=true→(sumF k c d).2=true∧∀v,sT v h=sT v f+k * visT v g vis)∧(∀(j:Nat) (hj:j<g.length),j ∉ vis→cfT g[j].1 h=cfT g[j].1 f)∧ok=((sumF k c d).2 && seenT k f g vis)
theorem getD_ne {g:Tms} (hn:(g.map Prod.fst).Nodup) {i j:Nat} (hi:i<g.length) (hj:j<g.length) (h:i ≠ j):g[i].1 ≠ g[j].1:=by
 intro e
 apply h
 have h1:(g.map Prod.fst)[i]'(by rw[List.length_map];exact hi)=(g.map Prod.fst)[j]'(by rw[List.length_map];exact hj):=by rw[List.getElem_map,List.getElem_map,e]
 exact(List.getElem_inj hn).1 h1
theorem addI_step {k c d:Int} {f g:Tms} {vis:List Nat} {h:Tms} {ok:Bool} (hg:OkT g) (hI:AddI k c d f g vis h ok) {i:Nat} (hi:i<g.length) (hv:i ∉ vis) :
  AddI k c d f g (vis ++ [i]) (stT g[i].1 (sumF k (cfT g[i].1 h) g[i].2).1 h) (ok && (sumF k (cfT g[i].1 h) g[i].2).2):=by
 obtain⟨h1,h2,h3,h6,h7⟩:=hI
 obtain⟨g1,g2⟩:=st_ok (a:=g[i].1) (m:=(sumF k (cfT g[i].1 h) g[i].2).1) h1 (sumF_num _ _ _)
 refine⟨g1,fun x hx => ?_,fun he => ?_,fun j hj hjv => ?_,?_⟩
 ·rcases g2 x hx with e|hx
  ·rw[e];exact .inr (List.mem_map.2 ⟨_,List.getElem_mem hi,rfl⟩)
  ·exact h2 x hx
 ·rw[Bool.and_eq_true] at he
  obtain⟨h4,h5⟩:=h3 he.1
  refine⟨h4,fun v => ?_⟩
  have e1:=sumF_ok he.2
  rw[sT_st,h5 v,visT_snoc,getD_a0 hi,e1,Int.mul_add]
  generalize g[i].2=n at *
  generalize cfT g[i].1 h=m at *
  generalize v g[i].1=w at *
  have e2:m+k * n - m=k * n:=by omega
  rw[e2,Int.mul_assoc]
  omega
 ·rw[List.mem_append,List.mem_singleton,not_or] at hjv
  rw[cfT_st _ _ _ (getD_ne hg.nd hj hi hjv.2),h6 j hj hjv.1]
 ·rw[h7,h6 i hi hv]
  unfold seenT
  rw[List.all_append,List.all_cons,List.all_nil,Bool.and_true,getD_a0 hi,Bool.and_assoc]
theorem seen_all {k:Int} {f g:Tms} {vis:List Nat} (hl:∀i ∈ vis,i<g.length) (ha:∀i,i<g.length→i ∈ vis):seenT k f g vis=g.all fun x=>(sumF k (cfT x.1 f) x.2).2:=by
 unfold seenT
 rw[Bool.eq_iff_iff,List.all_eq_true,List.all_eq_true]
 refine⟨fun h x hx => ?_,fun h i hi => ?_⟩
 ·obtain⟨i,hi,rfl⟩:=List.getElem_of_mem hx
  have:=h i (ha i hi)
  rwa [getD_a0 hi] at this
 ·rw[getD_a0 (hl i hi)]
  exact h _ (List.getElem_mem _)
set_option maxHeartbeats 1000000 in
theorem classify_add (c d k:Int) (f g:Tms) (hc:NumB c) (hd:NumB d) (hk:NumB k) (hf:OkT f) (hg:OkT g) :
  MCalls Proofs.Tryz.prog 170 [.agg [ai c,mapT f],.agg [ai d,mapT g],ai k] [] fun r L=>L=[]∧∃h ok,r = .tup [.agg [ai (sumF k c d).1,mapT h],ab ok]∧OkT h∧(∀x ∈ h,x.1 ∈ f.map Prod.fst∨x.1 ∈ g.map Prod.fst)∧(ok=true→(sumF k c d).2=true∧∀v,sT v h=sT v f+k * sT v g)∧ok=okA k c d f g:=by
 have hcl:=maps_Clone (keysT f) (valsT f)
 have h0:=classify_add1 k c d hk hc hd
 have hN:=fun (x y:Int) hx hy=>classify_add1 k x y hk hx hy
 have hI0:AddI k c d f g [] f (sumF k c d).2:=⟨hf,fun x hx => .inl (List.mem_map.2 ⟨x,hx,rfl⟩),fun h=>⟨h,fun v=>by show _=_+k * 0;simp⟩,fun _ _ _=>rfl,by unfold seenT;simp⟩
 have hfits:=keysT_fits
 unfold mapT
 refine MCalls.enter' 63 [.cell 6 173,.tmp 7] [3,4,5,11] Proofs.Tryz.func170 rfl rfl rfl rfl rfl (by simp) (AWp.of ?_);simp only[go_sem]
 intro b6
 refine Wk ?_
 refine(MVal.nd (MVal.frame (Lm:=[]) (Lr:=_) hcl.val)).mono ?_
 rintro r L ⟨hnd,L1,rfl,bm,rfl,rfl⟩
 simp only[go_sem]
 intro b8 g1 g2
 have hm6:¬bm=b6:=by simp at hnd;exact hnd
 have n1:¬b6=bm:=fun e=>hm6 e.symm
 have n2:¬b8=bm:=by omega
 have n3:¬bm=b8:=by omega
 have n4:¬b8=b6:=by omega
 have n5:¬b6=b8:=by omega
 have h0:=PC.clo (args:=[_,_]) (caps:=[_]) h0
 refine Sd ?_
 refine W6 hm6 n1 n2 n3 n4 n5 ?_
 refine Sd ?_
 refine(h0).use ?_;simp only[go_sem,hm6,n1,n2,n3,n4,n5]
 refine W6 hm6 n1 n2 n3 n4 n5 ?_
 refine AOp.rangeMap (ks:=keysT g) (vs:=valsT g) (kt:=177) (et:=3) rfl (tinfo_atoms) (fun i hi=>by cases hi;decide) rfl ?_
 intro bi g3
 simp only[go_sem] at g3 ⊢
 have m1:¬bi=b8:=by omega
 have m2:¬b8=bi:=by omega
 have m3:¬bi=bm:=by omega
 have m4:¬bm=bi:=by omega
 have m5:¬bi=b6:=by omega
 have m6:¬b6=bi:=by omega
 refine W6 hm6 n1 n2 n3 n4 n5 ?_
 refine AWp.block (AWp.loopN [10] [6,8,9,32] (fun m vs L=>∃vis h ok,m=g.length - vis.length∧vis.Nodup∧(∀i ∈ vis,i<g.length)∧vs=[ab ok]∧L=[(bi,.iter (keysT g) (valsT g) vis),(b8,.row 173 2 [.agg [ai (sumF k c d).1,.lm bm]] 1),(bm,.amap (keysT h) (valsT h)),(b6,.row 173 2 [.agg [ai 0,.v (.map none)]] 1)]∧AddI k c d f g vis h ok) g.length ⟨[],f,_,rfl,.nil,by simp,rfl,rfl,hI0⟩ ?_)
 rintro m vs L - ⟨vis,h,ok,rfl,hvn,hvl,rfl,rfl,hI⟩
 simp only[go_sem]
 refine Sd ?_
 refine AWp.of ?_;simp only[go_sem,m1,m2,m3,m4,m5,m6]
 refine AOp.nextMap (ks:=keysT g) (vs:=valsT g) (vis:=vis) (b:=bi) rfl ?_ rfl (if_pos rfl) (fun hall => ?_) ?_
 ·intro i hi;cases hi;decide
 ·rw[keysT_len] at hall
  have hva:=fun v=>visT_all (v:=v) hvn hvl hall
  simp only[go_sem]
  repeat(first|((with_reducible refine AWp.ofC ?_ ?_);exact rfl;simp only[go_sem,m1,m2,m3,m4,m5,m6,hm6,n1,n2,n3,n4,n5])|((with_reducible refine an ?_ ?_);exact Au))
  refine ret_viewK [false,false,true,false] (.tup [.agg [ai (sumF k c d).1,.rm (keysT h) (valsT h)],ab ok]) ⟨rfl,h,ok,rfl,hI.1,hI.2.1,fun e=>⟨(hI.2.2.1 e).1,fun v=>by rw[(hI.2.2.1 e).2 v,hva]⟩,by rw[hI.2.2.2.2,seen_all hvl hall];rfl⟩ ?_
  simp only[go_sem,m1,m2,m3,m4,m5,m6,hm6,n1,n2,n3,n4,n5]
  exact .mkTup (Vws.cons (.mkAgg (Vws.cons (.refl _) (Vws.cons (.lm (if_pos rfl) rfl (Vws.refl _).2) .nil))) (Vws.refl _))
 ·intro i hi hn
  rw[keysT_len] at hi
  have hI':=addI_step hg hI hi hn
  have hN:=PC.clo (args:=[_,_]) (caps:=[_]) (hN (cfT g[i].1 h) g[i].2 (cfT_num hI.1.co) (hg.co _ (List.getElem_mem hi)).2)
  have hlen:(vis ++ [i]).length≤g.length:=by
   have hnd':(vis ++ [i]).Nodup:=List.nodup_append.2 ⟨hvn,by simp,fun a ha b hb=>by rw[List.mem_singleton.1 hb];rintro rfl;exact hn ha⟩
   have:=List.Nodup.length_le_of_subset hnd' (l₂:=List.range g.length) (fun j hj=>by
    rcases List.mem_append.1 hj with hj|hj
    ·exact List.mem_range.2 (hvl j hj)
    ·rw[List.mem_singleton.1 hj];exact List.mem_range.2 hi)
   rwa [List.length_range] at this
  rw[List.length_append,List.length_singleton] at hlen
  simp only[go_sem]
  refine W6 m1 m2 m3 m4 m5 m6 ?_
  refine AOp.entryMap (ks:=keysT g) (vs:=valsT g) (vis:=vis) (i:=i) (b:=bi) rfl ?_ rfl (if_pos rfl) ?_
  ·intro i hi;cases hi;decide
  simp only[go_sem,keysT_getD hi,valsT_getD hi,zav_atmV]
  intro b11 g4 g5 g6 g7
  have q1:¬bi=b11:=by omega
  have q2:¬b11=bi:=by omega
  have q3:¬b8=b11:=by omega
  have q4:¬b11=b8:=by omega
  have q5:¬bm=b11:=by omega
  have q6:¬b11=bm:=by omega
  have q7:¬b6=b11:=by omega
  have q8:¬b11=b6:=by omega
  generalize sumF k (cfT g[i].1 h) g[i].2=S at *
  generalize hxe:g[i].1=x at *
  have hgt:=mget_T x h
  have hpt:=fun m=>mput_T x m h
  have hfh:=hfits h
  refine Sd ?_
  repeat(first|((with_reducible refine AWp.ofC ?_ ?_);exact rfl;simp only[go_sem,atm_key,atmV_fits,hfh,hgt,m1,m2,m3,m4,m5,m6,hm6,n1,n2,n3,n4,n5,q1,q2,q3,q4,q5,q6,q7,q8])|((with_reducible refine an ?_ ?_);exact Au))
  refine Sd ?_
  refine(hN).use ?_;simp only[go_sem,atm_key,atmV_fits,hfh,hgt,m1,m2,m3,m4,m5,m6,hm6,n1,n2,n3,n4,n5,q1,q2,q3,q4,q5,q6,q7,q8]
  repeat(first|((with_reducible refine AWp.ofC ?_ ?_);exact rfl;simp only[go_sem,atm_key,atmV_fits,hfh,hpt,m1,m2,m3,m4,m5,m6,hm6,n1,n2,n3,n4,n5,q1,q2,q3,q4,q5,q6,q7,q8])|((with_reducible refine an ?_ ?_);exact Au))
  have hvn':(vis ++ [i]).Nodup:=List.nodup_append.2 ⟨hvn,by simp,fun a ha b hb=>by rw[List.mem_singleton.1 hb];rintro rfl;exact hn ha⟩
  have hvl':∀j ∈ vis ++ [i],j<g.length:=fun j hj=>by
   rcases List.mem_append.1 hj with hj|hj
   ·exact hvl j hj
   ·rw[List.mem_singleton.1 hj];exact hi
  have hll:g.length - (vis ++ [i]).length<g.length - vis.length:=by rw[List.length_append,List.length_singleton];omega
  refine⟨fun h0 => ?_,fun h0 => ?_⟩
  ·have hst:stT x S.1 h=delT x h:=by unfold stT;rw[if_pos h0]
   rw[hst] at hI'
   refine AOp.deleteMap (kt:=177) (et:=3) (κ:=KK.st [.int,.int,.int,.str]) (kv:=atmV x) (b:=bm) (ks:=keysT (putT x S.1 h)) (vs:=valsT (putT x S.1 h)) rfl rfl rfl rfl (fun i hi=>by cases hi) tinfo_atoms (by simp only[go_sem]) rfl (by simp only[go_sem,m1,m2,m3,m4,m5,m6,hm6,n1,n2,n3,n4,n5,q1,q2,q3,q4,q5,q6,q7,q8]) (by simp only[go_sem]) (by simp only[go_sem];rfl) (atmV_fits x) (hfits _) ?_
   rw[mdel_T,del_put]
   simp only[go_sem,m1,m2,m3,m4,m5,m6,hm6,n1,n2,n3,n4,n5,q1,q2,q3,q4,q5,q6,q7,q8]
   repeat(first|((with_reducible refine AWp.ofC ?_ ?_);exact rfl;simp only[go_sem,m1,m2,m3,m4,m5,m6,hm6,n1,n2,n3,n4,n5,q1,q2,q3,q4,q5,q6,q7,q8])|((with_reducible refine an ?_ ?_);exact Au))
   exact⟨_,List.Sublist.refl _,_,hll,vis ++ [i],_,_,rfl,hvn',hvl',rfl,rfl,hI'⟩
  ·have hst:stT x S.1 h=putT x S.1 h:=by unfold stT;rw[if_neg h0]
   rw[hst] at hI'
   exact⟨_,List.Sublist.refl _,_,hll,vis ++ [i],_,_,rfl,hvn',hvl',rfl,rfl,hI'⟩
end Go.AL
end
