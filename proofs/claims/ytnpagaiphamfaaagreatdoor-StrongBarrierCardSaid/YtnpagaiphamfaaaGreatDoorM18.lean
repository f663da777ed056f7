/- Texts of this claim's proof: WQh, WQi, WQj, WQk, WQl, WQm, WMe, WQn, WU2, WNg, WNf, AlWrp, AlRng, WMf, WNd2, WNh, WNi, WNj. No condition. -/
import Derived.Test.YtnpagaiphamfaaaGreatDoorM17
import Derived.Test.YtnpagaiphamfaaaGreatDoorM16
import Derived.Test.YtnpagaiphamfaaaGreatDoorM15
import Derived.Test.YtnpagaiphamfaaaGreatDoorM4
import Derived.Test.YtnpagaiphamfaaaGreatDoorM12
import Derived.Test.YtnpagaiphamfaaaGreatDoorM6
import Derived.Test.YtnpagaiphamfaaaGreatDoorM3
import Derived.Test.YtnpagaiphamfaaaGreatDoorM14
section
namespace Go.AL
open Go Go.RowKit
set_option maxRecDepth 4000
def k8 (z:Int):Int:=IntKind.u8.wrap z
def keyS (c:List Int):ByteArray:=bytesS (c.map k8)
theorem run_key (c:List Int) (hc:c.length≤1000000):PC Proofs.Tryz.prog 59 [aInts c] (.v (.string (keyS c))):=by
 refine PC.enter 23 [.tmp 2] [18] Proofs.Tryz.func59 rfl rfl rfl rfl rfl (by simp) (AWp.of ?_);simp only[go_sem]
 refine Wk ?_
 refine Sd ?_
 intro b8
 refine Wk ?_
 refine AWp.range' c.length [3] [9,10] (fun k vs L=>∃b cap ys,vs=[.ls b 1 0 k cap]∧L=[(b,.row 5 1 ys cap)]∧k≤ys.length∧ys.take k=((c.map k8).map a8).take k) (by omega) rfl rfl rfl ⟨_,_,_,rfl,rfl,Nat.zero_le _,rfl⟩ ?_ ?_
 ·rintro k vs L hk - ⟨b,cap,ys,rfl,rfl,hy1,hy2⟩
  have hg:=getD_map (f:=ai) hk
  simp only[go_sem]
  refine W1 hg ?_
  intro b' cap' hc'
  refine⟨_,List.Sublist.refl _,b',cap',_,rfl,rfl,?_,?_⟩
  ·rw[List.length_append,List.length_take];simp only[List.length_cons,List.length_nil];omega
  ·have e:((c.take (k+1)).map k8).map a8=((c.take k).map k8).map a8 ++ [.v (.int .u8 (IntKind.u8.wrap c[k]))]:=by
    rw[List.take_succ_eq_append_getElem hk,List.map_append,List.map_append];rfl
   rw[e,List.take_of_length_le (by rw[List.length_append,List.length_take];simp only[List.length_cons,List.length_nil];omega)]
   rw[← List.map_take,← List.map_take] at hy2
   rw[hy2]
 ·rintro vs L - ⟨b,cap,ys,rfl,rfl,hy1,hy2⟩
  have hy3:ys.take c.length=(c.map k8).map a8:=by
   rw[hy2];exact List.take_of_length_le (by simp)
  simp only[go_sem]
  repeat(first|((with_reducible refine AWp.ofC ?_ ?_);exact rfl;simp only[go_sem,hy3,bytesOf_map])|((with_reducible refine an ?_ ?_);exact Au))
  refine ret_eq ?_;simp only[go_sem]
  rfl
theorem bytesS_eq (l:List Int):bytesS l=⟨(l.map fun n=>UInt8.ofNat n.toNat).toArray⟩:=by
 unfold bytesS
 have:∀(l:List Int) (r:ByteArray),l.foldl (fun r n=>r.push (UInt8.ofNat n.toNat)) r=⟨r.data ++ (l.map fun n=>UInt8.ofNat n.toNat).toArray⟩:=fun l=>by
  induction l with
  | nil=>intro r;simp
  | cons n l ih=>intro r;rw[List.foldl_cons,ih];simp [ByteArray.push]
 rw[this]
 have h0:ByteArray.empty.data = #[]:=rfl
 rw[h0];simp
theorem keyS_inj {c d:List Int} (hc:∀z ∈ c,0≤z∧z≤255) (hd:∀z ∈ d,0≤z∧z≤255) (h:keyS c=keyS d):c=d:=by
 unfold keyS at h
 rw[bytesS_eq,bytesS_eq] at h
 have h1:(c.map k8).map (fun n=>UInt8.ofNat n.toNat)=(d.map k8).map (fun n=>UInt8.ofNat n.toNat):=by
  have:=congrArg (fun b=>b.data.toList) h
  simpa using this
 have e:∀l:List Int,(∀z ∈ l,0≤z∧z≤255)→l.map k8=l:=fun l hl=>by
  refine(List.map_congr_left fun z hz => ?_).trans (List.map_id _)
  exact IntWalk.u8_in z (hl z hz)
 rw[e c hc,e d hd] at h1
 apply List.ext_getElem (by have:=congrArg List.length h1;rw[List.length_map,List.length_map] at this;exact this)
 intro i g1 g2
 have h2:=List.getElem_of_eq h1 (i:=i) (by rw[List.length_map];exact g1)
 rw[List.getElem_map,List.getElem_map] at h2
 have a1:=hc _ (List.getElem_mem g1)
 have a2:=hd _ (List.getElem_mem g2)
 have h3:=congrArg UInt8.toNat h2
 rw[UInt8.toNat_ofNat',UInt8.toNat_ofNat'] at h3
 omega
theorem isF_byte {ps:List Pr} (hv:validF ps=true) {c:List Int} (hc:isF ps c=true):∀z ∈ c,0≤z∧z≤255:=fun z hz=>by
 obtain⟨h1,h2,_⟩:=isF_iff.1 hc
 obtain⟨i,hi,rfl⟩:=List.getElem_of_mem hz
 have h3:=(inRange_iff h1).1 h2 i (by omega)
 have h4:=((procF_parts (show i<ps.length by omega)).1 (procF_of_valid hv (by omega))).2.2.2
 rw[cAt_nat hi] at h3
 omega
theorem mayF_nat {ps:List Pr} {c:List Int} (hc:c.length=ps.length) {p:Nat} (hp:p<c.length):mayF ps c p=rdyF ps c p:=by
 unfold mayF
 rw[decide_eq_true ⟨by omega,by omega⟩,Bool.true_and]
 have:((p:Int)).toNat=p:=by omega
 rw[this]
noncomputable def isR (ps:List Pr) (r:List (List Int)):Bool:=validF ps && isRunF ps r
end Go.AL
end
section
namespace Go.AL
open Go Go.RowKit
theorem fits_str (s:ByteArray):(KK.sc .str).fits (.string s)=true:=rfl
attribute [go_sem] fits_str
structure MpS (ks:List Value) (vs:List AV) (z:AV) (f:ByteArray→AV):Prop where
 fits:ks.all (KK.sc .str).fits=true
 len:vs.length=ks.length
 get:∀s,mget (.string s) ks vs z=f s
theorem MpS.nil (z:AV):MpS [] [] z fun _=>z:=⟨rfl,rfl,fun _=>rfl⟩
theorem mfind_lt {k:Value} : ∀ {ks:List Value} {i:Nat},mfind k ks=some i→i<ks.length
 | [],_,h=>by cases h
 | k' :: r,i,h=>by
  unfold mfind at h
  split at h
  ·cases h;simp
  ·split at h
   ·rename_i j hj;cases h;have:=mfind_lt hj;simp;omega
   ·cases h
theorem seqB_dec' (a b:ByteArray):seqB a b=decide (a=b):=seqB_dec a b
theorem keyB_str {s:ByteArray} {k:Value} (hk:(KK.sc .str).fits k=true):keyB (.string s) k=true↔k = .string s:=by
 have:=vfits_inv (k:=.str) (a:=k) hk
 cases this with
 | str t =>
  show seqB s t=true↔_
  rw[seqB_dec',decide_eq_true_eq]
  exact⟨fun h=>by rw[h],fun h=>by cases h;rfl⟩
theorem mfind_str {s:ByteArray} : ∀ {ks:List Value} (_:ks.all (KK.sc .str).fits=true) {i:Nat},mfind (.string s) ks=some i→ks[i]?=some (.string s)
 | [],_,_,h=>by cases h
 | k' :: r,hf,i,h=>by
  rw[List.all_cons,Bool.and_eq_true] at hf
  unfold mfind at h
  split at h
  ·rename_i hk;cases h;rw[(keyB_str hf.1).1 hk];rfl
  ·split at h
   ·rename_i j hj;cases h;exact mfind_str hf.2 hj
   ·cases h
theorem mfind_app {s t:ByteArray} : ∀ {ks:List Value},mfind (.string t) (ks ++ [.string s])=match mfind (.string t) ks with
  | some i=>some i
  | none=>if t=s then some ks.length else none
 | []=>by
  show (if keyB (.string t) (.string s)=true then some 0 else none)=if t=s then some 0 else none
  show (if seqB t s=true then some 0 else none)=_
  rw[seqB_dec']
  by_cases h:t=s
  ·rw[if_pos h,if_pos (decide_eq_true h)]
  ·rw[if_neg h,if_neg (by rw[decide_eq_false h];simp)]
 | k' :: r=>by
  have ih:=mfind_app (s:=s) (t:=t) (ks:=r)
  rw[List.cons_append]
  unfold mfind
  by_cases h:keyB (.string t) k'=true
  ·rw[if_pos h,if_pos h]
  ·rw[if_neg h,if_neg h,ih]
   cases hm:mfind (.string t) r with
   | some i=>rfl
   | none =>
    simp only
    by_cases e:t=s
    ·rw[if_pos e,if_pos e];simp
    ·rw[if_neg e,if_neg e]
theorem MpS.put {ks:List Value} {vs:List AV} {z:AV} {f:ByteArray→AV} (h:MpS ks vs z f) (s:ByteArray) (x:AV) :
  ∃ks' vs',mput (.string s) x ks vs = .amap ks' vs'∧MpS ks' vs' z fun t=>if t=s then x else f t:=by
 unfold mput
 cases hm:mfind (.string s) ks with
 | some i =>
  refine⟨ks,vs.set i x,rfl,h.fits,by rw[List.length_set];exact h.len,fun t => ?_⟩
  have hi:=mfind_lt hm
  have hl:=h.len
  unfold mget
  by_cases e:t=s
  ·subst e
   rw[hm,if_pos rfl]
   simp only
   rw[List.getD_eq_getElem?_getD,List.getElem?_set,if_pos rfl,if_pos (by omega)];rfl
  ·rw[if_neg e,← h.get t]
   unfold mget
   cases ht:mfind (.string t) ks with
   | none=>rfl
   | some j =>
    simp only
    have h1:=mfind_str h.fits hm
    have h2:=mfind_str h.fits ht
    have hne:i ≠ j:=fun e2=>by
     subst e2
     rw[h1] at h2
     exact e (by have:=Option.some.inj h2;injection this with h3;exact h3.symm)
    rw[List.getD_eq_getElem?_getD,List.getElem?_set_ne hne,← List.getD_eq_getElem?_getD]
 | none =>
  refine⟨ks ++ [.string s],vs ++ [x],rfl,by rw[List.all_append,h.fits];rfl,by rw[List.length_append,List.length_append,h.len];rfl,fun t => ?_⟩
  unfold mget
  rw[mfind_app]
  by_cases e:t=s
  ·subst e
   rw[hm,if_pos rfl]
   simp only
   rw[if_pos trivial,List.getD_eq_getElem?_getD,List.getElem?_append_right (by rw[h.len];exact Nat.le_refl _),h.len,Nat.sub_self];rfl
  ·rw[if_neg e,← h.get t]
   unfold mget
   cases ht:mfind (.string t) ks with
   | none=>simp only;rw[if_neg e]
   | some j =>
    have hj:=mfind_lt ht
    simp only
    rw[if_neg e,List.getD_eq_getElem?_getD,List.getElem?_append_left (by rw[h.len];exact hj),← List.getD_eq_getElem?_getD]
end Go.AL
end
section
namespace Go.AL
open Go Go.RowKit
set_option maxRecDepth 4000
theorem ref24_same (a b:List Int) (ha:a.length≤1000000):PC Proofs.Tryz.prog 111 [aInts a,aInts b] (ab (decide (a=b))):=by
 by_cases hl:a.length=b.length
 ·have hli:(a.length:Int)=b.length:=by omega
  refine PC.enter 26 [.tmp 4] [] Proofs.Tryz.func111 rfl rfl rfl rfl rfl (by simp) (AWp.of ?_);simp only[go_sem]
  refine W1 hli ?_
  refine AWp.block (AWp.count 5 a.length [] [0,1] (fun k vs L=>L=[]∧∀j (h1:j<a.length) (h2:j<b.length),j<k→a[j]=b[j]) rfl rfl ⟨rfl,fun j _ _ h=>by omega⟩ ?_)
  rintro k vs L hk - ⟨rfl,hI⟩
  simp only[go_sem]
  refine W1 hli ?_
  refine⟨fun h3 => ?_,fun h3 => ?_⟩
  ·have hka:k<a.length:=by omega
   have hkb:k<b.length:=by omega
   have ga:=getD_map (f:=ai) hka
   have gb:=getD_map (f:=ai) hkb
   refine AWp.seq (AWp.block (AWp.seq ?_))
   refine AWp.drawn mixed 9 (by kernel_rfl) ?_;simp only[go_sem,ga,gb]
   refine Sd ?_
   refine Wk ?_
   refine⟨fun h4 => ?_,fun h4 => ?_⟩
   ·refine Wk ?_
    refine ret_eq ?_;simp only[go_sem]
    rw[decide_eq_false]
    rintro rfl
    exact h4 rfl
   ·refine Wk ?_
    refine⟨_,List.Sublist.refl _,rfl,fun j j1 j2 hj => ?_⟩
    by_cases e:j=k
    ·subst e;omega
    ·exact hI j j1 j2 (by omega)
  ·refine Wk ?_
   refine ret_eq ?_;simp only[go_sem]
   rw[decide_eq_true]
   exact List.ext_getElem hl fun j j1 j2=>hI j j1 j2 (by omega)
 ·have hli:¬(a.length:Int)=b.length:=by omega
  rw[decide_eq_false fun h=>hl (by rw[h])]
  refine PC.enter 26 [.tmp 4] [] Proofs.Tryz.func111 rfl rfl rfl rfl rfl (by simp) (AWp.of ?_);simp only[go_sem]
  refine W1 hli ?_
  refine ret_eq ?_;simp only[go_sem]
def enI (ps:List Pr) (c:List Int) (k:Nat):List Int:=(enF ps c k).map fun (p:Nat)=>(p:Int)
theorem enI_succ (ps:List Pr) (c:List Int) (k:Nat):enI ps c (k+1)=enI ps c k ++ if rdyF ps c k=true then [(k:Int)] else []:=by
 unfold enI
 rw[enF_succ,List.map_append]
 split <;> rfl
theorem enI_len (ps:List Pr) (c:List Int) (k:Nat):(enI ps c k).length≤k:=by unfold enI;rw[List.length_map];exact enF_len ps c k
theorem ref12_Lengths (ps:List Pr) (hs:Sm ps):PC Proofs.Tryz.prog 112 [aTr ps] (aInts (fullC ps)):=by
 have hl:=hs.procs
 have hy:∀k,k≤ps.length→(((ps.take k).map fun x=>(x.evs.length:Int)).map ai).length=k:=fun k hk=>by simp;omega
 have hys:∀k (hk:k<ps.length),((ps.take (k+1)).map fun x=>(x.evs.length:Int)).map ai=((ps.take k).map fun x=>(x.evs.length:Int)).map ai ++ [ai (ps[k].evs.length:Int)]:=fun k hk=>by
  rw[List.take_add_one,List.getElem?_eq_getElem hk,List.map_append,List.map_append];rfl
 have hR:aInts (fullC ps) = .sl 1 ((ps.map fun x=>(x.evs.length:Int)).map ai):=rfl
 rw[hR]
 refine PC.enter 23 [.tmp 2] [1,20] Proofs.Tryz.func112 rfl rfl rfl rfl rfl (by simp) (AWp.of ?_);simp only[go_sem]
 refine Wk ?_
 refine AWp.block (AWp.count 4 ps.length [3] [1] (fun k vs L=>∃v,vs=[v]∧AppSt 3 1 (((ps.take k).map fun x=>(x.evs.length:Int)).map ai) v L) rfl rfl ⟨anil,rfl,.nil⟩ ?_)
 rintro k vs L hk - ⟨v,rfl,hA⟩
 have hyl:=hy k hk
 have hfo:=hA.fo
 simp only[go_sem]
 by_cases hkn:k<ps.length
 ·have hki:(k:Int)<ps.length:=by omega
  have hgp:=getD_map (f:=aPr) hkn
  have hel:=hs.evs _ (List.getElem_mem hkn)
  have hys:=hys k hkn
  generalize hZ:((ps.take k).map fun x=>(x.evs.length:Int)).map ai=ys at *
  rcases hA.inv with ⟨e1,rfl,rfl⟩|⟨b,cap,rfl,rfl⟩
  ·refine W2 hki hgp ?_
   intro b' cap' _
   refine Wk ?_
   refine⟨_,List.Sublist.refl _,_,rfl,?_⟩
   rw[hys,e1]
   exact .row _ _ _
  ·refine W2 hki hgp ?_
   intro b' cap' _
   refine Wk ?_
   refine⟨_,List.Sublist.refl _,_,rfl,?_⟩
   rw[hys]
   exact AppSt.snoc b' cap' _ rfl
 ·have hki:¬(k:Int)<(ps.length:Int):=by omega
  have:k=ps.length:=by omega
  subst this
  rw[List.take_length] at hA
  generalize (ps.map fun x=>(x.evs.length:Int)).map ai=ys at *
  rcases hA.inv with ⟨e1,rfl,rfl⟩|⟨b,cap,rfl,rfl⟩
  ·refine W1 hki ?_
   refine ret_view [] ?_;simp only[go_sem]
   rw[e1];exact .nil 1
  ·refine W1 hki ?_
   refine ret_view [true] ?_;simp only[go_sem]
   exact Vw.ofLs (if_pos rfl) rfl
end Go.AL
end
section
namespace Go.AL
open Go Go.RowKit
def addW (a b:Int):Int:=IntKind.i64.wrap (a+b)
def aAddW (_C:Cfg) (o:Oper) (x y:AV) (ρ:Env) (L:AHeap) (K:ARes):Prop :=
 match x,y with
 | .v (.int .i64 a),.v (.int .i64 b)=>K (put ρ o.dst (ai (addW a b))) L
 | _,_=>False
def aopW (C:Cfg) (o:Oper) (ρ:Env) (L:AHeap) (K:ARes):Prop :=
 match o.op with
 | .binOp .add _ x y _=>aAddW C o (ev ρ x) (ev ρ y) ρ L K
 | _=>aop C o ρ L K
theorem aopW_sound {C:Cfg} {o:Oper} {ρ:Env} {L:AHeap} {K:ARes} (hd:dstOk C o) (hdef:∀c,o.op ≠ .defer c) (h:aopW C o ρ L K):AOp C o ρ L K:=by
 unfold aopW at h
 split at h
 ·rename_i t x y t' hop
  unfold aAddW at h
  split at h
  ·rename_i a b hx hy
   refine AOp.val hd hdef (fun ac w A hρ hL=>⟨.int .i64 (addW a b),?_,.v _⟩) h
   have h1:=hρ x;rw[hx] at h1;have h1:=h1.inv_v
   have h2:=hρ y;rw[hy] at h2;have h2:=h2.inv_v
   unfold execOp
   rw[hop]
   simp [h1,h2,binOp,eqGuard,Op.intArith,addW]
  ·exact h.elim
 ·exact aop_sound hd hdef h
def aregionW (C:Cfg):List Oper→Env→AHeap→ARes→Prop
 | [],ρ,L,K=>K ρ L
 | o :: rest,ρ,L,K=>o.guard=none∧aopW C o ρ L fun ρ L=>aregionW C rest ρ L K
def aregWK (C:Cfg) (rest:List Oper) (K:ARes) (ρ:Env) (L:AHeap):Prop:=aregionW C rest ρ L K
theorem aregionW_nil (C:Cfg) (ρ:Env) (L:AHeap) (K:ARes):aregionW C [] ρ L K=K ρ L:=rfl
theorem aregionW_cons (C:Cfg) (rest:List Oper) (o:Oper) (ρ:Env) (L:AHeap) (K:ARes):aregionW C (o :: rest) ρ L K=(o.guard=none∧aopW C o ρ L (aregWK C rest K)):=rfl
theorem aregionW_sound {C:Cfg} {ops:Array Oper} {K:ARes} {n:Nat} {w0:World} {M A0:Foot} {Q:Exit→Act→World→Prop} (hQ:∀a w,post w0 M A0 C.N K a w→Q .normal a w) (hok:ops.toList.all (operOk C.N)=true) :
  ∀(l:List Oper) (k:Nat),(∀j,l[j]?=ops[k+j]?)→∀(ρ:Env) (L:AHeap) (a:Act) (w:World),aregionW C l ρ L K→St w0 M A0 C.N ρ L a w→wpOpsIn (Fw C.r) n C.P ops Q (List.range' k l.length) a w
 | [],k,_,ρ,L,a,w,h,hs=>hQ a w ⟨ρ,L,h,hs⟩
 | o :: l,k,hl,ρ,L,a,w,h,hs=>by
  have h0:ops[k]?=some o:=by simpa using (hl 0).symm
  have ho:operOk C.N o=true:=List.all_eq_true.1 hok o (List.mem_of_getElem? (by simpa using h0))
  rw[List.length_cons,List.range'_succ,wpOpsIn_cons]
  refine wpOpIn_mono ?_ (AOp.gop h0 h.1 (aopW_sound (operOk_dst ho) (operOk_def ho) h.2) n w0 M A0 a w Q hs)
  rintro a' w' ⟨ρ',L',h1,h2⟩
  exact aregionW_sound hQ hok l (k+1) (fun j=>by have:=hl (j+1);simpa [Nat.add_assoc,Nat.add_comm 1 j] using this) ρ' L' a' w' h1 h2
theorem AWp.regionW {C:Cfg} {id:Nat} {ops:Array Oper} {Q:AQ} {ρ:Env} {L:AHeap} (h:aregionW C ops.toList ρ L (Q .normal)):AWp C (.region id ops false) Q ρ L:=fun hok n w0 M A0 a w hs=>by
 refine wpIn_region ?_
 have:=aregionW_sound (C:=C) (ops:=ops) (K:=Q .normal) (n:=n) (Q:=cq C w0 M A0 Q) (fun a w ⟨ρ',L',h1,h2⟩=>⟨ρ',L',h1,h2⟩) hok ops.toList 0 (by simp) ρ L a w h hs
 rwa [Array.length_toList,← List.range_eq_range'] at this
attribute [go_sem] aregionW_nil aregionW_cons aregWK aopW aAddW
end Go.AL
end
section
namespace Go.AL
open Go Go.RowKit
theorem AWp.range1 {C:Cfg} {id i1 i2 t s n t2:Nat} {ty1 ty2 ty3 ty4 r1 r2 r3:TypeId} {p1 p2 p3:String} {a1 a2 a3:Array Edge} {body:Code} {Q:AQ} {ρ:Env} {L:AHeap}
  (m:Nat) (ls ks:List Nat) (I:Nat→List AV→AHeap→Prop) (hm:m≤9223372036854775807) (hs:get ρ s=ai 0) (hn:get ρ n=ai m) (hnk:n ∈ ks) (hsk:s ∉ ks) (hsl:s ∉ ls) (hts:t ≠ s) (htk:t ∉ ks) (h2k:t2 ∉ ks) (htl:t ∉ ls) (h2l:t2 ∉ ls)
  (h0:I 0 (ls.map (get ρ)) L)
  (round:∀k vs L',k<m→vs.length=ls.length→I k vs L'→AWp C body (rangeQ id s k ls ks ρ (I (k+1)) Q) ((s,ai k) :: lenv ls ks vs ρ) L')
  (done:∀vs L',vs.length=ls.length→I m vs L'→Q .normal ((s,ai m) :: lenv ls ks vs ρ) L') :
  AWp C (.block id (.loop (.seq (.region i1 #[⟨some t,.binOp .lss ty1 (.tmp s) (.tmp n) ty2,r1,p1,a1,none⟩] false) (.seq (.cond (.tmp t) .skip (.exit id)) (.seq body
   (.region i2 #[⟨some t2,.binOp .add ty3 (.tmp s) (.const (.int .i64 1)) ty4,r2,p2,a2,none⟩,⟨some s,.move (.tmp t2),r3,p3,a3,none⟩] false)))))) Q ρ L:=by
 have hnl:∀vs:List AV,vs.length=ls.length→get (lenv ls ks vs ρ) n=ai m:=fun vs _=>by
  unfold lenv
  have hin:n ∈ (keep ks ρ).map (·.1):=by simp [keep,hnk]
  rw[get_append,if_pos hin]
  rcases get_keep ks ρ n with e|e
  ·have:∀l:List Nat,n ∈ l→get (keep l ρ) n=get ρ n:=fun l=>by
    induction l with
    | nil=>intro h;cases h
    | cons x r ih =>
     intro h
     simp only[keep,List.map_cons,get]
     split
     ·rename_i e;rw[e]
     ·rename_i e;exact ih ((List.mem_cons.1 h).resolve_left e)
   rw[this ks hnk,hn]
  ·rw[e,hn]
 have hns:n ≠ s:=fun e=>hsk (e ▸ hnk)
 have dropT:∀(k:Nat) (vs:List AV) (x:AV) (i:Nat),get ((s,ai k) :: lenv ls ks vs ρ) i = .any∨get ((s,ai k) :: lenv ls ks vs ρ) i=get ((t,x) :: (s,ai k) :: lenv ls ks vs ρ) i:=fun k vs x i=>by
  by_cases hi:i=t
  ·subst hi
   refine .inl ?_
   simp only[get,if_neg hts,lenv]
   rw[get_append,if_neg (by simp [keep,htk])]
   have:∀(l:List Nat) (v:List AV),i ∉ l→get (l.zip v) i = .any:=fun l=>by
    induction l with
    | nil=>intro v _;rfl
    | cons x r ih =>
     intro v h
     cases v with
     | nil=>rfl
     | cons y v =>
      simp only[List.zip_cons_cons,get]
      rw[if_neg (by rintro rfl;exact h List.mem_cons_self)]
      exact ih v (fun hh=>h (List.mem_cons_of_mem _ hh))
   exact this ls vs htl
  ·exact .inr (by simp [get,hi])
 refine AWp.block (AWp.loop (s :: ls) ks (fun vs' L'=>∃(k:Nat) (vs:List AV),vs'=ai (k:Int) :: vs∧k≤m∧I k vs L') (fun vs' _=>match vs' with | .v (.int _ k) :: _=>m - k.toNat|_=>0)
  ⟨0,_,by simp [hs],Nat.zero_le _,h0⟩ ?_)
 rintro vs' L' hl ⟨k,vs,rfl,hk,hI⟩
 have hvl:vs.length=ls.length:=by simpa using hl
 -- the counter first
 refine AWp.st (ρ':=(s,ai k) :: lenv ls ks vs ρ) (L':=L') (fun w0 M A0 a w h=>st_forget h fun i => ?_) ?_
 ·by_cases hi:i=s
  ·subst hi
   refine .inr ?_
   simp only[get,if_true,lenv]
   rw[get_append,if_neg (by simp [keep,hsk])]
   simp [get]
  ·refine .inr ?_
   simp only[get,if_neg hi,lenv,List.zip_cons_cons]
   rw[get_append,get_append]
   split
   ·rfl
   ·simp [get,hi]
 have hget_s:get ((s,ai k) :: lenv ls ks vs ρ) s=ai k:=by simp [get]
 have hget_n:get ((s,ai k) :: lenv ls ks vs ρ) n=ai m:=by simp only[get,if_neg hns];exact hnl vs hvl
 refine AWp.seq (AWp.region ?_)
 simp only[aregion,astep,aop,aval,ev,hget_s,hget_n,w2,fo,aEq,aBin,thenQ,put]
 refine⟨by simp,?_⟩
 refine AWp.seq (AWp.cond (t:=decide ((k:Int)<m)) (by simp [ev,get]) (fun ht => ?_) (fun hf => ?_))
 ·have hlt:k<m:=by simpa using ht
  refine AWp.of ?_
  simp only[awp1,thenQ]
  refine AWp.st (ρ':=(s,ai k) :: lenv ls ks vs ρ) (L':=L') (fun w0 M A0 a w h=>st_forget h (dropT k vs _)) ?_
  refine AWp.seq ((round k vs L' hlt hvl hI).mono ?_)
  intro e ρ' L'' hq
  cases e with
  | normal =>
   obtain⟨g1,g2,L3,g3,g4⟩:=hq
   simp only[thenQ]
   refine AWp.region ?_
   have hi64:I64 ((k:Int)+1):=by unfold I64;omega
   simp only[aregion,astep,aop,aval,ev,g1,w2,fo,aEq,aBin,put,if_true,get]
   refine⟨⟨⟨trivial,trivial⟩,trivial,hi64⟩,trivial,?_⟩
   simp only[roundQ]
   have hks:ks.map (get ((s,ai ((k:Int)+1)) :: (t2,ai ((k:Int)+1)) :: ρ'))=ks.map (get ρ'):=List.map_congr_left fun j hj=>by
    simp only[get];rw[if_neg (by rintro rfl;exact hsk hj),if_neg (by rintro rfl;exact h2k hj)]
   have hls:ls.map (get ((s,ai ((k:Int)+1)) :: (t2,ai ((k:Int)+1)) :: ρ'))=ls.map (get ρ'):=List.map_congr_left fun j hj=>by
    simp only[get];rw[if_neg (by rintro rfl;exact hsl hj),if_neg (by rintro rfl;exact h2l hj)]
   refine⟨by rw[hks];exact g2,L3,g3,⟨k+1,_,?_,hlt,g4⟩,?_⟩
   ·rw[List.map_cons,hls]
    simp only[get,if_true]
    rfl
   ·simp only[List.map_cons,get,if_true]
    have:((k:Int)+1).toNat=k+1:=by omega
    simp only[this,Int.toNat_natCast]
    omega
  | exit id'=>simpa [thenQ,roundQ,blockQ,rangeQ] using hq
  | goto l=>exact hq
  | ret=>exact hq
  | panic c=>exact hq
  | outgrown=>exact hq
 ·have hkm:k=m:=by have:¬((k:Int)<m):=by simpa using hf
                   omega
  subst hkm
  refine AWp.st (ρ':=(s,ai k) :: lenv ls ks vs ρ) (L':=L') (fun w0 M A0 a w h=>st_forget h (dropT k vs _)) (AWp.of ?_)
  simp only[awp1,thenQ,roundQ,blockQ,if_true]
  exact done vs L' hvl hI
theorem AWp.range1' {C:Cfg} {id i1 i2 t s n t2:Nat} {ty1 ty2 ty3 ty4 r1 r2 r3:TypeId} {p1 p2 p3:String} {a1 a2 a3:Array Edge} {body:Code} {Q:AQ} {ρ:Env} {L:AHeap}
  (m:Nat) (ls ks:List Nat) (I:Nat→List AV→AHeap→Prop) (hm:m≤9223372036854775807) (hs:get ρ s=ai 0) (hn:get ρ n=ai m) (hok:rOk s n t t2 ls ks=true)
  (h0:I 0 (ls.map (get ρ)) L)
  (round:∀k vs L',k<m→vs.length=ls.length→I k vs L'→AWp C body (rangeQ id s k ls ks ρ (I (k+1)) Q) ((s,ai k) :: lenv ls ks vs ρ) L')
  (done:∀vs L',vs.length=ls.length→I m vs L'→Q .normal ((s,ai m) :: lenv ls ks vs ρ) L') :
  AWp C (.block id (.loop (.seq (.region i1 #[⟨some t,.binOp .lss ty1 (.tmp s) (.tmp n) ty2,r1,p1,a1,none⟩] false) (.seq (.cond (.tmp t) .skip (.exit id)) (.seq body
   (.region i2 #[⟨some t2,.binOp .add ty3 (.tmp s) (.const (.int .i64 1)) ty4,r2,p2,a2,none⟩,⟨some s,.move (.tmp t2),r3,p3,a3,none⟩] false)))))) Q ρ L:=by
 simp only[rOk,Bool.and_eq_true,Bool.not_eq_true',List.contains_eq_mem,decide_eq_false_iff_not,decide_eq_true_eq,bne_iff_ne,ne_eq] at hok
 obtain⟨⟨⟨⟨⟨⟨⟨h1,h2⟩,h3⟩,h4⟩,h5⟩,h6⟩,h7⟩,h8⟩:=hok
 exact AWp.range1 m ls ks I hm hs hn h1 h2 h3 h4 h5 h6 h7 h8 h0 round done
end Go.AL
end
section
namespace Go.AL
open Go Go.RowKit
set_option maxRecDepth 4000
end Go.AL
end
