/- Texts of this claim's proof: WQi, WQj, WQk, WQl, WQm, WMe, WQn, WU2, WNf, AlRng, WMf, WNd2, WNh, WNi, WNj. No condition. -/
import Derived.Test.YtjblppbkhgihoaaGreatDoorM11
import Derived.Test.YtjblppbkhgihoaaGreatDoorM9
import Derived.Test.YtjblppbkhgihoaaGreatDoorM4
import Derived.Test.YtjblppbkhgihoaaGreatDoorM8
import Derived.Test.YtjblppbkhgihoaaGreatDoorM10
import Derived.Test.YtjblppbkhgihoaaGreatDoorM3
section
namespace Go.AL
open Go Go.RowKit
set_option maxRecDepth 4000
def wlkF (ps:List Pr) (perm:List Int→Bool):List (List Int):=match wlkR ps perm (off ps ps.length) (zeroC ps) with
 | none=>[]
 | some R=>zeroC ps :: R
theorem firstP_eq {ps:List Pr} {f:List Int→Bool} {c:List Int} {p:Nat} (hp:p<c.length) (h:(rdyF ps c p && f (stpC c p))=true) (h0:∀q,q<p→(rdyF ps c q && f (stpC c q))=false):firstP ps f c=some p:=by
 unfold firstP
 rw[List.find?_range_eq_some]
 exact⟨h,List.mem_range.2 hp,fun q hq=>by rw[h0 q hq];rfl⟩
theorem firstP_no {ps:List Pr} {f:List Int→Bool} {c:List Int} (h0:∀q,q<c.length→(rdyF ps c q && f (stpC c q))=false):firstP ps f c=none:=by
 unfold firstP
 rw[List.find?_eq_none]
 intro q hq
 rw[h0 q (List.mem_range.1 hq)];simp
theorem mayF_nat {ps:List Pr} {c:List Int} (hc:c.length=ps.length) {p:Nat} (hp:p<c.length):mayF ps c p=rdyF ps c p:=by
 unfold mayF
 rw[decide_eq_true ⟨by omega,by omega⟩,Bool.true_and]
 have:((p:Int)).toNat=p:=by omega
 rw[this]
def NoP (ps:List Pr) (perm:List Int→Bool) (c:List Int) (p:Nat):Prop:=∀q,q<p→(rdyF ps c q && perm (stpC c q))=false
set_option maxHeartbeats 1000000 in
theorem run_walk (ps:List Pr) (hs:Sm ps) (hv:validF ps=true) (g:AV) (hgf:fo g=(True,g)) (perm:List Int→Bool) (hg:∀d,isF ps d=true→PV Proofs.Tryz.prog g [aInts d] (ab (perm d))) :
  PC Proofs.Tryz.prog 31 [aRs ps,g] (aRows (wlkF ps perm)):=by
 have hz:=run_zero ps hv
 have hfu:=run_full ps hs hv
 have hzs:(zeroC ps).sum=0:=by unfold zeroC;simp
 have hof:=off_small hs ps.length (Nat.le_refl _)
 have hl8:=(valid_len hv).2
 have hfl:(fullC ps).length=ps.length:=by simp [fullC]
 have hmay:=run_may ps hs hv
 have haR:∀x:List (List Int),aRows x = .sl 1 (x.map aInts):=fun _=>rfl
 have hwl:∀R,wlkR ps perm (off ps ps.length) (zeroC ps)=R→wlkF ps perm=match R with|none=>[]|some R=>zeroC ps :: R:=fun R h=>by unfold wlkF;rw[h]
 obtain⟨r,hr⟩:∃r,r=aRs ps:=⟨_,rfl⟩
 have hrf:fo r=(True,r):=by rw[hr];rfl
 rw[← hr] at hz hfu hmay ⊢
 clear hr
 refine PC.enter 51 [.tmp 4] [48] Proofs.Tryz.func31 rfl rfl rfl rfl rfl (by simp) (AWp.of ?_);simp only[go_sem]
 refine W2 hgf hrf ?_
 refine Sd ?_
 refine(hz).val.use ?_;simp only[go_sem]
 refine W2 hgf hrf ?_
 intro b12
 refine W2 hgf hrf ?_
 refine Sd ?_
 refine(hfu).val.use ?_;simp only[go_sem]
 refine AWp.block (AWp.loopN [5,6] [0,1,7] (fun m vs L=>∃c O v,vs=[aInts c,v]∧isF ps c=true∧c.sum+m=off ps ps.length∧(O.length:Int)=c.sum+1∧(wlkR ps perm (off ps ps.length) (zeroC ps)).map (zeroC ps :: ·)=(wlkR ps perm m c).map (O ++ ·)∧AppSt 47 1 (O.map aInts) v L) (off ps ps.length) ?_ ?_)
 ·exact⟨zeroC ps,[zeroC ps],_,rfl,zeroC_is ps,by omega,by rw[hzs];rfl,rfl,.row _ _ _⟩
 rintro m vs L - ⟨c,O,v,rfl,hc,hsm,hol,hw,hA⟩
 have hcl:=(isF_iff.1 hc).1
 have heq:=ints_equal c (fullC ps) (by omega)
 have hfs:=full_of_sum hc
 have hfoA:∀b k off len cap:Nat,fo (.ls b k off len cap)=(True,.ls b k off len cap):=fun _ _ _ _ _=>rfl
 have hO0:O ≠ []:=fun e=>by subst e;have:=sum_nonneg c (isF_nonneg hc);simp at hol;omega
 obtain⟨bo,cap,rfl,rfl⟩:∃bo cap,v = .ls bo 1 0 (O.map aInts).length cap∧L=[(bo,.row 47 1 (O.map aInts) cap)]:=by
  rcases hA.inv with ⟨e1,_,_⟩|h
  ·exact absurd (List.map_eq_nil_iff.1 e1) hO0
  ·exact h
 cases m with
 | zero =>
  have hcf:c=fullC ps:=hfs.2 (by omega)
  have hde:decide (c=fullC ps)=true:=decide_eq_true hcf
  rw[hde] at heq
  have hres:wlkF ps perm=O:=by
   have e0:wlkR ps perm 0 c=some []:=rfl
   rw[e0] at hw
   cases hx:wlkR ps perm (off ps ps.length) (zeroC ps) with
   | none=>rw[hx] at hw;cases hw
   | some R =>
    rw[hx] at hw
    rw[hwl _ hx]
    have:=Option.some.inj hw
    simpa using this
  rw[hres]
  simp only[go_sem]
  refine Wk ?_
  refine Sd ?_
  refine(heq).val.use ?_;simp only[go_sem]
  refine Wk ?_
  refine ret_view [true] ?_;simp only[go_sem]
  exact Vw.ofLs (if_pos rfl) (by rw[List.length_map])
 | succ m =>
  have hcf:¬c=fullC ps:=fun e=>by have:=hfs.1 e;omega
  have hde:decide (c=fullC ps)=false:=decide_eq_false hcf
  rw[hde] at heq
  have hcb:=isF_cb hs hc
  simp only[go_sem]
  refine Wk ?_
  refine Sd ?_
  refine(heq).val.use ?_;simp only[go_sem]
  refine Wk ?_
  refine AWp.cut [0,1,5,6,7,8] (fun vs L'=>∃p:Nat,vs=[r,g,aInts c,.ls bo 1 0 (O.map aInts).length cap,aInts (fullC ps),ai p]∧L'=[(bo,.row 47 1 (O.map aInts) cap)]∧((p<c.length∧firstP ps perm c=some p)∨(p=c.length∧firstP ps perm c=none))) ?_ ?_
  ·refine AWp.block (AWp.loopN [8] [0,1,5,6,7] (fun k vs L'=>∃p:Nat,vs=[ai p]∧p+k=c.length∧L'=[(bo,.row 47 1 (O.map aInts) cap)]∧NoP ps perm c p) c.length ⟨0,rfl,by omega,rfl,fun q hq=>by omega⟩ ?_)
   rintro k vs L' - ⟨p,rfl,hpk,rfl,hno⟩
   cases k with
   | zero =>
    have hpl:¬(p:Int)<(c.length:Int):=by omega
    have hpe:p=c.length:=by omega
    simp only[go_sem,hgf,hrf,hfoA]
    refine W4 hpl hgf hrf hfoA ?_
    refine GCall.use (ab false) (fun h=>False.elim h) ?_
    simp only[go_sem,hgf,hrf,hfoA]
    refine W4 hpl hgf hrf hfoA ?_
    refine GCall.use (aInts []) (fun h=>False.elim h) ?_
    simp only[go_sem,hgf,hrf,hfoA]
    refine W4 hpl hgf hrf hfoA ?_
    refine GCall.use (ab false) (fun h=>False.elim h) ?_
    simp only[go_sem,hgf,hrf,hfoA]
    refine W4 hpl hgf hrf hfoA ?_
    exact⟨_,List.Sublist.refl _,p,rfl,rfl,.inr ⟨hpe,firstP_no fun q hq=>hno q (by omega)⟩⟩
   | succ k =>
    have hpl:(p:Int)<(c.length:Int):=by omega
    have hp:p<c.length:=by omega
    have hmp:=hmay c hc p
    rw[mayF_nat hcl hp] at hmp
    have hne:=run_next c hcb.1 hcb.2 p hp
    simp only[go_sem,hgf,hrf,hfoA]
    refine W4 hpl hgf hrf hfoA ?_
    refine Sd ?_
    refine GCall.use (ab (rdyF ps c p)) (fun _=>⟨At,(hmp).val.use ⟨rfl,rfl⟩⟩) ?_;simp only[go_sem,hgf,hrf,hfoA]
    refine W4 hpl hgf hrf hfoA ?_
    refine Sd ?_
    refine GCall.use (aInts (stpC c p)) (fun _=>⟨At,(hne).val.use ⟨rfl,rfl⟩⟩) ?_;simp only[go_sem,hgf,hrf,hfoA]
    refine W4 hpl hgf hrf hfoA ?_
    refine GCall.use (ab (perm (stpC c p))) (fun h=>⟨by simpa using h,(hg _ (rdy_is (by simpa using h))).use ⟨rfl,rfl⟩⟩) ?_
    simp only[go_sem,hgf,hrf,hfoA]
    cases hrp:(rdyF ps c p && perm (stpC c p)) with
    | true =>
     rw[Bool.and_eq_true] at hrp
     repeat(first|((with_reducible refine AWp.ofC ?_ ?_);exact rfl;simp only[go_sem,hpl,hgf,hrf,hfoA,hrp.1,hrp.2])|((with_reducible refine an ?_ ?_);exact Au))
     exact⟨_,List.Sublist.refl _,p,rfl,rfl,.inl ⟨hp,firstP_eq hp (by rw[hrp.1,hrp.2];rfl) hno⟩⟩
    | false =>
     have hnn:(!rdyF ps c p || !perm (stpC c p))=true:=by rw[← Bool.not_and,hrp];rfl
     have hno':NoP ps perm c (p+1):=fun q hq=>by
      by_cases e:q=p
      ·subst e;exact hrp
      ·exact hno q (by omega)
     cases hr:rdyF ps c p with
     | false =>
      refine W5 hpl hgf hrf hfoA hr ?_
      exact⟨_,List.Sublist.refl _,k,by omega,p+1,rfl,by omega,rfl,hno'⟩
     | true =>
      rw[hr,Bool.true_and] at hrp
      refine W6 hpl hgf hrf hfoA hr hrp ?_
      exact⟨_,List.Sublist.refl _,k,by omega,p+1,rfl,by omega,rfl,hno'⟩
  ·rintro vs L' - ⟨p,rfl,rfl,hcase⟩
   simp only[go_sem,hgf,hrf,hfoA]
   rcases hcase with ⟨hp,hf⟩|⟨rfl,hf⟩
   ·obtain⟨_,a2,a3⟩:=firstP_some hf
    have hne:=run_next c hcb.1 hcb.2 p hp
    have hpl:¬(p:Int)=(c.length:Int):=by omega
    have hsp:(stpC c p).sum=c.sum+1:=sum_stpC hp
    refine W4 hpl hgf hrf hfoA ?_
    refine Sd ?_
    refine(hne).val.use ?_;simp only[go_sem,hgf,hrf,hfoA]
    refine W4 hpl hgf hrf hfoA ?_
    intro b' cap' hc'
    have e:(O ++ [stpC c p]).map aInts=O.map aInts ++ [.sl 1 ((stpC c p).map ai)]:=by rw[List.map_append];rfl
    refine⟨_,List.Sublist.refl _,m,by omega,stpC c p,O ++ [stpC c p],_,rfl,rdy_is a2,by omega,by rw[List.length_append,List.length_cons,List.length_nil];omega,?_,?_⟩
    ·rw[hw,wlkR_succ,hf]
     cases hq:wlkR ps perm m (stpC c p) with
     | none=>simp only[hq,Option.map_none]
     | some R=>simp [hq]
    ·rw[e]
     exact AppSt.snoc b' cap' _ (by rw[List.length_map])
   ·refine W3 hgf hrf hfoA ?_
    have hres:wlkF ps perm=[]:=by
     rw[wlkR_succ,hf] at hw
     cases hx:wlkR ps perm (off ps ps.length) (zeroC ps) with
     | none=>exact hwl _ hx
     | some R=>rw[hx] at hw;cases hw
    rw[hres]
    refine ret_view [] ?_;simp only[go_sem]
    exact .nil _
end Go.AL
end
section
namespace Go.AL
open Go Go.RowKit
theorem fits_str (s:ByteArray):(KK.sc .str).fits (.string s)=true:=rfl
attribute [go_sem] fits_str
structure MpS (ks:List Value) (vs:List AV) (z:AV) (f:ByteArray→AV):Prop where
 fits:ks.all (KK.sc .str).fits=true
 len:vs.length=ks.length
 get:∀s,mget (.string s) ks vs z=f s
theorem MpS.nil (z:AV):MpS [] [] z fun _=>z:=⟨rfl,rfl,fun _=>rfl⟩
theorem mfind_lt {k:Value} : ∀ {ks:List Value} {i:Nat},mfind k ks=some i→i<ks.length
 | [],_,h=>by cases h
 | k' :: r,i,h=>by
  unfold mfind at h
  split at h
  ·cases h;simp
  ·split at h
   ·rename_i j hj;cases h;have:=mfind_lt hj;simp;omega
   ·cases h
theorem seqB_dec' (a b:ByteArray):seqB a b=decide (a=b):=seqB_dec a b
theorem keyB_str {s:ByteArray} {k:Value} (hk:(KK.sc .str).fits k=true):keyB (.string s) k=true↔k = .string s:=by
 have:=vfits_inv (k:=.str) (a:=k) hk
 cases this with
 | str t =>
  show seqB s t=true↔_
  rw[seqB_dec',decide_eq_true_eq]
  exact⟨fun h=>by rw[h],fun h=>by cases h;rfl⟩
theorem mfind_str {s:ByteArray} : ∀ {ks:List Value} (_:ks.all (KK.sc .str).fits=true) {i:Nat},mfind (.string s) ks=some i→ks[i]?=some (.string s)
 | [],_,_,h=>by cases h
 | k' :: r,hf,i,h=>by
  rw[List.all_cons,Bool.and_eq_true] at hf
  unfold mfind at h
  split at h
  ·rename_i hk;cases h;rw[(keyB_str hf.1).1 hk];rfl
  ·split at h
   ·rename_i j hj;cases h;exact mfind_str hf.2 hj
   ·cases h
theorem mfind_app {s t:ByteArray} : ∀ {ks:List Value},mfind (.string t) (ks ++ [.string s])=match mfind (.string t) ks with
  | some i=>some i
  | none=>if t=s then some ks.length else none
 | []=>by
  show (if keyB (.string t) (.string s)=true then some 0 else none)=if t=s then some 0 else none
  show (if seqB t s=true then some 0 else none)=_
  rw[seqB_dec']
  by_cases h:t=s
  ·rw[if_pos h,if_pos (decide_eq_true h)]
  ·rw[if_neg h,if_neg (by rw[decide_eq_false h];simp)]
 | k' :: r=>by
  have ih:=mfind_app (s:=s) (t:=t) (ks:=r)
  rw[List.cons_append]
  unfold mfind
  by_cases h:keyB (.string t) k'=true
  ·rw[if_pos h,if_pos h]
  ·rw[if_neg h,if_neg h,ih]
   cases hm:mfind (.string t) r with
   | some i=>rfl
   | none =>
    simp only
    by_cases e:t=s
    ·rw[if_pos e,if_pos e];simp
    ·rw[if_neg e,if_neg e]
theorem MpS.put {ks:List Value} {vs:List AV} {z:AV} {f:ByteArray→AV} (h:MpS ks vs z f) (s:ByteArray) (x:AV) :
  ∃ks' vs',mput (.string s) x ks vs = .amap ks' vs'∧MpS ks' vs' z fun t=>if t=s then x else f t:=by
 unfold mput
 cases hm:mfind (.string s) ks with
 | some i =>
  refine⟨ks,vs.set i x,rfl,h.fits,by rw[List.length_set];exact h.len,fun t => ?_⟩
  have hi:=mfind_lt hm
  have hl:=h.len
  unfold mget
  by_cases e:t=s
  ·subst e
   rw[hm,if_pos rfl]
   simp only
   rw[List.getD_eq_getElem?_getD,List.getElem?_set,if_pos rfl,if_pos (by omega)];rfl
  ·rw[if_neg e,← h.get t]
   unfold mget
   cases ht:mfind (.string t) ks with
   | none=>rfl
   | some j =>
    simp only
    have h1:=mfind_str h.fits hm
    have h2:=mfind_str h.fits ht
    have hne:i ≠ j:=fun e2=>by
     subst e2
     rw[h1] at h2
     exact e (by have:=Option.some.inj h2;injection this with h3;exact h3.symm)
    rw[List.getD_eq_getElem?_getD,List.getElem?_set_ne hne,← List.getD_eq_getElem?_getD]
 | none =>
  refine⟨ks ++ [.string s],vs ++ [x],rfl,by rw[List.all_append,h.fits];rfl,by rw[List.length_append,List.length_append,h.len];rfl,fun t => ?_⟩
  unfold mget
  rw[mfind_app]
  by_cases e:t=s
  ·subst e
   rw[hm,if_pos rfl]
   simp only
   rw[if_pos trivial,List.getD_eq_getElem?_getD,List.getElem?_append_right (by rw[h.len];exact Nat.le_refl _),h.len,Nat.sub_self];rfl
  ·rw[if_neg e,← h.get t]
   unfold mget
   cases ht:mfind (.string t) ks with
   | none=>simp only;rw[if_neg e]
   | some j =>
    have hj:=mfind_lt ht
    simp only
    rw[if_neg e,List.getD_eq_getElem?_getD,List.getElem?_append_left (by rw[h.len];exact hj),← List.getD_eq_getElem?_getD]
end Go.AL
end
section
namespace Go.AL
open Go Go.RowKit
set_option maxRecDepth 4000
def satV (n:Nat):Int:=if n≤1125899906842625 then n else 1125899906842625
theorem satV_add (a b:Nat):(if (1125899906842625:Int)<satV a+satV b then (1125899906842625:Int) else satV a+satV b)=satV (a+b):=by
 unfold satV
 split <;> split <;> split <;> split <;> omega
theorem satV_le (a:Nat):0≤satV a∧satV a≤1125899906842625:=by unfold satV;split <;> omega
def enS (ps:List Pr) (c:List Int) (k:Nat):Nat:=((enF ps c k).map fun p=>wayV ps (stpC c p)).sum
theorem enS_succ (ps:List Pr) (c:List Int) (k:Nat):enS ps c (k+1)=enS ps c k+if rdyF ps c k=true then wayV ps (stpC c k) else 0:=by
 unfold enS
 rw[enF_succ,List.map_append,List.sum_append]
 split <;> simp
noncomputable def cnE (ps:List Pr):Int:=if lstE ps ≠ 0 then lstE ps else if 1125899906842624<wayV ps (zeroC ps) then 9 else 0
noncomputable def cnN (ps:List Pr):Int:=if cnE ps=0 then (wayV ps (zeroC ps):Int) else 0
set_option maxHeartbeats 1000000 in
theorem run_Count (ps:List Pr) (hs:Sm ps):PC Proofs.Tryz.prog 7 [aTr ps] (.tup [ai (cnN ps),ai (cnE ps)]):=by
 have hva:=trace_Valid ps hs
 have hLi:=cuts_List ps hs
 have haR:∀x:List (List Int),aRows x = .sl 1 (x.map aInts):=fun _=>rfl
 unfold aLst at hLi
 have hcE:cnE ps=if lstE ps ≠ 0 then lstE ps else if 1125899906842624<wayV ps (zeroC ps) then 9 else 0:=rfl
 have hcN:cnN ps=if cnE ps=0 then (wayV ps (zeroC ps):Int) else 0:=rfl
 cases hv:validF ps with
 | false =>
  have e1:lstE ps=1:=by unfold lstE;rw[hv];rfl
  rw[e1,if_pos (by decide)] at hcE
  rw[hcE,if_neg (by decide)] at hcN
  rw[hcE,hcN]
  rw[hv] at hva
  refine PC.enter 80 [.tmp 2,.tmp 3] [1] Proofs.Tryz.func7 rfl rfl rfl rfl rfl (by simp) (AWp.of ?_);simp only[go_sem]
  refine Wk ?_
  refine Sd ?_
  refine(hva).val.use ?_;simp only[go_sem]
  refine Wk ?_
  refine ret_eq ?_;simp only[go_sem]
 | true =>
  rw[hv] at hva
  by_cases hE0:lstE ps=0
  ·have h5:=(lst_zero.1 hE0).2
   have hlF:lstF ps=cutsF ps:=by unfold lstF;rw[if_pos hE0]
   rw[hlF,hE0] at hLi
   rw[if_neg (by simpa using hE0)] at hcE
   have hop:=run_open ps hs hv
   have hz:=run_zero ps hv
   have hfu:=run_full ps hs hv
   have hmay:=run_may ps hs hv
   have hl8:=(valid_len hv).2
   have hm:∀c,c ∈ cutsF ps↔isF ps c=true:=fun c=>mem_cutsF hv
   have hl0:=lst_len0 hv (l:=cutsF ps) rfl
   have hlast:=lst_last hv (l:=cutsF ps) rfl
   have hstep:=fun (i:Nat) (hi:i<(cutsF ps).length) p hp=>idx_step hv (l:=cutsF ps) rfl hi (p:=p) hp
   have hwf:wayV ps (fullC ps)=1:=wayV_full (fullC_sum ps)
   have hkf:=run_key (fullC ps) (isF_cb hs (fullC_is hv)).1
   have hkz:=run_key (zeroC ps) (isF_cb hs (zeroC_is ps)).1
   have hord:=cuts_ord hv
   generalize cnE ps=ce at *
   generalize cnN ps=cn at *
   have hfst:=lst_first hv (l:=cutsF ps) rfl
   generalize cutsF ps=l at *
   obtain⟨r,hr⟩:∃r,r=aRs ps:=⟨_,rfl⟩
   have hrf:fo r=(True,r):=by rw[hr];rfl
   rw[← hr] at hop hz hfu hmay
   clear hr
   refine PC.enter 80 [.tmp 2,.tmp 3] [1] Proofs.Tryz.func7 rfl rfl rfl rfl rfl (by simp) (AWp.of ?_);simp only[go_sem]
   refine Wk ?_
   refine Sd ?_
   refine(hva).val.use ?_;simp only[go_sem]
   refine Wk ?_
   refine Sd ?_
   refine(hLi).val.use ?_;simp only[go_sem]
   refine Wk ?_
   refine Sd ?_
   refine(hop).val.use ?_;simp only[go_sem,hrf]
   refine W1 hrf ?_
   intro b25
   obtain⟨ks,vs,hput,hMp⟩:=(MpS.nil (.v (.int .i64 0))).put (keyS (fullC ps)) (.v (.int .i64 1))
   refine Sd ?_
   refine Sd ?_
   refine(hfu).val.use ?_;simp only[go_sem,hrf]
   refine Sd ?_
   refine(hkf).val.use ?_;simp only[go_sem,hrf,hput]
   refine Sd ?_
   refine W2 hrf hput ?_
   have hix:((l.length:Nat):Int) - 2=((l.length - 1:Nat):Int) - 1:=by omega
   rw[hix]
   refine AWp.block (AWp.loopN [8] [4,6,7] (fun m us L=>us=[ai ((m:Int) - 1)]∧m<l.length∧∃ks vs f,L=[(b25,.amap ks vs)]∧MpS ks vs (.v (.int .i64 0)) f∧∀j (hj:j<l.length),m≤j→f (keyS l[j])=ai (satV (wayV ps l[j]))) (l.length - 1) ?_ ?_)
   ·refine⟨rfl,by omega,ks,vs,_,rfl,hMp,fun j hj hmj => ?_⟩
    have:j=l.length - 1:=by omega
    subst this
    rw[List.getD_eq_getElem?_getD,List.getElem?_eq_getElem hj] at hlast
    have hlast:l[l.length - 1]=fullC ps:=hlast
    simp only[hlast,hwf]
    rw[if_pos trivial]
    rfl
   ·rintro m us L - ⟨rfl,hml,ks,vs,f,rfl,hMp,hf⟩
    cases m with
    | zero =>
     have z:¬(0:Int)≤((0:Nat):Int) - 1:=by omega
     have h0:=hf 0 hl0 (Nat.le_refl _)
     rw[List.getD_eq_getElem?_getD,List.getElem?_eq_getElem hl0] at hfst
     have hfst:l[0]=zeroC ps:=hfst
     rw[hfst] at h0
     have hg:=hMp.get (keyS (zeroC ps))
     rw[h0] at hg
     by_cases hbg:1125899906842624<wayV ps (zeroC ps)
     ·have h1:(1125899906842624:Int)<satV (wayV ps (zeroC ps)):=by unfold satV;split <;> omega
      rw[if_pos hbg] at hcE
      subst hcE
      rw[if_neg (by decide)] at hcN
      subst hcN
      simp only[go_sem,hrf]
      refine W2 z hrf ?_
      refine Sd ?_
      refine(hz).val.use ?_;simp only[go_sem,hrf]
      refine Sd ?_
      refine(hkz).val.use ?_;simp only[go_sem,hrf,hg,hMp.fits,h1]
      refine Sd ?_
      refine W3 hrf hg h1 ?_
      refine ret_eq ?_;simp only[go_sem]
     ·have h1:¬(1125899906842624:Int)<satV (wayV ps (zeroC ps)):=by unfold satV;split <;> omega
      have h2:satV (wayV ps (zeroC ps))=(wayV ps (zeroC ps):Int):=by unfold satV;rw[if_pos (by omega)]
      rw[if_neg hbg] at hcE
      subst hcE
      rw[if_pos rfl] at hcN
      subst hcN
      simp only[go_sem,hrf]
      refine W2 z hrf ?_
      refine Sd ?_
      refine(hz).val.use ?_;simp only[go_sem,hrf]
      refine Sd ?_
      refine(hkz).val.use ?_;simp only[go_sem,hrf,hg,hMp.fits,h1]
      refine Sd ?_
      refine W3 hrf hg h1 ?_
      refine ret_eq ?_;simp only[go_sem]
      rw[h2]
    | succ m =>
     have z:(0:Int)≤(m:Int):=by omega
     have hm1:((m+1:Nat):Int) - 1=(m:Int):=by omega
     have hml2:m<l.length:=by omega
     have hcF:isF ps l[m]=true:=(hm _).1 (List.getElem_mem hml2)
     have hcl:=(isF_iff.1 hcF).1
     have hcb:=isF_cb hs hcF
     have hgm:=getD_map (f:=aInts) hml2
     have hkm:=run_key l[m] hcb.1
     have hcsum:l[m].sum<off ps ps.length:=by
      have h1:=leq_sum (leq_full hcF)
      rw[fullC_sum] at h1
      have h2:¬l[m].sum=off ps ps.length:=fun e=>by
       have h3:=(full_of_sum hcF).2 e
       rw[List.getD_eq_getElem?_getD,List.getElem?_eq_getElem (show l.length - 1<l.length by omega)] at hlast
       have hlast:l[l.length - 1]=fullC ps:=hlast
       have h4:=List.pairwise_iff_getElem.1 hord m (l.length - 1) hml2 (by omega) (by omega)
       rw[h3,hlast] at h4
       exact ordL_irr h4
      omega
     have hws:=wayV_stp hcF hcsum
     have hstm:=hstep m hml2
     have hbyt:=isF_byte hv hcF
     have hmayc:=fun p=>hmay l[m] hcF p
     obtain⟨c,hc⟩:∃c,c=l[m]:=⟨_,rfl⟩
     rw[← hc] at hcF hcl hcb hgm hkm hcsum hws hstm hbyt hmayc
     rw[hm1]
     simp only[go_sem,hrf]
     refine W3 z hrf hgm ?_
     refine AWp.range' c.length [9] [4,6,7,8,41] (fun k us L=>us=[ai (satV (enS ps c k))]∧L=[(b25,.amap ks vs)]) (by omega) rfl rfl rfl ⟨rfl,rfl⟩ ?_ ?_
     ·rintro k us L hk - ⟨rfl,rfl⟩
      have hmp:=hmayc k
      rw[mayF_nat hcl hk] at hmp
      have hne:=run_next c hcb.1 hcb.2 k hk
      have hsu:=enS_succ ps c k
      simp only[go_sem,hrf]
      refine W2 hgm hrf ?_
      refine Sd ?_
      refine(hmp).val.use ?_;simp only[go_sem,hgm,hrf]
      cases hr:rdyF ps c k with
      | true =>
       rw[hr,if_pos rfl] at hsu
       have hE:k ∈ enF ps c c.length:=mem_enF.2 ⟨hk,hr⟩
       obtain⟨s1,s2,s3⟩:=hstm k hE
       have hky:=run_key (stpC c k) (by rw[stp_len];exact hcb.1)
       have hg:=hMp.get (keyS (stpC c k))
       have hfk:=hf _ s2 (by omega)
       rw[s3] at hfk
       rw[hfk] at hg
       have hadd:=satV_add (enS ps c k) (wayV ps (stpC c k))
       rw[← hsu] at hadd
       have b1:=satV_le (enS ps c k)
       have b2:=satV_le (wayV ps (stpC c k))
       generalize satV (enS ps c k)=x1 at *
       generalize satV (wayV ps (stpC c k))=x2 at *
       generalize satV (enS ps c (k+1))=x3 at *
       refine W2 hgm hrf ?_
       refine Sd ?_
       refine(hne).val.use ?_;simp only[go_sem,hgm,hrf]
       refine Sd ?_
       refine(hky).val.use ?_;simp only[go_sem,hgm,hrf,hg,hMp.fits]
       refine Sd ?_
       refine W3 hgm hrf hg ?_
       exact⟨_,List.Sublist.refl _,by rw[hadd],rfl⟩
      | false =>
       rw[hr,if_neg (by decide),Nat.add_zero] at hsu
       refine W2 hgm hrf ?_
       exact⟨_,List.Sublist.refl _,by rw[hsu];rfl,rfl⟩
     ·rintro us L - ⟨rfl,rfl⟩
      have hsu:enS ps c c.length=wayV ps c:=by rw[hws];rfl
      rw[hsu]
      obtain⟨ks',vs',hput',hMp'⟩:=hMp.put (keyS c) (ai (satV (wayV ps c)))
      simp only[go_sem,hrf]
      refine W2 hgm hrf ?_
      refine Sd ?_
      refine(hkm).val.use ?_;simp only[go_sem,hgm,hrf,hput',hMp.fits]
      refine Sd ?_
      repeat(first|((with_reducible refine AWp.ofC ?_ ?_);exact rfl;simp only[go_sem,hgm,hrf,hput',hMp.fits])|((with_reducible refine an ?_ ?_);exact Au))
      refine⟨_,List.Sublist.refl _,m,by omega,by congr 3,by omega,ks',vs',_,rfl,hMp',fun j hj hmj => ?_⟩
      by_cases e:keyS l[j]=keyS c
      ·rw[if_pos e]
       have hjF:isF ps l[j]=true:=(hm _).1 (List.getElem_mem hj)
       rw[keyS_inj (isF_byte hv hjF) hbyt e]
      ·rw[if_neg e]
       have hne:j ≠ m:=fun e2=>by subst e2;exact e (by rw[hc])
       exact hf j hj (by omega)
  ·have e1:cnE ps=lstE ps:=by rw[hcE,if_pos hE0]
   have e2:cnN ps=0:=by rw[hcN,e1,if_neg hE0]
   rw[e1,e2]
   refine PC.enter 80 [.tmp 2,.tmp 3] [1] Proofs.Tryz.func7 rfl rfl rfl rfl rfl (by simp) (AWp.of ?_);simp only[go_sem]
   refine Wk ?_
   refine Sd ?_
   refine(hva).val.use ?_;simp only[go_sem]
   refine Wk ?_
   refine Sd ?_
   refine(hLi).val.use ?_;simp only[go_sem]
   refine W1 hE0 ?_
   refine ret_eq ?_;simp only[go_sem]
theorem ref24_same (a b:List Int) (ha:a.length≤1000000):PC Proofs.Tryz.prog 33 [aInts a,aInts b] (ab (decide (a=b))):=by
 by_cases hl:a.length=b.length
 ·have hli:(a.length:Int)=b.length:=by omega
  refine PC.enter 26 [.tmp 4] [] Proofs.Tryz.func33 rfl rfl rfl rfl rfl (by simp) (AWp.of ?_);simp only[go_sem]
  refine W1 hli ?_
  refine AWp.block (AWp.count 5 a.length [] [0,1] (fun k vs L=>L=[]∧∀j (h1:j<a.length) (h2:j<b.length),j<k→a[j]=b[j]) rfl rfl ⟨rfl,fun j _ _ h=>by omega⟩ ?_)
  rintro k vs L hk - ⟨rfl,hI⟩
  simp only[go_sem]
  refine W1 hli ?_
  refine⟨fun h3 => ?_,fun h3 => ?_⟩
  ·have hka:k<a.length:=by omega
   have hkb:k<b.length:=by omega
   have ga:=getD_map (f:=ai) hka
   have gb:=getD_map (f:=ai) hkb
   refine AWp.seq (AWp.block (AWp.seq ?_))
   refine AWp.drawn mixed 9 (by kernel_rfl) ?_;simp only[go_sem,ga,gb]
   refine Sd ?_
   refine Wk ?_
   refine⟨fun h4 => ?_,fun h4 => ?_⟩
   ·refine Wk ?_
    refine ret_eq ?_;simp only[go_sem]
    rw[decide_eq_false]
    rintro rfl
    exact h4 rfl
   ·refine Wk ?_
    refine⟨_,List.Sublist.refl _,rfl,fun j j1 j2 hj => ?_⟩
    by_cases e:j=k
    ·subst e;omega
    ·exact hI j j1 j2 (by omega)
  ·refine Wk ?_
   refine ret_eq ?_;simp only[go_sem]
   rw[decide_eq_true]
   exact List.ext_getElem hl fun j j1 j2=>hI j j1 j2 (by omega)
 ·have hli:¬(a.length:Int)=b.length:=by omega
  rw[decide_eq_false fun h=>hl (by rw[h])]
  refine PC.enter 26 [.tmp 4] [] Proofs.Tryz.func33 rfl rfl rfl rfl rfl (by simp) (AWp.of ?_);simp only[go_sem]
  refine W1 hli ?_
  refine ret_eq ?_;simp only[go_sem]
theorem ref24_Same (a b:List (List Int)) (ha:a.length≤1000000) (hx:∀x ∈ a,x.length≤1000000):PC Proofs.Tryz.prog 12 [aRows a,aRows b] (ab (decide (a=b))):=by
 have hR:∀x:List (List Int),aRows x = .sl 1 (x.map aInts):=fun _=>rfl
 rw[hR,hR]
 by_cases hl:a.length=b.length
 ·have hli:(a.length:Int)=b.length:=by omega
  refine PC.enter 27 [.tmp 4] [] Proofs.Tryz.func12 rfl rfl rfl rfl rfl (by simp) (AWp.of ?_);simp only[go_sem]
  refine W1 hli ?_
  refine AWp.block (AWp.count 5 a.length [] [0,1] (fun k vs L=>L=[]∧∀j (h1:j<a.length) (h2:j<b.length),j<k→a[j]=b[j]) rfl rfl ⟨rfl,fun j _ _ h=>by omega⟩ ?_)
  rintro k vs L hk - ⟨rfl,hI⟩
  simp only[go_sem]
  refine W1 hli ?_
  refine⟨fun h3 => ?_,fun h3 => ?_⟩
  ·have hka:k<a.length:=by omega
   have hkb:k<b.length:=by omega
   have ga:=getD_map (f:=aInts) hka
   have gb:=getD_map (f:=aInts) hkb
   have hsl:=ref24_same a[k] b[k] (hx _ (List.getElem_mem hka))
   refine AWp.seq (AWp.block (AWp.seq ?_))
   repeat(first|(with_reducible refine AWp.seq ?_)|(with_reducible refine AWp.block ?_))
   refine AWp.read mixed [0,1,2,3,4,5,6,7,8,9] (by kernel_rfl) ?_;simp only[go_sem,ga,gb]
   refine Sd ?_
   refine GCall.use (ab (decide (a[k]=b[k]))) (fun _=>⟨At,hsl.val.use ⟨rfl,rfl⟩⟩) ?_
   simp only[go_sem]
   refine Sd ?_
   refine Wk ?_
   refine⟨fun h4 => ?_,fun h4 => ?_⟩
   ·refine Wk ?_
    refine ret_eq ?_;simp only[go_sem]
    rw[decide_eq_false]
    rintro rfl
    exact h4 rfl
   ·refine Wk ?_
    refine⟨_,List.Sublist.refl _,rfl,fun j j1 j2 hj => ?_⟩
    by_cases e:j=k
    ·subst e;exact h4
    ·exact hI j j1 j2 (by omega)
  ·refine Wk ?_
   refine ret_eq ?_;simp only[go_sem]
   rw[decide_eq_true]
   exact List.ext_getElem hl fun j j1 j2=>hI j j1 j2 (by omega)
 ·have hli:¬(a.length:Int)=b.length:=by omega
  rw[decide_eq_false fun h=>hl (by rw[h])]
  refine PC.enter 27 [.tmp 4] [] Proofs.Tryz.func12 rfl rfl rfl rfl rfl (by simp) (AWp.of ?_);simp only[go_sem]
  refine W1 hli ?_
  refine ret_eq ?_;simp only[go_sem]
end Go.AL
end
section
namespace Go.AL
open Go Go.RowKit
theorem AWp.range1 {C:Cfg} {id i1 i2 t s n t2:Nat} {ty1 ty2 ty3 ty4 r1 r2 r3:TypeId} {p1 p2 p3:String} {a1 a2 a3:Array Edge} {body:Code} {Q:AQ} {ρ:Env} {L:AHeap}
  (m:Nat) (ls ks:List Nat) (I:Nat→List AV→AHeap→Prop) (hm:m≤9223372036854775807) (hs:get ρ s=ai 0) (hn:get ρ n=ai m) (hnk:n ∈ ks) (hsk:s ∉ ks) (hsl:s ∉ ls) (hts:t ≠ s) (htk:t ∉ ks) (h2k:t2 ∉ ks) (htl:t ∉ ls) (h2l:t2 ∉ ls)
  (h0:I 0 (ls.map (get ρ)) L)
  (round:∀k vs L',k<m→vs.length=ls.length→I k vs L'→AWp C body (rangeQ id s k ls ks ρ (I (k+1)) Q) ((s,ai k) :: lenv ls ks vs ρ) L')
  (done:∀vs L',vs.length=ls.length→I m vs L'→Q .normal ((s,ai m) :: lenv ls ks vs ρ) L') :
  AWp C (.block id (.loop (.seq (.region i1 #[⟨some t,.binOp .lss ty1 (.tmp s) (.tmp n) ty2,r1,p1,a1,none⟩] false) (.seq (.cond (.tmp t) .skip (.exit id)) (.seq body
   (.region i2 #[⟨some t2,.binOp .add ty3 (.tmp s) (.const (.int .i64 1)) ty4,r2,p2,a2,none⟩,⟨some s,.move (.tmp t2),r3,p3,a3,none⟩] false)))))) Q ρ L:=by
 have hnl:∀vs:List AV,vs.length=ls.length→get (lenv ls ks vs ρ) n=ai m:=fun vs _=>by
  unfold lenv
  have hin:n ∈ (keep ks ρ).map (·.1):=by simp [keep,hnk]
  rw[get_append,if_pos hin]
  rcases get_keep ks ρ n with e|e
  ·have:∀l:List Nat,n ∈ l→get (keep l ρ) n=get ρ n:=fun l=>by
    induction l with
    | nil=>intro h;cases h
    | cons x r ih =>
     intro h
     simp only[keep,List.map_cons,get]
     split
     ·rename_i e;rw[e]
     ·rename_i e;exact ih ((List.mem_cons.1 h).resolve_left e)
   rw[this ks hnk,hn]
  ·rw[e,hn]
 have hns:n ≠ s:=fun e=>hsk (e ▸ hnk)
 have dropT:∀(k:Nat) (vs:List AV) (x:AV) (i:Nat),get ((s,ai k) :: lenv ls ks vs ρ) i = .any∨get ((s,ai k) :: lenv ls ks vs ρ) i=get ((t,x) :: (s,ai k) :: lenv ls ks vs ρ) i:=fun k vs x i=>by
  by_cases hi:i=t
  ·subst hi
   refine .inl ?_
   simp only[get,if_neg hts,lenv]
   rw[get_append,if_neg (by simp [keep,htk])]
   have:∀(l:List Nat) (v:List AV),i ∉ l→get (l.zip v) i = .any:=fun l=>by
    induction l with
    | nil=>intro v _;rfl
    | cons x r ih =>
     intro v h
     cases v with
     | nil=>rfl
     | cons y v =>
      simp only[List.zip_cons_cons,get]
      rw[if_neg (by rintro rfl;exact h List.mem_cons_self)]
      exact ih v (fun hh=>h (List.mem_cons_of_mem _ hh))
   exact this ls vs htl
  ·exact .inr (by simp [get,hi])
 refine AWp.block (AWp.loop (s :: ls) ks (fun vs' L'=>∃(k:Nat) (vs:List AV),vs'=ai (k:Int) :: vs∧k≤m∧I k vs L') (fun vs' _=>match vs' with | .v (.int _ k) :: _=>m - k.toNat|_=>0)
  ⟨0,_,by simp [hs],Nat.zero_le _,h0⟩ ?_)
 rintro vs' L' hl ⟨k,vs,rfl,hk,hI⟩
 have hvl:vs.length=ls.length:=by simpa using hl
 -- the counter first
 refine AWp.st (ρ':=(s,ai k) :: lenv ls ks vs ρ) (L':=L') (fun w0 M A0 a w h=>st_forget h fun i => ?_) ?_
 ·by_cases hi:i=s
  ·subst hi
   refine .inr ?_
   simp only[get,if_true,lenv]
   rw[get_append,if_neg (by simp [keep,hsk])]
   simp [get]
  ·refine .inr ?_
   simp only[get,if_neg hi,lenv,List.zip_cons_cons]
   rw[get_append,get_append]
   split
   ·rfl
   ·simp [get,hi]
 have hget_s:get ((s,ai k) :: lenv ls ks vs ρ) s=ai k:=by simp [get]
 have hget_n:get ((s,ai k) :: lenv ls ks vs ρ) n=ai m:=by simp only[get,if_neg hns];exact hnl vs hvl
 refine AWp.seq (AWp.region ?_)
 simp only[aregion,astep,aop,aval,ev,hget_s,hget_n,w2,fo,aEq,aBin,thenQ,put]
 refine⟨by simp,?_⟩
 refine AWp.seq (AWp.cond (t:=decide ((k:Int)<m)) (by simp [ev,get]) (fun ht => ?_) (fun hf => ?_))
 ·have hlt:k<m:=by simpa using ht
  refine AWp.of ?_
  simp only[awp1,thenQ]
  refine AWp.st (ρ':=(s,ai k) :: lenv ls ks vs ρ) (L':=L') (fun w0 M A0 a w h=>st_forget h (dropT k vs _)) ?_
  refine AWp.seq ((round k vs L' hlt hvl hI).mono ?_)
  intro e ρ' L'' hq
  cases e with
  | normal =>
   obtain⟨g1,g2,L3,g3,g4⟩:=hq
   simp only[thenQ]
   refine AWp.region ?_
   have hi64:I64 ((k:Int)+1):=by unfold I64;omega
   simp only[aregion,astep,aop,aval,ev,g1,w2,fo,aEq,aBin,put,if_true,get]
   refine⟨⟨⟨trivial,trivial⟩,trivial,hi64⟩,trivial,?_⟩
   simp only[roundQ]
   have hks:ks.map (get ((s,ai ((k:Int)+1)) :: (t2,ai ((k:Int)+1)) :: ρ'))=ks.map (get ρ'):=List.map_congr_left fun j hj=>by
    simp only[get];rw[if_neg (by rintro rfl;exact hsk hj),if_neg (by rintro rfl;exact h2k hj)]
   have hls:ls.map (get ((s,ai ((k:Int)+1)) :: (t2,ai ((k:Int)+1)) :: ρ'))=ls.map (get ρ'):=List.map_congr_left fun j hj=>by
    simp only[get];rw[if_neg (by rintro rfl;exact hsl hj),if_neg (by rintro rfl;exact h2l hj)]
   refine⟨by rw[hks];exact g2,L3,g3,⟨k+1,_,?_,hlt,g4⟩,?_⟩
   ·rw[List.map_cons,hls]
    simp only[get,if_true]
    rfl
   ·simp only[List.map_cons,get,if_true]
    have:((k:Int)+1).toNat=k+1:=by omega
    simp only[this,Int.toNat_natCast]
    omega
  | exit id'=>simpa [thenQ,roundQ,blockQ,rangeQ] using hq
  | goto l=>exact hq
  | ret=>exact hq
  | panic c=>exact hq
  | outgrown=>exact hq
 ·have hkm:k=m:=by have:¬((k:Int)<m):=by simpa using hf
                   omega
  subst hkm
  refine AWp.st (ρ':=(s,ai k) :: lenv ls ks vs ρ) (L':=L') (fun w0 M A0 a w h=>st_forget h (dropT k vs _)) (AWp.of ?_)
  simp only[awp1,thenQ,roundQ,blockQ,if_true]
  exact done vs L' hvl hI
theorem AWp.range1' {C:Cfg} {id i1 i2 t s n t2:Nat} {ty1 ty2 ty3 ty4 r1 r2 r3:TypeId} {p1 p2 p3:String} {a1 a2 a3:Array Edge} {body:Code} {Q:AQ} {ρ:Env} {L:AHeap}
  (m:Nat) (ls ks:List Nat) (I:Nat→List AV→AHeap→Prop) (hm:m≤9223372036854775807) (hs:get ρ s=ai 0) (hn:get ρ n=ai m) (hok:rOk s n t t2 ls ks=true)
  (h0:I 0 (ls.map (get ρ)) L)
  (round:∀k vs L',k<m→vs.length=ls.length→I k vs L'→AWp C body (rangeQ id s k ls ks ρ (I (k+1)) Q) ((s,ai k) :: lenv ls ks vs ρ) L')
  (done:∀vs L',vs.length=ls.length→I m vs L'→Q .normal ((s,ai m) :: lenv ls ks vs ρ) L') :
  AWp C (.block id (.loop (.seq (.region i1 #[⟨some t,.binOp .lss ty1 (.tmp s) (.tmp n) ty2,r1,p1,a1,none⟩] false) (.seq (.cond (.tmp t) .skip (.exit id)) (.seq body
   (.region i2 #[⟨some t2,.binOp .add ty3 (.tmp s) (.const (.int .i64 1)) ty4,r2,p2,a2,none⟩,⟨some s,.move (.tmp t2),r3,p3,a3,none⟩] false)))))) Q ρ L:=by
 simp only[rOk,Bool.and_eq_true,Bool.not_eq_true',List.contains_eq_mem,decide_eq_false_iff_not,decide_eq_true_eq,bne_iff_ne,ne_eq] at hok
 obtain⟨⟨⟨⟨⟨⟨⟨h1,h2⟩,h3⟩,h4⟩,h5⟩,h6⟩,h7⟩,h8⟩:=hok
 exact AWp.range1 m ls ks I hm hs hn h1 h2 h3 h4 h5 h6 h7 h8 h0 round done
end Go.AL
end
section
namespace Go.AL
open Go Go.RowKit
set_option maxRecDepth 4000
def relS (b4 b2 n:Nat) (rs:List (List Nat)) (L:AHeap):Prop :=
 (rs=[]∧L=[(b4,.row 33 1 [.agg [anil]] 1),(b2,.row 33 1 [.agg [anil]] 1)]) ∨
 ∃c cap,(¬c=b4∧¬c=b2)∧L=[(c,.row 75 2 (rs.map (aBits n)) cap),(b4,.row 33 1 [.agg [.ls c 2 0 rs.length cap]] 1),(b2,.row 33 1 [.agg [anil]] 1)]
end Go.AL
end
