/- Texts of this claim's proof: WMl, WMc, WMd, AlGrd, WSs, WSp, WCp, WCk. No condition. -/
import Derived.Test.YtnpagaiphamfaaaGreatDoorM16
import Derived.Test.YtnpagaiphamfaaaGreatDoorM6
import Derived.Test.YtnpagaiphamfaaaGreatDoorM14
import Derived.Test.YtnpagaiphamfaaaGreatDoorM15
import Derived.Test.YtnpagaiphamfaaaGreatDoorM11
import Derived.Test.YtnpagaiphamfaaaGreatDoorM10
section
namespace Go.AL
open Go Go.RowKit
set_option maxRecDepth 4000
def nlev (ps:List Pr):Nat:=(List.range (off ps ps.length+2)).findIdx fun k=>(levF ps k).isEmpty
theorem range_findIdx (p:Nat→Bool) (n:Nat) (h:(List.range n).findIdx p<n):p ((List.range n).findIdx p)=true:=by
 have w:(List.range n).findIdx p<(List.range n).length:=by rw[List.length_range];exact h
 have:=List.findIdx_getElem (w:=w)
 rwa [List.getElem_range] at this
theorem nlev_lt {ps:List Pr} {j:Nat} (h:j<nlev ps):levF ps j ≠ []:=fun e=>by
 unfold nlev at h
 have hl:j<(List.range (off ps ps.length+2)).length:=Nat.lt_of_lt_of_le h List.findIdx_le_length
 have:=List.not_of_lt_findIdx h
 rw[List.getElem_range] at this
 simp [e] at this
theorem nlev_eq {ps:List Pr} {k:Nat} (hk:k≤nlev ps) (h:levF ps k=[]):k=nlev ps:=by
 rcases Nat.lt_or_ge k (nlev ps) with h1|h1
 ·exact absurd h (nlev_lt h1)
 ·omega
theorem nlev_succ {ps:List Pr} (hv:validF ps=true) {k:Nat} (hk:k≤nlev ps) (h:levF ps k ≠ []):k+1≤nlev ps:=by
 rcases Nat.lt_or_ge k (nlev ps) with h1|h1
 ·omega
 ·exfalso
  have e:k=nlev ps:=by omega
  have hko:k≤off ps ps.length:=by
   rcases Nat.lt_or_ge (off ps ps.length) k with h|h'
   ·exact absurd (levF_end hv h) ‹levF ps k ≠ []›
   ·exact h'
  have this:(levF ps (nlev ps)).isEmpty=true:=range_findIdx (fun k=>(levF ps k).isEmpty) _ (show nlev ps<_ by omega)
  rw[e] at h
  exact h (List.isEmpty_iff.1 this)
def lvsF (ps:List Pr) (k:Nat):List AV:=(List.range k).map fun j=>aRows (levF ps j)
theorem lvsF_succ (ps:List Pr) (k:Nat):lvsF ps (k+1)=lvsF ps k ++ [aRows (levF ps k)]:=by unfold lvsF;rw[List.range_succ,List.map_append];rfl
theorem lvsF_len (ps:List Pr) (k:Nat):(lvsF ps k).length=k:=by simp [lvsF]
noncomputable def aLvs (ps:List Pr):AV:=if validF ps=true then (if (cutsF ps).length≤5000 then .tup [.sl 1 (lvsF ps (nlev ps)),ai 0] else .tup [.sl 1 [],ai 16]) else .tup [.sl 1 [],ai 1]
theorem cuts_levels (ps:List Pr) (hs:Sm ps):PC Proofs.Tryz.prog 117 [aTr ps] (aLvs ps):=by
 have hva:=trace_Valid ps hs
 unfold aLvs
 refine PC.enter 35 [.tmp 2,.tmp 3] [1,4,32] Proofs.Tryz.func117 rfl rfl rfl rfl rfl (by simp) (AWp.of ?_);simp only[go_sem]
 refine Wk ?_
 refine Sd ?_
 refine(hva).val.use ?_;simp only[go_sem]
 cases hv:validF ps with
 | false =>
  refine Wk ?_
  refine ret_view [] ?_;simp only[go_sem]
  exact .mkTup (Vws.cons (.nil 1) (Vws.refl _))
 | true =>
  obtain⟨hl1,hl8⟩:=valid_len hv
  have hof:=cuts_of ps hs hv
  rw[if_pos rfl]
  unfold aMk at hof
  refine Wk ?_
  refine Sd ?_
  refine(hof).val.use ?_;simp only[go_sem]
  intro b4
  refine Wk ?_
  intro b0 b1 g1
  have n1:¬b1=b0:=by omega
  have n2:¬b0=b1:=by omega
  refine AWp.view [true,true] [(5,.sl 1 ((levF ps 0).map aInts))] (LVw.refl _) ?_ ?_
  ·intro q hq
   simp only[List.mem_singleton] at hq
   subst hq
   simp only[go_sem,pickT]
   have e:List.replicate ps.length (ai 0)=(List.replicate ps.length (0:Int)).map ai:=(List.map_replicate).symm
   rw[e]
   exact Vw.ofLs' (t:=42) (cap:=1) (if_pos rfl) rfl (Vws.cons (Vw.ofLs (t:=3) (cap:=ps.length) (by simp only[lk,n2,if_false,if_true]) (by rw[List.length_map,List.length_replicate])) .nil)
  simp only[go_sem,pickF]
  have hz0:(0:Int)=((cumF ps 0).length:Nat):=rfl
  have hof1:1≤off ps ps.length+1:=by omega
  refine Wk ?_
  refine AWp.block (AWp.loopN [5,6,7] [4] (fun m vs L=>∃(k:Nat) (v:AV),vs=[.sl 1 ((levF ps k).map aInts),v,ai (cumF ps k).length]∧AppSt 28 1 (lvsF ps k) v L∧(cumF ps k).length≤5000∧(levF ps k).length≤40000∧k≤nlev ps∧k≤off ps ps.length+1∧m=off ps ps.length+1 - k) (off ps ps.length+1) ⟨0,anil,rfl,.nil,by simp [cumF],by simp [levF],by omega,by omega,rfl⟩ ?_)
  rintro m vs L - ⟨k,v,rfl,hA,h5,hl4,hkn,hk,rfl⟩
  by_cases hlv:levF ps k=[]
  ·have hz:¬(0:Int)<((levF ps k).length:Int):=by rw[hlv];simp
   have hcut:cutsF ps=cumF ps k:=by
    unfold cutsF
    rw[show off ps ps.length+1=k+(off ps ps.length+1 - k) by omega,cumF_end hlv]
   rw[hcut,if_pos h5,← nlev_eq hkn hlv]
   generalize lvsF ps k=ys at *
   rcases hA.inv with ⟨e1,rfl,rfl⟩|⟨bq,cap,rfl,rfl⟩
   ·simp only[go_sem]
    refine W1 hz ?_
    refine ret_view [] ?_;simp only[go_sem]
    rw[e1]
    exact .mkTup (Vws.cons (.nil 1) (Vws.refl _))
   ·simp only[go_sem]
    refine W1 hz ?_
    refine ret_view [true] ?_;simp only[go_sem]
    exact .mkTup (Vws.cons (Vw.ofLs (if_pos rfl) rfl) (Vws.refl _))
  ·have hko:k≤off ps ps.length:=by
    rcases Nat.lt_or_ge (off ps ps.length) k with h|h
    ·exact absurd (levF_end hv h) hlv
    ·exact h
   have hpos:0<(levF ps k).length:=List.length_pos_iff.2 hlv
   have hposi:(0:Int)<((levF ps k).length:Int):=by omega
   have hcs:=cumF_succ ps k
   have hcsl:(cumF ps (k+1)).length=(cumF ps k).length+(levF ps k).length:=by rw[hcs,List.length_append]
   have hmono:=cumF_mono (ps:=ps) (j:=k+1) (k:=off ps ps.length+1) (by omega)
   have hcutl:(cumF ps (off ps ps.length+1)).length=(cutsF ps).length:=rfl
   have hsum:=nlev_succ hv hkn hlv
   have hmore:(levF ps k).length≤5000→(levF ps (k+1)).length≤40000:=fun h=>by
    have:=moreT_len (ps:=ps) (B:=ps.length) (l:=levF ps k) (acc:=[]) fun c hc=>by rw[(isF_iff.1 ((mem_levF hv k c).1 hc).1).1];exact Nat.le_refl _
    have h2:(levF ps k).length * ps.length≤5000 * 8:=Nat.mul_le_mul h hl8
    have h3:(levF ps (k+1)).length=((levF ps k).foldl (fun acc c=>insL acc (nextL ps c)) []).length:=rfl
    rw[h3]
    simp only[List.length_nil] at this
    omega
   have hnx:=fun h=>maker_next ps hs hv k h
   unfold aMk aRows at hnx
   have hys:=lvsF_succ ps k
   have hyl:=lvsF_len ps k
   unfold aRows at hys
   have hofl:off ps ps.length≤8000000:=by
    have:=off_small hs ps.length (Nat.le_refl _)
    omega
   rcases hA.inv with ⟨e1,rfl,rfl⟩|⟨bq,cap,rfl,rfl⟩
   ·simp only[go_sem]
    repeat(first|((with_reducible refine AWp.ofC ?_ ?_);exact rfl;simp only[go_sem,hposi])|((with_reducible refine an ?_ ?_);exact Au))
    refine Wk ?_
    refine⟨fun h9 => ?_,fun h9 => ?_⟩
    ·rw[if_neg (by omega)]
     refine Wk ?_
     refine ret_view [] ?_;simp only[go_sem]
     exact .mkTup (Vws.cons (.nil 1) (Vws.refl _))
    ·have hnx:=hnx (by omega)
     refine Wk ?_
     intro b' cap' hc'
     refine Wk ?_
     refine Sd ?_
     refine(hnx).val.use ?_;simp only[go_sem]
     refine Wk ?_
     refine⟨_,List.Sublist.refl _,_,?_,k+1,.ls b' 1 0 1 cap',by rw[hcsl];simp,?_,by omega,hmore (by omega),hsum,by omega,rfl⟩
     ·omega
     ·rw[hys,e1];exact .row b' [_] cap'
   ·simp only[go_sem]
    repeat(first|((with_reducible refine AWp.ofC ?_ ?_);exact rfl;simp only[go_sem,hposi])|((with_reducible refine an ?_ ?_);exact Au))
    refine Wk ?_
    refine⟨fun h9 => ?_,fun h9 => ?_⟩
    ·rw[if_neg (by omega)]
     refine Wk ?_
     refine ret_view [true] ?_;simp only[go_sem]
     exact .mkTup (Vws.cons (.nil 1) (Vws.refl _))
    ·have hnx:=hnx (by omega)
     refine W1 hyl ?_
     intro b' cap' hc'
     refine Wk ?_
     refine Sd ?_
     refine(hnx).val.use ?_;simp only[go_sem]
     refine Wk ?_
     refine⟨_,List.Sublist.refl _,_,?_,k+1,.ls b' 1 0 (k+1) cap',by rw[hcsl];simp,?_,by omega,hmore (by omega),hsum,by omega,rfl⟩
     ·omega
     ·rw[hys,show List.take k (lvsF ps k)=lvsF ps k from List.take_of_length_le (by omega)];exact AppSt.snoc b' cap' (k+1) (congrArg (· + 1) hyl.symm)
def GrowS (n:Nat) (r:AV) (L:AHeap):Prop:=(n=0∧r=anil∧L=[])∨∃b cap,n≤cap∧r = .ls b 1 0 0 cap∧L=[(b,.row 42 1 (List.replicate n anil) cap)]
theorem rows_grow (n:Nat) (hn:n≤1000000):MCalls Proofs.Tryz.prog 147 [anil,ai (n:Nat)] [] (GrowS n):=by
 refine MCalls.enter' 27 [.tmp 4] [] Proofs.Tryz.func147 rfl rfl rfl rfl rfl (by simp) (AWp.of ?_);simp only[go_sem]
 refine Wk ?_
 intro _
 refine Wk ?_
 refine Wk ?_
 refine⟨fun h1 => ?_,fun h1 => ?_⟩
 ·refine Wk ?_
  intro b cap hc
  refine Wk ?_
  refine ret_own ?_
  simp only[go_sem]
  have e:((n:Int) - (((0:Nat):Int) - ((0:Nat):Int))).toNat=n:=by omega
  rw[e]
  exact .inr ⟨b,cap,by omega,by simp,rfl⟩
 ·have:n=0:=by omega
  refine Wk ?_
  refine ret_own ?_
  simp only[go_sem]
  exact .inl ⟨this,rfl,rfl⟩
def CatS (ls:List (List (List Int))) (k:Nat) (v:AV) (L:AHeap):Prop :=
 (ls.flatten=[]∧v=anil∧L=[])∨∃b cap xs,v = .ls b 1 0 (ls.take k).flatten.length cap∧L=[(b,.row 42 1 xs cap)]∧(ls.take k).flatten.length≤xs.length∧xs.take (ls.take k).flatten.length=(ls.take k).flatten.map aInts
theorem flat_succ {ls:List (List (List Int))} {k:Nat} (hk:k<ls.length):(ls.take (k+1)).flatten=(ls.take k).flatten ++ ls[k]:=by
 rw[List.take_succ_eq_append_getElem hk,List.flatten_append];simp
theorem flat_le {ls:List (List (List Int))} (k:Nat):(ls.take k).flatten.length≤ls.flatten.length:=by
 conv=>rhs;rw[← List.take_append_drop k ls,List.flatten_append,List.length_append]
 omega
theorem rows_concat (ls:List (List (List Int))) (hl:ls.length≤100000000) (hf:ls.flatten.length≤1000000) :
  MCalls Proofs.Tryz.prog 118 [.sl 1 (ls.map aRows)] [] fun r L=>CatS ls ls.length r L:=by
 have hR:∀x:List (List Int),aRows x = .sl 1 (x.map aInts):=fun _=>rfl
 refine MCalls.enter' 36 [.tmp 2] [] Proofs.Tryz.func118 rfl rfl rfl rfl rfl (by simp) (AWp.of ?_);simp only[go_sem]
 refine Wk ?_
 refine AWp.range' ls.length [3] [0,9,10] (fun k vs L=>L=[]∧vs=[ai ((ls.take k).flatten.length:Nat)]) (by omega) rfl rfl rfl ⟨rfl,by rw[List.take_zero];rfl⟩ ?_ ?_
 ·rintro k vs L hk - ⟨rfl,rfl⟩
  have h1:=flat_le (ls:=ls) k
  have h2:=flat_le (ls:=ls) (k+1)
  have h3:=congrArg List.length (flat_succ hk)
  rw[List.length_append] at h3
  have hg:=getD_map (f:=aRows) hk
  simp only[go_sem]
  refine W2 hg hR ?_
  intro _
  refine Wk ?_
  exact⟨_,List.Sublist.refl _,rfl,by rw[h3];simp⟩
 ·rintro vs L - ⟨rfl,rfl⟩
  rw[List.take_length]
  simp only[go_sem]
  refine Wk ?_
  refine(rows_grow _ hf).val.mono ?_
  intro r L hr
  have hI:CatS ls 0 r L:=by
   rcases hr with ⟨h0,rfl,rfl⟩|⟨b,cap,hc,rfl,rfl⟩
   ·exact .inl ⟨List.eq_nil_of_length_eq_zero h0,rfl,rfl⟩
   ·exact .inr ⟨b,cap,_,by simp,rfl,by simp,by simp⟩
  clear hr
  have hfo:fo r=(True,r):=by rcases hI with ⟨_,rfl,_⟩|⟨b,cap,xs,rfl,_⟩ <;> rfl
  simp only[go_sem,hfo]
  refine W1 hfo ?_
  refine AWp.range' ls.length [6] [25,26] (fun k vs L=>∃v,vs=[v]∧CatS ls k v L) (by omega) rfl rfl rfl ⟨_,rfl,hI⟩ ?_ ?_
  ·clear hI
   rintro k vs L hk - ⟨v,rfl,hC⟩
   have h2:=flat_le (ls:=ls) (k+1)
   have hs:=flat_succ hk
   have h3:=congrArg List.length hs
   rw[List.length_append] at h3
   have hg:=getD_map (f:=aRows) hk
   have hll:(ls[k].map aInts).length=ls[k].length:=List.length_map _
   rcases hC with ⟨h0,rfl,rfl⟩|⟨b,cap,xs,rfl,rfl,hx,ht⟩
   ·have he:ls[k].map aInts=[]:=by
     rw[List.flatten_eq_nil_iff.1 h0 _ (List.getElem_mem hk)];rfl
    simp only[go_sem]
    refine W3 hg hR he ?_
    exact⟨_,List.Sublist.refl _,_,rfl,.inl ⟨h0,rfl,rfl⟩⟩
   ·have hy:(ls.take (k+1)).flatten.map aInts=(ls.take k).flatten.map aInts ++ ls[k].map aInts:=by rw[hs,List.map_append]
    unfold CatS
    rw[hy,h3,← ht]
    simp only[go_sem]
    refine W2 hg hR ?_
    intro b' cap' hc
    refine⟨_,List.Sublist.refl _,_,rfl,.inr ⟨b',cap',_,rfl,rfl,?_,?_⟩⟩
    ·rw[List.length_append,List.length_take];omega
    ·rw[List.take_of_length_le (by rw[List.length_append,List.length_take];omega)]
  ·clear hI
   rintro vs L - ⟨v,rfl,hC⟩
   have hfo:fo v=(True,v):=by rcases hC with ⟨_,rfl,_⟩|⟨b,cap,xs,rfl,_⟩ <;> rfl
   simp only[go_sem]
   refine W1 hfo ?_
   refine ret_own ?_
   simp only[go_sem]
   exact hC
noncomputable def lstE (ps:List Pr):Int:=if validF ps=true then (if (cutsF ps).length≤5000 then 0 else 16) else 1
noncomputable def lvOf (ps:List Pr):List (List (List Int)):=if lstE ps=0 then (List.range (nlev ps)).map (levF ps) else []
noncomputable def lstF (ps:List Pr):List (List Int):=if lstE ps=0 then cutsF ps else []
noncomputable def aLst (ps:List Pr):AV:=.tup [aRows (lstF ps),ai (lstE ps)]
theorem lst_zero {ps:List Pr} : lstE ps=0↔validF ps=true∧(cutsF ps).length≤5000:=by
 unfold lstE
 split
 ·split <;> simp_all
 ·simp_all
theorem aLvs_eq (ps:List Pr):aLvs ps = .tup [.sl 1 ((lvOf ps).map aRows),ai (lstE ps)]:=by
 unfold aLvs lvOf lvsF
 by_cases hv:validF ps=true
 ·by_cases h5:(cutsF ps).length≤5000
  ·rw[if_pos hv,if_pos h5,if_pos (lst_zero.2 ⟨hv,h5⟩)]
   unfold lstE
   rw[if_pos hv,if_pos h5,List.map_map];rfl
  ·rw[if_pos hv,if_neg h5,if_neg fun h=>h5 (lst_zero.1 h).2]
   unfold lstE
   rw[if_pos hv,if_neg h5];rfl
 ·rw[if_neg hv,if_neg fun h=>hv (lst_zero.1 h).1]
  unfold lstE
  rw[if_neg hv];rfl
theorem lev_nlev {ps:List Pr} (hv:validF ps=true):levF ps (nlev ps)=[]:=by
 have h1:(levF ps (off ps ps.length+1)).isEmpty=true:=by rw[levF_end hv (by omega)];rfl
 have:nlev ps<off ps ps.length+2:=by
  unfold nlev
  have:=List.findIdx_lt_length_of_exists (p:=fun k=>(levF ps k).isEmpty) (xs:=List.range (off ps ps.length+2)) ⟨off ps ps.length+1,by simp,h1⟩
  rwa [List.length_range] at this
 exact List.isEmpty_iff.1 (range_findIdx (fun k=>(levF ps k).isEmpty) _ this)
theorem nlev_le {ps:List Pr} : nlev ps≤off ps ps.length+2:=by
 have:=List.findIdx_le_length (p:=fun k=>(levF ps k).isEmpty) (xs:=List.range (off ps ps.length+2))
 rwa [List.length_range] at this
theorem cum_nlev {ps:List Pr} (hv:validF ps=true):cumF ps (nlev ps)=cutsF ps:=by
 have h:=cumF_end (lev_nlev hv)
 unfold cutsF
 rcases Nat.lt_or_ge (off ps ps.length+1) (nlev ps) with h1|h1
 ·have h2:=cumF_end (levF_end hv (show off ps ps.length<off ps ps.length+1 by omega)) (nlev ps - (off ps ps.length+1))
  rw[show off ps ps.length+1+(nlev ps - (off ps ps.length+1))=nlev ps by omega] at h2
  exact h2
 ·have:=h (off ps ps.length+1 - nlev ps)
  rw[show nlev ps+(off ps ps.length+1 - nlev ps)=off ps ps.length+1 by omega] at this
  exact this.symm
theorem lv_flat (ps:List Pr):(lvOf ps).flatten=lstF ps:=by
 unfold lvOf lstF
 split
 ·rename_i h
  rw[← cum_nlev (lst_zero.1 h).1]
  unfold cumF
  rw[List.flatMap_def]
 ·rfl
theorem lst_len (ps:List Pr):(lstF ps).length≤5000:=by
 unfold lstF
 split
 ·rename_i h;exact(lst_zero.1 h).2
 ·exact Nat.zero_le _
theorem lv_len {ps:List Pr} (hs:Sm ps):(lvOf ps).length≤10000002:=by
 unfold lvOf
 split
 ·rename_i h
  have:=(valid_len (lst_zero.1 h).1).2
  rw[List.length_map,List.length_range]
  have:=nlev_le (ps:=ps)
  have:=off_small hs ps.length (Nat.le_refl _)
  omega
 ·exact Nat.zero_le _
theorem cuts_levels' (ps:List Pr) (hs:Sm ps):PC Proofs.Tryz.prog 117 [aTr ps] (.tup [.sl 1 ((lvOf ps).map aRows),ai (lstE ps)]):=by
 rw[← aLvs_eq];exact cuts_levels ps hs
theorem Vw.pre {L:AHeap} {b k n c:Nat} {t:TypeId} {xs ys:List AV} {cap:Nat} (h:lk L b=some (.row t k xs cap)) (hn:n≤xs.length) (ht:xs.take n=ys):Vw L (.ls b k 0 n c) (.sl k ys) :=
 .ls h (by omega) (by rw[List.drop_zero,ht]) (by rw[List.drop_zero,ht];exact(Vws.refl ys).2)
theorem cuts_list (ps:List Pr) (hs:Sm ps):PC Proofs.Tryz.prog 72 [aTr ps] (aLst ps):=by
 have h1:=cuts_levels' ps hs
 have hf:(lvOf ps).flatten.length≤1000000:=by rw[lv_flat];have:=lst_len ps;omega
 have h2:=rows_concat (lvOf ps) (by have:=lv_len hs;omega) hf
 have hR:∀x:List (List Int),aRows x = .sl 1 (x.map aInts):=fun _=>rfl
 have hfl:=lv_flat ps
 unfold aLst
 rw[← hfl,hR]
 generalize lvOf ps=ls at *
 generalize lstE ps=e at *
 refine PC.enter 14 [.tmp 2,.tmp 3] [1] Proofs.Tryz.func72 rfl rfl rfl rfl rfl (by simp) (AWp.of ?_);simp only[go_sem]
 refine Wk ?_
 refine Sd ?_
 refine(h1).val.use ?_;simp only[go_sem]
 refine Wk ?_
 refine h2.val.mono ?_
 intro r L hC
 unfold CatS at hC
 rw[List.take_length] at hC
 rcases hC with ⟨h0,rfl,rfl⟩|⟨b,cap,xs,rfl,rfl,hx,ht⟩
 ·simp only[go_sem]
  refine Wk ?_
  refine ret_view [] ?_;simp only[go_sem]
  rw[h0]
  exact .mkTup (Vws.cons (.nil 1) (Vws.refl _))
 ·simp only[go_sem]
  refine Wk ?_
  refine ret_view [true] ?_;simp only[go_sem]
  exact .mkTup (Vws.cons (Vw.pre (if_pos rfl) hx ht) (Vws.refl _))
theorem cuts_List (ps:List Pr) (hs:Sm ps):PC Proofs.Tryz.prog 34 [aTr ps] (aLst ps):=by
 have h1:=cuts_list ps hs
 unfold aLst at *
 refine PC.enter 8 [.tmp 2,.tmp 3] [1] Proofs.Tryz.func34 rfl rfl rfl rfl rfl (by simp) (AWp.of ?_);simp only[go_sem]
 refine Wk ?_
 refine Sd ?_
 refine(h1).val.use ?_;simp only[go_sem]
 refine Wk ?_
 refine ret_eq ?_;simp only[go_sem]
def fullC (ps:List Pr):List Int:=ps.map fun x=>(x.evs.length:Int)
theorem fullC_at {ps:List Pr} {p:Nat} (hp:p<ps.length):cAt (fullC ps) p=ps[p].evs.length:=by
 unfold fullC
 rw[cAt_nat (by rw[List.length_map];exact hp),List.getElem_map]
theorem fullC_is {ps:List Pr} (hv:validF ps=true):isF ps (fullC ps)=true:=by
 have hl:(fullC ps).length=ps.length:=List.length_map _
 refine isF_iff.2 ⟨hl,(inRange_iff hl).2 fun p hp => ?_,closed_iff.2 fun p hp i hi hk _ => ?_⟩
 ·rw[fullC_at hp];omega
 ·obtain⟨s,hs,j,hj,e,_,_⟩:=sndr_some (recv_sndr (valid_parts hv).2.2 hp hi hk)
  rw[e]
  simp only
  rw[fullC_at hs];omega
theorem fullC_sum (ps:List Pr):(fullC ps).sum=off ps ps.length:=by
 unfold fullC off
 rw[List.take_length]
 induction ps with
 | nil=>rfl
 | cons x ps ih=>rw[List.map_cons,List.sum_cons,ih,List.map_cons,List.sum_cons];omega
end Go.AL
end
section
namespace Go.AL
open Go Go.RowKit
def astepF (C:Cfg) (all:List Oper) (o:Oper) (ρ:Env) (L:AHeap) (K:ARes):Prop :=
 match o.guard with
 | none=>aop C o ρ L K
 | some (j,want)=>match gval all ρ j want with
  | some b=>(b=want→aop C o ρ L K)∧(b ≠ want→K (put ρ o.dst .any) L)
  | none=>False
def aregionF (C:Cfg) (all:List Oper):List Oper→Env→AHeap→ARes→Prop
 | [],ρ,L,K=>K ρ L
 | o :: rest,ρ,L,K=>astepF C all o ρ L fun ρ L=>aregionF C all rest ρ L K
def aregFK (C:Cfg) (all rest:List Oper) (K:ARes) (ρ:Env) (L:AHeap):Prop:=aregionF C all rest ρ L K
theorem aregionF_nil (C:Cfg) (all:List Oper) (ρ:Env) (L:AHeap) (K:ARes):aregionF C all [] ρ L K=K ρ L:=rfl
theorem aregionF_cons (C:Cfg) (all rest:List Oper) (o:Oper) (ρ:Env) (L:AHeap) (K:ARes):aregionF C all (o :: rest) ρ L K=astepF C all o ρ L (aregFK C all rest K):=rfl
attribute [go_sem] aregionF_nil aregionF_cons astepF aregFK
end Go.AL
end
section
namespace Go.AL
open Go Go.RowKit
set_option maxRecDepth 4000
def startK (ps:List Pr) (ts:List Pd) (r:AV) (L:AHeap):Prop :=
 (conF ps ts=0∧∃bb bn,¬bn=bb∧r = .tup [.lp bb 3 0 0,ai 0]∧L=boardL (elimOf ps ts) (fun _=>0) bb bn)∨(conF ps ts ≠ 0∧r = .tup [.v (.pointer none),ai (conF ps ts)]∧L=[])
def okK (E:Elim) (m:Nat):List AV:=(List.range m).map fun q => .sl 1 (okL E q)
theorem okK_len (E:Elim) (m:Nat):(okK E m).length=m:=by simp [okK]
theorem okK_succ (E:Elim) (m:Nat):okK E (m+1)=okK E m ++ [.sl 1 (okL E m)]:=by unfold okK;rw[List.range_succ,List.map_append];rfl
theorem truths_row {ps:List Pr} {ts:List Pd} {p:Nat} (hp:p<ts.length) (hpp:p<ps.length):(truthsF ps p ts[p]).map ab=okL (elimOf ps ts) p:=by
 rw[truthsF_nat hpp,List.map_map]
 unfold okL
 rw[show (elimOf ps ts).top p=ps[p].evs.length from nev_get hpp]
 refine List.map_congr_left fun k _ => ?_
 show ab _=ab (match ts[p]? with|some t=>lclT ps p t k|none=>true)
 rw[List.getElem?_eq_getElem hp]
theorem conj_start (ps:List Pr) (hs:Sm ps) (ts:List Pd) (hz:∀t ∈ ts,szF t≤1000000) (htl:ts.length≤1000000):MCalls Proofs.Tryz.prog 62 [aTr ps,.sl 6 (ts.map aPd)] [] (startK ps ts):=by
 have h1:=trace_Valid ps hs
 have hl:=hs.procs
 by_cases hv:validF ps=true∧ts.length=ps.length
 ·have hvl:(ts.length:Int)=ps.length:=by omega
  have hl1:=(valid_len hv.1).1
  rw[hv.1] at h1
  have hhit:=fun p hp=>conF_hit hv (p:=p) hp
  have hzero:=conF_zero hv
  have hnd:=conj_needs ps hs hv.1 ts
  have hEn:(elimOf ps ts).n=ps.length:=rfl
  have hrow:=fun p (hp:p<ts.length)=>truths_row (ps:=ps) hp (by omega)
  have hB:∀f bb bn,boardL (elimOf ps ts) f bb bn=[(bb,.row 120 3 [.agg [.sl 1 (needT (elimOf ps ts)),.sl 1 (okM (elimOf ps ts)),.ls bn 1 0 (elimOf ps ts).n (elimOf ps ts).n]] 1),(bn,.row 3 1 (dnA (elimOf ps ts).n f) (elimOf ps ts).n)]:=fun f bb bn=>rfl
  unfold startK
  simp only[hB]
  clear hB
  generalize elimOf ps ts=E at *
  generalize conF ps ts=C at *
  refine MCalls.enter' 61 [.tmp 4,.tmp 5] [2,8,50] Proofs.Tryz.func62 rfl rfl rfl rfl rfl (by simp) (AWp.of ?_);simp only[go_sem]
  refine Wk ?_
  refine Sd ?_
  refine(h1).val.use ?_;simp only[go_sem,hvl]
  refine W1 hvl ?_
  intro bn
  refine Wk ?_
  intro bb g2
  have n1:¬bb=bn:=by omega
  have n2:¬bn=bb:=by omega
  refine Wk ?_
  refine AWp.range' ts.length [] [2,6,27,28] (fun p vs L=>∃v Lq,L=Lq ++ [(bb,.row 120 3 [.agg [anil,v,.ls bn 1 0 ps.length ps.length]] 1),(bn,.row 3 1 (List.replicate ps.length (ai 0)) ps.length)]∧AppSt 135 1 (okK E p) v Lq∧(∀x ∈ Lq,x.1 ≠ bb∧x.1 ≠ bn)∧∀q (hq:q<ts.length),q<p→lclF ps q 0 ts[q]=0) (by omega) rfl rfl rfl ⟨anil,[],rfl,.nil,by simp,fun q hq h=>by omega⟩ ?_ ?_
  ·rintro p vs L hp - ⟨v,Lq,rfl,hA,hq,hJ⟩
   have hgt:=getD_map (f:=aPd) hp
   have htr:=evaluate_Truths ps hs p ts[p] (hz _ (List.getElem_mem hp))
   have hro:=hrow p hp
   have hh:=hhit p hp hJ
   have hyl:=okK_len E p
   rw[okK_succ]
   unfold aTruths at htr
   rw[Int.toNat_natCast,hro] at htr
   have hJ1:lclF ps p 0 ts[p]=0→∀q (hq:q<ts.length),q<p+1→lclF ps q 0 ts[q]=0:=fun e q hq h=>by
    by_cases e2:q=p
    ·subst e2;exact e
    ·exact hJ q hq (by omega)
   generalize lclF ps p 0 ts[p]=e at *
   generalize ts[p]=t at *
   generalize okL E p=ol at *
   generalize okK E p=ys at *
   obtain⟨k0,n,pp,q0,s,l⟩:=t
   simp only[aPd_mk] at *
   have hfo:=hA.fo
   by_cases he:e=0
   ·rw[if_pos he] at htr
    subst he
    rcases hA.inv with ⟨e1,rfl,rfl⟩|⟨bq,cap,rfl,rfl⟩
    ·simp only[go_sem,List.nil_append]
     refine W1 hgt ?_
     intros
     refine W2 n1 n2 ?_
     refine Sd ?_
     refine(htr).val.use ?_;simp only[go_sem]
     refine W2 n1 n2 ?_
     intro b' cap' g8 g9 _
     have n3:¬b'=bb∧¬b'=bn:=by omega
     have n4:¬bb=b':=by omega
     simp only[go_sem,n4]
     refine⟨_,List.Sublist.refl _,.ls b' 1 0 1 cap',[(b',.row 135 1 [.sl 1 ol] cap')],rfl,?_,?_,hJ1 rfl⟩
     ·rw[e1];exact .row _ _ _
     ·intro y hy;simp only[List.mem_singleton] at hy;subst hy;exact n3
    ·have nq:=hq (bq,.row 135 1 ys cap) (by simp)
     simp only at nq
     have nq1:¬bb=bq:=fun e=>nq.1 e.symm
     have nq2:¬bn=bq:=fun e=>nq.2 e.symm
     simp only[go_sem,List.cons_append,List.nil_append]
     refine W1 hgt ?_
     intros
     refine W2 n1 n2 ?_
     refine Sd ?_
     refine(htr).val.use ?_;simp only[go_sem]
     refine W5 n1 n2 nq nq1 nq2 ?_
     intro b' cap' g8 g9 _
     have n3:¬b'=bb∧¬b'=bn:=by omega
     have n4:¬bb=b':=by omega
     simp only[go_sem,n4]
     refine⟨_,List.Sublist.refl _,.ls b' 1 0 (ys.length+1) cap',[(b',.row 135 1 (ys ++ [.sl 1 ol]) cap')],rfl,?_,?_,hJ1 rfl⟩
     ·have:=AppSt.row (t:=135) (k:=1) b' (ys ++ [.sl 1 ol]) cap'
      simpa using this
     ·intro y hy;simp only[List.mem_singleton] at hy;subst hy;exact n3
   ·rw[if_neg he] at htr
    have hC:=hh he
    rcases hA.inv with ⟨e1,rfl,rfl⟩|⟨bq,cap,rfl,rfl⟩
    ·simp only[go_sem,List.nil_append]
     refine W1 hgt ?_
     intros
     refine W2 n1 n2 ?_
     refine Sd ?_
     refine(htr).val.use ?_;simp only[go_sem]
     refine W3 n1 n2 he ?_
     refine ret_sub [] (List.nil_sublist _) ?_
     simp only[go_sem]
     exact .inr ⟨by rw[hC];exact he,by rw[hC]⟩
    ·simp only[go_sem,List.cons_append,List.nil_append]
     refine W1 hgt ?_
     intros
     refine W2 n1 n2 ?_
     refine Sd ?_
     refine(htr).val.use ?_;simp only[go_sem]
     refine W3 n1 n2 he ?_
     refine ret_sub [] (List.nil_sublist _) ?_
     simp only[go_sem]
     exact .inr ⟨by rw[hC];exact he,by rw[hC]⟩
  ·rintro vs L - ⟨v,Lq,rfl,hA,hq,hJ⟩
   have hyl:=okK_len E ts.length
   have hC:=hzero fun q hq=>hJ q hq hq
   have hfin:okK E ts.length=okM E:=by unfold okK okM;rw[hEn,hv.2]
   rw[hfin] at hA hyl
   have hdn:List.replicate ps.length (ai 0)=dnA E.n (fun _=>0):=by unfold dnA;apply List.ext_getElem (by simp;omega);intro i h1 h2;simp
   rcases hA.inv with ⟨e1,rfl,rfl⟩|⟨bq,cap,rfl,rfl⟩
   ·rw[e1] at hyl;simp at hyl;omega
   ·have nq:=hq (bq,.row 135 1 (okM E) cap) (by simp)
    simp only at nq
    have nq1:¬bb=bq:=fun e=>nq.1 e.symm
    have nq2:¬bn=bq:=fun e=>nq.2 e.symm
    simp only[go_sem,List.cons_append,List.nil_append]
    refine W5 n1 n2 nq nq1 nq2 ?_
    refine Sd ?_
    refine(hnd).val.use ?_;simp only[go_sem,n1,nq1]
    refine Sd ?_
    refine AWp.view (L':=[(bb,.row 120 3 [.agg [.sl 1 (needT E),.sl 1 (okM E),.ls bn 1 0 ps.length ps.length]] 1),(bn,.row 3 1 (List.replicate ps.length (ai 0)) ps.length)]) [true,false,false] [] ?_ (by simp) ?_
    ·simp only[pickT,pickF]
     exact .row (Vws.cons (.mkAgg (Vws.cons (.refl _) (Vws.cons (Vw.ofLs (if_pos rfl) rfl) (Vws.refl _)))) .nil) (.refl _)
    ·simp only[go_sem]
     refine Wk ?_
     refine ret_own ?_
     simp only[go_sem]
     refine⟨hC,bb,bn,n2,rfl,?_⟩
     rw[hdn,hEn]
 ·have hC:=conF_bad hv
  unfold startK
  rw[hC]
  by_cases hv1:validF ps=true
  ·have hvl:¬(ts.length:Int)=ps.length:=fun e=>hv ⟨hv1,by omega⟩
   rw[hv1] at h1
   refine MCalls.enter' 61 [.tmp 4,.tmp 5] [2,8,50] Proofs.Tryz.func62 rfl rfl rfl rfl rfl (by simp) (AWp.of ?_);simp only[go_sem]
   refine Wk ?_
   refine Sd ?_
   refine(h1).val.use ?_;simp only[go_sem,hvl]
   refine W1 hvl ?_
   refine ret_own ?_
   simp only[go_sem]
   exact .inr (by decide)
  ·rw[show validF ps=false by simpa using hv1] at h1
   refine MCalls.enter' 61 [.tmp 4,.tmp 5] [2,8,50] Proofs.Tryz.func62 rfl rfl rfl rfl rfl (by simp) (AWp.of ?_);simp only[go_sem]
   refine Wk ?_
   refine Sd ?_
   refine(h1).val.use ?_;simp only[go_sem]
   refine Wk ?_
   refine ret_own ?_
   simp only[go_sem]
   exact .inr (by decide)
theorem lostB_fin (E:Elim):lostB E (finF E)=lostF E:=by
 have h:=run_lost (run_spec E) (inE_zero E)
 cases hl:lostF E with
 | true =>
  obtain⟨q,hq,hlt⟩:=h.1 hl
  exact lostB_true hq hlt
 | false =>
  refine List.any_eq_false.2 fun q hq => ?_
  rw[hl] at h
  have h2:¬ ∃q,q<E.n∧E.top q<finF E q:=fun x=>by cases h.2 x
  intro hd
  exact h2 ⟨q,List.mem_range.1 hq,of_decide_eq_true hd⟩
theorem run_small {E:Elim} (hE:SmE E) {now fin:Nat→Nat} {st:List Stp} {l:Bool} (h:RunR E now st fin l) (hI:InE E now):∀q,q<E.n→fin q≤1000001:=by
 induction h with
 | stop h=>exact inE_small hE hI
 | lost h hl=>exact fun q hq=>(step_lost hI h hl).2 q hq (hE.top q)
 | go h hl hr ih=>exact ih (inE_step hI hl)
noncomputable def aPossR (ps:List Pr) (ts:List Pd):AV:=if conF ps ts=0 then .tup [aAns (ansOf (elimOf ps ts)),ai 0] else .tup [aAns noAns,ai (conF ps ts)]
theorem lkq {Lq L:AHeap} {b:Nat} (h:∀x ∈ Lq,x.1 ≠ b):lk (Lq ++ L) b=lk L b:=by
 induction Lq with
 | nil=>rfl
 | cons y Lq ih =>
  obtain⟨yb,yx⟩:=y
  have h0:¬b=yb:=fun e=>h (yb,yx) (by simp) e.symm
  show (if b=yb then _ else _)=_
  rw[if_neg h0]
  exact ih fun x hx=>h x (List.mem_cons_of_mem _ hx)
theorem MCalls.toPC {P:Program} {f:FuncId} {args:List AV} {K:AV→AHeap→Prop} {r':AV} (h:MCalls P f args [] K) (hv:∀r L,K r L→Vw L r r'):PC P f args r' :=
 ⟨h.1,fun n w A vs hL hr=>(h.2 n w A vs hL hr).mono fun e w' ⟨v,r,L',A',he,hK,hf,hA,hL',hk,hr'⟩ =>
  ⟨v,r',[],fun b=>A' b∨keysOf L' b,he,⟨rfl,rfl⟩,hf,fun b hb=>hb.elim (hA b) (fun ⟨x,hx,e⟩=>by subst e;exact(hk x hx).elim (fun ⟨y,hy,_⟩=>by cases hy) (fun h => .inr (.inr h))),hL'.viewed (Lf:=L') (Lk:=[]) (by simp) .nil,(by intro x hx;cases hx),hL'.view (Lf:=L') (Lk:=[]) (by simp) (hv r L' hK) hr'⟩⟩
theorem conj_PossiblyK (ps:List Pr) (hs:Sm ps) (ts:List Pd) (hz:∀t ∈ ts,szF t≤1000000) (htl:ts.length≤1000000) (K:AV→AHeap→Prop)
  (k1:conF ps ts=0→lostF (elimOf ps ts)=true→∀v Lq,AppSt 51 3 ((stepsF (elimOf ps ts)).map aStp) v Lq→K (.tup [.agg [ai 1,ab false,ai 4,anil,anil,anil,v,ai 0],ai 0]) Lq)
  (k2:conF ps ts=0→lostF (elimOf ps ts)=false→∀b,K (.tup [.agg [ai 1,ab true,ai 1,.ls b 1 0 (elimOf ps ts).n (elimOf ps ts).n,anil,anil,anil,ai 0],ai 0]) [(b,.row 3 1 (dnA (elimOf ps ts).n (finF (elimOf ps ts))) (elimOf ps ts).n)])
  (k3:conF ps ts ≠ 0→K (.tup [.agg [ai 0,ab false,ai 0,anil,anil,anil,anil,ai 0],ai (conF ps ts)]) []):MCalls Proofs.Tryz.prog 23 [aTr ps,.sl 6 (ts.map aPd)] [] K:=by
 have h1:=conj_start ps hs ts hz htl
 have hE:=elim_sm hs ts
 unfold startK at h1
 have hl:=hs.procs
 have hEn:(elimOf ps ts).n=ps.length:=rfl
 have hrun:=run_spec (elimOf ps ts)
 have hlo:=board_lost (elimOf ps ts) hE (finF (elimOf ps ts)) (run_small hE hrun (inE_zero _))
 rw[lostB_fin] at hlo
 have hst:=fun bb bn hb=>board_steps (elimOf ps ts) hE (fun _=>0) (finF (elimOf ps ts)) (inE_zero _) (stepsF (elimOf ps ts)) (lostF (elimOf ps ts)) hrun bb bn hb
 have hB:∀f bb bn,boardL (elimOf ps ts) f bb bn=[(bb,.row 120 3 [.agg [.sl 1 (needT (elimOf ps ts)),.sl 1 (okM (elimOf ps ts)),.ls bn 1 0 (elimOf ps ts).n (elimOf ps ts).n]] 1),(bn,.row 3 1 (dnA (elimOf ps ts).n f) (elimOf ps ts).n)]:=fun f bb bn=>rfl
 generalize elimOf ps ts=E at *
 generalize conF ps ts=C at *
 generalize stepsF E=st at *
 generalize finF E=fin at *
 generalize lostF E=lo at *
 refine MCalls.enter' 30 [.cell 4 44,.tmp 5] [2] Proofs.Tryz.func23 rfl rfl rfl rfl rfl (by simp) (AWp.of ?_);simp only[go_sem]
 intro b4
 refine Wk ?_
 refine MVal.pass (Lf:=[]) (Li:=[]) (Lr:=[(b4,.row 44 8 [.agg [ai 0,ab false,ai 0,anil,anil,anil,anil,ai 0]] 1)]) (by simp) (Vws.refl _) h1.val ?_
 rintro r L1 (⟨rfl,bb,bn,hb,rfl,rfl⟩|⟨hC,rfl,rfl⟩)
 ·refine⟨_,.refl _,?_⟩
  simp only[go_sem]
  refine AWp.nodup fun hnd => ?_
  have hb':¬bb=bn:=fun e=>hb e.symm
  have hn4:(¬bb=b4∧¬b4=bb)∧(¬bn=b4∧¬b4=bn):=by
   simp only[hB,List.cons_append,List.nil_append,List.map_cons,List.map_nil,List.nodup_cons,List.mem_cons,List.not_mem_nil,or_false,not_or] at hnd
   exact⟨⟨hnd.1.2,fun e=>hnd.1.2 e.symm⟩,⟨hnd.2.1,fun e=>hnd.2.1 e.symm⟩⟩
  clear hnd
  refine Wk ?_
  refine MVal.pass (Lf:=[]) (Li:=boardL E (fun _=>0) bb bn) (Lr:=[(b4,.row 44 8 [.agg [ai 0,ab false,ai 0,anil,anil,anil,anil,ai 0]] 1)]) (.refl _) (Vws.refl _) (hst bb bn hb).val ?_
  rintro r L1 ⟨Lq,hA,rfl,hq⟩
  refine⟨_,.refl _,?_⟩
  have hfo:=hA.fo
  simp only[go_sem,hfo]
  refine AWp.nodup fun hnd => ?_
  have hq4:∀x ∈ Lq,x.1 ≠ b4:=fun x hx e=>by
   rw[List.append_assoc,List.map_append,List.nodup_append] at hnd
   refine hnd.2.2 _ (List.mem_map_of_mem hx) b4 ?_ e
   simp
  clear hnd
  have hvw:Vws ((Lq ++ boardL E fin bb bn) ++ [(b4,.row 44 8 [.agg [ai 0,ab false,ai 0,anil,anil,anil,anil,ai 0]] 1)]) [.lp bb 3 0 0] [aBoard E fin]:=by
   rw[List.append_assoc]
   refine board_viewL (bn:=bn) ?_ ?_ []
   ·rw[lkq fun x hx=>(hq x hx).1,hB];simp only[List.cons_append,List.nil_append,lk,if_true]
   ·rw[lkq fun x hx=>(hq x hx).2,hB];simp only[List.cons_append,List.nil_append,lk,hb,if_false,if_true]
  refine W1 hfo ?_
  refine(PC.view hvw hlo (Own.v _) ?_).val
  rw[hB] at *
  cases lo with
  | true =>
   rcases hA.inv with ⟨e1,rfl,rfl⟩|⟨bq,cap,rfl,rfl⟩
   ·simp only[go_sem,List.nil_append]
    refine W1 hn4 ?_
    refine ret_sub [] (List.nil_sublist _) ?_
    simp only[go_sem,hn4]
    exact k1 rfl rfl _ _ hA
   ·have nq4:=hq4 (bq,.row 51 3 (st.map aStp) cap) (by simp)
    simp only at nq4
    have nq4':¬b4=bq:=fun e=>nq4 e.symm
    simp only[go_sem,List.cons_append,List.nil_append]
    refine W2 hn4 nq4' ?_
    refine ret_sub [(bq,.row 51 3 (st.map aStp) cap)] (by simp) ?_
    simp only[go_sem,hn4,nq4']
    have:=k1 rfl rfl _ _ hA
    simpa using this
  | false =>
   rcases hA.inv with ⟨e1,rfl,rfl⟩|⟨bq,cap,rfl,rfl⟩
   ·simp only[go_sem,List.nil_append]
    refine W3 hn4 hb hb' ?_
    refine ret_sub [(bn,.row 3 1 (dnA E.n fin) E.n)] (by simp) ?_
    simp only[go_sem,hn4]
    exact k2 rfl rfl _
   ·have nq4:=hq4 (bq,.row 51 3 (st.map aStp) cap) (by simp)
    simp only at nq4
    have nq4':¬b4=bq:=fun e=>nq4 e.symm
    have nq:=hq (bq,.row 51 3 (st.map aStp) cap) (by simp)
    simp only at nq
    have nqa:¬bb=bq∧¬bn=bq:=⟨fun e=>nq.1 e.symm,fun e=>nq.2 e.symm⟩
    simp only[go_sem,List.cons_append,List.nil_append]
    refine W5 hn4 nq4' hb hb' nqa ?_
    refine ret_sub [(bn,.row 3 1 (dnA E.n fin) E.n)] (by simp) ?_
    simp only[go_sem,hn4,nq4']
    exact k2 rfl rfl _
 ·refine⟨_,.refl _,?_⟩
  simp only[go_sem,List.nil_append]
  refine W1 hC ?_
  refine ret_sub [] (List.nil_sublist _) ?_
  simp only[go_sem]
  exact k3 hC
theorem conj_Possibly (ps:List Pr) (hs:Sm ps) (ts:List Pd) (hz:∀t ∈ ts,szF t≤1000000) (htl:ts.length≤1000000):PC Proofs.Tryz.prog 23 [aTr ps,.sl 6 (ts.map aPd)] (aPossR ps ts):=by
 refine(conj_PossiblyK ps hs ts hz htl (fun r L=>Vw L r (aPossR ps ts)) (fun h hl v Lq hA => ?_) (fun h hl b => ?_) (fun h => ?_)).toPC fun _ _ h=>h
 ·unfold aPossR ansOf
  rw[if_pos h,hl,if_pos rfl]
  refine .mkTup (Vws.cons (.mkAgg ?_) (Vws.refl _))
  refine Vws.cons (.refl _) (Vws.cons (.refl _) (Vws.cons (.refl _) (Vws.cons (.nil 1) (Vws.cons (.nil 1) (Vws.cons (.nil 1) (Vws.cons ?_ (Vws.refl _)))))))
  rw[← aStp_I]
  have:=hA.vw []
  rwa [List.append_nil] at this
 ·unfold aPossR ansOf
  rw[if_pos h,hl,if_neg (by decide)]
  refine .mkTup (Vws.cons (.mkAgg ?_) (Vws.refl _))
  refine Vws.cons (.refl _) (Vws.cons (.refl _) (Vws.cons (.refl _) (Vws.cons ?_ (Vws.cons (.nil 1) (Vws.cons (.nil 1) (Vws.cons (.nil 3) (Vws.refl _)))))))
  rw[← dnA_I]
  exact Vw.ofLs (if_pos rfl) (dnA_length _ _).symm
 ·unfold aPossR
  rw[if_neg h]
  refine .mkTup (Vws.cons (.mkAgg ?_) (Vws.refl _))
  exact Vws.cons (.refl _) (Vws.cons (.refl _) (Vws.cons (.refl _) (Vws.cons (.nil 1) (Vws.cons (.nil 1) (Vws.cons (.nil 1) (Vws.cons (.nil 3) (Vws.refl _)))))))
def satG (ps:List Pr) (E:Elim) (c:List Int):Bool:=isF ps c && (List.range c.length).all fun p=>E.ok p (cAt c p).toNat
theorem satG_iff {ps:List Pr} {E:Elim} {c:List Int} : satG ps E c=true↔SatD ps E c:=by
 unfold satG
 rw[Bool.and_eq_true,isF_iff,List.all_eq_true]
 constructor
 ·rintro⟨⟨h1,h2,h3⟩,h4⟩
  exact⟨h1,h2,h3,fun p hp=>h4 p (List.mem_range.2 (by omega))⟩
 ·intro h
  exact⟨⟨h.len,h.rng,h.clo⟩,fun p hp=>h.ok p (by have:=List.mem_range.1 hp;rw[h.len] at this;exact this)⟩
section
variable {ps:List Pr} {ts:List Pd}
end
theorem cut_Consistent (ps:List Pr) (hs:Sm ps) (c:List Int):PC Proofs.Tryz.prog 18 [aTr ps,aInts c] (ab (decide (givenF ps [c] []=0))):=by
 have hg:=cut_given ps hs [c] (by simp) [] (by simp)
 generalize givenF ps [c] []=G at *
 refine PC.enter 10 [.tmp 4] [2,7] Proofs.Tryz.func18 rfl rfl rfl rfl rfl (by simp) (AWp.of ?_);simp only[go_sem]
 refine Wk ?_
 refine(PC.view (Vws.cons (.refl _) (Vws.cons (.refl _) (Vws.cons (.nil 1) .nil))) hg (Own.v _) ?_).val
 simp only[go_sem]
 refine Wk ?_
 refine ret_eq ?_;simp only[go_sem]
end Go.AL
end
