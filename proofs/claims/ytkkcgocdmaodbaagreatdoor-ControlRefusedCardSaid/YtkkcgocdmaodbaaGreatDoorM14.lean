/- Texts of this claim's proof: WMl, WMc, WMd, AlGrd, WSs, WSp, WCp, WCk, WEx, WRr, WEy, WPq, WNa, WNb, WTm, WDx, WPu, WNc, WV31, WV36, WV1, WSq, WQa. No condition. -/
import Derived.Test.YtkkcgocdmaodbaaGreatDoorM13
import Derived.Test.YtkkcgocdmaodbaaGreatDoorM6
import Derived.Test.YtkkcgocdmaodbaaGreatDoorM10
import Derived.Test.YtkkcgocdmaodbaaGreatDoorM12
import Derived.Test.YtkkcgocdmaodbaaGreatDoorM11
import Derived.Test.YtkkcgocdmaodbaaGreatDoorM9
import Derived.Test.YtkkcgocdmaodbaaGreatDoorM8
import Derived.Test.YtkkcgocdmaodbaaGreatDoorM4
section
namespace Go.AL
open Go Go.RowKit
set_option maxRecDepth 4000
def nlev (ps:List Pr):Nat:=(List.range (off ps ps.length+2)).findIdx fun k=>(levF ps k).isEmpty
theorem range_findIdx (p:Nat→Bool) (n:Nat) (h:(List.range n).findIdx p<n):p ((List.range n).findIdx p)=true:=by
 have w:(List.range n).findIdx p<(List.range n).length:=by rw[List.length_range];exact h
 have:=List.findIdx_getElem (w:=w)
 rwa [List.getElem_range] at this
theorem nlev_lt {ps:List Pr} {j:Nat} (h:j<nlev ps):levF ps j ≠ []:=fun e=>by
 unfold nlev at h
 have hl:j<(List.range (off ps ps.length+2)).length:=Nat.lt_of_lt_of_le h List.findIdx_le_length
 have:=List.not_of_lt_findIdx h
 rw[List.getElem_range] at this
 simp [e] at this
theorem nlev_eq {ps:List Pr} {k:Nat} (hk:k≤nlev ps) (h:levF ps k=[]):k=nlev ps:=by
 rcases Nat.lt_or_ge k (nlev ps) with h1|h1
 ·exact absurd h (nlev_lt h1)
 ·omega
theorem nlev_succ {ps:List Pr} (hv:validF ps=true) {k:Nat} (hk:k≤nlev ps) (h:levF ps k ≠ []):k+1≤nlev ps:=by
 rcases Nat.lt_or_ge k (nlev ps) with h1|h1
 ·omega
 ·exfalso
  have e:k=nlev ps:=by omega
  have hko:k≤off ps ps.length:=by
   rcases Nat.lt_or_ge (off ps ps.length) k with h|h'
   ·exact absurd (levF_end hv h) ‹levF ps k ≠ []›
   ·exact h'
  have this:(levF ps (nlev ps)).isEmpty=true:=range_findIdx (fun k=>(levF ps k).isEmpty) _ (show nlev ps<_ by omega)
  rw[e] at h
  exact h (List.isEmpty_iff.1 this)
def lvsF (ps:List Pr) (k:Nat):List AV:=(List.range k).map fun j=>aRows (levF ps j)
theorem lvsF_succ (ps:List Pr) (k:Nat):lvsF ps (k+1)=lvsF ps k ++ [aRows (levF ps k)]:=by unfold lvsF;rw[List.range_succ,List.map_append];rfl
theorem lvsF_len (ps:List Pr) (k:Nat):(lvsF ps k).length=k:=by simp [lvsF]
noncomputable def aLvs (ps:List Pr):AV:=if validF ps=true then (if (cutsF ps).length≤5000 then .tup [.sl 1 (lvsF ps (nlev ps)),ai 0] else .tup [.sl 1 [],ai 16]) else .tup [.sl 1 [],ai 1]
theorem cuts_levels (ps:List Pr) (hs:Sm ps):PC Proofs.Tryz.prog 74 [aTr ps] (aLvs ps):=by
 have hva:=trace_Valid ps hs
 unfold aLvs
 refine PC.enter 35 [.tmp 2,.tmp 3] [1,4,32] Proofs.Tryz.func74 rfl rfl rfl rfl rfl (by simp) (AWp.of ?_);simp only[go_sem]
 refine Wk ?_
 refine Sd ?_
 refine(hva).val.use ?_;simp only[go_sem]
 cases hv:validF ps with
 | false =>
  refine Wk ?_
  refine ret_view [] ?_;simp only[go_sem]
  exact .mkTup (Vws.cons (.nil 1) (Vws.refl _))
 | true =>
  obtain⟨hl1,hl8⟩:=valid_len hv
  have hof:=cuts_of ps hs hv
  rw[if_pos rfl]
  unfold aMk at hof
  refine Wk ?_
  refine Sd ?_
  refine(hof).val.use ?_;simp only[go_sem]
  intro b4
  refine Wk ?_
  intro b0 b1 g1
  have n1:¬b1=b0:=by omega
  have n2:¬b0=b1:=by omega
  refine AWp.view [true,true] [(5,.sl 1 ((levF ps 0).map aInts))] (LVw.refl _) ?_ ?_
  ·intro q hq
   simp only[List.mem_singleton] at hq
   subst hq
   simp only[go_sem,pickT]
   have e:List.replicate ps.length (ai 0)=(List.replicate ps.length (0:Int)).map ai:=(List.map_replicate).symm
   rw[e]
   exact Vw.ofLs' (t:=43) (cap:=1) (if_pos rfl) rfl (Vws.cons (Vw.ofLs (t:=3) (cap:=ps.length) (by simp only[lk,n2,if_false,if_true]) (by rw[List.length_map,List.length_replicate])) .nil)
  simp only[go_sem,pickF]
  have hz0:(0:Int)=((cumF ps 0).length:Nat):=rfl
  have hof1:1≤off ps ps.length+1:=by omega
  refine Wk ?_
  refine AWp.block (AWp.loopN [5,6,7] [4] (fun m vs L=>∃(k:Nat) (v:AV),vs=[.sl 1 ((levF ps k).map aInts),v,ai (cumF ps k).length]∧AppSt 27 1 (lvsF ps k) v L∧(cumF ps k).length≤5000∧(levF ps k).length≤40000∧k≤nlev ps∧k≤off ps ps.length+1∧m=off ps ps.length+1 - k) (off ps ps.length+1) ⟨0,anil,rfl,.nil,by simp [cumF],by simp [levF],by omega,by omega,rfl⟩ ?_)
  rintro m vs L - ⟨k,v,rfl,hA,h5,hl4,hkn,hk,rfl⟩
  by_cases hlv:levF ps k=[]
  ·have hz:¬(0:Int)<((levF ps k).length:Int):=by rw[hlv];simp
   have hcut:cutsF ps=cumF ps k:=by
    unfold cutsF
    rw[show off ps ps.length+1=k+(off ps ps.length+1 - k) by omega,cumF_end hlv]
   rw[hcut,if_pos h5,← nlev_eq hkn hlv]
   generalize lvsF ps k=ys at *
   rcases hA.inv with ⟨e1,rfl,rfl⟩|⟨bq,cap,rfl,rfl⟩
   ·simp only[go_sem]
    refine W1 hz ?_
    refine ret_view [] ?_;simp only[go_sem]
    rw[e1]
    exact .mkTup (Vws.cons (.nil 1) (Vws.refl _))
   ·simp only[go_sem]
    refine W1 hz ?_
    refine ret_view [true] ?_;simp only[go_sem]
    exact .mkTup (Vws.cons (Vw.ofLs (if_pos rfl) rfl) (Vws.refl _))
  ·have hko:k≤off ps ps.length:=by
    rcases Nat.lt_or_ge (off ps ps.length) k with h|h
    ·exact absurd (levF_end hv h) hlv
    ·exact h
   have hpos:0<(levF ps k).length:=List.length_pos_iff.2 hlv
   have hposi:(0:Int)<((levF ps k).length:Int):=by omega
   have hcs:=cumF_succ ps k
   have hcsl:(cumF ps (k+1)).length=(cumF ps k).length+(levF ps k).length:=by rw[hcs,List.length_append]
   have hmono:=cumF_mono (ps:=ps) (j:=k+1) (k:=off ps ps.length+1) (by omega)
   have hcutl:(cumF ps (off ps ps.length+1)).length=(cutsF ps).length:=rfl
   have hsum:=nlev_succ hv hkn hlv
   have hmore:(levF ps k).length≤5000→(levF ps (k+1)).length≤40000:=fun h=>by
    have:=moreT_len (ps:=ps) (B:=ps.length) (l:=levF ps k) (acc:=[]) fun c hc=>by rw[(isF_iff.1 ((mem_levF hv k c).1 hc).1).1];exact Nat.le_refl _
    have h2:(levF ps k).length * ps.length≤5000 * 8:=Nat.mul_le_mul h hl8
    have h3:(levF ps (k+1)).length=((levF ps k).foldl (fun acc c=>insL acc (nextL ps c)) []).length:=rfl
    rw[h3]
    simp only[List.length_nil] at this
    omega
   have hnx:=fun h=>maker_next ps hs hv k h
   unfold aMk aRows at hnx
   have hys:=lvsF_succ ps k
   have hyl:=lvsF_len ps k
   unfold aRows at hys
   have hofl:off ps ps.length≤8000000:=by
    have:=off_small hs ps.length (Nat.le_refl _)
    omega
   rcases hA.inv with ⟨e1,rfl,rfl⟩|⟨bq,cap,rfl,rfl⟩
   ·simp only[go_sem]
    repeat(first|((with_reducible refine AWp.ofC ?_ ?_);exact rfl;simp only[go_sem,hposi])|((with_reducible refine an ?_ ?_);exact Au))
    refine Wk ?_
    refine⟨fun h9 => ?_,fun h9 => ?_⟩
    ·rw[if_neg (by omega)]
     refine Wk ?_
     refine ret_view [] ?_;simp only[go_sem]
     exact .mkTup (Vws.cons (.nil 1) (Vws.refl _))
    ·have hnx:=hnx (by omega)
     refine Wk ?_
     intro b' cap' hc'
     refine Wk ?_
     refine Sd ?_
     refine(hnx).val.use ?_;simp only[go_sem]
     refine Wk ?_
     refine⟨_,List.Sublist.refl _,_,?_,k+1,.ls b' 1 0 1 cap',by rw[hcsl];simp,?_,by omega,hmore (by omega),hsum,by omega,rfl⟩
     ·omega
     ·rw[hys,e1];exact .row b' [_] cap'
   ·simp only[go_sem]
    repeat(first|((with_reducible refine AWp.ofC ?_ ?_);exact rfl;simp only[go_sem,hposi])|((with_reducible refine an ?_ ?_);exact Au))
    refine Wk ?_
    refine⟨fun h9 => ?_,fun h9 => ?_⟩
    ·rw[if_neg (by omega)]
     refine Wk ?_
     refine ret_view [true] ?_;simp only[go_sem]
     exact .mkTup (Vws.cons (.nil 1) (Vws.refl _))
    ·have hnx:=hnx (by omega)
     refine W1 hyl ?_
     intro b' cap' hc'
     refine Wk ?_
     refine Sd ?_
     refine(hnx).val.use ?_;simp only[go_sem]
     refine Wk ?_
     refine⟨_,List.Sublist.refl _,_,?_,k+1,.ls b' 1 0 (k+1) cap',by rw[hcsl];simp,?_,by omega,hmore (by omega),hsum,by omega,rfl⟩
     ·omega
     ·rw[hys,show List.take k (lvsF ps k)=lvsF ps k from List.take_of_length_le (by omega)];exact AppSt.snoc b' cap' (k+1) (congrArg (· + 1) hyl.symm)
def GrowS (n:Nat) (r:AV) (L:AHeap):Prop:=(n=0∧r=anil∧L=[])∨∃b cap,n≤cap∧r = .ls b 1 0 0 cap∧L=[(b,.row 43 1 (List.replicate n anil) cap)]
theorem rows_grow (n:Nat) (hn:n≤1000000):MCalls Proofs.Tryz.prog 114 [anil,ai (n:Nat)] [] (GrowS n):=by
 refine MCalls.enter' 27 [.tmp 4] [] Proofs.Tryz.func114 rfl rfl rfl rfl rfl (by simp) (AWp.of ?_);simp only[go_sem]
 refine Wk ?_
 intro _
 refine Wk ?_
 refine Wk ?_
 refine⟨fun h1 => ?_,fun h1 => ?_⟩
 ·refine Wk ?_
  intro b cap hc
  refine Wk ?_
  refine ret_own ?_
  simp only[go_sem]
  have e:((n:Int) - (((0:Nat):Int) - ((0:Nat):Int))).toNat=n:=by omega
  rw[e]
  exact .inr ⟨b,cap,by omega,by simp,rfl⟩
 ·have:n=0:=by omega
  refine Wk ?_
  refine ret_own ?_
  simp only[go_sem]
  exact .inl ⟨this,rfl,rfl⟩
def CatS (ls:List (List (List Int))) (k:Nat) (v:AV) (L:AHeap):Prop :=
 (ls.flatten=[]∧v=anil∧L=[])∨∃b cap xs,v = .ls b 1 0 (ls.take k).flatten.length cap∧L=[(b,.row 43 1 xs cap)]∧(ls.take k).flatten.length≤xs.length∧xs.take (ls.take k).flatten.length=(ls.take k).flatten.map aInts
theorem flat_succ {ls:List (List (List Int))} {k:Nat} (hk:k<ls.length):(ls.take (k+1)).flatten=(ls.take k).flatten ++ ls[k]:=by
 rw[List.take_succ_eq_append_getElem hk,List.flatten_append];simp
theorem flat_le {ls:List (List (List Int))} (k:Nat):(ls.take k).flatten.length≤ls.flatten.length:=by
 conv=>rhs;rw[← List.take_append_drop k ls,List.flatten_append,List.length_append]
 omega
theorem rows_concat (ls:List (List (List Int))) (hl:ls.length≤100000000) (hf:ls.flatten.length≤1000000) :
  MCalls Proofs.Tryz.prog 75 [.sl 1 (ls.map aRows)] [] fun r L=>CatS ls ls.length r L:=by
 have hR:∀x:List (List Int),aRows x = .sl 1 (x.map aInts):=fun _=>rfl
 refine MCalls.enter' 36 [.tmp 2] [] Proofs.Tryz.func75 rfl rfl rfl rfl rfl (by simp) (AWp.of ?_);simp only[go_sem]
 refine Wk ?_
 refine AWp.range' ls.length [3] [0,9,10] (fun k vs L=>L=[]∧vs=[ai ((ls.take k).flatten.length:Nat)]) (by omega) rfl rfl rfl ⟨rfl,by rw[List.take_zero];rfl⟩ ?_ ?_
 ·rintro k vs L hk - ⟨rfl,rfl⟩
  have h1:=flat_le (ls:=ls) k
  have h2:=flat_le (ls:=ls) (k+1)
  have h3:=congrArg List.length (flat_succ hk)
  rw[List.length_append] at h3
  have hg:=getD_map (f:=aRows) hk
  simp only[go_sem]
  refine W2 hg hR ?_
  intro _
  refine Wk ?_
  exact⟨_,List.Sublist.refl _,rfl,by rw[h3];simp⟩
 ·rintro vs L - ⟨rfl,rfl⟩
  rw[List.take_length]
  simp only[go_sem]
  refine Wk ?_
  refine(rows_grow _ hf).val.mono ?_
  intro r L hr
  have hI:CatS ls 0 r L:=by
   rcases hr with ⟨h0,rfl,rfl⟩|⟨b,cap,hc,rfl,rfl⟩
   ·exact .inl ⟨List.eq_nil_of_length_eq_zero h0,rfl,rfl⟩
   ·exact .inr ⟨b,cap,_,by simp,rfl,by simp,by simp⟩
  clear hr
  have hfo:fo r=(True,r):=by rcases hI with ⟨_,rfl,_⟩|⟨b,cap,xs,rfl,_⟩ <;> rfl
  simp only[go_sem,hfo]
  refine W1 hfo ?_
  refine AWp.range' ls.length [6] [25,26] (fun k vs L=>∃v,vs=[v]∧CatS ls k v L) (by omega) rfl rfl rfl ⟨_,rfl,hI⟩ ?_ ?_
  ·clear hI
   rintro k vs L hk - ⟨v,rfl,hC⟩
   have h2:=flat_le (ls:=ls) (k+1)
   have hs:=flat_succ hk
   have h3:=congrArg List.length hs
   rw[List.length_append] at h3
   have hg:=getD_map (f:=aRows) hk
   have hll:(ls[k].map aInts).length=ls[k].length:=List.length_map _
   rcases hC with ⟨h0,rfl,rfl⟩|⟨b,cap,xs,rfl,rfl,hx,ht⟩
   ·have he:ls[k].map aInts=[]:=by
     rw[List.flatten_eq_nil_iff.1 h0 _ (List.getElem_mem hk)];rfl
    simp only[go_sem]
    refine W3 hg hR he ?_
    exact⟨_,List.Sublist.refl _,_,rfl,.inl ⟨h0,rfl,rfl⟩⟩
   ·have hy:(ls.take (k+1)).flatten.map aInts=(ls.take k).flatten.map aInts ++ ls[k].map aInts:=by rw[hs,List.map_append]
    unfold CatS
    rw[hy,h3,← ht]
    simp only[go_sem]
    refine W2 hg hR ?_
    intro b' cap' hc
    refine⟨_,List.Sublist.refl _,_,rfl,.inr ⟨b',cap',_,rfl,rfl,?_,?_⟩⟩
    ·rw[List.length_append,List.length_take];omega
    ·rw[List.take_of_length_le (by rw[List.length_append,List.length_take];omega)]
  ·clear hI
   rintro vs L - ⟨v,rfl,hC⟩
   have hfo:fo v=(True,v):=by rcases hC with ⟨_,rfl,_⟩|⟨b,cap,xs,rfl,_⟩ <;> rfl
   simp only[go_sem]
   refine W1 hfo ?_
   refine ret_own ?_
   simp only[go_sem]
   exact hC
noncomputable def lstE (ps:List Pr):Int:=if validF ps=true then (if (cutsF ps).length≤5000 then 0 else 16) else 1
noncomputable def lvOf (ps:List Pr):List (List (List Int)):=if lstE ps=0 then (List.range (nlev ps)).map (levF ps) else []
noncomputable def lstF (ps:List Pr):List (List Int):=if lstE ps=0 then cutsF ps else []
noncomputable def aLst (ps:List Pr):AV:=.tup [aRows (lstF ps),ai (lstE ps)]
theorem lst_zero {ps:List Pr} : lstE ps=0↔validF ps=true∧(cutsF ps).length≤5000:=by
 unfold lstE
 split
 ·split <;> simp_all
 ·simp_all
theorem aLvs_eq (ps:List Pr):aLvs ps = .tup [.sl 1 ((lvOf ps).map aRows),ai (lstE ps)]:=by
 unfold aLvs lvOf lvsF
 by_cases hv:validF ps=true
 ·by_cases h5:(cutsF ps).length≤5000
  ·rw[if_pos hv,if_pos h5,if_pos (lst_zero.2 ⟨hv,h5⟩)]
   unfold lstE
   rw[if_pos hv,if_pos h5,List.map_map];rfl
  ·rw[if_pos hv,if_neg h5,if_neg fun h=>h5 (lst_zero.1 h).2]
   unfold lstE
   rw[if_pos hv,if_neg h5];rfl
 ·rw[if_neg hv,if_neg fun h=>hv (lst_zero.1 h).1]
  unfold lstE
  rw[if_neg hv];rfl
theorem lev_nlev {ps:List Pr} (hv:validF ps=true):levF ps (nlev ps)=[]:=by
 have h1:(levF ps (off ps ps.length+1)).isEmpty=true:=by rw[levF_end hv (by omega)];rfl
 have:nlev ps<off ps ps.length+2:=by
  unfold nlev
  have:=List.findIdx_lt_length_of_exists (p:=fun k=>(levF ps k).isEmpty) (xs:=List.range (off ps ps.length+2)) ⟨off ps ps.length+1,by simp,h1⟩
  rwa [List.length_range] at this
 exact List.isEmpty_iff.1 (range_findIdx (fun k=>(levF ps k).isEmpty) _ this)
theorem nlev_le {ps:List Pr} : nlev ps≤off ps ps.length+2:=by
 have:=List.findIdx_le_length (p:=fun k=>(levF ps k).isEmpty) (xs:=List.range (off ps ps.length+2))
 rwa [List.length_range] at this
theorem cum_nlev {ps:List Pr} (hv:validF ps=true):cumF ps (nlev ps)=cutsF ps:=by
 have h:=cumF_end (lev_nlev hv)
 unfold cutsF
 rcases Nat.lt_or_ge (off ps ps.length+1) (nlev ps) with h1|h1
 ·have h2:=cumF_end (levF_end hv (show off ps ps.length<off ps ps.length+1 by omega)) (nlev ps - (off ps ps.length+1))
  rw[show off ps ps.length+1+(nlev ps - (off ps ps.length+1))=nlev ps by omega] at h2
  exact h2
 ·have:=h (off ps ps.length+1 - nlev ps)
  rw[show nlev ps+(off ps ps.length+1 - nlev ps)=off ps ps.length+1 by omega] at this
  exact this.symm
theorem lv_flat (ps:List Pr):(lvOf ps).flatten=lstF ps:=by
 unfold lvOf lstF
 split
 ·rename_i h
  rw[← cum_nlev (lst_zero.1 h).1]
  unfold cumF
  rw[List.flatMap_def]
 ·rfl
theorem lst_len (ps:List Pr):(lstF ps).length≤5000:=by
 unfold lstF
 split
 ·rename_i h;exact(lst_zero.1 h).2
 ·exact Nat.zero_le _
theorem lv_len {ps:List Pr} (hs:Sm ps):(lvOf ps).length≤10000002:=by
 unfold lvOf
 split
 ·rename_i h
  have:=(valid_len (lst_zero.1 h).1).2
  rw[List.length_map,List.length_range]
  have:=nlev_le (ps:=ps)
  have:=off_small hs ps.length (Nat.le_refl _)
  omega
 ·exact Nat.zero_le _
theorem cuts_levels' (ps:List Pr) (hs:Sm ps):PC Proofs.Tryz.prog 74 [aTr ps] (.tup [.sl 1 ((lvOf ps).map aRows),ai (lstE ps)]):=by
 rw[← aLvs_eq];exact cuts_levels ps hs
theorem Vw.pre {L:AHeap} {b k n c:Nat} {t:TypeId} {xs ys:List AV} {cap:Nat} (h:lk L b=some (.row t k xs cap)) (hn:n≤xs.length) (ht:xs.take n=ys):Vw L (.ls b k 0 n c) (.sl k ys) :=
 .ls h (by omega) (by rw[List.drop_zero,ht]) (by rw[List.drop_zero,ht];exact(Vws.refl ys).2)
theorem cuts_list (ps:List Pr) (hs:Sm ps):PC Proofs.Tryz.prog 39 [aTr ps] (aLst ps):=by
 have h1:=cuts_levels' ps hs
 have hf:(lvOf ps).flatten.length≤1000000:=by rw[lv_flat];have:=lst_len ps;omega
 have h2:=rows_concat (lvOf ps) (by have:=lv_len hs;omega) hf
 have hR:∀x:List (List Int),aRows x = .sl 1 (x.map aInts):=fun _=>rfl
 have hfl:=lv_flat ps
 unfold aLst
 rw[← hfl,hR]
 generalize lvOf ps=ls at *
 generalize lstE ps=e at *
 refine PC.enter 14 [.tmp 2,.tmp 3] [1] Proofs.Tryz.func39 rfl rfl rfl rfl rfl (by simp) (AWp.of ?_);simp only[go_sem]
 refine Wk ?_
 refine Sd ?_
 refine(h1).val.use ?_;simp only[go_sem]
 refine Wk ?_
 refine h2.val.mono ?_
 intro r L hC
 unfold CatS at hC
 rw[List.take_length] at hC
 rcases hC with ⟨h0,rfl,rfl⟩|⟨b,cap,xs,rfl,rfl,hx,ht⟩
 ·simp only[go_sem]
  refine Wk ?_
  refine ret_view [] ?_;simp only[go_sem]
  rw[h0]
  exact .mkTup (Vws.cons (.nil 1) (Vws.refl _))
 ·simp only[go_sem]
  refine Wk ?_
  refine ret_view [true] ?_;simp only[go_sem]
  exact .mkTup (Vws.cons (Vw.pre (if_pos rfl) hx ht) (Vws.refl _))
theorem cuts_List (ps:List Pr) (hs:Sm ps):PC Proofs.Tryz.prog 11 [aTr ps] (aLst ps):=by
 have h1:=cuts_list ps hs
 unfold aLst at *
 refine PC.enter 8 [.tmp 2,.tmp 3] [1] Proofs.Tryz.func11 rfl rfl rfl rfl rfl (by simp) (AWp.of ?_);simp only[go_sem]
 refine Wk ?_
 refine Sd ?_
 refine(h1).val.use ?_;simp only[go_sem]
 refine Wk ?_
 refine ret_eq ?_;simp only[go_sem]
def fullC (ps:List Pr):List Int:=ps.map fun x=>(x.evs.length:Int)
theorem fullC_at {ps:List Pr} {p:Nat} (hp:p<ps.length):cAt (fullC ps) p=ps[p].evs.length:=by
 unfold fullC
 rw[cAt_nat (by rw[List.length_map];exact hp),List.getElem_map]
theorem fullC_is {ps:List Pr} (hv:validF ps=true):isF ps (fullC ps)=true:=by
 have hl:(fullC ps).length=ps.length:=List.length_map _
 refine isF_iff.2 ⟨hl,(inRange_iff hl).2 fun p hp => ?_,closed_iff.2 fun p hp i hi hk _ => ?_⟩
 ·rw[fullC_at hp];omega
 ·obtain⟨s,hs,j,hj,e,_,_⟩:=sndr_some (recv_sndr (valid_parts hv).2.2 hp hi hk)
  rw[e]
  simp only
  rw[fullC_at hs];omega
theorem fullC_sum (ps:List Pr):(fullC ps).sum=off ps ps.length:=by
 unfold fullC off
 rw[List.take_length]
 induction ps with
 | nil=>rfl
 | cons x ps ih=>rw[List.map_cons,List.sum_cons,ih,List.map_cons,List.sum_cons];omega
end Go.AL
end
section
namespace Go.AL
open Go Go.RowKit
def astepF (C:Cfg) (all:List Oper) (o:Oper) (ρ:Env) (L:AHeap) (K:ARes):Prop :=
 match o.guard with
 | none=>aop C o ρ L K
 | some (j,want)=>match gval all ρ j want with
  | some b=>(b=want→aop C o ρ L K)∧(b ≠ want→K (put ρ o.dst .any) L)
  | none=>False
def aregionF (C:Cfg) (all:List Oper):List Oper→Env→AHeap→ARes→Prop
 | [],ρ,L,K=>K ρ L
 | o :: rest,ρ,L,K=>astepF C all o ρ L fun ρ L=>aregionF C all rest ρ L K
def aregFK (C:Cfg) (all rest:List Oper) (K:ARes) (ρ:Env) (L:AHeap):Prop:=aregionF C all rest ρ L K
theorem aregionF_nil (C:Cfg) (all:List Oper) (ρ:Env) (L:AHeap) (K:ARes):aregionF C all [] ρ L K=K ρ L:=rfl
theorem aregionF_cons (C:Cfg) (all rest:List Oper) (o:Oper) (ρ:Env) (L:AHeap) (K:ARes):aregionF C all (o :: rest) ρ L K=astepF C all o ρ L (aregFK C all rest K):=rfl
theorem astepF_sound {C:Cfg} {ops:Array Oper} {i:Nat} {o:Oper} {ρ:Env} {L:AHeap} {K:ARes} (hi:ops[i]?=some o) (hok:operOk C.N o=true) (h:astepF C ops.toList o ρ L K):GOp C ops i ρ L K:=by
 have hd:=operOk_dst hok
 have hdef:=operOk_def hok
 unfold astepF at h
 split at h
 ·rename_i hg;exact AOp.gop hi hg (aop_sound hd hdef h)
 ·rename_i j want hg
  split at h
  ·rename_i b hv
   exact GOp.of_guard' hi hg hv hd (fun hb=>aop_sound hd hdef (h.1 hb)) h.2
  ·exact h.elim
theorem aregionF_sound {C:Cfg} {ops:Array Oper} {K:ARes} {n:Nat} {w0:World} {M A0:Foot} {Q:Exit→Act→World→Prop} (hQ:∀a w,post w0 M A0 C.N K a w→Q .normal a w) (hok:ops.toList.all (operOk C.N)=true) :
  ∀(l:List Oper) (k:Nat),(∀j,l[j]?=ops[k+j]?)→∀(ρ:Env) (L:AHeap) (a:Act) (w:World),aregionF C ops.toList l ρ L K→St w0 M A0 C.N ρ L a w→wpOpsIn (Fw C.r) n C.P ops Q (List.range' k l.length) a w
 | [],k,_,ρ,L,a,w,h,hs=>hQ a w ⟨ρ,L,h,hs⟩
 | o :: l,k,hl,ρ,L,a,w,h,hs=>by
  have h0:ops[k]?=some o:=by simpa using (hl 0).symm
  have ho:operOk C.N o=true:=List.all_eq_true.1 hok o (List.mem_of_getElem? (by simpa using h0))
  rw[List.length_cons,List.range'_succ,wpOpsIn_cons]
  refine wpOpIn_mono ?_ (astepF_sound h0 ho h n w0 M A0 a w Q hs)
  rintro a' w' ⟨ρ',L',h1,h2⟩
  exact aregionF_sound hQ hok l (k+1) (fun j=>by have:=hl (j+1);simpa [Nat.add_assoc,Nat.add_comm 1 j] using this) ρ' L' a' w' h1 h2
theorem AWp.regionF {C:Cfg} {id:Nat} {ops:Array Oper} {Q:AQ} {ρ:Env} {L:AHeap} (h:aregionF C ops.toList ops.toList ρ L (Q .normal)):AWp C (.region id ops false) Q ρ L:=fun hok n w0 M A0 a w hs=>by
 refine wpIn_region ?_
 have:=aregionF_sound (C:=C) (ops:=ops) (K:=Q .normal) (n:=n) (Q:=cq C w0 M A0 Q) (fun a w ⟨ρ',L',h1,h2⟩=>⟨ρ',L',h1,h2⟩) hok ops.toList 0 (by simp) ρ L a w h hs
 rwa [Array.length_toList,← List.range_eq_range'] at this
attribute [go_sem] aregionF_nil aregionF_cons astepF aregFK
end Go.AL
end
section
namespace Go.AL
open Go Go.RowKit
set_option maxRecDepth 4000
section
variable {ps:List Pr} {ts:List Pd}
end
def leqF (a b:List Int):Bool:=decide (a.length=b.length) && (List.range a.length).all fun i=>decide (a.getD i 0≤b.getD i 0)
theorem leqF_iff {a b:List Int} : leqF a b=true↔a.length=b.length∧∀i,i<a.length→a.getD i 0≤b.getD i 0:=by
 unfold leqF
 rw[Bool.and_eq_true,List.all_eq_true,decide_eq_true_eq]
 exact⟨fun h=>⟨h.1,fun i hi=>of_decide_eq_true (h.2 i (List.mem_range.2 hi))⟩,fun h=>⟨h.1,fun i hi=>decide_eq_true (h.2 i (List.mem_range.1 hi))⟩⟩
section
variable {ps:List Pr} {c:List Int}
variable {j:List Int} {ch:Int→Int→Int}
end
section
variable {ps:List Pr} {c:List Int}
end
def ordL (a b:List Int):Prop:=a.sum<b.sum∨(a.sum=b.sum∧cmpL a b<0)
theorem isF_given {ps:List Pr} (hv:validF ps=true) {c:List Int} : givenF ps [c] []=0↔isF ps c=true:=by
 rw[givenL,isF_iff];simp [hv]
theorem leq_iff_at {a b:List Int} : leqF a b=true↔a.length=b.length∧∀p:Nat,p<a.length→cAt a p≤cAt b p:=leqF_iff
theorem leq_sum:∀ {a b:List Int},leqF a b=true→a.sum≤b.sum∧(a.sum=b.sum→a=b)
 | [],[],_=>⟨Int.le_refl _,fun _=>rfl⟩
 | [],_ :: _,h=>by have:=(leqF_iff.1 h).1;simp at this
 | _ :: _,[],h=>by have:=(leqF_iff.1 h).1;simp at this
 | x :: a,y :: b,h=>by
  obtain⟨h1,h2⟩:=leqF_iff.1 h
  have h0:x≤y:=by simpa using h2 0 (by simp)
  obtain⟨i1,i2⟩:=leq_sum (a:=a) (b:=b) (leqF_iff.2 ⟨by simpa using h1,fun i hi=>by have:=h2 (i+1) (by simpa using hi);simpa using this⟩)
  rw[List.sum_cons,List.sum_cons]
  refine⟨by omega,fun h => ?_⟩
  rw[i2 (by omega),show x=y by omega]
section
variable {A:List (List Int)} (hA:A.Pairwise ordL)
include hA
end
theorem lcl_nch {p:Int} (t:Pd):allB (lclB p) t=true→allB nchB t=true:=by
 induction t using Pd.ind with
 | _ k n q q' s l ih =>
  intro h
  obtain⟨h1,h2⟩:=allB_sub h
  rw[allB_mk,Bool.and_eq_true,List.all_eq_true]
  refine⟨?_,fun x hx=>ih x hx (h2 x hx)⟩
  unfold nchB
  refine decide_eq_true fun h4 => ?_
  rw[lcl_mk,if_pos (.inl h4)] at h1
  cases h1
theorem lcl_cut {ps:List Pr} {p:Nat} (hp:p<ps.length) {t:Pd} (hok:okT ps t=true) (h9:9≤t.kind) (hl:allB (lclB p) t=true) {c:List Int} (hc:c.length=ps.length):truF (cutO ps c fun _ _=>0) t=lclT ps p t (cAt c p):=by
 unfold lclT stO
 refine truF_congr t hok h9 (AllP_of_allB (f:=lclB p) (fun x hx => ?_) t hl)
 obtain⟨k,n,q,q',s,l⟩:=x
 rw[lcl_mk] at hx
 have h1:(stC ps.length p (cAt c p)).getD p 0=c.getD p 0:=by
  rw[stC_get hp,cAt_nat (by omega),List.getD_eq_getElem?_getD,List.getElem?_eq_getElem (by omega),Option.getD_some]
 have hq:(k=2∨k=3)→q=p:=fun h=>by
  rw[if_neg (by omega),if_pos h] at hx
  exact of_decide_eq_true hx
 refine⟨fun h => ?_,fun h => ?_,fun h=>rfl⟩
 ·have:=hq (.inl h)
  subst this
  unfold cutO
  simp only[Int.toNat_natCast,h1]
 ·have:=hq (.inr h)
  subst this
  unfold cutO
  simp only[Int.toNat_natCast,h1]
noncomputable def whE (ps:List Pr) (t:Pd):Int:=if checkF ps t ≠ 0 then checkF ps t else if resF t.kind ≠ 2 then 14 else if allB ntmB t=false then 15 else lstE ps
theorem whE_zero {ps:List Pr} {t:Pd} (h:whE ps t=0):checkF ps t=0∧9≤t.kind∧allB ntmB t=true∧lstE ps=0:=by
 unfold whE at h
 split at h
 ·rename_i h2;exact absurd h h2
 ·rename_i h2
  split at h
  ·cases h
  ·rename_i h4
   split at h
   ·cases h
   ·rename_i h5
    refine⟨by simpa using h2,?_,by simpa using h5,h⟩
    have:resF t.kind=2:=by simpa using h4
    unfold resF at this
    split at this <;> omega
end Go.AL
end
section
namespace Go.AL
open Go Go.RowKit
section
variable {α:Type} (bg:α→α→Bool) (len:Nat→Nat) (f:Nat→Nat→α) (n:Nat)
def Tgt (t:Nat→Nat):Prop:=(∀p,p<n→t p<len p)∧∀p q,p<n→q<n→p ≠ q→bg (f p (t p)) (f q (t q))=true
def MonB:Prop:=∀p i j,p<n→i≤j→j<len p→∀o,bg (f p j) o=true→bg (f p i) o=true
def LeastT (a:Nat→Nat):Prop:=Tgt bg len f n a∧∀t,Tgt bg len f n t→∀p,p<n→a p≤t p
variable {bg len f n}
theorem tgt_step (hm:MonB bg len f n) {a:Nat→Nat} (ha:∀t,Tgt bg len f n t→∀p,p<n→a p≤t p) {p q:Nat} (hp:p<n) (hq:q<n) (hpq:p ≠ q) (h:bg (f p (a p)) (f q (a q))=false) :
  ∀t,Tgt bg len f n t→∀r,r<n→(if r=q then a q+1 else a r)≤t r:=fun t ht r hr=>by
 have h1:=ha t ht
 split
 ·rename_i e
  subst e
  have h2:=h1 r hr
  by_cases e:a r=t r
  ·exfalso
   have h3:=ht.2 p r hp hr hpq
   have h4:=hm p (a p) (t p) hp (h1 p hp) (ht.1 p hp) _ h3
   rw[← e,h] at h4;cases h4
  ·omega
 ·exact h1 r hr
theorem tgt_none {a:Nat→Nat} (ha:∀t,Tgt bg len f n t→∀p,p<n→a p≤t p) {p:Nat} (hp:p<n) (h:len p≤a p):¬ ∃t,Tgt bg len f n t:=fun ⟨t,ht⟩=>by
 have h1:=ha t ht p hp
 have h2:=ht.1 p hp
 omega
theorem least_unique {a b:Nat→Nat} (ha:LeastT bg len f n a) (hb:LeastT bg len f n b) {p:Nat} (hp:p<n):a p=b p:=by
 have h1:=ha.2 b hb.1 p hp
 have h2:=hb.2 a ha.1 p hp
 omega
end
end Go.AL
end
section
namespace Go.AL
open Go Go.RowKit
set_option maxRecDepth 4000
def spS (b:Nat→Bool) (p:Nat):Nat→List Stp × Option Nat
 | 0=>([],none)
 | k+1=>match spS b p k,b k with
  | (d,some f),true=>(d,some f)
  | (d,none),true=>(d,some k)
  | (d,some f),false=>(d ++ [(p,f,k - 1)],none)
  | (d,none),false=>(d,none)
def spC (s:List Stp × Option Nat) (p k:Nat):List Stp:=s.1 ++ (match s.2 with|some f=>[(p,f,k - 1)]|none=>[])
def spL (b:Nat→Bool) (p k:Nat):List Stp:=spC (spS b p k) p k
section
variable {b:Nat→Bool} {p:Nat}
theorem spL_zero:spL b p 0=[]:=rfl
theorem spS_cur:∀k,(spS b p k).2.isSome=(decide (0<k) && b (k - 1))
 | 0=>rfl
 | k+1=>by
  unfold spS
  simp only[Nat.zero_lt_succ,decide_true,Bool.true_and,Nat.add_sub_cancel]
  split <;> rename_i h1 h2 <;> rw[h2] <;> rfl
theorem spL_no {k:Nat} (h:b k=false):spL b p (k+1)=spL b p k:=by
 unfold spL spC
 rw[spS]
 rcases e:spS b p k with ⟨d,_|f⟩
 ·simp [h]
 ·simp [h]
theorem spL_new {k:Nat} (h:b k=true) (h0:(decide (0<k) && b (k - 1))=false):spL b p (k+1)=spL b p k ++ [(p,k,k)]:=by
 have:=spS_cur (b:=b) (p:=p) k
 unfold spL spC
 rw[spS]
 rcases e:spS b p k with ⟨d,_|f⟩
 ·simp [h]
 ·rw[e,h0] at this;cases this
theorem spL_on {k:Nat} (h:b k=true) (h0:(decide (0<k) && b (k - 1))=true):∃d f,spL b p k=d ++ [(p,f,k - 1)]∧spL b p (k+1)=d ++ [(p,f,k)]:=by
 have:=spS_cur (b:=b) (p:=p) k
 unfold spL spC
 rw[spS]
 rcases e:spS b p k with ⟨d,_|f⟩
 ·rw[e,h0] at this;cases this
 ·exact⟨d,f,by simp,by simp [h]⟩
theorem spL_len:∀k,(spL b p k).length≤k
 | 0=>Nat.le_refl 0
 | k+1=>by
  have ih:=spL_len k
  cases h:b k with
  | false=>rw[spL_no h];omega
  | true =>
   cases h0:decide (0<k) && b (k - 1) with
   | false=>rw[spL_new h h0,List.length_append];simp;omega
   | true =>
    obtain⟨d,f,e1,e2⟩:=spL_on (p:=p) h h0
    rw[e1] at ih
    rw[e2]
    simp at ih ⊢;omega
end
theorem argmin (f:Nat→Nat) (P:Nat→Prop):∀n,(∃p,p<n∧P p)→∃p,p<n∧P p∧∀q,q<n→P q→f p≤f q
 | 0,⟨_,h,_⟩=>by omega
 | n+1,⟨p,hp,hP⟩=>by
  by_cases hn:∃p,p<n∧P p
  ·obtain⟨a,a1,a2,a3⟩:=argmin f P n hn
   by_cases hb:P n∧f n<f a
   ·refine⟨n,by omega,hb.1,fun q hq hQ => ?_⟩
    by_cases e:q=n
    ·subst e;exact Nat.le_refl _
    ·have:=a3 q (by omega) hQ;omega
   ·refine⟨a,by omega,a2,fun q hq hQ => ?_⟩
    by_cases e:q=n
    ·subst e
     have:¬f q<f a:=fun h=>hb ⟨hQ,h⟩
     omega
    ·exact a3 q (by omega) hQ
  ·have e:p=n:=by
    by_cases e:p=n
    ·exact e
    ·exact absurd ⟨p,by omega,hP⟩ hn
   subst e
   refine⟨p,by omega,hP,fun q hq hQ => ?_⟩
   by_cases e:q=p
   ·subst e;exact Nat.le_refl _
   ·exact absurd ⟨q,by omega,hQ⟩ hn
theorem add_below {ps:List Pr} (hv:validF ps=true) {c d:List Int} (hc:isF ps c=true) (hd:isF ps d=true) (_hle:∀q:Nat,q<ps.length→cAt c q≤cAt d q) (hne:∃q:Nat,q<ps.length∧cAt c q<cAt d q) :
  ∃q:Nat,q<ps.length∧cAt c q<cAt d q∧rdyF ps c q=true:=by
 obtain⟨hl,hr,hcl⟩:=isF_iff.1 hc
 obtain⟨dl,dr,dcl⟩:=isF_iff.1 hd
 have hm:=(valid_parts hv).2.2
 have hrr:=(inRange_iff hl).1 hr
 have drr:=(inRange_iff dl).1 dr
 obtain⟨p,hp,hp0,hmin⟩:=argmin (fun p=>anc ps ((p:Int),cAt c p+1)) (fun p=>cAt c p<cAt d p) ps.length hne
 have h1:=hrr p hp
 have h2:=drr p hp
 have hi:(cAt c p).toNat<ps[p].evs.length:=by omega
 have hci:cAt c p=((cAt c p).toNat:Nat):=by omega
 refine⟨p,hp,hp0,?_⟩
 unfold rdyF
 rw[decide_eq_true_eq]
 refine⟨by rw[nev_get hp];omega,(stp_iff hv hc hp hi hci).2 ?_⟩
 unfold needE
 split
 ·rename_i hk
  obtain⟨s,hs,j,hj,e,_,_⟩:=sndr_some (recv_sndr hm hp hi hk)
  have hn:=nx_send hm hp hi hk
  have hcd:=closed_iff.1 dcl p hp _ hi hk (by omega)
  rw[e] at hn hcd ⊢
  simp only at hcd ⊢
  by_cases hle2:(j:Int)+1≤cAt c s
  ·exact hle2
  ·exfalso
   have h3:=hmin s hs (by omega)
   have h4:=anc_lt hv ⟨s,hs,j,hj,rfl⟩ (.single hn)
   have h5:=hrr s hs
   have h6:=anc_line hv hs (i:=(cAt c s).toNat) (j:=j) (by omega) hj
   have h7:(((cAt c s).toNat:Nat):Int)=cAt c s:=by omega
   have h8:(((cAt c p).toNat:Nat):Int)=cAt c p:=by omega
   rw[h7] at h6
   rw[h8] at h4
   omega
 ·have:=(hrr 0 (by omega)).1
  simpa using this
theorem rdy_is {ps:List Pr} {c:List Int} {p:Nat} (h:rdyF ps c p=true):isF ps (stpC c p)=true:=(of_decide_eq_true h).2
def firstP (ps:List Pr) (perm:List Int→Bool) (c:List Int):Option Nat:=(List.range c.length).find? fun p=>rdyF ps c p && perm (stpC c p)
theorem firstP_some {ps:List Pr} {f:List Int→Bool} {c:List Int} {p:Nat} (h:firstP ps f c=some p):p<c.length∧rdyF ps c p=true∧f (stpC c p)=true:=by
 have h1:=List.find?_some h
 have h2:=List.mem_of_find?_eq_some h
 rw[Bool.and_eq_true] at h1
 exact⟨List.mem_range.1 h2,h1.1,h1.2⟩
theorem firstP_none {ps:List Pr} {f:List Int→Bool} {c:List Int} (h:firstP ps f c=none) {p:Nat} (hp:p<c.length) (hr:rdyF ps c p=true):f (stpC c p)=false:=by
 have:=List.find?_eq_none.1 h p (List.mem_range.2 hp)
 rw[hr,Bool.true_and] at this
 simpa using this
def wlkR (ps:List Pr) (perm:List Int→Bool):Nat→List Int→Option (List (List Int))
 | 0,_=>some []
 | n+1,c=>match firstP ps perm c with
  | none=>none
  | some p=>(wlkR ps perm n (stpC c p)).map (stpC c p :: ·)
theorem wlkR_succ (ps:List Pr) (perm:List Int→Bool) (n:Nat) (c:List Int):wlkR ps perm (n+1) c=match firstP ps perm c with
  | none=>none
  | some p=>(wlkR ps perm n (stpC c p)).map (stpC c p :: ·):=rfl
theorem leq_stp {ps:List Pr} {c d:List Int} (hc:c.length=ps.length) (h:∀q:Nat,q<ps.length→cAt c q≤cAt d q) (hd:d.length=ps.length) {p:Nat} (hp:cAt c p<cAt d p):∀q:Nat,q<ps.length→cAt (stpC c p) q≤cAt d q:=fun q hq=>by
 rw[cAt_stp (by omega)]
 split
 ·rename_i e;subst e;omega
 ·exact h q hq
theorem leq_at {a b:List Int} {n:Nat} (ha:a.length=n) (hb:b.length=n):leqF a b=true↔∀q:Nat,q<n→cAt a q≤cAt b q:=by
 rw[leq_iff_at,ha,hb]
 exact⟨fun h=>h.2,fun h=>⟨rfl,h⟩⟩
theorem stp_len (c:List Int) (p:Nat):(stpC c p).length=c.length:=by unfold stpC;rw[List.length_set]
theorem leq_full {ps:List Pr} {c:List Int} (h:isF ps c=true):leqF c (fullC ps)=true:=by
 obtain⟨hl,hr,_⟩:=isF_iff.1 h
 refine(leq_at hl (by unfold fullC;rw[List.length_map])).2 fun q hq => ?_
 rw[fullC_at hq]
 exact((inRange_iff hl).1 hr q hq).2
theorem full_of_sum {ps:List Pr} {c:List Int} (h:isF ps c=true):c=fullC ps↔c.sum=off ps ps.length:=by
 have h1:=leq_sum (leq_full h)
 rw[fullC_sum] at h1
 exact⟨fun e=>by rw[e,fullC_sum],h1.2⟩
section
variable {ps:List Pr} (hv:validF ps=true)
include hv
theorem first_to {c to:List Int} (hc:isF ps c=true) (ht:isF ps to=true) (hle:leqF c to=true) (hne:c.sum<to.sum):∃p,firstP ps (fun d=>leqF d to) c=some p∧p<ps.length∧isF ps (stpC c p)=true∧leqF (stpC c p) to=true:=by
 have hl:=(isF_iff.1 hc).1
 have tl:=(isF_iff.1 ht).1
 have h1:=(leq_at hl tl).1 hle
 have hex:∃q:Nat,q<ps.length∧cAt c q<cAt to q:=by
  apply Classical.byContradiction
  intro hn
  have:c=to:=by
   apply List.ext_getElem (by omega)
   intro i g1 g2
   rw[← cAt_nat g1,← cAt_nat g2]
   have:=h1 i (by omega)
   have:¬cAt c i<cAt to i:=fun h=>hn ⟨i,by omega,h⟩
   omega
  rw[this] at hne;omega
 obtain⟨q,hq,hq1,hq2⟩:=add_below hv hc ht h1 hex
 have hlq:leqF (stpC c q) to=true:=(leq_at (by rw[stp_len];exact hl) tl).2 (leq_stp hl h1 tl hq1)
 cases hf:firstP ps (fun d=>leqF d to) c with
 | none =>
  have:=firstP_none hf (p:=q) (by omega) hq2
  rw[hlq] at this;cases this
 | some p =>
  obtain⟨a1,a2,a3⟩:=firstP_some hf
  exact⟨p,rfl,by omega,rdy_is a2,a3⟩
theorem wlk_to {to:List Int} (ht:isF ps to=true):∀(n:Nat) (c:List Int),isF ps c=true→leqF c to=true→c.sum+n=to.sum→∃R,wlkR ps (fun d=>leqF d to) n c=some R∧R.length=n∧(∀d ∈ R,isF ps d=true∧leqF d to=true)∧(c :: R).getLast?=some to
 | 0,c,hc,hle,hs=>by
  have:c=to:=(leq_sum hle).2 (by omega)
  subst this
  exact⟨[],rfl,rfl,fun d hd=>(by cases hd),rfl⟩
 | n+1,c,hc,hle,hs=>by
  obtain⟨p,h1,h2,h3,h4⟩:=first_to hv hc ht hle (by omega)
  have hsum:(stpC c p).sum=c.sum+1:=sum_stpC (by have:=(isF_iff.1 hc).1;omega)
  obtain⟨R,g1,g2,g3,g4⟩:=wlk_to ht n (stpC c p) h3 h4 (by omega)
  refine⟨stpC c p :: R,by rw[wlkR_succ,h1];simp only[g1,Option.map_some],by rw[List.length_cons,g2],fun d hd => ?_,?_⟩
  ·rcases List.mem_cons.1 hd with rfl|hd
   ·exact⟨h3,h4⟩
   ·exact g3 d hd
  ·rw[List.getLast?_cons_cons];exact g4
end
end Go.AL
end
