/- Texts of this claim's proof: WMn, WCu, WBig, WMl, WMc, WMd, AlGrd, WSs, WSp, WCp, WCk, WEx, WRr, WEy, WPq. No condition. -/
import Derived.Test.YtnpagaiphamfaaaGreatDoorM14
import Derived.Test.YtnpagaiphamfaaaGreatDoorM7
import Derived.Test.YtnpagaiphamfaaaGreatDoorM6
import Derived.Test.YtnpagaiphamfaaaGreatDoorM13
import Derived.Test.YtnpagaiphamfaaaGreatDoorM11
import Derived.Test.YtnpagaiphamfaaaGreatDoorM10
section
namespace Go.AL
open Go Go.RowKit
set_option maxRecDepth 4000
def chl (ps:List Pr) (lv:List (List Int)) (i:Nat):List (List Int):=(lv.take i).flatMap (nextL ps)
theorem chl_succ {ps:List Pr} {lv:List (List Int)} {i:Nat} (hi:i<lv.length):chl ps lv (i+1)=chl ps lv i ++ nextL ps lv[i]:=by
 unfold chl;rw[List.take_succ_eq_append_getElem hi,List.flatMap_append];simp
theorem chl_len {ps:List Pr} {lv:List (List Int)} (h:∀c ∈ lv,c.length≤8):∀i,i≤lv.length→(chl ps lv i).length≤8 * i
 | 0,_=>by simp [chl]
 | i+1,hi=>by
  have:=chl_len (ps:=ps) h i (by omega)
  have h2:=nextT_len ps lv[i] lv[i].length
  have h3:=h lv[i] (List.getElem_mem _)
  rw[chl_succ (by omega),List.length_append]
  unfold nextL
  omega
theorem mem_chl {ps:List Pr} {lv:List (List Int)} {x:List Int} : x ∈ chl ps lv lv.length↔∃c ∈ lv,x ∈ nextL ps c:=by unfold chl;rw[List.take_length,List.mem_flatMap]
theorem Vw.front {L:AHeap} {b k n c:Nat} {t:TypeId} {xs ws:List AV} {cap:Nat} (h:lk L b=some (.row t k (xs ++ ws) cap)) (hn:n=xs.length):Vw L (.ls b k 0 n c) (.sl k xs):=by
 have e:((xs ++ ws).drop 0).take n=xs:=by rw[List.drop_zero,hn,List.take_left]
 exact .ls h (by rw[List.length_append];omega) (by rw[e]) (by rw[e];exact(Vws.refl xs).2)
theorem maker_next (ps:List Pr) (hs:Sm ps) (hv:validF ps=true) (k:Nat) (hk:(levF ps k).length≤5000):PC Proofs.Tryz.prog 146 [aMk ps,aRows (levF ps k)] (aRows (levF ps (k+1))):=by
 obtain⟨hl1,hl8⟩:=valid_len hv
 have hlev:∀c ∈ levF ps k,isF ps c=true:=fun c h=>((mem_levF hv k c).1 h).1
 have hnl:=next_lev hv k (l:=chl ps (levF ps k) (levF ps k).length) fun x=>mem_chl
 have hcl:=chl_len (ps:=ps) (lv:=levF ps k) fun c hc=>by rw[(isF_iff.1 (hlev c hc)).1];exact hl8
 have hall:∀x ∈ chl ps (levF ps k) (levF ps k).length,x.length≤1000000:=fun x hx=>by
  obtain⟨c,hc,hx⟩:=mem_chl.1 hx
  obtain⟨p,_,_,h4,rfl⟩:=mem_nextL.1 hx
  rw[(isF_iff.1 h4).1];omega
 rw[← hnl]
 clear hnl
 generalize levF ps k=lv at *
 unfold aMk
 refine PC.enter 43 [.tmp 4] [2,35] Proofs.Tryz.func146 rfl rfl rfl rfl rfl (by simp) (AWp.of ?_);simp only[go_sem]
 refine Wk ?_
 refine AWp.range' lv.length [5] [2,10,11] (fun i vs L=>∃v,vs=[v]∧AppSt 42 1 ((chl ps lv i).map aInts) v L) (by omega) rfl rfl rfl ⟨anil,rfl,by exact .nil⟩ ?_ ?_
 ·rintro i vs L hi - ⟨v,rfl,hA⟩
  have hgi:=getD_map (f:=aInts) hi
  have hci:=hlev _ (List.getElem_mem hi)
  have hcli:=hcl i (by omega)
  have hlc:=(isF_iff.1 hci).1
  rw[chl_succ hi]
  have hnx:nextL ps lv[i]=nextT ps lv[i] lv[i].length:=rfl
  rw[hnx]
  generalize lv[i]=c at *
  simp only[go_sem]
  refine W1 hgi ?_
  refine AWp.range' c.length [5] [2,7,10,11,12,17] (fun p vs L=>∃v,vs=[v]∧AppSt 42 1 ((chl ps lv i ++ nextT ps c p).map aInts) v L) (by omega) rfl rfl rfl ⟨v,rfl,by rw[show nextT ps c 0=[] from rfl,List.append_nil];exact hA⟩ ?_ ?_
  ·clear hA
   rintro p vs L hp - ⟨v,rfl,hA⟩
   have hrd:=maker_ready ps hs hv c hci p (by omega)
   have hrl:=nextT_len ps c p
   simp only[go_sem]
   unfold aMk at hrd
   have hn1:nextT ps c (p+1)=nextT ps c p ++ if rdyF ps c p=true then [stpC c p] else []:=by
    rw[nextT_succ];unfold nx1 rdyF;simp only[decide_eq_true_eq]
   rw[hn1]
   have hrg:=(inRange_iff hlc).1 (isF_iff.1 hci).2.1 p (by omega)
   have hel:=hs.evs _ (List.getElem_mem (show p<ps.length by omega))
   have hcp:cAt c p=c[p]:=cAt_nat hp
   have hgp:=getD_map (f:=ai) hp
   have hst:((c.map ai).set p (ai (c[p]+1)))=(stpC c p).map ai:=by unfold stpC;rw[List.map_set,hcp]
   have hsl:(stpC c p).length=c.length:=by unfold stpC;rw[List.length_set]
   generalize nextT ps c p=nt at *
   refine Wk ?_
   refine Sd ?_
   refine(hrd).val.use ?_;simp only[go_sem]
   generalize rdyF ps c p=rb at *
   refine Wk ?_
   refine⟨fun hb => ?_,fun hb => ?_⟩
   ·rw[if_pos hb]
    refine(MVal.frame (Lm:=[]) (Lr:=L) (ints_cloneO c (by omega)).val).mono ?_
    rintro r L' ⟨L1,rfl,hC⟩
    rcases hC.inv with ⟨e1,_,_⟩|⟨bc,capc,rfl,rfl⟩
    ·have:c.length=0:=by simpa using congrArg List.length e1
     omega
    simp only[go_sem,List.length_map]
    refine Sd ?_
    refine AWp.of ?_;simp only[go_sem,hgp]
    refine Sd ?_
    have ez:(chl ps lv i ++ (nt ++ [stpC c p])).map aInts=(chl ps lv i ++ nt).map aInts ++ [aInts (stpC c p)]:=by
     rw[← List.append_assoc,List.map_append];rfl
    have hyl:((chl ps lv i ++ nt).map aInts).length≤8 * 5000+8:=by rw[List.length_map,List.length_append];omega
    rw[ez]
    refine AWp.viewP (Lf:=[(bc,_)]) (Lk:=L) (L':=L) (List.Perm.refl _) (LVw.refl _) [(9,aInts (stpC c p))] (fun q hq => ?_) ?_
    ·obtain rfl:=List.mem_singleton.1 hq
     simp only[go_sem]
     rw[← hst]
     exact Vw.ofLs (t:=3) (cap:=capc) (if_pos rfl) (by simp)
    generalize (chl ps lv i ++ nt).map aInts=ys at *
    generalize stpC c p=d at *
    rcases hA.inv with ⟨e1,rfl,rfl⟩|⟨bq,capq,rfl,rfl⟩
    ·simp only[go_sem]
     refine Wk ?_
     intro b' cap' hc'
     exact⟨_,List.Sublist.refl _,_,rfl,by rw[e1];exact .row b' [_] cap'⟩
    ·simp only[go_sem]
     refine Wk ?_
     intro b' cap' hc'
     exact⟨_,List.Sublist.refl _,_,rfl,AppSt.snoc b' cap' _ rfl⟩
   ·rw[if_neg (by rw[hb];exact Bool.false_ne_true),List.append_nil]
    refine Wk ?_
    exact⟨L,List.Sublist.refl _,v,rfl,hA⟩
  ·rintro vs L - ⟨v,rfl,hA⟩
   simp only[go_sem]
   refine Wk ?_
   exact⟨L,List.Sublist.refl _,v,rfl,hA⟩
 ·rintro vs L - ⟨v,rfl,hA⟩
  have hchl:=hcl lv.length (Nat.le_refl _)
  generalize chl ps lv lv.length=ch at *
  have hsl:(sortL ch).length=ch.length:=(sortBy_perm cmpL ch).length_eq
  have hsm:∀x ∈ sortL ch,x.length≤1000000:=fun x hx=>hall x ((sortBy_perm cmpL ch).mem_iff.1 hx)
  rcases hA.inv with ⟨e1,rfl,rfl⟩|⟨b,cap,rfl,rfl⟩
  ·obtain rfl:ch=[]:=by simpa using e1
   simp only[go_sem]
   refine Wk ?_
   refine Sd ?_
   refine(sort_nil _).val.use ?_;simp only[go_sem]
   refine Wk ?_
   refine Sd ?_
   refine(compact_nil _).val.use ?_;simp only[go_sem]
   refine Wk ?_
   refine ret_view [] ?_;simp only[go_sem]
   rw[List.eq_nil_of_length_eq_zero (l:=sortL []) hsl]
   exact .nil 1
  ·have hso:=sort_rows b cap ch hall (by omega) 42
   have hco:=rows_compact b cap (sortL ch) hsm (by omega)
   rw[hsl] at hco
   generalize sortL ch=sc at *
   simp only[go_sem,List.length_map]
   refine Wk ?_
   refine hso.val.mono ?_
   rintro r L ⟨rfl,rfl⟩
   simp only[go_sem]
   refine Wk ?_
   refine hco.val.mono ?_
   rintro r L ⟨ws,cap',rfl,rfl⟩
   generalize compL sc=cc at *
   simp only[go_sem]
   refine Wk ?_
   refine ret_view [true] ?_;simp only[go_sem]
   exact Vw.front (if_pos rfl) (by rw[List.length_map])
def Cb (c:List Int):Prop:=c.length≤1000000∧∀z ∈ c,0≤z∧z≤1000000
theorem isF_cb {ps:List Pr} (hs:Sm ps) {c:List Int} (h:isF ps c=true):Cb c:=by
 obtain⟨h1,h2,_⟩:=isF_iff.1 h
 have:=hs.procs
 refine⟨by omega,fun z hz=>⟨isF_nonneg h z hz,?_⟩⟩
 obtain⟨p,hp,rfl⟩:=List.getElem_of_mem hz
 have h3:=((inRange_iff h1).1 h2 p (by omega)).2
 have:=hs.evs _ (List.getElem_mem (show p<ps.length by omega))
 rw[cAt_nat hp] at h3
 omega
theorem ref23_Is (ps:List Pr) (hs:Sm ps) (hn:1≤ps.length) (c:List Int):PC Proofs.Tryz.prog 77 [aTr ps,aInts c] (ab (isF ps c)):=by
 have h1:=ref12_Cut ps hs c
 have h2:=fun h1 h2=>ref12_Consistent ps hs hn c h1 h2
 unfold isF
 generalize closedF ps c=B at *
 refine PC.enter 13 [.tmp 4] [2] Proofs.Tryz.func77 rfl rfl rfl rfl rfl (by simp) (AWp.of ?_);simp only[go_sem]
 refine Wk ?_
 refine Sd ?_
 refine(h1).val.use ?_;simp only[go_sem]
 refine GCall.use (ab B) ?_ ?_
 ·intro g;exact⟨At,(h2 (by simpa using g.1) (by simpa using g.2)).val.use ⟨rfl,rfl⟩⟩
 simp only[go_sem]
 refine Wk ?_
 refine ret_eq ?_;simp only[go_sem]
theorem Vw.ofLs' {L:AHeap} {b k len c:Nat} {t:TypeId} {xs xs':List AV} {cap:Nat} (h:lk L b=some (.row t k xs cap)) (hl:len=xs.length) (hv:Vws L xs xs'):Vw L (.ls b k 0 len c) (.sl k xs'):=by
 subst hl
 exact .ls h (by omega) (by rw[List.drop_zero,List.take_length];exact hv.1) (by rw[List.drop_zero,List.take_length];exact hv.2)
theorem moreT_len {ps:List Pr} {B:Nat} : ∀ {l acc:List (List Int)},(∀c ∈ l,c.length≤B)→(l.foldl (fun acc c=>insL acc (nextL ps c)) acc).length≤acc.length+l.length * B
 | [],acc,_=>by simp
 | c :: l,acc,h=>by
  have h1:=moreT_len (ps:=ps) (B:=B) (l:=l) (acc:=insL acc (nextL ps c)) fun c hc=>h c (List.mem_cons_of_mem _ hc)
  have h2:=insL_len (nextL ps c) acc
  have h3:=nextT_len ps c c.length
  have h4:=h c List.mem_cons_self
  have h5:(nextL ps c).length=(nextT ps c c.length).length:=rfl
  rw[List.foldl_cons,List.length_cons,Nat.add_mul]
  omega
theorem off_small {ps:List Pr} (hs:Sm ps):∀k,k≤ps.length→off ps k≤k * 1000000:=by
 intro k
 induction k with
 | zero=>intro _;simp [off]
 | succ k ih =>
  intro hk
  rw[off_succ (by omega)]
  have h1:=ih (by omega)
  have h2:=hs.evs _ (List.getElem_mem (show k<ps.length by omega))
  omega
def nlev (ps:List Pr):Nat:=(List.range (off ps ps.length+2)).findIdx fun k=>(levF ps k).isEmpty
theorem range_findIdx (p:Nat→Bool) (n:Nat) (h:(List.range n).findIdx p<n):p ((List.range n).findIdx p)=true:=by
 have w:(List.range n).findIdx p<(List.range n).length:=by rw[List.length_range];exact h
 have:=List.findIdx_getElem (w:=w)
 rwa [List.getElem_range] at this
theorem nlev_lt {ps:List Pr} {j:Nat} (h:j<nlev ps):levF ps j ≠ []:=fun e=>by
 unfold nlev at h
 have hl:j<(List.range (off ps ps.length+2)).length:=Nat.lt_of_lt_of_le h List.findIdx_le_length
 have:=List.not_of_lt_findIdx h
 rw[List.getElem_range] at this
 simp [e] at this
theorem nlev_eq {ps:List Pr} {k:Nat} (hk:k≤nlev ps) (h:levF ps k=[]):k=nlev ps:=by
 rcases Nat.lt_or_ge k (nlev ps) with h1|h1
 ·exact absurd h (nlev_lt h1)
 ·omega
theorem nlev_succ {ps:List Pr} (hv:validF ps=true) {k:Nat} (hk:k≤nlev ps) (h:levF ps k ≠ []):k+1≤nlev ps:=by
 rcases Nat.lt_or_ge k (nlev ps) with h1|h1
 ·omega
 ·exfalso
  have e:k=nlev ps:=by omega
  have hko:k≤off ps ps.length:=by
   rcases Nat.lt_or_ge (off ps ps.length) k with h|h'
   ·exact absurd (levF_end hv h) ‹levF ps k ≠ []›
   ·exact h'
  have this:(levF ps (nlev ps)).isEmpty=true:=range_findIdx (fun k=>(levF ps k).isEmpty) _ (show nlev ps<_ by omega)
  rw[e] at h
  exact h (List.isEmpty_iff.1 this)
def lvsF (ps:List Pr) (k:Nat):List AV:=(List.range k).map fun j=>aRows (levF ps j)
theorem lvsF_succ (ps:List Pr) (k:Nat):lvsF ps (k+1)=lvsF ps k ++ [aRows (levF ps k)]:=by unfold lvsF;rw[List.range_succ,List.map_append];rfl
theorem lvsF_len (ps:List Pr) (k:Nat):(lvsF ps k).length=k:=by simp [lvsF]
noncomputable def aLvs (ps:List Pr):AV:=if validF ps=true then (if (cutsF ps).length≤5000 then .tup [.sl 1 (lvsF ps (nlev ps)),ai 0] else .tup [.sl 1 [],ai 16]) else .tup [.sl 1 [],ai 1]
theorem cuts_levels (ps:List Pr) (hs:Sm ps):PC Proofs.Tryz.prog 117 [aTr ps] (aLvs ps):=by
 have hva:=trace_Valid ps hs
 unfold aLvs
 refine PC.enter 35 [.tmp 2,.tmp 3] [1,4,32] Proofs.Tryz.func117 rfl rfl rfl rfl rfl (by simp) (AWp.of ?_);simp only[go_sem]
 refine Wk ?_
 refine Sd ?_
 refine(hva).val.use ?_;simp only[go_sem]
 cases hv:validF ps with
 | false =>
  refine Wk ?_
  refine ret_view [] ?_;simp only[go_sem]
  exact .mkTup (Vws.cons (.nil 1) (Vws.refl _))
 | true =>
  obtain⟨hl1,hl8⟩:=valid_len hv
  have hof:=cuts_of ps hs hv
  rw[if_pos rfl]
  unfold aMk at hof
  refine Wk ?_
  refine Sd ?_
  refine(hof).val.use ?_;simp only[go_sem]
  intro b4
  refine Wk ?_
  intro b0 b1 g1
  have n1:¬b1=b0:=by omega
  have n2:¬b0=b1:=by omega
  refine AWp.view [true,true] [(5,.sl 1 ((levF ps 0).map aInts))] (LVw.refl _) ?_ ?_
  ·intro q hq
   simp only[List.mem_singleton] at hq
   subst hq
   simp only[go_sem,pickT]
   have e:List.replicate ps.length (ai 0)=(List.replicate ps.length (0:Int)).map ai:=(List.map_replicate).symm
   rw[e]
   exact Vw.ofLs' (t:=42) (cap:=1) (if_pos rfl) rfl (Vws.cons (Vw.ofLs (t:=3) (cap:=ps.length) (by simp only[lk,n2,if_false,if_true]) (by rw[List.length_map,List.length_replicate])) .nil)
  simp only[go_sem,pickF]
  have hz0:(0:Int)=((cumF ps 0).length:Nat):=rfl
  have hof1:1≤off ps ps.length+1:=by omega
  refine Wk ?_
  refine AWp.block (AWp.loopN [5,6,7] [4] (fun m vs L=>∃(k:Nat) (v:AV),vs=[.sl 1 ((levF ps k).map aInts),v,ai (cumF ps k).length]∧AppSt 28 1 (lvsF ps k) v L∧(cumF ps k).length≤5000∧(levF ps k).length≤40000∧k≤nlev ps∧k≤off ps ps.length+1∧m=off ps ps.length+1 - k) (off ps ps.length+1) ⟨0,anil,rfl,.nil,by simp [cumF],by simp [levF],by omega,by omega,rfl⟩ ?_)
  rintro m vs L - ⟨k,v,rfl,hA,h5,hl4,hkn,hk,rfl⟩
  by_cases hlv:levF ps k=[]
  ·have hz:¬(0:Int)<((levF ps k).length:Int):=by rw[hlv];simp
   have hcut:cutsF ps=cumF ps k:=by
    unfold cutsF
    rw[show off ps ps.length+1=k+(off ps ps.length+1 - k) by omega,cumF_end hlv]
   rw[hcut,if_pos h5,← nlev_eq hkn hlv]
   generalize lvsF ps k=ys at *
   rcases hA.inv with ⟨e1,rfl,rfl⟩|⟨bq,cap,rfl,rfl⟩
   ·simp only[go_sem]
    refine W1 hz ?_
    refine ret_view [] ?_;simp only[go_sem]
    rw[e1]
    exact .mkTup (Vws.cons (.nil 1) (Vws.refl _))
   ·simp only[go_sem]
    refine W1 hz ?_
    refine ret_view [true] ?_;simp only[go_sem]
    exact .mkTup (Vws.cons (Vw.ofLs (if_pos rfl) rfl) (Vws.refl _))
  ·have hko:k≤off ps ps.length:=by
    rcases Nat.lt_or_ge (off ps ps.length) k with h|h
    ·exact absurd (levF_end hv h) hlv
    ·exact h
   have hpos:0<(levF ps k).length:=List.length_pos_iff.2 hlv
   have hposi:(0:Int)<((levF ps k).length:Int):=by omega
   have hcs:=cumF_succ ps k
   have hcsl:(cumF ps (k+1)).length=(cumF ps k).length+(levF ps k).length:=by rw[hcs,List.length_append]
   have hmono:=cumF_mono (ps:=ps) (j:=k+1) (k:=off ps ps.length+1) (by omega)
   have hcutl:(cumF ps (off ps ps.length+1)).length=(cutsF ps).length:=rfl
   have hsum:=nlev_succ hv hkn hlv
   have hmore:(levF ps k).length≤5000→(levF ps (k+1)).length≤40000:=fun h=>by
    have:=moreT_len (ps:=ps) (B:=ps.length) (l:=levF ps k) (acc:=[]) fun c hc=>by rw[(isF_iff.1 ((mem_levF hv k c).1 hc).1).1];exact Nat.le_refl _
    have h2:(levF ps k).length * ps.length≤5000 * 8:=Nat.mul_le_mul h hl8
    have h3:(levF ps (k+1)).length=((levF ps k).foldl (fun acc c=>insL acc (nextL ps c)) []).length:=rfl
    rw[h3]
    simp only[List.length_nil] at this
    omega
   have hnx:=fun h=>maker_next ps hs hv k h
   unfold aMk aRows at hnx
   have hys:=lvsF_succ ps k
   have hyl:=lvsF_len ps k
   unfold aRows at hys
   have hofl:off ps ps.length≤8000000:=by
    have:=off_small hs ps.length (Nat.le_refl _)
    omega
   rcases hA.inv with ⟨e1,rfl,rfl⟩|⟨bq,cap,rfl,rfl⟩
   ·simp only[go_sem]
    repeat(first|((with_reducible refine AWp.ofC ?_ ?_);exact rfl;simp only[go_sem,hposi])|((with_reducible refine an ?_ ?_);exact Au))
    refine Wk ?_
    refine⟨fun h9 => ?_,fun h9 => ?_⟩
    ·rw[if_neg (by omega)]
     refine Wk ?_
     refine ret_view [] ?_;simp only[go_sem]
     exact .mkTup (Vws.cons (.nil 1) (Vws.refl _))
    ·have hnx:=hnx (by omega)
     refine Wk ?_
     intro b' cap' hc'
     refine Wk ?_
     refine Sd ?_
     refine(hnx).val.use ?_;simp only[go_sem]
     refine Wk ?_
     refine⟨_,List.Sublist.refl _,_,?_,k+1,.ls b' 1 0 1 cap',by rw[hcsl];simp,?_,by omega,hmore (by omega),hsum,by omega,rfl⟩
     ·omega
     ·rw[hys,e1];exact .row b' [_] cap'
   ·simp only[go_sem]
    repeat(first|((with_reducible refine AWp.ofC ?_ ?_);exact rfl;simp only[go_sem,hposi])|((with_reducible refine an ?_ ?_);exact Au))
    refine Wk ?_
    refine⟨fun h9 => ?_,fun h9 => ?_⟩
    ·rw[if_neg (by omega)]
     refine Wk ?_
     refine ret_view [true] ?_;simp only[go_sem]
     exact .mkTup (Vws.cons (.nil 1) (Vws.refl _))
    ·have hnx:=hnx (by omega)
     refine W1 hyl ?_
     intro b' cap' hc'
     refine Wk ?_
     refine Sd ?_
     refine(hnx).val.use ?_;simp only[go_sem]
     refine Wk ?_
     refine⟨_,List.Sublist.refl _,_,?_,k+1,.ls b' 1 0 (k+1) cap',by rw[hcsl];simp,?_,by omega,hmore (by omega),hsum,by omega,rfl⟩
     ·omega
     ·rw[hys,show List.take k (lvsF ps k)=lvsF ps k from List.take_of_length_le (by omega)];exact AppSt.snoc b' cap' (k+1) (congrArg (· + 1) hyl.symm)
def GrowS (n:Nat) (r:AV) (L:AHeap):Prop:=(n=0∧r=anil∧L=[])∨∃b cap,n≤cap∧r = .ls b 1 0 0 cap∧L=[(b,.row 42 1 (List.replicate n anil) cap)]
theorem rows_grow (n:Nat) (hn:n≤1000000):MCalls Proofs.Tryz.prog 147 [anil,ai (n:Nat)] [] (GrowS n):=by
 refine MCalls.enter' 27 [.tmp 4] [] Proofs.Tryz.func147 rfl rfl rfl rfl rfl (by simp) (AWp.of ?_);simp only[go_sem]
 refine Wk ?_
 intro _
 refine Wk ?_
 refine Wk ?_
 refine⟨fun h1 => ?_,fun h1 => ?_⟩
 ·refine Wk ?_
  intro b cap hc
  refine Wk ?_
  refine ret_own ?_
  simp only[go_sem]
  have e:((n:Int) - (((0:Nat):Int) - ((0:Nat):Int))).toNat=n:=by omega
  rw[e]
  exact .inr ⟨b,cap,by omega,by simp,rfl⟩
 ·have:n=0:=by omega
  refine Wk ?_
  refine ret_own ?_
  simp only[go_sem]
  exact .inl ⟨this,rfl,rfl⟩
def CatS (ls:List (List (List Int))) (k:Nat) (v:AV) (L:AHeap):Prop :=
 (ls.flatten=[]∧v=anil∧L=[])∨∃b cap xs,v = .ls b 1 0 (ls.take k).flatten.length cap∧L=[(b,.row 42 1 xs cap)]∧(ls.take k).flatten.length≤xs.length∧xs.take (ls.take k).flatten.length=(ls.take k).flatten.map aInts
theorem flat_succ {ls:List (List (List Int))} {k:Nat} (hk:k<ls.length):(ls.take (k+1)).flatten=(ls.take k).flatten ++ ls[k]:=by
 rw[List.take_succ_eq_append_getElem hk,List.flatten_append];simp
theorem flat_le {ls:List (List (List Int))} (k:Nat):(ls.take k).flatten.length≤ls.flatten.length:=by
 conv=>rhs;rw[← List.take_append_drop k ls,List.flatten_append,List.length_append]
 omega
theorem rows_concat (ls:List (List (List Int))) (hl:ls.length≤100000000) (hf:ls.flatten.length≤1000000) :
  MCalls Proofs.Tryz.prog 118 [.sl 1 (ls.map aRows)] [] fun r L=>CatS ls ls.length r L:=by
 have hR:∀x:List (List Int),aRows x = .sl 1 (x.map aInts):=fun _=>rfl
 refine MCalls.enter' 36 [.tmp 2] [] Proofs.Tryz.func118 rfl rfl rfl rfl rfl (by simp) (AWp.of ?_);simp only[go_sem]
 refine Wk ?_
 refine AWp.range' ls.length [3] [0,9,10] (fun k vs L=>L=[]∧vs=[ai ((ls.take k).flatten.length:Nat)]) (by omega) rfl rfl rfl ⟨rfl,by rw[List.take_zero];rfl⟩ ?_ ?_
 ·rintro k vs L hk - ⟨rfl,rfl⟩
  have h1:=flat_le (ls:=ls) k
  have h2:=flat_le (ls:=ls) (k+1)
  have h3:=congrArg List.length (flat_succ hk)
  rw[List.length_append] at h3
  have hg:=getD_map (f:=aRows) hk
  simp only[go_sem]
  refine W2 hg hR ?_
  intro _
  refine Wk ?_
  exact⟨_,List.Sublist.refl _,rfl,by rw[h3];simp⟩
 ·rintro vs L - ⟨rfl,rfl⟩
  rw[List.take_length]
  simp only[go_sem]
  refine Wk ?_
  refine(rows_grow _ hf).val.mono ?_
  intro r L hr
  have hI:CatS ls 0 r L:=by
   rcases hr with ⟨h0,rfl,rfl⟩|⟨b,cap,hc,rfl,rfl⟩
   ·exact .inl ⟨List.eq_nil_of_length_eq_zero h0,rfl,rfl⟩
   ·exact .inr ⟨b,cap,_,by simp,rfl,by simp,by simp⟩
  clear hr
  have hfo:fo r=(True,r):=by rcases hI with ⟨_,rfl,_⟩|⟨b,cap,xs,rfl,_⟩ <;> rfl
  simp only[go_sem,hfo]
  refine W1 hfo ?_
  refine AWp.range' ls.length [6] [25,26] (fun k vs L=>∃v,vs=[v]∧CatS ls k v L) (by omega) rfl rfl rfl ⟨_,rfl,hI⟩ ?_ ?_
  ·clear hI
   rintro k vs L hk - ⟨v,rfl,hC⟩
   have h2:=flat_le (ls:=ls) (k+1)
   have hs:=flat_succ hk
   have h3:=congrArg List.length hs
   rw[List.length_append] at h3
   have hg:=getD_map (f:=aRows) hk
   have hll:(ls[k].map aInts).length=ls[k].length:=List.length_map _
   rcases hC with ⟨h0,rfl,rfl⟩|⟨b,cap,xs,rfl,rfl,hx,ht⟩
   ·have he:ls[k].map aInts=[]:=by
     rw[List.flatten_eq_nil_iff.1 h0 _ (List.getElem_mem hk)];rfl
    simp only[go_sem]
    refine W3 hg hR he ?_
    exact⟨_,List.Sublist.refl _,_,rfl,.inl ⟨h0,rfl,rfl⟩⟩
   ·have hy:(ls.take (k+1)).flatten.map aInts=(ls.take k).flatten.map aInts ++ ls[k].map aInts:=by rw[hs,List.map_append]
    unfold CatS
    rw[hy,h3,← ht]
    simp only[go_sem]
    refine W2 hg hR ?_
    intro b' cap' hc
    refine⟨_,List.Sublist.refl _,_,rfl,.inr ⟨b',cap',_,rfl,rfl,?_,?_⟩⟩
    ·rw[List.length_append,List.length_take];omega
    ·rw[List.take_of_length_le (by rw[List.length_append,List.length_take];omega)]
  ·clear hI
   rintro vs L - ⟨v,rfl,hC⟩
   have hfo:fo v=(True,v):=by rcases hC with ⟨_,rfl,_⟩|⟨b,cap,xs,rfl,_⟩ <;> rfl
   simp only[go_sem]
   refine W1 hfo ?_
   refine ret_own ?_
   simp only[go_sem]
   exact hC
noncomputable def lstE (ps:List Pr):Int:=if validF ps=true then (if (cutsF ps).length≤5000 then 0 else 16) else 1
noncomputable def lvOf (ps:List Pr):List (List (List Int)):=if lstE ps=0 then (List.range (nlev ps)).map (levF ps) else []
noncomputable def lstF (ps:List Pr):List (List Int):=if lstE ps=0 then cutsF ps else []
noncomputable def aLst (ps:List Pr):AV:=.tup [aRows (lstF ps),ai (lstE ps)]
theorem lst_zero {ps:List Pr} : lstE ps=0↔validF ps=true∧(cutsF ps).length≤5000:=by
 unfold lstE
 split
 ·split <;> simp_all
 ·simp_all
theorem aLvs_eq (ps:List Pr):aLvs ps = .tup [.sl 1 ((lvOf ps).map aRows),ai (lstE ps)]:=by
 unfold aLvs lvOf lvsF
 by_cases hv:validF ps=true
 ·by_cases h5:(cutsF ps).length≤5000
  ·rw[if_pos hv,if_pos h5,if_pos (lst_zero.2 ⟨hv,h5⟩)]
   unfold lstE
   rw[if_pos hv,if_pos h5,List.map_map];rfl
  ·rw[if_pos hv,if_neg h5,if_neg fun h=>h5 (lst_zero.1 h).2]
   unfold lstE
   rw[if_pos hv,if_neg h5];rfl
 ·rw[if_neg hv,if_neg fun h=>hv (lst_zero.1 h).1]
  unfold lstE
  rw[if_neg hv];rfl
theorem lev_nlev {ps:List Pr} (hv:validF ps=true):levF ps (nlev ps)=[]:=by
 have h1:(levF ps (off ps ps.length+1)).isEmpty=true:=by rw[levF_end hv (by omega)];rfl
 have:nlev ps<off ps ps.length+2:=by
  unfold nlev
  have:=List.findIdx_lt_length_of_exists (p:=fun k=>(levF ps k).isEmpty) (xs:=List.range (off ps ps.length+2)) ⟨off ps ps.length+1,by simp,h1⟩
  rwa [List.length_range] at this
 exact List.isEmpty_iff.1 (range_findIdx (fun k=>(levF ps k).isEmpty) _ this)
theorem nlev_le {ps:List Pr} : nlev ps≤off ps ps.length+2:=by
 have:=List.findIdx_le_length (p:=fun k=>(levF ps k).isEmpty) (xs:=List.range (off ps ps.length+2))
 rwa [List.length_range] at this
theorem cum_nlev {ps:List Pr} (hv:validF ps=true):cumF ps (nlev ps)=cutsF ps:=by
 have h:=cumF_end (lev_nlev hv)
 unfold cutsF
 rcases Nat.lt_or_ge (off ps ps.length+1) (nlev ps) with h1|h1
 ·have h2:=cumF_end (levF_end hv (show off ps ps.length<off ps ps.length+1 by omega)) (nlev ps - (off ps ps.length+1))
  rw[show off ps ps.length+1+(nlev ps - (off ps ps.length+1))=nlev ps by omega] at h2
  exact h2
 ·have:=h (off ps ps.length+1 - nlev ps)
  rw[show nlev ps+(off ps ps.length+1 - nlev ps)=off ps ps.length+1 by omega] at this
  exact this.symm
theorem lv_flat (ps:List Pr):(lvOf ps).flatten=lstF ps:=by
 unfold lvOf lstF
 split
 ·rename_i h
  rw[← cum_nlev (lst_zero.1 h).1]
  unfold cumF
  rw[List.flatMap_def]
 ·rfl
theorem lst_len (ps:List Pr):(lstF ps).length≤5000:=by
 unfold lstF
 split
 ·rename_i h;exact(lst_zero.1 h).2
 ·exact Nat.zero_le _
theorem lv_len {ps:List Pr} (hs:Sm ps):(lvOf ps).length≤10000002:=by
 unfold lvOf
 split
 ·rename_i h
  have:=(valid_len (lst_zero.1 h).1).2
  rw[List.length_map,List.length_range]
  have:=nlev_le (ps:=ps)
  have:=off_small hs ps.length (Nat.le_refl _)
  omega
 ·exact Nat.zero_le _
theorem cuts_levels' (ps:List Pr) (hs:Sm ps):PC Proofs.Tryz.prog 117 [aTr ps] (.tup [.sl 1 ((lvOf ps).map aRows),ai (lstE ps)]):=by
 rw[← aLvs_eq];exact cuts_levels ps hs
theorem Vw.pre {L:AHeap} {b k n c:Nat} {t:TypeId} {xs ys:List AV} {cap:Nat} (h:lk L b=some (.row t k xs cap)) (hn:n≤xs.length) (ht:xs.take n=ys):Vw L (.ls b k 0 n c) (.sl k ys) :=
 .ls h (by omega) (by rw[List.drop_zero,ht]) (by rw[List.drop_zero,ht];exact(Vws.refl ys).2)
theorem cuts_list (ps:List Pr) (hs:Sm ps):PC Proofs.Tryz.prog 72 [aTr ps] (aLst ps):=by
 have h1:=cuts_levels' ps hs
 have hf:(lvOf ps).flatten.length≤1000000:=by rw[lv_flat];have:=lst_len ps;omega
 have h2:=rows_concat (lvOf ps) (by have:=lv_len hs;omega) hf
 have hR:∀x:List (List Int),aRows x = .sl 1 (x.map aInts):=fun _=>rfl
 have hfl:=lv_flat ps
 unfold aLst
 rw[← hfl,hR]
 generalize lvOf ps=ls at *
 generalize lstE ps=e at *
 refine PC.enter 14 [.tmp 2,.tmp 3] [1] Proofs.Tryz.func72 rfl rfl rfl rfl rfl (by simp) (AWp.of ?_);simp only[go_sem]
 refine Wk ?_
 refine Sd ?_
 refine(h1).val.use ?_;simp only[go_sem]
 refine Wk ?_
 refine h2.val.mono ?_
 intro r L hC
 unfold CatS at hC
 rw[List.take_length] at hC
 rcases hC with ⟨h0,rfl,rfl⟩|⟨b,cap,xs,rfl,rfl,hx,ht⟩
 ·simp only[go_sem]
  refine Wk ?_
  refine ret_view [] ?_;simp only[go_sem]
  rw[h0]
  exact .mkTup (Vws.cons (.nil 1) (Vws.refl _))
 ·simp only[go_sem]
  refine Wk ?_
  refine ret_view [true] ?_;simp only[go_sem]
  exact .mkTup (Vws.cons (Vw.pre (if_pos rfl) hx ht) (Vws.refl _))
theorem cuts_List (ps:List Pr) (hs:Sm ps):PC Proofs.Tryz.prog 34 [aTr ps] (aLst ps):=by
 have h1:=cuts_list ps hs
 unfold aLst at *
 refine PC.enter 8 [.tmp 2,.tmp 3] [1] Proofs.Tryz.func34 rfl rfl rfl rfl rfl (by simp) (AWp.of ?_);simp only[go_sem]
 refine Wk ?_
 refine Sd ?_
 refine(h1).val.use ?_;simp only[go_sem]
 refine Wk ?_
 refine ret_eq ?_;simp only[go_sem]
def fullC (ps:List Pr):List Int:=ps.map fun x=>(x.evs.length:Int)
theorem fullC_at {ps:List Pr} {p:Nat} (hp:p<ps.length):cAt (fullC ps) p=ps[p].evs.length:=by
 unfold fullC
 rw[cAt_nat (by rw[List.length_map];exact hp),List.getElem_map]
theorem fullC_is {ps:List Pr} (hv:validF ps=true):isF ps (fullC ps)=true:=by
 have hl:(fullC ps).length=ps.length:=List.length_map _
 refine isF_iff.2 ⟨hl,(inRange_iff hl).2 fun p hp => ?_,closed_iff.2 fun p hp i hi hk _ => ?_⟩
 ·rw[fullC_at hp];omega
 ·obtain⟨s,hs,j,hj,e,_,_⟩:=sndr_some (recv_sndr (valid_parts hv).2.2 hp hi hk)
  rw[e]
  simp only
  rw[fullC_at hs];omega
theorem fullC_sum (ps:List Pr):(fullC ps).sum=off ps ps.length:=by
 unfold fullC off
 rw[List.take_length]
 induction ps with
 | nil=>rfl
 | cons x ps ih=>rw[List.map_cons,List.sum_cons,ih,List.map_cons,List.sum_cons];omega
theorem ref12_Count (ps:List Pr) (hs:Sm ps) (hv:validF ps=true):PC Proofs.Tryz.prog 17 [aTr ps] (ai (off ps ps.length:Nat)):=by
 have h1:=ref12_Valid ps hs
 have h8:=(valid_len hv).2
 have hof:=off_small hs
 rw[hv] at h1
 refine PC.enter 25 [.tmp 2] [1] Proofs.Tryz.func17 rfl rfl rfl rfl rfl (by simp) (AWp.of ?_);simp only[go_sem]
 refine Wk ?_
 refine Sd ?_
 refine(h1).val.use ?_;simp only[go_sem]
 refine Wk ?_
 refine AWp.block (AWp.count 4 ps.length [3] [1] (fun k vs L=>L=[]∧vs=[ai (off ps k:Nat)]) rfl rfl ⟨rfl,rfl⟩ ?_)
 rintro k vs L hk - ⟨rfl,rfl⟩
 simp only[go_sem]
 refine Wk ?_
 refine⟨fun h => ?_,fun h => ?_⟩
 ·have hk2:k<ps.length:=by omega
  have h2:=hof k hk
  have h3:=hs.evs _ (List.getElem_mem hk2)
  have hg:=getD_map (f:=aPr) hk2
  refine W1 hg ?_
  exact⟨_,List.Sublist.refl _,rfl,by rw[off_succ hk2];simp⟩
 ·have:k=ps.length:=by omega
  subst this
  refine Wk ?_
  refine ret_eq ?_;simp only[go_sem]
end Go.AL
end
section
namespace Go.AL
open Go Go.RowKit
def astepF (C:Cfg) (all:List Oper) (o:Oper) (ρ:Env) (L:AHeap) (K:ARes):Prop :=
 match o.guard with
 | none=>aop C o ρ L K
 | some (j,want)=>match gval all ρ j want with
  | some b=>(b=want→aop C o ρ L K)∧(b ≠ want→K (put ρ o.dst .any) L)
  | none=>False
def aregionF (C:Cfg) (all:List Oper):List Oper→Env→AHeap→ARes→Prop
 | [],ρ,L,K=>K ρ L
 | o :: rest,ρ,L,K=>astepF C all o ρ L fun ρ L=>aregionF C all rest ρ L K
def aregFK (C:Cfg) (all rest:List Oper) (K:ARes) (ρ:Env) (L:AHeap):Prop:=aregionF C all rest ρ L K
theorem aregionF_nil (C:Cfg) (all:List Oper) (ρ:Env) (L:AHeap) (K:ARes):aregionF C all [] ρ L K=K ρ L:=rfl
theorem aregionF_cons (C:Cfg) (all rest:List Oper) (o:Oper) (ρ:Env) (L:AHeap) (K:ARes):aregionF C all (o :: rest) ρ L K=astepF C all o ρ L (aregFK C all rest K):=rfl
attribute [go_sem] aregionF_nil aregionF_cons astepF aregFK
end Go.AL
end
section
namespace Go.AL
open Go Go.RowKit
set_option maxRecDepth 4000
def satG (ps:List Pr) (E:Elim) (c:List Int):Bool:=isF ps c && (List.range c.length).all fun p=>E.ok p (cAt c p).toNat
theorem satG_iff {ps:List Pr} {E:Elim} {c:List Int} : satG ps E c=true↔SatD ps E c:=by
 unfold satG
 rw[Bool.and_eq_true,isF_iff,List.all_eq_true]
 constructor
 ·rintro⟨⟨h1,h2,h3⟩,h4⟩
  exact⟨h1,h2,h3,fun p hp=>h4 p (List.mem_range.2 (by omega))⟩
 ·intro h
  exact⟨⟨h.len,h.rng,h.clo⟩,fun p hp=>h.ok p (by have:=List.mem_range.1 hp;rw[h.len] at this;exact this)⟩
section
variable {ps:List Pr} {ts:List Pd}
end
theorem cut_Consistent (ps:List Pr) (hs:Sm ps) (c:List Int):PC Proofs.Tryz.prog 18 [aTr ps,aInts c] (ab (decide (givenF ps [c] []=0))):=by
 have hg:=cut_given ps hs [c] (by simp) [] (by simp)
 generalize givenF ps [c] []=G at *
 refine PC.enter 10 [.tmp 4] [2,7] Proofs.Tryz.func18 rfl rfl rfl rfl rfl (by simp) (AWp.of ?_);simp only[go_sem]
 refine Wk ?_
 refine(PC.view (Vws.cons (.refl _) (Vws.cons (.refl _) (Vws.cons (.nil 1) .nil))) hg (Own.v _) ?_).val
 simp only[go_sem]
 refine Wk ?_
 refine ret_eq ?_;simp only[go_sem]
theorem ref37_Fault (ps:List Pr) (hs:Sm ps) (ts:List Pd) (hz:∀t ∈ ts,szF t≤1000000) (htl:ts.length≤1000000):PC Proofs.Tryz.prog 15 [aTr ps,.sl 6 (ts.map aPd)] (ai (conF ps ts)):=by
 have h1:=ref12_Valid ps hs
 have hl:=hs.procs
 by_cases hv:validF ps=true∧ts.length=ps.length
 ·have hvl:(ts.length:Int)=ps.length:=by omega
  rw[hv.1] at h1
  have hhit:=fun p hp=>conF_hit hv (p:=p) hp
  have hzero:=conF_zero hv
  generalize conF ps ts=C at *
  refine PC.enter 34 [.tmp 4] [2] Proofs.Tryz.func15 rfl rfl rfl rfl rfl (by simp) (AWp.of ?_);simp only[go_sem]
  refine Wk ?_
  refine Sd ?_
  refine(h1).val.use ?_;simp only[go_sem,hvl]
  refine W1 hvl ?_
  refine AWp.block (AWp.count 5 ts.length [] [1,2] (fun p vs L=>L=[]∧∀q (hq:q<ts.length),q<p→lclF ps q 0 ts[q]=0) rfl rfl ⟨rfl,fun q hq h=>by omega⟩ ?_)
  rintro p vs L hp - ⟨rfl,hJ⟩
  simp only[go_sem]
  refine Wk ?_
  refine⟨fun h2 => ?_,fun h2 => ?_⟩
  ·have hpt:p<ts.length:=by omega
   have hgt:=getD_map (f:=aPd) hpt
   have hlf:=ref29_LocalFault ps hs p 0 ts[p] (hz _ (List.getElem_mem hpt))
   have hh:=hhit p hpt hJ
   generalize hE:lclF ps p 0 ts[p]=e at *
   generalize hT:ts[p]=t at *
   obtain⟨k0,n,pp,q,s,l⟩:=t
   simp only[aPd_mk] at *
   refine AWp.seq (AWp.block (AWp.seq ?_))
   repeat(first|(with_reducible refine AWp.seq ?_)|(with_reducible refine AWp.block ?_))
   refine AWp.mix mixed [0,1,2,3,4,5,6,7] .done (by kernel_rfl) ?_;simp only[go_sem,hgt]
   refine Sd ?_
   refine Sd ?_
   refine Gc hlf ?_
   refine Sd ?_
   refine Wk ?_
   refine⟨fun h3 => ?_,fun h3 => ?_⟩
   ·refine Wk ?_
    refine ret_eq ?_;simp only[go_sem]
    rw[hh h3]
   ·refine Wk ?_
    refine⟨_,List.Sublist.refl _,rfl,fun j hj hjp => ?_⟩
    by_cases ej:j=p
    ·subst ej;rw[hT,hE,h3]
    ·exact hJ j hj (by omega)
  ·refine Wk ?_
   refine ret_eq ?_;simp only[go_sem]
   rw[hzero fun q hq=>hJ q hq (by omega)]
 ·rw[conF_bad hv]
  by_cases hv1:validF ps=true
  ·have hvl:¬(ts.length:Int)=ps.length:=fun e=>hv ⟨hv1,by omega⟩
   rw[hv1] at h1
   refine PC.enter 34 [.tmp 4] [2] Proofs.Tryz.func15 rfl rfl rfl rfl rfl (by simp) (AWp.of ?_);simp only[go_sem]
   refine Wk ?_
   refine Sd ?_
   refine(h1).val.use ?_;simp only[go_sem,hvl]
   refine W1 hvl ?_
   refine ret_eq ?_;simp only[go_sem]
  ·rw[show validF ps=false by simpa using hv1] at h1
   refine PC.enter 34 [.tmp 4] [2] Proofs.Tryz.func15 rfl rfl rfl rfl rfl (by simp) (AWp.of ?_);simp only[go_sem]
   refine Wk ?_
   refine Sd ?_
   refine(h1).val.use ?_;simp only[go_sem]
   refine Wk ?_
   refine ret_eq ?_;simp only[go_sem]
def leqF (a b:List Int):Bool:=decide (a.length=b.length) && (List.range a.length).all fun i=>decide (a.getD i 0≤b.getD i 0)
theorem leqF_iff {a b:List Int} : leqF a b=true↔a.length=b.length∧∀i,i<a.length→a.getD i 0≤b.getD i 0:=by
 unfold leqF
 rw[Bool.and_eq_true,List.all_eq_true,decide_eq_true_eq]
 exact⟨fun h=>⟨h.1,fun i hi=>of_decide_eq_true (h.2 i (List.mem_range.2 hi))⟩,fun h=>⟨h.1,fun i hi=>decide_eq_true (h.2 i (List.mem_range.1 hi))⟩⟩
end Go.AL
end
