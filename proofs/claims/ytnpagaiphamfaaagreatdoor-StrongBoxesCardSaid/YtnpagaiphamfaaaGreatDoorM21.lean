/- Texts of this claim's proof: WCs, WV16, WQp, WU7, WU8, WPw3, WV17, WXm, WXs, WV18. No condition. -/
import Derived.Test.YtnpagaiphamfaaaGreatDoorM14
import Derived.Test.YtnpagaiphamfaaaGreatDoorM10
import Derived.Test.YtnpagaiphamfaaaGreatDoorM7
import Derived.Test.YtnpagaiphamfaaaGreatDoorM20
import Derived.Test.YtnpagaiphamfaaaGreatDoorM19
import Derived.Test.YtnpagaiphamfaaaGreatDoorM15
import Derived.Test.YtnpagaiphamfaaaGreatDoorM18
import Derived.Test.YtnpagaiphamfaaaGreatDoorM8
import Derived.Test.YtnpagaiphamfaaaGreatDoorM11
section
namespace Go.AL
open Go Go.RowKit
set_option maxRecDepth 4000
theorem ref22_Fits (ps:List Pr) (hs:Sm ps) (c:List Int):PC Proofs.Tryz.prog 97 [aTr ps,aInts c] (ab (decide (c.length=ps.length))):=by
 have hl:=hs.procs
 refine PC.enter 11 [.tmp 4] [2] Proofs.Tryz.func97 rfl rfl rfl rfl rfl (by simp) (AWp.of ?_);simp only[go_sem]
 refine Wk ?_
 refine ret_eq ?_;simp only[go_sem]
 congr 2
 simp only[decide_eq_decide];omega
theorem ref22_Range (ps:List Pr) (hs:Sm ps) (c:List Int) (hc:c.length=ps.length):PC Proofs.Tryz.prog 98 [aTr ps,aInts c] (ab (inRangeF ps c)):=by
 have hl:=hs.procs
 refine PC.enter 31 [.tmp 4] [2] Proofs.Tryz.func98 rfl rfl rfl rfl rfl (by simp) (AWp.of ?_);simp only[go_sem]
 refine Wk ?_
 refine AWp.block (AWp.count 5 c.length [] [1,2] (fun p vs L=>L=[]∧∀q,q<p→cntOk ps c q=true) rfl rfl ⟨rfl,by omega⟩ ?_)
 rintro p vs L hp - ⟨rfl,hI⟩
 simp only[go_sem]
 refine Wk ?_
 refine⟨fun h2 => ?_,fun h2 => ?_⟩
 ·have hpc:p<c.length:=by omega
  have hpp:p<ps.length:=by omega
  have hco:=cntOk_get hpp hpc
  have hgP:=getD_map (f:=aPr) hpp
  have hgc:=getD_map (f:=ai) hpc
  refine AWp.seq (AWp.block (AWp.seq ?_))
  refine AWp.drawn mixed 19 (by kernel_rfl) ?_;simp only[go_sem,hgP,hgc]
  refine Sd ?_
  refine Wk ?_
  refine⟨fun h3 => ?_,fun h3 => ?_⟩
  ·refine Wk ?_
   refine ret_eq ?_;simp only[go_sem]
   have:inRangeF ps c=false:=by
    unfold inRangeF
    rw[List.all_eq_false]
    refine⟨p,List.mem_range.2 hpc,?_⟩
    rw[hco]
    simp only[Bool.and_eq_true,decide_eq_true_eq]
    omega
   rw[this]
  ·intro h4
   refine Wk ?_
   refine⟨_,List.Sublist.refl _,rfl,fun q hq => ?_⟩
   by_cases e:q=p
   ·subst e;rw[hco];simp only[Bool.and_eq_true,decide_eq_true_eq];omega
   ·exact hI q (by omega)
 ·refine Wk ?_
  refine ret_eq ?_;simp only[go_sem]
  have:inRangeF ps c=true:=by
   unfold inRangeF
   rw[List.all_eq_true]
   exact fun q hq=>hI q (by have:=List.mem_range.1 hq;omega)
  rw[this]
theorem ref22_closed (ps:List Pr) (hs:Sm ps) (hv:validF ps=true) (c:List Int) (hc:c.length=ps.length) (hr:inRangeF ps c=true):PC Proofs.Tryz.prog 99 [aTr ps,aInts c] (ab (closedF ps c)):=by
 obtain⟨hl1,hl8⟩:=valid_len hv
 have hl:=hs.procs
 refine PC.enter 27 [.tmp 4] [2] Proofs.Tryz.func99 rfl rfl rfl rfl rfl (by simp) (AWp.of ?_);simp only[go_sem]
 refine Wk ?_
 refine AWp.block (AWp.count 5 c.length [] [1,2] (fun p vs L=>L=[]∧Ahead ps (fun q j=>badEv ps c (((q:Int),(j:Int)+1),evq ps q j)=false) p 0) rfl rfl ⟨rfl,fun _ _ _ h=>by omega,fun j hj=>by omega⟩ ?_)
 rintro p vs L hp - ⟨rfl,hA⟩
 simp only[go_sem]
 refine Wk ?_
 refine⟨fun h1 => ?_,fun h1 => ?_⟩
 ·have hpc:p<c.length:=by omega
  have hpp:p<ps.length:=by omega
  have hgc:=getD_map (f:=ai) hpc
  have hel:=hs.evs _ (List.getElem_mem hpp)
  obtain⟨hr1,hr2⟩:=inRangeF_get hr hc hpp
  refine Wk ?_
  refine AWp.block (AWp.count 6 c[p].toNat [] [1,2,5] (fun i vs L=>L=[]∧Ahead ps (fun q j=>badEv ps c (((q:Int),(j:Int)+1),evq ps q j)=false) p i) rfl rfl ⟨rfl,hA⟩ ?_)
  rintro i vs L hi - ⟨rfl,hB⟩
  simp only[go_sem]
  refine W1 hgc ?_
  refine⟨fun h2 => ?_,fun h2 => ?_⟩
  ·have hie:i<ps[p].evs.length:=by omega
   have hsn:=ref22_Sent ps hs hv c hc p hpp i hie (by rw[cAt_nat hpc];omega)
   have hev:=evIds_get hpp hie
   have hq0:=evq_get hpp hie
   rw[← hq0] at hsn hev
   refine Wk ?_
   refine Sd ?_
   refine(hsn).val.use ?_;simp only[go_sem]
   cases hb:badEv ps c (((p:Int),(i:Int)+1),evq ps p i) with
   | true =>
    refine Wk ?_
    refine ret_eq ?_;simp only[go_sem]
    unfold closedF
    have:(evIds ps).any (badEv ps c)=true:=List.any_eq_true.2 ⟨_,List.mem_of_getElem? hev,hb⟩
    rw[this];rfl
   | false =>
    refine Wk ?_
    exact⟨_,List.Sublist.refl _,rfl,hB.next hb⟩
  ·refine Wk ?_
   refine⟨_,List.Sublist.refl _,rfl,Ahead.row hpp ⟨hB.1,fun j hj => ?_⟩⟩
   by_cases e:j<i
   ·exact hB.2 j e
   ·simp only[badEv,cAt_nat hpc,decide_eq_false (show ¬(j:Int)+1≤c[p] by omega),Bool.and_false,Bool.false_and]
 ·refine Wk ?_
  refine ret_eq ?_;simp only[go_sem]
  unfold closedF
  have:(evIds ps).any (badEv ps c)=false:=by
   rw[List.any_eq_false]
   intro x hx
   obtain⟨k,hk⟩:=List.getElem?_of_mem hx
   obtain⟨q,hq,j,hj,_,rfl⟩:=evIds_inv hk
   have:=hA.1 q hq j (by omega) hj
   dsimp only at this
   rw[evq_get hq hj] at this
   rw[this];decide
  rw[this];rfl
theorem ref22_Consistent (ps:List Pr) (hs:Sm ps) (hv:validF ps=true) (c:List Int):PC Proofs.Tryz.prog 54 [aTr ps,aInts c] (ab (isF ps c)):=by
 have h0:=ref12_Valid ps hs
 have h1:=ref22_Fits ps hs c
 have h2:=fun h=>ref22_Range ps hs c h
 have h3:=fun h1 h2=>ref22_closed ps hs hv c h1 h2
 rw[hv] at h0
 unfold isF
 generalize closedF ps c=B at *
 refine PC.enter 22 [.tmp 4] [2] Proofs.Tryz.func54 rfl rfl rfl rfl rfl (by simp) (AWp.of ?_);simp only[go_sem]
 refine Wk ?_
 refine Sd ?_
 refine(h0).val.use ?_;simp only[go_sem]
 refine Sd ?_
 refine GCall.use (ab (decide (c.length=ps.length))) (fun _=>⟨At,(h1).val.use ⟨rfl,rfl⟩⟩) ?_;simp only[go_sem]
 refine Sd ?_
 refine GCall.use (ab (inRangeF ps c)) ?_ ?_
 ·intro g;exact⟨At,(h2 (by simpa using g)).val.use ⟨rfl,rfl⟩⟩
 simp only[go_sem]
 refine Sd ?_
 refine GCall.use (ab B) ?_ ?_
 ·intro g;exact⟨At,(h3 (by simpa using g.1) (by simpa using g.2)).val.use ⟨rfl,rfl⟩⟩
 simp only[go_sem]
 refine Wk ?_
 refine ret_eq ?_;simp only[go_sem]
theorem ref37_Satisfies (ps:List Pr) (hs:Sm ps) (ts:List Pd) (hz:∀t ∈ ts,szF t≤1000000) (htl:ts.length≤1000000) (hf:conF ps ts=0) (c:List Int):PC Proofs.Tryz.prog 19 [aTr ps,.sl 6 (ts.map aPd),aInts c] (ab (satG ps (elimOf ps ts) c)):=by
 obtain⟨hv,htn,hlc⟩:=conF_inv hf
 have hps:=hs.procs
 have h1:=ref22_Consistent ps hs hv c
 have hloc:∀p (hp:p<ps.length) (hpt:p<ts.length) k,k≤ps[p].evs.length→PC Proofs.Tryz.prog 55 [aTr ps,ai p,ai (k:Nat),aPd ts[p]] (ab ((elimOf ps ts).ok p k)):=fun p hp hpt k hk=>by
  obtain⟨c1,_,_,_,c5,c6⟩:=lcl_ok (hlc p hpt)
  have h:=ref29_Local ps hs p k hp hk ts[p] (hz _ (List.getElem_mem hpt)) c1 c5 c6
  have hok:(elimOf ps ts).ok p k=lclT ps p ts[p] k:=by show (match ts[p]? with|some t=>lclT ps p t k|none=>true)=_;rw[List.getElem?_eq_getElem hpt]
  rw[hok];exact h
 generalize elimOf ps ts=E at *
 cases h:isF ps c with
 | false =>
  have hsf:satG ps E c=false:=by unfold satG;rw[h];rfl
  rw[h] at h1
  rw[hsf]
  by_cases hl:(c.length:Int)=ps.length
  ·refine PC.enter 38 [.tmp 6] [3] Proofs.Tryz.func19 rfl rfl rfl rfl rfl (by simp) (AWp.of ?_);simp only[go_sem]
   refine W1 hl ?_
   refine Sd ?_
   refine Gc h1 ?_
   refine Sd ?_
   refine Wk ?_
   refine ret_eq ?_;simp only[go_sem]
  ·refine PC.enter 38 [.tmp 6] [3] Proofs.Tryz.func19 rfl rfl rfl rfl rfl (by simp) (AWp.of ?_);simp only[go_sem]
   refine W1 hl ?_
   refine Sd ?_
   refine Gc h1 ?_
   refine Sd ?_
   refine Wk ?_
   refine ret_eq ?_;simp only[go_sem]
 | true =>
  obtain⟨hl,hr,_⟩:=isF_iff.1 h
  have hli:(c.length:Int)=ps.length:=by omega
  have hrr:=(inRange_iff hl).1 hr
  have hno:∀p,p<c.length→E.ok p (cAt c p).toNat=false→satG ps E c=false:=fun p hp he=>by
   unfold satG;rw[h,Bool.true_and]
   exact List.all_eq_false.2 ⟨p,List.mem_range.2 hp,by rw[he];decide⟩
  have hyes:(∀p,p<c.length→E.ok p (cAt c p).toNat=true)→satG ps E c=true:=fun he=>by
   unfold satG;rw[h,Bool.true_and,List.all_eq_true]
   exact fun p hp=>he p (List.mem_range.1 hp)
  rw[h] at h1
  generalize satG ps E c=S at *
  refine PC.enter 38 [.tmp 6] [3] Proofs.Tryz.func19 rfl rfl rfl rfl rfl (by simp) (AWp.of ?_);simp only[go_sem]
  refine W1 hli ?_
  refine Sd ?_
  refine Gc h1 ?_
  refine Sd ?_
  refine Wk ?_
  refine AWp.block (AWp.count 7 c.length [] [1,2,3] (fun k vs L=>L=[]∧∀p,p<k→E.ok p (cAt c p).toNat=true) rfl rfl ⟨rfl,fun p hp=>by omega⟩ ?_)
  rintro k vs L hk - ⟨rfl,hJ⟩
  simp only[go_sem]
  refine Wk ?_
  refine⟨fun h3 => ?_,fun h3 => ?_⟩
  ·have hkc:k<c.length:=by omega
   have hkt:k<ts.length:=by omega
   have hkp:k<ps.length:=by omega
   have gc:=getD_map (f:=ai) hkc
   have gt:=getD_map (f:=aPd) hkt
   have hca:cAt c k=c[k]:=cAt_nat hkc
   have hrk:=hrr k hkp
   rw[hca] at hrk
   have hnk:=hno k hkc
   rw[hca] at hnk
   have hlk:=hloc k hkp hkt c[k].toNat (by omega)
   have hck:((c[k].toNat:Nat):Int)=c[k]:=by omega
   rw[hck] at hlk
   generalize c[k]=z at *
   generalize ts[k]=t at *
   obtain⟨k0,n0,p0,q0,s0,l0⟩:=t
   simp only[aPd_mk] at *
   refine AWp.seq (AWp.block (AWp.seq ?_))
   repeat(first|(with_reducible refine AWp.seq ?_)|(with_reducible refine AWp.block ?_))
   refine AWp.mix mixed [0,1,2,3,4,5,6,7,8,9,10,11] .done (by kernel_rfl) ?_;simp only[go_sem,gc,gt]
   refine Sd ?_
   refine GCall.use (ab (E.ok k z.toNat)) ?_ ?_
   ·intro _;exact⟨At,hlk.val.use ⟨rfl,rfl⟩⟩
   simp only[go_sem]
   refine Sd ?_
   cases he:E.ok k z.toNat with
   | false =>
    refine Wk ?_
    refine ret_eq ?_;simp only[go_sem]
    rw[hnk he]
   | true =>
    refine Wk ?_
    refine⟨_,List.Sublist.refl _,rfl,fun p hp => ?_⟩
    by_cases e:p=k
    ·subst e;rw[hca];exact he
    ·exact hJ p (by omega)
  ·refine Wk ?_
   refine ret_eq ?_;simp only[go_sem]
   rw[hyes fun p hp=>hJ p (by omega)]
noncomputable def avdB (ps:List Pr) (ts:List Pd) (r:List (List Int)):Bool:=isR ps r && r.all fun c => !satG ps (elimOf ps ts) c
theorem ref38_Avoids (ps:List Pr) (hs:Sm ps) (ts:List Pd) (hz:∀t ∈ ts,szF t≤1000000) (htl:ts.length≤1000000) (hf:conF ps ts=0) (r:List (List Int)) (hl:r.length≤1000000) (hx:∀x ∈ r,x.length≤1000000) :
  PC Proofs.Tryz.prog 26 [aTr ps,.sl 6 (ts.map aPd),aRows r] (ab (avdB ps ts r)):=by
 have h1:=ref24_Is ps hs r hl hx
 have h2:=fun c=>ref37_Satisfies ps hs ts hz htl hf c
 have hR:aRows r = .sl 1 (r.map aInts):=rfl
 have hA:avdB ps ts r=(isR ps r && r.all fun c => !satG ps (elimOf ps ts) c):=rfl
 rw[hR] at h1 ⊢
 generalize avdB ps ts r=AB at *
 cases hi:isR ps r with
 | false =>
  rw[hi] at h1 hA
  subst hA
  refine PC.enter 25 [.tmp 6] [3] Proofs.Tryz.func26 rfl rfl rfl rfl rfl (by simp) (AWp.of ?_);simp only[go_sem]
  refine Wk ?_
  refine Sd ?_
  refine(h1).val.use ?_;simp only[go_sem]
  refine Wk ?_
  refine ret_eq ?_;simp only[go_sem]
 | true =>
  rw[hi,Bool.true_and] at hA
  rw[hi] at h1
  refine PC.enter 25 [.tmp 6] [3] Proofs.Tryz.func26 rfl rfl rfl rfl rfl (by simp) (AWp.of ?_);simp only[go_sem]
  refine Wk ?_
  refine Sd ?_
  refine(h1).val.use ?_;simp only[go_sem]
  refine Wk ?_
  refine(AWp.block (AWp.count 7 r.length [] [1,2,3] (fun k vs L=>L=[]∧∀j (hj:j<r.length),j<k→satG ps (elimOf ps ts) r[j]=false) rfl rfl ⟨rfl,fun _ _ h=>by omega⟩ ?_))
  rintro k vs L hkl - ⟨rfl,hI⟩
  simp only[go_sem]
  by_cases hk:k<r.length
  ·have hkk:(k:Int)<r.length:=by omega
   have hg:=getD_map (f:=aInts) hk
   have h3:=h2 r[k]
   have hbad:satG ps (elimOf ps ts) r[k]=true→AB=false:=fun h=>by
    rw[hA,List.all_eq_false]
    exact⟨_,List.getElem_mem hk,by rw[h];decide⟩
   have hI2:satG ps (elimOf ps ts) r[k]=false→∀j (hj:j<r.length),j<k+1→satG ps (elimOf ps ts) r[j]=false:=fun h j hj hjk=>by
    by_cases e:j=k
    ·subst e;exact h
    ·exact hI j hj (by omega)
   clear hI h2
   generalize satG ps (elimOf ps ts) r[k]=SB at *
   generalize r[k]=c at *
   refine W1 hkk ?_
   repeat(first|(with_reducible refine AWp.seq ?_)|(with_reducible refine AWp.block ?_))
   refine AWp.read mixed [0,1,2,3,4,5,6] (by kernel_rfl) ?_;simp only[go_sem,hg,hkk]
   refine Sd ?_
   refine GCall.use (ab SB) (fun _=>⟨At,(h3).val.use ⟨rfl,rfl⟩⟩) ?_;simp only[go_sem]
   refine Sd ?_
   cases SB with
   | true =>
    rw[hbad rfl]
    refine Wk ?_
    refine ret_eq ?_;simp only[go_sem]
   | false =>
    refine Wk ?_
    exact⟨_,List.Sublist.refl _,rfl,hI2 rfl⟩
  ·have hkk:¬(k:Int)<r.length:=by omega
   have:AB=true:=by
    rw[hA,List.all_eq_true]
    intro c hc
    obtain⟨j,hj,rfl⟩:=List.getElem_of_mem hc
    rw[hI j hj (by omega)];rfl
   rw[this]
   refine W1 hkk ?_
   refine ret_eq ?_;simp only[go_sem]
theorem sat_avoid {ps:List Pr} {ts:List Pd} {d:List Int} (h:AvoidC ps (elimOf ps ts).ok d):satG ps (elimOf ps ts) d=false:=by
 cases hs:satG ps (elimOf ps ts) d with
 | false=>rfl
 | true =>
  obtain⟨p,hp,hb⟩:=h
  have:=(satG_iff.1 hs).ok p hp
  rw[hb] at this;cases this
theorem dodge_avd {ps:List Pr} {ts:List Pd} (hv:validF ps=true) {O:List (List Int)} (h:DodgeR ps (elimOf ps ts).ok O):avdB ps ts O=true:=by
 unfold avdB isR
 rw[hv,h.run,Bool.true_and,Bool.true_and,List.all_eq_true]
 intro c hc
 rw[sat_avoid (h.av c hc)];rfl
theorem dodge_row {ps:List Pr} {b:Nat→Nat→Bool} (hv:validF ps=true) {O:List (List Int)} (h:DodgeR ps b O):∀x ∈ O,x.length≤1000000:=fun x hx=>by
 obtain⟨R,rfl,hch,_⟩:=isrun_inv h.run
 have h8:=(valid_len hv).2
 rcases List.mem_cons.1 hx with rfl|hx
 ·unfold zeroC;simp;omega
 ·obtain⟨j,hj,rfl⟩:=List.getElem_of_mem hx
  have:=(isF_iff.1 (chn_iff.1 hch j hj).1).1
  omega
def eachB (ps:List Pr) (l:List Spn3):Bool:=decide (l.length=ps.length) && (List.range l.length).all fun i=>decide ((l.getD i (0,0,0)).1=i)
theorem ref38_Each (ps:List Pr) (hps:ps.length≤1000000) (l:List Spn3) (_hl:l.length≤9223372036854775806):PC Proofs.Tryz.prog 10 [aTr ps,aSps l] (ab (eachB ps l)):=by
 have hR:aSps l = .sl 3 (l.map aSp):=rfl
 have hE:eachB ps l=(decide (l.length=ps.length) && (List.range l.length).all fun i=>decide ((l.getD i (0,0,0)).1=i)):=rfl
 rw[hR]
 generalize eachB ps l=E at *
 by_cases hlp:l.length=ps.length
 ·have hli:(l.length:Int)=ps.length:=by omega
  rw[decide_eq_true hlp,Bool.true_and] at hE
  refine PC.enter 25 [.tmp 4] [2] Proofs.Tryz.func10 rfl rfl rfl rfl rfl (by simp) (AWp.of ?_);simp only[go_sem]
  refine W1 hli ?_
  refine(AWp.block (AWp.count 5 ps.length [] [1] (fun k vs L=>L=[]∧∀j,j<k→(l.getD j (0,0,0)).1=j) rfl rfl ⟨rfl,fun _ h=>by omega⟩ ?_))
  rintro k vs L hkl - ⟨rfl,hI⟩
  simp only[go_sem]
  by_cases hk:k<ps.length
  ·have hkk:(k:Int)<ps.length:=by omega
   have hkl2:k<l.length:=by omega
   have hg:=getD_map (f:=aSp) hkl2
   have hg2:l.getD k (0,0,0)=l[k]:=by rw[List.getD_eq_getElem?_getD,List.getElem?_eq_getElem hkl2,Option.getD_some]
   have ei:aSp l[k] = .agg [ai l[k].1,ai l[k].2.1,ai l[k].2.2]:=rfl
   rw[ei] at hg
   by_cases he:l[k].1=(k:Int)
   ·refine W4 hkk hli hg he ?_
    refine⟨_,List.Sublist.refl _,rfl,fun j hj => ?_⟩
    by_cases e:j=k
    ·subst e;rw[hg2];exact he
    ·exact hI j (by omega)
   ·have:E=false:=by
     rw[hE,List.all_eq_false]
     exact⟨k,List.mem_range.2 hkl2,by rw[hg2,decide_eq_true_eq];exact he⟩
    rw[this]
    refine W4 hkk hli hg he ?_
    refine ret_eq ?_;simp only[go_sem]
  ·have hkk:¬(k:Int)<ps.length:=by omega
   have:E=true:=by
    rw[hE,List.all_eq_true]
    intro j hj
    exact decide_eq_true (hI j (by have:=List.mem_range.1 hj;omega))
   rw[this]
   refine W2 hkk hli ?_
   refine ret_eq ?_;simp only[go_sem]
 ·have hli:¬(l.length:Int)=ps.length:=by omega
  rw[decide_eq_false hlp,Bool.false_and] at hE
  rw[hE]
  refine PC.enter 25 [.tmp 4] [2] Proofs.Tryz.func10 rfl rfl rfl rfl rfl (by simp) (AWp.of ?_);simp only[go_sem]
  refine W1 hli ?_
  refine ret_eq ?_;simp only[go_sem]
def asg12 (e:Ev):Bool:=decide (12<(e.asg.length:Int))
def smW (ps:List Pr):Nat→Int
 | 0=>0
 | k+1=>addW (smW ps k) (nev ps k)
theorem smW_in (ps:List Pr):∀k,-9223372036854775808≤smW ps k∧smW ps k≤9223372036854775807
 | 0=>by show -9223372036854775808≤(0:Int)∧(0:Int)≤9223372036854775807;omega
 | k+1=>by
  show -9223372036854775808≤addW (smW ps k) (nev ps k)∧addW (smW ps k) (nev ps k)≤9223372036854775807
  unfold addW
  rw[IntKind.wrap_i64]
  omega
section
variable {ps:List Pr} (hva:PC Proofs.Tryz.prog 85 [aTr ps] (ab false))
include hva
end
structure Vd (ps:List Pr):Prop where
 val:PC Proofs.Tryz.prog 85 [aTr ps] (ab (validF ps))
 rval:PC Proofs.Tryz.prog 39 [aTr ps] (ab (validF ps))
 sm:validF ps=true→Sm ps
 big:Sm ps∨validF ps=false
mutual
def hugeF:Pd→Int→Int→Int
 | .mk _ _ _ _ _ l,d,c=>hugeL l (d+1) (if 40<d then 1000 else c+1)
def hugeL:List Pd→Int→Int→Int
 | [],_,c=>c
 | x :: r,d,c=>if c≤300 then hugeL r d (hugeF x d c) else c
end
def nm40 (v:ByteArray × Int):Bool:=decide (40<(v.1.size:Int))
def fwP (x:Pr):Bool:=decide (12<(x.vars.length:Int)) || (decide (40<(x.name.size:Int)) || (x.evs.any asg12 || x.vars.any nm40))
def fwQ (ps:List Pr) (m:Int) (k:Nat):Bool:=decide (m<smW ps (k+1)) || fwP (ps.getD k ⟨ByteArray.empty,[],[]⟩)
def fw38 (ps:List Pr) (m:Int):Bool:=!((List.range ps.length).any (fwQ ps m)) && decide (ps.length≤10)
theorem fw38_cases {ps:List Pr} {m:Int} (h:fw38 ps m=true):Sm ps∨(Smh ps∧∃p,p<ps.length∧procF ps p ≠ 0):=by
 unfold fw38 at h
 rw[Bool.and_eq_true,Bool.not_eq_true',List.any_eq_false,decide_eq_true_eq] at h
 obtain⟨h2,h1⟩:=h
 have h3:∀p ∈ ps,p.vars.length≤12∧∀e ∈ p.evs,e.asg.length≤12:=fun p hp=>by
  obtain⟨i,hi,rfl⟩:=List.getElem_of_mem hp
  have:=h2 i (List.mem_range.2 hi)
  unfold fwQ fwP at this
  rw[List.getD_eq_getElem?_getD,List.getElem?_eq_getElem hi,Option.getD_some,Bool.not_eq_true,Bool.or_eq_false_iff,Bool.or_eq_false_iff,Bool.or_eq_false_iff,Bool.or_eq_false_iff,decide_eq_false_iff_not,decide_eq_false_iff_not,List.any_eq_false] at this
  obtain⟨_,a1,_,a2,_⟩:=this
  refine⟨by omega,fun e he => ?_⟩
  have:=a2 e he
  unfold asg12 at this
  simp at this
  omega
 by_cases hb:∃p,∃h:p<ps.length,64<ps[p].evs.length
 ·obtain⟨p,hp,hb⟩:=hb
  exact .inr ⟨⟨by omega,fun p hp=>by have:=(h3 p hp).1;omega⟩,p,hp,procF_evs hp hb⟩
 ·refine .inl ⟨by omega,fun p hp => ?_,fun p hp=>by have:=(h3 p hp).1;omega,fun p hp e he=>by have:=(h3 p hp).2 e he;omega⟩
  obtain⟨i,hi,rfl⟩:=List.getElem_of_mem hp
  apply Classical.byContradiction
  intro h4
  exact hb ⟨i,hi,by omega⟩
theorem vd38 {ps:List Pr} {m:Int} (h:fw38 ps m=true):Vd ps:=by
 rcases fw38_cases h with h|⟨h,hb⟩
 ·exact⟨trace_Valid ps h,ref12_Valid ps h,fun _=>h,.inl h⟩
 ·exact⟨trace_ValidB ps h hb,ref12_ValidB ps h hb,fun hv=>absurd hv (by rw[valid_bad hb];simp),.inr (valid_bad hb)⟩
theorem law38_few1 (e:Ev):PC Proofs.Tryz.prog 29 [aEv e] (ab (asg12 e)):=by
 refine PC.enter 7 [.tmp 2] [1] Proofs.Tryz.func29 rfl rfl rfl rfl rfl (by simp) (AWp.of ?_);simp only[go_sem]
 refine Wk ?_
 refine ret_eq ?_;simp only[go_sem]
 rfl
theorem law38_few2 (v:ByteArray × Int):PC Proofs.Tryz.prog 31 [aVar v] (ab (nm40 v)):=by
 obtain⟨s,z⟩:=v
 have hA:aVar (s,z) = .agg [astr s,ai z]:=rfl
 have hB:nm40 (s,z)=decide (40<(s.size:Int)):=rfl
 rw[hA,hB]
 refine PC.enter 7 [.tmp 2] [1] Proofs.Tryz.func31 rfl rfl rfl rfl rfl (by simp) (AWp.of ?_);simp only[go_sem]
 refine Wk ?_
 refine ret_eq ?_;simp only[go_sem]
theorem law38_few (ps:List Pr) (hpl:ps.length≤9223372036854775807) (hl:∀p ∈ ps,p.evs.length≤9223372036854775807) (m:Int):PC Proofs.Tryz.prog 7 [aTr ps,ai m] (ab (fw38 ps m)):=by
 have hF:fw38 ps m=(!((List.range ps.length).any (fwQ ps m)) && decide (ps.length≤10)):=rfl
 generalize fw38 ps m=F at *
 refine PC.enter 50 [.tmp 4] [2,7] Proofs.Tryz.func7 rfl rfl rfl rfl rfl (by simp) (AWp.of ?_);simp only[go_sem]
 refine Wk ?_
 refine(AWp.range1' ps.length [5] [1,2,9,10] (fun k vs L=>L=[]∧vs=[ai (smW ps k)]∧∀j,j<k→fwQ ps m j=false) (by omega) rfl rfl rfl ⟨rfl,rfl,fun _ h=>by omega⟩ ?_ ?_)
 ·rintro k vs L hk - ⟨rfl,rfl,hI⟩
  have hgp:=getD_map (f:=aPr) hk
  have hQ:fwQ ps m k=(decide (m<smW ps (k+1)) || (decide (12<(ps[k].vars.length:Int)) || (decide (40<(ps[k].name.size:Int)) || (ps[k].evs.any asg12 || ps[k].vars.any nm40)))):=by
   unfold fwQ fwP;rw[List.getD_eq_getElem?_getD,List.getElem?_eq_getElem hk,Option.getD_some]
  have hsw:smW ps (k+1)=addW (smW ps k) ps[k].evs.length:=by rw[← nev_get hk];rfl
  have hin:=smW_in ps k
  have hin2:=smW_in ps (k+1)
  have hel:=hl _ (List.getElem_mem hk)
  have hall:fwQ ps m k=true→F=false:=fun h=>by
   rw[hF,List.any_eq_true.2 ⟨k,List.mem_range.2 hk,h⟩];rfl
  have hI':fwQ ps m k=false→∀j,j<k+1→fwQ ps m j=false:=fun h j hjk=>by
   by_cases e:j=k
   ·subst e;exact h
   ·exact hI j (by omega)
  have hcf:=events_containsFuncB ps[k].evs hel (.v (.func (.func 29) #[] #[])) rfl asg12 fun e _=>(law38_few1 e).val
  have hcv:=fun (h:ps[k].vars.length≤12)=>vars_containsFunc ps[k].vars (by omega) (.v (.func (.func 31) #[] #[])) rfl nm40 fun v _=>(law38_few2 v).val
  clear hI
  generalize ps[k]=x at *
  simp only[go_sem]
  refine Sd ?_
  refine AWp.of ?_;simp only[go_sem,hgp]
  refine Sd ?_
  intros
  refine AWp.seq (AWp.regionW ?_)
  simp only[go_sem]
  rw[← hsw]
  generalize smW ps (k+1)=z' at *
  generalize smW ps k=z at *
  generalize fwQ ps m k=FQ at *
  have hv1:decide (12<(x.vars.length:Int))=false→x.vars.length≤12:=fun h=>by
   have:=of_decide_eq_false h;omega
  generalize x.evs.any asg12=EA at *
  generalize hVA:x.vars.any nm40=VA at *
  refine Wk ?_
  refine Sd ?_
  refine Gc hcf ?_
  refine Sd ?_
  refine GCall.use (ab VA) (fun hg=>⟨At,(hcv (by simp at hg;omega)).val.use ⟨rfl,rfl⟩⟩) ?_
  simp only[go_sem]
  refine Wk ?_
  refine⟨fun h => ?_,fun h1 h2 h3 h4 h5 => ?_⟩
  ·have hx:FQ=true:=by
    rw[hQ]
    simp only[Bool.or_eq_true,decide_eq_true_eq]
    rcases h with (((h|h)|h)|h)|h
    ·exact .inl h
    ·exact .inr (.inl h)
    ·exact .inr (.inr (.inl h))
    ·exact .inr (.inr (.inr (.inl h)))
    ·exact .inr (.inr (.inr (.inr h)))
   rw[hall hx]
   refine Wk ?_
   refine ret_eq ?_;simp only[go_sem]
  ·have hx:FQ=false:=by
    rw[hQ,h4,h5]
    simp
    omega
   refine Wk ?_
   exact⟨_,List.Sublist.refl _,rfl,hI' hx⟩
 ·rintro vs L - ⟨rfl,rfl,hI⟩
  have hall:(List.range ps.length).any (fwQ ps m)=false:=List.any_eq_false.2 fun j hj=>by rw[hI j (List.mem_range.1 hj)];decide
  rw[hF,hall]
  simp only[go_sem]
  refine Wk ?_
  refine ret_eq ?_;simp only[go_sem]
  congr 2
  show decide _=decide _
  rw[decide_eq_decide];omega
mutual
def nodF:Pd→Int→Int→Int
 | .mk _ _ _ _ _ l,m,d=>if 40<d then m else nodL l m d 1
def nodL:List Pd→Int→Int→Int→Int
 | [],_,_,n=>n
 | x :: r,m,d,n=>if m≤n+nodF x (m - n) (d+1) then m else nodL r m d (n+nodF x (m - n) (d+1))
end
def psS:List Pr:=[⟨⟨#[97]⟩,[(⟨#[120]⟩,1)],[⟨1,0,0,0,[(0,0)]⟩]⟩,⟨⟨#[98]⟩,[(⟨#[121]⟩,0)],[⟨1,0,0,0,[(0,1)]⟩]⟩]
def tsS:List Pd:=[oneT 0 ⟨#[120]⟩,oneT 1 ⟨#[121]⟩]
def tsU:List Pd:=[oneT 0 ⟨#[120]⟩,.mk 13 0 0 0 ByteArray.empty []]
theorem psS_valid:validF psS=true:=by
 unfold validF faultF
 rw[if_neg (by decide),show procFirst psS=none from rfl,show evFirst psS=none from rfl,show msgF psS=none from rfl,cycF_rank (fun x=>x.1) (by decide)]
 rfl
theorem psS_sm:Sm psS:=⟨by decide,by decide,by decide,by decide⟩
theorem lclS {p:Int} {t:Pd} (h1:formedB t=true) (h2:allB (resB psS) t=true) (h3:typedB t=true) (h4:fitB psS t=true) (h5:0≤p∧p<2) (h7:¬t.kind≤8) (h8:allB (lclB p) t=true):lclF psS p 0 t=0:=by
 have hc:checkF psS t=0:=by
  unfold checkF
  rw[psS_valid,h1,h2,h3,h4];rfl
 have hn:0≤evN psS p:=by
  unfold evN;split <;> omega
 have hl:(psS.length:Int)=2:=rfl
 unfold lclF
 rw[hc,if_neg (by decide),if_neg (by omega),if_neg h7,h8];rfl
theorem conF_S:conF psS tsS=0:=conF_zero ⟨psS_valid,rfl⟩ fun q hq=>by
 have hq:q<2:=hq
 rcases q with _|_|q
 ·exact lclS rfl rfl rfl rfl (by decide) (show ¬(_:Int)≤8 from by simp [tsS,oneT,Pd.kind]) rfl
 ·exact lclS rfl rfl rfl rfl (by decide) (show ¬(_:Int)≤8 from by simp [tsS,oneT,Pd.kind]) rfl
 ·omega
theorem conF_U:conF psS tsU=0:=conF_zero ⟨psS_valid,rfl⟩ fun q hq=>by
 have hq:q<2:=hq
 rcases q with _|_|q
 ·exact lclS rfl rfl rfl rfl (by decide) (show ¬(_:Int)≤8 from by simp [tsU,oneT,Pd.kind]) rfl
 ·exact lclS rfl rfl rfl rfl (by decide) (show ¬(_:Int)≤8 from by simp [tsU,oneT,Pd.kind]) rfl
 ·omega
theorem none_S:¬ ∃t,TgtS psS (rowsOf psS tsS) t:=fun ⟨t,h1,h2⟩=>by
 have a0:t 0<1:=h1 0 (by decide)
 have a1:t 1<1:=h1 1 (by decide)
 have h3:=h2 1 0 (by decide) (by decide) (by decide)
 have e0:t 0=0:=by omega
 have e1:t 1=0:=by omega
 rw[e0,e1] at h3
 have:bgN psS (fSp (rowsOf psS tsS) 1 0) (fSp (rowsOf psS tsS) 0 0)=false:=by
  show bgN psS (1,1,1) (0,0,0)=false
  decide
 rw[this] at h3;cases h3
theorem least_U:LeastS psS (rowsOf psS tsU) fun _=>0:=by
 refine⟨⟨fun p hp => ?_,fun p q hp hq hpq => ?_⟩,fun _ _ _ _=>Nat.zero_le _⟩
 ·have hp:p<2:=hp
  rcases p with _|_|p
  ·exact Nat.zero_lt_one
  ·exact Nat.zero_lt_one
  ·omega
 ·have hp:p<2:=hp
  rcases p with _|_|p
  ·rfl
  ·rfl
  ·omega
theorem chc_U {a:Nat→Nat} (h:LeastS psS (rowsOf psS tsU) a):chcL 2 (rowsOf psS tsU) a=[(0,0,0),(1,0,1)]:=by
 have h2:=chcL_congr (n:=2) (rows:=rowsOf psS tsU) (a:=a) (b:=fun _=>0) fun p hp=>least_unique h least_U hp
 rw[h2];rfl
theorem law38_is (p:Int) (s:ByteArray):PC Proofs.Tryz.prog 25 [ai p,astr s] (aPd (oneT p s)):=by
 have hP:aPd (oneT p s) = .agg [ai 9,ai 0,ai 0,ai 0,astr ByteArray.empty,.sl 6 [.agg [ai 2,ai 0,ai p,ai 0,astr s,.sl 6 []],.agg [ai 1,ai 1,ai 0,ai 0,astr ByteArray.empty,.sl 6 []]]]:=by
  unfold oneT
  rw[aPd_mk,List.map_cons,List.map_cons,List.map_nil,aPd_mk,aPd_mk];rfl
 rw[hP]
 refine PC.enter 11 [.cell 4 59] [9] Proofs.Tryz.func25 rfl rfl rfl rfl rfl (by simp) (AWp.of ?_);simp only[go_sem]
 intro b4
 refine Wk ?_
 refine ret_view [] ?_;simp only[go_sem]
 refine .mkAgg ?_
 refine Vws.cons (.refl _) (Vws.cons (.refl _) (Vws.cons (.refl _) (Vws.cons (.refl _) (Vws.cons (.refl _) (Vws.cons (Vw.mkSl ?_) .nil)))))
 refine Vws.cons (.mkAgg ?_) (Vws.cons (.mkAgg ?_) .nil)
 ·exact Vws.cons (.refl _) (Vws.cons (.refl _) (Vws.cons (.refl _) (Vws.cons (.refl _) (Vws.cons (.refl _) (Vws.cons (.nil 6) .nil)))))
 ·exact Vws.cons (.refl _) (Vws.cons (.refl _) (Vws.cons (.refl _) (Vws.cons (.refl _) (Vws.cons (.refl _) (Vws.cons (.nil 6) .nil)))))
set_option maxHeartbeats 4000000 in
theorem law38_example:PC Proofs.Tryz.prog 24 [] (aTr psS):=by
 refine PC.enter 17 [.cell 0 24] [2,4,6,9,11,13,15] Proofs.Tryz.func24 rfl rfl rfl rfl rfl (by simp) (AWp.of ?_);simp only[go_sem]
 intro b0
 refine AWp.of ?_
 simp (config:={ maxSteps:=3000000 }) only [go_sem]
 refine Wk ?_
 refine ret_eq ?_
 simp only[go_sem]
 rfl
theorem spans_equal (a b:List Spn3) (ha:a.length≤1000000):PC Proofs.Tryz.prog 27 [aSps a,aSps b] (ab (decide (a=b))):=by
 have haE:∀l:List Spn3,aSps l = .sl 3 (l.map aSp):=fun _=>rfl
 rw[haE,haE]
 refine PC.enter 26 [.tmp 4] [] Proofs.Tryz.func27 rfl rfl rfl rfl rfl (by simp) (AWp.of ?_);simp only[go_sem]
 refine Wk ?_
 refine⟨fun h1 => ?_,fun h1 => ?_⟩
 ·refine Wk ?_
  refine ret_eq ?_;simp only[go_sem]
  congr 2;symm;apply decide_eq_false;rintro rfl;exact h1 rfl
 ·have hab:a.length=b.length:=by omega
  refine Sd ?_
  refine AWp.of ?_;simp only[go_sem]
  refine AWp.range' a.length [] [0,1,12] (fun k vs L=>L=[]∧∀(i:Nat) (hi:i<a.length),i<k→a[i]=b[i]) (by omega) rfl rfl rfl ⟨rfl,by omega⟩ ?_ ?_
  ·rintro k vs L' hk - ⟨rfl,hI⟩
   have hkb:k<b.length:=by omega
   have ga:=getD_map (f:=aSp) hk
   have gb:=getD_map (f:=aSp) hkb
   obtain⟨x1,x2,x3,hx⟩:∃x1 x2 x3,a[k]=(x1,x2,x3):=⟨_,_,_,rfl⟩
   obtain⟨y1,y2,y3,hy⟩:∃y1 y2 y3,b[k]=(y1,y2,y3):=⟨_,_,_,rfl⟩
   rw[hx] at ga
   rw[hy] at gb
   change _=AV.agg [ai x1,ai x2,ai x3] at ga
   change _=AV.agg [ai y1,ai y2,ai y3] at gb
   have hxy:a[k]=b[k]↔(x1=y1∧x2=y2)∧x3=y3:=by rw[hx,hy];exact⟨fun h=>by cases h;exact⟨⟨rfl,rfl⟩,rfl⟩,fun h=>by rw[h.1.1,h.1.2,h.2]⟩
   simp only[go_sem]
   refine Wk ?_
   repeat(first|(with_reducible refine AWp.seq ?_)|(with_reducible refine AWp.block ?_))
   refine AWp.read mixed [0,1,2,3,4,5,6,7,8] (by kernel_rfl) ?_;simp only[go_sem,ga,gb]
   refine Sd ?_
   by_cases he:(x1=y1∧x2=y2)∧x3=y3
   ·have hst:∀(i:Nat) (hi:i<a.length),i<k+1→a[i]=b[i]:=fun i hi hik=>by
     by_cases e:i=k
     ·subst e;exact hxy.2 he
     ·exact hI i hi (by omega)
    obtain⟨⟨rfl,rfl⟩,rfl⟩:=he
    refine Wk ?_
    exact⟨_,List.Sublist.refl _,rfl,hst⟩
   ·have hne:¬a=b:=fun e=>he (hxy.1 (by subst e;rfl))
    rw[decide_eq_false hne]
    have hd:(decide (x1=y1) && (decide (x2=y2) && decide (x3=y3)))=false:=by rw[← Bool.decide_and,← Bool.decide_and];exact decide_eq_false fun h=>he ⟨⟨h.1,h.2.1⟩,h.2.2⟩
    rw[hd]
    refine Wk ?_
    refine ret_eq ?_;simp only[go_sem]
  ·rintro vs L' - ⟨rfl,hI⟩
   simp only[go_sem]
   refine Wk ?_
   refine ret_eq ?_;simp only[go_sem]
   congr 2;symm;apply decide_eq_true
   exact List.ext_getElem hab fun i hi _=>hI i hi hi
theorem law38_awake:PC Proofs.Tryz.prog 6 [] (ab true):=by
 have hzS:∀ts:List Pd,ts=tsS∨ts=tsU→∀t ∈ ts,szF t≤1000000:=fun ts h t ht=>by
  rcases h with rfl|rfl <;> simp only[tsS,tsU,List.mem_cons,List.not_mem_nil,or_false] at ht <;> rcases ht with rfl|rfl <;> decide
 have h1:MCalls Proofs.Tryz.prog 16 [aTr psS,.sl 6 (tsS.map aPd)] [] fun r L=>L=[]∧∃O,(DodgeR psS (elimOf psS tsS).ok O∧O.length≤513)∧r = .tup [aAns ⟨2,false,3,[],[],O,[],0⟩,ai 0] :=
  (strong_Definitely psS psS_sm tsS (hzS _ (.inl rfl)) (by decide)).mono fun r L ⟨e,h⟩=>⟨e,by
   rcases h with ⟨h,_⟩|⟨_,a,ha,_⟩|⟨_,_,O,h1,h2,h3⟩
   ·exact absurd conF_S h
   ·exact absurd ⟨a,ha.1⟩ none_S
   ·exact⟨O,⟨h1,h2⟩,h3⟩⟩
 have h2:MCalls Proofs.Tryz.prog 16 [aTr psS,.sl 6 (tsU.map aPd)] [] fun r L=>L=[]∧r = .tup [aAns ⟨2,true,4,[],[],[],[(0,0,0),(1,0,1)],0⟩,ai 0] :=
  (strong_Definitely psS psS_sm tsU (hzS _ (.inr rfl)) (by decide)).mono fun r L ⟨e,h⟩=>⟨e,by
   rcases h with ⟨h,_⟩|⟨_,a,ha,h3⟩|⟨_,hn,_⟩
   ·exact absurd conF_U h
   ·rw[h3,show psS.length=2 from rfl,chc_U ha];rfl
   ·exact absurd ⟨_,least_U.1⟩ hn⟩
 have h3:∀O,(DodgeR psS (elimOf psS tsS).ok O∧O.length≤513)→PC Proofs.Tryz.prog 26 [aTr psS,.sl 6 (tsS.map aPd),aRows O] (ab true):=fun O ⟨hO,hl⟩=>by
  have:=ref38_Avoids psS psS_sm tsS (hzS _ (.inl rfl)) (by decide) conF_S O (by omega) (dodge_row psS_valid hO)
  rw[dodge_avd psS_valid hO] at this
  exact this
 have h4:=spans_equal [(0,0,0),(1,0,1)] [(0,0,0),(1,0,1)] (by decide)
 rw[decide_eq_true rfl] at h4
 have hx:=law38_example
 have p0:=law38_is 0 ⟨#[120]⟩
 have p1:=law38_is 1 ⟨#[121]⟩
 have hT:aTr psS = .agg [.sl 3 (psS.map aPr)]:=rfl
 have hS:tsS.map aPd=[aPd (oneT 0 ⟨#[120]⟩),aPd (oneT 1 ⟨#[121]⟩)]:=rfl
 have hU:tsU.map aPd=[aPd (oneT 0 ⟨#[120]⟩),.agg [ai 13,ai 0,ai 0,ai 0,astr ByteArray.empty,.sl 6 []]]:=by
  show [aPd (oneT 0 ⟨#[120]⟩),aPd (.mk 13 0 0 0 ByteArray.empty [])]=_
  rw[aPd_mk];rfl
 obtain⟨l0,hk0⟩:∃l,aPd (oneT 0 ⟨#[120]⟩) = .agg [ai 9,ai 0,ai 0,ai 0,astr ByteArray.empty,.sl 6 l]:=⟨_,aPd_mk _ _ _ _ _ _⟩
 obtain⟨l1,hk1⟩:∃l,aPd (oneT 1 ⟨#[121]⟩) = .agg [ai 9,ai 0,ai 0,ai 0,astr ByteArray.empty,.sl 6 l]:=⟨_,aPd_mk _ _ _ _ _ _⟩
 rw[hS,hT] at h1
 rw[hU,hT] at h2
 simp only[hS,hT] at h3
 rw[hT] at hx
 rw[hk0] at p0 h1 h2
 rw[hk1] at p1 h1
 simp only[hk0,hk1] at h3
 clear hS hU hk0 hk1 hT
 generalize psS.map aPr=T at *
 have haA:∀O:List (List Int),aAns ⟨2,false,3,[],[],O,[],0⟩ = .agg [ai 2,ab false,ai 3,.sl 1 [],.sl 1 [],.sl 1 (O.map aInts),.sl 3 [],ai 0]:=fun _=>rfl
 have haB:aAns ⟨2,true,4,[],[],[],[(0,0,0),(1,0,1)],0⟩ = .agg [ai 2,ab true,ai 4,.sl 1 [],.sl 1 [],.sl 1 [],.sl 3 [.agg [ai 0,ai 0,ai 0],.agg [ai 1,ai 0,ai 1]],ai 0]:=rfl
 have haS:aSps [(0,0,0),(1,0,1)] = .sl 3 [.agg [ai 0,ai 0,ai 0],.agg [ai 1,ai 0,ai 1]]:=rfl
 have haR:∀O:List (List Int),aRows O = .sl 1 (O.map aInts):=fun _=>rfl
 simp only[haA] at h1
 rw[haB] at h2
 rw[haS] at h4
 simp only[haR] at h3
 clear haA haB haS haR
 refine PC.enter 53 [.tmp 0] [1,3,9,17,32,50] Proofs.Tryz.func6 rfl rfl rfl rfl rfl (by simp) (AWp.of ?_);simp only[go_sem]
 refine Wk ?_
 refine Sd ?_
 refine(hx).val.use ?_;simp only[go_sem]
 refine Sd ?_
 refine(p0).val.use ?_;simp only[go_sem]
 refine Sd ?_
 refine(p1).val.use ?_;simp only[go_sem]
 refine Wk ?_
 refine h1.val.mono ?_
 rintro r L ⟨rfl,O,hO,rfl⟩
 have h3:=h3 O hO
 generalize O.map aInts=OM at *
 simp only[go_sem]
 intros
 refine Wk ?_
 refine Sd ?_
 refine(hx).val.use ?_;simp only[go_sem]
 refine Sd ?_
 refine(p0).val.use ?_;simp only[go_sem]
 refine Wk ?_
 refine MVal.pass (Lf:=[]) (Li:=[]) (Lr:=[]) (by simp) (Vws.cons (.refl _) (Vws.cons (.mkSl (Vws.cons (.refl _) (Vws.cons (.mkAgg (Vws.cons (.refl _) (Vws.cons (.refl _) (Vws.cons (.refl _) (Vws.cons (.refl _) (Vws.cons (.refl _) (Vws.cons (.nil 6) .nil))))))) .nil))) .nil)) h2.val ?_
 rintro r L1 ⟨rfl,rfl⟩
 refine⟨[],.refl _,?_⟩
 simp only[go_sem]
 intros
 refine Wk ?_
 repeat(first|(with_reducible refine AWp.seq ?_)|(with_reducible refine AWp.block ?_))
 refine AWp.mix mixed [0,1,2,3,4,5,6,7,8,9,10,11,12,13,14,15,16,17,18,19,20,21,22,23,24,25,26,27,28,29,30,31,32] .done (by kernel_rfl) ?_;simp only[go_sem]
 refine Sd ?_
 refine Gc hx ?_
 refine Sd ?_
 refine Gc p0 ?_
 refine Sd ?_
 refine Gc p1 ?_
 refine Sd ?_
 refine Sd ?_
 refine Gc h3 ?_
 refine Sd ?_
 refine Sd ?_
 refine Gc h4 ?_
 refine Sd ?_
 refine Wk ?_
 refine ret_eq ?_;simp only[go_sem]
end Go.AL
end
