/- Texts of this claim's proof: WCs, WV16, WQp, WU7, WU8, WPw3. No condition. -/
import Derived.Test.YtnpagaiphamfaaaGreatDoorM15
import Derived.Test.YtnpagaiphamfaaaGreatDoorM12
import Derived.Test.YtnpagaiphamfaaaGreatDoorM7
import Derived.Test.YtnpagaiphamfaaaGreatDoorM23
import Derived.Test.YtnpagaiphamfaaaGreatDoorM22
import Derived.Test.YtnpagaiphamfaaaGreatDoorM18
import Derived.Test.YtnpagaiphamfaaaGreatDoorM16
import Derived.Test.YtnpagaiphamfaaaGreatDoorM21
import Derived.Test.YtnpagaiphamfaaaGreatDoorM8
section
namespace Go.AL
open Go Go.RowKit
set_option maxRecDepth 4000
theorem ref22_Fits (ps:List Pr) (hs:Sm ps) (c:List Int):PC Proofs.Tryz.prog 97 [aTr ps,aInts c] (ab (decide (c.length=ps.length))):=by
 have hl:=hs.procs
 refine PC.enter 11 [.tmp 4] [2] Proofs.Tryz.func97 rfl rfl rfl rfl rfl (by simp) (AWp.of ?_);simp only[go_sem]
 refine Wk ?_
 refine ret_eq ?_;simp only[go_sem]
 congr 2
 simp only[decide_eq_decide];omega
theorem ref22_Range (ps:List Pr) (hs:Sm ps) (c:List Int) (hc:c.length=ps.length):PC Proofs.Tryz.prog 98 [aTr ps,aInts c] (ab (inRangeF ps c)):=by
 have hl:=hs.procs
 refine PC.enter 31 [.tmp 4] [2] Proofs.Tryz.func98 rfl rfl rfl rfl rfl (by simp) (AWp.of ?_);simp only[go_sem]
 refine Wk ?_
 refine AWp.block (AWp.count 5 c.length [] [1,2] (fun p vs L=>L=[]∧∀q,q<p→cntOk ps c q=true) rfl rfl ⟨rfl,by omega⟩ ?_)
 rintro p vs L hp - ⟨rfl,hI⟩
 simp only[go_sem]
 refine Wk ?_
 refine⟨fun h2 => ?_,fun h2 => ?_⟩
 ·have hpc:p<c.length:=by omega
  have hpp:p<ps.length:=by omega
  have hco:=cntOk_get hpp hpc
  have hgP:=getD_map (f:=aPr) hpp
  have hgc:=getD_map (f:=ai) hpc
  refine AWp.seq (AWp.block (AWp.seq ?_))
  refine AWp.drawn mixed 19 (by kernel_rfl) ?_;simp only[go_sem,hgP,hgc]
  refine Sd ?_
  refine Wk ?_
  refine⟨fun h3 => ?_,fun h3 => ?_⟩
  ·refine Wk ?_
   refine ret_eq ?_;simp only[go_sem]
   have:inRangeF ps c=false:=by
    unfold inRangeF
    rw[List.all_eq_false]
    refine⟨p,List.mem_range.2 hpc,?_⟩
    rw[hco]
    simp only[Bool.and_eq_true,decide_eq_true_eq]
    omega
   rw[this]
  ·intro h4
   refine Wk ?_
   refine⟨_,List.Sublist.refl _,rfl,fun q hq => ?_⟩
   by_cases e:q=p
   ·subst e;rw[hco];simp only[Bool.and_eq_true,decide_eq_true_eq];omega
   ·exact hI q (by omega)
 ·refine Wk ?_
  refine ret_eq ?_;simp only[go_sem]
  have:inRangeF ps c=true:=by
   unfold inRangeF
   rw[List.all_eq_true]
   exact fun q hq=>hI q (by have:=List.mem_range.1 hq;omega)
  rw[this]
theorem ref22_closed (ps:List Pr) (hs:Sm ps) (hv:validF ps=true) (c:List Int) (hc:c.length=ps.length) (hr:inRangeF ps c=true):PC Proofs.Tryz.prog 99 [aTr ps,aInts c] (ab (closedF ps c)):=by
 obtain⟨hl1,hl8⟩:=valid_len hv
 have hl:=hs.procs
 refine PC.enter 27 [.tmp 4] [2] Proofs.Tryz.func99 rfl rfl rfl rfl rfl (by simp) (AWp.of ?_);simp only[go_sem]
 refine Wk ?_
 refine AWp.block (AWp.count 5 c.length [] [1,2] (fun p vs L=>L=[]∧Ahead ps (fun q j=>badEv ps c (((q:Int),(j:Int)+1),evq ps q j)=false) p 0) rfl rfl ⟨rfl,fun _ _ _ h=>by omega,fun j hj=>by omega⟩ ?_)
 rintro p vs L hp - ⟨rfl,hA⟩
 simp only[go_sem]
 refine Wk ?_
 refine⟨fun h1 => ?_,fun h1 => ?_⟩
 ·have hpc:p<c.length:=by omega
  have hpp:p<ps.length:=by omega
  have hgc:=getD_map (f:=ai) hpc
  have hel:=hs.evs _ (List.getElem_mem hpp)
  obtain⟨hr1,hr2⟩:=inRangeF_get hr hc hpp
  refine Wk ?_
  refine AWp.block (AWp.count 6 c[p].toNat [] [1,2,5] (fun i vs L=>L=[]∧Ahead ps (fun q j=>badEv ps c (((q:Int),(j:Int)+1),evq ps q j)=false) p i) rfl rfl ⟨rfl,hA⟩ ?_)
  rintro i vs L hi - ⟨rfl,hB⟩
  simp only[go_sem]
  refine W1 hgc ?_
  refine⟨fun h2 => ?_,fun h2 => ?_⟩
  ·have hie:i<ps[p].evs.length:=by omega
   have hsn:=ref22_Sent ps hs hv c hc p hpp i hie (by rw[cAt_nat hpc];omega)
   have hev:=evIds_get hpp hie
   have hq0:=evq_get hpp hie
   rw[← hq0] at hsn hev
   refine Wk ?_
   refine Sd ?_
   refine(hsn).val.use ?_;simp only[go_sem]
   cases hb:badEv ps c (((p:Int),(i:Int)+1),evq ps p i) with
   | true =>
    refine Wk ?_
    refine ret_eq ?_;simp only[go_sem]
    unfold closedF
    have:(evIds ps).any (badEv ps c)=true:=List.any_eq_true.2 ⟨_,List.mem_of_getElem? hev,hb⟩
    rw[this];rfl
   | false =>
    refine Wk ?_
    exact⟨_,List.Sublist.refl _,rfl,hB.next hb⟩
  ·refine Wk ?_
   refine⟨_,List.Sublist.refl _,rfl,Ahead.row hpp ⟨hB.1,fun j hj => ?_⟩⟩
   by_cases e:j<i
   ·exact hB.2 j e
   ·simp only[badEv,cAt_nat hpc,decide_eq_false (show ¬(j:Int)+1≤c[p] by omega),Bool.and_false,Bool.false_and]
 ·refine Wk ?_
  refine ret_eq ?_;simp only[go_sem]
  unfold closedF
  have:(evIds ps).any (badEv ps c)=false:=by
   rw[List.any_eq_false]
   intro x hx
   obtain⟨k,hk⟩:=List.getElem?_of_mem hx
   obtain⟨q,hq,j,hj,_,rfl⟩:=evIds_inv hk
   have:=hA.1 q hq j (by omega) hj
   dsimp only at this
   rw[evq_get hq hj] at this
   rw[this];decide
  rw[this];rfl
theorem ref22_Consistent (ps:List Pr) (hs:Sm ps) (hv:validF ps=true) (c:List Int):PC Proofs.Tryz.prog 54 [aTr ps,aInts c] (ab (isF ps c)):=by
 have h0:=ref12_Valid ps hs
 have h1:=ref22_Fits ps hs c
 have h2:=fun h=>ref22_Range ps hs c h
 have h3:=fun h1 h2=>ref22_closed ps hs hv c h1 h2
 rw[hv] at h0
 unfold isF
 generalize closedF ps c=B at *
 refine PC.enter 22 [.tmp 4] [2] Proofs.Tryz.func54 rfl rfl rfl rfl rfl (by simp) (AWp.of ?_);simp only[go_sem]
 refine Wk ?_
 refine Sd ?_
 refine(h0).val.use ?_;simp only[go_sem]
 refine Sd ?_
 refine GCall.use (ab (decide (c.length=ps.length))) (fun _=>⟨At,(h1).val.use ⟨rfl,rfl⟩⟩) ?_;simp only[go_sem]
 refine Sd ?_
 refine GCall.use (ab (inRangeF ps c)) ?_ ?_
 ·intro g;exact⟨At,(h2 (by simpa using g)).val.use ⟨rfl,rfl⟩⟩
 simp only[go_sem]
 refine Sd ?_
 refine GCall.use (ab B) ?_ ?_
 ·intro g;exact⟨At,(h3 (by simpa using g.1) (by simpa using g.2)).val.use ⟨rfl,rfl⟩⟩
 simp only[go_sem]
 refine Wk ?_
 refine ret_eq ?_;simp only[go_sem]
theorem ref37_Satisfies (ps:List Pr) (hs:Sm ps) (ts:List Pd) (hz:∀t ∈ ts,szF t≤1000000) (htl:ts.length≤1000000) (hf:conF ps ts=0) (c:List Int):PC Proofs.Tryz.prog 19 [aTr ps,.sl 6 (ts.map aPd),aInts c] (ab (satG ps (elimOf ps ts) c)):=by
 obtain⟨hv,htn,hlc⟩:=conF_inv hf
 have hps:=hs.procs
 have h1:=ref22_Consistent ps hs hv c
 have hloc:∀p (hp:p<ps.length) (hpt:p<ts.length) k,k≤ps[p].evs.length→PC Proofs.Tryz.prog 55 [aTr ps,ai p,ai (k:Nat),aPd ts[p]] (ab ((elimOf ps ts).ok p k)):=fun p hp hpt k hk=>by
  obtain⟨c1,_,_,_,c5,c6⟩:=lcl_ok (hlc p hpt)
  have h:=ref29_Local ps hs p k hp hk ts[p] (hz _ (List.getElem_mem hpt)) c1 c5 c6
  have hok:(elimOf ps ts).ok p k=lclT ps p ts[p] k:=by show (match ts[p]? with|some t=>lclT ps p t k|none=>true)=_;rw[List.getElem?_eq_getElem hpt]
  rw[hok];exact h
 generalize elimOf ps ts=E at *
 cases h:isF ps c with
 | false =>
  have hsf:satG ps E c=false:=by unfold satG;rw[h];rfl
  rw[h] at h1
  rw[hsf]
  by_cases hl:(c.length:Int)=ps.length
  ·refine PC.enter 38 [.tmp 6] [3] Proofs.Tryz.func19 rfl rfl rfl rfl rfl (by simp) (AWp.of ?_);simp only[go_sem]
   refine W1 hl ?_
   refine Sd ?_
   refine Gc h1 ?_
   refine Sd ?_
   refine Wk ?_
   refine ret_eq ?_;simp only[go_sem]
  ·refine PC.enter 38 [.tmp 6] [3] Proofs.Tryz.func19 rfl rfl rfl rfl rfl (by simp) (AWp.of ?_);simp only[go_sem]
   refine W1 hl ?_
   refine Sd ?_
   refine Gc h1 ?_
   refine Sd ?_
   refine Wk ?_
   refine ret_eq ?_;simp only[go_sem]
 | true =>
  obtain⟨hl,hr,_⟩:=isF_iff.1 h
  have hli:(c.length:Int)=ps.length:=by omega
  have hrr:=(inRange_iff hl).1 hr
  have hno:∀p,p<c.length→E.ok p (cAt c p).toNat=false→satG ps E c=false:=fun p hp he=>by
   unfold satG;rw[h,Bool.true_and]
   exact List.all_eq_false.2 ⟨p,List.mem_range.2 hp,by rw[he];decide⟩
  have hyes:(∀p,p<c.length→E.ok p (cAt c p).toNat=true)→satG ps E c=true:=fun he=>by
   unfold satG;rw[h,Bool.true_and,List.all_eq_true]
   exact fun p hp=>he p (List.mem_range.1 hp)
  rw[h] at h1
  generalize satG ps E c=S at *
  refine PC.enter 38 [.tmp 6] [3] Proofs.Tryz.func19 rfl rfl rfl rfl rfl (by simp) (AWp.of ?_);simp only[go_sem]
  refine W1 hli ?_
  refine Sd ?_
  refine Gc h1 ?_
  refine Sd ?_
  refine Wk ?_
  refine AWp.block (AWp.count 7 c.length [] [1,2,3] (fun k vs L=>L=[]∧∀p,p<k→E.ok p (cAt c p).toNat=true) rfl rfl ⟨rfl,fun p hp=>by omega⟩ ?_)
  rintro k vs L hk - ⟨rfl,hJ⟩
  simp only[go_sem]
  refine Wk ?_
  refine⟨fun h3 => ?_,fun h3 => ?_⟩
  ·have hkc:k<c.length:=by omega
   have hkt:k<ts.length:=by omega
   have hkp:k<ps.length:=by omega
   have gc:=getD_map (f:=ai) hkc
   have gt:=getD_map (f:=aPd) hkt
   have hca:cAt c k=c[k]:=cAt_nat hkc
   have hrk:=hrr k hkp
   rw[hca] at hrk
   have hnk:=hno k hkc
   rw[hca] at hnk
   have hlk:=hloc k hkp hkt c[k].toNat (by omega)
   have hck:((c[k].toNat:Nat):Int)=c[k]:=by omega
   rw[hck] at hlk
   generalize c[k]=z at *
   generalize ts[k]=t at *
   obtain⟨k0,n0,p0,q0,s0,l0⟩:=t
   simp only[aPd_mk] at *
   refine AWp.seq (AWp.block (AWp.seq ?_))
   repeat(first|(with_reducible refine AWp.seq ?_)|(with_reducible refine AWp.block ?_))
   refine AWp.mix mixed [0,1,2,3,4,5,6,7,8,9,10,11] .done (by kernel_rfl) ?_;simp only[go_sem,gc,gt]
   refine Sd ?_
   refine GCall.use (ab (E.ok k z.toNat)) ?_ ?_
   ·intro _;exact⟨At,hlk.val.use ⟨rfl,rfl⟩⟩
   simp only[go_sem]
   refine Sd ?_
   cases he:E.ok k z.toNat with
   | false =>
    refine Wk ?_
    refine ret_eq ?_;simp only[go_sem]
    rw[hnk he]
   | true =>
    refine Wk ?_
    refine⟨_,List.Sublist.refl _,rfl,fun p hp => ?_⟩
    by_cases e:p=k
    ·subst e;rw[hca];exact he
    ·exact hJ p (by omega)
  ·refine Wk ?_
   refine ret_eq ?_;simp only[go_sem]
   rw[hyes fun p hp=>hJ p (by omega)]
noncomputable def avdB (ps:List Pr) (ts:List Pd) (r:List (List Int)):Bool:=isR ps r && r.all fun c => !satG ps (elimOf ps ts) c
theorem ref38_Avoids (ps:List Pr) (hs:Sm ps) (ts:List Pd) (hz:∀t ∈ ts,szF t≤1000000) (htl:ts.length≤1000000) (hf:conF ps ts=0) (r:List (List Int)) (hl:r.length≤1000000) (hx:∀x ∈ r,x.length≤1000000) :
  PC Proofs.Tryz.prog 26 [aTr ps,.sl 6 (ts.map aPd),aRows r] (ab (avdB ps ts r)):=by
 have h1:=ref24_Is ps hs r hl hx
 have h2:=fun c=>ref37_Satisfies ps hs ts hz htl hf c
 have hR:aRows r = .sl 1 (r.map aInts):=rfl
 have hA:avdB ps ts r=(isR ps r && r.all fun c => !satG ps (elimOf ps ts) c):=rfl
 rw[hR] at h1 ⊢
 generalize avdB ps ts r=AB at *
 cases hi:isR ps r with
 | false =>
  rw[hi] at h1 hA
  subst hA
  refine PC.enter 25 [.tmp 6] [3] Proofs.Tryz.func26 rfl rfl rfl rfl rfl (by simp) (AWp.of ?_);simp only[go_sem]
  refine Wk ?_
  refine Sd ?_
  refine(h1).val.use ?_;simp only[go_sem]
  refine Wk ?_
  refine ret_eq ?_;simp only[go_sem]
 | true =>
  rw[hi,Bool.true_and] at hA
  rw[hi] at h1
  refine PC.enter 25 [.tmp 6] [3] Proofs.Tryz.func26 rfl rfl rfl rfl rfl (by simp) (AWp.of ?_);simp only[go_sem]
  refine Wk ?_
  refine Sd ?_
  refine(h1).val.use ?_;simp only[go_sem]
  refine Wk ?_
  refine(AWp.block (AWp.count 7 r.length [] [1,2,3] (fun k vs L=>L=[]∧∀j (hj:j<r.length),j<k→satG ps (elimOf ps ts) r[j]=false) rfl rfl ⟨rfl,fun _ _ h=>by omega⟩ ?_))
  rintro k vs L hkl - ⟨rfl,hI⟩
  simp only[go_sem]
  by_cases hk:k<r.length
  ·have hkk:(k:Int)<r.length:=by omega
   have hg:=getD_map (f:=aInts) hk
   have h3:=h2 r[k]
   have hbad:satG ps (elimOf ps ts) r[k]=true→AB=false:=fun h=>by
    rw[hA,List.all_eq_false]
    exact⟨_,List.getElem_mem hk,by rw[h];decide⟩
   have hI2:satG ps (elimOf ps ts) r[k]=false→∀j (hj:j<r.length),j<k+1→satG ps (elimOf ps ts) r[j]=false:=fun h j hj hjk=>by
    by_cases e:j=k
    ·subst e;exact h
    ·exact hI j hj (by omega)
   clear hI h2
   generalize satG ps (elimOf ps ts) r[k]=SB at *
   generalize r[k]=c at *
   refine W1 hkk ?_
   repeat(first|(with_reducible refine AWp.seq ?_)|(with_reducible refine AWp.block ?_))
   refine AWp.read mixed [0,1,2,3,4,5,6] (by kernel_rfl) ?_;simp only[go_sem,hg,hkk]
   refine Sd ?_
   refine GCall.use (ab SB) (fun _=>⟨At,(h3).val.use ⟨rfl,rfl⟩⟩) ?_;simp only[go_sem]
   refine Sd ?_
   cases SB with
   | true =>
    rw[hbad rfl]
    refine Wk ?_
    refine ret_eq ?_;simp only[go_sem]
   | false =>
    refine Wk ?_
    exact⟨_,List.Sublist.refl _,rfl,hI2 rfl⟩
  ·have hkk:¬(k:Int)<r.length:=by omega
   have:AB=true:=by
    rw[hA,List.all_eq_true]
    intro c hc
    obtain⟨j,hj,rfl⟩:=List.getElem_of_mem hc
    rw[hI j hj (by omega)];rfl
   rw[this]
   refine W1 hkk ?_
   refine ret_eq ?_;simp only[go_sem]
theorem sat_avoid {ps:List Pr} {ts:List Pd} {d:List Int} (h:AvoidC ps (elimOf ps ts).ok d):satG ps (elimOf ps ts) d=false:=by
 cases hs:satG ps (elimOf ps ts) d with
 | false=>rfl
 | true =>
  obtain⟨p,hp,hb⟩:=h
  have:=(satG_iff.1 hs).ok p hp
  rw[hb] at this;cases this
theorem dodge_avd {ps:List Pr} {ts:List Pd} (hv:validF ps=true) {O:List (List Int)} (h:DodgeR ps (elimOf ps ts).ok O):avdB ps ts O=true:=by
 unfold avdB isR
 rw[hv,h.run,Bool.true_and,Bool.true_and,List.all_eq_true]
 intro c hc
 rw[sat_avoid (h.av c hc)];rfl
theorem dodge_row {ps:List Pr} {b:Nat→Nat→Bool} (hv:validF ps=true) {O:List (List Int)} (h:DodgeR ps b O):∀x ∈ O,x.length≤1000000:=fun x hx=>by
 obtain⟨R,rfl,hch,_⟩:=isrun_inv h.run
 have h8:=(valid_len hv).2
 rcases List.mem_cons.1 hx with rfl|hx
 ·unfold zeroC;simp;omega
 ·obtain⟨j,hj,rfl⟩:=List.getElem_of_mem hx
  have:=(isF_iff.1 (chn_iff.1 hch j hj).1).1
  omega
def bareB (a:Ans) (k:Int):Bool:=decide (a.mode=2) && (decide (a.kind=k) && (decide (a.cut=[]) && (decide (a.cuts=[]) && (decide (a.value=0) && ((decide (k=3) || decide (a.run=[])) && (decide (k=4) || decide (a.spans=[])))))))
def eachB (ps:List Pr) (l:List Spn3):Bool:=decide (l.length=ps.length) && (List.range l.length).all fun i=>decide ((l.getD i (0,0,0)).1=i)
theorem ret_viewK {P:Program} {rs:List ResultVar} {K:AV→AHeap→Prop} {ρ:Env} {L:AHeap} (m:List Bool) (r:AV) (hK:K r []) (h:retV P rs m r ρ L):retK P rs K ρ L:=by
 unfold retK;unfold retV at h
 split at h
 ·rename_i e;(try rw[e]);exact⟨h.1,m,r,[],h.2,.none _,hK⟩
 ·exact h.elim
def badB (l:List (List Int)) (c:List Int):Bool:=decide (c ∈ l)
noncomputable def avE (ps:List Pr) (l:List (List Int)):Int:=if validF ps=true then (if 5000<l.length then 5 else if (l.any fun c => !isF ps c)=true then 18 else lstE ps) else 1
theorem run_avoiding1 (ps:List Pr) (hs:Sm ps) (hv:validF ps=true) (c:List Int):PC Proofs.Tryz.prog 103 [aInts c,.rp 1 [aTr ps] 0 0] (ab (!isF ps c)):=by
 have h1:=cut_Consistent ps hs c
 have hgi:=isF_given hv (c:=c)
 have hde:decide (givenF ps [c] []=0)=isF ps c:=by
  cases h:isF ps c with
  | true=>exact decide_eq_true (hgi.2 h)
  | false=>exact decide_eq_false fun e=>by rw[hgi.1 e] at h;cases h
 rw[hde] at h1
 refine PC.enter 8 [.tmp 3] [] Proofs.Tryz.func103 rfl rfl rfl rfl rfl (by simp) (AWp.of ?_);simp only[go_sem]
 refine Wk ?_
 refine Sd ?_
 refine(h1).val.use ?_;simp only[go_sem]
 refine Wk ?_
 refine ret_eq ?_;simp only[go_sem]
theorem run_avoidBad (ps:List Pr) (hs:Sm ps) (l:List (List Int)) (h:avE ps l ≠ 0):PC Proofs.Tryz.prog 58 [aTr ps,aRows l] (.tup [.v (.map none),ai (avE ps l)]):=by
 have hva:=trace_Valid ps hs
 have hLi:=cuts_List ps hs
 have haR:∀x:List (List Int),aRows x = .sl 1 (x.map aInts):=fun _=>rfl
 unfold aLst at hLi
 have hE:avE ps l=if validF ps=true then (if 5000<l.length then 5 else if (l.any fun c => !isF ps c)=true then 18 else lstE ps) else 1:=rfl
 generalize avE ps l=e at *
 cases hv:validF ps with
 | false =>
  rw[hv] at hva hE
  rw[if_neg (by decide)] at hE
  subst hE
  refine PC.enter 100 [.tmp 4,.tmp 5] [2] Proofs.Tryz.func58 rfl rfl rfl rfl rfl (by simp) (AWp.of ?_);simp only[go_sem]
  refine Wk ?_
  refine Sd ?_
  refine(hva).val.use ?_;simp only[go_sem]
  refine Wk ?_
  refine ret_eq ?_;simp only[go_sem]
 | true =>
  rw[hv] at hva hE
  rw[if_pos rfl] at hE
  by_cases h5:5000<l.length
  ·have h5i:(5000:Int)<(l.length:Int):=by omega
   rw[if_pos h5] at hE
   subst hE
   rw[haR]
   refine PC.enter 100 [.tmp 4,.tmp 5] [2] Proofs.Tryz.func58 rfl rfl rfl rfl rfl (by simp) (AWp.of ?_);simp only[go_sem]
   refine Wk ?_
   refine Sd ?_
   refine(hva).val.use ?_;simp only[go_sem]
   repeat(first|((with_reducible refine AWp.ofC ?_ ?_);exact rfl;simp only[go_sem,h5i])|((with_reducible refine an ?_ ?_);exact Au))
   refine ret_eq ?_;simp only[go_sem]
  ·have h5i:¬(5000:Int)<(l.length:Int):=by omega
   rw[if_neg h5] at hE
   have hcf:=rows_containsFunc l (by omega) (.clo 103 [.rp 1 [aTr ps] 0 0]) rfl (fun c => !isF ps c) fun c _=>(run_avoiding1 ps hs hv c).clo
   cases hb:(l.any fun c => !isF ps c) with
   | true =>
    rw[hb] at hcf hE
    rw[if_pos rfl] at hE
    subst hE
    rw[haR] at *
    refine PC.enter 100 [.tmp 4,.tmp 5] [2] Proofs.Tryz.func58 rfl rfl rfl rfl rfl (by simp) (AWp.of ?_);simp only[go_sem]
    refine Wk ?_
    refine Sd ?_
    refine(hva).val.use ?_;simp only[go_sem]
    repeat(first|((with_reducible refine AWp.ofC ?_ ?_);exact rfl;simp only[go_sem,h5i])|((with_reducible refine an ?_ ?_);exact Au))
    refine Sd ?_
    refine(hcf).val.use ?_;simp only[go_sem]
    refine Wk ?_
    refine ret_eq ?_;simp only[go_sem]
   | false =>
    rw[hb] at hcf hE
    rw[if_neg (by decide)] at hE
    subst hE
    rw[haR] at *
    generalize lstE ps=e at *
    refine PC.enter 100 [.tmp 4,.tmp 5] [2] Proofs.Tryz.func58 rfl rfl rfl rfl rfl (by simp) (AWp.of ?_);simp only[go_sem]
    refine Wk ?_
    refine Sd ?_
    refine(hva).val.use ?_;simp only[go_sem]
    repeat(first|((with_reducible refine AWp.ofC ?_ ?_);exact rfl;simp only[go_sem,h5i])|((with_reducible refine an ?_ ?_);exact Au))
    refine Sd ?_
    refine(hcf).val.use ?_;simp only[go_sem]
    refine Wk ?_
    refine Sd ?_
    refine(hLi).val.use ?_;simp only[go_sem]
    refine W1 h ?_
    refine ret_eq ?_;simp only[go_sem]
def AvdK (ps:List Pr) (l:List (List Int)) (r:AV) (L:AHeap):Prop:=L=[]∧∃ks vs,∃g:ByteArray→Bool,r = .tup [.rm ks vs,ai 0]∧MpS ks vs (ab false) (fun s=>ab (g s))∧∀c,isF ps c=true→g (keyS c)=opnV ps (badB l) c
theorem MpS.putB {ks:List Value} {vs:List AV} {z:AV} {g:ByteArray→Bool} (h:MpS ks vs z fun s=>ab (g s)) (s:ByteArray) (x:Bool) :
  ∃ks' vs',mput (.string s) (ab x) ks vs = .amap ks' vs'∧MpS ks' vs' z fun t=>ab (if t=s then x else g t):=by
 obtain⟨ks',vs',h1,h2⟩:=h.put s (ab x)
 refine⟨ks',vs',h1,?_⟩
 have:(fun t=>if t=s then ab x else ab (g t))=fun t=>ab (if t=s then x else g t):=funext fun t=>by split <;> rfl
 rw[← this];exact h2
set_option maxHeartbeats 2000000 in
theorem run_avoidingG (ps:List Pr) (hs:Sm ps) (l:List (List Int)) (h:avE ps l=0):MCalls Proofs.Tryz.prog 58 [aTr ps,aRows l] [] (AvdK ps l):=by
 have hva:=trace_Valid ps hs
 have hLi:=cuts_List ps hs
 have haR:∀x:List (List Int),aRows x = .sl 1 (x.map aInts):=fun _=>rfl
 unfold aLst at hLi
 have hE:avE ps l=if validF ps=true then (if 5000<l.length then 5 else if (l.any fun c => !isF ps c)=true then 18 else lstE ps) else 1:=rfl
 rw[h] at hE
 cases hv:validF ps with
 | false=>rw[hv,if_neg (by decide)] at hE;cases hE
 | true =>
  rw[hv] at hva hE
  rw[if_pos rfl] at hE
  by_cases h5:5000<l.length
  ·rw[if_pos h5] at hE;cases hE
  ·have h5i:¬(5000:Int)<(l.length:Int):=by omega
   rw[if_neg h5] at hE
   have hcf:=rows_containsFunc l (by omega) (.clo 103 [.rp 1 [aTr ps] 0 0]) rfl (fun c => !isF ps c) fun c _=>(run_avoiding1 ps hs hv c).clo
   cases hb:(l.any fun c => !isF ps c) with
   | true=>rw[hb,if_pos rfl] at hE;cases hE
   | false =>
    rw[hb] at hcf hE
    rw[if_neg (by decide)] at hE
    have hlF:∀c ∈ l,isF ps c=true:=fun c hc=>by
     have:=List.any_eq_false.1 hb c hc
     simpa using this
    have hE0:lstE ps=0:=hE.symm
    have hm5:=(lst_zero.1 hE0).2
    have hlFF:lstF ps=cutsF ps:=by unfold lstF;rw[if_pos hE0]
    rw[hlFF,hE0] at hLi
    have hop:=run_open ps hs hv
    have hmay:=run_may ps hs hv
    have hl8:=(valid_len hv).2
    have hm:∀c,c ∈ cutsF ps↔isF ps c=true:=fun c=>mem_cutsF hv
    have hl0:=lst_len0 hv (l:=cutsF ps) rfl
    have hlast:=lst_last hv (l:=cutsF ps) rfl
    have hstep:=fun (i:Nat) (hi:i<(cutsF ps).length) p hp=>idx_step hv (l:=cutsF ps) rfl hi (p:=p) hp
    have hord:=cuts_ord hv
    clear hlFF
    generalize cutsF ps=m at *
    obtain⟨r,hr⟩:∃r,r=aRs ps:=⟨_,rfl⟩
    have hrf:fo r=(True,r):=by rw[hr];rfl
    rw[← hr] at hop hmay
    clear hr
    rw[haR] at *
    refine MCalls.enter' 100 [.tmp 4,.tmp 5] [2] Proofs.Tryz.func58 rfl rfl rfl rfl rfl (by simp) (AWp.of ?_);simp only[go_sem]
    refine Wk ?_
    refine Sd ?_
    refine(hva).val.use ?_;simp only[go_sem]
    repeat(first|((with_reducible refine AWp.ofC ?_ ?_);exact rfl;simp only[go_sem,h5i])|((with_reducible refine an ?_ ?_);exact Au))
    refine Sd ?_
    refine(hcf).val.use ?_;simp only[go_sem]
    refine Wk ?_
    refine Sd ?_
    refine(hLi).val.use ?_;simp only[go_sem]
    refine Wk ?_
    refine Sd ?_
    refine(hop).val.use ?_;simp only[go_sem,hrf]
    refine W1 hrf ?_
    intro b39 b40 g40
    have n1:¬b39=b40:=by omega
    have n2:¬b40=b39:=by omega
    refine W3 hrf n1 n2 ?_
    refine AWp.range' l.length [] [6,8,9,10,41,42] (fun k us L=>us=[]∧∃kb vb,∃gb:ByteArray→Bool,L=[(b40,.amap [] []),(b39,.amap kb vb)]∧MpS kb vb (ab false) (fun s=>ab (gb s))∧∀c,isF ps c=true→gb (keyS c)=decide (c ∈ l.take k)) (by omega) rfl rfl rfl ⟨rfl,[],[],fun _=>false,rfl,.nil _,fun c _=>by rw[List.take_zero];exact(decide_eq_false (by simp)).symm⟩ ?_ ?_
    ·rintro k us L hk - ⟨rfl,kb,vb,gb,rfl,hMb,hgb⟩
     have hgk:=getD_map (f:=aInts) hk
     have hkF:=hlF _ (List.getElem_mem hk)
     have hky:=run_key l[k] (isF_cb hs hkF).1
     obtain⟨kb',vb',hput,hMb'⟩:=hMb.putB (keyS l[k]) true
     simp only[go_sem]
     refine W4 hgk hrf n1 n2 ?_
     refine Sd ?_
     refine(hky).val.use ?_;simp only[go_sem,n1,hput,hMb.fits]
     refine Sd ?_
     repeat(first|((with_reducible refine AWp.ofC ?_ ?_);exact rfl;simp only[go_sem,hput,n1,n2,hMb.fits])|((with_reducible refine an ?_ ?_);exact Au))
     refine⟨_,List.Sublist.refl _,kb',vb',_,rfl,hMb',fun c hc => ?_⟩
     have hmem:c ∈ l.take (k+1)↔c ∈ l.take k∨c=l[k]:=by
      rw[List.take_succ_eq_append_getElem hk,List.mem_append,List.mem_singleton]
     by_cases e:keyS c=keyS l[k]
     ·have:=keyS_inj (isF_byte hv hc) (isF_byte hv hkF) e
      rw[if_pos e,decide_eq_true (hmem.2 (.inr this))]
     ·have e2:¬c=l[k]:=fun e2=>e (by rw[e2])
      rw[if_neg e,hgb c hc,decide_eq_decide,hmem]
      exact⟨.inl,fun h=>h.resolve_right e2⟩
    ·rintro us L - ⟨rfl,kb,vb,gb,rfl,hMb,hgb⟩
     rw[List.take_length] at hgb
     have hgb:∀c,isF ps c=true→gb (keyS c)=badB l c:=hgb
     simp only[go_sem]
     refine W1 hrf ?_
     refine AWp.block (AWp.loopN [13] [6,8,9,10] (fun i us L=>us=[ai ((i:Int) - 1)]∧i≤m.length∧∃ks vs,∃g:ByteArray→Bool,L=[(b40,.amap ks vs),(b39,.amap kb vb)]∧MpS ks vs (ab false) (fun s=>ab (g s))∧∀j (hj:j<m.length),i≤j→g (keyS m[j])=opnV ps (badB l) m[j]) m.length ⟨rfl,Nat.le_refl _,[],[],fun _=>false,rfl,.nil _,fun j hj h=>by omega⟩ ?_)
     rintro i us L - ⟨rfl,hi,ks,vs,g,rfl,hMp,hg⟩
     cases i with
     | zero =>
      have z:¬(0:Int)≤((0:Nat):Int) - 1:=by omega
      simp only[go_sem]
      refine W4 z hrf n1 n2 ?_
      refine ret_viewK [true,false] (.tup [.rm ks vs,ai 0]) ⟨rfl,ks,vs,g,rfl,hMp,fun c hc => ?_⟩ ?_
      ·obtain⟨j,hj,rfl⟩:=List.getElem_of_mem ((hm c).2 hc)
       exact hg j hj (Nat.zero_le _)
      ·simp only[go_sem]
       exact .mkTup (Vws.cons (.lm (if_pos rfl) rfl fun i x y hx hy=>by rw[hx] at hy;cases hy;exact .refl _) (Vws.refl _))
     | succ i =>
      have z:(0:Int)≤(i:Int):=by omega
      have hm1:((i+1:Nat):Int) - 1=(i:Int):=by omega
      have hml2:i<m.length:=by omega
      have hcF:isF ps m[i]=true:=(hm _).1 (List.getElem_mem hml2)
      have hcl:=(isF_iff.1 hcF).1
      have hcb:=isF_cb hs hcF
      have hgm:=getD_map (f:=aInts) hml2
      have hkm:=run_key m[i] hcb.1
      have hcsum:=fun hne:¬i=m.length - 1=>show m[i].sum<off ps ps.length by
       have h1:=leq_sum (leq_full hcF)
       rw[fullC_sum] at h1
       have h2:¬m[i].sum=off ps ps.length:=fun e=>by
        have h3:=(full_of_sum hcF).2 e
        rw[List.getD_eq_getElem?_getD,List.getElem?_eq_getElem (show m.length - 1<m.length by omega)] at hlast
        have hlast:m[m.length - 1]=fullC ps:=hlast
        have h4:=List.pairwise_iff_getElem.1 hord i (m.length - 1) hml2 (by omega) (by omega)
        rw[h3,hlast] at h4
        exact ordL_irr h4
       omega
      have hopn:opnV ps (badB l) m[i]=((decide ((i:Int)=(m.length:Int) - 1) || (enF ps m[i] m[i].length).any fun p=>opnV ps (badB l) (stpC m[i] p)) && !badB l m[i]):=by
       by_cases e:i=m.length - 1
       ·rw[decide_eq_true (show (i:Int)=(m.length:Int) - 1 by omega),Bool.true_or,Bool.true_and]
        subst e
        rw[List.getD_eq_getElem?_getD,List.getElem?_eq_getElem hml2] at hlast
        have hlast:m[m.length - 1]=fullC ps:=hlast
        rw[hlast]
        exact opnV_full (fullC_sum ps)
       ·rw[decide_eq_false (show ¬(i:Int)=(m.length:Int) - 1 by omega),Bool.false_or,opnV_stp hcF (hcsum e),Bool.and_comm]
      have hstm:=hstep i hml2
      have hbyt:=isF_byte hv hcF
      have hmayc:=fun p=>hmay m[i] hcF p
      have hbc:=hgb m[i] hcF
      obtain⟨c,hc⟩:∃c,c=m[i]:=⟨_,rfl⟩
      rw[← hc] at hcF hcl hcb hgm hkm hopn hstm hbyt hmayc hbc
      have hb1:=hMb.get (keyS c)
      rw[hbc] at hb1
      rw[hm1]
      simp only[go_sem]
      refine W5 z hrf hgm n1 n2 ?_
      refine AWp.range' c.length [15] [6,8,9,10,13,14,68] (fun k us L=>us=[ab (decide ((i:Int)=(m.length:Int) - 1) || (enF ps c k).any fun p=>opnV ps (badB l) (stpC c p))]∧L=[(b40,.amap ks vs),(b39,.amap kb vb)]) (by omega) rfl rfl rfl ⟨by simp [enF];rfl,rfl⟩ ?_ ?_
      ·rintro k us L hk - ⟨rfl,rfl⟩
       have hmp:=hmayc k
       rw[mayF_nat hcl hk] at hmp
       have hne:=run_next c hcb.1 hcb.2 k hk
       have hky:=run_key (stpC c k) (by rw[stp_len];exact hcb.1)
       have hgs:=hMp.get (keyS (stpC c k))
       have hsu:((enF ps c (k+1)).any fun p=>opnV ps (badB l) (stpC c p))=(((enF ps c k).any fun p=>opnV ps (badB l) (stpC c p)) || (rdyF ps c k && g (keyS (stpC c k)))):=by
        rw[enF_succ,List.any_append]
        congr 1
        cases hr:rdyF ps c k with
        | true =>
         have hE:k ∈ enF ps c c.length:=mem_enF.2 ⟨hk,hr⟩
         obtain⟨s1,s2,s3⟩:=hstm k hE
         have hfk:=hg _ s2 (by omega)
         rw[s3] at hfk
         rw[hfk];simp
        | false=>simp
       rw[hsu,← Bool.or_assoc]
       generalize (decide ((i:Int)=(m.length:Int) - 1) || (enF ps c k).any fun p=>opnV ps (badB l) (stpC c p))=on at *
       simp only[go_sem]
       refine W4 hgm hrf n1 n2 ?_
       refine Sd ?_
       refine GCall.use (ab (rdyF ps c k)) (fun _=>⟨At,(hmp).val.use ⟨rfl,rfl⟩⟩) ?_;simp only[go_sem]
       refine Sd ?_
       refine GCall.use (aInts (stpC c k)) (fun _=>⟨At,(hne).val.use ⟨rfl,rfl⟩⟩) ?_;simp only[go_sem]
       refine Sd ?_
       refine GCall.use (.v (.string (keyS (stpC c k)))) (fun _=>⟨At,(hky).val.use ⟨rfl,rfl⟩⟩) ?_;simp only[go_sem,n2,hgs]
       refine Sd ?_
       repeat(first|((with_reducible refine AWp.ofC ?_ ?_);exact rfl;simp only[go_sem,hgm,hrf,hgs,n1,n2,hMp.fits])|((with_reducible refine an ?_ ?_);exact Au))
       exact⟨fun h1 h2=>⟨⟨h1,h2⟩,hMp.fits⟩,fun h1=>⟨h1,fun h2=>⟨h1,h2⟩⟩,_,List.Sublist.refl _,rfl⟩
      ·rintro us L - ⟨rfl,rfl⟩
       obtain⟨ks',vs',hput',hMp'⟩:=hMp.putB (keyS c) (opnV ps (badB l) c)
       rw[hopn] at hput'
       generalize (decide ((i:Int)=(m.length:Int) - 1) || (enF ps c c.length).any fun p=>opnV ps (badB l) (stpC c p))=on at *
       simp only[go_sem]
       refine W4 hgm hrf n1 n2 ?_
       refine Sd ?_
       refine(hkm).val.use ?_;simp only[go_sem]
       refine Sd ?_
       refine W4 hgm hrf n1 n2 ?_
       refine Sd ?_
       refine GCall.use (.v (.string (keyS c))) (fun _=>⟨At,(hkm).val.use ⟨rfl,rfl⟩⟩) ?_;simp only[go_sem,n1,n2,hb1,hput',hMp.fits,hMb.fits]
       refine Sd ?_
       repeat(first|((with_reducible refine AWp.ofC ?_ ?_);exact rfl;simp only[go_sem])|((with_reducible refine an ?_ ?_);exact Au))
       refine⟨_,List.Sublist.refl _,i,by omega,by congr 3,by omega,ks',vs',_,rfl,hMp',fun j hj hmj => ?_⟩
       by_cases e:keyS m[j]=keyS c
       ·rw[if_pos e]
        have hjF:isF ps m[j]=true:=(hm _).1 (List.getElem_mem hj)
        rw[keyS_inj (isF_byte hv hjF) hbyt e]
       ·rw[if_neg e]
        have hne:j ≠ i:=fun e2=>by subst e2;exact e (by rw[hc])
        exact hg j hj (by omega)
noncomputable def blkB (ps:List Pr) (l:List (List Int)):Bool:=decide (avE ps l=0) && !opnV ps (badB l) (zeroC ps)
theorem avE_valid {ps:List Pr} {l:List (List Int)} (h:avE ps l=0):validF ps=true:=by
 unfold avE at h
 split at h
 ·assumption
 ·cases h
theorem run_Blocked (ps:List Pr) (hs:Sm ps) (l:List (List Int)):PC Proofs.Tryz.prog 21 [aTr ps,aRows l] (.tup [ab (blkB ps l),ai (avE ps l)]):=by
 have haR:∀x:List (List Int),aRows x = .sl 1 (x.map aInts):=fun _=>rfl
 by_cases h:avE ps l=0
 ·have hv:=avE_valid h
  have hb:blkB ps l = !opnV ps (badB l) (zeroC ps):=by unfold blkB;rw[decide_eq_true h,Bool.true_and]
  have hA:=run_avoidingG ps hs l h
  have hop:=run_open ps hs hv
  have hz:=run_zero ps hv
  have hkz:=run_key (zeroC ps) (isF_cb hs (zeroC_is ps)).1
  rw[h,hb]
  rw[haR] at *
  obtain⟨r,hr⟩:∃r,r=aRs ps:=⟨_,rfl⟩
  have hrf:fo r=(True,r):=by rw[hr];rfl
  rw[← hr] at hop hz
  clear hr
  refine PC.enter 24 [.tmp 4,.tmp 5] [2] Proofs.Tryz.func21 rfl rfl rfl rfl rfl (by simp) (AWp.of ?_);simp only[go_sem]
  refine Wk ?_
  refine Sd ?_
  refine hA.val.mono ?_
  rintro R L ⟨rfl,ks,vs,g,rfl,hMp,hg⟩
  have hgz:=hMp.get (keyS (zeroC ps))
  rw[hg _ (zeroC_is ps)] at hgz
  simp only[go_sem]
  refine Wk ?_
  refine Sd ?_
  refine(hop).val.use ?_;simp only[go_sem,hrf]
  refine Sd ?_
  refine(hz).val.use ?_;simp only[go_sem]
  refine Sd ?_
  refine(hkz).val.use ?_;simp only[go_sem,hgz,hMp.fits]
  refine Sd ?_
  repeat(first|((with_reducible refine AWp.ofC ?_ ?_);exact rfl;simp only[go_sem])|((with_reducible refine an ?_ ?_);exact Au))
  refine ret_eq ?_;simp only[go_sem]
 ·have hA:=run_avoidBad ps hs l h
  have hb:blkB ps l=false:=by unfold blkB;rw[decide_eq_false h];rfl
  rw[hb]
  rw[haR] at *
  refine PC.enter 24 [.tmp 4,.tmp 5] [2] Proofs.Tryz.func21 rfl rfl rfl rfl rfl (by simp) (AWp.of ?_);simp only[go_sem]
  refine Wk ?_
  refine Sd ?_
  refine(hA).val.use ?_;simp only[go_sem]
  refine W1 h ?_
  refine ret_eq ?_;simp only[go_sem]
def asg12 (e:Ev):Bool:=decide (12<(e.asg.length:Int))
def smW (ps:List Pr):Nat→Int
 | 0=>0
 | k+1=>addW (smW ps k) (nev ps k)
theorem smW_in (ps:List Pr):∀k,-9223372036854775808≤smW ps k∧smW ps k≤9223372036854775807
 | 0=>by show -9223372036854775808≤(0:Int)∧(0:Int)≤9223372036854775807;omega
 | k+1=>by
  show -9223372036854775808≤addW (smW ps k) (nev ps k)∧addW (smW ps k) (nev ps k)≤9223372036854775807
  unfold addW
  rw[IntKind.wrap_i64]
  omega
section
variable {ps:List Pr} (hva:PC Proofs.Tryz.prog 85 [aTr ps] (ab false))
include hva
end
structure Vd (ps:List Pr):Prop where
 val:PC Proofs.Tryz.prog 85 [aTr ps] (ab (validF ps))
 rval:PC Proofs.Tryz.prog 39 [aTr ps] (ab (validF ps))
 sm:validF ps=true→Sm ps
 big:Sm ps∨validF ps=false
mutual
def hugeF:Pd→Int→Int→Int
 | .mk _ _ _ _ _ l,d,c=>hugeL l (d+1) (if 40<d then 1000 else c+1)
def hugeL:List Pd→Int→Int→Int
 | [],_,c=>c
 | x :: r,d,c=>if c≤300 then hugeL r d (hugeF x d c) else c
end
end Go.AL
end
