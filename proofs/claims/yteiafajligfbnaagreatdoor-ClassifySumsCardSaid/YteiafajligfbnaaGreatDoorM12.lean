/- Texts of this claim's proof: WU1, WSs, WSp, WCp, WCk, WEx, WRr, WEy, WPq, WNa, WNb, WTm, WDx, WPu, WNc, WQa, WQb, WQc, WQf, WQg, WQh, WQi, WNe, WOa, WQd, WQj, WQk, WQl, WQm, WQp, WQn, WU7, WU2, WU3, WU4, WU5, WU6, WU8, WU9, WNf, WNd2, WNh, WU10, WU12, WU13, WQe, WXg, WU14, WI1, WNg, WNi, WNj, WOb, WOc, WOd, AlRdw. No condition. -/
import Derived.Test.YteiafajligfbnaaGreatDoorM9
import Derived.Test.YteiafajligfbnaaGreatDoorM11
import Derived.Test.YteiafajligfbnaaGreatDoorM10
import Derived.Test.YteiafajligfbnaaGreatDoorM7
import Derived.Test.YteiafajligfbnaaGreatDoorM4
import Derived.Test.YteiafajligfbnaaGreatDoorM5
section
namespace Go.AL
open Go Go.RowKit
set_option maxRecDepth 4000
theorem events_indexFuncB (l:List Ev) (hl:l.length≤9223372036854775807) (g:AV) (hgf:fo g=(True,g)) (p:Ev→Bool) (hg:∀x ∈ l,PV Proofs.Tryz.prog g [aEv x] (ab (p x))) :
  PC Proofs.Tryz.prog 42 [aEvs l,g] (ai (match l.findIdx? p with|some i=>(i:Int)|none => -1)):=by
 refine PC.enter 19 [.tmp 4] [] Proofs.Tryz.func42 rfl rfl rfl rfl rfl (by simp) (AWp.of ?_);simp only[go_sem]
 refine Sd ?_
 refine AWp.of ?_;simp only[go_sem,aEvs]
 refine AWp.range1' l.length [] [0,1,7] (fun k vs L=>L=[]∧∀i (h:i<l.length),i<k→p l[i]=false) (by omega) rfl rfl rfl ⟨rfl,by omega⟩ ?_ ?_
 ·rintro k vs L' hk hvs ⟨rfl,hI⟩
  simp only[go_sem]
  refine Sd ?_
  refine AWp.of ?_;simp only[go_sem]
  have hgk:=hg l[k] (List.getElem_mem hk)
  try simp only[go_sem,aEv] at hgk
  refine Sd ?_
  refine AWp.of ?_;simp only[go_sem,getD_map hk,hgf,aEv]
  refine⟨⟨by omega,by omega⟩,hk,hgk.use (AWp.of ?_)⟩;simp only[go_sem]
  refine⟨fun ht => ?_,fun hf => ?_⟩
  ·refine Sd ?_
   refine AWp.of ?_;simp only[go_sem]
   refine ret_eq ?_;simp only[go_sem]
   have:l.findIdx? p=some k:=by rw[List.findIdx?_eq_some_iff_getElem];exact⟨hk,ht,fun j hj=>by simpa using hI j (by omega) hj⟩
   rw[this]
  ·refine⟨[],List.Sublist.refl _,rfl,fun i h hi => ?_⟩
   by_cases e:i=k
   ·subst e;exact hf
   ·exact hI i h (by omega)
 ·rintro vs L' hvs ⟨rfl,hI⟩
  simp only[go_sem]
  refine Sd ?_
  refine AWp.of ?_;simp only[go_sem]
  refine Sd ?_
  refine AWp.of ?_;simp only[go_sem]
  refine ret_eq ?_;simp only[go_sem]
  have:l.findIdx? p=none:=by rw[List.findIdx?_eq_none_iff];intro x hx;obtain⟨i,hi,rfl⟩:=List.getElem_of_mem hx;exact hI i hi hi
  rw[this]
theorem events_containsFuncB (l:List Ev) (hl:l.length≤9223372036854775807) (g:AV) (hgf:fo g=(True,g)) (p:Ev→Bool) (hg:∀x ∈ l,PV Proofs.Tryz.prog g [aEv x] (ab (p x))) :
  PC Proofs.Tryz.prog 15 [aEvs l,g] (ab (l.any p)):=by
 refine PC.enter 9 [.tmp 4] [] Proofs.Tryz.func15 rfl rfl rfl rfl rfl (by simp) (AWp.of ?_);simp only[go_sem]
 refine Sd ?_
 refine AWp.of ?_;simp only[go_sem,hgf,aEvs]
 refine(events_indexFuncB l hl g hgf p hg).val.use ?_
 simp only[go_sem]
 refine Sd ?_
 refine AWp.of ?_;simp only[go_sem]
 refine ret_eq ?_;simp only[go_sem]
 congr 2;exact findIdx_any l p
theorem trace_FaultB (ps:List Pr) (hs:Smh ps) (hb:∃p,p<ps.length∧procF ps p ≠ 0):PC Proofs.Tryz.prog 121 [aTr ps] (aFault (faultF ps)):=by
 have hl:=hs.procs
 refine PC.enter 66 [.cell 2 89,.cell 3 35] [1,6,7,10,12] Proofs.Tryz.func121 rfl rfl rfl rfl rfl (by simp) (AWp.of ?_);simp only[go_sem]
 intro b2
 intro b3 h3
 have n23:¬b2=b3:=by omega
 refine Sd ?_
 refine AWp.of ?_;simp only[go_sem,n23]
 refine Sd ?_
 refine(trace_in _ _ _).val.use ?_;simp only[go_sem]
 refine W1 n23 ?_
 refine⟨fun h1 => ?_,fun h1 => ?_⟩
 ·refine W1 n23 ?_
  have hf:faultF ps=((0,0),1):=by unfold faultF;rw[if_pos (by simp [h1])]
  rw[hf]
  refine ret_eq ?_
  simp only[go_sem,n23]
 ·refine Wk ?_
  refine AWp.range' ps.length [] [1,2,3,22] (fun k vs L=>L=[(b3,.row 35 1 [ai 0] 1),(b2,.row 89 2 [aEid (0,0)] 1)]∧∀j,j<k→procF ps j=0) (by omega) rfl rfl rfl ⟨rfl,by omega⟩ ?_ ?_
  ·rintro k vs L' hk - ⟨rfl,hI⟩
   simp only[go_sem]
   refine Sd ?_
   refine AWp.of ?_;simp only[go_sem]
   refine Wk ?_
   refine Sd ?_
   refine(trace_processFaultH ps hs k hk).val.use ?_;simp only[go_sem]
   refine W1 n23 ?_
   refine⟨fun h2 => ?_,fun h2 => ?_⟩
   ·refine W1 n23 ?_
    have hf:faultF ps=(((k:Int),0),procF ps k):=by unfold faultF;rw[if_neg (by simp [h1]),procFirst_hit hk hI h2]
    rw[hf]
    refine ret_eq ?_
    simp only[go_sem,n23]
   ·refine⟨_,List.Sublist.refl _,rfl,fun j hj => ?_⟩
    by_cases e:j=k
    ·rw[e];exact h2
    ·exact hI j (by omega)
  ·rintro vs L' - ⟨rfl,hI⟩
   obtain⟨p,hp,h⟩:=hb
   exact absurd (hI p hp) h
theorem ref12_FaultB (ps:List Pr) (hs:Smh ps) (hb:∃p,p<ps.length∧procF ps p ≠ 0):PC Proofs.Tryz.prog 49 [aTr ps] (aFault (faultF ps)):=by
 have hl:=hs.procs
 refine PC.enter 137 [.cell 2 89,.tmp 3] [1,11,15] Proofs.Tryz.func49 rfl rfl rfl rfl rfl (by simp) (AWp.of ?_);simp only[go_sem]
 intro b2
 refine Wk ?_
 refine Wk ?_
 refine⟨fun h1 => ?_,fun h1 => ?_⟩
 ·refine Wk ?_
  have hf:faultF ps=((0,0),1):=by
   unfold faultF
   rw[if_pos]
   unfold inI
   rw[Bool.not_eq_true',← Bool.not_eq_true,Bool.and_eq_true,decide_eq_true_eq,decide_eq_true_eq]
   omega
  rw[hf]
  refine ret_eq ?_
  simp only[go_sem]
 ·intro h1'
  have hin:¬((!inI ps.length 1 8)=true):=by
   unfold inI
   rw[Bool.not_eq_true',← Bool.not_eq_true,Bool.and_eq_true,decide_eq_true_eq,decide_eq_true_eq]
   omega
  refine Wk ?_
  refine AWp.block (AWp.count 4 ps.length [] [1,2] (fun k vs L=>L=[(b2,.row 89 2 [aEid (0,0)] 1)]∧∀j,j<k→procF ps j=0) rfl rfl ⟨by simp [aEid],by omega⟩ ?_)
  rintro k vs L hk - ⟨rfl,hI⟩
  simp only[go_sem]
  refine Wk ?_
  refine⟨fun h2 => ?_,fun h2 => ?_⟩
  ·have hkp:k<ps.length:=by omega
   refine Wk ?_
   refine Sd ?_
   refine(ref12_headH ps hs k hkp).val.use ?_;simp only[go_sem]
   refine Wk ?_
   refine⟨fun h3 => ?_,fun h3 => ?_⟩
   ·refine Wk ?_
    have hf:faultF ps=(((k:Int),0),procF ps k):=by unfold faultF;rw[if_neg hin,procFirst_hit hkp hI h3]
    rw[hf]
    refine ret_eq ?_
    simp only[go_sem]
   ·refine Wk ?_
    refine⟨_,List.Sublist.refl _,rfl,fun j hj => ?_⟩
    by_cases e:j=k
    ·rw[e];exact h3
    ·exact hI j (by omega)
  ·obtain⟨p,hp,h⟩:=hb
   exact absurd (hI p (by omega)) h
theorem procF_evs {ps:List Pr} {p:Nat} (hp:p<ps.length) (h:64<ps[p].evs.length):procF ps p ≠ 0:=by
 have hpf:procF ps p=if !nameOk ps[p].name || (ps.take p).any (fun y=>decide (y.name=ps[p].name)) then 13 else if 8<ps[p].vars.length then 5 else
   if fstF (varF ps[p].vars) ps[p].vars.length ≠ 0 then fstF (varF ps[p].vars) ps[p].vars.length else if 64<ps[p].evs.length then 5 else 0:=by
  unfold procF;rw[List.getElem?_eq_getElem hp]
 rw[hpf]
 split
 ·decide
 ·split
  ·decide
  ·split
   ·assumption
   ·first|decide|(rw[if_pos h];decide)
theorem valid_bad {ps:List Pr} (hb:∃p,p<ps.length∧procF ps p ≠ 0):validF ps=false:=by
 cases hv:validF ps with
 | false=>rfl
 | true =>
  obtain⟨p,hp,h⟩:=hb
  exact absurd (procF_of_valid hv hp) h
theorem trace_ValidB (ps:List Pr) (hs:Smh ps) (hb:∃p,p<ps.length∧procF ps p ≠ 0):PC Proofs.Tryz.prog 84 [aTr ps] (ab (validF ps)):=by
 refine PC.enter 12 [.tmp 2] [1,3] Proofs.Tryz.func84 rfl rfl rfl rfl rfl (by simp) (AWp.of ?_);simp only[go_sem]
 refine Wk ?_
 refine Sd ?_
 refine(trace_FaultB ps hs hb).val.use ?_;simp only[go_sem]
 refine Sd ?_
 intros
 refine AWp.of ?_;simp only[go_sem]
 refine Wk ?_
 refine ret_eq ?_;simp only[go_sem]
 rfl
theorem ref12_ValidB (ps:List Pr) (hs:Smh ps) (hb:∃p,p<ps.length∧procF ps p ≠ 0):PC Proofs.Tryz.prog 22 [aTr ps] (ab (validF ps)):=by
 refine PC.enter 12 [.tmp 2] [1,3] Proofs.Tryz.func22 rfl rfl rfl rfl rfl (by simp) (AWp.of ?_);simp only[go_sem]
 refine Wk ?_
 refine Sd ?_
 refine(ref12_FaultB ps hs hb).val.use ?_;simp only[go_sem]
 refine Sd ?_
 intros
 refine AWp.of ?_;simp only[go_sem]
 refine Wk ?_
 refine ret_eq ?_;simp only[go_sem]
 rfl
section
variable {ps:List Pr} {ts:List Pd}
end
section
variable {ps:List Pr} {c:List Int}
variable {j:List Int} {ch:Int→Int→Int}
end
section
variable {ps:List Pr} {c:List Int}
end
def ordL (a b:List Int):Prop:=a.sum<b.sum∨(a.sum=b.sum∧cmpL a b<0)
theorem isF_given {ps:List Pr} (hv:validF ps=true) {c:List Int} : givenF ps [c] []=0↔isF ps c=true:=by
 rw[givenL,isF_iff];simp [hv,and_assoc]
section
variable {A:List (List Int)} (hA:A.Pairwise ordL)
include hA
end
section
variable {ps:List Pr} (hv:validF ps=true)
include hv
end
def stepG (a b:List Int):Nat→Option Int
 | 0=>some (-1)
 | k+1=>match stepG a b k with
  | none=>none
  | some p=>if cAt a k=cAt b k then some p else if 0≤p∨¬cAt b k=cAt a k+1 then none else some k
def stepF (a b:List Int):Int:=if a.length=b.length then (stepG a b a.length).getD (-1) else -1
def zeroC (ps:List Pr):List Int:=List.replicate ps.length 0
def chnF (ps:List Pr):List Int→List (List Int)→Bool
 | _,[]=>true
 | a,b :: r=>(isF ps b && decide (0≤stepF a b)) && chnF ps b r
section
variable {ps:List Pr} (hv:validF ps=true) {l:List (List Int)} (hl:l=cutsF ps)
include hv hl
end
def ptF (ps:List Pr) (p i:Nat):List Int:=closeF ps (stC ps.length p ((i:Int)+1))
section
variable {ps:List Pr} (hv:validF ps=true) {p:Nat} (hp:p<ps.length) {i:Nat} (hi:i<ps[p].evs.length)
include hv hp hi
end
end Go.AL
end
section
namespace Go.AL
open Go Go.RowKit
theorem fits_str (s:ByteArray):(KK.sc .str).fits (.string s)=true:=rfl
attribute [go_sem] fits_str
theorem seqB_dec' (a b:ByteArray):seqB a b=decide (a=b):=seqB_dec a b
end Go.AL
end
section
namespace Go.AL
open Go Go.RowKit
set_option maxRecDepth 4000
theorem ret_viewK {P:Program} {rs:List ResultVar} {K:AV→AHeap→Prop} {ρ:Env} {L:AHeap} (m:List Bool) (r:AV) (hK:K r []) (h:retV P rs m r ρ L):retK P rs K ρ L:=by
 unfold retK;unfold retV at h
 split at h
 ·rename_i e;(try rw[e]);exact⟨h.1,m,r,[],h.2,.none _,hK⟩
 ·exact h.elim
def asg12 (e:Ev):Bool:=decide (12<(e.asg.length:Int))
def smP (x:Pr):Bool:=!(decide (12<(x.vars.length:Int)) || x.evs.any asg12)
def smW (ps:List Pr):Nat→Int
 | 0=>0
 | k+1=>addW (smW ps k) (nev ps k)
def smF (ps:List Pr) (m:Int):Bool:=decide (ps.length≤10) && (ps.all smP && decide (smW ps ps.length≤m))
theorem smF_cases {ps:List Pr} {m:Int} (h:smF ps m=true):Sm ps∨(Smh ps∧∃p,p<ps.length∧procF ps p ≠ 0):=by
 unfold smF at h
 rw[Bool.and_eq_true,Bool.and_eq_true,decide_eq_true_eq,List.all_eq_true] at h
 obtain⟨h1,h2,_⟩:=h
 have h3:∀p ∈ ps,p.vars.length≤12∧∀e ∈ p.evs,e.asg.length≤12:=fun p hp=>by
  have:=h2 p hp
  unfold smP at this
  rw[Bool.not_eq_true',Bool.or_eq_false_iff,decide_eq_false_iff_not,List.any_eq_false] at this
  refine⟨by omega,fun e he => ?_⟩
  have:=this.2 e he
  unfold asg12 at this
  simp at this
  omega
 by_cases hb:∃p,∃h:p<ps.length,64<ps[p].evs.length
 ·obtain⟨p,hp,hb⟩:=hb
  exact .inr ⟨⟨by omega,fun p hp=>by have:=(h3 p hp).1;omega⟩,p,hp,procF_evs hp hb⟩
 ·refine .inl ⟨by omega,fun p hp => ?_,fun p hp=>by have:=(h3 p hp).1;omega,fun p hp e he=>by have:=(h3 p hp).2 e he;omega⟩
  obtain⟨i,hi,rfl⟩:=List.getElem_of_mem hp
  apply Classical.byContradiction
  intro h4
  exact hb ⟨i,hi,by omega⟩
theorem smW_in (ps:List Pr):∀k,-9223372036854775808≤smW ps k∧smW ps k≤9223372036854775807
 | 0=>by show -9223372036854775808≤(0:Int)∧(0:Int)≤9223372036854775807;omega
 | k+1=>by
  show -9223372036854775808≤addW (smW ps k) (nev ps k)∧addW (smW ps k) (nev ps k)≤9223372036854775807
  unfold addW
  rw[IntKind.wrap_i64]
  omega
section
variable {ps:List Pr} (hva:PC Proofs.Tryz.prog 84 [aTr ps] (ab false))
include hva
end
structure Vd (ps:List Pr):Prop where
 val:PC Proofs.Tryz.prog 84 [aTr ps] (ab (validF ps))
 rval:PC Proofs.Tryz.prog 22 [aTr ps] (ab (validF ps))
 sm:validF ps=true→Sm ps
 big:Sm ps∨validF ps=false
theorem vd_of {ps:List Pr} {m:Int} (h:smF ps m=true):Vd ps:=by
 rcases smF_cases h with h|⟨h,hb⟩
 ·exact⟨trace_Valid ps h,ref12_Valid ps h,fun _=>h,.inl h⟩
 ·exact⟨trace_ValidB ps h hb,ref12_ValidB ps h hb,fun hv=>absurd hv (by rw[valid_bad hb];simp),.inr (valid_bad hb)⟩
theorem MCalls.pc {P:Program} {f:FuncId} {args:List AV} {K:AV→AHeap→Prop} {r0:AV} (h:MCalls P f args [] K) (hk:∀r L,K r L→Vw L r r0):PC P f args r0 :=
 ⟨h.1,fun n w A vs h1 h2=>(h.2 n w A vs h1 h2).mono fun e w' hp=>by
  obtain⟨v,r,L',A',e1,hK,hf,hA,hL,hkk,hr⟩:=hp
  refine⟨v,r0,[],fun b=>A' b∨keysOf L' b,e1,⟨rfl,rfl⟩,hf,fun b hb => ?_,hL.viewed (Lf:=L') (Lk:=[]) (by simp) .nil,fun x hx=>absurd hx (by simp),hL.view (Lf:=L') (Lk:=[]) (by simp) (hk r L' hK) hr⟩
  rcases hb with hb|⟨x,hx,rfl⟩
  ·exact hA b hb
  ·rcases hkk x hx with h|h
   ·exact .inr (.inl h)
   ·exact .inr (.inr h)⟩
def copK:Pd→AV→AHeap→Prop
 | .mk k n p q s l,r,L=>∃v,r = .agg [ai k,ai n,ai p,ai q,astr s,v]∧AppSt 27 6 (l.map aPd) v L
theorem copK_vw {t:Pd} {r:AV} {L:AHeap} (h:copK t r L):Vw L r (aPd t):=by
 obtain⟨k,n,p,q,s,l⟩:=t
 obtain⟨v,rfl,hA⟩:=h
 rw[aPd_mk]
 have hv:=hA.vw []
 rw[List.append_nil] at hv
 exact .mkAgg (Vws.cons (.refl _) (Vws.cons (.refl _) (Vws.cons (.refl _) (Vws.cons (.refl _) (Vws.cons (.refl _) (Vws.cons hv .nil))))))
theorem classify_copiedM (t:Pd):szF t≤1000000→MCalls Proofs.Tryz.prog 111 [aPd t] [] (copK t):=by
 induction t using Pd.ind with
 | _ k n p q s l ih =>
 intro hz
 have hsz:szF (.mk k n p q s l)=szL l+1:=by rw[szF]
 have hll:=szL_len l
 have hK:copK (.mk k n p q s l)=fun r L=>∃v,r = .agg [ai k,ai n,ai p,ai q,astr s,v]∧AppSt 27 6 (l.map aPd) v L:=rfl
 rw[hK]
 clear hK
 refine MCalls.enter' 24 [.cell 2 27] [5,19] Proofs.Tryz.func111 rfl rfl rfl rfl rfl (by simp) (AWp.of ?_);simp only[go_sem]
 intro b1 b2 hlt
 have n1:¬b1=b2:=by omega
 have n2:¬b2=b1:=by omega
 refine W2 n1 n2 ?_
 refine AWp.range' l.length [] [1,2,9,10] (fun i vs L=>∃v Ln,L=Ln ++ [(b2,ABlk.row 27 6 [aPd0] 1),(b1,ABlk.row 27 6 [.agg [ai k,ai n,ai p,ai q,astr s,v]] 1)]∧AppSt 27 6 ((l.take i).map aPd) v Ln∧∀x ∈ Ln,x.1 ≠ b1∧x.1 ≠ b2) (by omega) rfl rfl rfl ⟨anil,[],rfl,.nil,by simp⟩ ?_ ?_
 ·rintro i vs L hil - ⟨v,Ln,rfl,hA,hne⟩
  simp only[go_sem]
  have hgi:=getD_map (f:=aPd) hil
  have hzi:=szL_mem (List.getElem_mem hil)
  have hch:PC Proofs.Tryz.prog 111 [aPd l[i]] (aPd l[i]):=(ih l[i] (List.getElem_mem hil) (by omega)).pc fun r L h=>copK_vw h
  have hsu:(l.take (i+1)).map aPd=(l.take i).map aPd ++ [aPd l[i]]:=by
   rw[List.take_succ_eq_append_getElem hil,List.map_append];rfl
  have hyl:((l.take i).map aPd).length≤1000000:=by simp;omega
  generalize (l.take i).map aPd=ys at *
  generalize l[i]=x at *
  obtain⟨k2,o2,p2,q2,s2,l2⟩:=x
  simp only[aPd_mk] at hgi hch hsu
  rcases hA.inv with ⟨e1,rfl,rfl⟩|⟨b,cap,rfl,rfl⟩
  ·refine W1 hgi ?_
   intro b7 g1 g2
   have n7:¬b1=b7:=by omega
   have n8:¬b7=b1:=by omega
   refine Sd ?_
   repeat(first|(with_reducible refine AWp.seq ?_)|(with_reducible refine AWp.block ?_))
   refine AWp.mix mixed [0,2,3] (.step 1 (.step 4 (.step 5 (.step 6 (.step 7 .done .done) .done) .done) .done) (.step 4 (.step 1 (.step 5 (.step 6 (.step 7 .done .done) .done) .done) .done) .done)) (by kernel_rfl) ?_;simp only[go_sem,hgi,n1,n2,n7,n8]
   refine Sd ?_
   refine GCall.use (.agg [ai k2,ai o2,ai p2,ai q2,astr s2,.sl 6 (l2.map aPd)]) (fun _=>⟨At,(hch).val.use ⟨rfl,rfl⟩⟩) ?_;simp only[go_sem,n1,n2]
   repeat' (first|(with_reducible refine And.intro ?_ ?_)|(with_reducible intro _))
   all_goals first|omega|skip
   all_goals
    rename_i b' cap' f1 f2 f3
    have n5:¬b1=b':=by omega
    have n6:¬b2=b':=by omega
    simp only[go_sem,n1,n2,n5,n6]
    refine Sd ?_
    refine W4 n1 n2 n5 n6 ?_
    refine⟨_,List.Sublist.refl _,_,[(b',.row 27 6 [_] cap')],rfl,?_,?_⟩
    ·rw[hsu,e1];exact .row _ [_] _
    ·intro p hp;simp at hp;subst hp;exact⟨fun e=>n5 e.symm,fun e=>n6 e.symm⟩
  ·have m1:¬b=b1:=(hne (b,_) List.mem_cons_self).1
   have m2:¬b=b2:=(hne (b,_) List.mem_cons_self).2
   have m3:¬b1=b:=fun e=>m1 e.symm
   have m4:¬b2=b:=fun e=>m2 e.symm
   refine W1 hgi ?_
   intro b7 g0 g1 g2
   have n7:¬b1=b7:=by omega
   have n8:¬b7=b1:=by omega
   have n9:¬b=b7:=by omega
   have n10:¬b7=b:=by omega
   refine Sd ?_
   repeat(first|(with_reducible refine AWp.seq ?_)|(with_reducible refine AWp.block ?_))
   refine AWp.mix mixed [0,2,3] (.step 1 (.step 4 (.step 5 (.step 6 (.step 7 .done .done) .done) .done) .done) (.step 4 (.step 1 (.step 5 (.step 6 (.step 7 .done .done) .done) .done) .done) .done)) (by kernel_rfl) ?_;simp only[go_sem,hgi,n1,n2,m1,m2,m3,m4,n7,n8,n9,n10]
   refine Sd ?_
   refine GCall.use (.agg [ai k2,ai o2,ai p2,ai q2,astr s2,.sl 6 (l2.map aPd)]) (fun _=>⟨At,(hch).val.use ⟨rfl,rfl⟩⟩) ?_;simp only[go_sem,n1,n2,m1,m2,m3,m4]
   repeat' (first|(with_reducible refine And.intro ?_ ?_)|(with_reducible intro _))
   all_goals first|omega|skip
   all_goals
    rename_i b' cap' n5 n6 f3
    simp only[go_sem,n1,n2,n5,n6]
    refine Sd ?_
    refine W4 n1 n2 n5 n6 ?_
    refine⟨_,List.Sublist.refl _,_,[(b',.row 27 6 (ys ++ [_]) cap')],rfl,?_,?_⟩
    ·rw[hsu]
     have:=AppSt.row (t:=27) (k:=6) b' (ys ++ [.agg [ai k2,ai o2,ai p2,ai q2,astr s2,.sl 6 (l2.map aPd)]]) cap'
     simpa using this
    ·intro p hp;simp at hp;subst hp;exact⟨fun e=>n6 e.symm,fun e=>n5 e.symm⟩
 ·rintro vs L - ⟨v,Ln,rfl,hA,hne⟩
  simp only[go_sem]
  rw[List.take_length] at hA
  generalize l.map aPd=ys at *
  rcases hA.inv with ⟨e1,rfl,rfl⟩|⟨b,cap,rfl,rfl⟩
  ·repeat(first|((with_reducible refine AWp.ofC ?_ ?_);exact rfl;simp only[go_sem,n1,n2,aPd0])|((with_reducible refine an ?_ ?_);exact Au))
   refine ret_sub [] (List.nil_sublist _) ?_
   simp only[go_sem,n1,n2]
   exact⟨_,rfl,by rw[e1];exact .nil⟩
  ·have m1:¬b1=b:=fun e=>(hne (b,_) List.mem_cons_self).1 e.symm
   have m2:¬b2=b:=fun e=>(hne (b,_) List.mem_cons_self).2 e.symm
   repeat(first|((with_reducible refine AWp.ofC ?_ ?_);exact rfl;simp only[go_sem,n1,n2,m1,m2,aPd0])|((with_reducible refine an ?_ ?_);exact Au))
   refine ret_sub [(b,.row 27 6 ys cap)] (List.Sublist.cons_cons _ (List.nil_sublist _)) ?_
   simp only[go_sem,n1,n2,m1,m2]
   exact⟨_,rfl,.row b ys cap⟩
def oppL:List (Int × Int)→Int→Int
 | [],k=>k
 | (a,b) :: r,k=>if k=a then b else if k=b then a else oppL r k
def prsO:List (Int × Int):=[(13,14),(16,17),(9,10),(11,12),(18,21),(19,20)]
def oppF (k:Int):Int:=oppL prsO k
def aPr2 (p:Int × Int):AV:=.agg [ai p.1,ai p.2]
theorem oppL_drop {l:List (Int × Int)} {i:Nat} (hi:i<l.length) (k:Int):oppL (l.drop i) k=if k=l[i].1 then l[i].2 else if k=l[i].2 then l[i].1 else oppL (l.drop (i+1)) k:=by
 rw[List.drop_eq_getElem_cons hi]
 rfl
theorem prsO_len:prsO.length=6:=rfl
theorem classify_opposite (k:Int):PC Proofs.Tryz.prog 134 [ai k] (ai (oppF k)):=by
 have hl6:=prsO_len
 have hd0:oppL (prsO.drop 0) k=oppF k:=rfl
 have hd6:oppL (prsO.drop 6) k=k:=rfl
 have hdr:=fun i (hi:i<prsO.length)=>oppL_drop hi k
 have hgx:=fun i (hi:i<prsO.length)=>getD_map (f:=aPr2) hi
 have hgc:∀i (hi:i<prsO.length),[AV.agg [ai 13,ai 14],.agg [ai 16,ai 17],.agg [ai 9,ai 10],.agg [ai 11,ai 12],.agg [ai 18,ai 21],.agg [ai 19,ai 20]].getD i .any=aPr2 prsO[i]:=hgx
 clear hgx
 generalize oppF k=r at *
 refine PC.enter 34 [.tmp 2] [5,12] Proofs.Tryz.func134 rfl rfl rfl rfl rfl (by simp) (AWp.of ?_);simp only[go_sem]
 refine Wk ?_
 refine AWp.range' 6 [] [0,13,14] (fun i vs L=>L=[]∧oppL (prsO.drop i) k=r) (by omega) rfl rfl rfl ⟨rfl,hd0⟩ ?_ ?_
 ·rintro i vs L hi - ⟨rfl,hI⟩
  have hip:i<prsO.length:=by omega
  have hg:=hgc i hip
  have hd:=hdr i hip
  rw[hI] at hd
  clear hdr hgc
  generalize prsO[i]=p at *
  obtain⟨x,y⟩:=p
  unfold aPr2 at hg
  simp only[go_sem] at hd hg ⊢
  repeat(first|((with_reducible refine AWp.ofC ?_ ?_);exact rfl;simp only[go_sem,hg,List.flatten_cons,List.flatten_nil,List.cons_append,List.nil_append])|((with_reducible refine an ?_ ?_);exact Au))
  intro b5
  refine W1 hg ?_
  refine⟨fun h1 => ?_,fun h1 => ?_⟩
  ·refine W1 hg ?_
   refine ret_eq ?_;simp only[go_sem]
   rw[hd,if_pos h1]
  ·refine W1 hg ?_
   refine⟨fun h2 => ?_,fun h2 => ?_⟩
   ·refine W1 hg ?_
    refine ret_eq ?_;simp only[go_sem]
    rw[hd,if_neg h1,if_pos h2]
   ·refine W1 hg ?_
    exact⟨_,List.Sublist.refl _,rfl,by rw[hd,if_neg h1,if_neg h2]⟩
 ·rintro vs L - ⟨rfl,hI⟩
  rw[hd6] at hI
  simp only[go_sem]
  refine Wk ?_
  refine ret_eq ?_;simp only[go_sem]
  rw[hI]
section
variable {ps:List Pr} (hv:validF ps=true) {x:Eid} {D d:List Int} {Q:List Eid} {y:Eid}
end
theorem MVal.nd {P:Program} {g:AV} {args:List AV} {L:AHeap} {K:AV→AHeap→Prop} (h:MVal P g args L K):MVal P g args L fun r L'=>(L'.map (·.1)).Nodup∧K r L' :=
 fun n w A gv vs h1 h2 h3=>(h n w A gv vs h1 h2 h3).mono fun _ _ ⟨v,r,L',A',e1,hK,hf,hA,hL,hr⟩=>⟨v,r,L',A',e1,⟨hL.nodup,hK⟩,hf,hA,hL,hr⟩
end Go.AL
end
section
namespace Go.AL
open Go Go.RowKit
def mixW (ops:Array Oper) (qs:List Nat):Bool :=
 ascend qs && qs.all (fun q=>decide (q<ops.size)) &&
 (List.range ops.size).all fun i=>match ops[i]? with
  | some o=>(predsOf o).all (fun p=>decide (p<i)) &&
    qs.all (fun q=>match dstOf ops q with
     | some d=>(!(o.looksAt ops).contains d || (predsOf o).contains q) && (i == q || !(o.dst == some d))
     | none=>true)
  | none=>true
section
variable {C:Cfg} {ops:Array Oper} {L:AHeap}
theorem mixW_at {qs:List Nat} (h:mixW ops qs=true) {i:Nat} {o:Oper} (hi:ops[i]?=some o) :
  (∀p ∈ predsOf o,p<i)∧(∀q ∈ qs,∀d,dstOf ops q=some d→(d ∈ o.looksAt ops→q ∈ predsOf o)∧(i ≠ q→o.dst ≠ some d)):=by
 unfold mixW at h
 simp only[Bool.and_eq_true,List.all_eq_true] at h
 have hlt:i<ops.size:=(Array.getElem?_eq_some_iff.1 hi).1
 have h3:=h.2 i (List.mem_range.2 hlt)
 rw[hi] at h3
 simp only[Bool.and_eq_true,List.all_eq_true,decide_eq_true_eq] at h3
 refine⟨h3.1,fun q hq d hd => ?_⟩
 have:=h3.2 q hq
 rw[hd] at this
 simp only[Bool.and_eq_true,Bool.or_eq_true,Bool.not_eq_true',List.contains_eq_mem,decide_eq_true_eq,decide_eq_false_iff_not,beq_iff_eq,beq_eq_false_iff_ne,ne_eq] at this
 exact⟨fun hm=>this.1.resolve_left (fun hn=>hn hm),fun hne=>this.2.resolve_left hne⟩
theorem mixW_asc {qs:List Nat} (h:mixW ops qs=true):ascend qs=true∧∀q ∈ qs,q<ops.size:=by
 unfold mixW at h
 simp only[Bool.and_eq_true,List.all_eq_true,decide_eq_true_eq] at h
 exact h.1
theorem aqWRun_facts {qs0:List Nat} (hm:mixW ops qs0=true) (hok:ops.toList.all (operOk C.N)=true):∀(qs:List Nat) (ρ:Env) (K:Env→Prop),(∀q ∈ qs,q ∈ qs0)→ascend qs=true→aqLRun C ops.toList L qs K ρ →
  ∃ρq,K ρq∧(∀q ∈ qs,QFactL C ops ρq L q)∧∀s,(∀q ∈ qs,dstOf ops q ≠ some s)→get ρq s=get ρ s
 | [],ρ,K,_,_,h=>⟨ρ,h,fun q hq=>(by cases hq),fun _ _=>rfl⟩
 | i :: r,ρ,K,hsub,hasc,h=>by
  obtain⟨hlt,hasc'⟩:=ascend_cons hasc
  simp only[aqLRun] at h
  cases ho:ops.toList[i]? with
  | none=>rw[ho] at h;exact h.elim
  | some o =>
   rw[ho] at h
   have ho':ops[i]?=some o:=by simpa using ho
   obtain⟨x,hy,hK⟩:=aqL_yields ho' (List.all_eq_true.1 hok o (List.mem_of_getElem? ho)) h
   obtain⟨ρq,h1,h2,h3⟩:=aqWRun_facts hm hok r _ K (fun q hq=>hsub q (List.mem_cons_of_mem _ hq)) hasc' hK
   obtain⟨p1,p2⟩:=mixW_at hm ho'
   have hself:∀d,o.dst=some d→d ∉ o.looksAt ops:=fun d hd hm'=>by
    have:=(p2 i (hsub i List.mem_cons_self) d (by simp [dstOf,ho',hd])).1 hm'
    exact absurd (p1 i this) (Nat.lt_irrefl i)
   refine⟨ρq,h1,fun q hq => ?_,fun s hs => ?_⟩
   ·rcases List.mem_cons.1 hq with rfl|hq
    ·refine⟨o,x,ho',hy.of_agree fun t ht => ?_,fun d hd => ?_⟩
     ·rw[h3 t fun q' hq' he => ?_,get_put,if_neg fun he=>hself t he ht]
      have:=(p2 q' (hsub q' (List.mem_cons_of_mem _ hq')) t he).1 ht
      have:=p1 q' this;have:=hlt q' hq';omega
     ·rw[h3 d fun q' hq' he => ?_,get_put,if_pos hd]
      exact(p2 q' (hsub q' (List.mem_cons_of_mem _ hq')) d he).2 (by have:=hlt q' hq';omega) hd
    ·exact h2 q hq
   ·rw[h3 s fun q hq=>hs q (List.mem_cons_of_mem _ hq),get_put,if_neg]
    have:=hs i List.mem_cons_self
    simpa [dstOf,ho'] using this
end
def tailOk (ops:Array Oper) (qs:List Nat) (z:Nat):Bool :=
 mixW ops qs && !(qs.contains z) && ((List.range ops.size).all fun i=>qs.contains i || i == z) &&
 (match ops[z]? with|some o=>o.guard.isNone && qs.all (fun q=>(predsOf o).contains q)|none=>false)
section
variable {C:Cfg} {ops:Array Oper} {L:AHeap}
theorem rdw_sound {qs:List Nat} {z:Nat} {oz:Oper} (hm:mixW ops qs=true) (hall:∀i,i<ops.size→i ∈ qs∨i=z) (hz:z ∉ qs) (hoz:ops[z]?=some oz) (hpz:∀q ∈ qs,q ∈ predsOf oz)
  {K:ARes} {n:Nat} {w0:World} {M A0:Foot} {Q:Exit→Act→World→Prop} (hQ:∀a w,post w0 M A0 C.N K a w→Q .normal a w) {ρT:Env} (hK:GOp C ops z ρT L K) :
  ∀(f:Nat) (listed:Array Bool) (a:Act) (w:World),listed.size=ops.size→listed.getD z true=false →
   (∀l:List Nat,l.Nodup→(∀i ∈ l,listed.getD i true=false)→l.length≤f) →
   (∀q ∈ qs,listed.getD q true=false→QFactL C ops ρT L q)→St w0 M A0 C.N (mask ops qs listed ρT) L a w →
   wpAnyIn (Fw C.r) n C.P .any ops Q f listed a w:=by
 have allOf:∀listed:Array Bool,listed.size=ops.size→Region.ready .any ops listed=[]→∀i,listed.getD i true=true:=by
  intro listed hsz hr i
  induction i using Nat.strongRecOn with
  | _ i ih =>
   cases hi:listed.getD i true with
   | true=>rfl
   | false =>
    exfalso
    have hlt:i<ops.size:=by
     rw[← hsz]
     by_cases h:i<listed.size
     ·exact h
     ·simp [Array.getD,h] at hi
    have ho:ops[i]?=some ops[i]:=Array.getElem?_eq_getElem hlt
    have:i ∈ Region.ready .any ops listed:=mem_ready.2 ⟨hi,_,ho,fun e he hb=>by
     have hp:=(mixW_at hm ho).1 e.on (List.mem_map.2 ⟨e,List.mem_filter.2 ⟨by simpa using he,hb⟩,rfl⟩)
     exact getD_ft (by omega) (ih _ hp)⟩
    rw[hr] at this;cases this
 intro f
 induction f with
 | zero =>
  intro listed a w hsz hlz hcnt hfact hs
  exfalso
  have:=hcnt [z] (by simp) (fun i hi=>by simp at hi;subst hi;exact hlz)
  simp at this
 | succ f ih =>
  intro listed a w hsz hlz hcnt hfact hs
  refine⟨fun hr=>(by have:=allOf listed hsz hr z;rw[hlz] at this;cases this),fun i hi => ?_⟩
  obtain⟨hun,o,ho,hpre⟩:=mem_ready.1 hi
  have hlt:i<ops.size:=(Array.getElem?_eq_some_iff.1 ho).1
  by_cases ez:i=z
  ·subst ez
   rw[ho] at hoz;cases hoz
   have hql:∀q ∈ qs,listed.getD q true=true:=fun q hq=>by
    obtain⟨e,he,rfl⟩:=List.mem_map.1 (hpz q hq)
    obtain⟨he1,he2⟩:=List.mem_filter.1 he
    exact getD_tf (hpre e (by simpa using he1) he2)
   have hs':St w0 M A0 C.N ρT L a w:=st_forget hs fun s => .inr (mask_out fun q hq hl _=>by rw[hql q hq] at hl;cases hl).symm
   refine wpOpIn_mono ?_ (hK n w0 M A0 a w Q hs')
   intro a' w' hp
   have hready:Region.ready .any ops (listed.setIfInBounds i true)=[]:=by
    cases hh:Region.ready .any ops (listed.setIfInBounds i true) with
    | nil=>rfl
    | cons j r =>
     exfalso
     have hj:j ∈ Region.ready .any ops (listed.setIfInBounds i true):=by rw[hh];exact List.mem_cons_self
     obtain⟨h1,oj,hoj,_⟩:=mem_ready.1 hj
     have hjlt:j<ops.size:=(Array.getElem?_eq_some_iff.1 hoj).1
     by_cases e:j=i
     ·subst e
      simp [Array.getD,show j<listed.size by omega] at h1
     ·rw[getD_set_ne true (Ne.symm e)] at h1
      rw[hql j ((hall j hjlt).resolve_right e)] at h1;cases h1
   cases f with
   | zero=>exact⟨hready,hQ _ _ hp⟩
   | succ f=>exact⟨fun _=>hQ _ _ hp,fun j hj=>by rw[hready] at hj;cases hj⟩
  ·have hq:=(hall i hlt).resolve_right ez
   obtain⟨m1,m2⟩:=mixW_at hm ho
   have hlooks:∀t ∈ o.looksAt ops,get (mask ops qs listed ρT) t=get ρT t:=fun t ht=>mask_out fun q hq hl hd=>by
    have hp:=(m2 q hq t hd).1 ht
    obtain⟨e,he,rfl⟩:=List.mem_map.1 hp
    obtain⟨he1,he2⟩:=List.mem_filter.1 he
    have:=getD_tf (hpre e (by simpa using he1) he2)
    rw[hl] at this;cases this
   have hcnt':∀l:List Nat,l.Nodup→(∀j ∈ l,(listed.setIfInBounds i true).getD j true=false)→l.length≤f:=fun l hn hl=>by
    have hil:i ∉ l:=fun h=>by
     have:=hl i h
     simp [Array.getD,show i<listed.size by omega] at this
    have:=hcnt (i :: l) (List.nodup_cons.2 ⟨hil,hn⟩) (fun j hj=>by
     rcases List.mem_cons.1 hj with rfl|hj
     ·exact hun
     ·have:=hl j hj
      have hne:i ≠ j:=fun e=>hil (e ▸ hj)
      rwa [getD_set_ne true hne] at this)
    simp at this;omega
   have hset:∀j,j ≠ i→(listed.setIfInBounds i true).getD j true=listed.getD j true:=fun j hj=>getD_set_ne true (Ne.symm hj)
   obtain⟨o',x,ho',hy,hgx⟩:=hfact i hq hun
   rw[ho] at ho';cases ho'
   refine wpOpIn_mono ?_ (hy _ hlooks n w0 M A0 a w Q hs)
   rintro a' w' ⟨ρ2,L2,⟨rfl,rfl⟩,hs2⟩
   refine ih _ a' w' (by simpa using hsz) (by rw[hset z (Ne.symm ez)];exact hlz) hcnt' (fun q hq' hl=>hfact q hq' (by
    by_cases e:q=i
    ·subst e;exact hun
    ·rwa [hset q e] at hl)) (st_forget hs2 fun s => ?_)
   rcases mask_or (ops:=ops) qs (listed.setIfInBounds i true) ρT s with ⟨h1,_⟩|⟨h1,h2⟩
   ·exact .inl h1
   ·refine .inr ?_
    rw[h1,get_put]
    by_cases hd:o.dst=some s
    ·rw[if_pos hd];exact hgx s hd
    ·rw[if_neg hd,mask_out fun q hq' hl hds => ?_]
     by_cases e:q=i
     ·subst e;exact hd (by simpa [dstOf,ho] using hds)
     ·exact h2 q hq' (by rw[hset q e];exact hl) hds
end
def rdwK (C:Cfg) (all:List Oper) (z:Nat) (K:ARes) (L:AHeap) (ρ:Env):Prop:=match all[z]? with|some o=>aopX C o ρ L K|none=>False
theorem AWp.readW {C:Cfg} {id:Nat} {ops:Array Oper} {Q:AQ} {ρ:Env} {L:AHeap} (hmx:C.P.follows .mixedOrders=true) (qs:List Nat) (z:Nat) (hT:tailOk ops qs z=true) (h:aqLRun C ops.toList L qs (rdwK C ops.toList z (Q .normal) L) ρ) :
  AWp C (.region id ops true) Q ρ L:=fun hok n w0 M A0 a w hs=>by
 simp only[tailOk,Bool.and_eq_true,List.all_eq_true,Bool.not_eq_true',Bool.or_eq_true,beq_iff_eq,List.contains_eq_mem,decide_eq_true_eq,decide_eq_false_iff_not] at hT
 obtain⟨⟨⟨hm,hz⟩,hal⟩,hzo⟩:=hT
 have hasc:=mixW_asc hm
 obtain⟨ρq,hK,hF,hother⟩  :=aqWRun_facts hm hok qs ρ _ (fun _ h=>h) hasc.1 h
 refine wpIn_region_any hmx ?_
 obtain⟨A,ds,hs'⟩:=st_iff.1 hs
 cases hoz:ops[z]? with
 | none=>rw[hoz] at hzo;cases hzo
 | some oz =>
  rw[hoz] at hzo
  simp only[Bool.and_eq_true,List.all_eq_true,List.contains_eq_mem,decide_eq_true_eq,Option.isNone_iff_eq_none] at hzo
  have hzl:ops.toList[z]?=some oz:=by simpa using hoz
  unfold rdwK at hK
  rw[hzl] at hK
  have hoo:=List.all_eq_true.1 hok oz (List.mem_of_getElem? hzl)
  have hzlt:z<ops.size:=(Array.getElem?_eq_some_iff.1 hoz).1
  have hgo:GOp C ops z ρq L (Q .normal):=AOp.gop hoz hzo.1 (aop_sound (operOk_dst hoo) (operOk_def hoo) (aopX_aop hK))
  refine rdw_sound hm (fun i hi=>hal i (List.mem_range.2 hi)) hz hoz (fun q hq=>hzo.2 q hq) (K:=Q .normal) (fun a w ⟨ρ',L',h1,h2⟩=>⟨ρ',L',h1,h2⟩) hgo ops.size _ a _ (by simp) (by simp [Array.getD,hzlt]) ?_ (fun q hq _=>hF q hq) (st_forget (st_iff.2 ⟨A,ds,hs'.drew⟩) fun s => ?_)
  ·intro l hn hl
   have:=List.Nodup.length_le_of_subset hn (l₂:=List.range ops.size) (fun i hi=>by
    have:=hl i hi
    rw[List.mem_range]
    by_cases h:i<ops.size
    ·exact h
    ·simp [Array.getD,h] at this)
   simpa using this
  ·rcases mask_or (ops:=ops) qs (Array.replicate ops.size false) ρq s with ⟨h1,_⟩|⟨h1,h2⟩
   ·exact .inl h1
   ·refine .inr ?_
    rw[h1]
    exact hother s fun q hq hd=>h2 q hq (by simp [Array.getD,hasc.2 q hq]) hd
attribute [go_sem] rdwK
end Go.AL
end
