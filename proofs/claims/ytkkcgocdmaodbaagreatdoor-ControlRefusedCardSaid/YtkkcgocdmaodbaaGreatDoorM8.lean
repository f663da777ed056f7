/- Texts of this claim's proof: WRf7, WRf8, WPd, WPf, WPc, WDl, WPb. No condition. -/
import Derived.Test.YtkkcgocdmaodbaaGreatDoorM7
import Derived.Test.YtkkcgocdmaodbaaGreatDoorM6
import Derived.Test.YtkkcgocdmaodbaaGreatDoorM4
section
namespace Go.AL
open Go Go.RowKit
set_option maxRecDepth 4000
theorem pairF_zero {ps:List Pr} (h:∀p (hp:p<ps.length) i (_hi:i<ps[p].evs.length),pairF ps (off ps p+i)=0):msgF ps=none:=by
 refine msgF_none fun k hk => ?_
 obtain⟨p,hp,i,hi,e,_⟩:=evIds_inv (List.getElem?_eq_getElem hk)
 rw[e];exact h p hp i hi
def Ahead (ps:List Pr) (f:Nat→Nat→Prop) (p i:Nat):Prop:=(∀q (hq:q<ps.length) j,q<p→j<ps[q].evs.length→f q j)∧∀j,j<i→f p j
theorem Ahead.next {ps:List Pr} {f:Nat→Nat→Prop} {p i:Nat} (h:Ahead ps f p i) (hf:f p i):Ahead ps f p (i+1) :=
 ⟨h.1,fun j hj=>by
  by_cases e:j=i
  ·rw[e];exact hf
  ·exact h.2 j (by omega)⟩
theorem Ahead.row {ps:List Pr} {f:Nat→Nat→Prop} {p:Nat} (hp:p<ps.length) (h:Ahead ps f p ps[p].evs.length):Ahead ps f (p+1) 0 :=
 ⟨fun q hq j hqp hj=>by
  by_cases e:q=p
  ·subst e;exact h.2 j hj
  ·exact h.1 q hq j (by omega) hj,fun j hj=>by omega⟩
theorem Ahead.idx {ps:List Pr} {f:Nat→Nat→Prop} {p i:Nat} (hp:p<ps.length) (hi:i≤ps[p].evs.length) (h:Ahead ps f p i) {q j:Nat} (hq:q<ps.length) (hj:j<ps[q].evs.length) (hlt:off ps q+j<off ps p+i):f q j:=by
 have mono:∀a b,a≤b→b≤ps.length→off ps a≤off ps b:=by
  intro a b hab hb
  induction b with
  | zero=>have:a=0:=by omega
          subst this;exact Nat.le_refl _
  | succ b ih =>
   by_cases e:a=b+1
   ·subst e;exact Nat.le_refl _
   ·have:=ih (by omega) (by omega)
    rw[off_succ (by omega)];omega
 by_cases h1:q<p
 ·exact h.1 q hq j h1 hj
 ·by_cases h2:q=p
  ·subst h2;exact h.2 j (by omega)
  ·have h3:=mono (p+1) q (by omega) (by omega)
   rw[off_succ hp] at h3
   omega
open Classical in
noncomputable def pastR (ps:List Pr) (x:Eid) (p:Nat):List AV:=(List.range (nev ps p+1)).map fun (k:Nat)=>ab (decide (VEv ps ((p:Int),(k:Int))∧Reach ps ((p:Int),(k:Int)) x))
theorem pastA_eq (ps:List Pr) (x:Eid):pastA ps x = .sl 1 ((List.range ps.length).map fun p => .sl 1 (pastR ps x p)):=rfl
open Classical in
theorem pastR_get {ps:List Pr} (x:Eid) {p:Nat} (hp:p<ps.length) {i:Nat} (hi:i<ps[p].evs.length):(pastR ps x p).getD ((i:Int)+1).toNat .any=ab (decide (Reach ps ((p:Int),(i:Int)+1) x)):=by
 have e:((i:Int)+1).toNat=i+1:=by omega
 unfold pastR
 rw[e,map_range_getD (by rw[nev_get hp];omega)]
 have hc:(((i+1:Nat):Int))=(i:Int)+1:=rfl
 rw[hc]
 have hv:VEv ps ((p:Int),(i:Int)+1):=⟨p,hp,i,hi,rfl⟩
 congr 2
 exact propext ⟨fun h=>h.2,fun h=>⟨hv,h⟩⟩
theorem ref12_Fault (ps:List Pr) (hs:Sm ps):PC Proofs.Tryz.prog 50 [aTr ps] (aFault (faultF ps)):=by
 have hl:=hs.procs
 refine PC.enter 137 [.cell 2 72,.tmp 3] [1,11,15] Proofs.Tryz.func50 rfl rfl rfl rfl rfl (by simp) (AWp.of ?_);simp only[go_sem]
 intro b2
 refine Wk ?_
 refine Wk ?_
 refine⟨fun h1 => ?_,fun h1 => ?_⟩
 ·refine Wk ?_
  have hf:faultF ps=((0,0),1):=by
   unfold faultF
   rw[if_pos]
   unfold inI
   rw[Bool.not_eq_true',← Bool.not_eq_true,Bool.and_eq_true,decide_eq_true_eq,decide_eq_true_eq]
   omega
  rw[hf]
  refine ret_eq ?_
  simp only[go_sem]
 ·intro h1'
  have hin:¬((!inI ps.length 1 8)=true):=by
   unfold inI
   rw[Bool.not_eq_true',← Bool.not_eq_true,Bool.and_eq_true,decide_eq_true_eq,decide_eq_true_eq]
   omega
  refine Wk ?_
  refine AWp.block (AWp.count 4 ps.length [] [1,2] (fun k vs L=>L=[(b2,.row 72 2 [aEid (0,0)] 1)]∧∀j,j<k→procF ps j=0) rfl rfl ⟨by simp [aEid],by omega⟩ ?_)
  rintro k vs L hk - ⟨rfl,hI⟩
  simp only[go_sem]
  refine Wk ?_
  refine⟨fun h2 => ?_,fun h2 => ?_⟩
  ·have hkp:k<ps.length:=by omega
   refine Wk ?_
   refine Sd ?_
   refine(ref12_head ps hs k hkp).val.use ?_;simp only[go_sem]
   refine Wk ?_
   refine⟨fun h3 => ?_,fun h3 => ?_⟩
   ·refine Wk ?_
    have hf:faultF ps=(((k:Int),0),procF ps k):=by unfold faultF;rw[if_neg hin,procFirst_hit hkp hI h3]
    rw[hf]
    refine ret_eq ?_
    simp only[go_sem]
   ·refine Wk ?_
    refine⟨_,List.Sublist.refl _,rfl,fun j hj => ?_⟩
    by_cases e:j=k
    ·rw[e];exact h3
    ·exact hI j (by omega)
  ·have hpf:=procFirst_none (ps:=ps) fun j hj=>hI j (by omega)
   refine Wk ?_
   refine AWp.block (AWp.count 6 ps.length [] [1,2] (fun p vs L=>L=[(b2,.row 72 2 [aEid (0,0)] 1)]∧Ahead ps (fun q j=>evF ps q j=0) p 0) rfl rfl ⟨by simp [aEid],fun _ _ _ h=>by omega,fun j hj=>by omega⟩ ?_)
   rintro p vs L hp - ⟨rfl,hA⟩
   simp only[go_sem]
   refine Wk ?_
   refine⟨fun h4 => ?_,fun h4 => ?_⟩
   ·have hpp:p<ps.length:=by omega
    have hgP:=getD_map (f:=aPr) hpp
    have hel:=hs.evs _ (List.getElem_mem hpp)
    refine Wk ?_
    refine AWp.block (AWp.count 7 ps[p].evs.length [] [1,2,6] (fun i vs L=>L=[(b2,.row 72 2 [aEid (0,0)] 1)]∧Ahead ps (fun q j=>evF ps q j=0) p i) rfl rfl ⟨by simp [aEid],hA⟩ ?_)
    rintro i vs L hi - ⟨rfl,hB⟩
    simp only[go_sem]
    refine W1 hgP ?_
    refine⟨fun h5 => ?_,fun h5 => ?_⟩
    ·have hie:i<ps[p].evs.length:=by omega
     refine Wk ?_
     refine Sd ?_
     refine(ref12_form ps hs p hpp i hie).val.use ?_;simp only[go_sem]
     refine Wk ?_
     refine⟨fun h6 => ?_,fun h6 => ?_⟩
     ·refine Wk ?_
      have hat:evAt ps ((p:Int),(i:Int)+1)=evF ps p i:=by simp only[evAt,Int.toNat_natCast,show ((i:Int)+1 - 1).toNat=i by omega]
      have hhit:=evFirst_hit (evIds_get hpp hie) (fun j y hj hy=>by
       obtain⟨q,hq,r,hr,e,rfl⟩:=evIds_inv hy
       have:=hB.idx hpp (by omega) hq hr (by omega)
       simpa only [evAt,Int.toNat_natCast,show ((r:Int)+1 - 1).toNat=r by omega] using this) (by rw[hat];exact h6)
      have hf:faultF ps=(((p:Int),(i:Int)+1),evF ps p i):=by unfold faultF;rw[if_neg hin,hpf,hhit,hat]
      rw[hf]
      refine ret_eq ?_
      simp only[go_sem]
     ·refine Wk ?_
      exact⟨_,List.Sublist.refl _,rfl,hB.next h6⟩
    ·have e:i=ps[p].evs.length:=by omega
     rw[e] at hB
     refine Wk ?_
     exact⟨_,List.Sublist.refl _,rfl,hB.row hpp⟩
   ·have hpn:p=ps.length:=by omega
    have hef:evFirst ps=none:=evFirst_none fun j y hy=>by
     obtain⟨q,hq,r,hr,e,rfl⟩:=evIds_inv hy
     have:=hA.1 q hq r (by omega) hr
     simpa only [evAt,Int.toNat_natCast,show ((r:Int)+1 - 1).toNat=r by omega] using this
    have hfm:=formed_of_evFirst hef
    clear hA
    refine Wk ?_
    refine AWp.block (AWp.count 9 ps.length [] [1,2] (fun p vs L=>L=[(b2,.row 72 2 [aEid (0,0)] 1)]∧Ahead ps (fun q j=>pairF ps (off ps q+j)=0) p 0) rfl rfl ⟨by simp [aEid],fun _ _ _ h=>by omega,fun j hj=>by omega⟩ ?_)
    rintro p vs L hp - ⟨rfl,hA⟩
    simp only[go_sem]
    refine Wk ?_
    refine⟨fun h4 => ?_,fun h4 => ?_⟩
    ·have hpp:p<ps.length:=by omega
     have hgP:=getD_map (f:=aPr) hpp
     have hel:=hs.evs _ (List.getElem_mem hpp)
     refine Wk ?_
     refine AWp.block (AWp.count 10 ps[p].evs.length [] [1,2,9] (fun i vs L=>L=[(b2,.row 72 2 [aEid (0,0)] 1)]∧Ahead ps (fun q j=>pairF ps (off ps q+j)=0) p i) rfl rfl ⟨by simp [aEid],hA⟩ ?_)
     rintro i vs L hi - ⟨rfl,hB⟩
     simp only[go_sem]
     refine W1 hgP ?_
     refine⟨fun h5 => ?_,fun h5 => ?_⟩
     ·have hie:i<ps[p].evs.length:=by omega
      refine Wk ?_
      intro b11 _
      refine Wk ?_
      refine Sd ?_
      refine(ref12_paired ps hs hfm p hpp i hie).val.use ?_;simp only[go_sem]
      refine Wk ?_
      refine⟨fun h6 => ?_,fun h6 => ?_⟩
      ·refine Wk ?_
       have hhit:=msgF_hit (evIds_get hpp hie) (fun j hj=>by
        have hjl:j<(evIds ps).length:=by have:=(List.getElem?_eq_some_iff.1 (evIds_get hpp hie)).1;omega
        obtain⟨q,hq,r,hr,e,_⟩:=evIds_inv (List.getElem?_eq_getElem hjl)
        rw[e];exact hB.idx hpp (by omega) hq hr (by omega)) h6
       have hf:faultF ps=(((p:Int),(i:Int)+1),pairF ps (off ps p+i)):=by unfold faultF;rw[if_neg hin,hpf,hef,hhit]
       rw[hf]
       refine ret_eq ?_
       simp only[go_sem]
      ·refine Wk ?_
       exact⟨_,List.Sublist.refl _,rfl,hB.next h6⟩
     ·have e:i=ps[p].evs.length:=by omega
      rw[e] at hB
      refine Wk ?_
      exact⟨_,List.Sublist.refl _,rfl,hB.row hpp⟩
    ·have hmf:msgF ps=none:=pairF_zero fun q hq r hr=>hA.1 q hq r (by omega) hr
     clear hA
     have hn1:1≤ps.length:=by omega
     refine Wk ?_
     refine Sd ?_
     refine(ref12_acyclic ps hs hmf hn1).val.use ?_;simp only[go_sem]
     refine Wk ?_
     refine⟨fun h7 => ?_,fun h7 => ?_⟩
     ·refine Wk ?_
      have hf:faultF ps=((0,0),0):=by unfold faultF;rw[if_neg hin,hpf,hef,hmf,acyB_cyc hs hmf h7]
      rw[hf]
      refine ret_eq ?_
      simp only[go_sem]
     ·refine Wk ?_
      refine AWp.block (AWp.count 13 ps.length [] [1,2] (fun p vs L=>L=[(b2,.row 72 2 [aEid (0,0)] 1)]∧Ahead ps (fun q j=>¬Reach ps ((q:Int),(j:Int)+1) ((q:Int),(j:Int)+1)) p 0) rfl rfl ⟨by simp [aEid],fun _ _ _ h=>by omega,fun j hj=>by omega⟩ ?_)
      rintro p vs L hp - ⟨rfl,hA⟩
      simp only[go_sem]
      refine Wk ?_
      refine⟨fun h4 => ?_,fun h4 => ?_⟩
      ·have hpp:p<ps.length:=by omega
       have hgP:=getD_map (f:=aPr) hpp
       have hel:=hs.evs _ (List.getElem_mem hpp)
       refine Wk ?_
       refine AWp.block (AWp.count 14 ps[p].evs.length [] [1,2,13] (fun i vs L=>L=[(b2,.row 72 2 [aEid (0,0)] 1)]∧Ahead ps (fun q j=>¬Reach ps ((q:Int),(j:Int)+1) ((q:Int),(j:Int)+1)) p i) rfl rfl ⟨by simp [aEid],hA⟩ ?_)
       rintro i vs L hi - ⟨rfl,hB⟩
       simp only[go_sem]
       refine W1 hgP ?_
       refine⟨fun h5 => ?_,fun h5 => ?_⟩
       ·have hie:i<ps[p].evs.length:=by omega
        have hpast:=ref12_Past ps hs hmf hn1 p hpp i hie
        rw[pastA_eq] at hpast
        have hg1:((List.range ps.length).map fun q=>AV.sl 1 (pastR ps ((p:Int),(i:Int)+1) q)).getD p .any = .sl 1 (pastR ps ((p:Int),(i:Int)+1) p):=map_range_getD hpp _
        have hg2:=pastR_get ((p:Int),(i:Int)+1) hpp hie
        have hgl:(pastR ps ((p:Int),(i:Int)+1) p).length=ps[p].evs.length+1:=by unfold pastR;rw[List.length_map,List.length_range,nev_get hpp]
        refine Wk ?_
        intro b15 _
        refine Wk ?_
        refine Sd ?_
        refine(hpast).val.use ?_;simp only[go_sem,hg1,hg2,hgl,List.length_range]
        refine Sd ?_
        refine Wk ?_
        refine⟨fun h6 => ?_,fun h6 => ?_⟩
        ·refine Wk ?_
         have hhit:=cycF_hit (evIds_get hpp hie) (fun j y hj hy=>by
          obtain⟨q,hq,r,hr,e,rfl⟩:=evIds_inv hy
          exact hB.idx hpp (by omega) hq hr (by omega)) h6
         have hf:faultF ps=(((p:Int),(i:Int)+1),10):=by unfold faultF;rw[if_neg hin,hpf,hef,hmf,hhit]
         rw[hf]
         refine ret_eq ?_
         simp only[go_sem]
        ·refine Wk ?_
         exact⟨_,List.Sublist.refl _,rfl,hB.next h6⟩
       ·have e:i=ps[p].evs.length:=by omega
        rw[e] at hB
        refine Wk ?_
        exact⟨_,List.Sublist.refl _,rfl,hB.row hpp⟩
      ·have hcf:cycF ps=none:=cycF_none fun j y hy=>by
        obtain⟨q,hq,r,hr,e,rfl⟩:=evIds_inv hy
        exact hA.1 q hq r (by omega) hr
       refine Wk ?_
       have hf:faultF ps=((0,0),0):=by unfold faultF;rw[if_neg hin,hpf,hef,hmf,hcf]
       rw[hf]
       refine ret_eq ?_
       simp only[go_sem]
theorem ref12_Valid (ps:List Pr) (hs:Sm ps):PC Proofs.Tryz.prog 22 [aTr ps] (ab (validF ps)):=by
 refine PC.enter 12 [.tmp 2] [1,3] Proofs.Tryz.func22 rfl rfl rfl rfl rfl (by simp) (AWp.of ?_);simp only[go_sem]
 refine Wk ?_
 refine Sd ?_
 refine(ref12_Fault ps hs).val.use ?_;simp only[go_sem]
 refine Sd ?_
 intros
 refine AWp.of ?_;simp only[go_sem]
 refine Wk ?_
 refine ret_eq ?_;simp only[go_sem]
 rfl
end Go.AL
end
section
namespace Go.AL
open Go Go.RowKit
set_option maxRecDepth 4000
theorem cntOk_get {ps:List Pr} {c:List Int} {p:Nat} (hp:p<ps.length) (hc:p<c.length):cntOk ps c p=(decide (0≤c[p]) && decide (c[p]≤ps[p].evs.length)):=by
 simp only[cntOk,List.getElem?_eq_getElem hp,List.getElem?_eq_getElem hc]
theorem ref12_Cut (ps:List Pr) (hs:Sm ps) (c:List Int):PC Proofs.Tryz.prog 139 [aTr ps,aInts c] (ab (decide (c.length=ps.length) && inRangeF ps c)):=by
 have hl:=hs.procs
 refine PC.enter 37 [.tmp 4] [2] Proofs.Tryz.func139 rfl rfl rfl rfl rfl (by simp) (AWp.of ?_);simp only[go_sem]
 refine Wk ?_
 refine Wk ?_
 refine⟨fun h1 => ?_,fun h1 => ?_⟩
 ·refine Wk ?_
  refine ret_eq ?_;simp only[go_sem]
  rw[decide_eq_false (by omega)];rfl
 ·have hc:c.length=ps.length:=by omega
  refine Wk ?_
  refine AWp.block (AWp.count 5 c.length [] [1,2] (fun p vs L=>L=[]∧∀q,q<p→cntOk ps c q=true) rfl rfl ⟨rfl,by omega⟩ ?_)
  rintro p vs L hp - ⟨rfl,hI⟩
  simp only[go_sem]
  refine Wk ?_
  refine⟨fun h2 => ?_,fun h2 => ?_⟩
  ·have hpc:p<c.length:=by omega
   have hpp:p<ps.length:=by omega
   have hco:=cntOk_get hpp hpc
   have hgP:=getD_map (f:=aPr) hpp
   have hgc:=getD_map (f:=ai) hpc
   refine AWp.seq (AWp.block (AWp.seq ?_))
   refine AWp.drawn mixed 18 (by kernel_rfl) ?_;simp only[go_sem,hgP,hgc]
   refine Sd ?_
   refine Wk ?_
   refine⟨fun h3 => ?_,fun h3 => ?_⟩
   ·refine Wk ?_
    refine ret_eq ?_;simp only[go_sem]
    have:inRangeF ps c=false:=by
     unfold inRangeF
     rw[List.all_eq_false]
     refine⟨p,List.mem_range.2 hpc,?_⟩
     rw[hco]
     simp only[Bool.and_eq_true,decide_eq_true_eq]
     omega
    rw[this,Bool.and_false]
   ·intro h4
    refine Wk ?_
    refine⟨_,List.Sublist.refl _,rfl,fun q hq => ?_⟩
    by_cases e:q=p
    ·subst e;rw[hco];simp only[Bool.and_eq_true,decide_eq_true_eq];omega
    ·exact hI q (by omega)
  ·refine Wk ?_
   refine ret_eq ?_;simp only[go_sem]
   have:inRangeF ps c=true:=by
    unfold inRangeF
    rw[List.all_eq_true]
    exact fun q hq=>hI q (by have:=List.mem_range.1 hq;omega)
   rw[this,decide_eq_true hc];rfl
theorem ref12_Consistent (ps:List Pr) (hs:Sm ps) (hn:1≤ps.length) (c:List Int) (hc:c.length=ps.length) (hr:inRangeF ps c=true):PC Proofs.Tryz.prog 140 [aTr ps,aInts c] (ab (closedF ps c)):=by
 have hl:=hs.procs
 refine PC.enter 47 [.tmp 4] [2,7,8] Proofs.Tryz.func140 rfl rfl rfl rfl rfl (by simp) (AWp.of ?_);simp only[go_sem]
 refine Wk ?_
 refine AWp.block (AWp.count 5 c.length [] [1,2] (fun p vs L=>L=[]∧Ahead ps (fun q j=>badEv ps c (((q:Int),(j:Int)+1),evq ps q j)=false) p 0) rfl rfl ⟨rfl,fun _ _ _ h=>by omega,fun j hj=>by omega⟩ ?_)
 rintro p vs L hp - ⟨rfl,hA⟩
 simp only[go_sem]
 refine Wk ?_
 refine⟨fun h1 => ?_,fun h1 => ?_⟩
 ·have hpc:p<c.length:=by omega
  have hpp:p<ps.length:=by omega
  have hgP:=getD_map (f:=aPr) hpp
  have hgc:=getD_map (f:=ai) hpc
  have hel:=hs.evs _ (List.getElem_mem hpp)
  obtain⟨hr1,hr2⟩:=inRangeF_get hr hc hpp
  refine Wk ?_
  refine AWp.block (AWp.count 6 c[p].toNat [] [1,2,5] (fun i vs L=>L=[]∧Ahead ps (fun q j=>badEv ps c (((q:Int),(j:Int)+1),evq ps q j)=false) p i) rfl rfl ⟨rfl,hA⟩ ?_)
  rintro i vs L hi - ⟨rfl,hB⟩
  simp only[go_sem]
  refine W1 hgc ?_
  refine⟨fun h2 => ?_,fun h2 => ?_⟩
  ·have hie:i<ps[p].evs.length:=by omega
   have hge:=getD_map (f:=aEv) hie
   have hbad:badEv ps c (((p:Int),(i:Int)+1),evq ps p i)=(decide (ps[p].evs[i].kind=3) && decide (cAt c (findIn (evIds ps) 2 ps[p].evs[i].msg).1<(findIn (evIds ps) 2 ps[p].evs[i].msg).2)):=by
    rw[evq_get hpp hie]
    simp only[badEv,cAt_nat hpc,decide_eq_true (show (i:Int)+1≤c[p] by omega),Bool.and_true]
   have hev:=evIds_get hpp hie
   have hq0:=evq_get hpp hie
   have hfd:=ref12_Find ps hs 2 ps[p].evs[i].msg
   obtain⟨f1,f2⟩:=findIn_proc hn 2 ps[p].evs[i].msg
   have hgs:=getD_cAt (c:=c) f1 (by omega)
   refine W2 hgP hge ?_
   intro b7
   refine Wk ?_
   refine⟨fun h3 => ?_,fun h3 => ?_⟩
   ·refine Wk ?_
    refine Sd ?_
    refine(hfd).val.use ?_;simp only[go_sem]
    refine Sd ?_
    intro b8
    refine AWp.seq ?_
    refine AWp.drawn mixed 7 (by kernel_rfl) ?_;simp only[go_sem,hgs]
    refine Sd ?_
    refine Wk ?_
    refine⟨fun h4 => ?_,fun h4 => ?_⟩
    ·refine Wk ?_
     refine ret_eq ?_;simp only[go_sem]
     unfold closedF
     have:(evIds ps).any (badEv ps c)=true:=List.any_eq_true.2 ⟨_,List.mem_of_getElem? hev,by rw[← hq0,hbad,decide_eq_true h3,decide_eq_true h4];rfl⟩
     rw[this];rfl
    ·refine Wk ?_
     exact⟨_,List.Sublist.refl _,rfl,hB.next (by rw[hbad,decide_eq_false h4,Bool.and_false])⟩
   ·refine Wk ?_
    exact⟨_,List.Sublist.refl _,rfl,hB.next (by rw[hbad,decide_eq_false h3];rfl)⟩
  ·refine Wk ?_
   refine⟨_,List.Sublist.refl _,rfl,Ahead.row hpp ⟨hB.1,fun j hj => ?_⟩⟩
   by_cases e:j<i
   ·exact hB.2 j e
   ·simp only[badEv,cAt_nat hpc,decide_eq_false (show ¬(j:Int)+1≤c[p] by omega),Bool.and_false,Bool.false_and]
 ·refine Wk ?_
  refine ret_eq ?_;simp only[go_sem]
  unfold closedF
  have:(evIds ps).any (badEv ps c)=false:=by
   rw[List.any_eq_false]
   intro x hx
   obtain⟨k,hk⟩:=List.getElem?_of_mem hx
   obtain⟨q,hq,j,hj,_,rfl⟩:=evIds_inv hk
   have:=hA.1 q hq j (by omega) hj
   dsimp only at this
   rw[evq_get hq hj] at this
   rw[this];decide
  rw[this];rfl
inductive Pd where
 | mk (kind n proc peer:Int) (name:ByteArray) (l:List Pd)
def Pd.l:Pd→List Pd | .mk _ _ _ _ _ l=>l
def Pd.kind:Pd→Int | .mk k _ _ _ _ _=>k
mutual
def aPd:Pd→AV
 | .mk k n p q s l => .agg [ai k,ai n,ai p,ai q,astr s,.sl 6 (aPdL l)]
def aPdL:List Pd→List AV
 | []=>[]
 | x :: r=>aPd x :: aPdL r
end
theorem aPdL_map:∀l:List Pd,aPdL l=l.map aPd
 | []=>by rw[aPdL];rfl
 | x :: r=>by rw[aPdL,aPdL_map r];rfl
@[go_sem] theorem aPd_mk (k n p q:Int) (s:ByteArray) (l:List Pd):aPd (.mk k n p q s l) = .agg [ai k,ai n,ai p,ai q,astr s,.sl 6 (l.map aPd)]:=by rw[aPd,aPdL_map]
theorem Pd.ind {P:Pd→Prop} (h:∀k n p q s l,(∀x ∈ l,P x)→P (.mk k n p q s l)):∀t,P t
 | .mk k n p q s l=>h k n p q s l fun x _hx=>Pd.ind h x
termination_by t=>SizeOf.sizeOf t
decreasing_by have:=List.sizeOf_lt_of_mem _hx;simp;omega
mutual
def szF:Pd→Nat
 | .mk _ _ _ _ _ l=>szL l+1
def szL:List Pd→Nat
 | []=>0
 | x :: r=>szF x+szL r
end
mutual
def dpF:Pd→Nat
 | .mk _ _ _ _ _ l=>dpL l+1
def dpL:List Pd→Nat
 | []=>0
 | x :: r=>max (dpF x) (dpL r)
end
theorem szF_pos (t:Pd):1≤szF t:=by cases t;rw[szF];omega
theorem szL_append:∀l r:List Pd,szL (l ++ r)=szL l+szL r
 | [],r=>by rw[List.nil_append,szL];omega
 | x :: l,r=>by rw[List.cons_append,szL,szL,szL_append l r];omega
theorem szL_len:∀l:List Pd,l.length≤szL l
 | []=>by simp
 | x :: l=>by rw[szL,List.length_cons];have:=szL_len l;have:=szF_pos x;omega
theorem szL_mem:∀ {l:List Pd} {x:Pd},x ∈ l→szF x≤szL l
 | y :: l,x,h=>by
  rw[szL]
  rcases List.mem_cons.1 h with rfl|h
  ·omega
  ·have:=szL_mem h;omega
theorem dpL_append:∀l r:List Pd,dpL (l ++ r)=max (dpL l) (dpL r)
 | [],r=>by rw[List.nil_append,dpL];omega
 | x :: l,r=>by rw[List.cons_append,dpL,dpL,dpL_append l r];omega
def cntF (s:Nat) (lim:Int):Int:=if (s:Int)≤lim then s else lim+1
theorem cntF_one {lim:Int} (h:0≤lim):cntF 1 lim=1:=by unfold cntF;split <;> omega
theorem cntF_step {a b:Nat} {lim:Int} (h:cntF a lim≤lim):cntF a lim+cntF b (lim - cntF a lim)=cntF (a+b) lim:=by
 unfold cntF at *
 split at h
 ·split <;> split <;> omega
 ·omega
theorem cntF_stay {a b:Nat} {lim:Int} (h:¬cntF a lim≤lim) (hab:a≤b):cntF a lim=cntF b lim:=by
 unfold cntF at *
 split at h
 ·omega
 ·split <;> split <;> omega
theorem szL_take {l:List Pd} {i:Nat} (hi:i<l.length):szL (l.take (i+1))=szL (l.take i)+szF l[i]:=by
 rw[List.take_succ_eq_append_getElem hi,szL_append,szL,szL];omega
theorem szL_take_le (l:List Pd) (i:Nat):szL (l.take i)≤szL l:=by
 have h:=szL_append (l.take i) (l.drop i)
 rw[List.take_append_drop] at h
 omega
theorem ref28_count (t:Pd):∀lim:Int,0≤lim→lim≤1000→PC Proofs.Tryz.prog 43 [aPd t,ai lim] (ai (cntF (szF t) lim)):=by
 induction t using Pd.ind with
 | _ k n p q s l ih =>
 intro lim h0 h1
 have hsz:szF (.mk k n p q s l)=1+szL l:=by rw[szF];omega
 rw[hsz]
 refine PC.enter 31 [.tmp 4] [2] Proofs.Tryz.func43 rfl rfl rfl rfl rfl (by simp) (AWp.of ?_);simp only[go_sem]
 refine Wk ?_
 -- what n is behind i rounds
 refine AWp.block (AWp.loopN [5,6] [1,2] (fun m vs L=>∃i:Nat,i≤l.length∧i≤1001∧L=[]∧m=l.length - i∧vs=[ai (cntF (1+szL (l.take i)) lim),ai i]) l.length ?_ ?_)
 ·refine⟨0,by omega,by omega,rfl,by omega,?_⟩
  rw[List.take_zero,szL,cntF_one h0];rfl
 rintro m vs L - ⟨i,hi,hi2,rfl,rfl,rfl⟩
 have hle:=szL_len (l.take i)
 have htl:(l.take i).length=i:=by rw[List.length_take];omega
 have hst:=szL_take_le l i
 have hcb:0≤cntF (1+szL (l.take i)) lim∧cntF (1+szL (l.take i)) lim≤1001:=by unfold cntF;split <;> omega
 simp only[go_sem]
 refine Wk ?_
 refine⟨fun h2 h3 => ?_,fun h2 => ?_⟩
 ·have hil:i<l.length:=by omega
  have hgi:=getD_map (f:=aPd) hil
  have hlim:(i:Int)<lim:=by
   unfold cntF at h3;split at h3 <;> omega
  have hch:=ih l[i] (List.getElem_mem hil) (lim - cntF (1+szL (l.take i)) lim) (by omega) (by omega)
  have hstep:=cntF_step (b:=szF l[i]) h3
  have hcc:cntF (szF l[i]) (lim - cntF (1+szL (l.take i)) lim)≤1001∧0≤cntF (szF l[i]) (lim - cntF (1+szL (l.take i)) lim):=by
   have:=szF_pos l[i]
   generalize cntF (1+szL (l.take i)) lim=c at *
   unfold cntF;split <;> omega
  have hsu:=szL_take hil
  have hnew:cntF (1+szL (l.take (i+1))) lim=cntF (1+szL (l.take i)) lim+cntF (szF l[i]) (lim - cntF (1+szL (l.take i)) lim):=by rw[hstep,hsu,Nat.add_assoc]
  generalize cntF (1+szL (l.take i)) lim=c at *
  generalize cntF (szF l[i]) (lim - c)=d at *
  generalize l[i]=x at *
  obtain⟨k2,n2,p2,q2,s2,l2⟩:=x
  simp only[aPd_mk] at hgi hch
  refine Sd ?_
  refine AWp.of ?_;simp only[go_sem,hgi]
  refine Sd ?_
  refine(hch).val.use ?_;simp only[go_sem]
  refine Sd ?_
  refine Wk ?_
  exact⟨_,List.Sublist.refl _,l.length - (i+1),by omega,i+1,by omega,by omega,rfl,rfl,by rw[hnew];rfl⟩
 ·refine Wk ?_
  refine ret_eq ?_;simp only[go_sem]
  by_cases h4:cntF (1+szL (l.take i)) lim≤lim
  ·have e:i=l.length:=by
    by_cases e:(i:Int)<l.length
    ·exact absurd h4 (by have:=h2 e;omega)
    ·omega
   rw[e,List.take_length]
  ·rw[cntF_stay (b:=1+szL l) h4 (by omega)]
theorem ref28_Size (t:Pd):PC Proofs.Tryz.prog 18 [aPd t] (ai (cntF (szF t) 200)):=by
 have hc:=ref28_count t 200 (by decide) (by decide)
 have hb:cntF (szF t) 200≤201:=by unfold cntF;split <;> omega
 obtain⟨k,n,p,q,s,l⟩:=t
 simp only[aPd_mk] at hc
 refine PC.enter 6 [.tmp 2] [1] Proofs.Tryz.func18 rfl rfl rfl rfl rfl (by simp) (AWp.of ?_);simp only[go_sem]
 refine Wk ?_
 refine Sd ?_
 refine(hc).val.use ?_;simp only[go_sem]
 refine Wk ?_
 refine ret_eq ?_;simp only[go_sem]
 congr 2
 split <;> omega
def capF (d:Nat) (m:Int):Int:=if (d:Int)≤m then d else m+1
theorem dpL_take {l:List Pd} {i:Nat} (hi:i<l.length):dpL (l.take (i+1))=max (dpL (l.take i)) (dpF l[i]):=by
 rw[List.take_succ_eq_append_getElem hi,dpL_append,dpL,dpL];omega
theorem ref28_Depth (t:Pd):∀m:Int,szF t≤1000000→0≤m→m≤1000→PC Proofs.Tryz.prog 19 [aPd t,ai m] (ai (capF (dpF t) m)):=by
 induction t using Pd.ind with
 | _ k n p q s l ih =>
 intro m hz h0 h1
 have hdp:dpF (.mk k n p q s l)=dpL l+1:=by rw[dpF]
 have hsz:szF (.mk k n p q s l)=szL l+1:=by rw[szF]
 have hll:=szL_len l
 rw[hdp]
 refine PC.enter 28 [.tmp 4] [2] Proofs.Tryz.func19 rfl rfl rfl rfl rfl (by simp) (AWp.of ?_);simp only[go_sem]
 refine Wk ?_
 refine Wk ?_
 refine⟨fun h2 => ?_,fun h2 => ?_⟩
 ·refine Wk ?_
  refine ret_eq ?_;simp only[go_sem]
  congr 2
  unfold capF
  split <;> omega
 ·refine Wk ?_
  refine AWp.block (AWp.count 6 l.length [5] [1,2] (fun i vs L=>L=[]∧vs=[ai (capF (dpL (l.take i)) (m - 1))]) rfl rfl ⟨rfl,?_⟩ ?_)
  ·rw[List.take_zero,dpL]
   unfold capF
   rw[if_pos (by omega)];rfl
  rintro i vs L hi - ⟨rfl,rfl⟩
  simp only[go_sem]
  have hcb:0≤capF (dpL (l.take i)) (m - 1)∧capF (dpL (l.take i)) (m - 1)≤1000:=by unfold capF;split <;> omega
  refine Wk ?_
  refine⟨fun h3 => ?_,fun h3 => ?_⟩
  ·have hil:i<l.length:=by omega
   have hgi:=getD_map (f:=aPd) hil
   have hzi:=szL_mem (List.getElem_mem hil)
   have hch:=ih l[i] (List.getElem_mem hil) (m - 1) (by omega) (by omega) (by omega)
   have hnew:capF (dpL (l.take (i+1))) (m - 1)=max (capF (dpL (l.take i)) (m - 1)) (capF (dpF l[i]) (m - 1)):=by
    rw[dpL_take hil];unfold capF;split <;> split <;> split <;> omega
   generalize capF (dpL (l.take i)) (m - 1)=c at *
   generalize capF (dpF l[i]) (m - 1)=d at *
   generalize l[i]=x at *
   obtain⟨k2,n2,p2,q2,s2,l2⟩:=x
   simp only[aPd_mk] at hgi hch
   refine Sd ?_
   refine AWp.of ?_;simp only[go_sem,hgi]
   refine Sd ?_
   refine(hch).val.use ?_;simp only[go_sem]
   refine Wk ?_
   refine⟨_,List.Sublist.refl _,rfl,?_⟩
   rw[hnew]
   congr 3
   split <;> omega
  ·refine Wk ?_
   refine ret_eq ?_;simp only[go_sem]
   rw[List.take_of_length_le (by omega)]
   congr 2
   unfold capF
   split <;> split <;> omega
def partsF (k:Int):Int:=if ((1≤k∧k≤4)∨k=13)∨k=14 then 0 else if (k=5∨k=15)∨(18≤k∧k≤21) then 1 else if ((6≤k∧k≤12)∨k=16)∨k=17 then 2 else -1
mutual
def allB (f:Pd→Bool):Pd→Bool
 | .mk k n p q s l=>f (.mk k n p q s l) && allL f l
def allL (f:Pd→Bool):List Pd→Bool
 | []=>true
 | x :: r=>allB f x && allL f r
end
theorem allL_all (f:Pd→Bool):∀l,allL f l=l.all (allB f)
 | []=>by rw[allL];rfl
 | x :: r=>by rw[allL,allL_all f r];rfl
theorem allB_mk (f:Pd→Bool) (k n p q:Int) (s:ByteArray) (l:List Pd):allB f (.mk k n p q s l)=(f (.mk k n p q s l) && l.all (allB f)):=by rw[allB,allL_all]
def numB (k n:Int):Bool:=if k=1 then decide (0≤n∧n≤1125899906842624) else decide (n=0)
def nameB (k p q:Int) (s:ByteArray):Bool:=decide (2≤k∧k≤4) || decide (p=0∧q=0∧s=ByteArray.empty)
def locB:Pd→Bool
 | .mk k n p q s l=>decide (partsF k=l.length) && numB k n && nameB k p q s
def formedB (t:Pd):Bool:=decide (szF t≤200) && decide (dpF t≤20) && allB locB t
def findS {S:Type} (step:Pd→S→Bool × S):List Pd→S→Option Nat × S
 | [],s=>(none,s)
 | x :: r,s=>if (step x s).1 then (some 0,(step x s).2) else ((findS step r (step x s).2).1.map (· + 1),(findS step r (step x s).2).2)
def idxA (o:Option Nat):Int:=match o with|some i=>i|none => -1
theorem findS_step {S:Type} (step:Pd→S→Bool × S) {l:List Pd} {s s':S} {k:Nat} (hk:k<l.length) (h:findS step l s=((findS step (l.drop k) s').1.map (· + k),(findS step (l.drop k) s').2)) :
  ((step l[k] s').1=true→findS step l s=(some k,(step l[k] s').2)) ∧
  ((step l[k] s').1=false→findS step l s=((findS step (l.drop (k+1)) (step l[k] s').2).1.map (· + (k+1)),(findS step (l.drop (k+1)) (step l[k] s').2).2)):=by
 rw[List.drop_eq_getElem_cons hk,findS] at h
 refine⟨fun e => ?_,fun e => ?_⟩
 ·rw[if_pos e] at h;rw[h];simp
 ·rw[if_neg (by rw[e];decide)] at h;rw[h];simp only[Option.map_map]
  congr 2
  funext i;simp only[Function.comp];omega
theorem preds_indexS {S:Type} (step:Pd→S→Bool × S) (Ls:S→AHeap) (Inv:S→Prop) (l:List Pd) (hl:l.length≤1000000) (g:AV) (hgf:fo g=(True,g))
  (hg:∀x ∈ l,∀s,Inv s→MVal Proofs.Tryz.prog g [aPd x] (Ls s) fun r L=>r=ab (step x s).1∧L=Ls (step x s).2) (hi:∀x ∈ l,∀s,Inv s→(step x s).1=false→Inv (step x s).2) (s:S) (hs:Inv s) :
  MCalls Proofs.Tryz.prog 56 [.sl 6 (l.map aPd),g] (Ls s) fun r L=>r=ai (idxA (findS step l s).1)∧L=Ls (findS step l s).2:=by
 refine MCalls.enter' 19 [.tmp 4] [] Proofs.Tryz.func56 rfl rfl rfl rfl rfl (by simp) (AWp.of ?_);simp only[go_sem]
 refine Sd ?_
 refine AWp.of ?_;simp only[go_sem]
 refine AWp.range' l.length [] [0,1,7] (fun k vs L=>∃s',L=Ls s'∧Inv s'∧findS step l s=((findS step (l.drop k) s').1.map (· + k),(findS step (l.drop k) s').2)) (by omega) rfl rfl rfl ⟨s,rfl,hs,by simp⟩ ?_ ?_
 ·rintro k vs L' hk hvs ⟨s',rfl,hI,hf⟩
  obtain⟨f1,f2⟩:=findS_step step hk hf
  have hm:=List.getElem_mem hk
  have hgk:=hg l[k] hm s' hI
  have hik:=hi l[k] hm s' hI
  have hgi:=getD_map (f:=aPd) hk
  generalize l[k]=x at *
  generalize step x s'=st at *
  obtain⟨k2,n2,p2,q2,s2,l2⟩:=x
  simp only[aPd_mk] at hgi hgk
  simp only[go_sem]
  refine Sd ?_
  refine AWp.of ?_;simp only[go_sem]
  refine Sd ?_
  refine AWp.of ?_;simp only[go_sem,hgi,hgf]
  refine Sd ?_
  refine hgk.mono ?_
  rintro r L'' ⟨rfl,rfl⟩
  simp only[go_sem]
  refine Wk ?_
  refine⟨fun ht => ?_,fun hf' => ?_⟩
  ·refine Wk ?_
   refine ret_own ?_
   simp only[go_sem]
   rw[f1 ht];exact⟨rfl,rfl⟩
  ·refine Wk ?_
   exact⟨_,List.Sublist.refl _,_,rfl,hik hf',f2 hf'⟩
 ·rintro vs L' hvs ⟨s',rfl,hI,hf⟩
  simp only[go_sem]
  refine Wk ?_
  refine ret_own ?_
  simp only[go_sem]
  rw[hf,List.drop_length];exact⟨rfl,rfl⟩
theorem preds_containsS {S:Type} (step:Pd→S→Bool × S) (Ls:S→AHeap) (Inv:S→Prop) (l:List Pd) (hl:l.length≤1000000) (g:AV) (hgf:fo g=(True,g))
  (hg:∀x ∈ l,∀s,Inv s→MVal Proofs.Tryz.prog g [aPd x] (Ls s) fun r L=>r=ab (step x s).1∧L=Ls (step x s).2) (hi:∀x ∈ l,∀s,Inv s→(step x s).1=false→Inv (step x s).2) (s:S) (hs:Inv s) :
  MCalls Proofs.Tryz.prog 28 [.sl 6 (l.map aPd),g] (Ls s) fun r L=>r=ab ((findS step l s).1.isSome)∧L=Ls (findS step l s).2:=by
 have h:=preds_indexS step Ls Inv l hl g hgf hg hi s hs
 generalize findS step l s=o at *
 have ho:0≤idxA o.1↔o.1.isSome=true:=by cases o.1 <;> simp [idxA]
 refine MCalls.enter' 9 [.tmp 4] [] Proofs.Tryz.func28 rfl rfl rfl rfl rfl (by simp) (AWp.of ?_);simp only[go_sem]
 refine Sd ?_
 refine AWp.of ?_;simp only[go_sem,hgf]
 refine h.val.mono ?_
 rintro r L'' ⟨rfl,rfl⟩
 simp only[go_sem]
 refine Wk ?_
 refine ret_own ?_
 simp only[go_sem]
 congr 2
 rw[Bool.eq_iff_iff,decide_eq_true_iff];exact ho
theorem findS_any (p:Pd→Bool):∀l:List Pd,(findS (fun x (_:Unit)=>(p x,())) l ()).1.isSome=l.any p
 | []=>rfl
 | x :: r=>by
  rw[findS,List.any_cons]
  by_cases h:p x=true
  ·simp [h]
  ·have:=findS_any p r
   simp only[h,Bool.false_eq_true,if_false,Bool.false_or]
   rw[← this];simp
theorem preds_containsFunc (l:List Pd) (hl:l.length≤1000000) (g:AV) (hgf:fo g=(True,g)) (p:Pd→Bool) (hg:∀x ∈ l,PV Proofs.Tryz.prog g [aPd x] (ab (p x))) :
  PC Proofs.Tryz.prog 28 [.sl 6 (l.map aPd),g] (ab (l.any p)):=by
 have h:=preds_containsS (fun x (_:Unit)=>(p x,())) (fun _=>[]) (fun _=>True) l hl g hgf (fun x hx s _=>hg x hx) (fun _ _ _ _ _=>trivial) () trivial
 rw[findS_any] at h
 exact h
def resF (k:Int):Int:=if k≤8 then 1 else 2
def needF (k:Int):Int:=if k≤12 then 1 else 2
theorem predtype_result (k:Int):PC Proofs.Tryz.prog 157 [ai k] (ai (resF k)):=by
 refine PC.enter 5 [.tmp 2] [] Proofs.Tryz.func157 rfl rfl rfl rfl rfl (by simp) (AWp.of ?_);simp only[go_sem]
 refine Wk ?_
 refine Wk ?_
 refine⟨fun h1 => ?_,fun h1 => ?_⟩
 ·refine Wk ?_
  refine ret_eq ?_;simp only[go_sem]
  unfold resF;rw[if_pos h1]
 ·refine Wk ?_
  refine ret_eq ?_;simp only[go_sem]
  unfold resF;rw[if_neg h1]
theorem predtype_need (k:Int):PC Proofs.Tryz.prog 158 [ai k] (ai (needF k)):=by
 refine PC.enter 5 [.tmp 2] [] Proofs.Tryz.func158 rfl rfl rfl rfl rfl (by simp) (AWp.of ?_);simp only[go_sem]
 refine Wk ?_
 refine Wk ?_
 refine⟨fun h1 => ?_,fun h1 => ?_⟩
 ·refine Wk ?_
  refine ret_eq ?_;simp only[go_sem]
  unfold needF;rw[if_pos h1]
 ·refine Wk ?_
  refine ret_eq ?_;simp only[go_sem]
  unfold needF;rw[if_neg h1]
def tyNe (k m:Int):Bool:=decide (¬resF m=needF k)
def typB:Pd→Bool
 | .mk k _ _ _ _ l => !l.any fun x=>tyNe k x.kind
theorem predtype_typed11 (k n p q:Int) (s:ByteArray) (l:List Pd) (x:Pd):PC Proofs.Tryz.prog 156 [aPd x,.rp 6 [aPd (.mk k n p q s l)] 0 0] (ab (tyNe k x.kind)):=by
 have hr:=predtype_result x.kind
 have hn:=predtype_need k
 obtain⟨k2,n2,p2,q2,s2,l2⟩:=x
 simp only[Pd.kind] at *
 have hsp:tyNe k k2=decide (¬resF k2=needF k):=rfl
 generalize tyNe k k2=b at *
 generalize hr0:resF k2=r at *
 generalize hm0:needF k=m at *
 refine PC.enter 11 [.tmp 3] [2] Proofs.Tryz.func156 rfl rfl rfl rfl rfl (by simp) (AWp.of ?_);simp only[go_sem]
 refine AWp.seq ?_
 repeat(first|(with_reducible refine AWp.seq ?_)|(with_reducible refine AWp.block ?_))
 refine AWp.mix mixed [0,1,2,3,4,5,6,7] .done (by kernel_rfl) ?_;simp only[go_sem]
 refine Sd ?_
 refine Gc hr ?_
 refine Sd ?_
 refine Gc hn ?_
 refine Sd ?_
 refine Wk ?_
 refine ret_eq ?_;simp only[go_sem]
 rw[hsp,decide_not]
theorem predtype_typed1 (x:Pd) (hz:szF x≤1000000):PC Proofs.Tryz.prog 155 [aPd x] (ab (typB x)):=by
 obtain⟨k,n,p,q,s,l⟩:=x
 have hll:=szL_len l
 rw[szF] at hz
 have hc:=preds_containsFunc l (by omega) (.clo 156 [.rp 6 [aPd (.mk k n p q s l)] 0 0]) rfl (fun x=>tyNe k x.kind) fun x _=>(predtype_typed11 k n p q s l x).clo
 have hsp:typB (.mk k n p q s l) = !l.any fun x=>tyNe k x.kind:=rfl
 rw[hsp]
 generalize (l.any fun x=>tyNe k x.kind)=b at *
 simp only[aPd_mk] at hc
 refine PC.enter 8 [.tmp 2] [1] Proofs.Tryz.func155 rfl rfl rfl rfl rfl (by simp) (AWp.of ?_);simp only[go_sem]
 refine Wk ?_
 refine Sd ?_
 refine(hc).val.use ?_;simp only[go_sem]
 refine Wk ?_
 refine ret_eq ?_;simp only[go_sem]
theorem predtype_eachC (f:Pd→Bool) (F:FuncId) (cs:List AV) (hg:∀x,szF x≤1000000→PV Proofs.Tryz.prog (.clo F cs) [aPd x] (ab (f x))) (t:Pd):szF t≤1000000→PC Proofs.Tryz.prog 151 [aPd t,.clo F cs] (ab (allB f t)):=by
 induction t using Pd.ind with
 | _ k n p q s l ih =>
 intro hz
 have hsz:szF (.mk k n p q s l)=szL l+1:=by rw[szF]
 have hll:=szL_len l
 have hf:=hg _ hz
 have h1:∀x ∈ l,PV Proofs.Tryz.prog (.clo 199 [.rp 1 [.clo F cs] 0 0]) [aPd x] (ab (!allB f x)):=by
  intro x hx
  have hxi:=szL_mem hx
  have hch:=ih x hx (by omega)
  generalize allB f x=b at *
  obtain⟨k2,n2,p2,q2,s2,l2⟩:=x
  refine PC.clo ?_
  simp only[aPd_mk] at *
  refine PC.enter 8 [.tmp 3] [2] Proofs.Tryz.func199 rfl rfl rfl rfl rfl (by simp) (AWp.of ?_);simp only[go_sem]
  refine Wk ?_
  refine Sd ?_
  refine(hch).val.use ?_;simp only[go_sem]
  refine Wk ?_
  refine ret_eq ?_;simp only[go_sem]
 have hc:=preds_containsFunc l (by omega) _ rfl (fun x => !allB f x) h1
 have hsp:allB f (.mk k n p q s l)=(f (.mk k n p q s l) && !l.any fun x => !allB f x):=by
  rw[allB_mk];congr 1
  rw[List.all_eq_not_any_not]
 rw[hsp]
 generalize f (.mk k n p q s l)=b at *
 generalize (l.any fun x => !allB f x)=c at *
 simp only[aPd_mk] at *
 refine PC.enter 15 [.tmp 4] [2,3] Proofs.Tryz.func151 rfl rfl rfl rfl rfl (by simp) (AWp.of ?_);simp only[go_sem]
 refine Wk ?_
 refine Sd ?_
 refine(hf).use ?_;simp only[go_sem]
 refine Sd ?_
 refine Gc hc ?_
 refine Sd ?_
 refine Wk ?_
 refine ret_eq ?_;simp only[go_sem]
theorem predtype_eachV (f:Pd→Bool) (F:FuncId) (hg:∀x,szF x≤1000000→PV Proofs.Tryz.prog (.v (.func (.func F) #[] #[])) [aPd x] (ab (f x))) (t:Pd):szF t≤1000000→PC Proofs.Tryz.prog 151 [aPd t,.v (.func (.func F) #[] #[])] (ab (allB f t)):=by
 induction t using Pd.ind with
 | _ k n p q s l ih =>
 intro hz
 have hsz:szF (.mk k n p q s l)=szL l+1:=by rw[szF]
 have hll:=szL_len l
 have hf:=hg _ hz
 have h1:∀x ∈ l,PV Proofs.Tryz.prog (.clo 199 [.rp 1 [.v (.func (.func F) #[] #[])] 0 0]) [aPd x] (ab (!allB f x)):=by
  intro x hx
  have hxi:=szL_mem hx
  have hch:=ih x hx (by omega)
  generalize allB f x=b at *
  obtain⟨k2,n2,p2,q2,s2,l2⟩:=x
  refine PC.clo ?_
  simp only[aPd_mk] at *
  refine PC.enter 8 [.tmp 3] [2] Proofs.Tryz.func199 rfl rfl rfl rfl rfl (by simp) (AWp.of ?_);simp only[go_sem]
  refine Wk ?_
  refine Sd ?_
  refine(hch).val.use ?_;simp only[go_sem]
  refine Wk ?_
  refine ret_eq ?_;simp only[go_sem]
 have hc:=preds_containsFunc l (by omega) _ rfl (fun x => !allB f x) h1
 have hsp:allB f (.mk k n p q s l)=(f (.mk k n p q s l) && !l.any fun x => !allB f x):=by
  rw[allB_mk];congr 1
  rw[List.all_eq_not_any_not]
 rw[hsp]
 generalize f (.mk k n p q s l)=b at *
 generalize (l.any fun x => !allB f x)=c at *
 simp only[aPd_mk] at *
 refine PC.enter 15 [.tmp 4] [2,3] Proofs.Tryz.func151 rfl rfl rfl rfl rfl (by simp) (AWp.of ?_);simp only[go_sem]
 refine Wk ?_
 refine Sd ?_
 refine(hf).use ?_;simp only[go_sem]
 refine Sd ?_
 refine Gc hc ?_
 refine Sd ?_
 refine Wk ?_
 refine ret_eq ?_;simp only[go_sem]
def typedB (t:Pd):Bool:=allB typB t
theorem predtype_typed (t:Pd) (hz:szF t≤1000000):PC Proofs.Tryz.prog 106 [aPd t] (ab (typedB t)):=by
 have he:=predtype_eachV typB 155 (fun x hx=>(predtype_typed1 x hx).val) t hz
 unfold typedB
 generalize allB typB t=b at *
 obtain⟨k,n,p,q,s,l⟩:=t
 simp only[aPd_mk] at *
 refine PC.enter 5 [.tmp 2] [1] Proofs.Tryz.func106 rfl rfl rfl rfl rfl (by simp) (AWp.of ?_);simp only[go_sem]
 refine Wk ?_
 refine Sd ?_
 refine(he).val.use ?_;simp only[go_sem]
 refine Wk ?_
 refine ret_eq ?_;simp only[go_sem]
theorem predtype_named (k:Int):PC Proofs.Tryz.prog 198 [ai k] (ab (decide (2≤k∧k≤4))):=by
 generalize hb:decide (2≤k∧k≤4)=b
 refine PC.enter 13 [.tmp 2] [] Proofs.Tryz.func198 rfl rfl rfl rfl rfl (by simp) (AWp.of ?_);simp only[go_sem]
 refine Wk ?_
 refine ret_eq ?_;simp only[go_sem]
 rw[← hb]
 congr 2
 rw[Bool.eq_iff_iff];simp;omega
theorem partsAV_get {k:Int} (h1:1≤k) (h2:k<22):partsAV.getD k.toNat .any=ai (partsF k):=by
 have:k=1∨k=2∨k=3∨k=4∨k=5∨k=6∨k=7∨k=8∨k=9∨k=10∨k=11∨k=12∨k=13∨k=14∨k=15∨k=16∨k=17∨k=18∨k=19∨k=20∨k=21:=by omega
 rcases this with rfl|rfl|rfl|rfl|rfl|rfl|rfl|rfl|rfl|rfl|rfl|rfl|rfl|rfl|rfl|rfl|rfl|rfl|rfl|rfl|rfl <;> rfl
theorem partsAV_len:partsAV.length=22:=rfl
theorem predtype_fits (t:Pd) (hz:szF t≤1000000):PC Proofs.Tryz.prog 149 [aPd t] (ab (locB t)):=by
 obtain⟨k,n,p,q,s,l⟩:=t
 have hll:=szL_len l
 rw[szF] at hz
 have hnm:=predtype_named k
 have hsp:locB (.mk k n p q s l)=(decide (partsF k=l.length) && numB k n && nameB k p q s):=rfl
 have hpg:=@partsAV_get k
 generalize locB (.mk k n p q s l)=b at *
 refine PC.enter 59 [.tmp 2] [1] Proofs.Tryz.func149 rfl rfl rfl rfl rfl (by simp) (AWp.of ?_);simp only[go_sem]
 by_cases k1:k<1
 ·have hk0:partsAV.getD k.toNat .any=ai (-1):=by rw[show k.toNat=0 by omega];rfl
  have hpf:partsF k = -1:=by unfold partsF;rw[if_neg (by omega),if_neg (by omega),if_neg (by omega)]
  refine AWp.seq (AWp.seq ?_)
  repeat(first|(with_reducible refine AWp.seq ?_)|(with_reducible refine AWp.block ?_))
  refine AWp.mix mixed [0,1,2,3,4,5,6,7,8,9,10,11,12,13,14,15,16,17,18,19,20,21,22,23,24,25,26,27,28,29,30,31,32,33,34,35,36,37] .done (by kernel_rfl) ?_;simp only[go_sem,GV,partsAV_len,k1,hk0]
  refine Sd ?_
  refine Wk ?_
  refine ret_eq ?_;simp only[go_sem]
  rw[hsp,hpf,decide_eq_false (by omega)];rfl
 by_cases k2:22≤k
 ·have hk0:partsAV.getD k.toNat .any = .any:=by rw[List.getD_eq_getElem?_getD,List.getElem?_eq_none (by rw[partsAV_len];omega)];rfl
  have hpf:partsF k = -1:=by unfold partsF;rw[if_neg (by omega),if_neg (by omega),if_neg (by omega)]
  refine AWp.seq (AWp.seq ?_)
  repeat(first|(with_reducible refine AWp.seq ?_)|(with_reducible refine AWp.block ?_))
  refine AWp.mix mixed [0,1,2,3,4,5,6,7,8,9,10,11,12,13,14,15,16,17,18,19,20,21,22,23,24,25,26,27,28,29,30,31,32,33,34,35,36,37] .done (by kernel_rfl) ?_;simp only[go_sem,GV,partsAV_len,k1,k2,hk0]
  refine Sd ?_
  refine Wk ?_
  refine ret_eq ?_;simp only[go_sem]
  rw[hsp,hpf,decide_eq_false (by omega)];rfl
 have hpg:=hpg (by omega) (by omega)
 refine AWp.seq (AWp.seq ?_)
 repeat(first|(with_reducible refine AWp.seq ?_)|(with_reducible refine AWp.block ?_))
 refine AWp.mix mixed [0,1,2,3,4,5,6,7,8,9,10,11,12,13,14,15,16,17,18,19,20,21,22,23,24,25,26,27,28,29,30,31,32,33,34,35,36,37] .done (by kernel_rfl) ?_;simp only[go_sem,GV,partsAV_len,k1,k2,hpg]
 refine Sd ?_
 refine Wk ?_
 refine⟨fun h1 => ?_,fun h1 => ?_⟩
 ·refine Wk ?_
  refine ret_eq ?_;simp only[go_sem]
  rw[hsp]
  by_cases e:partsF k=l.length
  ·rw[show numB k n=false by unfold numB;split <;> rw[decide_eq_false (by omega)]];rw[Bool.and_false];rfl
  ·rw[decide_eq_false e];rfl
 intro h2 h3 h4
 have hnu:numB k n=true:=by
  unfold numB
  split
  ·rw[decide_eq_true (by omega)]
  ·rename_i e
   rw[decide_eq_true];exact Classical.byContradiction fun hc=>e (h4 hc)
 rw[decide_eq_true h1.symm,hnu,Bool.true_and,Bool.true_and] at hsp
 refine Wk ?_
 refine Sd ?_
 refine(hnm).val.use ?_;simp only[go_sem]
 refine Wk ?_
 refine ret_eq ?_;simp only[go_sem]
 rw[hsp]
 unfold nameB
 congr 2
 rw[Bool.eq_iff_iff]
 simp only[Bool.or_eq_true,Bool.and_eq_true,decide_eq_true_iff]
 rw[and_assoc];rfl
mutual
def walkF:Pd→Int→Int→Bool × Int
 | .mk k n p q s l,d,c=>if c - 1<0∨20<d∨locB (.mk k n p q s l)=false then (false,c - 1) else walkL l (d+1) (c - 1)
def walkL:List Pd→Int→Int→Bool × Int
 | [],_,c=>(true,c)
 | x :: r,d,c=>if (walkF x d c).1 then walkL r d (walkF x d c).2 else (false,(walkF x d c).2)
end
def stepW (d:Int) (x:Pd) (c:Int):Bool × Int:=(!(walkF x d c).1,(walkF x d c).2)
theorem findS_walk (d:Int):∀(l:List Pd) (c:Int),(findS (stepW d) l c).1.isSome = !(walkL l d c).1∧(findS (stepW d) l c).2=(walkL l d c).2
 | [],c=>by rw[walkL,findS];exact⟨rfl,rfl⟩
 | x :: r,c=>by
  rw[walkL,findS]
  by_cases h:(walkF x d c).1=true
  ·have ih:=findS_walk d r (walkF x d c).2
   rw[if_pos h,if_neg (by simp [stepW,h])]
   exact⟨by rw[← ih.1];simp [stepW],ih.2⟩
  ·rw[if_neg h,if_pos (by simp [stepW,h])]
   exact⟨rfl,rfl⟩
theorem walkF_spec (t:Pd):∀d c:Int,0≤c→((walkF t d c).1=true↔(szF t:Int)≤c∧d+dpF t≤21∧allB locB t=true)∧((walkF t d c).1=true→(walkF t d c).2=c - szF t):=by
 induction t using Pd.ind with
 | _ k n p q s l ih =>
 intro d c hc
 have hL:∀(l':List Pd),(∀x ∈ l',x ∈ l)→∀c:Int,0≤c→((walkL l' (d+1) c).1=true↔(szL l':Int)≤c∧(∀x ∈ l',d+1+dpF x≤21)∧l'.all (allB locB)=true)∧((walkL l' (d+1) c).1=true→(walkL l' (d+1) c).2=c - szL l'):=by
  intro l'
  induction l' with
  | nil=>intro _ c hc;rw[walkL,szL];exact⟨⟨fun _=>⟨by simpa using hc,by simp,rfl⟩,fun _=>rfl⟩,fun _=>by simp⟩
  | cons x r ihr =>
   intro hm c hc
   obtain⟨i1,i2⟩:=ih x (hm x List.mem_cons_self) (d+1) c hc
   rw[walkL,szL,List.all_cons]
   by_cases h:(walkF x (d+1) c).1=true
   ·have e2:=i2 h
    obtain⟨j1,j2,j3⟩:=i1.1 h
    obtain⟨r1,r2⟩:=ihr (fun y hy=>hm y (List.mem_cons_of_mem _ hy)) (walkF x (d+1) c).2 (by omega)
    rw[if_pos h]
    refine⟨r1.trans (Iff.intro ?_ ?_),fun h2=>by rw[r2 h2,e2];omega⟩
    ·rintro⟨a1,a2,a3⟩
     refine⟨by omega,fun y hy => ?_,by rw[j3,a3];rfl⟩
     rcases List.mem_cons.1 hy with rfl|hy
     ·exact j2
     ·exact a2 y hy
    ·rintro⟨a1,a2,a3⟩
     rw[j3] at a3
     exact⟨by omega,fun y hy=>a2 y (List.mem_cons_of_mem _ hy),a3⟩
   ·rw[if_neg h]
    refine⟨Iff.intro (fun h2=>by cases h2) ?_,fun h2=>by cases h2⟩
    rintro⟨a1,a2,a3⟩
    rw[Bool.and_eq_true] at a3
    exact absurd (i1.2 ⟨by omega,a2 x List.mem_cons_self,a3.1⟩) h
 have hdl:∀l':List Pd,(∀x ∈ l',d+1+dpF x≤21)∧d≤20↔d+((dpL l'+1:Nat):Int)≤21:=by
  intro l'
  induction l' with
  | nil=>rw[dpL];constructor
         ·rintro⟨_,h⟩;omega
         ·intro h;exact⟨by simp,by omega⟩
  | cons x r ihr =>
   rw[dpL]
   constructor
   ·rintro⟨h1,h2⟩
    have:=ihr.1 ⟨fun y hy=>h1 y (List.mem_cons_of_mem _ hy),h2⟩
    have:=h1 x List.mem_cons_self
    omega
   ·intro h
    have:=ihr.2 (by omega)
    refine⟨fun y hy => ?_,this.2⟩
    rcases List.mem_cons.1 hy with rfl|hy
    ·omega
    ·exact this.1 y hy
 have hd:=hdl l
 rw[walkF,szF,dpF,allB_mk]
 by_cases h:c - 1<0∨20<d∨locB (.mk k n p q s l)=false
 ·rw[if_pos h]
  refine⟨Iff.intro (fun h=>by cases h) ?_,fun h=>by cases h⟩
  rintro⟨a1,a2,a3⟩
  have:=hd.2 a2
  rw[Bool.and_eq_true] at a3
  rcases h with h|h|h
  ·omega
  ·omega
  ·rw[h] at a3;cases a3.1
 ·rw[if_neg h]
  obtain⟨w1,w2⟩:=hL l (fun _ h=>h) (c - 1) (by omega)
  have hlo:locB (.mk k n p q s l)=true:=by
   cases e:locB (.mk k n p q s l)
   ·exact absurd (Or.inr (Or.inr e)) h
   ·rfl
  rw[hlo,Bool.true_and]
  refine⟨w1.trans (Iff.intro ?_ ?_),fun h=>by rw[w2 h];omega⟩
  ·rintro⟨a1,a2,a3⟩
   exact⟨by omega,hd.1 ⟨a2,by omega⟩,a3⟩
  ·rintro⟨a1,a2,a3⟩
   exact⟨by omega,(hd.2 a2).1,a3⟩
theorem walkF_formed (t:Pd):(walkF t 1 200).1=formedB t:=by
 rw[Bool.eq_iff_iff,(walkF_spec t 1 200 (by decide)).1]
 unfold formedB
 simp only[Bool.and_eq_true,decide_eq_true_iff,and_assoc]
 exact⟨fun ⟨a,b,c⟩=>⟨by omega,by omega,c⟩,fun ⟨a,b,c⟩=>⟨by omega,by omega,c⟩⟩
def aWalk (bl bw:Nat):AV:=.clo 148 [.lp bl 1 0 0,.lp bw 1 0 0]
def LwPd (bl bw:Nat) (c:Int):AHeap:=[(bw,.row 205 1 [aWalk bl bw] 1),(bl,.row 3 1 [ai c] 1)]
theorem stepW_inv {d:Int} {x:Pd} {c:Int} (h0:0≤c) (h:(stepW d x c).1=false):0≤(stepW d x c).2∧(stepW d x c).2≤c:=by
 have h1:(walkF x d c).1=true:=by simpa [stepW] using h
 obtain⟨w1,w2⟩:=walkF_spec x d c h0
 have:=w2 h1
 have:=w1.1 h1
 show 0≤(walkF x d c).2∧(walkF x d c).2≤c
 omega
theorem predtype_formed1 (bl bw:Nat) (hb:¬bl=bw) (t:Pd):szF t≤1000000→∀d c:Int,0≤d→d≤21→0≤c→c≤200 →
  MCalls Proofs.Tryz.prog 148 [aPd t,ai d,.lp bl 1 0 0,.lp bw 1 0 0] (LwPd bl bw c) fun r L=>r=ab (walkF t d c).1∧L=LwPd bl bw (walkF t d c).2:=by
 induction t using Pd.ind with
 | _ k n p q s l ih =>
 intro hz d c d0 d1 c0 c1
 have hsz:szF (.mk k n p q s l)=szL l+1:=by rw[szF]
 have hll:=szL_len l
 have hb':¬bw=bl:=fun e=>hb e.symm
 have hft:=predtype_fits _ hz
 have hkid:d≤20→∀x ∈ l,∀c':Int,0≤c'∧c'≤200→MVal Proofs.Tryz.prog (.clo 150 [.lp bw 1 0 0,.rp 1 [ai d] 0 0]) [aPd x] (LwPd bl bw c') fun r L=>r=ab (stepW (d+1) x c').1∧L=LwPd bl bw (stepW (d+1) x c').2:=by
  intro hd x hx c' hc'
  have hxi:=szL_mem hx
  have hch:=ih x hx (by omega) (d+1) c' (by omega) (by omega) hc'.1 hc'.2
  have e1:(stepW (d+1) x c').1 = !(walkF x (d+1) c').1:=rfl
  have e2:(stepW (d+1) x c').2=(walkF x (d+1) c').2:=rfl
  rw[e1,e2]
  generalize walkF x (d+1) c'=w at *
  obtain⟨k2,n2,p2,q2,s2,l2⟩:=x
  refine MCalls.clo ?_
  unfold LwPd aWalk at *
  simp only[aPd_mk] at *
  refine MCalls.enter' 11 [.tmp 4] [3] Proofs.Tryz.func150 rfl rfl rfl rfl rfl (by simp) (AWp.of ?_);simp only[go_sem]
  refine W1 hb' ?_
  refine Sd ?_
  refine(MCalls.clo hch).mono ?_
  rintro r L ⟨rfl,rfl⟩
  simp only[go_sem]
  refine Wk ?_
  refine ret_own ?_
  simp only[go_sem]
 have hsp:walkF (.mk k n p q s l) d c=if c - 1<0∨20<d∨locB (.mk k n p q s l)=false then (false,c - 1) else walkL l (d+1) (c - 1):=by rw[walkF]
 have hcs:d≤20→0≤c - 1→_:=fun h1 h2=>preds_containsS (stepW (d+1)) (LwPd bl bw) (fun c=>0≤c∧c≤200) l (by omega) (.clo 150 [.lp bw 1 0 0,.rp 1 [ai d] 0 0]) rfl (hkid h1) (fun x hx c' hc' h=>by have:=stepW_inv hc'.1 h;omega) (c - 1) (by omega)
 obtain⟨f1,f2⟩:=findS_walk (d+1) l (c - 1)
 rw[f1,f2] at hcs
 generalize walkL l (d+1) (c - 1)=w at *
 generalize locB (.mk k n p q s l)=b at *
 generalize walkF (.mk k n p q s l) d c=z at *
 unfold LwPd aWalk at *
 simp only[aPd_mk] at *
 refine MCalls.enter' 25 [.tmp 6] [4,5] Proofs.Tryz.func148 rfl rfl rfl rfl rfl (by simp) (AWp.of ?_);simp only[go_sem]
 refine W1 hb ?_
 refine Sd ?_
 refine Gc hft ?_
 refine Sd ?_
 refine Wk ?_
 refine⟨fun h1 => ?_,fun h1 => ?_⟩
 ·have hz':z=(false,c - 1):=by
   rw[hsp,if_pos]
   rcases h1 with (h1|h1)|h1
   ·exact .inl h1
   ·exact .inr (.inl h1)
   ·exact .inr (.inr (by simpa using h1))
  refine Wk ?_
  refine ret_own ?_
  simp only[go_sem]
  rw[hz'];exact⟨rfl,rfl⟩
 intro h2 h3
 have hz':z=w:=by rw[hsp,if_neg];rintro(h|h|h);exact h1 h;exact h2 h;rw[h3] at h;cases h
 have hcs:=hcs (by omega) (by omega)
 refine W1 hb' ?_
 refine Sd ?_
 refine hcs.val.mono ?_
 rintro r L ⟨rfl,rfl⟩
 simp only[go_sem]
 refine Wk ?_
 refine ret_own ?_
 simp only[go_sem]
 rw[hz'];exact⟨rfl,rfl⟩
theorem predtype_formed (t:Pd) (hz:szF t≤1000000):PC Proofs.Tryz.prog 104 [aPd t] (ab (formedB t)):=by
 rw[← walkF_formed]
 have hw:=fun bl bw hb=>predtype_formed1 bl bw hb t hz 1 200 (by decide) (by decide) (by decide) (by decide)
 unfold LwPd aWalk at hw
 generalize walkF t 1 200=w at *
 obtain⟨k,n,p,q,s,l⟩:=t
 simp only[aPd_mk] at *
 refine PC.enter 9 [.tmp 2] [1] Proofs.Tryz.func104 rfl rfl rfl rfl rfl (by simp) (AWp.of ?_);simp only[go_sem]
 refine Wk ?_
 intro bl
 refine Wk ?_
 intro bw hlt
 have hb:¬bw=bl:=by omega
 have hb':¬bl=bw:=by omega
 refine W1 hb ?_
 refine Sd ?_
 refine(MCalls.clo (hw bl bw hb')).mono ?_
 rintro r L ⟨rfl,rfl⟩
 simp only[go_sem]
 refine Wk ?_
 refine ret_eq ?_;simp only[go_sem]
theorem predtype_TypeX (t:Pd) (hz:szF t≤1000000):PC Proofs.Tryz.prog 108 [aPd t] (.tup [ai (if formedB t=false then 0 else if typedB t=false then 0 else resF t.kind),ai (if formedB t=false then 1 else if typedB t=false then 14 else 0)]):=by
 have hf:=predtype_formed t hz
 have ht:=predtype_typed t hz
 have hr:=predtype_result t.kind
 generalize formedB t=f at *
 generalize typedB t=y at *
 obtain⟨k,n,p,q,s,l⟩:=t
 simp only[aPd_mk,Pd.kind] at *
 generalize resF k=r at *
 refine PC.enter 15 [.tmp 2,.tmp 3] [1] Proofs.Tryz.func108 rfl rfl rfl rfl rfl (by simp) (AWp.of ?_);simp only[go_sem]
 refine Wk ?_
 refine Sd ?_
 refine(hf).val.use ?_;simp only[go_sem]
 refine Wk ?_
 refine⟨fun h1 => ?_,fun h1 => ?_⟩
 ·refine Wk ?_
  refine ret_eq ?_;simp only[go_sem]
  simp [h1]
 refine Wk ?_
 refine Sd ?_
 refine(ht).val.use ?_;simp only[go_sem]
 refine Wk ?_
 refine⟨fun h2 => ?_,fun h2 => ?_⟩
 ·refine Wk ?_
  refine ret_eq ?_;simp only[go_sem]
  simp [h1,h2]
 refine Wk ?_
 refine Sd ?_
 refine(hr).val.use ?_;simp only[go_sem]
 refine Wk ?_
 refine ret_eq ?_;simp only[go_sem]
 simp [h1,h2]
def nmB (s:ByteArray) (v:ByteArray × Int):Bool:=decide (v.1=s)
def varIx (vs:List (ByteArray × Int)) (s:ByteArray):Int:=match vs.findIdx? (nmB s) with|some i=>i|none => -1
def isPB (n:Nat) (p:Int):Bool:=decide (0≤p) && decide (p<n)
def knownB (ps:List Pr) (p:Int) (s:ByteArray):Bool:=match ps[p.toNat]? with|some x=>x.vars.any (nmB s)|none=>false
def resB (ps:List Pr):Pd→Bool
 | .mk k _ p q s _=>if k=2 then isPB ps.length p && decide (q=0) && knownB ps p s else if k=3 then isPB ps.length p && decide (q=0) && decide (s=ByteArray.empty) else
  if k=4 then isPB ps.length p && isPB ps.length q && !decide (p=q) && decide (s=ByteArray.empty) else true
theorem predtype_isProc (ps:List Pr) (p:Int):PC Proofs.Tryz.prog 153 [aTr ps,ai p] (ab (isPB ps.length p)):=by
 generalize hb:isPB ps.length p=b
 refine PC.enter 14 [.tmp 4] [2] Proofs.Tryz.func153 rfl rfl rfl rfl rfl (by simp) (AWp.of ?_);simp only[go_sem]
 refine Wk ?_
 refine ret_eq ?_;simp only[go_sem]
 rw[← hb];rfl
theorem predtype_known1 (v:ByteArray × Int) (s:ByteArray):PC Proofs.Tryz.prog 200 [aVar v,.rp 1 [astr s] 0 0] (ab (nmB s v)):=by
 generalize hb:nmB s v=b
 refine PC.enter 8 [.tmp 3] [2] Proofs.Tryz.func200 rfl rfl rfl rfl rfl (by simp) (AWp.of ?_);simp only[go_sem]
 refine Wk ?_
 refine ret_eq ?_;simp only[go_sem]
 rw[← hb];rfl
theorem isPB_nat {n:Nat} {p:Int} (h:isPB n p=true):∃i:Nat,p=i∧i<n:=by
 unfold isPB at h;simp only[Bool.and_eq_true,decide_eq_true_eq] at h
 exact⟨p.toNat,by omega,by omega⟩
theorem predtype_known (ps:List Pr) (hs:Sm ps) (p:Int) (hpb:isPB ps.length p=true) (s:ByteArray):PC Proofs.Tryz.prog 154 [aTr ps,ai p,astr s] (ab (knownB ps p s)):=by
 obtain⟨p,rfl,hp⟩:=isPB_nat hpb
 have hm:=List.getElem_mem hp
 have hc:=vars_containsFunc ps[p].vars (hs.vars _ hm) (.clo 200 [.rp 1 [astr s] 0 0]) rfl (nmB s) fun v _=>(predtype_known1 v s).clo
 have hk:knownB ps p s=ps[p].vars.any (nmB s):=by unfold knownB;simp only[Int.toNat_natCast,List.getElem?_eq_getElem hp]
 have hgp:=getD_map (f:=aPr) hp
 rw[hk]
 generalize ps[p].vars.any (nmB s)=b at *
 refine PC.enter 15 [.tmp 6] [3,5] Proofs.Tryz.func154 rfl rfl rfl rfl rfl (by simp) (AWp.of ?_);simp only[go_sem]
 refine W1 hgp ?_
 refine Sd ?_
 refine(hc).val.use ?_;simp only[go_sem]
 refine Wk ?_
 refine ret_eq ?_;simp only[go_sem]
theorem predtype_resolved1 (ps:List Pr) (hs:Sm ps) (x:Pd):PC Proofs.Tryz.prog 152 [aPd x,.rp 1 [aTr ps] 0 0] (ab (resB ps x)):=by
 obtain⟨k,n,p,q,s,l⟩:=x
 have hsp:resB ps (.mk k n p q s l)=if k=2 then isPB ps.length p && decide (q=0) && knownB ps p s else if k=3 then isPB ps.length p && decide (q=0) && decide (s=ByteArray.empty) else
  if k=4 then isPB ps.length p && isPB ps.length q && !decide (p=q) && decide (s=ByteArray.empty) else true:=rfl
 generalize resB ps (.mk k n p q s l)=B at *
 have h1:=predtype_isProc ps p
 have h2:=predtype_isProc ps q
 have hkn:=fun h=>predtype_known ps hs p h s
 generalize isPB ps.length p=P at *
 generalize isPB ps.length q=Q at *
 generalize knownB ps p s=K at *
 refine PC.enter 65 [.tmp 3] [2] Proofs.Tryz.func152 rfl rfl rfl rfl rfl (by simp) (AWp.of ?_);simp only[go_sem]
 refine Wk ?_
 refine⟨fun h3 => ?_,fun h3 => ?_⟩
 ·rw[if_pos h3] at hsp
  refine Wk ?_
  refine Sd ?_
  refine(h1).val.use ?_;simp only[go_sem]
  refine GCall.use (ab K) (fun g=>⟨At,(hkn g.1).val.use ⟨rfl,rfl⟩⟩) ?_;simp only[go_sem]
  refine Sd ?_
  refine Wk ?_
  refine ret_eq ?_;simp only[go_sem]
  rw[hsp]
 rw[if_neg h3] at hsp
 refine Wk ?_
 refine⟨fun h4 => ?_,fun h4 => ?_⟩
 ·rw[if_pos h4] at hsp
  refine Wk ?_
  refine Sd ?_
  refine(h1).val.use ?_;simp only[go_sem]
  refine Wk ?_
  refine ret_eq ?_;simp only[go_sem]
  rw[hsp];rfl
 rw[if_neg h4] at hsp
 refine Wk ?_
 refine⟨fun h5 => ?_,fun h5 => ?_⟩
 ·rw[if_pos h5] at hsp
  refine Wk ?_
  refine Sd ?_
  refine(h1).val.use ?_;simp only[go_sem]
  refine Sd ?_
  refine Gc h2 ?_
  refine Sd ?_
  refine Wk ?_
  refine ret_eq ?_;simp only[go_sem]
  rw[hsp];rfl
 rw[if_neg h5] at hsp
 refine Wk ?_
 refine ret_eq ?_;simp only[go_sem]
 rw[hsp]
theorem predtype_resolved (ps:List Pr) (hs:Sm ps) (t:Pd) (hz:szF t≤1000000):PC Proofs.Tryz.prog 105 [aTr ps,aPd t] (ab (allB (resB ps) t)):=by
 have he:=predtype_eachC (resB ps) 152 [.rp 1 [aTr ps] 0 0] (fun x hx=>(predtype_resolved1 ps hs x).clo) t hz
 generalize allB (resB ps) t=b at *
 obtain⟨k,n,p,q,s,l⟩:=t
 simp only[aPd_mk] at *
 refine PC.enter 8 [.tmp 4] [2,3] Proofs.Tryz.func105 rfl rfl rfl rfl rfl (by simp) (AWp.of ?_);simp only[go_sem]
 refine Wk ?_
 refine Sd ?_
 refine(he).val.use ?_;simp only[go_sem]
 refine Wk ?_
 refine ret_eq ?_;simp only[go_sem]
def varX (ps:List Pr) (p:Int) (s:ByteArray):Int:=match ps[p.toNat]? with|some x=>varIx x.vars s|none => -1
theorem varX_get {ps:List Pr} {p:Nat} (hp:p<ps.length) (s:ByteArray):varX ps p s=varIx ps[p].vars s:=by unfold varX;simp only[Int.toNat_natCast,List.getElem?_eq_getElem hp]
theorem varIx_neg (vs:List (ByteArray × Int)) (s:ByteArray):varIx vs s<0↔vs.any (nmB s)=false:=by
 unfold varIx
 cases h:vs.findIdx? (nmB s) with
 | none=>simp only[List.findIdx?_eq_none_iff] at h;simp only[List.any_eq_false];exact⟨fun _ x hx=>by simp [h x hx],fun _=>by omega⟩
 | some i =>
  rw[List.findIdx?_eq_some_iff_getElem] at h
  obtain⟨hi,h1,_⟩:=h
  refine⟨fun h=>by (have:(0:Int)≤(i:Int):=by omega);exact absurd h (by simp),fun h => ?_⟩
  rw[List.any_eq_false] at h
  exact absurd h1 (by simpa using h _ (List.getElem_mem hi))
theorem known_ix {vs:List (ByteArray × Int)} {s:ByteArray} (h:vs.any (nmB s)=true):∃i:Nat,varIx vs s=i∧i<vs.length:=by
 unfold varIx
 cases hf:vs.findIdx? (nmB s) with
 | none =>
  rw[List.findIdx?_eq_none_iff] at hf
  obtain⟨x,hx,hn⟩:=List.any_eq_true.1 h
  rw[hf x hx] at hn;cases hn
 | some i =>
  rw[List.findIdx?_eq_some_iff_getElem] at hf
  obtain⟨hi,_⟩:=hf
  exact⟨i,rfl,hi⟩
theorem known_get {ps:List Pr} {p:Nat} (hp:p<ps.length) {s:ByteArray} (h:knownB ps p s=true):ps[p].vars.any (nmB s)=true:=by
 unfold knownB at h;simpa only [Int.toNat_natCast,List.getElem?_eq_getElem hp] using h
theorem fstF_zero {f:Nat→Int} {n:Nat} (h:fstF f n=0):∀i,i<n→f i=0:=by
 intro i
 induction i using Nat.strongRecOn with
 | _ i ih =>
  intro hi
  by_cases h0:f i=0
  ·exact h0
  ·rw[fstF_hit hi (fun j hj=>ih j hj (by omega)) h0] at h;exact h
theorem procF_of_valid {ps:List Pr} (h:validF ps=true) {p:Nat} (hp:p<ps.length):procF ps p=0:=by
 have h0:=(valid_parts h).1
 unfold procFirst at h0
 rw[Option.map_eq_none_iff,List.find?_eq_none] at h0
 simpa using h0 p (List.mem_range.2 hp)
theorem evF_parts {ps:List Pr} {p:Nat} (hp:p<ps.length) {i:Nat} (hi:i<ps[p].evs.length):evF ps p i=0↔formedI ps.length p ps[p].evs[i]=true∧(0≤ps[p].evs[i].time∧ps[p].evs[i].time≤1099511627776∧lastT ps[p].evs i≤ps[p].evs[i].time) ∧
  ps[p].evs[i].asg.length≤8∧∀k,k<ps[p].evs[i].asg.length→asgF ps[p].vars.length ps[p].evs[i].asg k=0:=by
 have e:evF ps p i=if !formedI ps.length p ps[p].evs[i] then 3 else if !inI ps[p].evs[i].time 0 1099511627776 || decide (ps[p].evs[i].time<lastT ps[p].evs i) then 11 else if 8<ps[p].evs[i].asg.length then 5 else fstF (asgF ps[p].vars.length ps[p].evs[i].asg) ps[p].evs[i].asg.length:=by
  unfold evF;simp only[List.getElem?_eq_getElem hp,List.getElem?_eq_getElem hi]
 rw[e]
 constructor
 ·intro h
  split at h
  ·cases h
  ·rename_i h1
   split at h
   ·cases h
   ·rename_i h2
    split at h
    ·cases h
    ·simp only[inI,Bool.or_eq_true,Bool.not_eq_true',not_or,Bool.not_eq_false,Bool.and_eq_true,decide_eq_true_eq] at h2
     exact⟨by simpa using h1,⟨h2.1.1,h2.1.2,by omega⟩,by omega,fstF_zero h⟩
 ·rintro⟨h1,⟨h2,h3,h4⟩,h5,h6⟩
  rw[if_neg (by rw[h1];decide),if_neg (by simp only[inI,Bool.or_eq_true,Bool.not_eq_true',not_or,Bool.not_eq_false,Bool.and_eq_true,decide_eq_true_eq];omega),if_neg (by omega),fstF_none h6]
theorem evF_of_valid {ps:List Pr} (h:validF ps=true) {p:Nat} (hp:p<ps.length) {i:Nat} (hi:i<ps[p].evs.length):evF ps p i=0:=evFirst_get (valid_parts h).2.1 hp hi
theorem valid_cyc {ps:List Pr} (h:validF ps=true):cycF ps=none:=by
 obtain⟨h1,h2,h3⟩:=valid_parts h
 unfold validF faultF at h
 rw[h1,h2,h3] at h
 simp only[decide_eq_true_eq] at h
 split at h
 ·cases h
 ·split at h
  ·cases h
  ·assumption
section
variable {ps:List Pr} {c:List Int}
end
def mn2 (a b:Int):Int:=if b<a then b else a
def mx2 (a b:Int):Int:=if a<b then b else a
def minL:List Int→Int | []=>0|a :: r=>r.foldl mn2 a
def maxL:List Int→Int | []=>0|a :: r=>r.foldl mx2 a
theorem mn2_le (a b:Int):mn2 a b≤a∧mn2 a b≤b:=by unfold mn2;split <;> omega
theorem mx2_le (a b:Int):a≤mx2 a b∧b≤mx2 a b:=by unfold mx2;split <;> omega
theorem minL_snoc {l:List Int} (h:l ≠ []) (y:Int):minL (l ++ [y])=mn2 (minL l) y:=by
 cases l with
 | nil=>exact absurd rfl h
 | cons a r=>simp only[minL,List.cons_append,List.foldl_append,List.foldl_cons,List.foldl_nil]
theorem maxL_snoc {l:List Int} (h:l ≠ []) (y:Int):maxL (l ++ [y])=mx2 (maxL l) y:=by
 cases l with
 | nil=>exact absurd rfl h
 | cons a r=>simp only[maxL,List.cons_append,List.foldl_append,List.foldl_cons,List.foldl_nil]
theorem fold_mn (r:List Int):∀a,r.foldl mn2 a≤a∧∀y ∈ r,r.foldl mn2 a≤y:=by
 induction r with
 | nil=>intro a;exact⟨Int.le_refl _,fun y hy=>by cases hy⟩
 | cons b r ih =>
  intro a
  obtain⟨h1,h2⟩:=ih (mn2 a b)
  have:=mn2_le a b
  simp only[List.foldl_cons]
  refine⟨by omega,fun y hy => ?_⟩
  rcases List.mem_cons.1 hy with rfl|hy
  ·omega
  ·exact h2 y hy
theorem fold_mx (r:List Int):∀a,a≤r.foldl mx2 a∧∀y ∈ r,y≤r.foldl mx2 a:=by
 induction r with
 | nil=>intro a;exact⟨Int.le_refl _,fun y hy=>by cases hy⟩
 | cons b r ih =>
  intro a
  obtain⟨h1,h2⟩:=ih (mx2 a b)
  have:=mx2_le a b
  simp only[List.foldl_cons]
  refine⟨by omega,fun y hy => ?_⟩
  rcases List.mem_cons.1 hy with rfl|hy
  ·omega
  ·exact h2 y hy
theorem minL_le {l:List Int} {y:Int} (h:y ∈ l):minL l≤y:=by
 cases l with
 | nil=>cases h
 | cons a r=>rcases List.mem_cons.1 h with rfl|h;exact(fold_mn r _).1;exact(fold_mn r _).2 _ h
theorem le_maxL {l:List Int} {y:Int} (h:y ∈ l):y≤maxL l:=by
 cases l with
 | nil=>cases h
 | cons a r=>rcases List.mem_cons.1 h with rfl|h;exact(fold_mx r _).1;exact(fold_mx r _).2 _ h
theorem minL_take {l:List Int} {k:Nat} (h0:0<k) (hk:k<l.length):minL (l.take (k+1))=mn2 (minL (l.take k)) l[k]:=by
 rw[List.take_succ_eq_append_getElem hk,minL_snoc]
 intro e;rw[List.take_eq_nil_iff] at e;rcases e with e|e
 ·omega
 ·subst e;simp at hk
theorem maxL_take {l:List Int} {k:Nat} (h0:0<k) (hk:k<l.length):maxL (l.take (k+1))=mx2 (maxL (l.take k)) l[k]:=by
 rw[List.take_succ_eq_append_getElem hk,maxL_snoc]
 intro e;rw[List.take_eq_nil_iff] at e;rcases e with e|e
 ·omega
 ·subst e;simp at hk
def valsF (x:Pr) (v:Nat):List Int:=(List.range (x.evs.length+1)).map fun k=>(stateAt x k).getD v 0
theorem valsF_length (x:Pr) (v:Nat):(valsF x v).length=x.evs.length+1:=by unfold valsF;simp
theorem valsF_get (x:Pr) (v:Nat) {k:Nat} (hk:k<(valsF x v).length):(valsF x v)[k]=(stateAt x k).getD v 0:=by unfold valsF;simp
theorem valsF_mem (x:Pr) (v:Nat) {k:Nat} (hk:k≤x.evs.length):(stateAt x k).getD v 0 ∈ valsF x v:=by
 unfold valsF;rw[List.mem_map];exact⟨k,List.mem_range.2 (by omega),rfl⟩
def varLo (ps:List Pr) (p:Int) (s:ByteArray):Int:=match ps[p.toNat]? with|some x=>minL (valsF x (varIx x.vars s).toNat)|none=>0
def varHi (ps:List Pr) (p:Int) (s:ByteArray):Int:=match ps[p.toNat]? with|some x=>maxL (valsF x (varIx x.vars s).toNat)|none=>0
def evN (ps:List Pr) (p:Int):Int:=match ps[p.toNat]? with|some x=>x.evs.length|none=>0
def sentTo (q:Int) (e:Ev):Bool:=decide (e.kind=2) && decide (e.peer=q)
def msgN (ps:List Pr) (p q:Int):Int:=match ps[p.toNat]? with|some x=>(x.evs.countP (sentTo q):Int)|none=>0
def tooB (a b:Int):Bool:=decide (a < -1125899906842624) || decide (1125899906842624<b)
def absF (a:Int):Int:=mx2 a (-a)
def timesF (a b:Int):Int:=if a=0∨b=0 then 0 else if 1125899906842624 / absF b<absF a then (if (decide (a<0) != decide (b<0))=true then -1125899906842625 else 1125899906842625) else a * b
abbrev Bd:=Int × Int × Bool
def bdL (ps:List Pr) (k n p q:Int) (s:ByteArray):Int × Int:=if k=1 then (n,n) else if k=3 then (0,evN ps p) else if k=4 then (0,msgN ps p q) else (varLo ps p s,varHi ps p s)
def bd2 (k:Int) (a b:Bd):Int × Int:=if k=5 then (-a.2.1,-a.1) else if k=6 then (a.1+b.1,a.2.1+b.2.1) else if k=7 then (a.1 - b.2.1,a.2.1 - b.1) else
 (minL [timesF a.1 b.1,timesF a.1 b.2.1,timesF a.2.1 b.1,timesF a.2.1 b.2.1],maxL [timesF a.1 b.1,timesF a.1 b.2.1,timesF a.2.1 b.1,timesF a.2.1 b.2.1])
def bdG (i:Int × Int):Bd:=(i.1,i.2,!tooB i.1 i.2)
def bdN (ps:List Pr) (k n p q:Int) (s:ByteArray):List Bd→Bd
 | []=>bdG (bdL ps k n p q s)
 | [a]=>if a.2.2=true then bdG (bd2 k a a) else (0,0,false)
 | a :: b :: _=>if a.2.2=true∧b.2.2=true then bdG (bd2 k a b) else (0,0,false)
mutual
def intF (ps:List Pr):Pd→Bd
 | .mk k n p q s l=>bdN ps k n p q s (intL ps l)
def intL (ps:List Pr):List Pd→List Bd
 | []=>[]
 | x :: r=>intF ps x :: intL ps r
end
theorem intL_map (ps:List Pr):∀l,intL ps l=l.map (intF ps)
 | []=>by rw[intL];rfl
 | x :: r=>by rw[intL,intL_map ps r];rfl
theorem intF_mk (ps:List Pr) (k n p q:Int) (s:ByteArray) (l:List Pd):intF ps (.mk k n p q s l)=bdN ps k n p q s (l.map (intF ps)):=by rw[intF,intL_map]
mutual
def fitB (ps:List Pr):Pd→Bool
 | .mk k n p q s l=>if k≤8 then (intF ps (.mk k n p q s l)).2.2 else fitL ps l
def fitL (ps:List Pr):List Pd→Bool
 | []=>true
 | x :: r=>fitB ps x && fitL ps r
end
theorem fitL_all (ps:List Pr):∀l,fitL ps l=l.all (fitB ps)
 | []=>by rw[fitL];rfl
 | x :: r=>by rw[fitL,fitL_all ps r];rfl
theorem fitB_mk (ps:List Pr) (k n p q:Int) (s:ByteArray) (l:List Pd):fitB ps (.mk k n p q s l)=if k≤8 then (intF ps (.mk k n p q s l)).2.2 else l.all (fitB ps):=by rw[fitB,fitL_all]
def okT (ps:List Pr) (t:Pd):Bool:=allB locB t && allB (resB ps) t && allB typB t
theorem allB_sub {f:Pd→Bool} {k n p q:Int} {s:ByteArray} {l:List Pd} (h:allB f (.mk k n p q s l)=true):f (.mk k n p q s l)=true∧∀x ∈ l,allB f x=true:=by
 rw[allB_mk,Bool.and_eq_true,List.all_eq_true] at h;exact h
theorem okT_sub {ps:List Pr} {k n p q:Int} {s:ByteArray} {l:List Pd} (h:okT ps (.mk k n p q s l)=true) :
  locB (.mk k n p q s l)=true∧resB ps (.mk k n p q s l)=true∧typB (.mk k n p q s l)=true∧∀x ∈ l,okT ps x=true∧resF x.kind=needF k:=by
 unfold okT at *
 simp only[Bool.and_eq_true] at h
 obtain⟨⟨h1,h2⟩,h3⟩:=h
 obtain⟨a1,b1⟩:=allB_sub h1
 obtain⟨a2,b2⟩:=allB_sub h2
 obtain⟨a3,b3⟩:=allB_sub h3
 refine⟨a1,a2,a3,fun x hx=>⟨by simp only[Bool.and_eq_true];exact⟨⟨b1 x hx,b2 x hx⟩,b3 x hx⟩,?_⟩⟩
 unfold typB at a3
 have:=List.any_eq_false.1 (Bool.not_eq_true' _ ▸ a3:(l.any fun x=>tyNe k x.kind)=false) x hx
 unfold tyNe at this
 simpa using this
theorem loc_len {k n p q:Int} {s:ByteArray} {l:List Pd} (h:locB (.mk k n p q s l)=true):partsF k=l.length∧numB k n=true:=by
 unfold locB at h
 simp only[Bool.and_eq_true,decide_eq_true_eq] at h
 exact h.1
structure Obs where
 var:Int→ByteArray→Int
 cnt:Int→Int
 chn:Int→Int→Int
def valN (o:Obs) (k n p q:Int) (s:ByteArray):List Int→Int
 | []=>if k=1 then n else if k=2 then o.var p s else if k=3 then o.cnt p else o.chn p q
 | [a] => -a
 | a :: b :: _=>if k=6 then a+b else if k=7 then a - b else a * b
mutual
def valF (o:Obs):Pd→Int
 | .mk k n p q s l=>valN o k n p q s (valL o l)
def valL (o:Obs):List Pd→List Int
 | []=>[]
 | x :: r=>valF o x :: valL o r
end
theorem valL_map (o:Obs):∀l,valL o l=l.map (valF o)
 | []=>by rw[valL];rfl
 | x :: r=>by rw[valL,valL_map o r];rfl
theorem valF_mk (o:Obs) (k n p q:Int) (s:ByteArray) (l:List Pd):valF o (.mk k n p q s l)=valN o k n p q s (l.map (valF o)):=by rw[valF,valL_map]
def obsB (ps:List Pr) (o:Obs):Pd→Prop
 | .mk k _ p q s _=>(k=2→varLo ps p s≤o.var p s∧o.var p s≤varHi ps p s)∧(k=3→0≤o.cnt p∧o.cnt p≤evN ps p)∧(k=4→0≤o.chn p q∧o.chn p q≤msgN ps p q)
mutual
def AllP (f:Pd→Prop):Pd→Prop
 | .mk k n p q s l=>f (.mk k n p q s l)∧AllPL f l
def AllPL (f:Pd→Prop):List Pd→Prop
 | []=>True
 | x :: r=>AllP f x∧AllPL f r
end
theorem AllPL_mem {f:Pd→Prop} : ∀ {l:List Pd},AllPL f l→∀x ∈ l,AllP f x
 | x :: r,h,y,hy=>by
  rw[AllPL] at h
  rcases List.mem_cons.1 hy with rfl|hy
  ·exact h.1
  ·exact AllPL_mem h.2 y hy
theorem AllP_sub {f:Pd→Prop} {k n p q:Int} {s:ByteArray} {l:List Pd} (h:AllP f (.mk k n p q s l)):f (.mk k n p q s l)∧∀x ∈ l,AllP f x:=by
 rw[AllP] at h;exact⟨h.1,AllPL_mem h.2⟩
theorem AllPL_of {f:Pd→Prop} : ∀ {l:List Pd},(∀x ∈ l,AllP f x)→AllPL f l
 | [],_=>by rw[AllPL];trivial
 | x :: r,h=>by rw[AllPL];exact⟨h x List.mem_cons_self,AllPL_of fun y hy=>h y (List.mem_cons_of_mem _ hy)⟩
theorem AllP_mk {f:Pd→Prop} {k n p q:Int} {s:ByteArray} {l:List Pd} (h:f (.mk k n p q s l)) (hs:∀x ∈ l,AllP f x):AllP f (.mk k n p q s l):=by
 rw[AllP];exact⟨h,AllPL_of hs⟩
theorem AllP_of_allB {f:Pd→Bool} {g:Pd→Prop} (h:∀x,f x=true→g x) (t:Pd):allB f t=true→AllP g t:=by
 induction t using Pd.ind with
 | _ k n p q s l ih=>intro ht;obtain⟨a,b⟩:=allB_sub ht;exact AllP_mk (h _ a) fun x hx=>ih x hx (b x hx)
theorem tooB_false {a b:Int} (h:(!tooB a b)=true) : -1125899906842624≤a∧b≤1125899906842624:=by
 unfold tooB at h;simp at h;omega
theorem absF_eq (a:Int):absF a=a.natAbs:=by unfold absF mx2;split <;> omega
theorem timesF_ok {a b:Int} (h1 : -1125899906842624≤timesF a b) (h2:timesF a b≤1125899906842624):timesF a b=a * b:=by
 unfold timesF at *
 split
 ·rename_i h;rcases h with rfl|rfl <;> simp
 ·rename_i h
  rw[if_neg h] at h1 h2
  split
  ·rename_i hh;rw[if_pos hh] at h1 h2
   by_cases hx:(decide (a<0) != decide (b<0))=true
   ·rw[if_pos hx] at h1;omega
   ·rw[if_neg hx] at h2;omega
  ·rfl
theorem mul_ends {a b y:Int} {x:Int} (hx1:a≤x) (hx2:x≤b):(a * y≤x * y∧x * y≤b * y)∨(b * y≤x * y∧x * y≤a * y):=by
 rcases Int.le_total 0 y with h|h
 ·exact .inl ⟨Int.mul_le_mul_of_nonneg_right hx1 h,Int.mul_le_mul_of_nonneg_right hx2 h⟩
 ·exact .inr ⟨Int.mul_le_mul_of_nonpos_right hx2 h,Int.mul_le_mul_of_nonpos_right hx1 h⟩
theorem mul_ends' {a b x y:Int} (hx1:a≤x) (hx2:x≤b):(y * a≤y * x∧y * x≤y * b)∨(y * b≤y * x∧y * x≤y * a):=by
 rw[Int.mul_comm y a,Int.mul_comm y b,Int.mul_comm y x];exact mul_ends hx1 hx2
theorem mul_hull {a b c d x y m M:Int} (hx1:a≤x) (hx2:x≤b) (hy1:c≤y) (hy2:y≤d) (h1:m≤a * c∧a * c≤M) (h2:m≤a * d∧a * d≤M) (h3:m≤b * c∧b * c≤M) (h4:m≤b * d∧b * d≤M) :
  m≤x * y∧x * y≤M:=by
 have e1:=mul_ends (y:=y) hx1 hx2
 have e2:=mul_ends' (y:=a) hy1 hy2
 have e3:=mul_ends' (y:=b) hy1 hy2
 generalize x * y=u at *
 generalize a * y=u1 at *
 generalize b * y=u2 at *
 generalize a * c=v1 at *
 generalize a * d=v2 at *
 generalize b * c=v3 at *
 generalize b * d=v4 at *
 omega
theorem hull4 (a b c d:Int):(minL [a,b,c,d]≤a∧a≤maxL [a,b,c,d])∧(minL [a,b,c,d]≤b∧b≤maxL [a,b,c,d])∧(minL [a,b,c,d]≤c∧c≤maxL [a,b,c,d])∧(minL [a,b,c,d]≤d∧d≤maxL [a,b,c,d]) :=
 ⟨⟨minL_le (by simp),le_maxL (by simp)⟩,⟨minL_le (by simp),le_maxL (by simp)⟩,⟨minL_le (by simp),le_maxL (by simp)⟩,⟨minL_le (by simp),le_maxL (by simp)⟩⟩
theorem parts_cases (k:Int):(partsF k=0∧((1≤k∧k≤4)∨k=13∨k=14))∨(partsF k=1∧(k=5∨k=15∨(18≤k∧k≤21)))∨(partsF k=2∧((6≤k∧k≤12)∨k=16∨k=17))∨partsF k = -1:=by
 unfold partsF
 split
 ·exact .inl ⟨rfl,by omega⟩
 ·split
  ·exact .inr (.inl ⟨rfl,by omega⟩)
  ·split
   ·exact .inr (.inr (.inl ⟨rfl,by omega⟩))
   ·exact .inr (.inr (.inr rfl))
theorem resF_le {k:Int} (h:resF k=1):k≤8:=by unfold resF at h;split at h <;> omega
theorem child_le {ps:List Pr} {k n p q:Int} {s:ByteArray} {l:List Pd} (h:okT ps (.mk k n p q s l)=true) (hk:k≤12):∀x ∈ l,okT ps x=true∧x.kind≤8:=by
 intro x hx
 obtain⟨h1,h2⟩:=(okT_sub h).2.2.2 x hx
 refine⟨h1,resF_le ?_⟩
 rw[h2];unfold needF;rw[if_pos hk]
theorem len0 {α:Type} {l:List α} (h:l.length=0):l=[]:=List.length_eq_zero_iff.1 h
theorem len1 {α:Type} {l:List α} (h:l.length=1):∃a,l=[a]:=List.length_eq_one_iff.1 h
theorem len2 {α:Type} {l:List α} (h:l.length=2):∃a b,l=[a,b]:=by
 match l,h with
 | [a,b],_=>exact⟨a,b,rfl⟩
theorem valF_bounds (ps:List Pr) (o:Obs) (t:Pd):okT ps t=true→t.kind≤8→AllP (obsB ps o) t→(intF ps t).2.2=true →
  (intF ps t).1≤valF o t∧valF o t≤(intF ps t).2.1 ∧ -1125899906842624≤(intF ps t).1∧(intF ps t).2.1≤1125899906842624:=by
 induction t using Pd.ind with
 | _ k n p q s l ih =>
 intro ht hk ho hi
 obtain⟨h1,h2,h3,h4⟩:=okT_sub ht
 obtain⟨hpl,hnu⟩:=loc_len h1
 obtain⟨o1,o2⟩:=AllP_sub ho
 have hch:=child_le ht (show k≤12 by simp only[Pd.kind] at hk;omega)
 simp only[Pd.kind] at hk
 rw[intF_mk] at *
 rw[valF_mk]
 rcases parts_cases k with ⟨e,hc⟩|⟨e,hc⟩|⟨e,hc⟩|e
 ·obtain rfl:=len0 (l:=l) (by omega)
  simp only[List.map_nil,bdN,bdG,valN] at *
  obtain⟨b1,b2⟩:=tooB_false hi
  obtain⟨v2,v3,v4⟩:=o1
  have hk4:k=1∨k=2∨k=3∨k=4:=by omega
  refine⟨?_,?_,b1,b2⟩
  ·rcases hk4 with rfl|rfl|rfl|rfl
   ·simp [bdL]
   ·have:=(v2 rfl).1;simpa [bdL] using this
   ·have:=(v3 rfl).1;simpa [bdL] using this
   ·have:=(v4 rfl).1;simpa [bdL] using this
  ·rcases hk4 with rfl|rfl|rfl|rfl
   ·simp [bdL]
   ·have:=(v2 rfl).2;simpa [bdL] using this
   ·have:=(v3 rfl).2;simpa [bdL] using this
   ·have:=(v4 rfl).2;simpa [bdL] using this
 ·obtain⟨a,rfl⟩:=len1 (l:=l) (by omega)
  simp only[List.map_cons,List.map_nil,bdN,valN] at *
  split at hi
  ·rename_i ha
   rw[if_pos ha]
   obtain⟨c1,c2⟩:=hch a (by simp)
   obtain⟨d1,d2,d3,d4⟩:=ih a (by simp) c1 c2 (o2 a (by simp)) ha
   have k5:k=5:=by omega
   simp only[bdG,bd2,if_pos k5] at *
   omega
  ·cases hi
 ·obtain⟨a,b,rfl⟩:=len2 (l:=l) (by omega)
  simp only[List.map_cons,List.map_nil,bdN,valN] at *
  split at hi
  ·rename_i hab
   obtain⟨ha,hb⟩:=hab
   rw[if_pos ⟨ha,hb⟩]
   obtain⟨c1,c2⟩:=hch a (by simp)
   obtain⟨d1,d2,d3,d4⟩:=ih a (by simp) c1 c2 (o2 a (by simp)) ha
   obtain⟨c3,c4⟩:=hch b (by simp)
   obtain⟨f1,f2,f3,f4⟩:=ih b (by simp) c3 c4 (o2 b (by simp)) hb
   have hbd:=tooB_false hi
   generalize intF ps a=A at *
   generalize intF ps b=B at *
   obtain⟨a1,a2,a3⟩:=A
   obtain⟨b1,b2,b3⟩:=B
   generalize valF o a=x at *
   generalize valF o b=y at *
   simp only at *
   have k5:¬k=5:=by omega
   by_cases k6:k=6
   ·simp only[bdG,bd2,if_neg k5,if_pos k6] at *;omega
   by_cases k7:k=7
   ·simp only[bdG,bd2,if_neg k5,if_neg k6,if_pos k7] at *;omega
   simp only[bdG,bd2,if_neg k5,if_neg k6,if_neg k7] at *
   obtain⟨g1,g2,g3,g4⟩:=hull4 (timesF a1 b1) (timesF a1 b2) (timesF a2 b1) (timesF a2 b2)
   have t1:=timesF_ok (a:=a1) (b:=b1) (by omega) (by omega)
   have t2:=timesF_ok (a:=a1) (b:=b2) (by omega) (by omega)
   have t3:=timesF_ok (a:=a2) (b:=b1) (by omega) (by omega)
   have t4:=timesF_ok (a:=a2) (b:=b2) (by omega) (by omega)
   rw[t1,t2,t3,t4] at hbd ⊢
   obtain⟨g1,g2,g3,g4⟩:=hull4 (a1 * b1) (a1 * b2) (a2 * b1) (a2 * b2)
   obtain⟨r1,r2⟩:=mul_hull d1 d2 f1 f2 g1 g2 g3 g4
   exact⟨r1,r2,hbd.1,hbd.2⟩
  ·cases hi
 ·omega
end Go.AL
end
