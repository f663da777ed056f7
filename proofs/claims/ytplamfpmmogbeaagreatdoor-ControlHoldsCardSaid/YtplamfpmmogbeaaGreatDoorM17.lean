/- Texts of this claim's proof: WU1, WV10, WU3, WU4, WU5, WU6, WV8, WV11, WV12, WV13, WV15, WCs, WV16, WQp, WU7, WU8, WPw3, WV17, WXm, WXs, WV18, WV9, WV14. No condition. -/
import Derived.Test.YtplamfpmmogbeaaGreatDoorM7
import Derived.Test.YtplamfpmmogbeaaGreatDoorM16
import Derived.Test.YtplamfpmmogbeaaGreatDoorM12
import Derived.Test.YtplamfpmmogbeaaGreatDoorM6
import Derived.Test.YtplamfpmmogbeaaGreatDoorM14
import Derived.Test.YtplamfpmmogbeaaGreatDoorM10
import Derived.Test.YtplamfpmmogbeaaGreatDoorM13
section
namespace Go.AL
open Go Go.RowKit
set_option maxRecDepth 4000
theorem events_indexFuncB (l:List Ev) (hl:l.length≤9223372036854775807) (g:AV) (hgf:fo g=(True,g)) (p:Ev→Bool) (hg:∀x ∈ l,PV Proofs.Tryz.prog g [aEv x] (ab (p x))) :
  PC Proofs.Tryz.prog 58 [aEvs l,g] (ai (match l.findIdx? p with|some i=>(i:Int)|none => -1)):=by
 refine PC.enter 19 [.tmp 4] [] Proofs.Tryz.func58 rfl rfl rfl rfl rfl (by simp) (AWp.of ?_);simp only[go_sem]
 refine Sd ?_
 refine AWp.of ?_;simp only[go_sem]
 refine AWp.range1' l.length [] [0,1,7] (fun k vs L=>L=[]∧∀i (h:i<l.length),i<k→p l[i]=false) (by omega) rfl rfl rfl ⟨rfl,by omega⟩ ?_ ?_
 ·rintro k vs L' hk hvs ⟨rfl,hI⟩
  simp only[go_sem]
  refine Sd ?_
  refine AWp.of ?_;simp only[go_sem]
  have hgk:=hg l[k] (List.getElem_mem hk)
  try simp only[go_sem,aEv] at hgk
  refine Sd ?_
  refine AWp.of ?_;simp only[go_sem,getD_map hk,hgf,aEv]
  refine⟨⟨by omega,by omega⟩,hk,hgk.use (AWp.of ?_)⟩;simp only[go_sem]
  refine⟨fun ht => ?_,fun hf => ?_⟩
  ·refine Sd ?_
   refine AWp.of ?_;simp only[go_sem]
   refine ret_eq ?_;simp only[go_sem]
   have:l.findIdx? p=some k:=by rw[List.findIdx?_eq_some_iff_getElem];exact⟨hk,ht,fun j hj=>by simpa using hI j (by omega) hj⟩
   rw[this]
  ·refine⟨[],List.Sublist.refl _,rfl,fun i h hi => ?_⟩
   by_cases e:i=k
   ·subst e;exact hf
   ·exact hI i h (by omega)
 ·rintro vs L' hvs ⟨rfl,hI⟩
  simp only[go_sem]
  refine Sd ?_
  refine AWp.of ?_;simp only[go_sem]
  refine Sd ?_
  refine AWp.of ?_;simp only[go_sem]
  refine ret_eq ?_;simp only[go_sem]
  have:l.findIdx? p=none:=by rw[List.findIdx?_eq_none_iff];intro x hx;obtain⟨i,hi,rfl⟩:=List.getElem_of_mem hx;exact hI i hi hi
  rw[this]
theorem events_containsFuncB (l:List Ev) (hl:l.length≤9223372036854775807) (g:AV) (hgf:fo g=(True,g)) (p:Ev→Bool) (hg:∀x ∈ l,PV Proofs.Tryz.prog g [aEv x] (ab (p x))) :
  PC Proofs.Tryz.prog 26 [aEvs l,g] (ab (l.any p)):=by
 refine PC.enter 9 [.tmp 4] [] Proofs.Tryz.func26 rfl rfl rfl rfl rfl (by simp) (AWp.of ?_);simp only[go_sem]
 refine Sd ?_
 refine AWp.of ?_;simp only[go_sem,hgf]
 refine(events_indexFuncB l hl g hgf p hg).val.use ?_
 simp only[go_sem]
 refine Sd ?_
 refine AWp.of ?_;simp only[go_sem]
 refine ret_eq ?_;simp only[go_sem]
 congr 2;exact findIdx_any l p
theorem trace_FaultB (ps:List Pr) (hs:Smh ps) (hb:∃p,p<ps.length∧procF ps p ≠ 0):PC Proofs.Tryz.prog 99 [aTr ps] (aFault (faultF ps)):=by
 have hl:=hs.procs
 refine PC.enter 66 [.cell 2 74,.cell 3 30] [1,6,7,10,12] Proofs.Tryz.func99 rfl rfl rfl rfl rfl (by simp) (AWp.of ?_);simp only[go_sem]
 intro b2
 intro b3 h3
 have n23:¬b2=b3:=by omega
 refine Sd ?_
 refine AWp.of ?_;simp only[go_sem]
 refine Sd ?_
 refine(trace_in _ _ _).val.use ?_;simp only[go_sem]
 refine W1 n23 ?_
 refine⟨fun h1 => ?_,fun h1 => ?_⟩
 ·refine W1 n23 ?_
  have hf:faultF ps=((0,0),1):=by unfold faultF;rw[if_pos (by simp [h1])]
  rw[hf]
  refine ret_eq ?_
  simp only[go_sem,n23]
 ·refine Wk ?_
  refine AWp.range' ps.length [] [1,2,3,22] (fun k vs L=>L=[(b3,.row 30 1 [ai 0] 1),(b2,.row 74 2 [aEid (0,0)] 1)]∧∀j,j<k→procF ps j=0) (by omega) rfl rfl rfl ⟨rfl,by omega⟩ ?_ ?_
  ·rintro k vs L' hk - ⟨rfl,hI⟩
   simp only[go_sem]
   refine Sd ?_
   refine AWp.of ?_;simp only[go_sem]
   refine Wk ?_
   refine Sd ?_
   refine(trace_processFaultH ps hs k hk).val.use ?_;simp only[go_sem]
   refine W1 n23 ?_
   refine⟨fun h2 => ?_,fun h2 => ?_⟩
   ·refine W1 n23 ?_
    have hf:faultF ps=(((k:Int),0),procF ps k):=by unfold faultF;rw[if_neg (by simp [h1]),procFirst_hit hk hI h2]
    rw[hf]
    refine ret_eq ?_
    simp only[go_sem,n23]
   ·refine⟨_,List.Sublist.refl _,rfl,fun j hj => ?_⟩
    by_cases e:j=k
    ·rw[e];exact h2
    ·exact hI j (by omega)
  ·rintro vs L' - ⟨rfl,hI⟩
   obtain⟨p,hp,h⟩:=hb
   exact absurd (hI p hp) h
theorem ref12_FaultB (ps:List Pr) (hs:Smh ps) (hb:∃p,p<ps.length∧procF ps p ≠ 0):PC Proofs.Tryz.prog 74 [aTr ps] (aFault (faultF ps)):=by
 have hl:=hs.procs
 refine PC.enter 137 [.cell 2 74,.tmp 3] [1,11,15] Proofs.Tryz.func74 rfl rfl rfl rfl rfl (by simp) (AWp.of ?_);simp only[go_sem]
 intro b2
 refine Wk ?_
 refine Wk ?_
 refine⟨fun h1 => ?_,fun h1 => ?_⟩
 ·refine Wk ?_
  have hf:faultF ps=((0,0),1):=by
   unfold faultF
   rw[if_pos]
   unfold inI
   rw[Bool.not_eq_true',← Bool.not_eq_true,Bool.and_eq_true,decide_eq_true_eq,decide_eq_true_eq]
   omega
  rw[hf]
  refine ret_eq ?_
  simp only[go_sem]
 ·intro h1'
  have hin:¬((!inI ps.length 1 8)=true):=by
   unfold inI
   rw[Bool.not_eq_true',← Bool.not_eq_true,Bool.and_eq_true,decide_eq_true_eq,decide_eq_true_eq]
   omega
  refine Wk ?_
  refine AWp.block (AWp.count 4 ps.length [] [1,2] (fun k vs L=>L=[(b2,.row 74 2 [aEid (0,0)] 1)]∧∀j,j<k→procF ps j=0) rfl rfl ⟨by simp [aEid],by omega⟩ ?_)
  rintro k vs L hk - ⟨rfl,hI⟩
  simp only[go_sem]
  refine Wk ?_
  refine⟨fun h2 => ?_,fun h2 => ?_⟩
  ·have hkp:k<ps.length:=by omega
   refine Wk ?_
   refine Sd ?_
   refine(ref12_headH ps hs k hkp).val.use ?_;simp only[go_sem]
   refine Wk ?_
   refine⟨fun h3 => ?_,fun h3 => ?_⟩
   ·refine Wk ?_
    have hf:faultF ps=(((k:Int),0),procF ps k):=by unfold faultF;rw[if_neg hin,procFirst_hit hkp hI h3]
    rw[hf]
    refine ret_eq ?_
    simp only[go_sem]
   ·refine Wk ?_
    refine⟨_,List.Sublist.refl _,rfl,fun j hj => ?_⟩
    by_cases e:j=k
    ·rw[e];exact h3
    ·exact hI j (by omega)
  ·obtain⟨p,hp,h⟩:=hb
   exact absurd (hI p (by omega)) h
theorem procF_evs {ps:List Pr} {p:Nat} (hp:p<ps.length) (h:64<ps[p].evs.length):procF ps p ≠ 0:=by
 have hpf:procF ps p=if !nameOk ps[p].name || (ps.take p).any (fun y=>decide (y.name=ps[p].name)) then 13 else if 8<ps[p].vars.length then 5 else
   if fstF (varF ps[p].vars) ps[p].vars.length ≠ 0 then fstF (varF ps[p].vars) ps[p].vars.length else if 64<ps[p].evs.length then 5 else 0:=by
  unfold procF;rw[List.getElem?_eq_getElem hp]
 rw[hpf]
 split
 ·decide
 ·split
  ·decide
  ·split
   ·assumption
   ·first|decide|(rw[if_pos h];decide)
theorem valid_bad {ps:List Pr} (hb:∃p,p<ps.length∧procF ps p ≠ 0):validF ps=false:=by
 cases hv:validF ps with
 | false=>rfl
 | true =>
  obtain⟨p,hp,h⟩:=hb
  exact absurd (procF_of_valid hv hp) h
theorem trace_ValidB (ps:List Pr) (hs:Smh ps) (hb:∃p,p<ps.length∧procF ps p ≠ 0):PC Proofs.Tryz.prog 61 [aTr ps] (ab (validF ps)):=by
 refine PC.enter 12 [.tmp 2] [1,3] Proofs.Tryz.func61 rfl rfl rfl rfl rfl (by simp) (AWp.of ?_);simp only[go_sem]
 refine Wk ?_
 refine Sd ?_
 refine(trace_FaultB ps hs hb).val.use ?_;simp only[go_sem]
 refine Sd ?_
 intros
 refine AWp.of ?_;simp only[go_sem]
 refine Wk ?_
 refine ret_eq ?_;simp only[go_sem]
 rfl
theorem ref12_ValidB (ps:List Pr) (hs:Smh ps) (hb:∃p,p<ps.length∧procF ps p ≠ 0):PC Proofs.Tryz.prog 37 [aTr ps] (ab (validF ps)):=by
 refine PC.enter 12 [.tmp 2] [1,3] Proofs.Tryz.func37 rfl rfl rfl rfl rfl (by simp) (AWp.of ?_);simp only[go_sem]
 refine Wk ?_
 refine Sd ?_
 refine(ref12_FaultB ps hs hb).val.use ?_;simp only[go_sem]
 refine Sd ?_
 intros
 refine AWp.of ?_;simp only[go_sem]
 refine Wk ?_
 refine ret_eq ?_;simp only[go_sem]
 rfl
theorem valid_nev {ps:List Pr} (hv:validF ps=true) {p:Nat} (hp:p<ps.length):nev ps p≤64:=by
 rw[nev_get hp]
 apply Classical.byContradiction
 intro h4
 exact procF_evs hp (by omega) (procF_of_valid hv hp)
theorem chn_iff {ps:List Pr} : ∀ {r:List (List Int)} {a:List Int},chnF ps a r=true↔∀j (h:j<r.length),isF ps r[j]=true∧0≤stepF ((a :: r)[j]'(by rw[List.length_cons];omega)) r[j]
 | [],a=>⟨fun _ j h=>absurd h (by simp),fun _=>rfl⟩
 | b :: r,a=>by
  have e:chnF ps a (b :: r)=((isF ps b && decide (0≤stepF a b)) && chnF ps b r):=rfl
  rw[e,Bool.and_eq_true,Bool.and_eq_true,decide_eq_true_eq,chn_iff]
  constructor
  ·rintro⟨h1,h2⟩ j hj
   cases j with
   | zero=>exact h1
   | succ j=>exact h2 j (by simpa using hj)
  ·intro h
   exact⟨h 0 (by simp),fun j hj=>h (j+1) (by simpa using hj)⟩
theorem valid_off {ps:List Pr} (hv:validF ps=true):off ps ps.length≤512:=by
 have h:∀k,k≤ps.length→off ps k≤64 * k:=fun k=>by
  induction k with
  | zero=>intro _;simp [off]
  | succ k ih =>
   intro hk
   have h1:=off_succ (show k<ps.length by omega)
   have h2:=ih (by omega)
   have h3:ps[k].evs.length≤64:=by
    apply Classical.byContradiction
    intro h4
    exact procF_evs (show k<ps.length by omega) (by omega) (procF_of_valid hv (by omega))
   omega
 have:=h ps.length (Nat.le_refl _)
 have:=(valid_len hv).2
 omega
theorem MCalls.toS {P:Program} {f:FuncId} {args:List AV} {K:AV→AHeap→Prop} {S:AV→Prop} (h:MCalls P f args [] K) (hv:∀r L,K r L→∃r0,Vw L r r0∧S r0):MCalls P f args [] fun r L=>L=[]∧S r :=
 ⟨h.1,fun n w A vs hL hr=>(h.2 n w A vs hL hr).mono fun e w' ⟨v,r,L',A',he,hK,hf,hA,hL',hk,hr'⟩=>by
  obtain⟨r',hvw,hS⟩:=hv r L' hK
  exact⟨v,r',[],fun b=>A' b∨keysOf L' b,he,⟨rfl,hS⟩,hf,fun b hb=>hb.elim (hA b) (fun ⟨x,hx,e⟩=>by subst e;exact(hk x hx).elim (fun ⟨y,hy,_⟩=>by cases hy) (fun h => .inr (.inr h))),hL'.viewed (Lf:=L') (Lk:=[]) (by simp) .nil,(by intro x hx;cases hx),hL'.view (Lf:=L') (Lk:=[]) (by simp) hvw hr'⟩⟩
def mixJ (J c:List Int) (i:Nat):List Int:=J.take i ++ c.drop i
theorem mixJ_len {J c:List Int} (h:J.length=c.length) {i:Nat} (hi:i≤c.length):(mixJ J c i).length=c.length:=by unfold mixJ;rw[List.length_append,List.length_take,List.length_drop];omega
theorem mixJ_get {J c:List Int} (h:J.length=c.length) {i:Nat} (hi:i<c.length):(mixJ J c i)[i]'(by rw[mixJ_len h (by omega)];exact hi)=c[i]:=by
 unfold mixJ
 rw[List.getElem_append_right (by rw[List.length_take];omega),List.getElem_drop]
 congr 1
 rw[List.length_take];omega
theorem mixJ_set {J c:List Int} (h:J.length=c.length) {i:Nat} (hi:i<c.length):(mixJ J c i).set i (J[i]'(by omega))=mixJ J c (i+1):=by
 unfold mixJ
 rw[List.set_append_right _ _ (by rw[List.length_take];omega),List.length_take,show i - min i J.length=0 by omega,← List.getElem_cons_drop hi,List.set_cons_zero,List.take_succ_eq_append_getElem (by omega),List.append_assoc]
 rfl
theorem mixJ_zero (J c:List Int):mixJ J c 0=c:=by unfold mixJ;simp
theorem mixJ_full {J c:List Int} (h:J.length=c.length):mixJ J c c.length=J:=by unfold mixJ;rw[List.drop_length,List.append_nil,← h,List.take_length]
theorem tgt_least {α:Type} {bg:α→α→Bool} {len:Nat→Nat} {f:Nat→Nat→α} {n:Nat} (hm:MonB bg len f n) {t:Nat→Nat} (ht:Tgt bg len f n t):∀(m:Nat) (a:Nat→Nat),(∀t,Tgt bg len f n t→∀p,p<n→a p≤t p)→totS n (fun p=>t p - a p)≤m→∃a,LeastT bg len f n a:=by
 intro m
 induction m with
 | zero =>
  intro a ha h0
  by_cases hT:Tgt bg len f n a
  ·exact⟨a,hT,ha⟩
  ·exfalso
   obtain⟨p,q,hp,hq,hpq,hb⟩:∃p q,p<n∧q<n∧p ≠ q∧bg (f p (a p)) (f q (a q))=false:=by
    apply Classical.byContradiction
    intro hn
    refine hT ⟨fun p hp=>Nat.lt_of_le_of_lt (ha t ht p hp) (ht.1 p hp),fun p q hp hq hpq => ?_⟩
    cases hb:bg (f p (a p)) (f q (a q)) with
    | true=>rfl
    | false=>exact absurd ⟨p,q,hp,hq,hpq,hb⟩ hn
   have h1:=tgt_step hm ha hp hq hpq hb t ht q hq
   rw[if_pos rfl] at h1
   have h2:totS n (fun _=>0)<totS n (fun p=>t p - a p):=totS_lt2 n (p:=q) (fun _ _=>Nat.zero_le _) hq (by show 0<t q - a q;omega)
   omega
 | succ m ih =>
  intro a ha h0
  by_cases hT:Tgt bg len f n a
  ·exact⟨a,hT,ha⟩
  ·obtain⟨p,q,hp,hq,hpq,hb⟩:∃p q,p<n∧q<n∧p ≠ q∧bg (f p (a p)) (f q (a q))=false:=by
    apply Classical.byContradiction
    intro hn
    refine hT ⟨fun p hp=>Nat.lt_of_le_of_lt (ha t ht p hp) (ht.1 p hp),fun p q hp hq hpq => ?_⟩
    cases hb:bg (f p (a p)) (f q (a q)) with
    | true=>rfl
    | false=>exact absurd ⟨p,q,hp,hq,hpq,hb⟩ hn
   have hs:=tgt_step hm ha hp hq hpq hb
   have h1:=hs t ht q hq
   rw[if_pos rfl] at h1
   refine ih (fun r=>if r=q then a q+1 else a r) hs ?_
   have h2:totS n (fun r=>t r - (if r=q then a q+1 else a r))<totS n (fun p=>t p - a p):=totS_lt2 n (p:=q) (fun r _=>by
    show t r - (if r=q then a q+1 else a r)≤t r - a r
    split
    ·rename_i e;subst e;omega
    ·exact Nat.le_refl _) hq (by show t q - (if q=q then a q+1 else a q)<t q - a q;rw[if_pos rfl];omega)
   omega
theorem least_ex {ps:List Pr} {b:Nat→Nat→Bool} {rows:Nat→List Stp} (hR:RowsOk ps b rows) (h:∃t,TgtS ps rows t):∃a,LeastS ps rows a:=by
 obtain⟨t,ht⟩:=h
 exact tgt_least (mon_rows hR) ht _ (fun _=>0) (fun _ _ _ _=>Nat.zero_le _) (Nat.le_refl _)
theorem ref22_Fits (ps:List Pr) (hs:Sm ps) (c:List Int):PC Proofs.Tryz.prog 118 [aTr ps,aInts c] (ab (decide (c.length=ps.length))):=by
 have hl:=hs.procs
 refine PC.enter 11 [.tmp 4] [2] Proofs.Tryz.func118 rfl rfl rfl rfl rfl (by simp) (AWp.of ?_);simp only[go_sem]
 refine Wk ?_
 refine ret_eq ?_;simp only[go_sem]
 congr 2
 simp only[decide_eq_decide];omega
theorem ref22_Range (ps:List Pr) (hs:Sm ps) (c:List Int) (hc:c.length=ps.length):PC Proofs.Tryz.prog 119 [aTr ps,aInts c] (ab (inRangeF ps c)):=by
 have hl:=hs.procs
 refine PC.enter 31 [.tmp 4] [2] Proofs.Tryz.func119 rfl rfl rfl rfl rfl (by simp) (AWp.of ?_);simp only[go_sem]
 refine Wk ?_
 refine AWp.block (AWp.count 5 c.length [] [1,2] (fun p vs L=>L=[]∧∀q,q<p→cntOk ps c q=true) rfl rfl ⟨rfl,by omega⟩ ?_)
 rintro p vs L hp - ⟨rfl,hI⟩
 simp only[go_sem]
 refine Wk ?_
 refine⟨fun h2 => ?_,fun h2 => ?_⟩
 ·have hpc:p<c.length:=by omega
  have hpp:p<ps.length:=by omega
  have hco:=cntOk_get hpp hpc
  have hgP:=getD_map (f:=aPr) hpp
  have hgc:=getD_map (f:=ai) hpc
  refine AWp.seq (AWp.block (AWp.seq ?_))
  refine AWp.drawn mixed 19 (by kernel_rfl) ?_;simp only[go_sem,hgP,hgc]
  refine Sd ?_
  refine Wk ?_
  refine⟨fun h3 => ?_,fun h3 => ?_⟩
  ·refine Wk ?_
   refine ret_eq ?_;simp only[go_sem]
   have:inRangeF ps c=false:=by
    unfold inRangeF
    rw[List.all_eq_false]
    refine⟨p,List.mem_range.2 hpc,?_⟩
    rw[hco]
    simp only[Bool.and_eq_true,decide_eq_true_eq]
    omega
   rw[this]
  ·intro h4
   refine Wk ?_
   refine⟨_,List.Sublist.refl _,rfl,fun q hq => ?_⟩
   by_cases e:q=p
   ·subst e;rw[hco];simp only[Bool.and_eq_true,decide_eq_true_eq];omega
   ·exact hI q (by omega)
 ·refine Wk ?_
  refine ret_eq ?_;simp only[go_sem]
  have:inRangeF ps c=true:=by
   unfold inRangeF
   rw[List.all_eq_true]
   exact fun q hq=>hI q (by have:=List.mem_range.1 hq;omega)
  rw[this]
theorem ref22_closed (ps:List Pr) (hs:Sm ps) (hv:validF ps=true) (c:List Int) (hc:c.length=ps.length) (hr:inRangeF ps c=true):PC Proofs.Tryz.prog 120 [aTr ps,aInts c] (ab (closedF ps c)):=by
 obtain⟨hl1,hl8⟩:=valid_len hv
 have hl:=hs.procs
 refine PC.enter 27 [.tmp 4] [2] Proofs.Tryz.func120 rfl rfl rfl rfl rfl (by simp) (AWp.of ?_);simp only[go_sem]
 refine Wk ?_
 refine AWp.block (AWp.count 5 c.length [] [1,2] (fun p vs L=>L=[]∧Ahead ps (fun q j=>badEv ps c (((q:Int),(j:Int)+1),evq ps q j)=false) p 0) rfl rfl ⟨rfl,fun _ _ _ h=>by omega,fun j hj=>by omega⟩ ?_)
 rintro p vs L hp - ⟨rfl,hA⟩
 simp only[go_sem]
 refine Wk ?_
 refine⟨fun h1 => ?_,fun h1 => ?_⟩
 ·have hpc:p<c.length:=by omega
  have hpp:p<ps.length:=by omega
  have hgc:=getD_map (f:=ai) hpc
  have hel:=hs.evs _ (List.getElem_mem hpp)
  obtain⟨hr1,hr2⟩:=inRangeF_get hr hc hpp
  refine Wk ?_
  refine AWp.block (AWp.count 6 c[p].toNat [] [1,2,5] (fun i vs L=>L=[]∧Ahead ps (fun q j=>badEv ps c (((q:Int),(j:Int)+1),evq ps q j)=false) p i) rfl rfl ⟨rfl,hA⟩ ?_)
  rintro i vs L hi - ⟨rfl,hB⟩
  simp only[go_sem]
  refine W1 hgc ?_
  refine⟨fun h2 => ?_,fun h2 => ?_⟩
  ·have hie:i<ps[p].evs.length:=by omega
   have hsn:=ref22_Sent ps hs hv c hc p hpp i hie (by rw[cAt_nat hpc];omega)
   have hev:=evIds_get hpp hie
   have hq0:=evq_get hpp hie
   rw[← hq0] at hsn hev
   refine Wk ?_
   refine Sd ?_
   refine(hsn).val.use ?_;simp only[go_sem]
   cases hb:badEv ps c (((p:Int),(i:Int)+1),evq ps p i) with
   | true =>
    refine Wk ?_
    refine ret_eq ?_;simp only[go_sem]
    unfold closedF
    have:(evIds ps).any (badEv ps c)=true:=List.any_eq_true.2 ⟨_,List.mem_of_getElem? hev,hb⟩
    rw[this];rfl
   | false =>
    refine Wk ?_
    exact⟨_,List.Sublist.refl _,rfl,hB.next hb⟩
  ·refine Wk ?_
   refine⟨_,List.Sublist.refl _,rfl,Ahead.row hpp ⟨hB.1,fun j hj => ?_⟩⟩
   by_cases e:j<i
   ·exact hB.2 j e
   ·simp only[badEv,cAt_nat hpc,decide_eq_false (show ¬(j:Int)+1≤c[p] by omega),Bool.and_false,Bool.false_and]
 ·refine Wk ?_
  refine ret_eq ?_;simp only[go_sem]
  unfold closedF
  have:(evIds ps).any (badEv ps c)=false:=by
   rw[List.any_eq_false]
   intro x hx
   obtain⟨k,hk⟩:=List.getElem?_of_mem hx
   obtain⟨q,hq,j,hj,_,rfl⟩:=evIds_inv hk
   have:=hA.1 q hq j (by omega) hj
   dsimp only at this
   rw[evq_get hq hj] at this
   rw[this];decide
  rw[this];rfl
theorem ref22_Consistent (ps:List Pr) (hs:Sm ps) (hv:validF ps=true) (c:List Int):PC Proofs.Tryz.prog 85 [aTr ps,aInts c] (ab (isF ps c)):=by
 have h0:=ref12_Valid ps hs
 have h1:=ref22_Fits ps hs c
 have h2:=fun h=>ref22_Range ps hs c h
 have h3:=fun h1 h2=>ref22_closed ps hs hv c h1 h2
 rw[hv] at h0
 unfold isF
 generalize closedF ps c=B at *
 refine PC.enter 22 [.tmp 4] [2] Proofs.Tryz.func85 rfl rfl rfl rfl rfl (by simp) (AWp.of ?_);simp only[go_sem]
 refine Wk ?_
 refine Sd ?_
 refine(h0).val.use ?_;simp only[go_sem]
 refine Sd ?_
 refine GCall.use (ab (decide (c.length=ps.length))) (fun _=>⟨At,(h1).val.use ⟨rfl,rfl⟩⟩) ?_;simp only[go_sem]
 refine Sd ?_
 refine GCall.use (ab (inRangeF ps c)) ?_ ?_
 ·intro g;exact⟨At,(h2 (by simpa using g)).val.use ⟨rfl,rfl⟩⟩
 simp only[go_sem]
 refine Sd ?_
 refine GCall.use (ab B) ?_ ?_
 ·intro g;exact⟨At,(h3 (by simpa using g.1) (by simpa using g.2)).val.use ⟨rfl,rfl⟩⟩
 simp only[go_sem]
 refine Wk ?_
 refine ret_eq ?_;simp only[go_sem]
def asg12 (e:Ev):Bool:=decide (12<(e.asg.length:Int))
def smP (x:Pr):Bool:=!(decide (12<(x.vars.length:Int)) || x.evs.any asg12)
def smW (ps:List Pr):Nat→Int
 | 0=>0
 | k+1=>addW (smW ps k) (nev ps k)
def smF (ps:List Pr) (m:Int):Bool:=decide (ps.length≤10) && (ps.all smP && decide (smW ps ps.length≤m))
theorem smF_cases {ps:List Pr} {m:Int} (h:smF ps m=true):Sm ps∨(Smh ps∧∃p,p<ps.length∧procF ps p ≠ 0):=by
 unfold smF at h
 rw[Bool.and_eq_true,Bool.and_eq_true,decide_eq_true_eq,List.all_eq_true] at h
 obtain⟨h1,h2,_⟩:=h
 have h3:∀p ∈ ps,p.vars.length≤12∧∀e ∈ p.evs,e.asg.length≤12:=fun p hp=>by
  have:=h2 p hp
  unfold smP at this
  rw[Bool.not_eq_true',Bool.or_eq_false_iff,decide_eq_false_iff_not,List.any_eq_false] at this
  refine⟨by omega,fun e he => ?_⟩
  have:=this.2 e he
  unfold asg12 at this
  simp at this
  omega
 by_cases hb:∃p,∃h:p<ps.length,64<ps[p].evs.length
 ·obtain⟨p,hp,hb⟩:=hb
  exact .inr ⟨⟨by omega,fun p hp=>by have:=(h3 p hp).1;omega⟩,p,hp,procF_evs hp hb⟩
 ·refine .inl ⟨by omega,fun p hp => ?_,fun p hp=>by have:=(h3 p hp).1;omega,fun p hp e he=>by have:=(h3 p hp).2 e he;omega⟩
  obtain⟨i,hi,rfl⟩:=List.getElem_of_mem hp
  apply Classical.byContradiction
  intro h4
  exact hb ⟨i,hi,by omega⟩
theorem smW_in (ps:List Pr):∀k,-9223372036854775808≤smW ps k∧smW ps k≤9223372036854775807
 | 0=>by show -9223372036854775808≤(0:Int)∧(0:Int)≤9223372036854775807;omega
 | k+1=>by
  show -9223372036854775808≤addW (smW ps k) (nev ps k)∧addW (smW ps k) (nev ps k)≤9223372036854775807
  unfold addW
  rw[IntKind.wrap_i64]
  omega
section
variable {ps:List Pr} (hva:PC Proofs.Tryz.prog 61 [aTr ps] (ab false))
include hva
end
structure Vd (ps:List Pr):Prop where
 val:PC Proofs.Tryz.prog 61 [aTr ps] (ab (validF ps))
 rval:PC Proofs.Tryz.prog 37 [aTr ps] (ab (validF ps))
 sm:validF ps=true→Sm ps
 big:Sm ps∨validF ps=false
theorem vd_of {ps:List Pr} {m:Int} (h:smF ps m=true):Vd ps:=by
 rcases smF_cases h with h|⟨h,hb⟩
 ·exact⟨trace_Valid ps h,ref12_Valid ps h,fun _=>h,.inl h⟩
 ·exact⟨trace_ValidB ps h hb,ref12_ValidB ps h hb,fun hv=>absurd hv (by rw[valid_bad hb];simp),.inr (valid_bad hb)⟩
mutual
def hugeF:Pd→Int→Int→Int
 | .mk _ _ _ _ _ l,d,c=>hugeL l (d+1) (if 40<d then 1000 else c+1)
def hugeL:List Pd→Int→Int→Int
 | [],_,c=>c
 | x :: r,d,c=>if c≤300 then hugeL r d (hugeF x d c) else c
end
theorem AWp.slLen {C:Cfg} {Q:AQ} {ρ:Env} {L:AHeap} {c:Code} {k j:Nat} {xs:List AV} (hj:get ρ j = .sl k xs) (h:xs.length≤9223372036854775807→AWp C c Q ρ L):AWp C c Q ρ L:=fun hok n w0 M A0 a w hs=>by
 obtain⟨A,ds,hs'⟩:=st_iff.1 hs
 have hr:=hs'.env j
 rw[hj] at hr
 have hle:xs.length≤9223372036854775807:=by
  have hm:maxLen=9223372036854775807:=rfl
  rcases hr.inv_sl with ⟨rfl,_⟩|⟨b,off,cap,_,_,h1,h2,_⟩
  ·exact Nat.zero_le _
  ·omega
 exact h hle hok n w0 M A0 a w hs
mutual
def nodF:Pd→Int→Int→Int
 | .mk _ _ _ _ _ l,m,d=>if 40<d then m else nodL l m d 1
def nodL:List Pd→Int→Int→Int→Int
 | [],_,_,n=>n
 | x :: r,m,d,n=>if m≤n+nodF x (m - n) (d+1) then m else nodL r m d (n+nodF x (m - n) (d+1))
end
theorem spans_equal (a b:List Spn3) (ha:a.length≤1000000):PC Proofs.Tryz.prog 24 [aSps a,aSps b] (ab (decide (a=b))):=by
 have haE:∀l:List Spn3,aSps l = .sl 3 (l.map aSp):=fun _=>rfl
 rw[haE,haE]
 refine PC.enter 26 [.tmp 4] [] Proofs.Tryz.func24 rfl rfl rfl rfl rfl (by simp) (AWp.of ?_);simp only[go_sem]
 refine Wk ?_
 refine⟨fun h1 => ?_,fun h1 => ?_⟩
 ·refine Wk ?_
  refine ret_eq ?_;simp only[go_sem]
  congr 2;symm;apply decide_eq_false;rintro rfl;exact h1 rfl
 ·have hab:a.length=b.length:=by omega
  refine Sd ?_
  refine AWp.of ?_;simp only[go_sem]
  refine AWp.range' a.length [] [0,1,12] (fun k vs L=>L=[]∧∀(i:Nat) (hi:i<a.length),i<k→a[i]=b[i]) (by omega) rfl rfl rfl ⟨rfl,by omega⟩ ?_ ?_
  ·rintro k vs L' hk - ⟨rfl,hI⟩
   have hkb:k<b.length:=by omega
   have ga:=getD_map (f:=aSp) hk
   have gb:=getD_map (f:=aSp) hkb
   obtain⟨x1,x2,x3,hx⟩:∃x1 x2 x3,a[k]=(x1,x2,x3):=⟨_,_,_,rfl⟩
   obtain⟨y1,y2,y3,hy⟩:∃y1 y2 y3,b[k]=(y1,y2,y3):=⟨_,_,_,rfl⟩
   rw[hx] at ga
   rw[hy] at gb
   change _=AV.agg [ai x1,ai x2,ai x3] at ga
   change _=AV.agg [ai y1,ai y2,ai y3] at gb
   have hxy:a[k]=b[k]↔(x1=y1∧x2=y2)∧x3=y3:=by rw[hx,hy];exact⟨fun h=>by cases h;exact⟨⟨rfl,rfl⟩,rfl⟩,fun h=>by rw[h.1.1,h.1.2,h.2]⟩
   simp only[go_sem]
   refine Wk ?_
   repeat(first|(with_reducible refine AWp.seq ?_)|(with_reducible refine AWp.block ?_))
   refine AWp.read mixed [0,1,2,3,4,5,6,7,8] (by kernel_rfl) ?_;simp only[go_sem,ga,gb]
   refine Sd ?_
   by_cases he:(x1=y1∧x2=y2)∧x3=y3
   ·have hst:∀(i:Nat) (hi:i<a.length),i<k+1→a[i]=b[i]:=fun i hi hik=>by
     by_cases e:i=k
     ·subst e;exact hxy.2 he
     ·exact hI i hi (by omega)
    obtain⟨⟨rfl,rfl⟩,rfl⟩:=he
    refine Wk ?_
    exact⟨_,List.Sublist.refl _,rfl,hst⟩
   ·have hne:¬a=b:=fun e=>he (hxy.1 (by subst e;rfl))
    rw[decide_eq_false hne]
    have hd:(decide (x1=y1) && (decide (x2=y2) && decide (x3=y3)))=false:=by rw[← Bool.decide_and,← Bool.decide_and];exact decide_eq_false fun h=>he ⟨⟨h.1,h.2.1⟩,h.2.2⟩
    rw[hd]
    refine Wk ?_
    refine ret_eq ?_;simp only[go_sem]
  ·rintro vs L' - ⟨rfl,hI⟩
   simp only[go_sem]
   refine Wk ?_
   refine ret_eq ?_;simp only[go_sem]
   congr 2;symm;apply decide_eq_true
   exact List.ext_getElem hab fun i hi _=>hI i hi hi
open Classical in
theorem ref38_Begins (ps:List Pr) (hs:Sm ps) (hv:validF ps=true) (a o:Stp) (ha:SpIn ps a) (ho:SpIn ps o) (hao:a.1 ≠ o.1):PC Proofs.Tryz.prog 80 [aTr ps,aStp a,aStp o] (ab (bgN ps a o)):=by
 obtain⟨p,f,t⟩:=a
 obtain⟨q,f',t'⟩:=o
 obtain⟨h1,h2,h3⟩:=ha
 obtain⟨k1,k2,k3⟩:=ho
 have h1:p<ps.length:=h1
 have h2:f≤t:=h2
 have h3:t≤nev ps p:=h3
 have k1:q<ps.length:=k1
 have k3:t'≤nev ps q:=k3
 have hao:p ≠ q:=hao
 have hb:bgN ps (p,f,t) (q,f',t')=(decide (f=0) || (decide (t'=nev ps q) || decide ((f:Int)≤cAt (ptF ps q t') p))):=rfl
 have hA:aStp (p,f,t) = .agg [ai p,ai f,ai t]:=rfl
 have hO:aStp (q,f',t') = .agg [ai q,ai f',ai t']:=rfl
 rw[hA,hO]
 have hgq:=getD_map (f:=aPr) k1
 have hnq:=nev_get k1
 have hnp:=nev_get h1
 have hpl:=hs.procs
 have helq:=hs.evs _ (List.getElem_mem k1)
 by_cases hc:f=0∨t'=nev ps q
 ·have hbt:bgN ps (p,f,t) (q,f',t')=true:=by
   rw[hb]
   rcases hc with hc|hc
   ·rw[decide_eq_true hc];rfl
   ·rw[decide_eq_true hc];simp
  rw[hbt]
  rw[hnq] at hc k3
  generalize ps[q]=X at *
  refine PC.enter 39 [.tmp 6] [3,4,5] Proofs.Tryz.func80 rfl rfl rfl rfl rfl (by simp) (AWp.of ?_);simp only[go_sem]
  refine Wk ?_
  repeat(first|(with_reducible refine AWp.seq ?_)|(with_reducible refine AWp.block ?_))
  refine AWp.read mixed [0,1,2,3,4,5,6,7,8,9,10,11,12,13,14,15] (by kernel_rfl) ?_;simp only[go_sem,hgq]
  refine Sd ?_
  refine Wk ?_
  refine⟨fun h => ?_,fun h4 h5 => ?_⟩
  ·refine Wk ?_
   refine ret_eq ?_;simp only[go_sem]
  ·omega
 ·have hf0:f ≠ 0:=fun e=>hc (.inl e)
  have htn:t'<ps[q].evs.length:=by
   have:t' ≠ nev ps q:=fun e=>hc (.inr e)
   omega
  obtain⟨j,rfl⟩:∃j,f=j+1:=⟨f - 1,by omega⟩
  have hj:j<ps[p].evs.length:=by omega
  rw[decide_eq_false hf0,Bool.false_or,decide_eq_false (by omega),Bool.false_or] at hb
  have hm:=(valid_parts hv).2.2
  have hl1:=(valid_len hv).1
  have hpa:=ref12_Past ps hs hm hl1 q k1 t' htn
  rw[pastA_eq] at hpa
  have hrr:=pastR_get ((q:Int),(t':Int)+1) h1 hj
  have hre:=reach_pt hv h1 k1 hao htn hj
  have hbb:decide (Reach ps ((p:Int),(j:Int)+1) ((q:Int),(t':Int)+1))=bgN ps (p,j+1,t) (q,f',t'):=by
   rw[hb,decide_eq_decide];exact hre
  have hRr:(pastR ps ((q:Int),(t':Int)+1) p).getD (j+1) .any=ab (bgN ps (p,j+1,t) (q,f',t')):=by
   have e:((j:Int)+1).toNat=j+1:=by omega
   rw[e] at hrr
   rw[hrr,hbb]
  have hRl:(pastR ps ((q:Int),(t':Int)+1) p).length=nev ps p+1:=by unfold pastR;simp
  have hMl:((List.range ps.length).map fun p=>AV.sl 1 (pastR ps ((q:Int),(t':Int)+1) p)).length=ps.length:=by simp
  have hMg:((List.range ps.length).map fun p=>AV.sl 1 (pastR ps ((q:Int),(t':Int)+1) p)).getD p .any = .sl 1 (pastR ps ((q:Int),(t':Int)+1) p):=map_range_getD h1 _
  generalize (List.range ps.length).map (fun p=>AV.sl 1 (pastR ps ((q:Int),(t':Int)+1) p))=M at *
  generalize pastR ps ((q:Int),(t':Int)+1) p=Rw at *
  generalize bgN ps (p,j+1,t) (q,f',t')=B at *
  have hj1:¬((j+1:Nat):Int)=0:=by omega
  have hjt:(((j+1:Nat):Int)).toNat=j+1:=by omega
  have htt:¬(t':Int)=(ps[q].evs.length:Int):=by omega
  change PC _ _ [_,.agg [ai q,ai ((t':Int)+1)]] _ at hpa
  generalize ps[q]=X at *
  refine PC.enter 39 [.tmp 6] [3,4,5] Proofs.Tryz.func80 rfl rfl rfl rfl rfl (by simp) (AWp.of ?_);simp only[go_sem]
  refine Wk ?_
  repeat(first|(with_reducible refine AWp.seq ?_)|(with_reducible refine AWp.block ?_))
  refine AWp.read mixed [0,1,2,3,4,5,6,7,8,9,10,11,12,13,14,15] (by kernel_rfl) ?_;simp only[go_sem,hgq]
  refine Sd ?_
  refine Wk ?_
  intro h4 h5
  repeat(first|(with_reducible refine AWp.seq ?_)|(with_reducible refine AWp.block ?_))
  refine AWp.read mixed [0,1,2,3,4,5,6,7,8,9,10,11,12,13,14,15,16] (by kernel_rfl) ?_;simp only[go_sem]
  refine Sd ?_
  refine GCall.use (.sl 1 M) (fun _=>⟨At,(hpa).val.use ⟨rfl,rfl⟩⟩) ?_;simp only[go_sem,hMg,hRr,hjt]
  refine Sd ?_
  refine Wk ?_
  refine ret_eq ?_;simp only[go_sem]
end Go.AL
end
section
namespace Go.AL
open Go Go.RowKit
set_option maxRecDepth 4000
end Go.AL
end
