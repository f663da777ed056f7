/- Texts of this claim's proof: WV4, WV5, WFa, WFb, WGp, WGa, WV7, WXp, WV6, WU1, WV10, WU3, WU4, WU5, WU6, WV8, WV11, WV12, WV13, WV15, WCs, WV16, WQp, WU7, WU8, WPw3, WV17, WXm, WXs, WV18, WV9, WV14, WXr, WV20, WV21, WV22, WV23, WV24, WU9, WU10, WU12, WU13, WQe, WXg, WU14, WV25, WV27, WSg. No condition. -/
import Derived.Test.YtkkcgocdmaodbaaGreatDoorM14
import Derived.Test.YtkkcgocdmaodbaaGreatDoorM11
import Derived.Test.YtkkcgocdmaodbaaGreatDoorM13
import Derived.Test.YtkkcgocdmaodbaaGreatDoorM10
import Derived.Test.YtkkcgocdmaodbaaGreatDoorM6
import Derived.Test.YtkkcgocdmaodbaaGreatDoorM9
import Derived.Test.YtkkcgocdmaodbaaGreatDoorM7
section
namespace Go.AL
open Go Go.RowKit
set_option maxRecDepth 4000
def pastV (ps:List Pr) (s:Stp):AV:=if s.2.2=nev ps s.1 then anil else aInts (ptF ps s.1 s.2.2)
def aStr (ps:List Pr) (s:Stp):AV:=.agg [ai s.1,ai s.2.1,ai s.2.2,pastV ps s]
def SpIn (ps:List Pr) (s:Stp):Prop:=s.1<ps.length∧s.2.1≤s.2.2∧s.2.2≤nev ps s.1
theorem pastV_fo (ps:List Pr) (s:Stp):fo (pastV ps s)=(True,pastV ps s):=by unfold pastV;split <;> rfl
theorem pastV_one (ps:List Pr) (s:Stp):one (pastV ps s)=true:=by unfold pastV;split <;> rfl
attribute [go_sem ↓] pastV_fo pastV_one
attribute [go_sem] aStr
abbrev Spn3:=Int × Int × Int
def BadI (n:Nat) (x:List Int) (i:Nat):Prop:=x.getD i 0<0∨(n:Int)<x.getD i 0∨(0<i∧x.getD i 0≤x.getD (i - 1) 0)
open Classical in
noncomputable def listsF (ps:List Pr) (l:List (List Int)):Int:=if validF ps=true∧l.length=ps.length then (if ∃p i,p<l.length∧i<(l.getD p []).length∧BadI (nev ps p) (l.getD p []) i then 2 else 0) else 1
end Go.AL
end
section
namespace Go.AL
open Go Go.RowKit
set_option maxRecDepth 4000
section
variable {ps:List Pr} {E:Elim} {l:List (List Int)} {a:Nat→Nat}
end
theorem totS_le2 {c c':Nat→Nat} : ∀n,(∀q,q<n→c' q≤c q)→totS n c'≤totS n c
 | 0,_=>by simp [totS]
 | n+1,h=>by
  rw[totS_succ,totS_succ]
  have:=totS_le2 n fun q hq=>h q (by omega)
  have:=h n (by omega)
  omega
theorem totS_lt2 {c c':Nat→Nat} {p:Nat} : ∀n,(∀q,q<n→c' q≤c q)→p<n→c' p<c p→totS n c'<totS n c
 | 0,_,hp,_=>by omega
 | n+1,h,hp,hlt=>by
  rw[totS_succ,totS_succ]
  have h1:=h n (by omega)
  by_cases e:p=n
  ·subst e
   have:=totS_le2 p fun q hq=>h q (by omega)
   omega
  ·have:=totS_lt2 n (fun q hq=>h q (by omega)) (by omega) hlt
   omega
theorem rows_in {ps:List Pr} {b:Nat→Nat→Bool} {rows:Nat→List Stp} (hR:RowsOk ps b rows) {p:Nat} (hp:p<ps.length):∀s ∈ rows p,SpIn ps s:=fun s hs=>by
 obtain⟨h1,h2,h3,_⟩:=(hR p hp).el s hs
 exact⟨by rw[h1];exact hp,h2,by rw[h1];omega⟩
theorem chcL_succ (k:Nat) (rows:Nat→List Stp) (a:Nat→Nat):chcL (k+1) rows a=chcL k rows a ++ [fSp rows k (a k)]:=by unfold chcL;rw[List.range_succ,List.map_append];rfl
theorem last_get (d:List Stp) (x:Stp):((d ++ [x]).map aStp).getD (((d ++ [x]).map aStp).length - 1) .any=aStp x:=by
 rw[List.length_map,List.getD_eq_getElem?_getD,List.getElem?_map]
 simp
theorem last_set (d:List Stp) (x y:Stp):((d ++ [x]).map aStp).set (((d ++ [x]).map aStp).length - 1) (aStp y)=(d ++ [y]).map aStp:=by
 rw[List.length_map,List.map_append,List.map_append]
 simp
theorem events_indexFuncB (l:List Ev) (hl:l.length≤9223372036854775807) (g:AV) (hgf:fo g=(True,g)) (p:Ev→Bool) (hg:∀x ∈ l,PV Proofs.Tryz.prog g [aEv x] (ab (p x))) :
  PC Proofs.Tryz.prog 85 [aEvs l,g] (ai (match l.findIdx? p with|some i=>(i:Int)|none => -1)):=by
 refine PC.enter 19 [.tmp 4] [] Proofs.Tryz.func85 rfl rfl rfl rfl rfl (by simp) (AWp.of ?_);simp only[go_sem]
 refine Sd ?_
 refine AWp.of ?_;simp only[go_sem]
 refine AWp.range1' l.length [] [0,1,7] (fun k vs L=>L=[]∧∀i (h:i<l.length),i<k→p l[i]=false) (by omega) rfl rfl rfl ⟨rfl,by omega⟩ ?_ ?_
 ·rintro k vs L' hk hvs ⟨rfl,hI⟩
  simp only[go_sem]
  refine Sd ?_
  refine AWp.of ?_;simp only[go_sem]
  have hgk:=hg l[k] (List.getElem_mem hk)
  try simp only[go_sem,aEv] at hgk
  refine Sd ?_
  refine AWp.of ?_;simp only[go_sem,getD_map hk,hgf,aEv]
  refine⟨⟨by omega,by omega⟩,hk,hgk.use (AWp.of ?_)⟩;simp only[go_sem]
  refine⟨fun ht => ?_,fun hf => ?_⟩
  ·refine Sd ?_
   refine AWp.of ?_;simp only[go_sem]
   refine ret_eq ?_;simp only[go_sem]
   have:l.findIdx? p=some k:=by rw[List.findIdx?_eq_some_iff_getElem];exact⟨hk,ht,fun j hj=>by simpa using hI j (by omega) hj⟩
   rw[this]
  ·refine⟨[],List.Sublist.refl _,rfl,fun i h hi => ?_⟩
   by_cases e:i=k
   ·subst e;exact hf
   ·exact hI i h (by omega)
 ·rintro vs L' hvs ⟨rfl,hI⟩
  simp only[go_sem]
  refine Sd ?_
  refine AWp.of ?_;simp only[go_sem]
  refine Sd ?_
  refine AWp.of ?_;simp only[go_sem]
  refine ret_eq ?_;simp only[go_sem]
  have:l.findIdx? p=none:=by rw[List.findIdx?_eq_none_iff];intro x hx;obtain⟨i,hi,rfl⟩:=List.getElem_of_mem hx;exact hI i hi hi
  rw[this]
theorem events_containsFuncB (l:List Ev) (hl:l.length≤9223372036854775807) (g:AV) (hgf:fo g=(True,g)) (p:Ev→Bool) (hg:∀x ∈ l,PV Proofs.Tryz.prog g [aEv x] (ab (p x))) :
  PC Proofs.Tryz.prog 48 [aEvs l,g] (ab (l.any p)):=by
 refine PC.enter 9 [.tmp 4] [] Proofs.Tryz.func48 rfl rfl rfl rfl rfl (by simp) (AWp.of ?_);simp only[go_sem]
 refine Sd ?_
 refine AWp.of ?_;simp only[go_sem,hgf]
 refine(events_indexFuncB l hl g hgf p hg).val.use ?_
 simp only[go_sem]
 refine Sd ?_
 refine AWp.of ?_;simp only[go_sem]
 refine ret_eq ?_;simp only[go_sem]
 congr 2;exact findIdx_any l p
theorem trace_FaultB (ps:List Pr) (hs:Smh ps) (hb:∃p,p<ps.length∧procF ps p ≠ 0):PC Proofs.Tryz.prog 101 [aTr ps] (aFault (faultF ps)):=by
 have hl:=hs.procs
 refine PC.enter 66 [.cell 2 72,.cell 3 32] [1,6,7,10,12] Proofs.Tryz.func101 rfl rfl rfl rfl rfl (by simp) (AWp.of ?_);simp only[go_sem]
 intro b2
 intro b3 h3
 have n23:¬b2=b3:=by omega
 refine Sd ?_
 refine AWp.of ?_;simp only[go_sem]
 refine Sd ?_
 refine(trace_in _ _ _).val.use ?_;simp only[go_sem]
 refine W1 n23 ?_
 refine⟨fun h1 => ?_,fun h1 => ?_⟩
 ·refine W1 n23 ?_
  have hf:faultF ps=((0,0),1):=by unfold faultF;rw[if_pos (by simp [h1])]
  rw[hf]
  refine ret_eq ?_
  simp only[go_sem,n23]
 ·refine Wk ?_
  refine AWp.range' ps.length [] [1,2,3,22] (fun k vs L=>L=[(b3,.row 32 1 [ai 0] 1),(b2,.row 72 2 [aEid (0,0)] 1)]∧∀j,j<k→procF ps j=0) (by omega) rfl rfl rfl ⟨rfl,by omega⟩ ?_ ?_
  ·rintro k vs L' hk - ⟨rfl,hI⟩
   simp only[go_sem]
   refine Sd ?_
   refine AWp.of ?_;simp only[go_sem]
   refine Wk ?_
   refine Sd ?_
   refine(trace_processFaultH ps hs k hk).val.use ?_;simp only[go_sem]
   refine W1 n23 ?_
   refine⟨fun h2 => ?_,fun h2 => ?_⟩
   ·refine W1 n23 ?_
    have hf:faultF ps=(((k:Int),0),procF ps k):=by unfold faultF;rw[if_neg (by simp [h1]),procFirst_hit hk hI h2]
    rw[hf]
    refine ret_eq ?_
    simp only[go_sem,n23]
   ·refine⟨_,List.Sublist.refl _,rfl,fun j hj => ?_⟩
    by_cases e:j=k
    ·rw[e];exact h2
    ·exact hI j (by omega)
  ·rintro vs L' - ⟨rfl,hI⟩
   obtain⟨p,hp,h⟩:=hb
   exact absurd (hI p hp) h
theorem ref12_FaultB (ps:List Pr) (hs:Smh ps) (hb:∃p,p<ps.length∧procF ps p ≠ 0):PC Proofs.Tryz.prog 50 [aTr ps] (aFault (faultF ps)):=by
 have hl:=hs.procs
 refine PC.enter 137 [.cell 2 72,.tmp 3] [1,11,15] Proofs.Tryz.func50 rfl rfl rfl rfl rfl (by simp) (AWp.of ?_);simp only[go_sem]
 intro b2
 refine Wk ?_
 refine Wk ?_
 refine⟨fun h1 => ?_,fun h1 => ?_⟩
 ·refine Wk ?_
  have hf:faultF ps=((0,0),1):=by
   unfold faultF
   rw[if_pos]
   unfold inI
   rw[Bool.not_eq_true',← Bool.not_eq_true,Bool.and_eq_true,decide_eq_true_eq,decide_eq_true_eq]
   omega
  rw[hf]
  refine ret_eq ?_
  simp only[go_sem]
 ·intro h1'
  have hin:¬((!inI ps.length 1 8)=true):=by
   unfold inI
   rw[Bool.not_eq_true',← Bool.not_eq_true,Bool.and_eq_true,decide_eq_true_eq,decide_eq_true_eq]
   omega
  refine Wk ?_
  refine AWp.block (AWp.count 4 ps.length [] [1,2] (fun k vs L=>L=[(b2,.row 72 2 [aEid (0,0)] 1)]∧∀j,j<k→procF ps j=0) rfl rfl ⟨by simp [aEid],by omega⟩ ?_)
  rintro k vs L hk - ⟨rfl,hI⟩
  simp only[go_sem]
  refine Wk ?_
  refine⟨fun h2 => ?_,fun h2 => ?_⟩
  ·have hkp:k<ps.length:=by omega
   refine Wk ?_
   refine Sd ?_
   refine(ref12_headH ps hs k hkp).val.use ?_;simp only[go_sem]
   refine Wk ?_
   refine⟨fun h3 => ?_,fun h3 => ?_⟩
   ·refine Wk ?_
    have hf:faultF ps=(((k:Int),0),procF ps k):=by unfold faultF;rw[if_neg hin,procFirst_hit hkp hI h3]
    rw[hf]
    refine ret_eq ?_
    simp only[go_sem]
   ·refine Wk ?_
    refine⟨_,List.Sublist.refl _,rfl,fun j hj => ?_⟩
    by_cases e:j=k
    ·rw[e];exact h3
    ·exact hI j (by omega)
  ·obtain⟨p,hp,h⟩:=hb
   exact absurd (hI p (by omega)) h
theorem procF_evs {ps:List Pr} {p:Nat} (hp:p<ps.length) (h:64<ps[p].evs.length):procF ps p ≠ 0:=by
 have hpf:procF ps p=if !nameOk ps[p].name || (ps.take p).any (fun y=>decide (y.name=ps[p].name)) then 13 else if 8<ps[p].vars.length then 5 else
   if fstF (varF ps[p].vars) ps[p].vars.length ≠ 0 then fstF (varF ps[p].vars) ps[p].vars.length else if 64<ps[p].evs.length then 5 else 0:=by
  unfold procF;rw[List.getElem?_eq_getElem hp]
 rw[hpf]
 split
 ·decide
 ·split
  ·decide
  ·split
   ·assumption
   ·first|decide|(rw[if_pos h];decide)
theorem valid_bad {ps:List Pr} (hb:∃p,p<ps.length∧procF ps p ≠ 0):validF ps=false:=by
 cases hv:validF ps with
 | false=>rfl
 | true =>
  obtain⟨p,hp,h⟩:=hb
  exact absurd (procF_of_valid hv hp) h
theorem trace_ValidB (ps:List Pr) (hs:Smh ps) (hb:∃p,p<ps.length∧procF ps p ≠ 0):PC Proofs.Tryz.prog 58 [aTr ps] (ab (validF ps)):=by
 refine PC.enter 12 [.tmp 2] [1,3] Proofs.Tryz.func58 rfl rfl rfl rfl rfl (by simp) (AWp.of ?_);simp only[go_sem]
 refine Wk ?_
 refine Sd ?_
 refine(trace_FaultB ps hs hb).val.use ?_;simp only[go_sem]
 refine Sd ?_
 intros
 refine AWp.of ?_;simp only[go_sem]
 refine Wk ?_
 refine ret_eq ?_;simp only[go_sem]
 rfl
theorem ref12_ValidB (ps:List Pr) (hs:Smh ps) (hb:∃p,p<ps.length∧procF ps p ≠ 0):PC Proofs.Tryz.prog 22 [aTr ps] (ab (validF ps)):=by
 refine PC.enter 12 [.tmp 2] [1,3] Proofs.Tryz.func22 rfl rfl rfl rfl rfl (by simp) (AWp.of ?_);simp only[go_sem]
 refine Wk ?_
 refine Sd ?_
 refine(ref12_FaultB ps hs hb).val.use ?_;simp only[go_sem]
 refine Sd ?_
 intros
 refine AWp.of ?_;simp only[go_sem]
 refine Wk ?_
 refine ret_eq ?_;simp only[go_sem]
 rfl
theorem chn_iff {ps:List Pr} : ∀ {r:List (List Int)} {a:List Int},chnF ps a r=true↔∀j (h:j<r.length),isF ps r[j]=true∧0≤stepF ((a :: r)[j]'(by rw[List.length_cons];omega)) r[j]
 | [],a=>⟨fun _ j h=>absurd h (by simp),fun _=>rfl⟩
 | b :: r,a=>by
  have e:chnF ps a (b :: r)=((isF ps b && decide (0≤stepF a b)) && chnF ps b r):=rfl
  rw[e,Bool.and_eq_true,Bool.and_eq_true,decide_eq_true_eq,chn_iff]
  constructor
  ·rintro⟨h1,h2⟩ j hj
   cases j with
   | zero=>exact h1
   | succ j=>exact h2 j (by simpa using hj)
  ·intro h
   exact⟨h 0 (by simp),fun j hj=>h (j+1) (by simpa using hj)⟩
theorem valid_off {ps:List Pr} (hv:validF ps=true):off ps ps.length≤512:=by
 have h:∀k,k≤ps.length→off ps k≤64 * k:=fun k=>by
  induction k with
  | zero=>intro _;simp [off]
  | succ k ih =>
   intro hk
   have h1:=off_succ (show k<ps.length by omega)
   have h2:=ih (by omega)
   have h3:ps[k].evs.length≤64:=by
    apply Classical.byContradiction
    intro h4
    exact procF_evs (show k<ps.length by omega) (by omega) (procF_of_valid hv (by omega))
   omega
 have:=h ps.length (Nat.le_refl _)
 have:=(valid_len hv).2
 omega
theorem MCalls.toS {P:Program} {f:FuncId} {args:List AV} {K:AV→AHeap→Prop} {S:AV→Prop} (h:MCalls P f args [] K) (hv:∀r L,K r L→∃r0,Vw L r r0∧S r0):MCalls P f args [] fun r L=>L=[]∧S r :=
 ⟨h.1,fun n w A vs hL hr=>(h.2 n w A vs hL hr).mono fun e w' ⟨v,r,L',A',he,hK,hf,hA,hL',hk,hr'⟩=>by
  obtain⟨r',hvw,hS⟩:=hv r L' hK
  exact⟨v,r',[],fun b=>A' b∨keysOf L' b,he,⟨rfl,hS⟩,hf,fun b hb=>hb.elim (hA b) (fun ⟨x,hx,e⟩=>by subst e;exact(hk x hx).elim (fun ⟨y,hy,_⟩=>by cases hy) (fun h => .inr (.inr h))),hL'.viewed (Lf:=L') (Lk:=[]) (by simp) .nil,(by intro x hx;cases hx),hL'.view (Lf:=L') (Lk:=[]) (by simp) hvw hr'⟩⟩
def mixJ (J c:List Int) (i:Nat):List Int:=J.take i ++ c.drop i
theorem mixJ_len {J c:List Int} (h:J.length=c.length) {i:Nat} (hi:i≤c.length):(mixJ J c i).length=c.length:=by unfold mixJ;rw[List.length_append,List.length_take,List.length_drop];omega
theorem mixJ_get {J c:List Int} (h:J.length=c.length) {i:Nat} (hi:i<c.length):(mixJ J c i)[i]'(by rw[mixJ_len h (by omega)];exact hi)=c[i]:=by
 unfold mixJ
 rw[List.getElem_append_right (by rw[List.length_take];omega),List.getElem_drop]
 congr 1
 rw[List.length_take];omega
theorem mixJ_set {J c:List Int} (h:J.length=c.length) {i:Nat} (hi:i<c.length):(mixJ J c i).set i (J[i]'(by omega))=mixJ J c (i+1):=by
 unfold mixJ
 rw[List.set_append_right _ _ (by rw[List.length_take];omega),List.length_take,show i - min i J.length=0 by omega,← List.getElem_cons_drop hi,List.set_cons_zero,List.take_succ_eq_append_getElem (by omega),List.append_assoc]
 rfl
theorem mixJ_zero (J c:List Int):mixJ J c 0=c:=by unfold mixJ;simp
theorem mixJ_full {J c:List Int} (h:J.length=c.length):mixJ J c c.length=J:=by unfold mixJ;rw[List.drop_length,List.append_nil,← h,List.take_length]
theorem tgt_least {α:Type} {bg:α→α→Bool} {len:Nat→Nat} {f:Nat→Nat→α} {n:Nat} (hm:MonB bg len f n) {t:Nat→Nat} (ht:Tgt bg len f n t):∀(m:Nat) (a:Nat→Nat),(∀t,Tgt bg len f n t→∀p,p<n→a p≤t p)→totS n (fun p=>t p - a p)≤m→∃a,LeastT bg len f n a:=by
 intro m
 induction m with
 | zero =>
  intro a ha h0
  by_cases hT:Tgt bg len f n a
  ·exact⟨a,hT,ha⟩
  ·exfalso
   obtain⟨p,q,hp,hq,hpq,hb⟩:∃p q,p<n∧q<n∧p ≠ q∧bg (f p (a p)) (f q (a q))=false:=by
    apply Classical.byContradiction
    intro hn
    refine hT ⟨fun p hp=>Nat.lt_of_le_of_lt (ha t ht p hp) (ht.1 p hp),fun p q hp hq hpq => ?_⟩
    cases hb:bg (f p (a p)) (f q (a q)) with
    | true=>rfl
    | false=>exact absurd ⟨p,q,hp,hq,hpq,hb⟩ hn
   have h1:=tgt_step hm ha hp hq hpq hb t ht q hq
   rw[if_pos rfl] at h1
   have h2:totS n (fun _=>0)<totS n (fun p=>t p - a p):=totS_lt2 n (p:=q) (fun _ _=>Nat.zero_le _) hq (by show 0<t q - a q;omega)
   omega
 | succ m ih =>
  intro a ha h0
  by_cases hT:Tgt bg len f n a
  ·exact⟨a,hT,ha⟩
  ·obtain⟨p,q,hp,hq,hpq,hb⟩:∃p q,p<n∧q<n∧p ≠ q∧bg (f p (a p)) (f q (a q))=false:=by
    apply Classical.byContradiction
    intro hn
    refine hT ⟨fun p hp=>Nat.lt_of_le_of_lt (ha t ht p hp) (ht.1 p hp),fun p q hp hq hpq => ?_⟩
    cases hb:bg (f p (a p)) (f q (a q)) with
    | true=>rfl
    | false=>exact absurd ⟨p,q,hp,hq,hpq,hb⟩ hn
   have hs:=tgt_step hm ha hp hq hpq hb
   have h1:=hs t ht q hq
   rw[if_pos rfl] at h1
   refine ih (fun r=>if r=q then a q+1 else a r) hs ?_
   have h2:totS n (fun r=>t r - (if r=q then a q+1 else a r))<totS n (fun p=>t p - a p):=totS_lt2 n (p:=q) (fun r _=>by
    show t r - (if r=q then a q+1 else a r)≤t r - a r
    split
    ·rename_i e;subst e;omega
    ·exact Nat.le_refl _) hq (by show t q - (if q=q then a q+1 else a q)<t q - a q;rw[if_pos rfl];omega)
   omega
theorem least_ex {ps:List Pr} {b:Nat→Nat→Bool} {rows:Nat→List Stp} (hR:RowsOk ps b rows) (h:∃t,TgtS ps rows t):∃a,LeastS ps rows a:=by
 obtain⟨t,ht⟩:=h
 exact tgt_least (mon_rows hR) ht _ (fun _=>0) (fun _ _ _ _=>Nat.zero_le _) (Nat.le_refl _)
def asg12 (e:Ev):Bool:=decide (12<(e.asg.length:Int))
def smP (x:Pr):Bool:=!(decide (12<(x.vars.length:Int)) || x.evs.any asg12)
def smW (ps:List Pr):Nat→Int
 | 0=>0
 | k+1=>addW (smW ps k) (nev ps k)
def smF (ps:List Pr) (m:Int):Bool:=decide (ps.length≤10) && (ps.all smP && decide (smW ps ps.length≤m))
theorem smF_cases {ps:List Pr} {m:Int} (h:smF ps m=true):Sm ps∨(Smh ps∧∃p,p<ps.length∧procF ps p ≠ 0):=by
 unfold smF at h
 rw[Bool.and_eq_true,Bool.and_eq_true,decide_eq_true_eq,List.all_eq_true] at h
 obtain⟨h1,h2,_⟩:=h
 have h3:∀p ∈ ps,p.vars.length≤12∧∀e ∈ p.evs,e.asg.length≤12:=fun p hp=>by
  have:=h2 p hp
  unfold smP at this
  rw[Bool.not_eq_true',Bool.or_eq_false_iff,decide_eq_false_iff_not,List.any_eq_false] at this
  refine⟨by omega,fun e he => ?_⟩
  have:=this.2 e he
  unfold asg12 at this
  simp at this
  omega
 by_cases hb:∃p,∃h:p<ps.length,64<ps[p].evs.length
 ·obtain⟨p,hp,hb⟩:=hb
  exact .inr ⟨⟨by omega,fun p hp=>by have:=(h3 p hp).1;omega⟩,p,hp,procF_evs hp hb⟩
 ·refine .inl ⟨by omega,fun p hp => ?_,fun p hp=>by have:=(h3 p hp).1;omega,fun p hp e he=>by have:=(h3 p hp).2 e he;omega⟩
  obtain⟨i,hi,rfl⟩:=List.getElem_of_mem hp
  apply Classical.byContradiction
  intro h4
  exact hb ⟨i,hi,by omega⟩
theorem smW_in (ps:List Pr):∀k,-9223372036854775808≤smW ps k∧smW ps k≤9223372036854775807
 | 0=>by show -9223372036854775808≤(0:Int)∧(0:Int)≤9223372036854775807;omega
 | k+1=>by
  show -9223372036854775808≤addW (smW ps k) (nev ps k)∧addW (smW ps k) (nev ps k)≤9223372036854775807
  unfold addW
  rw[IntKind.wrap_i64]
  omega
section
variable {ps:List Pr} (hva:PC Proofs.Tryz.prog 58 [aTr ps] (ab false))
include hva
end
structure Vd (ps:List Pr):Prop where
 val:PC Proofs.Tryz.prog 58 [aTr ps] (ab (validF ps))
 rval:PC Proofs.Tryz.prog 22 [aTr ps] (ab (validF ps))
 sm:validF ps=true→Sm ps
 big:Sm ps∨validF ps=false
theorem vd_of {ps:List Pr} {m:Int} (h:smF ps m=true):Vd ps:=by
 rcases smF_cases h with h|⟨h,hb⟩
 ·exact⟨trace_Valid ps h,ref12_Valid ps h,fun _=>h,.inl h⟩
 ·exact⟨trace_ValidB ps h hb,ref12_ValidB ps h hb,fun hv=>absurd hv (by rw[valid_bad hb];simp),.inr (valid_bad hb)⟩
mutual
def hugeF:Pd→Int→Int→Int
 | .mk _ _ _ _ _ l,d,c=>hugeL l (d+1) (if 40<d then 1000 else c+1)
def hugeL:List Pd→Int→Int→Int
 | [],_,c=>c
 | x :: r,d,c=>if c≤300 then hugeL r d (hugeF x d c) else c
end
theorem AWp.slLen {C:Cfg} {Q:AQ} {ρ:Env} {L:AHeap} {c:Code} {k j:Nat} {xs:List AV} (hj:get ρ j = .sl k xs) (h:xs.length≤9223372036854775807→AWp C c Q ρ L):AWp C c Q ρ L:=fun hok n w0 M A0 a w hs=>by
 obtain⟨A,ds,hs'⟩:=st_iff.1 hs
 have hr:=hs'.env j
 rw[hj] at hr
 have hle:xs.length≤9223372036854775807:=by
  have hm:maxLen=9223372036854775807:=rfl
  rcases hr.inv_sl with ⟨rfl,_⟩|⟨b,off,cap,_,_,h1,h2,_⟩
  ·exact Nat.zero_le _
  ·omega
 exact h hle hok n w0 M A0 a w hs
mutual
def nodF:Pd→Int→Int→Int
 | .mk _ _ _ _ _ l,m,d=>if 40<d then m else nodL l m d 1
def nodL:List Pd→Int→Int→Int→Int
 | [],_,_,n=>n
 | x :: r,m,d,n=>if m≤n+nodF x (m - n) (d+1) then m else nodL r m d (n+nodF x (m - n) (d+1))
end
theorem spans_equal (a b:List Spn3) (ha:a.length≤1000000):PC Proofs.Tryz.prog 26 [aSps a,aSps b] (ab (decide (a=b))):=by
 have haE:∀l:List Spn3,aSps l = .sl 3 (l.map aSp):=fun _=>rfl
 rw[haE,haE]
 refine PC.enter 26 [.tmp 4] [] Proofs.Tryz.func26 rfl rfl rfl rfl rfl (by simp) (AWp.of ?_);simp only[go_sem]
 refine Wk ?_
 refine⟨fun h1 => ?_,fun h1 => ?_⟩
 ·refine Wk ?_
  refine ret_eq ?_;simp only[go_sem]
  congr 2;symm;apply decide_eq_false;rintro rfl;exact h1 rfl
 ·have hab:a.length=b.length:=by omega
  refine Sd ?_
  refine AWp.of ?_;simp only[go_sem]
  refine AWp.range' a.length [] [0,1,12] (fun k vs L=>L=[]∧∀(i:Nat) (hi:i<a.length),i<k→a[i]=b[i]) (by omega) rfl rfl rfl ⟨rfl,by omega⟩ ?_ ?_
  ·rintro k vs L' hk - ⟨rfl,hI⟩
   have hkb:k<b.length:=by omega
   have ga:=getD_map (f:=aSp) hk
   have gb:=getD_map (f:=aSp) hkb
   obtain⟨x1,x2,x3,hx⟩:∃x1 x2 x3,a[k]=(x1,x2,x3):=⟨_,_,_,rfl⟩
   obtain⟨y1,y2,y3,hy⟩:∃y1 y2 y3,b[k]=(y1,y2,y3):=⟨_,_,_,rfl⟩
   rw[hx] at ga
   rw[hy] at gb
   change _=AV.agg [ai x1,ai x2,ai x3] at ga
   change _=AV.agg [ai y1,ai y2,ai y3] at gb
   have hxy:a[k]=b[k]↔(x1=y1∧x2=y2)∧x3=y3:=by rw[hx,hy];exact⟨fun h=>by cases h;exact⟨⟨rfl,rfl⟩,rfl⟩,fun h=>by rw[h.1.1,h.1.2,h.2]⟩
   simp only[go_sem]
   refine Wk ?_
   repeat(first|(with_reducible refine AWp.seq ?_)|(with_reducible refine AWp.block ?_))
   refine AWp.read mixed [0,1,2,3,4,5,6,7,8] (by kernel_rfl) ?_;simp only[go_sem,ga,gb]
   refine Sd ?_
   by_cases he:(x1=y1∧x2=y2)∧x3=y3
   ·have hst:∀(i:Nat) (hi:i<a.length),i<k+1→a[i]=b[i]:=fun i hi hik=>by
     by_cases e:i=k
     ·subst e;exact hxy.2 he
     ·exact hI i hi (by omega)
    obtain⟨⟨rfl,rfl⟩,rfl⟩:=he
    refine Wk ?_
    exact⟨_,List.Sublist.refl _,rfl,hst⟩
   ·have hne:¬a=b:=fun e=>he (hxy.1 (by subst e;rfl))
    rw[decide_eq_false hne]
    have hd:(decide (x1=y1) && (decide (x2=y2) && decide (x3=y3)))=false:=by rw[← Bool.decide_and,← Bool.decide_and];exact decide_eq_false fun h=>he ⟨⟨h.1,h.2.1⟩,h.2.2⟩
    rw[hd]
    refine Wk ?_
    refine ret_eq ?_;simp only[go_sem]
  ·rintro vs L' - ⟨rfl,hI⟩
   simp only[go_sem]
   refine Wk ?_
   refine ret_eq ?_;simp only[go_sem]
   congr 2;symm;apply decide_eq_true
   exact List.ext_getElem hab fun i hi _=>hI i hi hi
theorem evtG_len:∀(R:List (List Int)) (c:List Int),(evtG c R).length=R.length
 | [],_=>rfl
 | b :: R,c=>by
  show (evtG b R).length+1=_
  rw[evtG_len R b];rfl
section
variable {b:Nat→Bool} {p K:Nat} {l:List Stp}
end
section
variable {ps:List Pr} {ts:List Pd} (hC:conF ps ts=0)
include hC
end
def InB (ps:List Pr) (s:Nat→Stp) (c:List Int):Prop:=∀p,p<ps.length→((s p).2.1:Int)≤cAt c p∧cAt c p≤((s p).2.2:Int)
structure TgB (ps:List Pr) (s:Nat→Stp):Prop where
 el:∀p,p<ps.length→(s p).2.1≤(s p).2.2∧(s p).2.2≤nev ps p∧(s p).1=p
 bg:∀p q,p<ps.length→q<ps.length→p ≠ q→bgN ps (s p) (s q)=true
theorem cut_at {ps:List Pr} {c:List Int} (hc:isF ps c=true) {p:Nat} (hp:p<ps.length):0≤cAt c p∧cAt c p≤nev ps p:=by
 rw[nev_get hp]
 exact(inRange_iff (isF_iff.1 hc).1).1 (isF_iff.1 hc).2.1 p hp
section
variable {ps:List Pr} (hv:validF ps=true) {s:Nat→Stp} (hT:TgB ps s)
include hv hT
theorem tgb_low {c:List Int} (hc:isF ps c=true) {j:Nat} (hj:j<ps.length) (h:((s j).2.2:Int)<cAt c j):∀i,i<ps.length→((s i).2.1:Int)≤cAt c i:=fun i hi=>by
 have h1:=hT.el j hj
 have h2:=cut_at hc hi
 have h3:=cut_at hc hj
 by_cases e:i=j
 ·subst e;omega
 ·have hb:=hT.bg i j hi hj e
  unfold bgN at hb
  rw[Bool.or_eq_true,Bool.or_eq_true,decide_eq_true_eq,decide_eq_true_eq,decide_eq_true_eq,(hT.el i hi).2.2,h1.2.2] at hb
  rcases hb with hb|hb|hb
  ·omega
  ·omega
  ·have:=pt_least hv hj (i:=(s j).2.2) hc (by omega) i hi
   omega
theorem tgb_opn {bad:List Int→Bool} (hb:∀c,isF ps c=true→InB ps s c→bad c=true):∀(m:Nat) {c:List Int},isF ps c=true→c.sum+m=off ps ps.length→(InB ps s c∨∃i,i<ps.length∧cAt c i<((s i).2.1:Int))→opnV ps bad c=false:=fun m=>by
 induction m with
 | zero =>
  intro c hc hs hI
  rw[opnV_full (by omega)]
  rcases hI with hI|⟨i,hi,hlt⟩
  ·rw[hb c hc hI];rfl
  ·have hf:=(full_of_sum hc).2 (by omega)
   have h1:=fullC_at hi
   have h2:=hT.el i hi
   rw[nev_get hi] at h2
   rw[← hf] at h1
   omega
 | succ m ih =>
  intro c hc hs hI
  rw[opnV_stp hc (by omega)]
  rcases hI with hI|⟨i,hi,hlt⟩
  ·rw[hb c hc hI];rfl
  ·have hl:=(isF_iff.1 hc).1
   rw[Bool.and_eq_false_iff]
   right
   rw[List.any_eq_false]
   intro p hp
   obtain⟨q1,q2⟩:=mem_enF.1 hp
   have hd:=rdy_is q2
   have hsum:=sum_stpC q1
   rw[Bool.not_eq_true]
   refine ih hd (by omega) ?_
   by_cases hx:∃i,i<ps.length∧cAt (stpC c p) i<((s i).2.1:Int)
   ·exact .inr hx
   ·refine .inl fun j hj => ?_
    have hge:∀j,j<ps.length→((s j).2.1:Int)≤cAt (stpC c p) j:=fun j hj=>by
     refine Int.not_lt.1 fun h=>hx ⟨j,hj,h⟩
    refine⟨hge j hj,?_⟩
    have h1:=hge i hi
    rw[cAt_stp (by omega)] at h1
    have hpi:p=i:=by
     by_cases e:p=i
     ·exact e
     ·rw[if_neg e] at h1;omega
    subst hpi
    rw[if_pos rfl] at h1
    rw[cAt_stp (by omega)]
    have h2:=hT.el j hj
    split
    ·rename_i e;subst e;omega
    ·refine Int.not_lt.1 fun h => ?_
     have:=tgb_low hv hT hc hj h p hi
     omega
theorem tgb_blocks {bad:List Int→Bool} (hb:∀c,isF ps c=true→InB ps s c→bad c=true):opnV ps bad (zeroC ps)=false:=by
 have hz:=zeroC_is ps
 have hzs:(zeroC ps).sum=0:=by unfold zeroC;simp
 have hza:∀i,i<ps.length→cAt (zeroC ps) i=0:=fun i hi=>by
  unfold zeroC;rw[cAt_nat (by simpa using hi)];simp
 refine tgb_opn hv hT hb (off ps ps.length) hz (by omega) ?_
 by_cases hx:∃i,i<ps.length∧cAt (zeroC ps) i<((s i).2.1:Int)
 ·exact .inr hx
 ·refine .inl fun j hj=>⟨Int.not_lt.1 fun h=>hx ⟨j,hj,h⟩,?_⟩
  rw[hza j hj];omega
end
theorem opn_run {ps:List Pr} {bad:List Int→Bool} : ∀ {R:List (List Int)} {c:List Int},isF ps c=true→chnF ps c R=true→(c :: R).getLast?=some (fullC ps)→(∀d ∈ c :: R,bad d=false)→opnV ps bad c=true
 | [],c,hc,_,hl,hb=>by
  have:c=fullC ps:=Option.some.inj hl
  rw[opnV_full (by rw[this];exact fullC_sum ps),hb c (by simp)];rfl
 | e :: R,c,hc,h,hl,hb=>by
  obtain⟨q,h1,h2,rfl,h4,h5⟩:=(chn_cons hc).1 h
  rw[List.getLast?_cons_cons] at hl
  have hlc:=(isF_iff.1 hc).1
  have hs:=chn_last (rdy_is h2) h5 hl
  have hsum:=sum_stpC (c:=c) (p:=q) (by omega)
  have hfs:=fullC_sum ps
  rw[opnV_stp hc (by omega),hb c (by simp),Bool.not_false,Bool.true_and,List.any_eq_true]
  exact⟨q,mem_enF.2 ⟨by omega,h2⟩,opn_run (rdy_is h2) h5 hl fun d hd=>hb d (List.mem_cons_of_mem _ hd)⟩
theorem dodge_opn {ps:List Pr} {b:Nat→Nat→Bool} {O:List (List Int)} (hO:DodgeR ps b O) {bad:List Int→Bool} (hb:∀d,isF ps d=true→AvoidC ps b d→bad d=false):opnV ps bad (zeroC ps)=true:=by
 have hav:=hO.av
 obtain⟨R,rfl,hc,hl⟩:=isrun_inv hO.run
 refine opn_run (zeroC_is ps) hc hl fun d hd => ?_
 refine hb d ?_ (hav d hd)
 rw[List.mem_cons] at hd
 rcases hd with rfl|hd
 ·exact zeroC_is ps
 ·obtain⟨j,hj,rfl⟩:=List.mem_iff_getElem.1 hd
  exact(chn_iff.1 hc j hj).1
end Go.AL
end
