/- Texts of this claim's proof: WU1, WV10, WU3, WU4, WU5, WU6, WV8, WV11, WV12, WV13, WV15, WCs, WV16, WQp. No condition. -/
import Derived.Test.YtjblppbkhgihoaaGreatDoorM8
import Derived.Test.YtjblppbkhgihoaaGreatDoorM12
import Derived.Test.YtjblppbkhgihoaaGreatDoorM13
import Derived.Test.YtjblppbkhgihoaaGreatDoorM7
import Derived.Test.YtjblppbkhgihoaaGreatDoorM9
section
namespace Go.AL
open Go Go.RowKit
set_option maxRecDepth 4000
theorem events_indexFuncB (l:List Ev) (hl:l.length≤9223372036854775807) (g:AV) (hgf:fo g=(True,g)) (p:Ev→Bool) (hg:∀x ∈ l,PV Proofs.Tryz.prog g [aEv x] (ab (p x))) :
  PC Proofs.Tryz.prog 34 [aEvs l,g] (ai (match l.findIdx? p with|some i=>(i:Int)|none => -1)):=by
 refine PC.enter 19 [.tmp 4] [] Proofs.Tryz.func34 rfl rfl rfl rfl rfl (by simp) (AWp.of ?_);simp only[go_sem]
 refine Sd ?_
 refine AWp.of ?_;simp only[go_sem,aEvs]
 refine AWp.range1' l.length [] [0,1,7] (fun k vs L=>L=[]∧∀i (h:i<l.length),i<k→p l[i]=false) (by omega) rfl rfl rfl ⟨rfl,by omega⟩ ?_ ?_
 ·rintro k vs L' hk hvs ⟨rfl,hI⟩
  simp only[go_sem]
  refine Sd ?_
  refine AWp.of ?_;simp only[go_sem]
  have hgk:=hg l[k] (List.getElem_mem hk)
  try simp only[go_sem,aEv] at hgk
  refine Sd ?_
  refine AWp.of ?_;simp only[go_sem,getD_map hk,hgf,aEv]
  refine⟨⟨by omega,by omega⟩,hk,hgk.use (AWp.of ?_)⟩;simp only[go_sem]
  refine⟨fun ht => ?_,fun hf => ?_⟩
  ·refine Sd ?_
   refine AWp.of ?_;simp only[go_sem]
   refine ret_eq ?_;simp only[go_sem]
   have:l.findIdx? p=some k:=by rw[List.findIdx?_eq_some_iff_getElem];exact⟨hk,ht,fun j hj=>by simpa using hI j (by omega) hj⟩
   rw[this]
  ·refine⟨[],List.Sublist.refl _,rfl,fun i h hi => ?_⟩
   by_cases e:i=k
   ·subst e;exact hf
   ·exact hI i h (by omega)
 ·rintro vs L' hvs ⟨rfl,hI⟩
  simp only[go_sem]
  refine Sd ?_
  refine AWp.of ?_;simp only[go_sem]
  refine Sd ?_
  refine AWp.of ?_;simp only[go_sem]
  refine ret_eq ?_;simp only[go_sem]
  have:l.findIdx? p=none:=by rw[List.findIdx?_eq_none_iff];intro x hx;obtain⟨i,hi,rfl⟩:=List.getElem_of_mem hx;exact hI i hi hi
  rw[this]
theorem events_containsFuncB (l:List Ev) (hl:l.length≤9223372036854775807) (g:AV) (hgf:fo g=(True,g)) (p:Ev→Bool) (hg:∀x ∈ l,PV Proofs.Tryz.prog g [aEv x] (ab (p x))) :
  PC Proofs.Tryz.prog 13 [aEvs l,g] (ab (l.any p)):=by
 refine PC.enter 9 [.tmp 4] [] Proofs.Tryz.func13 rfl rfl rfl rfl rfl (by simp) (AWp.of ?_);simp only[go_sem]
 refine Sd ?_
 refine AWp.of ?_;simp only[go_sem,hgf,aEvs]
 refine(events_indexFuncB l hl g hgf p hg).val.use ?_
 simp only[go_sem]
 refine Sd ?_
 refine AWp.of ?_;simp only[go_sem]
 refine ret_eq ?_;simp only[go_sem]
 congr 2;exact findIdx_any l p
theorem trace_FaultB (ps:List Pr) (hs:Smh ps) (hb:∃p,p<ps.length∧procF ps p ≠ 0):PC Proofs.Tryz.prog 40 [aTr ps] (aFault (faultF ps)):=by
 have hl:=hs.procs
 refine PC.enter 66 [.cell 2 54,.cell 3 28] [1,6,7,10,12] Proofs.Tryz.func40 rfl rfl rfl rfl rfl (by simp) (AWp.of ?_);simp only[go_sem]
 intro b2
 intro b3 h3
 have n23:¬b2=b3:=by omega
 refine Sd ?_
 refine AWp.of ?_;simp only[go_sem,n23]
 refine Sd ?_
 refine(trace_in _ _ _).val.use ?_;simp only[go_sem]
 refine W1 n23 ?_
 refine⟨fun h1 => ?_,fun h1 => ?_⟩
 ·refine W1 n23 ?_
  have hf:faultF ps=((0,0),1):=by unfold faultF;rw[if_pos (by simp [h1])]
  rw[hf]
  refine ret_eq ?_
  simp only[go_sem,n23]
 ·refine Wk ?_
  refine AWp.range' ps.length [] [1,2,3,22] (fun k vs L=>L=[(b3,.row 28 1 [ai 0] 1),(b2,.row 54 2 [aEid (0,0)] 1)]∧∀j,j<k→procF ps j=0) (by omega) rfl rfl rfl ⟨rfl,by omega⟩ ?_ ?_
  ·rintro k vs L' hk - ⟨rfl,hI⟩
   simp only[go_sem]
   refine Sd ?_
   refine AWp.of ?_;simp only[go_sem]
   refine Wk ?_
   refine Sd ?_
   refine(trace_processFaultH ps hs k hk).val.use ?_;simp only[go_sem]
   refine W1 n23 ?_
   refine⟨fun h2 => ?_,fun h2 => ?_⟩
   ·refine W1 n23 ?_
    have hf:faultF ps=(((k:Int),0),procF ps k):=by unfold faultF;rw[if_neg (by simp [h1]),procFirst_hit hk hI h2]
    rw[hf]
    refine ret_eq ?_
    simp only[go_sem,n23]
   ·refine⟨_,List.Sublist.refl _,rfl,fun j hj => ?_⟩
    by_cases e:j=k
    ·rw[e];exact h2
    ·exact hI j (by omega)
  ·rintro vs L' - ⟨rfl,hI⟩
   obtain⟨p,hp,h⟩:=hb
   exact absurd (hI p hp) h
theorem ref12_FaultB (ps:List Pr) (hs:Smh ps) (hb:∃p,p<ps.length∧procF ps p ≠ 0):PC Proofs.Tryz.prog 15 [aTr ps] (aFault (faultF ps)):=by
 have hl:=hs.procs
 refine PC.enter 137 [.cell 2 54,.tmp 3] [1,11,15] Proofs.Tryz.func15 rfl rfl rfl rfl rfl (by simp) (AWp.of ?_);simp only[go_sem]
 intro b2
 refine Wk ?_
 refine Wk ?_
 refine⟨fun h1 => ?_,fun h1 => ?_⟩
 ·refine Wk ?_
  have hf:faultF ps=((0,0),1):=by
   unfold faultF
   rw[if_pos]
   unfold inI
   rw[Bool.not_eq_true',← Bool.not_eq_true,Bool.and_eq_true,decide_eq_true_eq,decide_eq_true_eq]
   omega
  rw[hf]
  refine ret_eq ?_
  simp only[go_sem]
 ·intro h1'
  have hin:¬((!inI ps.length 1 8)=true):=by
   unfold inI
   rw[Bool.not_eq_true',← Bool.not_eq_true,Bool.and_eq_true,decide_eq_true_eq,decide_eq_true_eq]
   omega
  refine Wk ?_
  refine AWp.block (AWp.count 4 ps.length [] [1,2] (fun k vs L=>L=[(b2,.row 54 2 [aEid (0,0)] 1)]∧∀j,j<k→procF ps j=0) rfl rfl ⟨by simp [aEid],by omega⟩ ?_)
  rintro k vs L hk - ⟨rfl,hI⟩
  simp only[go_sem]
  refine Wk ?_
  refine⟨fun h2 => ?_,fun h2 => ?_⟩
  ·have hkp:k<ps.length:=by omega
   refine Wk ?_
   refine Sd ?_
   refine(ref12_headH ps hs k hkp).val.use ?_;simp only[go_sem]
   refine Wk ?_
   refine⟨fun h3 => ?_,fun h3 => ?_⟩
   ·refine Wk ?_
    have hf:faultF ps=(((k:Int),0),procF ps k):=by unfold faultF;rw[if_neg hin,procFirst_hit hkp hI h3]
    rw[hf]
    refine ret_eq ?_
    simp only[go_sem]
   ·refine Wk ?_
    refine⟨_,List.Sublist.refl _,rfl,fun j hj => ?_⟩
    by_cases e:j=k
    ·rw[e];exact h3
    ·exact hI j (by omega)
  ·obtain⟨p,hp,h⟩:=hb
   exact absurd (hI p (by omega)) h
theorem procF_evs {ps:List Pr} {p:Nat} (hp:p<ps.length) (h:64<ps[p].evs.length):procF ps p ≠ 0:=by
 have hpf:procF ps p=if !nameOk ps[p].name || (ps.take p).any (fun y=>decide (y.name=ps[p].name)) then 13 else if 8<ps[p].vars.length then 5 else
   if fstF (varF ps[p].vars) ps[p].vars.length ≠ 0 then fstF (varF ps[p].vars) ps[p].vars.length else if 64<ps[p].evs.length then 5 else 0:=by
  unfold procF;rw[List.getElem?_eq_getElem hp]
 rw[hpf]
 split
 ·decide
 ·split
  ·decide
  ·split
   ·assumption
   ·first|decide|(rw[if_pos h];decide)
theorem valid_bad {ps:List Pr} (hb:∃p,p<ps.length∧procF ps p ≠ 0):validF ps=false:=by
 cases hv:validF ps with
 | false=>rfl
 | true =>
  obtain⟨p,hp,h⟩:=hb
  exact absurd (procF_of_valid hv hp) h
theorem trace_ValidB (ps:List Pr) (hs:Smh ps) (hb:∃p,p<ps.length∧procF ps p ≠ 0):PC Proofs.Tryz.prog 16 [aTr ps] (ab (validF ps)):=by
 refine PC.enter 12 [.tmp 2] [1,3] Proofs.Tryz.func16 rfl rfl rfl rfl rfl (by simp) (AWp.of ?_);simp only[go_sem]
 refine Wk ?_
 refine Sd ?_
 refine(trace_FaultB ps hs hb).val.use ?_;simp only[go_sem]
 refine Sd ?_
 intros
 refine AWp.of ?_;simp only[go_sem]
 refine Wk ?_
 refine ret_eq ?_;simp only[go_sem]
 rfl
theorem ref12_ValidB (ps:List Pr) (hs:Smh ps) (hb:∃p,p<ps.length∧procF ps p ≠ 0):PC Proofs.Tryz.prog 6 [aTr ps] (ab (validF ps)):=by
 refine PC.enter 12 [.tmp 2] [1,3] Proofs.Tryz.func6 rfl rfl rfl rfl rfl (by simp) (AWp.of ?_);simp only[go_sem]
 refine Wk ?_
 refine Sd ?_
 refine(ref12_FaultB ps hs hb).val.use ?_;simp only[go_sem]
 refine Sd ?_
 intros
 refine AWp.of ?_;simp only[go_sem]
 refine Wk ?_
 refine ret_eq ?_;simp only[go_sem]
 rfl
theorem chn_iff {ps:List Pr} : ∀ {r:List (List Int)} {a:List Int},chnF ps a r=true↔∀j (h:j<r.length),isF ps r[j]=true∧0≤stepF ((a :: r)[j]'(by rw[List.length_cons];omega)) r[j]
 | [],a=>⟨fun _ j h=>absurd h (by simp),fun _=>rfl⟩
 | b :: r,a=>by
  have e:chnF ps a (b :: r)=((isF ps b && decide (0≤stepF a b)) && chnF ps b r):=rfl
  rw[e,Bool.and_eq_true,Bool.and_eq_true,decide_eq_true_eq,chn_iff]
  constructor
  ·rintro⟨h1,h2⟩ j hj
   cases j with
   | zero=>exact h1
   | succ j=>exact h2 j (by simpa using hj)
  ·intro h
   exact⟨h 0 (by simp),fun j hj=>h (j+1) (by simpa using hj)⟩
theorem valid_off {ps:List Pr} (hv:validF ps=true):off ps ps.length≤512:=by
 have h:∀k,k≤ps.length→off ps k≤64 * k:=fun k=>by
  induction k with
  | zero=>intro _;simp [off]
  | succ k ih =>
   intro hk
   have h1:=off_succ (show k<ps.length by omega)
   have h2:=ih (by omega)
   have h3:ps[k].evs.length≤64:=by
    apply Classical.byContradiction
    intro h4
    exact procF_evs (show k<ps.length by omega) (by omega) (procF_of_valid hv (by omega))
   omega
 have:=h ps.length (Nat.le_refl _)
 have:=(valid_len hv).2
 omega
theorem ret_viewK {P:Program} {rs:List ResultVar} {K:AV→AHeap→Prop} {ρ:Env} {L:AHeap} (m:List Bool) (r:AV) (hK:K r []) (h:retV P rs m r ρ L):retK P rs K ρ L:=by
 unfold retK;unfold retV at h
 split at h
 ·rename_i e;(try rw[e]);exact⟨h.1,m,r,[],h.2,.none _,hK⟩
 ·exact h.elim
def badB (l:List (List Int)) (c:List Int):Bool:=decide (c ∈ l)
noncomputable def avE (ps:List Pr) (l:List (List Int)):Int:=if validF ps=true then (if 5000<l.length then 5 else if (l.any fun c => !isF ps c)=true then 18 else lstE ps) else 1
theorem run_avoiding1 (ps:List Pr) (hs:Sm ps) (hv:validF ps=true) (c:List Int):PC Proofs.Tryz.prog 52 [aInts c,.rp 1 [aTr ps] 0 0] (ab (!isF ps c)):=by
 have h1:=cut_Consistent ps hs c
 have hgi:=isF_given hv (c:=c)
 have hde:decide (givenF ps [c] []=0)=isF ps c:=by
  cases h:isF ps c with
  | true=>exact decide_eq_true (hgi.2 h)
  | false=>exact decide_eq_false fun e=>by rw[hgi.1 e] at h;cases h
 rw[hde] at h1
 refine PC.enter 8 [.tmp 3] [] Proofs.Tryz.func52 rfl rfl rfl rfl rfl (by simp) (AWp.of ?_);simp only[go_sem]
 refine Wk ?_
 refine Sd ?_
 refine(h1).val.use ?_;simp only[go_sem]
 refine Wk ?_
 refine ret_eq ?_;simp only[go_sem]
theorem run_avoidBad (ps:List Pr) (hs:Sm ps) (l:List (List Int)) (h:avE ps l ≠ 0):PC Proofs.Tryz.prog 30 [aTr ps,aRows l] (.tup [.v (.map none),ai (avE ps l)]):=by
 have hva:=trace_Valid ps hs
 have hLi:=cuts_List ps hs
 have haR:∀x:List (List Int),aRows x = .sl 1 (x.map aInts):=fun _=>rfl
 unfold aLst at hLi
 have hE:avE ps l=if validF ps=true then (if 5000<l.length then 5 else if (l.any fun c => !isF ps c)=true then 18 else lstE ps) else 1:=rfl
 generalize avE ps l=e at *
 cases hv:validF ps with
 | false =>
  rw[hv] at hva hE
  rw[if_neg (by decide)] at hE
  subst hE
  refine PC.enter 100 [.tmp 4,.tmp 5] [2] Proofs.Tryz.func30 rfl rfl rfl rfl rfl (by simp) (AWp.of ?_);simp only[go_sem]
  refine Wk ?_
  refine Sd ?_
  refine(hva).val.use ?_;simp only[go_sem]
  refine Wk ?_
  refine ret_eq ?_;simp only[go_sem]
 | true =>
  rw[hv] at hva hE
  rw[if_pos rfl] at hE
  by_cases h5:5000<l.length
  ·have h5i:(5000:Int)<(l.length:Int):=by omega
   rw[if_pos h5] at hE
   subst hE
   rw[haR]
   refine PC.enter 100 [.tmp 4,.tmp 5] [2] Proofs.Tryz.func30 rfl rfl rfl rfl rfl (by simp) (AWp.of ?_);simp only[go_sem]
   refine Wk ?_
   refine Sd ?_
   refine(hva).val.use ?_;simp only[go_sem,h5i]
   repeat(first|((with_reducible refine AWp.ofC ?_ ?_);exact rfl;simp only[go_sem,h5i])|((with_reducible refine an ?_ ?_);exact Au))
   refine ret_eq ?_;simp only[go_sem]
  ·have h5i:¬(5000:Int)<(l.length:Int):=by omega
   rw[if_neg h5] at hE
   have hcf:=rows_containsFunc l (by omega) (.clo 52 [.rp 1 [aTr ps] 0 0]) rfl (fun c => !isF ps c) fun c _=>(run_avoiding1 ps hs hv c).clo
   cases hb:(l.any fun c => !isF ps c) with
   | true =>
    rw[hb] at hcf hE
    rw[if_pos rfl] at hE
    subst hE
    rw[haR] at *
    refine PC.enter 100 [.tmp 4,.tmp 5] [2] Proofs.Tryz.func30 rfl rfl rfl rfl rfl (by simp) (AWp.of ?_);simp only[go_sem]
    refine Wk ?_
    refine Sd ?_
    refine(hva).val.use ?_;simp only[go_sem,h5i]
    repeat(first|((with_reducible refine AWp.ofC ?_ ?_);exact rfl;simp only[go_sem,h5i])|((with_reducible refine an ?_ ?_);exact Au))
    refine Sd ?_
    refine(hcf).val.use ?_;simp only[go_sem]
    refine Wk ?_
    refine ret_eq ?_;simp only[go_sem]
   | false =>
    rw[hb] at hcf hE
    rw[if_neg (by decide)] at hE
    subst hE
    rw[haR] at *
    generalize lstE ps=e at *
    refine PC.enter 100 [.tmp 4,.tmp 5] [2] Proofs.Tryz.func30 rfl rfl rfl rfl rfl (by simp) (AWp.of ?_);simp only[go_sem]
    refine Wk ?_
    refine Sd ?_
    refine(hva).val.use ?_;simp only[go_sem,h5i]
    repeat(first|((with_reducible refine AWp.ofC ?_ ?_);exact rfl;simp only[go_sem,h5i])|((with_reducible refine an ?_ ?_);exact Au))
    refine Sd ?_
    refine(hcf).val.use ?_;simp only[go_sem]
    refine Wk ?_
    refine Sd ?_
    refine(hLi).val.use ?_;simp only[go_sem]
    refine W1 h ?_
    refine ret_eq ?_;simp only[go_sem]
def AvdK (ps:List Pr) (l:List (List Int)) (r:AV) (L:AHeap):Prop:=L=[]∧∃ks vs,∃g:ByteArray→Bool,r = .tup [.rm ks vs,ai 0]∧MpS ks vs (ab false) (fun s=>ab (g s))∧∀c,isF ps c=true→g (keyS c)=opnV ps (badB l) c
theorem MpS.putB {ks:List Value} {vs:List AV} {z:AV} {g:ByteArray→Bool} (h:MpS ks vs z fun s=>ab (g s)) (s:ByteArray) (x:Bool) :
  ∃ks' vs',mput (.string s) (ab x) ks vs = .amap ks' vs'∧MpS ks' vs' z fun t=>ab (if t=s then x else g t):=by
 obtain⟨ks',vs',h1,h2⟩:=h.put s (ab x)
 refine⟨ks',vs',h1,?_⟩
 have:(fun t=>if t=s then ab x else ab (g t))=fun t=>ab (if t=s then x else g t):=funext fun t=>by split <;> rfl
 rw[← this];exact h2
set_option maxHeartbeats 2000000 in
theorem run_avoidingG (ps:List Pr) (hs:Sm ps) (l:List (List Int)) (h:avE ps l=0):MCalls Proofs.Tryz.prog 30 [aTr ps,aRows l] [] (AvdK ps l):=by
 have hva:=trace_Valid ps hs
 have hLi:=cuts_List ps hs
 have haR:∀x:List (List Int),aRows x = .sl 1 (x.map aInts):=fun _=>rfl
 unfold aLst at hLi
 have hE:avE ps l=if validF ps=true then (if 5000<l.length then 5 else if (l.any fun c => !isF ps c)=true then 18 else lstE ps) else 1:=rfl
 rw[h] at hE
 cases hv:validF ps with
 | false=>rw[hv,if_neg (by decide)] at hE;cases hE
 | true =>
  rw[hv] at hva hE
  rw[if_pos rfl] at hE
  by_cases h5:5000<l.length
  ·rw[if_pos h5] at hE;cases hE
  ·have h5i:¬(5000:Int)<(l.length:Int):=by omega
   rw[if_neg h5] at hE
   have hcf:=rows_containsFunc l (by omega) (.clo 52 [.rp 1 [aTr ps] 0 0]) rfl (fun c => !isF ps c) fun c _=>(run_avoiding1 ps hs hv c).clo
   cases hb:(l.any fun c => !isF ps c) with
   | true=>rw[hb,if_pos rfl] at hE;cases hE
   | false =>
    rw[hb] at hcf hE
    rw[if_neg (by decide)] at hE
    have hlF:∀c ∈ l,isF ps c=true:=fun c hc=>by
     have:=List.any_eq_false.1 hb c hc
     simpa using this
    have hE0:lstE ps=0:=hE.symm
    have hm5:=(lst_zero.1 hE0).2
    have hlFF:lstF ps=cutsF ps:=by unfold lstF;rw[if_pos hE0]
    rw[hlFF,hE0] at hLi
    have hop:=run_open ps hs hv
    have hmay:=run_may ps hs hv
    have hl8:=(valid_len hv).2
    have hm:∀c,c ∈ cutsF ps↔isF ps c=true:=fun c=>mem_cutsF hv
    have hl0:=lst_len0 hv (l:=cutsF ps) rfl
    have hlast:=lst_last hv (l:=cutsF ps) rfl
    have hstep:=fun (i:Nat) (hi:i<(cutsF ps).length) p hp=>idx_step hv (l:=cutsF ps) rfl hi (p:=p) hp
    have hord:=cuts_ord hv
    clear hlFF
    generalize cutsF ps=m at *
    obtain⟨r,hr⟩:∃r,r=aRs ps:=⟨_,rfl⟩
    have hrf:fo r=(True,r):=by rw[hr];rfl
    rw[← hr] at hop hmay
    clear hr
    rw[haR] at *
    refine MCalls.enter' 100 [.tmp 4,.tmp 5] [2] Proofs.Tryz.func30 rfl rfl rfl rfl rfl (by simp) (AWp.of ?_);simp only[go_sem]
    refine Wk ?_
    refine Sd ?_
    refine(hva).val.use ?_;simp only[go_sem,h5i]
    repeat(first|((with_reducible refine AWp.ofC ?_ ?_);exact rfl;simp only[go_sem,h5i])|((with_reducible refine an ?_ ?_);exact Au))
    refine Sd ?_
    refine(hcf).val.use ?_;simp only[go_sem]
    refine Wk ?_
    refine Sd ?_
    refine(hLi).val.use ?_;simp only[go_sem]
    refine Wk ?_
    refine Sd ?_
    refine(hop).val.use ?_;simp only[go_sem,hrf]
    refine W1 hrf ?_
    intro b39 b40 g40
    have n1:¬b39=b40:=by omega
    have n2:¬b40=b39:=by omega
    refine W3 hrf n1 n2 ?_
    refine AWp.range' l.length [] [6,8,9,10,41,42] (fun k us L=>us=[]∧∃kb vb,∃gb:ByteArray→Bool,L=[(b40,.amap [] []),(b39,.amap kb vb)]∧MpS kb vb (ab false) (fun s=>ab (gb s))∧∀c,isF ps c=true→gb (keyS c)=decide (c ∈ l.take k)) (by omega) rfl rfl rfl ⟨rfl,[],[],fun _=>false,rfl,.nil _,fun c _=>by rw[List.take_zero];exact(decide_eq_false (by simp)).symm⟩ ?_ ?_
    ·rintro k us L hk - ⟨rfl,kb,vb,gb,rfl,hMb,hgb⟩
     have hgk:=getD_map (f:=aInts) hk
     have hkF:=hlF _ (List.getElem_mem hk)
     have hky:=run_key l[k] (isF_cb hs hkF).1
     obtain⟨kb',vb',hput,hMb'⟩:=hMb.putB (keyS l[k]) true
     simp only[go_sem,hrf]
     refine W4 hgk hrf n1 n2 ?_
     refine Sd ?_
     refine(hky).val.use ?_;simp only[go_sem,hgk,hrf,n1,n2,hput,hMb.fits]
     refine Sd ?_
     repeat(first|((with_reducible refine AWp.ofC ?_ ?_);exact rfl;simp only[go_sem,hput,n1,n2,hMb.fits])|((with_reducible refine an ?_ ?_);exact Au))
     refine⟨_,List.Sublist.refl _,kb',vb',_,rfl,hMb',fun c hc => ?_⟩
     have hmem:c ∈ l.take (k+1)↔c ∈ l.take k∨c=l[k]:=by
      rw[List.take_succ_eq_append_getElem hk,List.mem_append,List.mem_singleton]
     by_cases e:keyS c=keyS l[k]
     ·have:=keyS_inj (isF_byte hv hc) (isF_byte hv hkF) e
      rw[if_pos e,decide_eq_true (hmem.2 (.inr this))]
     ·have e2:¬c=l[k]:=fun e2=>e (by rw[e2])
      rw[if_neg e,hgb c hc,decide_eq_decide,hmem]
      exact⟨.inl,fun h=>h.resolve_right e2⟩
    ·rintro us L - ⟨rfl,kb,vb,gb,rfl,hMb,hgb⟩
     rw[List.take_length] at hgb
     have hgb:∀c,isF ps c=true→gb (keyS c)=badB l c:=hgb
     simp only[go_sem,hrf]
     refine W1 hrf ?_
     refine AWp.block (AWp.loopN [13] [6,8,9,10] (fun i us L=>us=[ai ((i:Int) - 1)]∧i≤m.length∧∃ks vs,∃g:ByteArray→Bool,L=[(b40,.amap ks vs),(b39,.amap kb vb)]∧MpS ks vs (ab false) (fun s=>ab (g s))∧∀j (hj:j<m.length),i≤j→g (keyS m[j])=opnV ps (badB l) m[j]) m.length ⟨rfl,Nat.le_refl _,[],[],fun _=>false,rfl,.nil _,fun j hj h=>by omega⟩ ?_)
     rintro i us L - ⟨rfl,hi,ks,vs,g,rfl,hMp,hg⟩
     cases i with
     | zero =>
      have z:¬(0:Int)≤((0:Nat):Int) - 1:=by omega
      simp only[go_sem,hrf]
      refine W4 z hrf n1 n2 ?_
      refine ret_viewK [true,false] (.tup [.rm ks vs,ai 0]) ⟨rfl,ks,vs,g,rfl,hMp,fun c hc => ?_⟩ ?_
      ·obtain⟨j,hj,rfl⟩:=List.getElem_of_mem ((hm c).2 hc)
       exact hg j hj (Nat.zero_le _)
      ·simp only[go_sem]
       exact .mkTup (Vws.cons (.lm (if_pos rfl) rfl fun i x y hx hy=>by rw[hx] at hy;cases hy;exact .refl _) (Vws.refl _))
     | succ i =>
      have z:(0:Int)≤(i:Int):=by omega
      have hm1:((i+1:Nat):Int) - 1=(i:Int):=by omega
      have hml2:i<m.length:=by omega
      have hcF:isF ps m[i]=true:=(hm _).1 (List.getElem_mem hml2)
      have hcl:=(isF_iff.1 hcF).1
      have hcb:=isF_cb hs hcF
      have hgm:=getD_map (f:=aInts) hml2
      have hkm:=run_key m[i] hcb.1
      have hcsum:=fun hne:¬i=m.length - 1=>show m[i].sum<off ps ps.length by
       have h1:=leq_sum (leq_full hcF)
       rw[fullC_sum] at h1
       have h2:¬m[i].sum=off ps ps.length:=fun e=>by
        have h3:=(full_of_sum hcF).2 e
        rw[List.getD_eq_getElem?_getD,List.getElem?_eq_getElem (show m.length - 1<m.length by omega)] at hlast
        have hlast:m[m.length - 1]=fullC ps:=hlast
        have h4:=List.pairwise_iff_getElem.1 hord i (m.length - 1) hml2 (by omega) (by omega)
        rw[h3,hlast] at h4
        exact ordL_irr h4
       omega
      have hopn:opnV ps (badB l) m[i]=((decide ((i:Int)=(m.length:Int) - 1) || (enF ps m[i] m[i].length).any fun p=>opnV ps (badB l) (stpC m[i] p)) && !badB l m[i]):=by
       by_cases e:i=m.length - 1
       ·rw[decide_eq_true (show (i:Int)=(m.length:Int) - 1 by omega),Bool.true_or,Bool.true_and]
        subst e
        rw[List.getD_eq_getElem?_getD,List.getElem?_eq_getElem hml2] at hlast
        have hlast:m[m.length - 1]=fullC ps:=hlast
        rw[hlast]
        exact opnV_full (fullC_sum ps)
       ·rw[decide_eq_false (show ¬(i:Int)=(m.length:Int) - 1 by omega),Bool.false_or,opnV_stp hcF (hcsum e),Bool.and_comm]
      have hstm:=hstep i hml2
      have hbyt:=isF_byte hv hcF
      have hmayc:=fun p=>hmay m[i] hcF p
      have hbc:=hgb m[i] hcF
      obtain⟨c,hc⟩:∃c,c=m[i]:=⟨_,rfl⟩
      rw[← hc] at hcF hcl hcb hgm hkm hopn hstm hbyt hmayc hbc
      have hb1:=hMb.get (keyS c)
      rw[hbc] at hb1
      rw[hm1]
      simp only[go_sem,hrf]
      refine W5 z hrf hgm n1 n2 ?_
      refine AWp.range' c.length [15] [6,8,9,10,13,14,68] (fun k us L=>us=[ab (decide ((i:Int)=(m.length:Int) - 1) || (enF ps c k).any fun p=>opnV ps (badB l) (stpC c p))]∧L=[(b40,.amap ks vs),(b39,.amap kb vb)]) (by omega) rfl rfl rfl ⟨by simp [enF];rfl,rfl⟩ ?_ ?_
      ·rintro k us L hk - ⟨rfl,rfl⟩
       have hmp:=hmayc k
       rw[mayF_nat hcl hk] at hmp
       have hne:=run_next c hcb.1 hcb.2 k hk
       have hky:=run_key (stpC c k) (by rw[stp_len];exact hcb.1)
       have hgs:=hMp.get (keyS (stpC c k))
       have hsu:((enF ps c (k+1)).any fun p=>opnV ps (badB l) (stpC c p))=(((enF ps c k).any fun p=>opnV ps (badB l) (stpC c p)) || (rdyF ps c k && g (keyS (stpC c k)))):=by
        rw[enF_succ,List.any_append]
        congr 1
        cases hr:rdyF ps c k with
        | true =>
         have hE:k ∈ enF ps c c.length:=mem_enF.2 ⟨hk,hr⟩
         obtain⟨s1,s2,s3⟩:=hstm k hE
         have hfk:=hg _ s2 (by omega)
         rw[s3] at hfk
         rw[hfk];simp
        | false=>simp
       rw[hsu,← Bool.or_assoc]
       generalize (decide ((i:Int)=(m.length:Int) - 1) || (enF ps c k).any fun p=>opnV ps (badB l) (stpC c p))=on at *
       simp only[go_sem,hrf]
       refine W4 hgm hrf n1 n2 ?_
       refine Sd ?_
       refine GCall.use (ab (rdyF ps c k)) (fun _=>⟨At,(hmp).val.use ⟨rfl,rfl⟩⟩) ?_;simp only[go_sem,hgm,hrf,n1,n2]
       refine Sd ?_
       refine GCall.use (aInts (stpC c k)) (fun _=>⟨At,(hne).val.use ⟨rfl,rfl⟩⟩) ?_;simp only[go_sem,hgm,hrf,n1,n2]
       refine Sd ?_
       refine GCall.use (.v (.string (keyS (stpC c k)))) (fun _=>⟨At,(hky).val.use ⟨rfl,rfl⟩⟩) ?_;simp only[go_sem,hgm,hrf,n1,n2,hgs]
       refine Sd ?_
       repeat(first|((with_reducible refine AWp.ofC ?_ ?_);exact rfl;simp only[go_sem,hgm,hrf,hgs,n1,n2,hMp.fits])|((with_reducible refine an ?_ ?_);exact Au))
       exact⟨fun h1 h2=>⟨⟨h1,h2⟩,hMp.fits⟩,fun h1=>⟨h1,fun h2=>⟨h1,h2⟩⟩,_,List.Sublist.refl _,rfl⟩
      ·rintro us L - ⟨rfl,rfl⟩
       obtain⟨ks',vs',hput',hMp'⟩:=hMp.putB (keyS c) (opnV ps (badB l) c)
       rw[hopn] at hput'
       generalize (decide ((i:Int)=(m.length:Int) - 1) || (enF ps c c.length).any fun p=>opnV ps (badB l) (stpC c p))=on at *
       simp only[go_sem,hrf]
       refine W4 hgm hrf n1 n2 ?_
       refine Sd ?_
       refine(hkm).val.use ?_;simp only[go_sem,hgm,hrf,n1,n2]
       refine Sd ?_
       refine W4 hgm hrf n1 n2 ?_
       refine Sd ?_
       refine GCall.use (.v (.string (keyS c))) (fun _=>⟨At,(hkm).val.use ⟨rfl,rfl⟩⟩) ?_;simp only[go_sem,hgm,hrf,n1,n2,hb1,hput',hMp.fits,hMb.fits]
       refine Sd ?_
       repeat(first|((with_reducible refine AWp.ofC ?_ ?_);exact rfl;simp only[go_sem,hgm,hrf,n1,n2,hb1,hput',hMp.fits])|((with_reducible refine an ?_ ?_);exact Au))
       refine⟨_,List.Sublist.refl _,i,by omega,by congr 3,by omega,ks',vs',_,rfl,hMp',fun j hj hmj => ?_⟩
       by_cases e:keyS m[j]=keyS c
       ·rw[if_pos e]
        have hjF:isF ps m[j]=true:=(hm _).1 (List.getElem_mem hj)
        rw[keyS_inj (isF_byte hv hjF) hbyt e]
       ·rw[if_neg e]
        have hne:j ≠ i:=fun e2=>by subst e2;exact e (by rw[hc])
        exact hg j hj (by omega)
noncomputable def blkB (ps:List Pr) (l:List (List Int)):Bool:=decide (avE ps l=0) && !opnV ps (badB l) (zeroC ps)
theorem avE_valid {ps:List Pr} {l:List (List Int)} (h:avE ps l=0):validF ps=true:=by
 unfold avE at h
 split at h
 ·assumption
 ·cases h
theorem run_Blocked (ps:List Pr) (hs:Sm ps) (l:List (List Int)):PC Proofs.Tryz.prog 11 [aTr ps,aRows l] (.tup [ab (blkB ps l),ai (avE ps l)]):=by
 have haR:∀x:List (List Int),aRows x = .sl 1 (x.map aInts):=fun _=>rfl
 by_cases h:avE ps l=0
 ·have hv:=avE_valid h
  have hb:blkB ps l = !opnV ps (badB l) (zeroC ps):=by unfold blkB;rw[decide_eq_true h,Bool.true_and]
  have hA:=run_avoidingG ps hs l h
  have hop:=run_open ps hs hv
  have hz:=run_zero ps hv
  have hkz:=run_key (zeroC ps) (isF_cb hs (zeroC_is ps)).1
  rw[h,hb]
  rw[haR] at *
  obtain⟨r,hr⟩:∃r,r=aRs ps:=⟨_,rfl⟩
  have hrf:fo r=(True,r):=by rw[hr];rfl
  rw[← hr] at hop hz
  clear hr
  refine PC.enter 24 [.tmp 4,.tmp 5] [2] Proofs.Tryz.func11 rfl rfl rfl rfl rfl (by simp) (AWp.of ?_);simp only[go_sem]
  refine Wk ?_
  refine Sd ?_
  refine hA.val.mono ?_
  rintro R L ⟨rfl,ks,vs,g,rfl,hMp,hg⟩
  have hgz:=hMp.get (keyS (zeroC ps))
  rw[hg _ (zeroC_is ps)] at hgz
  simp only[go_sem]
  refine Wk ?_
  refine Sd ?_
  refine(hop).val.use ?_;simp only[go_sem,hrf]
  refine Sd ?_
  refine(hz).val.use ?_;simp only[go_sem,hrf]
  refine Sd ?_
  refine(hkz).val.use ?_;simp only[go_sem,hrf,hgz,hMp.fits]
  refine Sd ?_
  repeat(first|((with_reducible refine AWp.ofC ?_ ?_);exact rfl;simp only[go_sem,hrf,hgz,hMp.fits])|((with_reducible refine an ?_ ?_);exact Au))
  refine ret_eq ?_;simp only[go_sem]
 ·have hA:=run_avoidBad ps hs l h
  have hb:blkB ps l=false:=by unfold blkB;rw[decide_eq_false h];rfl
  rw[hb]
  rw[haR] at *
  refine PC.enter 24 [.tmp 4,.tmp 5] [2] Proofs.Tryz.func11 rfl rfl rfl rfl rfl (by simp) (AWp.of ?_);simp only[go_sem]
  refine Wk ?_
  refine Sd ?_
  refine(hA).val.use ?_;simp only[go_sem,h]
  refine W1 h ?_
  refine ret_eq ?_;simp only[go_sem]
noncomputable def avdE (ps:List Pr) (l:List (List Int)):Int:=if avE ps l=0 then (if opnV ps (badB l) (zeroC ps)=true then 0 else 7) else avE ps l
noncomputable def avdF (ps:List Pr) (l:List (List Int)):List (List Int):=if avdE ps l=0 then wlkF ps (opnV ps (badB l)) else []
theorem run_Avoid1 (c:List Int) (hc:c.length≤1000000) (ks:List Value) (vs:List AV) (g:ByteArray→Bool) (hMp:MpS ks vs (ab false) fun s=>ab (g s)):PC Proofs.Tryz.prog 32 [aInts c,.rp 1 [.rm ks vs] 0 0] (ab (g (keyS c))):=by
 have hky:=run_key c hc
 have hgs:=hMp.get (keyS c)
 refine PC.enter 8 [.tmp 3] [] Proofs.Tryz.func32 rfl rfl rfl rfl rfl (by simp) (AWp.of ?_);simp only[go_sem]
 refine Wk ?_
 refine AWp.seq ?_
 repeat(first|(with_reducible refine AWp.seq ?_)|(with_reducible refine AWp.block ?_))
 refine AWp.read mixed [0,1,2,3,4] (by kernel_rfl) ?_;simp only[go_sem]
 refine Sd ?_
 refine Sd ?_
 refine GCall.use (.v (.string (keyS c))) (fun _=>⟨At,(hky).val.use ⟨rfl,rfl⟩⟩) ?_;simp only[go_sem,hgs,hMp.fits]
 repeat(first|((with_reducible refine AWp.ofC ?_ ?_);exact rfl;simp only[go_sem,hgs,hMp.fits])|((with_reducible refine an ?_ ?_);exact Au))
 refine ret_eq ?_;simp only[go_sem]
theorem run_Avoid (ps:List Pr) (hs:Sm ps) (l:List (List Int)):PC Proofs.Tryz.prog 10 [aTr ps,aRows l] (.tup [aRows (avdF ps l),ai (avdE ps l)]):=by
 have haR:∀x:List (List Int),aRows x = .sl 1 (x.map aInts):=fun _=>rfl
 by_cases h:avE ps l=0
 ·have hv:=avE_valid h
  have hA:=run_avoidingG ps hs l h
  have hop:=run_open ps hs hv
  have hz:=run_zero ps hv
  have hkz:=run_key (zeroC ps) (isF_cb hs (zeroC_is ps)).1
  have hE:avdE ps l=if opnV ps (badB l) (zeroC ps)=true then 0 else 7:=by unfold avdE;rw[if_pos h]
  have hF:avdF ps l=if avdE ps l=0 then wlkF ps (opnV ps (badB l)) else []:=rfl
  have hwk:=run_walk ps hs hv
  generalize avdE ps l=e at *
  generalize avdF ps l=F at *
  obtain⟨r,hr⟩:∃r,r=aRs ps:=⟨_,rfl⟩
  have hrf:fo r=(True,r):=by rw[hr];rfl
  rw[← hr] at hop hz hwk
  clear hr
  cases hop0:opnV ps (badB l) (zeroC ps) with
  | false =>
   rw[hop0,if_neg (by decide)] at hE
   subst hE
   rw[if_neg (by decide)] at hF
   subst hF
   rw[haR] at *
   refine PC.enter 29 [.tmp 4,.tmp 5] [2,6] Proofs.Tryz.func10 rfl rfl rfl rfl rfl (by simp) (AWp.of ?_);simp only[go_sem]
   refine Wk ?_
   refine Sd ?_
   refine hA.val.mono ?_
   rintro R L ⟨rfl,ks,vs,g,rfl,hMp,hg⟩
   have hgz:=hMp.get (keyS (zeroC ps))
   rw[hg _ (zeroC_is ps),hop0] at hgz
   simp only[go_sem]
   intro b6
   refine Wk ?_
   refine Sd ?_
   refine(hop).val.use ?_;simp only[go_sem,hrf]
   refine W1 hrf ?_
   refine AWp.seq (AWp.seq ?_)
   repeat(first|(with_reducible refine AWp.seq ?_)|(with_reducible refine AWp.block ?_))
   refine AWp.read mixed [0,1,2,3,4,5] (by kernel_rfl) ?_;simp only[go_sem,hrf]
   refine Sd ?_
   refine Sd ?_
   refine GCall.use (aInts (zeroC ps)) (fun _=>⟨At,(hz).val.use ⟨rfl,rfl⟩⟩) ?_;simp only[go_sem,hrf]
   refine Sd ?_
   refine GCall.use (.v (.string (keyS (zeroC ps)))) (fun _=>⟨At,(hkz).val.use ⟨rfl,rfl⟩⟩) ?_;simp only[go_sem,hrf,hgz,hMp.fits]
   repeat(first|((with_reducible refine AWp.ofC ?_ ?_);exact rfl;simp only[go_sem,hgz,hMp.fits])|((with_reducible refine an ?_ ?_);exact Au))
   refine ret_view [] ?_;simp only[go_sem]
   exact .mkTup (Vws.cons (.nil 1) (Vws.refl _))
  | true =>
   rw[hop0,if_pos rfl] at hE
   subst hE
   rw[if_pos rfl] at hF
   subst hF
   rw[haR] at hA
   rw[haR]
   refine PC.enter 29 [.tmp 4,.tmp 5] [2,6] Proofs.Tryz.func10 rfl rfl rfl rfl rfl (by simp) (AWp.of ?_);simp only[go_sem]
   refine Wk ?_
   refine Sd ?_
   refine hA.val.mono ?_
   rintro R L ⟨rfl,ks,vs,g,rfl,hMp,hg⟩
   have hwk:=hwk (.clo 32 [.rp 1 [.rm ks vs] 0 0]) rfl (opnV ps (badB l)) fun d hd=>by
    have h1:=run_Avoid1 d (isF_cb hs hd).1 ks vs g hMp
    rw[hg d hd] at h1
    exact h1.clo
   have hgz:=hMp.get (keyS (zeroC ps))
   rw[hg _ (zeroC_is ps),hop0] at hgz
   generalize wlkF ps (opnV ps (badB l))=F at *
   simp only[go_sem]
   intro b6
   refine Wk ?_
   refine Sd ?_
   refine(hop).val.use ?_;simp only[go_sem,hrf]
   refine W1 hrf ?_
   refine AWp.seq (AWp.seq ?_)
   repeat(first|(with_reducible refine AWp.seq ?_)|(with_reducible refine AWp.block ?_))
   refine AWp.read mixed [0,1,2,3,4,5] (by kernel_rfl) ?_;simp only[go_sem,hrf]
   refine Sd ?_
   refine Sd ?_
   refine GCall.use (aInts (zeroC ps)) (fun _=>⟨At,(hz).val.use ⟨rfl,rfl⟩⟩) ?_;simp only[go_sem,hrf]
   refine Sd ?_
   refine GCall.use (.v (.string (keyS (zeroC ps)))) (fun _=>⟨At,(hkz).val.use ⟨rfl,rfl⟩⟩) ?_;simp only[go_sem,hrf,hgz,hMp.fits]
   repeat(first|((with_reducible refine AWp.ofC ?_ ?_);exact rfl;simp only[go_sem,hgz,hMp.fits,hrf])|((with_reducible refine an ?_ ?_);exact Au))
   refine Sd ?_
   refine(hwk).val.use ?_;simp only[go_sem,hrf]
   refine W1 hrf ?_
   refine ret_eq ?_;simp only[go_sem]
 ·have hA:=run_avoidBad ps hs l h
  have hE:avdE ps l=avE ps l:=by unfold avdE;rw[if_neg h]
  have hF:avdF ps l=[]:=by unfold avdF;rw[hE,if_neg h]
  rw[hE,hF]
  rw[haR] at hA
  refine PC.enter 29 [.tmp 4,.tmp 5] [2,6] Proofs.Tryz.func10 rfl rfl rfl rfl rfl (by simp) (AWp.of ?_);simp only[go_sem]
  refine Wk ?_
  refine Sd ?_
  refine(hA).val.use ?_;simp only[go_sem,h]
  intro b6
  refine W1 h ?_
  refine ret_view [] ?_;simp only[go_sem]
  exact .mkTup (Vws.cons (.nil 1) (Vws.refl _))
end Go.AL
end
