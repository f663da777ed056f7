/- Texts of this claim's proof: WSl, WPc, WTr1, WTr2, WTr3, WEv, WMsg, WCyc, WCy2. No condition. -/
import Derived.Test.YtpcmoecaaphjmaaGreatDoorM5
section
namespace Go.AL
open Go Go.RowKit
set_option maxRecDepth 4000
theorem ints_cloneO (l:List Int) (hl:l.length≤1000000):MCalls Proofs.Tryz.prog 51 [aInts l] [] fun r L=>AppSt 3 1 (l.map ai) r L:=by
 refine MCalls.enter' 8 [.tmp 2] [] Proofs.Tryz.func51 rfl rfl rfl rfl rfl (by simp) (AWp.of ?_);simp only[go_sem]
 refine Wk ?_
 intro b hb
 refine Wk ?_
 refine⟨fun ht => ?_,fun hf => ?_⟩
 ·have:l=[]:=by
   by_cases h:l=[]
   ·exact h
   ·rw[hb (by simpa using h)] at ht;cases ht
  subst this
  refine Wk ?_
  refine ret_own ?_
  simp only[go_sem]
  exact .nil
 ·refine Wk ?_
  intros
  refine Sd ?_
  intros
  refine Wk ?_
  refine ret_own ?_
  simp only[go_sem]
  have e:l.length=(l.map ai).length:=by simp
  rw[e];exact .row _ _ _
theorem ints_clone (l:List Int) (hl:l.length≤1000000):PC Proofs.Tryz.prog 51 [aInts l] (aInts l):=by
 refine PC.enter 8 [.tmp 2] [] Proofs.Tryz.func51 rfl rfl rfl rfl rfl (by simp) (AWp.of ?_);simp only[go_sem]
 refine Sd ?_
 refine AWp.of ?_;simp only[go_sem,aInts]
 intro b hb
 refine Sd ?_
 refine AWp.of ?_;simp only[go_sem]
 refine⟨fun ht => ?_,fun hf => ?_⟩
 ·have:l=[]:=by
   by_cases h:l=[]
   ·exact h
   ·rw[hb (by simpa using h)] at ht;cases ht
  subst this
  refine Sd ?_
  refine AWp.of ?_;simp only[go_sem]
  refine ret_view [] ?_;simp only[go_sem]
  exact .nil _
 ·refine Sd ?_
  refine AWp.of ?_;simp only[go_sem]
  refine fun _=>⟨by omega,fun b' cap' hc=>AWp.of ?_⟩;simp only[go_sem]
  refine ret_view [true] ?_;simp only[go_sem]
  exact Vw.ofLs (if_pos rfl) (by simp)
theorem rows_indexFunc (l:List (List Int)) (hl:l.length≤1000000) (g:AV) (hgf:fo g=(True,g)) (p:(List Int)→Bool) (hg:∀x ∈ l,PV Proofs.Tryz.prog g [aInts x] (ab (p x))) :
  PC Proofs.Tryz.prog 68 [aRows l,g] (ai (match l.findIdx? p with|some i=>(i:Int)|none => -1)):=by
 refine PC.enter 19 [.tmp 4] [] Proofs.Tryz.func68 rfl rfl rfl rfl rfl (by simp) (AWp.of ?_);simp only[go_sem]
 refine Sd ?_
 refine AWp.of ?_;simp only[go_sem,aRows]
 refine AWp.range' l.length [] [0,1,7] (fun k vs L=>L=[]∧∀i (h:i<l.length),i<k→p l[i]=false) (by omega) rfl rfl rfl ⟨rfl,by omega⟩ ?_ ?_
 ·rintro k vs L' hk hvs ⟨rfl,hI⟩
  simp only[go_sem]
  refine Sd ?_
  refine AWp.of ?_;simp only[go_sem]
  have hgk:=hg l[k] (List.getElem_mem hk)
  try simp only[go_sem,aInts] at hgk
  refine Sd ?_
  refine AWp.of ?_;simp only[go_sem,getD_map hk,hgf,aInts]
  refine⟨⟨by omega,by omega⟩,hk,hgk.use (AWp.of ?_)⟩;simp only[go_sem]
  refine⟨fun ht => ?_,fun hf => ?_⟩
  ·refine Sd ?_
   refine AWp.of ?_;simp only[go_sem]
   refine ret_eq ?_;simp only[go_sem]
   have:l.findIdx? p=some k:=by rw[List.findIdx?_eq_some_iff_getElem];exact⟨hk,ht,fun j hj=>by simpa using hI j (by omega) hj⟩
   rw[this]
  ·refine⟨[],List.Sublist.refl _,rfl,fun i h hi => ?_⟩
   by_cases e:i=k
   ·subst e;exact hf
   ·exact hI i h (by omega)
 ·rintro vs L' hvs ⟨rfl,hI⟩
  simp only[go_sem]
  refine Sd ?_
  refine AWp.of ?_;simp only[go_sem]
  refine Sd ?_
  refine AWp.of ?_;simp only[go_sem]
  refine ret_eq ?_;simp only[go_sem]
  have:l.findIdx? p=none:=by rw[List.findIdx?_eq_none_iff];intro x hx;obtain⟨i,hi,rfl⟩:=List.getElem_of_mem hx;exact hI i hi hi
  rw[this]
theorem rows_containsFunc (l:List (List Int)) (hl:l.length≤1000000) (g:AV) (hgf:fo g=(True,g)) (p:(List Int)→Bool) (hg:∀x ∈ l,PV Proofs.Tryz.prog g [aInts x] (ab (p x))) :
  PC Proofs.Tryz.prog 25 [aRows l,g] (ab (l.any p)):=by
 refine PC.enter 9 [.tmp 4] [] Proofs.Tryz.func25 rfl rfl rfl rfl rfl (by simp) (AWp.of ?_);simp only[go_sem]
 refine Sd ?_
 refine AWp.of ?_;simp only[go_sem,hgf,aRows]
 refine(rows_indexFunc l hl g hgf p hg).val.use ?_
 simp only[go_sem]
 refine Sd ?_
 refine AWp.of ?_;simp only[go_sem]
 refine ret_eq ?_;simp only[go_sem]
 congr 2;exact findIdx_any l p
theorem procs_indexFunc (l:List Pr) (hl:l.length≤1000000) (g:AV) (hgf:fo g=(True,g)) (p:Pr→Bool) (hg:∀x ∈ l,PV Proofs.Tryz.prog g [aPr x] (ab (p x))) :
  PC Proofs.Tryz.prog 81 [aPrs l,g] (ai (match l.findIdx? p with|some i=>(i:Int)|none => -1)):=by
 refine PC.enter 19 [.tmp 4] [] Proofs.Tryz.func81 rfl rfl rfl rfl rfl (by simp) (AWp.of ?_);simp only[go_sem]
 refine Sd ?_
 refine AWp.of ?_;simp only[go_sem,aPrs]
 refine AWp.range' l.length [] [0,1,7] (fun k vs L=>L=[]∧∀i (h:i<l.length),i<k→p l[i]=false) (by omega) rfl rfl rfl ⟨rfl,by omega⟩ ?_ ?_
 ·rintro k vs L' hk hvs ⟨rfl,hI⟩
  simp only[go_sem]
  refine Sd ?_
  refine AWp.of ?_;simp only[go_sem]
  have hgk:=hg l[k] (List.getElem_mem hk)
  try simp only[go_sem,aPr] at hgk
  refine Sd ?_
  refine AWp.of ?_;simp only[go_sem,getD_map hk,hgf,aPr]
  refine⟨⟨by omega,by omega⟩,hk,hgk.use (AWp.of ?_)⟩;simp only[go_sem]
  refine⟨fun ht => ?_,fun hf => ?_⟩
  ·refine Sd ?_
   refine AWp.of ?_;simp only[go_sem]
   refine ret_eq ?_;simp only[go_sem]
   have:l.findIdx? p=some k:=by rw[List.findIdx?_eq_some_iff_getElem];exact⟨hk,ht,fun j hj=>by simpa using hI j (by omega) hj⟩
   rw[this]
  ·refine⟨[],List.Sublist.refl _,rfl,fun i h hi => ?_⟩
   by_cases e:i=k
   ·subst e;exact hf
   ·exact hI i h (by omega)
 ·rintro vs L' hvs ⟨rfl,hI⟩
  simp only[go_sem]
  refine Sd ?_
  refine AWp.of ?_;simp only[go_sem]
  refine Sd ?_
  refine AWp.of ?_;simp only[go_sem]
  refine ret_eq ?_;simp only[go_sem]
  have:l.findIdx? p=none:=by rw[List.findIdx?_eq_none_iff];intro x hx;obtain⟨i,hi,rfl⟩:=List.getElem_of_mem hx;exact hI i hi hi
  rw[this]
theorem procs_containsFunc (l:List Pr) (hl:l.length≤1000000) (g:AV) (hgf:fo g=(True,g)) (p:Pr→Bool) (hg:∀x ∈ l,PV Proofs.Tryz.prog g [aPr x] (ab (p x))) :
  PC Proofs.Tryz.prog 43 [aPrs l,g] (ab (l.any p)):=by
 refine PC.enter 9 [.tmp 4] [] Proofs.Tryz.func43 rfl rfl rfl rfl rfl (by simp) (AWp.of ?_);simp only[go_sem]
 refine Sd ?_
 refine AWp.of ?_;simp only[go_sem,hgf,aPrs]
 refine(procs_indexFunc l hl g hgf p hg).val.use ?_
 simp only[go_sem]
 refine Sd ?_
 refine AWp.of ?_;simp only[go_sem]
 refine ret_eq ?_;simp only[go_sem]
 congr 2;exact findIdx_any l p
theorem events_indexFunc (l:List Ev) (hl:l.length≤1000000) (g:AV) (hgf:fo g=(True,g)) (p:Ev→Bool) (hg:∀x ∈ l,PV Proofs.Tryz.prog g [aEv x] (ab (p x))) :
  PC Proofs.Tryz.prog 82 [aEvs l,g] (ai (match l.findIdx? p with|some i=>(i:Int)|none => -1)):=by
 refine PC.enter 19 [.tmp 4] [] Proofs.Tryz.func82 rfl rfl rfl rfl rfl (by simp) (AWp.of ?_);simp only[go_sem]
 refine Sd ?_
 refine AWp.of ?_;simp only[go_sem,aEvs]
 refine AWp.range' l.length [] [0,1,7] (fun k vs L=>L=[]∧∀i (h:i<l.length),i<k→p l[i]=false) (by omega) rfl rfl rfl ⟨rfl,by omega⟩ ?_ ?_
 ·rintro k vs L' hk hvs ⟨rfl,hI⟩
  simp only[go_sem]
  refine Sd ?_
  refine AWp.of ?_;simp only[go_sem]
  have hgk:=hg l[k] (List.getElem_mem hk)
  try simp only[go_sem,aEv] at hgk
  refine Sd ?_
  refine AWp.of ?_;simp only[go_sem,getD_map hk,hgf,aEv]
  refine⟨⟨by omega,by omega⟩,hk,hgk.use (AWp.of ?_)⟩;simp only[go_sem]
  refine⟨fun ht => ?_,fun hf => ?_⟩
  ·refine Sd ?_
   refine AWp.of ?_;simp only[go_sem]
   refine ret_eq ?_;simp only[go_sem]
   have:l.findIdx? p=some k:=by rw[List.findIdx?_eq_some_iff_getElem];exact⟨hk,ht,fun j hj=>by simpa using hI j (by omega) hj⟩
   rw[this]
  ·refine⟨[],List.Sublist.refl _,rfl,fun i h hi => ?_⟩
   by_cases e:i=k
   ·subst e;exact hf
   ·exact hI i h (by omega)
 ·rintro vs L' hvs ⟨rfl,hI⟩
  simp only[go_sem]
  refine Sd ?_
  refine AWp.of ?_;simp only[go_sem]
  refine Sd ?_
  refine AWp.of ?_;simp only[go_sem]
  refine ret_eq ?_;simp only[go_sem]
  have:l.findIdx? p=none:=by rw[List.findIdx?_eq_none_iff];intro x hx;obtain⟨i,hi,rfl⟩:=List.getElem_of_mem hx;exact hI i hi hi
  rw[this]
theorem events_containsFunc (l:List Ev) (hl:l.length≤1000000) (g:AV) (hgf:fo g=(True,g)) (p:Ev→Bool) (hg:∀x ∈ l,PV Proofs.Tryz.prog g [aEv x] (ab (p x))) :
  PC Proofs.Tryz.prog 45 [aEvs l,g] (ab (l.any p)):=by
 refine PC.enter 9 [.tmp 4] [] Proofs.Tryz.func45 rfl rfl rfl rfl rfl (by simp) (AWp.of ?_);simp only[go_sem]
 refine Sd ?_
 refine AWp.of ?_;simp only[go_sem,hgf,aEvs]
 refine(events_indexFunc l hl g hgf p hg).val.use ?_
 simp only[go_sem]
 refine Sd ?_
 refine AWp.of ?_;simp only[go_sem]
 refine ret_eq ?_;simp only[go_sem]
 congr 2;exact findIdx_any l p
theorem vars_indexFunc (l:List (ByteArray × Int)) (hl:l.length≤1000000) (g:AV) (hgf:fo g=(True,g)) (p:(ByteArray × Int)→Bool) (hg:∀x ∈ l,PV Proofs.Tryz.prog g [aVar x] (ab (p x))) :
  PC Proofs.Tryz.prog 262 [aVars l,g] (ai (match l.findIdx? p with|some i=>(i:Int)|none => -1)):=by
 refine PC.enter 19 [.tmp 4] [] Proofs.Tryz.func262 rfl rfl rfl rfl rfl (by simp) (AWp.of ?_);simp only[go_sem]
 refine Sd ?_
 refine AWp.of ?_;simp only[go_sem,aVars]
 refine AWp.range' l.length [] [0,1,7] (fun k vs L=>L=[]∧∀i (h:i<l.length),i<k→p l[i]=false) (by omega) rfl rfl rfl ⟨rfl,by omega⟩ ?_ ?_
 ·rintro k vs L' hk hvs ⟨rfl,hI⟩
  simp only[go_sem]
  refine Sd ?_
  refine AWp.of ?_;simp only[go_sem]
  have hgk:=hg l[k] (List.getElem_mem hk)
  try simp only[go_sem,aVar] at hgk
  refine Sd ?_
  refine AWp.of ?_;simp only[go_sem,getD_map hk,hgf,aVar]
  refine⟨⟨by omega,by omega⟩,hk,hgk.use (AWp.of ?_)⟩;simp only[go_sem]
  refine⟨fun ht => ?_,fun hf => ?_⟩
  ·refine Sd ?_
   refine AWp.of ?_;simp only[go_sem]
   refine ret_eq ?_;simp only[go_sem]
   have:l.findIdx? p=some k:=by rw[List.findIdx?_eq_some_iff_getElem];exact⟨hk,ht,fun j hj=>by simpa using hI j (by omega) hj⟩
   rw[this]
  ·refine⟨[],List.Sublist.refl _,rfl,fun i h hi => ?_⟩
   by_cases e:i=k
   ·subst e;exact hf
   ·exact hI i h (by omega)
 ·rintro vs L' hvs ⟨rfl,hI⟩
  simp only[go_sem]
  refine Sd ?_
  refine AWp.of ?_;simp only[go_sem]
  refine Sd ?_
  refine AWp.of ?_;simp only[go_sem]
  refine ret_eq ?_;simp only[go_sem]
  have:l.findIdx? p=none:=by rw[List.findIdx?_eq_none_iff];intro x hx;obtain⟨i,hi,rfl⟩:=List.getElem_of_mem hx;exact hI i hi hi
  rw[this]
theorem vars_containsFunc (l:List (ByteArray × Int)) (hl:l.length≤1000000) (g:AV) (hgf:fo g=(True,g)) (p:(ByteArray × Int)→Bool) (hg:∀x ∈ l,PV Proofs.Tryz.prog g [aVar x] (ab (p x))) :
  PC Proofs.Tryz.prog 199 [aVars l,g] (ab (l.any p)):=by
 refine PC.enter 9 [.tmp 4] [] Proofs.Tryz.func199 rfl rfl rfl rfl rfl (by simp) (AWp.of ?_);simp only[go_sem]
 refine Sd ?_
 refine AWp.of ?_;simp only[go_sem,hgf,aVars]
 refine(vars_indexFunc l hl g hgf p hg).val.use ?_
 simp only[go_sem]
 refine Sd ?_
 refine AWp.of ?_;simp only[go_sem]
 refine ret_eq ?_;simp only[go_sem]
 congr 2;exact findIdx_any l p
theorem asgs_indexFunc (l:List (Int × Int)) (hl:l.length≤1000000) (g:AV) (hgf:fo g=(True,g)) (p:(Int × Int)→Bool) (hg:∀x ∈ l,PV Proofs.Tryz.prog g [aAsg x] (ab (p x))) :
  PC Proofs.Tryz.prog 294 [aAsgs l,g] (ai (match l.findIdx? p with|some i=>(i:Int)|none => -1)):=by
 refine PC.enter 19 [.tmp 4] [] Proofs.Tryz.func294 rfl rfl rfl rfl rfl (by simp) (AWp.of ?_);simp only[go_sem]
 refine Sd ?_
 refine AWp.of ?_;simp only[go_sem,aAsgs]
 refine AWp.range' l.length [] [0,1,7] (fun k vs L=>L=[]∧∀i (h:i<l.length),i<k→p l[i]=false) (by omega) rfl rfl rfl ⟨rfl,by omega⟩ ?_ ?_
 ·rintro k vs L' hk hvs ⟨rfl,hI⟩
  simp only[go_sem]
  refine Sd ?_
  refine AWp.of ?_;simp only[go_sem]
  have hgk:=hg l[k] (List.getElem_mem hk)
  try simp only[go_sem,aAsg] at hgk
  refine Sd ?_
  refine AWp.of ?_;simp only[go_sem,getD_map hk,hgf,aAsg]
  refine⟨⟨by omega,by omega⟩,hk,hgk.use (AWp.of ?_)⟩;simp only[go_sem]
  refine⟨fun ht => ?_,fun hf => ?_⟩
  ·refine Sd ?_
   refine AWp.of ?_;simp only[go_sem]
   refine ret_eq ?_;simp only[go_sem]
   have:l.findIdx? p=some k:=by rw[List.findIdx?_eq_some_iff_getElem];exact⟨hk,ht,fun j hj=>by simpa using hI j (by omega) hj⟩
   rw[this]
  ·refine⟨[],List.Sublist.refl _,rfl,fun i h hi => ?_⟩
   by_cases e:i=k
   ·subst e;exact hf
   ·exact hI i h (by omega)
 ·rintro vs L' hvs ⟨rfl,hI⟩
  simp only[go_sem]
  refine Sd ?_
  refine AWp.of ?_;simp only[go_sem]
  refine Sd ?_
  refine AWp.of ?_;simp only[go_sem]
  refine ret_eq ?_;simp only[go_sem]
  have:l.findIdx? p=none:=by rw[List.findIdx?_eq_none_iff];intro x hx;obtain⟨i,hi,rfl⟩:=List.getElem_of_mem hx;exact hI i hi hi
  rw[this]
theorem asgs_containsFunc (l:List (Int × Int)) (hl:l.length≤1000000) (g:AV) (hgf:fo g=(True,g)) (p:(Int × Int)→Bool) (hg:∀x ∈ l,PV Proofs.Tryz.prog g [aAsg x] (ab (p x))) :
  PC Proofs.Tryz.prog 258 [aAsgs l,g] (ab (l.any p)):=by
 refine PC.enter 9 [.tmp 4] [] Proofs.Tryz.func258 rfl rfl rfl rfl rfl (by simp) (AWp.of ?_);simp only[go_sem]
 refine Sd ?_
 refine AWp.of ?_;simp only[go_sem,hgf,aAsgs]
 refine(asgs_indexFunc l hl g hgf p hg).val.use ?_
 simp only[go_sem]
 refine Sd ?_
 refine AWp.of ?_;simp only[go_sem]
 refine ret_eq ?_;simp only[go_sem]
 congr 2;exact findIdx_any l p
def nmB (s:ByteArray) (v:ByteArray × Int):Bool:=decide (v.1=s)
def varIx (vs:List (ByteArray × Int)) (s:ByteArray):Int:=match vs.findIdx? (nmB s) with|some i=>i|none => -1
def isPB (n:Nat) (p:Int):Bool:=decide (0≤p) && decide (p<n)
def knownB (ps:List Pr) (p:Int) (s:ByteArray):Bool:=match ps[p.toNat]? with|some x=>x.vars.any (nmB s)|none=>false
def resB (ps:List Pr):Pd→Bool
 | .mk k _ p q s _=>if k=2 then isPB ps.length p && decide (q=0) && knownB ps p s else if k=3 then isPB ps.length p && decide (q=0) && decide (s=ByteArray.empty) else
  if k=4 then isPB ps.length p && isPB ps.length q && !decide (p=q) && decide (s=ByteArray.empty) else true
theorem predtype_isProc (ps:List Pr) (p:Int):PC Proofs.Tryz.prog 125 [aTr ps,ai p] (ab (isPB ps.length p)):=by
 generalize hb:isPB ps.length p=b
 refine PC.enter 14 [.tmp 4] [2] Proofs.Tryz.func125 rfl rfl rfl rfl rfl (by simp) (AWp.of ?_);simp only[go_sem]
 refine Wk ?_
 refine ret_eq ?_;simp only[go_sem]
 rw[← hb];rfl
theorem predtype_known1 (v:ByteArray × Int) (s:ByteArray):PC Proofs.Tryz.prog 200 [aVar v,.rp 1 [astr s] 0 0] (ab (nmB s v)):=by
 generalize hb:nmB s v=b
 refine PC.enter 8 [.tmp 3] [2] Proofs.Tryz.func200 rfl rfl rfl rfl rfl (by simp) (AWp.of ?_);simp only[go_sem]
 refine Wk ?_
 refine ret_eq ?_;simp only[go_sem]
 rw[← hb];rfl
theorem isPB_nat {n:Nat} {p:Int} (h:isPB n p=true):∃i:Nat,p=i∧i<n:=by
 unfold isPB at h;simp only[Bool.and_eq_true,decide_eq_true_eq] at h
 exact⟨p.toNat,by omega,by omega⟩
theorem predtype_known (ps:List Pr) (hs:Sm ps) (p:Int) (hpb:isPB ps.length p=true) (s:ByteArray):PC Proofs.Tryz.prog 126 [aTr ps,ai p,astr s] (ab (knownB ps p s)):=by
 obtain⟨p,rfl,hp⟩:=isPB_nat hpb
 have hm:=List.getElem_mem hp
 have hc:=vars_containsFunc ps[p].vars (hs.vars _ hm) (.clo 200 [.rp 1 [astr s] 0 0]) rfl (nmB s) fun v _=>(predtype_known1 v s).clo
 have hk:knownB ps p s=ps[p].vars.any (nmB s):=by unfold knownB;simp only[Int.toNat_natCast,List.getElem?_eq_getElem hp]
 have hgp:=getD_map (f:=aPr) hp
 rw[hk]
 generalize ps[p].vars.any (nmB s)=b at *
 refine PC.enter 15 [.tmp 6] [3,5] Proofs.Tryz.func126 rfl rfl rfl rfl rfl (by simp) (AWp.of ?_);simp only[go_sem]
 refine W1 hgp ?_
 refine Sd ?_
 refine(hc).val.use ?_;simp only[go_sem]
 refine Wk ?_
 refine ret_eq ?_;simp only[go_sem]
theorem predtype_resolved1 (ps:List Pr) (hs:Sm ps) (x:Pd):PC Proofs.Tryz.prog 124 [aPd x,.rp 1 [aTr ps] 0 0] (ab (resB ps x)):=by
 obtain⟨k,n,p,q,s,l⟩:=x
 have hsp:resB ps (.mk k n p q s l)=if k=2 then isPB ps.length p && decide (q=0) && knownB ps p s else if k=3 then isPB ps.length p && decide (q=0) && decide (s=ByteArray.empty) else
  if k=4 then isPB ps.length p && isPB ps.length q && !decide (p=q) && decide (s=ByteArray.empty) else true:=rfl
 generalize resB ps (.mk k n p q s l)=B at *
 have h1:=predtype_isProc ps p
 have h2:=predtype_isProc ps q
 have hkn:=fun h=>predtype_known ps hs p h s
 generalize isPB ps.length p=P at *
 generalize isPB ps.length q=Q at *
 generalize knownB ps p s=K at *
 refine PC.enter 65 [.tmp 3] [2] Proofs.Tryz.func124 rfl rfl rfl rfl rfl (by simp) (AWp.of ?_);simp only[go_sem]
 refine Wk ?_
 refine⟨fun h3 => ?_,fun h3 => ?_⟩
 ·rw[if_pos h3] at hsp
  refine Wk ?_
  refine Sd ?_
  refine(h1).val.use ?_;simp only[go_sem]
  refine GCall.use (ab K) (fun g=>⟨At,(hkn g.1).val.use ⟨rfl,rfl⟩⟩) ?_;simp only[go_sem]
  refine Sd ?_
  refine Wk ?_
  refine ret_eq ?_;simp only[go_sem]
  rw[hsp]
 rw[if_neg h3] at hsp
 refine Wk ?_
 refine⟨fun h4 => ?_,fun h4 => ?_⟩
 ·rw[if_pos h4] at hsp
  refine Wk ?_
  refine Sd ?_
  refine(h1).val.use ?_;simp only[go_sem]
  refine Wk ?_
  refine ret_eq ?_;simp only[go_sem]
  rw[hsp];rfl
 rw[if_neg h4] at hsp
 refine Wk ?_
 refine⟨fun h5 => ?_,fun h5 => ?_⟩
 ·rw[if_pos h5] at hsp
  refine Wk ?_
  refine Sd ?_
  refine(h1).val.use ?_;simp only[go_sem]
  refine Sd ?_
  refine Gc h2 ?_
  refine Sd ?_
  refine Wk ?_
  refine ret_eq ?_;simp only[go_sem]
  rw[hsp];rfl
 rw[if_neg h5] at hsp
 refine Wk ?_
 refine ret_eq ?_;simp only[go_sem]
 rw[hsp]
theorem predtype_resolved (ps:List Pr) (hs:Sm ps) (t:Pd) (hz:szF t≤1000000):PC Proofs.Tryz.prog 84 [aTr ps,aPd t] (ab (allB (resB ps) t)):=by
 have he:=predtype_eachC (resB ps) 124 [.rp 1 [aTr ps] 0 0] (fun x hx=>(predtype_resolved1 ps hs x).clo) t hz
 generalize allB (resB ps) t=b at *
 obtain⟨k,n,p,q,s,l⟩:=t
 simp only[aPd_mk] at *
 refine PC.enter 8 [.tmp 4] [2,3] Proofs.Tryz.func84 rfl rfl rfl rfl rfl (by simp) (AWp.of ?_);simp only[go_sem]
 refine Wk ?_
 refine Sd ?_
 refine(he).val.use ?_;simp only[go_sem]
 refine Wk ?_
 refine ret_eq ?_;simp only[go_sem]
def varX (ps:List Pr) (p:Int) (s:ByteArray):Int:=match ps[p.toNat]? with|some x=>varIx x.vars s|none => -1
theorem varX_get {ps:List Pr} {p:Nat} (hp:p<ps.length) (s:ByteArray):varX ps p s=varIx ps[p].vars s:=by unfold varX;simp only[Int.toNat_natCast,List.getElem?_eq_getElem hp]
theorem varIx_neg (vs:List (ByteArray × Int)) (s:ByteArray):varIx vs s<0↔vs.any (nmB s)=false:=by
 unfold varIx
 cases h:vs.findIdx? (nmB s) with
 | none=>simp only[List.findIdx?_eq_none_iff] at h;simp only[List.any_eq_false];exact⟨fun _ x hx=>by simp [h x hx],fun _=>by omega⟩
 | some i =>
  rw[List.findIdx?_eq_some_iff_getElem] at h
  obtain⟨hi,h1,_⟩:=h
  refine⟨fun h=>by (have:(0:Int)≤(i:Int):=by omega);exact absurd h (by simp),fun h => ?_⟩
  rw[List.any_eq_false] at h
  exact absurd h1 (by simpa using h _ (List.getElem_mem hi))
theorem known_ix {vs:List (ByteArray × Int)} {s:ByteArray} (h:vs.any (nmB s)=true):∃i:Nat,varIx vs s=i∧i<vs.length:=by
 unfold varIx
 cases hf:vs.findIdx? (nmB s) with
 | none =>
  rw[List.findIdx?_eq_none_iff] at hf
  obtain⟨x,hx,hn⟩:=List.any_eq_true.1 h
  rw[hf x hx] at hn;cases hn
 | some i =>
  rw[List.findIdx?_eq_some_iff_getElem] at hf
  obtain⟨hi,_⟩:=hf
  exact⟨i,rfl,hi⟩
theorem known_get {ps:List Pr} {p:Nat} (hp:p<ps.length) {s:ByteArray} (h:knownB ps p s=true):ps[p].vars.any (nmB s)=true:=by
 unfold knownB at h;simpa only [Int.toNat_natCast,List.getElem?_eq_getElem hp] using h
abbrev au8 (n:Int):AV:=.v (.int .u8 n)
def letterI (n:Int):Bool:=(decide (97≤n) && decide (n≤122)) || (decide (65≤n) && decide (n≤90))
def digitI (n:Int):Bool:=decide (48≤n) && decide (n≤57)
def inI (x a b:Int):Bool:=decide (a≤x) && decide (x≤b)
def sb (s:ByteArray) (i:Nat):Int:=((s.get! i).toNat:Int)
def nameOk (s:ByteArray):Bool:=decide (s.size ≠ 0) && decide (s.size≤16) && letterI (sb s 0) && (List.range s.size).all fun i=>letterI (sb s i) || digitI (sb s i) || decide (sb s i=95)
theorem size_empty (s:ByteArray):(s=⟨#[]⟩)=(s.size=0):=by
 apply propext
 constructor
 ·rintro rfl;rfl
 ·intro h
  obtain⟨⟨l⟩⟩:=s
  have:l.length=0:=h
  rw[List.eq_nil_of_length_eq_zero this]
theorem trace_letter (n:Int):PC Proofs.Tryz.prog 292 [au8 n] (ab (letterI n)):=by
 refine PC.enter 17 [.tmp 2] [] Proofs.Tryz.func292 rfl rfl rfl rfl rfl (by simp) (AWp.of ?_);simp only[go_sem]
 refine Sd ?_
 refine AWp.of ?_;simp only[go_sem]
 refine Sd ?_
 refine AWp.of ?_;simp only[go_sem]
 refine ret_eq ?_;simp only[go_sem]
 rfl
theorem trace_digit (n:Int):PC Proofs.Tryz.prog 293 [au8 n] (ab (digitI n)):=by
 refine PC.enter 9 [.tmp 2] [] Proofs.Tryz.func293 rfl rfl rfl rfl rfl (by simp) (AWp.of ?_);simp only[go_sem]
 refine Sd ?_
 refine AWp.of ?_;simp only[go_sem]
 refine Sd ?_
 refine AWp.of ?_;simp only[go_sem]
 refine ret_eq ?_;simp only[go_sem]
 rfl
theorem trace_in (x a b:Int):PC Proofs.Tryz.prog 190 [ai x,ai a,ai b] (ab (inI x a b)):=by
 refine PC.enter 15 [.tmp 6] [] Proofs.Tryz.func190 rfl rfl rfl rfl rfl (by simp) (AWp.of ?_);simp only[go_sem]
 refine Sd ?_
 refine AWp.of ?_;simp only[go_sem]
 refine Sd ?_
 refine AWp.of ?_;simp only[go_sem]
 refine ret_eq ?_;simp only[go_sem]
 rfl
theorem trace_isName (s:ByteArray):PC Proofs.Tryz.prog 253 [astr s] (ab (nameOk s)):=by
 refine PC.enter 41 [.tmp 2] [] Proofs.Tryz.func253 rfl rfl rfl rfl rfl (by simp) (AWp.of ?_);simp only[go_sem]
 refine Sd ?_
 refine AWp.of ?_;simp only[go_sem,size_empty]
 refine Sd ?_
 refine GCall.use (ab (letterI (sb s 0))) (fun _=>⟨At,(trace_letter _).val.use ⟨rfl,rfl⟩⟩) ?_;simp only[go_sem]
 refine Sd ?_
 refine AWp.of ?_;simp only[go_sem]
 refine⟨fun ht => ?_,fun h1 h2 h3 => ?_⟩
 ·refine Sd ?_
  refine AWp.of ?_;simp only[go_sem]
  refine ret_eq ?_;simp only[go_sem]
  congr 2;symm;unfold nameOk
  rcases ht with (h|h)|h
  ·simp [h]
  ·simp [show ¬s.size≤16 by omega]
  ·simp [h]
 ·refine Sd ?_
  refine AWp.of ?_;simp only[go_sem]
  refine AWp.range' s.size [] [0,18] (fun k vs L=>L=[]∧∀i,i<k→(letterI (sb s i) || digitI (sb s i) || decide (sb s i=95))=true) (by omega) rfl rfl rfl ⟨rfl,by omega⟩ ?_ ?_
  ·rintro k vs L' hk hvs ⟨rfl,hI⟩
   simp only[go_sem]
   refine Sd ?_
   refine AWp.of ?_;simp only[go_sem]
   refine Sd ?_
   refine AWp.of ?_;simp only[go_sem]
   refine⟨⟨by omega,by omega⟩,(trace_letter _).val.use ?_⟩
   simp only[go_sem]
   refine Sd ?_
   refine GCall.use (ab (digitI (sb s k))) (fun _=>⟨At,(trace_digit _).val.use ⟨rfl,rfl⟩⟩) ?_;simp only[go_sem]
   refine Sd ?_
   refine AWp.of ?_;simp only[go_sem]
   refine⟨fun h4 h5 h6 => ?_,fun h4 => ?_⟩
   ·refine Sd ?_
    refine AWp.of ?_;simp only[go_sem]
    refine ret_eq ?_;simp only[go_sem]
    congr 2;symm;unfold nameOk
    have:((List.range s.size).all fun i=>letterI (sb s i) || digitI (sb s i) || decide (sb s i=95))=false:=by
     rw[List.all_eq_false]
     exact⟨k,List.mem_range.2 hk,by simp [show letterI (sb s k)=false from h4,h5];exact h6⟩
    rw[this];simp
   ·refine⟨[],List.Sublist.refl _,rfl,fun i hi => ?_⟩
    by_cases e:i=k
    ·subst e
     cases h5:letterI (sb s i)
     ·cases h6:digitI (sb s i)
      ·exact .inr (h4 h5 h6)
      ·exact .inl (.inr rfl)
     ·exact .inl (.inl rfl)
    ·simpa using hI i (by omega)
  ·rintro vs L' hvs ⟨rfl,hI⟩
   simp only[go_sem]
   refine Sd ?_
   refine AWp.of ?_;simp only[go_sem]
   refine Sd ?_
   refine AWp.of ?_;simp only[go_sem]
   refine ret_eq ?_;simp only[go_sem]
   congr 2;symm;unfold nameOk
   have:((List.range s.size).all fun i=>letterI (sb s i) || digitI (sb s i) || decide (sb s i=95))=true:=by
    rw[List.all_eq_true]
    exact fun i hi=>by simpa using hI i (List.mem_range.1 hi)
   rw[this];simp [h1,h3];omega
def varF (vs:List (ByteArray × Int)) (i:Nat):Int :=
 match vs[i]? with
 | some v=>if !nameOk v.1 || (vs.take i).any (fun w=>decide (w.1=v.1)) then 13 else if !inI v.2 (-1073741824) 1073741824 then 2 else 0
 | none=>0
def procF (ps:List Pr) (p:Nat):Int :=
 match ps[p]? with
 | some x=>if !nameOk x.name || (ps.take p).any (fun y=>decide (y.name=x.name)) then 13 else if 8<x.vars.length then 5 else
   if fstF (varF x.vars) x.vars.length ≠ 0 then fstF (varF x.vars) x.vars.length else if 64<x.evs.length then 5 else 0
 | none=>0
theorem trace_processFault1 (y x:Pr):PC Proofs.Tryz.prog 254 [aPr y,.rp 3 [aPr x] 0 0] (ab (decide (y.name=x.name))):=by
 refine PC.enter 9 [.tmp 3] [2] Proofs.Tryz.func254 rfl rfl rfl rfl rfl (by simp) (AWp.of ?_);simp only[go_sem]
 refine Sd ?_
 refine AWp.of ?_;simp only[go_sem]
 refine Sd ?_
 refine AWp.of ?_;simp only[go_sem]
 refine ret_eq ?_;simp only[go_sem]
theorem trace_processFault2 (y x:ByteArray × Int):PC Proofs.Tryz.prog 255 [aVar y,.rp 2 [aVar x] 0 0] (ab (decide (y.1=x.1))):=by
 refine PC.enter 9 [.tmp 3] [2] Proofs.Tryz.func255 rfl rfl rfl rfl rfl (by simp) (AWp.of ?_);simp only[go_sem]
 refine Sd ?_
 refine AWp.of ?_;simp only[go_sem]
 refine Sd ?_
 refine AWp.of ?_;simp only[go_sem]
 refine ret_eq ?_;simp only[go_sem]
theorem trace_processFaultH (ps:List Pr) (hs:Smh ps) (p:Nat) (hp:p<ps.length):PC Proofs.Tryz.prog 191 [aTr ps,ai p] (ai (procF ps p)):=by
 have hm:=List.getElem_mem hp
 refine PC.enter 62 [.tmp 4] [2,5,7] Proofs.Tryz.func191 rfl rfl rfl rfl rfl (by simp) (AWp.of ?_);simp only[go_sem]
 refine Sd ?_
 refine AWp.of ?_;simp only[go_sem,getD_map hp]
 refine Sd ?_
 intros
 refine AWp.of ?_;simp only[go_sem]
 refine(trace_isName _).val.use ?_
 simp only[go_sem]
 refine Sd ?_
 refine GCall.use (ab ((ps.take p).any fun y=>decide (y.name=ps[p].name))) (fun _=>⟨At,(procs_containsFunc (ps.take p) (take_le hs.procs) (.clo 254 [.rp 3 [aPr ps[p]] 0 0]) rfl (fun y=>decide (y.name=ps[p].name)) fun y _=>(trace_processFault1 y ps[p]).clo).val.use ⟨rfl,rfl⟩⟩) ?_;simp only[go_sem]
 refine Sd ?_
 refine AWp.of ?_;simp only[go_sem]
 refine⟨fun ht => ?_,fun h1 h2 => ?_⟩
 ·refine Sd ?_
  refine AWp.of ?_;simp only[go_sem]
  refine ret_eq ?_;simp only[go_sem]
  simp only[procF,List.getElem?_eq_getElem hp];rw[if_pos (by simpa using ht)]
 ·refine Sd ?_
  refine AWp.of ?_;simp only[go_sem]
  refine⟨fun ht => ?_,fun h3 => ?_⟩
  ·refine Sd ?_
   refine AWp.of ?_;simp only[go_sem]
   refine ret_eq ?_;simp only[go_sem]
   simp only[procF,List.getElem?_eq_getElem hp];rw[if_neg (by simp [h1,h2]),if_pos (by omega)]
  ·have hl:=hs.vars _ hm
   refine Sd ?_
   refine AWp.of ?_;simp only[go_sem]
   refine AWp.range' ps[p].vars.length [] [5,32,33] (fun k vs L=>L=[]∧∀i,i<k→varF ps[p].vars i=0) (by omega) rfl rfl rfl ⟨rfl,by omega⟩ ?_ ?_
   ·rintro k vs L' hk hvs ⟨rfl,hI⟩
    simp only[go_sem]
    have e:ps[p].vars[k]?=some ps[p].vars[k]:=List.getElem?_eq_getElem hk
    refine Sd ?_
    refine AWp.of ?_;simp only[go_sem,getD_map hk]
    refine Sd ?_
    intros
    refine AWp.of ?_;simp only[go_sem]
    refine(trace_isName _).val.use ?_
    simp only[go_sem]
    refine Sd ?_
    refine GCall.use (ab ((ps[p].vars.take k).any fun w=>decide (w.1=ps[p].vars[k].1))) (fun _=>⟨At,(vars_containsFunc (ps[p].vars.take k) (take_le hl) (.clo 255 [.rp 2 [aVar ps[p].vars[k]] 0 0]) rfl (fun w=>decide (w.1=ps[p].vars[k].1)) fun y _=>(trace_processFault2 y ps[p].vars[k]).clo).val.use ⟨rfl,rfl⟩⟩) ?_;simp only[go_sem]
    refine Sd ?_
    refine AWp.of ?_;simp only[go_sem]
    refine⟨fun ht => ?_,fun h4 h5 => ?_⟩
    ·refine Sd ?_
     refine AWp.of ?_;simp only[go_sem]
     refine ret_eq ?_;simp only[go_sem]
     have hv:varF ps[p].vars k=13:=by simp only[varF,e];rw[if_pos (by simpa using ht)]
     simp only[procF,List.getElem?_eq_getElem hp];rw[if_neg (by simp [h1,h2]),if_neg (by omega),fstF_hit hk hI (by rw[hv];decide),hv];simp
    ·refine(trace_in _ _ _).val.use ?_
     simp only[go_sem]
     refine Sd ?_
     refine AWp.of ?_;simp only[go_sem]
     refine⟨fun ht => ?_,fun h6 => ?_⟩
     ·refine Sd ?_
      refine AWp.of ?_;simp only[go_sem]
      refine ret_eq ?_;simp only[go_sem]
      have hv:varF ps[p].vars k=2:=by simp only[varF,e];rw[if_neg (by simp [h4,h5]),if_pos (by simp [ht])]
      simp only[procF,List.getElem?_eq_getElem hp];rw[if_neg (by simp [h1,h2]),if_neg (by omega),fstF_hit hk hI (by rw[hv];decide),hv];simp
     ·refine⟨[],List.Sublist.refl _,rfl,fun i hi => ?_⟩
      by_cases e2:i=k
      ·subst e2;simp only[varF,e];rw[if_neg (by simp [h4,h5]),if_neg (by simp [h6])]
      ·exact hI i (by omega)
   ·rintro vs L' hvs ⟨rfl,hI⟩
    simp only[go_sem]
    refine Sd ?_
    refine AWp.of ?_;simp only[go_sem]
    refine Sd ?_
    refine AWp.of ?_;simp only[go_sem]
    refine⟨fun ht => ?_,fun h6 => ?_⟩
    ·refine Sd ?_
     refine AWp.of ?_;simp only[go_sem]
     refine ret_eq ?_;simp only[go_sem]
     simp only[procF,List.getElem?_eq_getElem hp];rw[if_neg (by simp [h1,h2]),if_neg (by omega),if_neg (by rw[fstF_none hI];simp),if_pos (by omega)]
    ·refine Sd ?_
     refine AWp.of ?_;simp only[go_sem]
     refine Sd ?_
     refine AWp.of ?_;simp only[go_sem]
     refine ret_eq ?_;simp only[go_sem]
     simp only[procF,List.getElem?_eq_getElem hp];rw[if_neg (by simp [h1,h2]),if_neg (by omega),if_neg (by rw[fstF_none hI];simp),if_neg (by omega)]
theorem trace_processFault (ps:List Pr) (hs:Sm ps) (p:Nat) (hp:p<ps.length):PC Proofs.Tryz.prog 191 [aTr ps,ai p] (ai (procF ps p)):=trace_processFaultH ps hs.h p hp
def formedI (n:Nat) (p:Int) (e:Ev):Bool :=
 if e.kind=1 then decide (e.peer=0) && decide (e.msg=0)
 else if e.kind=2∨e.kind=3 then inI e.peer 0 ((n:Int) - 1) && !decide (e.peer=p) && inI e.msg 0 199 else false
def asgF (nv:Nat) (l:List (Int × Int)) (k:Nat):Int :=
 match l[k]? with
 | some a=>if !inI a.1 0 ((nv:Int) - 1) || !inI a.2 (-1073741824) 1073741824 then 2 else if (l.take k).any (fun b=>decide (b.1=a.1)) then 8 else 0
 | none=>0
def lastT (l:List Ev) (i:Nat):Int:=if i=0 then 0 else match l[i - 1]? with|some e=>e.time|none=>0
def evF (ps:List Pr) (p i:Nat):Int :=
 match ps[p]? with
 | some x=>match x.evs[i]? with
  | some e=>if !formedI ps.length p e then 3 else if !inI e.time 0 1099511627776 || decide (e.time<lastT x.evs i) then 11 else if 8<e.asg.length then 5 else fstF (asgF x.vars.length e.asg) e.asg.length
  | none=>0
 | none=>0
theorem trace_formed (ps:List Pr) (hs:Sm ps) (p:Int) (e:Ev):PC Proofs.Tryz.prog 257 [aTr ps,ai p,aEv e] (ab (formedI ps.length p e)):=by
 have hl:=hs.procs
 refine PC.enter 40 [.tmp 6] [3,5] Proofs.Tryz.func257 rfl rfl rfl rfl rfl (by simp) (AWp.of ?_);simp only[go_sem]
 refine Wk ?_
 refine⟨fun h1 => ?_,fun h1 => ?_⟩
 ·refine Wk ?_
  refine ret_eq ?_;simp only[go_sem]
  unfold formedI;rw[if_pos h1]
 ·refine Wk ?_
  refine⟨fun h2 => ?_,fun h2 => ?_⟩
  ·refine W1 h2 ?_
   refine Sd ?_
   refine(trace_in _ _ _).val.use ?_;simp only[go_sem]
   refine Sd ?_
   refine GCall.use (ab (inI e.msg 0 199)) (fun _=>⟨At,(trace_in _ _ _).val.use ⟨rfl,rfl⟩⟩) ?_;simp only[go_sem]
   refine Wk ?_
   refine ret_eq ?_;simp only[go_sem]
   unfold formedI;rw[if_neg h1,if_pos (by omega)]
  ·refine W1 h2 ?_
   refine⟨fun h3 => ?_,fun h3 => ?_⟩
   ·refine W2 h2 h3 ?_
    refine Sd ?_
    refine(trace_in _ _ _).val.use ?_;simp only[go_sem]
    refine Sd ?_
    refine GCall.use (ab (inI e.msg 0 199)) (fun _=>⟨At,(trace_in _ _ _).val.use ⟨rfl,rfl⟩⟩) ?_;simp only[go_sem]
    refine Wk ?_
    refine ret_eq ?_;simp only[go_sem]
    unfold formedI;rw[if_neg h1,if_pos (by omega)]
   ·refine W2 h2 h3 ?_
    refine ret_eq ?_;simp only[go_sem]
    unfold formedI;rw[if_neg h1,if_neg (by omega)]
theorem trace_eventFault1 (y x:Int × Int):PC Proofs.Tryz.prog 259 [aAsg y,.rp 2 [aAsg x] 0 0] (ab (decide (y.1=x.1))):=by
 refine PC.enter 9 [.tmp 3] [2] Proofs.Tryz.func259 rfl rfl rfl rfl rfl (by simp) (AWp.of ?_);simp only[go_sem]
 refine Sd ?_
 refine AWp.of ?_;simp only[go_sem]
 refine Sd ?_
 refine AWp.of ?_;simp only[go_sem]
 refine ret_eq ?_;simp only[go_sem]
theorem trace_sends1 (e:Ev) (m to:Int):PC Proofs.Tryz.prog 295 [aEv e,.rp 1 [ai m] 0 0,.rp 1 [ai to] 0 0] (ab (decide (e.kind=2) && decide (e.msg=m) && decide (e.peer=to))):=by
 refine PC.enter 20 [.tmp 4] [3] Proofs.Tryz.func295 rfl rfl rfl rfl rfl (by simp) (AWp.of ?_);simp only[go_sem]
 refine Sd ?_
 refine AWp.of ?_;simp only[go_sem]
 refine Sd ?_
 refine AWp.of ?_;simp only[go_sem]
 refine ret_eq ?_;simp only[go_sem]
theorem trace_sends (ps:List Pr) (hs:Sm ps) (p:Nat) (hp:p<ps.length) (m to:Int):PC Proofs.Tryz.prog 260 [aTr ps,ai p,ai m,ai to] (ab (ps[p].evs.any fun e=>decide (e.kind=2) && decide (e.msg=m) && decide (e.peer=to))):=by
 have hm:=List.getElem_mem hp
 refine PC.enter 17 [.tmp 8] [4,6,7] Proofs.Tryz.func260 rfl rfl rfl rfl rfl (by simp) (AWp.of ?_);simp only[go_sem]
 refine Sd ?_
 refine AWp.of ?_;simp only[go_sem,getD_map hp]
 refine Sd ?_
 refine(events_containsFunc ps[p].evs (hs.evs _ hm) (.clo 295 [.rp 1 [ai m] 0 0,.rp 1 [ai to] 0 0]) rfl (fun e=>decide (e.kind=2) && decide (e.msg=m) && decide (e.peer=to)) fun e _=>(trace_sends1 e m to).clo).val.use ?_;simp only[go_sem]
 refine Sd ?_
 refine AWp.of ?_;simp only[go_sem]
 refine ret_eq ?_;simp only[go_sem]
theorem trace_eventFault (ps:List Pr) (hs:Sm ps) (p:Nat) (hp:p<ps.length) (i:Nat) (hi:i<ps[p].evs.length) :
  PC Proofs.Tryz.prog 193 [aTr ps,aEid (p,(i:Int)+1),aEv ps[p].evs[i]] (ai (evF ps p i)):=by
 have hm:=List.getElem_mem hp
 have hl:=hs.procs
 have hel:=hs.evs _ hm
 have hvl:=hs.vars _ hm
 have hal:=hs.asg _ hm _ (List.getElem_mem hi)
 have e1:ps[p]?=some ps[p]:=List.getElem?_eq_getElem hp
 have e2:ps[p].evs[i]?=some ps[p].evs[i]:=List.getElem?_eq_getElem hi
 generalize hx:ps[p]=x at *
 generalize hev:x.evs[i]=e at *
 refine PC.enter 82 [.tmp 6] [3,4,5,7,10] Proofs.Tryz.func193 rfl rfl rfl rfl rfl (by simp) (AWp.of ?_);simp only[go_sem]
 refine Sd ?_
 refine AWp.of ?_;simp only[go_sem,getD_map hp,hx]
 refine Sd ?_
 intros
 refine AWp.of ?_;simp only[go_sem,getD_map hp,hx]
 refine AWp.cut [3,4,5,7,8] (fun vs L=>L=[]∧vs=[.rp 1 [aTr ps] 0 0,.rp 2 [aEid (p,(i:Int)+1)] 0 0,.rp 5 [aEv e] 0 0,.rp 3 [aPr x] 0 0,ai (lastT x.evs i)]) ?_ ?_
 ·repeat(first|((with_reducible refine AWp.ofC ?_ ?_);exact rfl;simp only[go_sem,getD_map hp])|((with_reducible refine an ?_ ?_);exact Au))
  refine⟨fun h => ?_,fun h => ?_⟩
  ·have e3:((i:Int)+1 - 2).toNat=i - 1:=by omega
   have h4:i - 1<x.evs.length:=by omega
   simp only[go_sem,e3,getD_map h4]
   refine Sd ?_
   refine⟨[],List.Sublist.refl _,rfl,?_⟩
   simp only[lastT,List.getElem?_eq_getElem h4];rw[if_neg (by omega)]
  ·refine⟨[],List.Sublist.refl _,rfl,?_⟩
   simp only[lastT];rw[if_pos (by omega)]
 ·rintro vs L' - ⟨rfl,rfl⟩
  simp only[go_sem]
  have ex:evF ps p i=if !formedI ps.length p e then 3 else if !inI e.time 0 1099511627776 || decide (e.time<lastT x.evs i) then 11 else if 8<e.asg.length then 5 else fstF (asgF x.vars.length e.asg) e.asg.length:=by
   simp only[evF,e1,e2]
  refine Wk ?_
  refine Sd ?_
  refine(trace_formed ps hs p e).val.use ?_;simp only[go_sem]
  refine Wk ?_
  refine⟨fun h1 => ?_,fun h1 => ?_⟩
  ·refine Wk ?_
   refine ret_eq ?_;simp only[go_sem]
   rw[ex,if_pos (by simp [h1])]
  ·refine Wk ?_
   refine Sd ?_
   refine(trace_in _ _ _).val.use ?_;simp only[go_sem]
   refine Wk ?_
   refine⟨fun h2 => ?_,fun h2 h3 => ?_⟩
   ·refine Wk ?_
    refine ret_eq ?_;simp only[go_sem]
    rw[ex,if_neg (by rw[h1];decide),if_pos (by rcases h2 with h2|h2;(rw[h2];rfl);(rw[decide_eq_true h2,Bool.or_true]))]
   ·have c1:¬((!formedI ps.length p e)=true):=by rw[h1];decide
    have c2:¬((!inI e.time 0 1099511627776 || decide (e.time<lastT x.evs i))=true):=by rw[h2,decide_eq_false h3];decide
    refine Wk ?_
    refine⟨fun h4 => ?_,fun h4 => ?_⟩
    ·refine Wk ?_
     refine ret_eq ?_;simp only[go_sem]
     rw[ex,if_neg c1,if_neg c2,if_pos (by omega)]
    ·refine Wk ?_
     have ex:evF ps p i=fstF (asgF x.vars.length e.asg) e.asg.length:=by rw[ex,if_neg c1,if_neg c2,if_neg (by omega)]
     refine AWp.range' e.asg.length [] [5,7,52,53] (fun k vs L=>L=[]∧∀i,i<k→asgF x.vars.length e.asg i=0) (by omega) rfl rfl rfl ⟨rfl,by omega⟩ ?_ ?_
     ·rintro k vs L' hk hvs ⟨rfl,hI⟩
      simp only[go_sem]
      have e3:e.asg[k]?=some e.asg[k]:=List.getElem?_eq_getElem hk
      refine Sd ?_
      refine AWp.of ?_;simp only[go_sem,getD_map hk]
      refine Sd ?_
      intros
      refine AWp.of ?_;simp only[go_sem]
      refine Sd ?_
      refine(trace_in _ _ _).val.use ?_;simp only[go_sem]
      refine Sd ?_
      refine GCall.use (ab (inI e.asg[k].2 (-1073741824) 1073741824)) (fun _=>⟨At,(trace_in _ _ _).val.use ⟨rfl,rfl⟩⟩) ?_;simp only[go_sem]
      refine Wk ?_
      refine⟨fun h5 => ?_,fun h5 h6 => ?_⟩
      ·refine Wk ?_
       refine ret_eq ?_;simp only[go_sem]
       have hv:asgF x.vars.length e.asg k=2:=by simp only[asgF,e3];rw[if_pos (by simpa using h5)]
       rw[ex,fstF_hit hk hI (by rw[hv];decide),hv]
      ·refine Wk ?_
       refine Sd ?_
       refine(asgs_containsFunc (e.asg.take k) (take_le hal) (.clo 259 [.rp 2 [aAsg e.asg[k]] 0 0]) rfl (fun b=>decide (b.1=e.asg[k].1)) fun y _=>(trace_eventFault1 y e.asg[k]).clo).val.use ?_;simp only[go_sem]
       refine Wk ?_
       refine⟨fun h7 => ?_,fun h7 => ?_⟩
       ·refine Wk ?_
        refine ret_eq ?_;simp only[go_sem]
        have hv:asgF x.vars.length e.asg k=8:=by simp only[asgF,e3];rw[if_neg (by simp [h5,h6]),if_pos h7]
        rw[ex,fstF_hit hk hI (by rw[hv];decide),hv]
       ·refine⟨[],List.Sublist.refl _,rfl,fun i hi => ?_⟩
        by_cases e4:i=k
        ·subst e4;simp only[asgF,e3];rw[if_neg (by simp [h5,h6]),if_neg (by simp [h7])]
        ·exact hI i (by omega)
     ·rintro vs L' hvs ⟨rfl,hI⟩
      simp only[go_sem]
      refine Wk ?_
      refine ret_eq ?_;simp only[go_sem]
      rw[ex,fstF_none hI]
def evRow (p i:Nat):List Ev→List (Eid × Ev)
 | []=>[]
 | e :: r=>(((p:Int),(i:Int)+1),e) :: evRow p (i+1) r
def evFrom (p:Nat):List Pr→List (Eid × Ev)
 | []=>[]
 | x :: r=>evRow p 0 x.evs ++ evFrom (p+1) r
def evIds (ps:List Pr):List (Eid × Ev):=evFrom 0 ps
def off (ps:List Pr) (p:Nat):Nat:=((ps.take p).map fun x=>x.evs.length).sum
theorem evRow_length (p i:Nat) (l:List Ev):(evRow p i l).length=l.length:=by
 induction l generalizing i with
 | nil=>rfl
 | cons e r ih=>simp [evRow,ih]
theorem evRow_get (p i:Nat) (l:List Ev) (k:Nat):(evRow p i l)[k]?=(l[k]?).map fun e=>(((p:Int),(i:Int)+k+1),e):=by
 induction l generalizing i k with
 | nil=>simp [evRow]
 | cons e r ih =>
  cases k with
  | zero=>simp [evRow]
  | succ k =>
   simp only[evRow,List.getElem?_cons_succ,ih]
   cases r[k]? with
   | none=>rfl
   | some e=>simp;omega
theorem off_succ {ps:List Pr} {p:Nat} (hp:p<ps.length):off ps (p+1)=off ps p+ps[p].evs.length:=by
 unfold off
 rw[List.take_succ_eq_append_getElem hp,List.map_append,List.sum_append];rfl
theorem evFrom_get (q:Nat) (ps:List Pr) (p:Nat) (hp:p<ps.length) (i:Nat) (hi:i<ps[p].evs.length):(evFrom q ps)[off ps p+i]?=some ((((q+p:Nat):Int),(i:Int)+1),ps[p].evs[i]):=by
 induction ps generalizing q p with
 | nil=>simp at hp
 | cons x r ih =>
  cases p with
  | zero =>
   simp only[evFrom,off,List.take_zero,List.map_nil,List.sum_nil,Nat.zero_add]
   simp only[List.getElem_cons_zero] at hi
   rw[List.getElem?_append_left (by rw[evRow_length];exact hi),evRow_get,List.getElem?_eq_getElem hi]
   simp
  | succ p =>
   simp only[List.getElem_cons_succ] at hi ⊢
   simp only[List.length_cons,Nat.add_lt_add_iff_right] at hp
   have h:=ih (q+1) p hp hi
   simp only[evFrom]
   rw[List.getElem?_append_right (by rw[evRow_length];simp [off];omega),evRow_length]
   have e:off (x :: r) (p+1)+i - x.evs.length=off r p+i:=by simp [off];omega
   rw[e,h]
   congr 4;omega
theorem evIds_get {ps:List Pr} {p:Nat} (hp:p<ps.length) {i:Nat} (hi:i<ps[p].evs.length):(evIds ps)[off ps p+i]?=some (((p:Int),(i:Int)+1),ps[p].evs[i]):=by
 have:=evFrom_get 0 ps p hp i hi
 simpa [evIds] using this
theorem evIds_length (ps:List Pr):(evIds ps).length=off ps ps.length:=by
 have:∀q,(evFrom q ps).length=off ps ps.length:=by
  induction ps with
  | nil=>intro q;rfl
  | cons x r ih=>intro q;simp [evFrom,evRow_length,ih,off]
 exact this 0
theorem off_le {ps:List Pr} {p:Nat} (hp:p<ps.length):off ps p+ps[p].evs.length≤off ps ps.length:=by
 rw[← off_succ hp]
 unfold off
 rw[List.take_length]
 have h:ps=ps.take (p+1) ++ ps.drop (p+1):=(List.take_append_drop _ _).symm
 conv=>rhs;rw[h]
 rw[List.map_append,List.sum_append];omega
theorem evIds_inv {ps:List Pr} {k:Nat} {x:Eid × Ev} (h:(evIds ps)[k]?=some x):∃(p:Nat) (hp:p<ps.length) (i:Nat) (hi:i<ps[p].evs.length),k=off ps p+i∧x=(((p:Int),(i:Int)+1),ps[p].evs[i]):=by
 have hk:k<off ps ps.length:=by rw[← evIds_length];exact(List.getElem?_eq_some_iff.1 h).1
 have key:∀n,n≤ps.length→k<off ps n→∃(p:Nat) (hp:p<ps.length) (i:Nat) (hi:i<ps[p].evs.length),k=off ps p+i:=by
  intro n
  induction n with
  | zero=>intro _ h;simp [off] at h
  | succ n ih =>
   intro hn hlt
   by_cases hc:k<off ps n
   ·exact ih (by omega) hc
   ·rw[off_succ (by omega)] at hlt
    exact⟨n,by omega,k - off ps n,by omega,by omega⟩
 obtain⟨p,hp,i,hi,rfl⟩:=key _ (Nat.le_refl _) hk
 rw[evIds_get hp hi] at h
 exact⟨p,hp,i,hi,rfl,(Option.some.inj h).symm⟩
def evArgs (ps:List Pr):List (List AV):=(evIds ps).map fun x=>[aEid x.1,aEv x.2]
theorem evArgs_inv {ps:List Pr} {k:Nat} {x:List AV} (h:(evArgs ps)[k]?=some x) :
  ∃(p:Nat) (hp:p<ps.length) (i:Nat) (hi:i<ps[p].evs.length),k=off ps p+i∧(evIds ps)[k]?=some (((p:Int),(i:Int)+1),ps[p].evs[i])∧x=[aEid (p,(i:Int)+1),aEv ps[p].evs[i]]:=by
 unfold evArgs at h
 rw[List.getElem?_map,Option.map_eq_some_iff] at h
 obtain⟨a,ha,rfl⟩:=h
 obtain⟨p,hp,i,hi,e1,rfl⟩:=evIds_inv ha
 exact⟨p,hp,i,hi,e1,ha,rfl⟩
theorem trace_events (ps:List Pr):PC Proofs.Tryz.prog 192 [aTr ps] (.clo 256 [.rp 1 [aTr ps] 0 0]):=by
 refine PC.enter 4 [.tmp 2] [1] Proofs.Tryz.func192 rfl rfl rfl rfl rfl (by simp) (AWp.of ?_);simp only[go_sem]
 refine Wk ?_
 refine ret_eq ?_;simp only[go_sem]
theorem trace_events1 (ps:List Pr) (hs:Sm ps):IterC Proofs.Tryz.prog (.clo 256 [.rp 1 [aTr ps] 0 0]) (evArgs ps):=by
 intro y L I S hy h0 step
 refine MCalls.clo ?_
 simp only[List.cons_append,List.nil_append]
 have hl:=hs.procs
 have step':∀(p:Nat) (hp:p<ps.length) (i:Nat) (hi:i<ps[p].evs.length) L',I (off ps p+i) L'→MVal Proofs.Tryz.prog y [aEid (p,(i:Int)+1),aEv ps[p].evs[i]] L' fun r L''=>(r=ab true∧I (off ps p+i+1) L'')∨(r=ab false∧S L''):=fun p hp i hi L' hI=>by
  refine step (off ps p+i) _ L' ?_ hI
  unfold evArgs;rw[List.getElem?_map,evIds_get hp hi];rfl
 have hlen:(evArgs ps).length=off ps ps.length:=by unfold evArgs;rw[List.length_map,evIds_length]
 rw[hlen]
 refine MCalls.enter' 33 [] [4,6] Proofs.Tryz.func256 rfl rfl rfl rfl rfl (by simp) (AWp.of ?_);simp only[go_sem]
 refine AWp.range' ps.length [] [0,8,9] (fun k vs L=>I (off ps k) L) (by omega) rfl rfl rfl (by simpa [off] using h0) ?_ ?_
 ·rintro p vs L' hp - hI
  have hm:=List.getElem_mem hp
  have hel:=hs.evs _ hm
  simp only[go_sem]
  refine Sd ?_
  refine AWp.of ?_;simp only[go_sem,getD_map hp]
  refine Sd ?_
  intros
  refine AWp.of ?_;simp only[go_sem]
  refine AWp.range' ps[p].evs.length [] [0,3,8,9,10,16,17] (fun k vs L=>I (off ps p+k) L) (by omega) rfl rfl rfl hI ?_ ?_
  ·rintro i vs L' hi - hI
   simp only[go_sem]
   refine Sd ?_
   refine AWp.of ?_;simp only[go_sem,getD_map hi]
   refine Sd ?_
   intros
   refine AWp.of ?_;simp only[go_sem,hy]
   refine Sd ?_
   refine(step' p hp i hi L' hI).mono ?_
   rintro r L'' (⟨rfl,hI'⟩|⟨rfl,hS⟩)
   ·simp only[go_sem]
    refine Wk ?_
    exact⟨_,List.Sublist.refl _,hI'⟩
   ·simp only[go_sem]
    refine Wk ?_
    refine ret_own ?_
    simp only[go_sem]
    exact .inr hS
  ·rintro vs L' - hI
   simp only[go_sem]
   exact⟨_,List.Sublist.refl _,by rw[off_succ hp];exact hI⟩
 ·rintro vs L' - hI
  simp only[go_sem]
  refine Wk ?_
  refine ret_own ?_
  simp only[go_sem]
  exact .inl hI
def findIn (l:List (Eid × Ev)) (kind m:Int):Eid:=match l.find? (fun x=>decide (x.2.kind=kind) && decide (x.2.msg=m)) with|some x=>x.1|none=>(0,0)
def sendsB (ps:List Pr) (p m to:Int):Bool:=match ps[p.toNat]? with|some x=>x.evs.any fun e=>decide (e.kind=2) && decide (e.msg=m) && decide (e.peer=to)|none=>false
def pairF (ps:List Pr) (k:Nat):Int :=
 match (evIds ps)[k]? with
 | some (id,e) =>
  if e.kind=2 then if (findIn ((evIds ps).take k) 2 e.msg).2 > 0 then 8 else 0
  else if e.kind=3 then if (findIn ((evIds ps).take k) 3 e.msg).2 > 0 then 8 else if !sendsB ps e.peer e.msg id.1 then 7 else 0
  else 0
 | none=>0
def msgF (ps:List Pr):Option (Eid × Int) :=
 match (List.range (evIds ps).length).find? (fun k=>pairF ps k != 0) with
 | some k=>some ((((evIds ps)[k]?).map (·.1)).getD (0,0),pairF ps k)
 | none=>none
def Formed (ps:List Pr):Prop:=∀(p:Nat) (hp:p<ps.length),∀e ∈ ps[p].evs,formedI ps.length p e=true
def cellOf (l:List (Eid × Ev)) (j:Nat):AV :=
 ai (if j % 4=0 then (findIn l 2 (j / 4:Nat)).1 else if j % 4=1 then (findIn l 2 (j / 4:Nat)).2 else if j % 4=2 then (findIn l 3 (j / 4:Nat)).1 else (findIn l 3 (j / 4:Nat)).2)
def letCells (l:List (Eid × Ev)):List AV:=(List.range 800).map (cellOf l)
theorem letCells_nil:zrow 800 (ai 0)=letCells []:=by
 refine(List.eq_replicate_iff.2 ⟨by simp [letCells],fun x hx => ?_⟩).symm
 simp only[letCells,List.mem_map] at hx
 obtain⟨j,_,rfl⟩:=hx
 simp [cellOf,findIn]
theorem letCells_get (l:List (Eid × Ev)) {j:Nat} (h:j<800):(letCells l).getD j .any=cellOf l j:=by
 simp [letCells,List.getD_eq_getElem?_getD,h]
theorem letCells_from (l:List (Eid × Ev)) (m:Int) (h1:0≤m) (h2:m≤199):(letCells l).getD (m.toNat * 4+1) .any=ai (findIn l 2 m).2:=by
 rw[letCells_get l (by omega)];unfold cellOf
 rw[if_neg (by omega),if_pos (by omega),show ((m.toNat * 4+1) / 4:Nat)=m.toNat by omega,Int.toNat_of_nonneg h1]
theorem letCells_to (l:List (Eid × Ev)) (m:Int) (h1:0≤m) (h2:m≤199):(letCells l).getD (m.toNat * 4+2+1) .any=ai (findIn l 3 m).2:=by
 rw[letCells_get l (by omega)];unfold cellOf
 rw[if_neg (by omega),if_neg (by omega),if_neg (by omega),show ((m.toNat * 4+2+1) / 4:Nat)=m.toNat by omega,Int.toNat_of_nonneg h1]
theorem letCells_length (l:List (Eid × Ev)):(letCells l).length=800:=by simp [letCells]
theorem letCells_one (l:List (Eid × Ev)):(letCells l).all one=true:=by
 simp only[letCells,List.all_map,List.all_eq_true]
 intro x _;simp [cellOf,one,Value.oneCell']
theorem letCells_pair (l:List (Eid × Ev)) (m c:Nat) (hm:m<200) (hc:c=0∨c=2):((letCells l).drop (m * 4+c)).take 2=if c=0 then [ai (findIn l 2 m).1,ai (findIn l 2 m).2] else [ai (findIn l 3 m).1,ai (findIn l 3 m).2]:=by
 have h1:(letCells l).drop (m * 4+c)=cellOf l (m * 4+c) :: cellOf l (m * 4+c+1) :: (letCells l).drop (m * 4+c+2):=by
  rw[List.drop_eq_getElem_cons (by rw[letCells_length];omega),List.drop_eq_getElem_cons (by rw[letCells_length];omega)]
  simp [letCells]
 rw[h1]
 rcases hc with rfl|rfl
 ·simp [cellOf,show (m * 4+1) % 4=1 by omega,show (m * 4+1) / 4=m by omega]
 ·simp [cellOf,show (m * 4+2) % 4=2 by omega,show (m * 4+2) / 4=m by omega,show (m * 4+3) % 4=3 by omega,show (m * 4+3) / 4=m by omega]
theorem findIn_append (l:List (Eid × Ev)) (id:Eid) (e:Ev) (kind m:Int) (h:(findIn l kind m).2≤0) (hl:∀x ∈ l,0<x.1.2) :
  findIn (l ++ [(id,e)]) kind m=if e.kind=kind∧e.msg=m then id else findIn l kind m:=by
 unfold findIn at *
 rw[List.find?_append]
 cases hf:l.find? (fun x=>decide (x.2.kind=kind) && decide (x.2.msg=m)) with
 | some x=>rw[hf] at h;have:=hl x (List.mem_of_find?_eq_some hf);simp at h;omega
 | none =>
  by_cases hc:e.kind=kind∧e.msg=m
  ·simp [hc]
  ·rw[if_neg hc]
   have:(List.find? (fun x:Eid × Ev=>decide (x.2.kind=kind) && decide (x.2.msg=m)) [(id,e)])=none:=by
    rw[List.find?_eq_none];intro x hx;simp at hx;subst hx;simpa using hc
   rw[this];rfl
theorem findIn_append_ne (l:List (Eid × Ev)) (id:Eid) (e:Ev) (kind m:Int) (hne:¬(e.kind=kind∧e.msg=m)):findIn (l ++ [(id,e)]) kind m=findIn l kind m:=by
 unfold findIn
 rw[List.find?_append]
 have:(List.find? (fun x:Eid × Ev=>decide (x.2.kind=kind) && decide (x.2.msg=m)) [(id,e)])=none:=by
  rw[List.find?_eq_none];intro x hx;simp at hx;subst hx;simpa using hne
 rw[this];simp
theorem letCells_set (l:List (Eid × Ev)) (id:Eid) (e:Ev) (m c:Nat) (hm:m<200) (he:e.msg=m) (hc:c=0∧e.kind=2∨c=2∧e.kind=3) (h:(findIn l e.kind m).2≤0) (hl:∀x ∈ l,0<x.1.2) :
  splice (letCells l) (m * 4+c) [ai id.1,ai id.2]=letCells (l ++ [(id,e)]):=by
 apply List.ext_getElem?
 intro j
 rw[splice_get _ _ _ (by rw[letCells_length];simp;omega)]
 by_cases hj:j<800
 ·have g:∀l',(letCells l')[j]?=some (cellOf l' j):=fun l'=>by simp [letCells,hj]
  rw[g,g]
  by_cases hin:m * 4+c≤j∧j<m * 4+c+2
  ·rw[if_pos (by simpa using hin)]
   have hd:j / 4=m:=by omega
   rcases hc with ⟨rfl,hk⟩|⟨rfl,hk⟩
   ·rw[hk] at h
    have hf:=findIn_append l id e 2 m h hl
    rw[if_pos ⟨hk,he⟩] at hf
    rcases (show j=m * 4∨j=m * 4+1 by omega) with rfl|rfl
    ·simp [cellOf,hf]
    ·simp [cellOf,show (m * 4+1) % 4=1 by omega,show (m * 4+1) / 4=m by omega,hf]
   ·rw[hk] at h
    have hf:=findIn_append l id e 3 m h hl
    rw[if_pos ⟨hk,he⟩] at hf
    rcases (show j=m * 4+2∨j=m * 4+3 by omega) with rfl|rfl
    ·simp [cellOf,show (m * 4+2) % 4=2 by omega,show (m * 4+2) / 4=m by omega,hf]
    ·simp [cellOf,show (m * 4+3) % 4=3 by omega,show (m * 4+3) / 4=m by omega,hf,show m * 4+3 - (m * 4+2)=1 by omega]
  ·rw[if_neg (by simpa using hin)]
   congr 1
   have e2:j % 4<2→findIn (l ++ [(id,e)]) 2 (j / 4:Nat)=findIn l 2 (j / 4:Nat):=fun hj4=>findIn_append_ne _ _ _ _ _ (by rintro⟨h1,h2⟩;rw[he] at h2;rcases hc with ⟨rfl,hk⟩|⟨rfl,hk⟩ <;> omega)
   have e3:¬j % 4<2→findIn (l ++ [(id,e)]) 3 (j / 4:Nat)=findIn l 3 (j / 4:Nat):=fun hj4=>findIn_append_ne _ _ _ _ _ (by rintro⟨h1,h2⟩;rw[he] at h2;rcases hc with ⟨rfl,hk⟩|⟨rfl,hk⟩ <;> omega)
   unfold cellOf
   by_cases h4:j % 4<2
   ·rw[e2 h4]
    rcases (show j % 4=0∨j % 4=1 by omega) with h|h <;> simp [h]
   ·rw[e3 h4]
    rcases (show j % 4=2∨j % 4=3 by omega) with h|h <;> simp [h]
 ·have g:∀l',(letCells l')[j]?=none:=fun l'=>by simp [letCells];omega
  rw[g,g,if_neg (by simp;omega)]
theorem letCells_setA (l:List (Eid × Ev)) (a b:Int) (e:Ev) (h1:0≤e.msg) (h2:e.msg≤199) (hk:e.kind=2) (h:(findIn l 2 e.msg).2≤0) (hl:∀x ∈ l,0<x.1.2) :
  (letCells l).take (e.msg.toNat * 4) ++ [ai a,ai b] ++ (letCells l).drop (e.msg.toNat * 4+2)=letCells (l ++ [((a,b),e)]):=by
 have:=letCells_set l (a,b) e e.msg.toNat 0 (by omega) (by omega) (.inl ⟨rfl,hk⟩) (by rw[hk,Int.toNat_of_nonneg h1];exact h) hl
 rw[← this];rfl
theorem letCells_setB (l:List (Eid × Ev)) (a b:Int) (e:Ev) (h1:0≤e.msg) (h2:e.msg≤199) (hk:e.kind=3) (h:(findIn l 3 e.msg).2≤0) (hl:∀x ∈ l,0<x.1.2) :
  (letCells l).take (e.msg.toNat * 4+2) ++ [ai a,ai b] ++ (letCells l).drop (e.msg.toNat * 4+2+2)=letCells (l ++ [((a,b),e)]):=by
 have:=letCells_set l (a,b) e e.msg.toNat 2 (by omega) (by omega) (.inr ⟨rfl,hk⟩) (by rw[hk,Int.toNat_of_nonneg h1];exact h) hl
 rw[← this];rfl
theorem letCells_same (l:List (Eid × Ev)) (id:Eid) (e:Ev) (h2:e.kind ≠ 2) (h3:e.kind ≠ 3):letCells (l ++ [(id,e)])=letCells l:=by
 unfold letCells
 congr 1;funext j
 unfold cellOf
 rw[findIn_append_ne _ _ _ _ _ (by rintro⟨h,_⟩;exact h2 h),findIn_append_ne _ _ _ _ _ (by rintro⟨h,_⟩;exact h3 h)]
theorem evIds_pos (ps:List Pr):∀x ∈ evIds ps,0<x.1.2:=fun x hx=>by
 obtain⟨k,hk⟩:=List.getElem?_of_mem hx
 obtain⟨p,hp,i,hi,_,rfl⟩:=evIds_inv hk
 show (0:Int)<(i:Int)+1
 omega
theorem msgF_hit {ps:List Pr} {k:Nat} {x:Eid × Ev} (hx:(evIds ps)[k]?=some x) (h0:∀j,j<k→pairF ps j=0) (h:pairF ps k ≠ 0):msgF ps=some (x.1,pairF ps k):=by
 have:(List.range (evIds ps).length).find? (fun k=>pairF ps k != 0)=some k:=by
  rw[List.find?_range_eq_some]
  exact⟨by simpa using h,by simpa using (List.getElem?_eq_some_iff.1 hx).1,fun j hj=>by simpa using h0 j hj⟩
 unfold msgF;rw[this];simp only[hx];rfl
theorem msgF_none {ps:List Pr} (h:∀k,k<(evIds ps).length→pairF ps k=0):msgF ps=none:=by
 have:(List.range (evIds ps).length).find? (fun k=>pairF ps k != 0)=none:=by
  rw[List.find?_eq_none];intro i hi;simpa using h i (List.mem_range.1 hi)
 unfold msgF;rw[this]
def aLet (ps:List Pr):AV:=.rp 800 [.agg (letCells (evIds ps))] 0 0
def aMsg (ps:List Pr):AV:=match msgF ps with
 | some (id,e) => .tup [.v (.pointer none),aEid id,ai e]
 | none => .tup [aLet ps,aEid (0,0),ai 0]
attribute [irreducible] letCells
theorem formed_msg {n:Nat} {p:Int} {e:Ev} (h:formedI n p e=true) (hk:e.kind=2∨e.kind=3):0≤e.msg∧e.msg≤199∧0≤e.peer∧e.peer<n:=by
 unfold formedI at h
 rw[if_neg (by omega),if_pos hk] at h
 simp only[inI,Bool.and_eq_true,decide_eq_true_eq] at h
 omega
theorem trace_messageFault (ps:List Pr) (hs:Sm ps) (hf:Formed ps):PC Proofs.Tryz.prog 194 [aTr ps] (aMsg ps):=by
 refine PC.enter 64 [.cell 2 233,.cell 3 29,.cell 4 34] [1,5,6,7] Proofs.Tryz.func194 rfl rfl rfl rfl rfl (by simp) (AWp.of ?_);simp only[go_sem]
 intro b2
 intro b3 h3
 intro b4 h4 h4'
 have z:zrow 800 (ai 0)=letCells []:=letCells_nil
 refine Sd ?_
 refine AWp.of ?_;simp only[go_sem,z,letCells_length,letCells_one]
 intro b5 _ _ _ b6 _ _ _ _
 have n25:¬b2=b5:=by omega
 have n24:¬b2=b4:=by omega
 have n23:¬b2=b3:=by omega
 have n35:¬b3=b5:=by omega
 have n34:¬b3=b4:=by omega
 have n45:¬b4=b5:=by omega
 refine Sd ?_
 refine AWp.of ?_;simp only[go_sem]
 refine Sd ?_
 refine(trace_events ps).val.use ?_;simp only[go_sem]
 refine AWp.block (AWp.rangeFunc rfl [1,2,3,4,5] (evArgs ps) (fun k L=>L=[(b5,.row 297 800 [.agg (letCells ((evIds ps).take k))] 1),(b4,.row 34 1 [ai 0] 1),(b3,.row 29 2 [aEid (0,0)] 1),(b2,.row 233 1 [.v (.pointer none)] 1)]∧∀j,j<k→pairF ps j=0)
  (fun e L=>e = .ret∧∃id n,msgF ps=some (id,n)∧L=[(b4,.row 34 1 [ai n] 1),(b3,.row 29 2 [aEid id] 1),(b2,.row 233 1 [.v (.pointer none)] 1)])
  rfl (trace_events1 ps hs) (fun x hx=>by obtain⟨k,hk⟩:=List.getElem?_of_mem hx;obtain⟨_,_,_,_,_,_,rfl⟩:=evArgs_inv hk;rfl) ⟨by simp [aEid],by omega⟩ ?_ ?_ ?_)
 ·rintro k x L' l hx ⟨rfl,hI⟩
  obtain⟨p,hp,i,hi,hk,hev,rfl⟩:=evArgs_inv hx
  have hfe:=hf p hp _ (List.getElem_mem hi)
  have hm:=List.getElem_mem hp
  have htk:(evIds ps).take (k+1)=(evIds ps).take k ++ [(((p:Int),(i:Int)+1),ps[p].evs[i])]:=by
   rw[List.take_succ_eq_append_getElem (List.getElem?_eq_some_iff.1 hev).1];congr 2;exact(List.getElem?_eq_some_iff.1 hev).2
  have hl:∀x ∈ (evIds ps).take k,0<x.1.2:=fun x hx=>evIds_pos ps x (List.mem_of_mem_take hx)
  generalize ps[p].evs[i]=e at *
  generalize ht:(evIds ps).take k=tk at *
  have hpf:pairF ps k=if e.kind=2 then if (findIn tk 2 e.msg).2 > 0 then 8 else 0 else if e.kind=3 then if (findIn tk 3 e.msg).2 > 0 then 8 else if !sendsB ps e.peer e.msg p then 7 else 0 else 0:=by
   simp only[pairF,hev,ht]
  simp only[go_sem]
  refine Sd ?_
  refine AWp.of ?_;simp only[go_sem]
  refine Sd ?_
  intros
  refine AWp.of ?_;simp only[go_sem]
  refine Sd ?_
  intros
  refine AWp.of ?_;simp only[go_sem]
  refine Wk ?_
  refine⟨fun h1 => ?_,fun h1 => ?_⟩
  ·obtain⟨hm1,hm2,_,_⟩:=formed_msg hfe (.inl h1)
   have c1:=letCells_from tk e.msg hm1 hm2
   simp only[go_sem,c1]
   rw[if_pos h1] at hpf
   refine Wk ?_
   refine⟨fun h2 => ?_,fun h2 => ?_⟩
   ·refine AWp.drawnT mixed (.step 0 (.step 1 (.step 2 (.step 3 .done .done) .done) .done) (.step 1 (.step 0 (.step 2 (.step 3 .done .done) .done) .done) .done)) (by kernel_rfl) ?_;simp only[go_sem,n25,n24,n23,n35,n34,n45]
    refine Wk ?_
    rw[if_pos h2] at hpf
    exact⟨_,List.sublist_cons_self _ _,_,8,by rw[msgF_hit hev hI (by rw[hpf];decide),hpf],rfl⟩
   ·refine AWp.drawn mixed 6 (by kernel_rfl) ?_;simp only[go_sem]
    refine Sd ?_
    rw[if_neg h2] at hpf
    refine⟨_,List.Sublist.refl _,?_,?_⟩
    ·rw[letCells_setA tk p (i+1) e hm1 hm2 h1 (by omega) hl,htk]
    ·intro j hj
     by_cases hjk:j=k
     ·rw[hjk];exact hpf
     ·exact hI j (by omega)
  ·rw[if_neg h1] at hpf
   refine Wk ?_
   refine⟨fun h2 => ?_,fun h2 => ?_⟩
   ·obtain⟨hm1,hm2,hm3,hm4⟩:=formed_msg hfe (.inr h2)
    have c1:=letCells_to tk e.msg hm1 hm2
    rw[if_pos h2] at hpf
    simp only[go_sem,c1]
    refine Wk ?_
    refine⟨fun h3 => ?_,fun h3 => ?_⟩
    ·refine AWp.drawnT mixed (.step 0 (.step 1 (.step 2 (.step 3 .done .done) .done) .done) (.step 1 (.step 0 (.step 2 (.step 3 .done .done) .done) .done) .done)) (by kernel_rfl) ?_;simp only[go_sem,n25,n24,n23,n35,n34,n45]
     refine Wk ?_
     rw[if_pos h3] at hpf
     exact⟨_,List.sublist_cons_self _ _,_,8,by rw[msgF_hit hev hI (by rw[hpf];decide),hpf],rfl⟩
    ·rw[if_neg h3] at hpf
     refine Wk ?_
     have hpn:e.peer.toNat<ps.length:=by omega
     have hpe:((e.peer.toNat:Nat):Int)=e.peer:=Int.toNat_of_nonneg hm3
     have hsd:=trace_sends ps hs e.peer.toNat hpn e.msg p
     rw[hpe] at hsd
     have hsb:sendsB ps e.peer e.msg p=(ps[e.peer.toNat].evs.any fun x=>decide (x.kind=2) && decide (x.msg=e.msg) && decide (x.peer=p)):=by
      simp only[sendsB,List.getElem?_eq_getElem hpn]
     rw[← hsb] at hsd
     refine Sd ?_
     refine(hsd).val.use ?_;simp only[go_sem]
     refine Wk ?_
     refine⟨fun h4 => ?_,fun h4 => ?_⟩
     ·refine AWp.drawnT mixed (.step 0 (.step 1 (.step 2 (.step 3 .done .done) .done) .done) (.step 1 (.step 0 (.step 2 (.step 3 .done .done) .done) .done) .done)) (by kernel_rfl) ?_;simp only[go_sem,n25,n24,n23,n35,n34,n45]
      refine Wk ?_
      rw[if_pos (by simp [h4])] at hpf
      exact⟨_,List.sublist_cons_self _ _,_,7,by rw[msgF_hit hev hI (by rw[hpf];decide),hpf],rfl⟩
     ·refine AWp.drawn mixed 6 (by kernel_rfl) ?_;simp only[go_sem]
      refine Sd ?_
      rw[if_neg (by simp [h4])] at hpf
      refine⟨_,List.Sublist.refl _,?_,?_⟩
      ·rw[letCells_setB tk p (i+1) e hm1 hm2 h2 (by omega) hl,htk]
      ·intro j hj
       by_cases hjk:j=k
       ·rw[hjk];exact hpf
       ·exact hI j (by omega)
   ·rw[if_neg h2] at hpf
    refine⟨_,List.Sublist.refl _,?_,?_⟩
    ·rw[htk,letCells_same _ _ _ h1 h2]
    ·intro j hj
     by_cases hjk:j=k
     ·rw[hjk];exact hpf
     ·exact hI j (by omega)
 ·rintro L' ⟨rfl,hI⟩
  simp only[go_sem]
  refine W6 n25 n24 n23 n35 n34 n45 ?_
  have hlen:(evArgs ps).length=(evIds ps).length:=by unfold evArgs;rw[List.length_map]
  have hm:aMsg ps = .tup [aLet ps,aEid (0,0),ai 0]:=by
   unfold aMsg;rw[msgF_none (fun k hk=>hI k (by omega))]
  rw[hm]
  refine ret_view [true] ?_
  simp only[go_sem,n25,n24,n23,n35,n34,n45]
  refine Vw.mkTup (Vws.cons ?_ (Vws.refl _))
  unfold aLet
  rw[hlen,List.take_length]
  exact Vw.ofLp (if_pos rfl)
 ·rintro e L' ⟨he,id,n,hm,rfl⟩
  subst he
  show retK _ _ _ _ _
  have hm:aMsg ps = .tup [.v (.pointer none),aEid id,ai n]:=by unfold aMsg;rw[hm]
  rw[hm]
  refine ret_eq ?_
  simp only[go_sem,n25,n24,n23,n35,n34,n45]
attribute [go_sem] aLet
def afterL (ps:List Pr) (x:Eid):List Eid :=
 match ps[x.1.toNat]? with
 | some q=>match q.evs[(x.2 - 1).toNat]? with
  | some e=>(if x.2<q.evs.length then [(x.1,x.2+1)] else []) ++ (if e.kind=2∧0<(findIn (evIds ps) 3 e.msg).2 then [findIn (evIds ps) 3 e.msg] else [])
  | none=>[]
 | none=>[]
theorem formed_num {n:Nat} {p:Int} {e:Ev} (h:formedI n p e=true):0≤e.msg∧e.msg≤199:=by
 unfold formedI at h
 split at h
 ·simp only[Bool.and_eq_true,decide_eq_true_eq] at h;omega
 ·split at h
  ·simp only[inI,Bool.and_eq_true,decide_eq_true_eq] at h;omega
  ·cases h
theorem letCells_toP (l:List (Eid × Ev)) (m:Int) (h1:0≤m) (h2:m≤199):((letCells l).drop (m.toNat * 4+2)).take 2=[ai (findIn l 3 m).1,ai (findIn l 3 m).2]:=by
 have:=letCells_pair l m.toNat 2 (by omega) (.inr rfl)
 rw[if_neg (by decide),Int.toNat_of_nonneg h1] at this
 exact this
theorem trace_after (ps:List Pr) (hs:Sm ps) (hf:Formed ps) (p:Nat) (hp:p<ps.length) (i:Nat) (hi:i<ps[p].evs.length) :
  PC Proofs.Tryz.prog 261 [aTr ps,aLet ps,aEid (p,(i:Int)+1)] (aEids (afterL ps (p,(i:Int)+1))):=by
 have hfe:=hf p hp _ (List.getElem_mem hi)
 have hel:=hs.evs _ (List.getElem_mem hp)
 have ha:afterL ps (p,(i:Int)+1)=(if i+1<ps[p].evs.length then [((p:Int),(i:Int)+1+1)] else []) ++ (if ps[p].evs[i].kind=2∧0<(findIn (evIds ps) 3 ps[p].evs[i].msg).2 then [findIn (evIds ps) 3 ps[p].evs[i].msg] else []):=by
  simp only[afterL,Int.toNat_natCast,List.getElem?_eq_getElem hp,show ((i:Int)+1 - 1).toNat=i by omega,List.getElem?_eq_getElem hi]
  congr 1
  by_cases h:i+1<ps[p].evs.length
  ·rw[if_pos h,if_pos (by omega)]
  ·rw[if_neg h,if_neg (by omega)]
 generalize hx:ps[p]=q at *
 generalize he:q.evs[i]=e at *
 have e3:((i:Int)+1 - 1).toNat=i:=by omega
 unfold aLet
 refine PC.enter 62 [.tmp 6] [3,5,9,29,59] Proofs.Tryz.func261 rfl rfl rfl rfl rfl (by simp) (AWp.of ?_);simp only[go_sem]
 refine Sd ?_
 refine AWp.of ?_;simp only[go_sem]
 refine Sd ?_
 refine AWp.of ?_;simp only[go_sem,getD_map hp,hx]
 refine Sd ?_
 refine AWp.cut [1,5,7,8] (fun vs L=>∃v,vs=[.rp 800 [.agg (letCells (evIds ps))] 0 0,.rp 2 [aEid (p,(i:Int)+1)] 0 0,v,aEvs q.evs]∧AppSt 29 2 ((if i+1<q.evs.length then [((p:Int),(i:Int)+1+1)] else []).map aEid) v L) ?_ ?_
 ·refine Sd ?_
  refine AWp.of ?_;simp only[go_sem]
  refine Sd ?_
  refine AWp.of ?_;simp only[go_sem]
  refine⟨fun h => ?_,fun h => ?_⟩
  ·refine Sd ?_
   intro b cap _
   refine⟨_,List.Sublist.refl _,_,rfl,?_⟩
   rw[if_pos (by omega)]
   exact .row b _ cap
  ·refine⟨_,List.Sublist.refl _,_,rfl,?_⟩
   rw[if_neg (by omega)]
   exact .nil
 ·rintro vs L' - ⟨v,rfl,ha1⟩
  generalize hy1:(if i+1<q.evs.length then [((p:Int),(i:Int)+1+1)] else [])=y1 at *
  simp only[go_sem]
  obtain⟨hm1,hm2⟩:=formed_num hfe
  have c1:=letCells_to (evIds ps) e.msg hm1 hm2
  have c2:=letCells_toP (evIds ps) e.msg hm1 hm2
  refine Sd ?_
  refine AWp.of ?_;simp only[go_sem,e3,getD_map hi,he]
  refine Sd ?_
  intros
  refine AWp.seq ?_
  refine AWp.drawn mixed 10 (by kernel_rfl) ?_;simp only[go_sem,c1]
  refine Wk ?_
  refine⟨fun h1 h2 => ?_,fun h1 => ?_⟩
  ·rw[if_pos ⟨h1,h2⟩] at ha
   rcases ha1.inv with ⟨e1,rfl,rfl⟩|⟨b,cap,rfl,rfl⟩
   ·have e2:y1=[]:=by simpa using e1
    refine AWp.drawn mixed 9 (by kernel_rfl) ?_;simp only[go_sem,c1,c2]
    refine Sd ?_
    intro b' cap' _
    refine Wk ?_
    rw[ha,e2]
    refine ret_view [true] ?_;simp only[go_sem]
    exact Vw.ofLs (if_pos rfl) rfl
   ·have e2:y1.length≤1:=by rw[← hy1];split <;> simp
    refine AWp.drawn mixed 9 (by kernel_rfl) ?_;simp only[go_sem,c1,c2]
    refine Sd ?_
    intro b' cap' _
    refine Wk ?_
    rw[ha]
    refine ret_view [true] ?_;simp only[go_sem]
    rw[List.map_append]
    exact Vw.ofLs (if_pos rfl) (by simp)
  ·rw[if_neg (by rintro⟨h3,h4⟩;exact absurd h4 (h1 h3)),List.append_nil] at ha
   rw[ha]
   rcases ha1.inv with ⟨e1,rfl,rfl⟩|⟨b,cap,rfl,rfl⟩
   ·refine Wk ?_
    refine ret_view [] ?_;simp only[go_sem]
    rw[e1]
    exact .nil _
   ·refine Wk ?_
    refine ret_view [true] ?_;simp only[go_sem]
    exact Vw.ofLs (if_pos rfl) (by simp)
def VEv (ps:List Pr) (x:Eid):Prop:=∃(p:Nat) (hp:p<ps.length) (i:Nat) (_:i<ps[p].evs.length),x=((p:Int),(i:Int)+1)
def Nx (ps:List Pr) (x y:Eid):Prop:=y ∈ afterL ps x
def Reach (ps:List Pr):Eid→Eid→Prop:=Relation.TransGen (Nx ps)
theorem VEv.mem {ps:List Pr} {x:Eid} (h:VEv ps x):x ∈ (evIds ps).map (·.1):=by
 obtain⟨p,hp,i,hi,rfl⟩:=h
 exact List.mem_map.2 ⟨_,List.mem_of_getElem? (evIds_get hp hi),rfl⟩
theorem findIn_mem {l:List (Eid × Ev)} {kind m:Int} (h:0<(findIn l kind m).2):∃e,(findIn l kind m,e) ∈ l∧e.kind=kind∧e.msg=m:=by
 unfold findIn at *
 cases hf:l.find? (fun x=>decide (x.2.kind=kind) && decide (x.2.msg=m)) with
 | none=>rw[hf] at h;simp at h
 | some x =>
  have h1:=List.mem_of_find?_eq_some hf
  have h2:=List.find?_some hf
  simp only[Bool.and_eq_true,decide_eq_true_eq] at h2
  exact⟨x.2,h1,h2.1,h2.2⟩
theorem VEv.of_mem {ps:List Pr} {x:Eid × Ev} (h:x ∈ evIds ps):VEv ps x.1:=by
 obtain⟨k,hk⟩:=List.getElem?_of_mem h
 obtain⟨p,hp,i,hi,_,rfl⟩:=evIds_inv hk
 exact⟨p,hp,i,hi,rfl⟩
theorem Nx.valid {ps:List Pr} {x y:Eid} (h:Nx ps x y) (hx:VEv ps x):VEv ps y:=by
 obtain⟨p,hp,i,hi,rfl⟩:=hx
 unfold Nx afterL at h
 simp only[Int.toNat_natCast,List.getElem?_eq_getElem hp,show ((i:Int)+1 - 1).toNat=i by omega,List.getElem?_eq_getElem hi,List.mem_append] at h
 rcases h with h|h
 ·split at h
  ·simp only[List.mem_singleton] at h
   exact⟨p,hp,i+1,by omega,by rw[h];simp⟩
  ·cases h
 ·split at h
  ·rename_i hc
   simp only[List.mem_singleton] at h
   obtain⟨e,hm,_⟩:=findIn_mem hc.2
   rw[h];exact VEv.of_mem hm
  ·cases h
theorem Reach.valid {ps:List Pr} {x y:Eid} (h:Reach ps x y) (hx:VEv ps x):VEv ps y:=by
 induction h with
 | single h=>exact h.valid hx
 | tail _ h ih=>exact h.valid ih
open Classical in
noncomputable def cycF (ps:List Pr):Option Eid:=((evIds ps).find? fun x=>decide (Reach ps x.1 x.1)).map (·.1)
structure Dfs (ps:List Pr) (id:Eid) (x:Option Eid) (j:Nat) (rest seen:List Eid):Prop where
 reach:∀y ∈ seen,Reach ps id y
 sub:∀y ∈ rest,y=id∨y ∈ seen
 nid:id ∉ seen
 nodup:seen.Nodup
 closed:∀z,(z=id∨z ∈ seen)→z ∉ rest→x ≠ some z→∀y,Nx ps z y→y ∈ seen
 part:∀z,x=some z→(z=id∨z ∈ seen)∧∀i y,i<j→(afterL ps z)[i]?=some y→y ∈ seen
 size:rest.length+x.isSome.toNat≤seen.length+1
theorem Dfs.start (ps:List Pr) (id:Eid):Dfs ps id none 0 [id] [] :=
 ⟨by simp,by simp,by simp,.nil,fun z hz hn=>by simp at hz;subst hz;simp at hn,fun z h=>(by cases h),by simp⟩
theorem Dfs.pop {ps:List Pr} {id x:Eid} {rest seen:List Eid} (h:Dfs ps id none 0 (rest ++ [x]) seen):Dfs ps id (some x) 0 rest seen :=
 ⟨h.reach,fun y hy=>h.sub y (List.mem_append_left _ hy),h.nid,h.nodup,fun z hz hn hx=>h.closed z hz (by
   simp only[List.mem_append,List.mem_singleton,not_or]
   exact⟨hn,fun e=>hx (by rw[e])⟩) (by simp),fun z hz=>⟨by cases hz;exact h.sub x (by simp),fun i y hi=>by omega⟩,by have:=h.size;simp at this ⊢;omega⟩
theorem Dfs.skip {ps:List Pr} {id x y:Eid} {j:Nat} {rest seen:List Eid} (h:Dfs ps id (some x) j rest seen) (hy:(afterL ps x)[j]?=some y) (hs:y ∈ seen):Dfs ps id (some x) (j+1) rest seen :=
 ⟨h.reach,h.sub,h.nid,h.nodup,h.closed,fun z hz=>⟨(h.part z hz).1,fun i w hi hw=>by
  by_cases e:i=j
  ·subst e;cases hz;rw[hy] at hw;cases hw;exact hs
  ·exact(h.part z hz).2 i w (by omega) hw⟩,h.size⟩
theorem Dfs.push {ps:List Pr} {id x y:Eid} {j:Nat} {rest seen:List Eid} (h:Dfs ps id (some x) j rest seen) (hy:(afterL ps x)[j]?=some y) (hs:y ∉ seen) (hid:y ≠ id):Dfs ps id (some x) (j+1) (rest ++ [y]) (seen ++ [y]):=by
 have hnx:Nx ps x y:=List.mem_of_getElem? hy
 refine⟨fun z hz => ?_,fun z hz => ?_,?_,?_,fun z hz hn hx w hw => ?_,fun z hz => ?_,by have:=h.size;simp at this ⊢;omega⟩
 ·rcases List.mem_append.1 hz with hz|hz
  ·exact h.reach z hz
  ·simp only[List.mem_singleton] at hz;subst hz
   rcases (h.part x rfl).1 with e|hx
   ·subst e;exact .single hnx
   ·exact .tail (h.reach x hx) hnx
 ·rcases List.mem_append.1 hz with hz|hz
  ·rcases h.sub z hz with e|hz
   ·exact .inl e
   ·exact .inr (List.mem_append_left _ hz)
  ·exact .inr (List.mem_append_right _ hz)
 ·simp only[List.mem_append,List.mem_singleton,not_or];exact⟨h.nid,fun e=>hid e.symm⟩
 ·rw[List.nodup_append]
  exact⟨h.nodup,by simp,fun a ha b hb e=>by simp at hb;subst hb;subst e;exact hs ha⟩
 ·simp only[List.mem_append,List.mem_singleton,not_or] at hn
  refine List.mem_append_left _ (h.closed z ?_ hn.1 hx w hw)
  rcases hz with e|hz
  ·exact .inl e
  ·rcases List.mem_append.1 hz with hz|hz
   ·exact .inr hz
   ·simp only[List.mem_singleton] at hz;exact absurd hz hn.2
 ·refine⟨?_,fun i w hi hw => ?_⟩
  ·rcases (h.part z hz).1 with e|hz
   ·exact .inl e
   ·exact .inr (List.mem_append_left _ hz)
  ·by_cases e:i=j
   ·subst e;cases hz;rw[hy] at hw;cases hw;simp
   ·exact List.mem_append_left _ ((h.part z hz).2 i w (by omega) hw)
theorem Dfs.next {ps:List Pr} {id x:Eid} {rest seen:List Eid} (h:Dfs ps id (some x) (afterL ps x).length rest seen):Dfs ps id none 0 rest seen :=
 ⟨h.reach,h.sub,h.nid,h.nodup,fun z hz hn _ w hw=>by
  by_cases e:z=x
  ·subst e
   obtain⟨i,hi⟩:=List.getElem?_of_mem hw
   exact(h.part z rfl).2 i w (List.getElem?_eq_some_iff.1 hi).1 hi
  ·exact h.closed z hz hn (fun e'=>e (by cases e';rfl)) w hw,fun z hz=>(by cases hz),by have:=h.size;simp at this ⊢;omega⟩
theorem Dfs.found {ps:List Pr} {id x:Eid} {j:Nat} {rest seen:List Eid} (h:Dfs ps id (some x) j rest seen) (hy:(afterL ps x)[j]?=some id):Reach ps id id:=by
 have hnx:Nx ps x id:=List.mem_of_getElem? hy
 rcases (h.part x rfl).1 with e|hx
 ·subst e;exact .single hnx
 ·exact .tail (h.reach x hx) hnx
theorem Dfs.none {ps:List Pr} {id:Eid} {seen:List Eid} (h:Dfs ps id none 0 [] seen):¬Reach ps id id:=by
 have key:∀y,Reach ps id y→y ∈ seen:=fun y hy=>by
  induction hy with
  | single hn=>exact h.closed id (.inl rfl) (by simp) (by simp) _ hn
  | tail _ hn ih=>exact h.closed _ (.inr ih) (by simp) (by simp) _ hn
 exact fun hr=>h.nid (key id hr)
theorem Dfs.small {ps:List Pr} {id:Eid} {x:Option Eid} {j:Nat} {rest seen:List Eid} (h:Dfs ps id x j rest seen) (hv:VEv ps id):seen.length≤(evIds ps).length:=by
 have:=List.Nodup.length_le_of_subset h.nodup (l₂:=(evIds ps).map (·.1)) (fun y hy=>((h.reach y hy).valid hv).mem)
 simpa using this
theorem evIds_small {ps:List Pr} (hs:Sm ps):(evIds ps).length≤1000000000000:=by
 rw[evIds_length]
 have key:∀n,n≤ps.length→off ps n≤n * 1000000:=by
  intro n
  induction n with
  | zero=>intro _;simp [off]
  | succ n ih =>
   intro hn
   rw[off_succ (by omega)]
   have:=ih (by omega)
   have:=hs.evs _ (List.getElem_mem (show n<ps.length by omega))
   omega
 have:=key _ (Nat.le_refl _)
 have:=hs.procs
 omega
def eidV (x:Eid):Value:=.agg [Value.int .i64 x.1,Value.int .i64 x.2].toArray
def aSet (s:List Eid):ABlk:=.amap (s.map eidV) (s.map fun _=>ab true)
theorem keyB_eid (x y:Eid):keyB (eidV x) (eidV y)=decide (x=y):=by
 obtain⟨a,b⟩:=x
 obtain⟨c,d⟩:=y
 simp [keyB,eidV,veqs,veq]
theorem mfind_set (y:Eid) (s:List Eid):(mfind (eidV y) (s.map eidV)).isSome=decide (y ∈ s)∧∀i,mfind (eidV y) (s.map eidV)=some i→i<s.length:=by
 induction s with
 | nil=>exact⟨by simp [mfind],fun i h=>by simp [mfind] at h⟩
 | cons x s ih =>
  simp only[List.map_cons,mfind,keyB_eid,decide_eq_true_eq]
  by_cases h:y=x
  ·rw[if_pos h];exact⟨by simp [h],fun i hi=>by cases hi;simp⟩
  ·rw[if_neg h]
   cases hf:mfind (eidV y) (s.map eidV) with
   | none=>rw[hf] at ih;exact⟨by simp [h];simpa using ih.1,fun i hi=>by cases hi⟩
   | some k=>rw[hf] at ih;exact⟨by simp [h];simpa using ih.1,fun i hi=>by cases hi;simpa using ih.2 k rfl⟩
theorem mget_set (y:Eid) (s:List Eid):mget (eidV y) (s.map eidV) (s.map fun _=>ab true) (ab false)=ab (decide (y ∈ s)):=by
 obtain⟨h1,h2⟩:=mfind_set y s
 unfold mget
 cases hf:mfind (eidV y) (s.map eidV) with
 | none=>rw[hf] at h1;rw[← h1];rfl
 | some i =>
  rw[hf] at h1
  rw[← h1]
  show (List.map (fun _=>ab true) s).getD i .any=ab true
  rw[List.getD_eq_getElem?_getD]
  simp [h2 i hf]
theorem mput_set {y:Eid} {s:List Eid} (h:y ∉ s):mput (eidV y) (ab true) (s.map eidV) (s.map fun _=>ab true)=aSet (s ++ [y]):=by
 have h1:=(mfind_set y s).1
 unfold mput
 cases hf:mfind (eidV y) (s.map eidV) with
 | none=>simp [aSet]
 | some i=>rw[hf] at h1;simp [h] at h1
theorem fits_eid (y:Eid):(KK.st [.int,.int]).fits (eidV y)=true:=by simp [KK.fits,eidV,vfitss,SK.vfits]
theorem fits_set (s:List Eid):((s.map eidV).all (KK.st [.int,.int]).fits)=true:=by
 simp only[List.all_map,List.all_eq_true];intro x _;exact fits_eid x
theorem cycF_hit {ps:List Pr} {k:Nat} {x:Eid × Ev} (hx:(evIds ps)[k]?=some x) (h0:∀(j:Nat) (y:Eid × Ev),j<k→(evIds ps)[j]?=some y→¬Reach ps y.1 y.1) (h:Reach ps x.1 x.1):cycF ps=some x.1:=by
 unfold cycF
 obtain⟨hk,he⟩:=List.getElem?_eq_some_iff.1 hx
 have:(evIds ps).find? (fun x => @decide (Reach ps x.1 x.1) (Classical.propDecidable _))=some x:=by
  rw[List.find?_eq_some_iff_getElem]
  exact⟨by simpa using h,k,hk,he,fun j hj=>by simpa using h0 j _ hj (List.getElem?_eq_getElem (by omega))⟩
 rw[this];rfl
theorem cycF_none {ps:List Pr} (h:∀(j:Nat) (y:Eid × Ev),(evIds ps)[j]?=some y→¬Reach ps y.1 y.1):cycF ps=none:=by
 unfold cycF
 have:(evIds ps).find? (fun x => @decide (Reach ps x.1 x.1) (Classical.propDecidable _))=none:=by
  rw[List.find?_eq_none]
  intro y hy
  obtain⟨j,hj⟩:=List.getElem?_of_mem hy
  simpa using h j y hj
 rw[this];rfl
noncomputable def aCyc (ps:List Pr):AV:=match cycF ps with
 | some id => .tup [aEid id,ab true]
 | none => .tup [aEid (0,0),ab false]
def muCyc (N:Nat) (vs:List AV) (L:AHeap):Nat:=match vs,L with
 | .ls _ _ _ len _ :: _,_ :: (_,.amap ks _) :: _=>2 * (N - ks.length)+len
 | _,_=>0
theorem trace_cyclic (ps:List Pr) (hs:Sm ps) (hf:Formed ps):PC Proofs.Tryz.prog 195 [aTr ps,aLet ps] (aCyc ps):=by
 refine PC.enter 58 [.cell 4 29,.cell 5 4] [2,3,6,9,11,54] Proofs.Tryz.func195 rfl rfl rfl rfl rfl (by simp) (AWp.of ?_);simp only[go_sem]
 intro b4
 intro b5 h5
 refine Sd ?_
 refine AWp.of ?_;simp only[go_sem]
 refine Sd ?_
 refine(trace_events ps).val.use ?_;simp only[go_sem]
 refine AWp.block (AWp.rangeFunc rfl [2,3,4,5] (evArgs ps) (fun k L=>L=[(b5,.row 4 1 [ab false] 1),(b4,.row 29 2 [aEid (0,0)] 1)]∧∀(j:Nat) (y:Eid × Ev),j<k→(evIds ps)[j]?=some y→¬Reach ps y.1 y.1)
  (fun e L=>e = .ret∧∃id,cycF ps=some id∧L=[(b5,.row 4 1 [ab true] 1),(b4,.row 29 2 [aEid id] 1)])
  rfl (trace_events1 ps hs) (fun x hx=>by obtain⟨k,hk⟩:=List.getElem?_of_mem hx;obtain⟨_,_,_,_,_,_,rfl⟩:=evArgs_inv hk;rfl) ⟨by simp [aEid],by omega⟩ ?_ ?_ ?_)
 ·rintro k x L' l hx ⟨rfl,hI⟩
  obtain⟨p,hp,i,hi,hk,hev,rfl⟩:=evArgs_inv hx
  have hv:VEv ps ((p:Int),(i:Int)+1):=⟨p,hp,i,hi,rfl⟩
  generalize hid:(((p:Int),(i:Int)+1):Eid)=id at *
  have hid1:(p:Int)=id.1:=by rw[← hid]
  have hid2:(i:Int)+1=id.2:=by rw[← hid]
  simp only[go_sem]
  refine Sd ?_
  refine AWp.of ?_;simp only[go_sem]
  refine Sd ?_
  intros
  refine AWp.of ?_;simp only[go_sem]
  intro bm _ _
  refine Sd ?_
  refine AWp.of ?_;simp only[go_sem]
  intro bs _ _ _
  have n45:¬b4=b5:=by omega
  have nm5:¬bm=b5:=by omega
  have nm4:¬bm=b4:=by omega
  have nm5':¬b5=bm:=by omega
  have nm4':¬b4=bm:=by omega
  refine AWp.block (AWp.loop [8] [2,3,4,5,6,7] (fun vs L=>∃rest seen junk b cap,vs=[.ls b 2 0 rest.length cap]∧L=[(b,.row 29 2 ((rest ++ junk).map aEid) cap),(bm,aSet seen),(b5,.row 4 1 [ab false] 1),(b4,.row 29 2 [aEid (0,0)] 1)] ∧
   Dfs ps id none 0 rest seen∧rest.length≤cap∧b ≠ bm∧b ≠ b5∧b ≠ b4) (muCyc (evIds ps).length) ⟨[id],[],[],bs,1,rfl,rfl,Dfs.start ps id,by simp,by omega,by omega,by omega⟩ ?_)
  rintro vs L' - ⟨rest,seen,junk,b,cap,rfl,rfl,hd,hcap,n1,n2,n3⟩
  have n1':¬bm=b:=fun e=>n1 e.symm
  have n2':¬b5=b:=fun e=>n2 e.symm
  have n3':¬b4=b:=fun e=>n3 e.symm
  simp only[go_sem]
  refine Wk ?_
  refine⟨fun h1 => ?_,fun h1 => ?_⟩
  ·have hne:rest ≠ []:=by rintro rfl;simp at h1
   obtain⟨r,x,rfl⟩:∃r x,rest=r ++ [x]:=⟨rest.dropLast,rest.getLast hne,(List.dropLast_concat_getLast hne).symm⟩
   clear hne h1
   have hlen:(r ++ [x]).length=r.length+1:=by simp
   have hL:(r ++ [x]) ++ junk=r ++ (x :: junk):=by simp
   rw[hlen] at hcap
   simp only[hlen,hL]
   have e1:((r.length+1:Nat):Int) - 1=(r.length:Int):=by omega
   have e2:(List.map aEid (r ++ (x :: junk))).getD r.length .any=aEid x:=by simp [List.getD_eq_getElem?_getD]
   have hvx:VEv ps x:=by
    rcases hd.sub x (by simp) with e|hx
    ·rw[e];exact hv
    ·exact(hd.reach x hx).valid hv
   obtain⟨px,hpx,ix,hix,hxe⟩:=hvx
   have hdp:=hd.pop
   have hsm:=hdp.small hv
   have hsz:=hdp.size
   have hN:=evIds_small hs
   simp only[Option.isSome_some,Bool.toNat_true] at hsz
   have haf:=trace_after ps hs hf px hpx ix hix
   rw[← hxe] at haf
   have hal:(afterL ps x).length≤2:=by
    unfold afterL
    split
    ·split
     ·rw[List.length_append];split <;> split <;> simp
     ·simp
    ·simp
   refine Sd ?_
   refine AWp.of ?_;simp only[go_sem,e1,e2,n1',n2',n3']
   refine Sd ?_
   intros
   refine AWp.of ?_;simp only[go_sem,e1,e2,n1',n2',n3']
   refine Sd ?_
   refine AWp.of ?_;simp only[go_sem,e1,e2]
   refine Sd ?_
   refine(haf).val.use ?_;simp only[go_sem]
   refine AWp.range' (afterL ps x).length [8] [2,3,4,5,6,7,36,37] (fun j vs L=>∃rest seen' junk b cap,vs=[.ls b 2 0 rest.length cap]∧L=[(b,.row 29 2 ((rest ++ junk).map aEid) cap),(bm,aSet seen'),(b5,.row 4 1 [ab false] 1),(b4,.row 29 2 [aEid (0,0)] 1)] ∧
    Dfs ps id (some x) j rest seen'∧rest.length≤cap∧b ≠ bm∧b ≠ b5∧b ≠ b4∧2 * ((evIds ps).length - seen'.length)+rest.length≤2 * ((evIds ps).length - seen.length)+r.length) (by omega) rfl rfl rfl ⟨r,seen,x :: junk,b,cap,rfl,rfl,hdp,by omega,n1,n2,n3,Nat.le_refl _⟩ ?_ ?_
   ·rintro j vs L' hj - ⟨rest,seen',junk,b,cap,rfl,rfl,hd,hcap,n1,n2,n3,hmu⟩
    have n1':¬bm=b:=fun e=>n1 e.symm
    have n2':¬b5=b:=fun e=>n2 e.symm
    have n3':¬b4=b:=fun e=>n3 e.symm
    have hy:(afterL ps x)[j]?=some (afterL ps x)[j]:=List.getElem?_eq_getElem hj
    have hsm':=hd.small hv
    have hsz':=hd.size
    simp only[Option.isSome_some,Bool.toNat_true] at hsz'
    have hid3:∀y:Eid,(y.1=id.1∧y.2=id.2)=(y=id):=fun y=>by
     apply propext;constructor
     ·rintro⟨h1,h2⟩;exact Prod.ext h1 h2
     ·rintro rfl;exact⟨rfl,rfl⟩
    have hgd:(List.map aEid (afterL ps x)).getD j .any=aEid (afterL ps x)[j]:=getD_map hj
    have hkv:Value.agg [Value.int .i64 (afterL ps x)[j].1,Value.int .i64 (afterL ps x)[j].2].toArray=eidV (afterL ps x)[j]:=rfl
    generalize hyy:(afterL ps x)[j]=y at *
    have hg:=mget_set y seen'
    have hfk:=fits_eid y
    have hfs:=fits_set seen'
    simp only[go_sem]
    refine Sd ?_
    refine AWp.of ?_;simp only[go_sem,hgd]
    refine Sd ?_
    intros
    refine AWp.of ?_;simp only[go_sem]
    repeat(first|((with_reducible refine AWp.ofC ?_ ?_);exact rfl;simp only[go_sem,n1',n2',n3',n45,nm5,nm4,nm5',nm4'])|((with_reducible refine an ?_ ?_);exact Au))
    refine⟨fun h1 h2 => ?_,fun h1 => ?_⟩
    ·repeat(first|((with_reducible refine AWp.ofC ?_ ?_);exact rfl;simp only[go_sem,n1',n2',n3',n45,nm5,nm4,nm5',nm4'])|((with_reducible refine an ?_ ?_);exact Au))
     have hyi:y=id:=Prod.ext h1 h2
     rw[hyi] at hy
     refine⟨_,List.Sublist.cons _ (List.Sublist.cons _ (List.Sublist.refl _)),id,cycF_hit hev hI (hd.found hy),rfl⟩
    ·have hyn:y ≠ id:=by rintro rfl;exact h1 rfl rfl
     repeat(first|((with_reducible refine AWp.ofC ?_ ?_);exact rfl;simp only[go_sem,n1',n2',n3',n45,nm5,nm4,nm5',nm4',aSet,hkv,hfk,hfs,hg])|((with_reducible refine an ?_ ?_);exact Au))
     refine⟨fun h2 => ?_,fun h2 => ?_⟩
     ·have hp:=mput_set h2
      repeat(first|((with_reducible refine AWp.ofC ?_ ?_);exact rfl;simp only[go_sem,n1',n2',n3',n45,nm5,nm4,nm5',nm4',aSet,hkv,hfk,hfs,hg,hp])|((with_reducible refine an ?_ ?_);exact Au))
      refine Sd ?_
      intro b' cap' m1 m2 m3 m4
      refine⟨_,List.Sublist.refl _,rest ++ [y],seen' ++ [y],[],b',cap',?_,?_,hd.push hy h2 hyn,?_,fun e=>m1 e.symm,fun e=>m2 e.symm,fun e=>m3 e.symm,?_⟩
      ·simp
      ·simp [aEid]
      ·simpa using m4
      ·have:=(hd.push hy h2 hyn).small hv
       simp only[List.length_append,List.length_singleton] at this ⊢
       omega
     ·exact⟨_,List.Sublist.refl _,rest,seen',junk,b,cap,rfl,rfl,hd.skip hy h2,hcap,n1,n2,n3,hmu⟩
   ·rintro vs L' - ⟨rest,seen',junk,b,cap,rfl,rfl,hd,hcap,n1,n2,n3,hmu⟩
    simp only[go_sem]
    refine⟨_,List.Sublist.refl _,⟨rest,seen',junk,b,cap,rfl,rfl,hd.next,hcap,n1,n2,n3⟩,?_⟩
    simp only[muCyc,aSet,List.length_map]
    omega
  ·have hr:rest=[]:=by
    cases rest with
    | nil=>rfl
    | cons a r=>simp at h1
   subst hr
   refine⟨_,(List.Sublist.cons _ (List.Sublist.cons _ (List.Sublist.refl _))),rfl,fun j y hj hy => ?_⟩
   by_cases e:j=k
   ·subst e;rw[hev] at hy;cases hy;exact hd.none
   ·exact hI j y (by omega) hy
 ·rintro L' ⟨rfl,hI⟩
  have n45:¬b4=b5:=by omega
  simp only[go_sem]
  refine W1 n45 ?_
  have hm:aCyc ps = .tup [aEid (0,0),ab false]:=by
   unfold aCyc
   rw[cycF_none (fun j y hj=>hI j y (by unfold evArgs;rw[List.length_map];exact(List.getElem?_eq_some_iff.1 hj).1) hj)]
  rw[hm]
  refine ret_eq ?_
  simp only[go_sem,n45]
 ·rintro e L' ⟨he,id,hc,rfl⟩
  subst he
  show retK _ _ _ _ _
  have hm:aCyc ps = .tup [aEid id,ab true]:=by unfold aCyc;rw[hc]
  rw[hm]
  refine ret_eq ?_
  simp only[go_sem,show ¬b4=b5 by omega]
end Go.AL
end
