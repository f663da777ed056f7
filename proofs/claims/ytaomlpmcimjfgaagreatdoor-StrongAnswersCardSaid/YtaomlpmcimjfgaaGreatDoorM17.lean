/- Texts of this claim's proof: WV5, WFa, WFb, WGp, WGa, WV7, WXp, WV6, WU1. No condition. -/
import Derived.Test.YtaomlpmcimjfgaaGreatDoorM16
import Derived.Test.YtaomlpmcimjfgaaGreatDoorM15
import Derived.Test.YtaomlpmcimjfgaaGreatDoorM13
import Derived.Test.YtaomlpmcimjfgaaGreatDoorM11
import Derived.Test.YtaomlpmcimjfgaaGreatDoorM7
import Derived.Test.YtaomlpmcimjfgaaGreatDoorM10
section
namespace Go.AL
open Go Go.RowKit
set_option maxRecDepth 4000
attribute [go_sem] aStr
abbrev Spn3:=Int × Int × Int
def aStrs (ps:List Pr) (l:List Stp):AV:=.sl 4 (l.map (aStr ps))
def ckB (ps:List Pr) (l:List Stp) (i k:Nat):Bool:=decide (i ≠ k) && !bgN ps (l.getD i (0,0,0)) (l.getD k (0,0,0))
def clK (ps:List Pr) (l:List Stp) (i:Nat):Option Nat:=(List.range l.length).find? (ckB ps l i)
def clB (ps:List Pr) (g:Stp→Bool) (l:List Stp) (i:Nat):Bool:=g (l.getD i (0,0,0)) && (clK ps l i).isSome
def clI (ps:List Pr) (g:Stp→Bool) (l:List Stp):Option Nat:=(List.range l.length).find? (clB ps g l)
def aClash (ps:List Pr) (g:Stp→Bool) (l:List Stp):AV:=match clI ps g l with
 | some i=>match clK ps l i with
  | some k => .tup [ai i,ai k,ab true]
  | none => .tup [ai 0,ai 0,ab false]
 | none => .tup [ai 0,ai 0,ab false]
theorem getD3 {l:List Stp} {i:Nat} (h:i<l.length):l.getD i (0,0,0)=l[i]:=by rw[List.getD_eq_getElem?_getD,List.getElem?_eq_getElem h,Option.getD_some]
theorem clash_yes {ps:List Pr} {g:Stp→Bool} {l:List Stp} {i k:Nat} (hi:i<l.length) (hk:k<l.length) (hik:i ≠ k) (hg:g l[i]=true) (hb:bgN ps l[i] l[k]=false) (h1:∀k',k'<k→ckB ps l i k'=false)
  (h2:∀i',i'<i→clB ps g l i'=false):aClash ps g l = .tup [ai i,ai k,ab true]:=by
 have e1:clK ps l i=some k:=find_range_of hk (by unfold ckB;rw[getD3 hi,getD3 hk,hb,decide_eq_true hik];rfl) h1
 have e2:clI ps g l=some i:=find_range_of hi (by unfold clB;rw[getD3 hi,hg,e1];rfl) h2
 unfold aClash
 rw[e2];dsimp only;rw[e1]
theorem clash_no {ps:List Pr} {g:Stp→Bool} {l:List Stp} (h:∀i,i<l.length→clB ps g l i=false):clI ps g l=none∧aClash ps g l = .tup [ai 0,ai 0,ab false]:=by
 have e:clI ps g l=none:=find_range_no h
 unfold aClash
 rw[e];exact⟨rfl,rfl⟩
theorem clI_none {ps:List Pr} {g:Stp→Bool} {l:List Stp} (h:clI ps g l=none):∀i k (hi:i<l.length) (hk:k<l.length),i ≠ k→g l[i]=true→bgN ps l[i] l[k]=true:=fun i k hi hk hik hg=>by
 have h1:=find_range_none h i hi
 unfold clB at h1
 rw[getD3 hi,hg,Bool.true_and] at h1
 cases h2:clK ps l i with
 | some z=>rw[h2] at h1;cases h1
 | none =>
  have h3:=find_range_none h2 k hk
  unfold ckB at h3
  rw[getD3 hi,getD3 hk,decide_eq_true hik,Bool.true_and] at h3
  simpa using h3
theorem clI_some {ps:List Pr} {g:Stp→Bool} {l:List Stp} {i:Nat} (h:clI ps g l=some i):∃k,∃(hi:i<l.length) (hk:k<l.length),i ≠ k∧g l[i]=true∧bgN ps l[i] l[k]=false∧aClash ps g l = .tup [ai i,ai k,ab true]:=by
 obtain⟨hi,h1,_⟩:=find_range h
 unfold clB at h1
 rw[getD3 hi,Bool.and_eq_true] at h1
 obtain⟨k,hk⟩:=Option.isSome_iff_exists.1 h1.2
 obtain⟨hk1,h2,_⟩:=find_range hk
 unfold ckB at h2
 rw[getD3 hi,getD3 hk1,Bool.and_eq_true,decide_eq_true_eq] at h2
 refine⟨k,hi,hk1,h2.1,h1.1,by simpa using h2.2,?_⟩
 unfold aClash
 rw[h];dsimp only;rw[hk]
theorem strong_clash (ps:List Pr) (hs:Sm ps) (hv:validF ps=true) (l:List Stp) (hl:l.length≤1000000) (hin:∀s ∈ l,SpIn ps s) (gv:AV) (hgf:fo gv=(True,gv)) (g:Stp→Bool) (hg:∀s ∈ l,PV Proofs.Tryz.prog gv [aStr ps s] (ab (g s))) :
  PC Proofs.Tryz.prog 49 [aStrs ps l,gv] (aClash ps g l):=by
 have hyes:=fun i k hi hk hik h1 h2 h3 h4=>clash_yes (ps:=ps) (g:=g) (l:=l) (i:=i) (k:=k) hi hk hik h1 h2 h3 h4
 have hno:=fun h=>(clash_no (ps:=ps) (g:=g) (l:=l) h).2
 have hR:aStrs ps l = .sl 4 (l.map (aStr ps)):=rfl
 have hcK:∀i,i<l.length→(∀k,k<l.length→ckB ps l i k=false)→(clK ps l i).isSome=false:=fun i hi h=>by
  have:clK ps l i=none:=find_range_no h
  rw[this];rfl
 rw[hR]
 generalize aClash ps g l=R at *
 refine PC.enter 42 [.tmp 4,.tmp 5,.tmp 6] [8,10] Proofs.Tryz.func49 rfl rfl rfl rfl rfl (by simp) (AWp.of ?_);simp only[go_sem]
 repeat(first|((with_reducible refine AWp.ofC ?_ ?_);exact rfl;simp only[go_sem])|((with_reducible refine an ?_ ?_);exact Au))
 refine AWp.range' l.length [] [0,1,11,12] (fun i vs L=>L=[]∧∀i',i'<i→clB ps g l i'=false) (by omega) rfl rfl rfl ⟨rfl,fun _ h=>by omega⟩ ?_ ?_
 ·rintro i vs L hi - ⟨rfl,hI⟩
  have hgi:=getD_map (f:=aStr ps) hi
  have hgk:=hg l[i] (List.getElem_mem hi)
  have hini:=hin l[i] (List.getElem_mem hi)
  have hI2:(g l[i] && (clK ps l i).isSome)=false→∀i',i'<i+1→clB ps g l i'=false:=fun h i' hi'=>by
   by_cases e:i'=i
   ·subst e;unfold clB;rw[getD3 hi];exact h
   ·exact hI i' (by omega)
  simp only[go_sem] at hgk
  simp only[go_sem]
  repeat(first|((with_reducible refine AWp.ofC ?_ ?_);exact rfl;simp only[go_sem,hgi])|((with_reducible refine an ?_ ?_);exact Au))
  intros
  repeat(first|((with_reducible refine AWp.ofC ?_ ?_);exact rfl;simp only[go_sem,hgf])|((with_reducible refine an ?_ ?_);exact Au))
  repeat((with_reducible refine an ?_ ?_);exact As)
  refine(hgk).use ?_;simp only[go_sem]
  repeat(first|((with_reducible refine AWp.ofC ?_ ?_);exact rfl;simp only[go_sem])|((with_reducible refine an ?_ ?_);exact Au))
  refine⟨fun h1 => ?_,fun h1 => ?_⟩
  ·exact⟨_,List.Sublist.refl _,rfl,hI2 (by rw[h1];rfl)⟩
  ·repeat(first|((with_reducible refine AWp.ofC ?_ ?_);exact rfl;simp only[go_sem])|((with_reducible refine an ?_ ?_);exact Au))
   refine AWp.range' l.length [] [0,1,7,8,11,12,13,22,23] (fun k vs L=>L=[]∧∀k',k'<k→ckB ps l i k'=false) (by omega) rfl rfl rfl ⟨rfl,fun _ h=>by omega⟩ ?_ ?_
   ·rintro k vs L hk - ⟨rfl,hJ⟩
    have hgk2:=getD_map (f:=aStr ps) hk
    have hbg:=strong_begins ps hs hv l[i] l[k] hini (hin l[k] (List.getElem_mem hk))
    simp only[go_sem] at hbg
    have hJ2:(decide (i ≠ k) && !bgN ps l[i] l[k])=false→∀k',k'<k+1→ckB ps l i k'=false:=fun h k' hk'=>by
     by_cases e:k'=k
     ·subst e;unfold ckB;rw[getD3 hi,getD3 hk];exact h
     ·exact hJ k' (by omega)
    have hy:=hyes i k hi hk
    generalize bgN ps l[i] l[k]=B at *
    simp only[go_sem]
    repeat(first|((with_reducible refine AWp.ofC ?_ ?_);exact rfl;simp only[go_sem,hgk2])|((with_reducible refine an ?_ ?_);exact Au))
    intros
    repeat(first|((with_reducible refine AWp.ofC ?_ ?_);exact rfl;simp only[go_sem])|((with_reducible refine an ?_ ?_);exact Au))
    repeat((with_reducible refine an ?_ ?_);exact As)
    refine GCall.use (ab B) (fun _=>⟨At,(hbg).val.use ⟨rfl,rfl⟩⟩) ?_;simp only[go_sem]
    by_cases hik:i=k
    ·have hki:(i:Int)=(k:Int):=by omega
     repeat(first|((with_reducible refine AWp.ofC ?_ ?_);exact rfl;simp only[go_sem,hki])|((with_reducible refine an ?_ ?_);exact Au))
     exact⟨_,List.Sublist.refl _,rfl,hJ2 (by rw[decide_eq_false (by simpa using hik)];rfl)⟩
    ·have hki:¬(i:Int)=(k:Int):=by omega
     cases B with
     | true =>
      repeat(first|((with_reducible refine AWp.ofC ?_ ?_);exact rfl;simp only[go_sem,hki])|((with_reducible refine an ?_ ?_);exact Au))
      exact⟨_,List.Sublist.refl _,rfl,hJ2 (by simp)⟩
     | false =>
      rw[hy hik (by simpa using h1) rfl hJ hI]
      repeat(first|((with_reducible refine AWp.ofC ?_ ?_);exact rfl;simp only[go_sem,hki])|((with_reducible refine an ?_ ?_);exact Au))
      refine ret_eq ?_;simp only[go_sem]
   ·rintro vs L - ⟨rfl,hJ⟩
    have:=hcK i hi hJ
    simp only[go_sem]
    repeat(first|((with_reducible refine AWp.ofC ?_ ?_);exact rfl;simp only[go_sem])|((with_reducible refine an ?_ ?_);exact Au))
    exact⟨_,List.Sublist.refl _,rfl,hI2 (by rw[this,Bool.and_false])⟩
 ·rintro vs L - ⟨rfl,hI⟩
  rw[hno hI]
  simp only[go_sem]
  repeat(first|((with_reducible refine AWp.ofC ?_ ?_);exact rfl;simp only[go_sem])|((with_reducible refine an ?_ ?_);exact Au))
  refine ret_eq ?_;simp only[go_sem]
theorem strong_anyStretch (ps:List Pr) (s:Stp):PC Proofs.Tryz.prog 51 [aStr ps s] (ab true):=by
 have hR:aStr ps s = .agg [ai s.1,ai s.2.1,ai s.2.2,pastV ps s]:=rfl
 rw[hR]
 refine PC.enter 3 [.tmp 2] [1] Proofs.Tryz.func51 rfl rfl rfl rfl rfl (by simp) (AWp.of ?_);simp only[go_sem]
 repeat(first|((with_reducible refine AWp.ofC ?_ ?_);exact rfl;simp only[go_sem])|((with_reducible refine an ?_ ?_);exact Au))
 refine ret_eq ?_;simp only[go_sem]
end Go.AL
end
section
namespace Go.AL
open Go Go.RowKit
set_option maxRecDepth 4000
def BadI (n:Nat) (x:List Int) (i:Nat):Prop:=x.getD i 0<0∨(n:Int)<x.getD i 0∨(0<i∧x.getD i 0≤x.getD (i - 1) 0)
open Classical in
noncomputable def listsF (ps:List Pr) (l:List (List Int)):Int:=if validF ps=true∧l.length=ps.length then (if ∃p i,p<l.length∧i<(l.getD p []).length∧BadI (nev ps p) (l.getD p []) i then 2 else 0) else 1
end Go.AL
end
section
namespace Go.AL
open Go Go.RowKit
set_option maxRecDepth 4000
def LstOk (ps:List Pr) (l:List (List Int)) (E:Elim):Prop:=∀p (hp:p<l.length) (hpp:p<ps.length) k,k≤ps[p].evs.length→E.ok p k=decide ((k:Int) ∈ l[p])
def rowM (n:Nat) (x:List Int):List AV:=(List.range (n+1)).map fun (k:Nat)=>ab (decide ((k:Int) ∈ x))
noncomputable def aFirst (ps:List Pr) (l:List (List Int)) (E:Elim):AV:=if listsF ps l ≠ 0 then .tup [.sl 1 [],ai (listsF ps l)] else if lostF E=true then .tup [.sl 1 [],ai 7] else .tup [aInts (cutL E.n (finF E)),ai 0]
end Go.AL
end
section
namespace Go.AL
open Go Go.RowKit
set_option maxRecDepth 4000
def nowF (l:List (List Int)) (at':Nat→Nat) (q:Nat):Int:=(l.getD q []).getD (at' q) 0
def nowL (n:Nat) (l:List (List Int)) (at':Nat→Nat):List Int:=(List.range n).map (nowF l at')
def AtOk (ps:List Pr) (E:Elim) (l:List (List Int)) (a:Nat→Nat):Prop:=∀d,SatD ps E d→∀p,p<ps.length→∃i,a p≤i∧i<(l.getD p []).length∧(l.getD p []).getD i 0=cAt d p
section
variable {ps:List Pr} {E:Elim} {l:List (List Int)} {a:Nat→Nat}
end
end Go.AL
end
section
namespace Go.AL
open Go Go.RowKit
set_option maxRecDepth 4000
def fillA (n:Nat) (f:Nat→Int) (p:Nat):List AV:=(List.range n).map fun q=>ai (if q<p then f q else 0)
def mvF (a:Nat→Nat) (g:Nat→Bool) (p:Nat):Nat→Nat:=fun q=>if q<p∧g q=true then a q+1 else a q
theorem totS_le2 {c c':Nat→Nat} : ∀n,(∀q,q<n→c' q≤c q)→totS n c'≤totS n c
 | 0,_=>by simp [totS]
 | n+1,h=>by
  rw[totS_succ,totS_succ]
  have:=totS_le2 n fun q hq=>h q (by omega)
  have:=h n (by omega)
  omega
theorem totS_lt2 {c c':Nat→Nat} {p:Nat} : ∀n,(∀q,q<n→c' q≤c q)→p<n→c' p<c p→totS n c'<totS n c
 | 0,_,hp,_=>by omega
 | n+1,h,hp,hlt=>by
  rw[totS_succ,totS_succ]
  have h1:=h n (by omega)
  by_cases e:p=n
  ·subst e
   have:=totS_le2 p fun q hq=>h q (by omega)
   omega
  ·have:=totS_lt2 n (fun q hq=>h q (by omega)) (by omega) hlt
   omega
end Go.AL
end
section
namespace Go.AL
open Go Go.RowKit
set_option maxRecDepth 4000
def aRowsS (ps:List Pr) (n:Nat) (rows:Nat→List Stp):AV:=.sl 1 ((List.range n).map fun p=>aStrs ps (rows p))
noncomputable def aTight (ps:List Pr) (rows:Nat→List Stp):AV:=match tgtO ps rows with
 | some a => .tup [aStrs ps (chcL ps.length rows a),ab true]
 | none => .tup [aStrs ps [],ab false]
theorem aTight_some {ps:List Pr} {rows:Nat→List Stp} {a:Nat→Nat} (h:LeastS ps rows a):aTight ps rows = .tup [aStrs ps (chcL ps.length rows a),ab true]:=by
 obtain⟨a',h1,h2⟩:=tgtO_some h
 unfold aTight
 rw[h1];dsimp only;rw[chcL_congr h2]
theorem aTight_none {ps:List Pr} {rows:Nat→List Stp} (h:¬ ∃t,TgtS ps rows t):aTight ps rows = .tup [aStrs ps [],ab false]:=by
 unfold aTight;rw[tgtO_none h]
theorem rows_in {ps:List Pr} {b:Nat→Nat→Bool} {rows:Nat→List Stp} (hR:RowsOk ps b rows) {p:Nat} (hp:p<ps.length):∀s ∈ rows p,SpIn ps s:=fun s hs=>by
 obtain⟨h1,h2,h3,_⟩:=(hR p hp).el s hs
 exact⟨by rw[h1];exact hp,h2,by rw[h1];omega⟩
theorem chcL_in {ps:List Pr} {b:Nat→Nat→Bool} {rows:Nat→List Stp} (hR:RowsOk ps b rows) {n:Nat} (hn:n≤ps.length) {a:Nat→Nat} (ha:∀p,p<n→a p<(rows p).length):∀s ∈ chcL n rows a,SpIn ps s:=fun s hs=>by
 obtain⟨p,hp,rfl⟩:=List.mem_map.1 hs
 have hp:=List.mem_range.1 hp
 rw[fSp_eq (ha p hp)]
 exact rows_in hR (by omega) _ (List.getElem_mem _)
theorem chcL_succ (k:Nat) (rows:Nat→List Stp) (a:Nat→Nat):chcL (k+1) rows a=chcL k rows a ++ [fSp rows k (a k)]:=by unfold chcL;rw[List.range_succ,List.map_append];rfl
set_option maxHeartbeats 1000000 in
theorem strong_tight (ps:List Pr) (hs:Sm ps) (hv:validF ps=true) {b:Nat→Nat→Bool} {rows:Nat→List Stp} (hR:RowsOk ps b rows) (hlen:∀p,p<ps.length→(rows p).length≤1000000) :
  PC Proofs.Tryz.prog 40 [aRowsS ps ps.length rows] (aTight ps rows):=by
 obtain⟨hl1,hl8⟩:=valid_len hv
 have hmon:=mon_rows hR
 have hT1:=fun a h=>aTight_some (ps:=ps) (rows:=rows) (a:=a) h
 have hT2:=fun h=>aTight_none (ps:=ps) (rows:=rows) h
 have hin:=fun a ha=>chcL_in hR (Nat.le_refl ps.length) (a:=a) ha
 have hA:∀l,aStrs ps l = .sl 4 (l.map (aStr ps)):=fun _=>rfl
 obtain⟨RS,hRS⟩:∃RS,RS=(List.range ps.length).map fun p=>aStrs ps (rows p):=⟨_,rfl⟩
 have hRl:RS.length=ps.length:=by rw[hRS];simp
 have hRg:∀p,p<ps.length→RS.getD p .any = .sl 4 ((rows p).map (aStr ps)):=fun p hp=>by rw[hRS];exact map_range_getD hp _
 have hR0:aRowsS ps ps.length rows = .sl 1 RS:=by rw[hRS];rfl
 have hcl:=fun l hl hin=>strong_clash ps hs hv l hl hin (.v (.func (.func 51) #[] #[])) rfl (fun _=>true) (fun s _=>(strong_anyStretch ps s).val)
 rw[hR0]
 clear hR0 hRS
 generalize aTight ps rows=R at *
 refine PC.enter 54 [.tmp 2,.tmp 3] [36] Proofs.Tryz.func40 rfl rfl rfl rfl rfl (by simp) (AWp.of ?_);simp only[go_sem]
 repeat(first|((with_reducible refine AWp.ofC ?_ ?_);exact rfl;simp only[go_sem,hRl])|((with_reducible refine an ?_ ?_);exact Au))
 intro bA
 repeat(first|((with_reducible refine AWp.ofC ?_ ?_);exact rfl;simp only[go_sem])|((with_reducible refine an ?_ ?_);exact Au))
 refine AWp.block (AWp.loopN [] [0,4] (fun m vs L=>∃a:Nat→Nat,m=totS ps.length (fun p=>(rows p).length - a p)∧L=[(bA,.row 3 1 (dnA ps.length a) ps.length)]∧(∀t,TgtS ps rows t→∀p,p<ps.length→a p≤t p)∧∀p,p<ps.length→a p≤(rows p).length) (totS ps.length fun p=>(rows p).length - 0) ?_ ?_)
 ·refine⟨fun _=>0,rfl,?_,fun _ _ _ _=>Nat.zero_le _,fun _ _=>Nat.zero_le _⟩
  have:dnA ps.length (fun _=>0)=List.replicate ps.length (ai 0):=by unfold dnA;apply List.ext_getElem (by simp);intro i h1 h2;simp
  rw[this]
 rintro m vs L - ⟨a,rfl,rfl,hlow,hle⟩
 have hdl:=dnA_length ps.length a
 simp only[go_sem]
 repeat(first|((with_reducible refine AWp.ofC ?_ ?_);exact rfl;simp only[go_sem])|((with_reducible refine an ?_ ?_);exact Au))
 refine(AWp.range' ps.length [5] [0,4,14,15] (fun k vs L=>∃v Lq,vs=[v]∧L=Lq ++ [(bA,.row 3 1 (dnA ps.length a) ps.length)]∧AppSt 87 4 ((chcL k rows a).map (aStr ps)) v Lq∧(∀x ∈ Lq,x.1 ≠ bA)∧∀p,p<k→a p<(rows p).length) (by omega) rfl rfl rfl ⟨anil,[],rfl,rfl,.nil,by simp,fun _ h=>by omega⟩ ?_ ?_)
 ·rintro k vs L hk - ⟨v,Lq,rfl,rfl,hAp,hq,hlt⟩
  have gk:=dnA_get hk a
  have gR:=hRg k hk
  have hsu:=congrArg (List.map (aStr ps)) (chcL_succ k rows a)
  rw[List.map_append] at hsu
  have hyl:((chcL k rows a).map (aStr ps)).length=k:=by rw[List.length_map,chcL_len]
  have hfo:=hAp.fo
  have hlk:=hlen k hk
  have hak:=hle k hk
  by_cases he:a k=(rows k).length
  ·have hei:(a k:Int)=((rows k).length:Int):=by omega
   have hno:=tgt_none hlow hk (show (rows k).length≤a k by omega)
   rw[hT2 hno,hA]
   rcases hAp.inv with ⟨e1,rfl,rfl⟩|⟨bq,cap,rfl,rfl⟩
   ·simp only[go_sem,List.nil_append]
    repeat(first|((with_reducible refine AWp.ofC ?_ ?_);exact rfl;simp only[go_sem,gk,gR,hdl,hRl,hei])|((with_reducible refine an ?_ ?_);exact Au))
    refine ret_view [] ?_;simp only[go_sem]
    exact .mkTup (Vws.cons (.nil 4) (Vws.refl _))
   ·have nq:=hq (bq,.row 87 4 ((chcL k rows a).map (aStr ps)) cap) (by simp)
    simp only at nq
    have nq1:¬bA=bq:=fun e=>nq e.symm
    simp only[go_sem,List.cons_append,List.nil_append]
    repeat(first|((with_reducible refine AWp.ofC ?_ ?_);exact rfl;simp only[go_sem,gk,gR,hdl,hRl,hei,nq1])|((with_reducible refine an ?_ ?_);exact Au))
    refine ret_view [] ?_;simp only[go_sem]
    exact .mkTup (Vws.cons (.nil 4) (Vws.refl _))
  ·have hei:¬(a k:Int)=((rows k).length:Int):=by omega
   have hak2:a k<(rows k).length:=by omega
   have ge:=getD_map (f:=aStr ps) hak2
   rw[← fSp_eq hak2] at ge
   have hlt2:∀p,p<k+1→a p<(rows p).length:=fun p hp=>by
    by_cases e:p=k
    ·subst e;exact hak2
    ·exact hlt p (by omega)
   have es:[fSp rows k (a k)].map (aStr ps)=[aStr ps (fSp rows k (a k))]:=rfl
   rw[es] at hsu
   generalize hys:(chcL k rows a).map (aStr ps)=ys at *
   generalize fSp rows k (a k)=s at *
   rcases hAp.inv with ⟨e1,rfl,rfl⟩|⟨bq,cap,rfl,rfl⟩
   ·rw[e1] at hsu
    simp only[go_sem,List.nil_append]
    repeat(first|((with_reducible refine AWp.ofC ?_ ?_);exact rfl;simp only[go_sem,gk,gR,ge,hdl,hRl,hei])|((with_reducible refine an ?_ ?_);exact Au))
    intro b' cap' g8 g9
    have n3:¬b'=bA:=by omega
    have n4:¬bA=b':=by omega
    repeat(first|((with_reducible refine AWp.ofC ?_ ?_);exact rfl;simp only[go_sem,n3,n4])|((with_reducible refine an ?_ ?_);exact Au))
    refine⟨_,List.Sublist.refl _,.ls b' 4 0 1 cap',[(b',.row 87 4 ((chcL (k+1) rows a).map (aStr ps)) cap')],rfl,?_,?_,?_,hlt2⟩
    ·rw[hsu];rfl
    ·rw[hsu];exact .row _ _ _
    ·intro y hy;simp only[List.mem_singleton] at hy;subst hy;exact n3
   ·have nq:=hq (bq,.row 87 4 ys cap) (by simp)
    simp only at nq
    have nq1:¬bA=bq:=fun e=>nq e.symm
    simp only[go_sem,List.cons_append,List.nil_append]
    repeat(first|((with_reducible refine AWp.ofC ?_ ?_);exact rfl;simp only[go_sem,gk,gR,ge,hdl,hRl,hei,nq,nq1])|((with_reducible refine an ?_ ?_);exact Au))
    intro b' cap' g8 g9
    have n3:¬b'=bA:=by omega
    have n4:¬bA=b':=by omega
    repeat(first|((with_reducible refine AWp.ofC ?_ ?_);exact rfl;simp only[go_sem,n3,n4])|((with_reducible refine an ?_ ?_);exact Au))
    refine⟨_,List.Sublist.refl _,.ls b' 4 0 (ys.length+1) cap',[(b',.row 87 4 ((chcL (k+1) rows a).map (aStr ps)) cap')],rfl,?_,?_,?_,hlt2⟩
    ·rw[hsu];rfl
    ·rw[hsu];exact AppSt.snoc b' cap' _ rfl
    ·intro y hy;simp only[List.mem_singleton] at hy;subst hy;exact n3
 ·rintro vs L - ⟨v,Lq,rfl,rfl,hAp,hq,hlt⟩
  have hyl:((chcL ps.length rows a).map (aStr ps)).length=ps.length:=by rw[List.length_map,chcL_len]
  have hcl2:=hcl (chcL ps.length rows a) (by rw[chcL_len];omega) (hin a hlt)
  have hA2:aStrs ps (chcL ps.length rows a) = .sl 4 ((chcL ps.length rows a).map (aStr ps)):=rfl
  rcases hAp.inv with ⟨e1,_,_⟩|⟨bq,cap,rfl,rfl⟩
  ·rw[e1] at hyl;simp at hyl;omega
  have nq:=hq (bq,.row 87 4 ((chcL ps.length rows a).map (aStr ps)) cap) (by simp)
  simp only at nq
  have nq1:¬bA=bq:=fun e=>nq e.symm
  simp only[go_sem,List.cons_append,List.nil_append]
  repeat(first|((with_reducible refine AWp.ofC ?_ ?_);exact rfl;simp only[go_sem,chcL_len])|((with_reducible refine an ?_ ?_);exact Au))
  have hvw:∀xs,Vws [(bq,.row 87 4 ((chcL ps.length rows a).map (aStr ps)) cap),(bA,.row 3 1 (dnA ps.length a) ps.length)] (.ls bq 4 0 ps.length cap :: xs) (aStrs ps (chcL ps.length rows a) :: xs):=fun xs=>Vws.cons (Vw.ofLs (if_pos rfl) hyl.symm) (Vws.refl _)
  cases hc:clI ps (fun _=>true) (chcL ps.length rows a) with
  | none =>
   have hcE:aClash ps (fun _=>true) (chcL ps.length rows a) = .tup [ai 0,ai 0,ab false]:=by unfold aClash;rw[hc]
   have htgt:TgtS ps rows a:=⟨fun p hp=>hlt p hp,fun p q hp hq2 hpq=>by
    have:=clI_none hc p q (by rw[chcL_len];exact hp) (by rw[chcL_len];exact hq2) hpq rfl
    rw[chcL_get,chcL_get] at this
    exact this⟩
   rw[hcE] at hcl2
   rw[hT1 a ⟨htgt,hlow⟩,hA2]
   refine(PC.view (hvw _) hcl2 (Own.tup fun x hx=>by
    simp only[List.mem_cons,List.not_mem_nil,or_false] at hx
    rcases hx with rfl|rfl|rfl <;> exact Own.v _) ?_).val
   simp only[go_sem]
   repeat(first|((with_reducible refine AWp.ofC ?_ ?_);exact rfl;simp only[go_sem])|((with_reducible refine an ?_ ?_);exact Au))
   refine ret_view [true,false] ?_;simp only[go_sem]
   exact .mkTup (Vws.cons (Vw.ofLs (if_pos rfl) hyl.symm) (Vws.refl _))
  | some i =>
   obtain⟨k,hi,hk,hik,_,hb,hcE⟩:=clI_some hc
   rw[chcL_get,chcL_get] at hb
   rw[chcL_len] at hi hk
   have gk:=dnA_get hk a
   have hlow2:=tgt_step hmon hlow hi hk hik hb
   have hset:(dnA ps.length a).set k (ai ((a k:Int)+1))=dnA ps.length (updN a k (a k+1)):=dnA_set (by rw[updN_self];omega) fun q hq=>updN_ne hq
   have hlk:=hlen k hk
   have hak:=hlt k hk
   rw[hcE] at hcl2
   refine(PC.view (hvw _) hcl2 (Own.tup fun x hx=>by
    simp only[List.mem_cons,List.not_mem_nil,or_false] at hx
    rcases hx with rfl|rfl|rfl <;> exact Own.v _) ?_).val
   simp only[go_sem]
   repeat(first|((with_reducible refine AWp.ofC ?_ ?_);exact rfl;simp only[go_sem,nq1,gk,hdl])|((with_reducible refine an ?_ ?_);exact Au))
   refine⟨[(bA,_)],.cons _ (List.Sublist.refl _),_,?_,updN a k (a k+1),rfl,?_,?_,?_⟩
   ·refine totS_lt2 ps.length (p:=k) (fun q _ => ?_) hk ?_
    ·by_cases e:q=k
     ·subst e;rw[updN_self];omega
     ·rw[updN_ne e];exact Nat.le_refl _
    ·rw[updN_self];omega
   ·rw[hset]
   ·intro t ht p hp
    have:=hlow2 t ht p hp
    unfold updN
    split
    ·rename_i e;rw[if_pos e] at this;omega
    ·rename_i e;rw[if_neg e] at this;omega
   ·intro p hp
    by_cases e:p=k
    ·subst e;rw[updN_self];omega
    ·rw[updN_ne e];exact hle p hp
end Go.AL
end
section
namespace Go.AL
open Go Go.RowKit
set_option maxRecDepth 4000
noncomputable def spansF (ps:List Pr) (p:Nat) (t:Pd):List Stp:=spL (fun k:Nat=>lclT ps p t k) p (nev ps p+1)
noncomputable def aSpansR (ps:List Pr) (p:Int) (t:Pd):AV:=if lclF ps p 0 t=0 then .tup [.sl 3 ((spansF ps p.toNat t).map aStp),ai 0] else .tup [.sl 3 [],ai (lclF ps p 0 t)]
theorem last_get (d:List Stp) (x:Stp):((d ++ [x]).map aStp).getD (((d ++ [x]).map aStp).length - 1) .any=aStp x:=by
 rw[List.length_map,List.getD_eq_getElem?_getD,List.getElem?_map]
 simp
theorem last_set (d:List Stp) (x y:Stp):((d ++ [x]).map aStp).set (((d ++ [x]).map aStp).length - 1) (aStp y)=(d ++ [y]).map aStp:=by
 rw[List.length_map,List.map_append,List.map_append]
 simp
theorem conj_Spans (ps:List Pr) (hs:Sm ps) (p:Int) (t:Pd) (hz:szF t≤1000000):PC Proofs.Tryz.prog 73 [aTr ps,ai p,aPd t] (aSpansR ps p t):=by
 have h1:=evaluate_Truths ps hs p t hz
 have hl:=hs.procs
 unfold aTruths at h1
 unfold aSpansR
 by_cases he:lclF ps p 0 t=0
 ·rw[if_pos he] at h1 ⊢
  have hp0:0≤p:=by
   unfold lclF at he
   split at he
   ·rename_i h;exact absurd he h
   ·split at he
    ·cases he
    ·rename_i h;omega
  obtain⟨i,rfl⟩:∃i:Nat,p=i:=⟨p.toNat,by omega⟩
  rw[Int.toNat_natCast] at h1 ⊢
  obtain⟨_,hp,_,_,_,_⟩:=lcl_ok he
  have hel:=hs.evs _ (List.getElem_mem hp)
  unfold spansF
  rw[nev_get hp]
  rw[truthsF_nat hp,List.map_map] at h1
  obtain⟨b,hbd⟩:∃b:Nat→Bool,b=fun k:Nat=>lclT ps i t k:=⟨_,rfl⟩
  have hT:∀k,k<ps[i].evs.length+1→((List.range (ps[i].evs.length+1)).map (ab ∘ fun (k:Nat)=>lclT ps i t k)).getD k .any=ab (b k):=fun k hk=>by rw[hbd];exact map_range_getD hk _
  have hTl:((List.range (ps[i].evs.length+1)).map (ab ∘ fun (k:Nat)=>lclT ps i t k)).length=ps[i].evs.length+1:=by simp
  generalize (List.range (ps[i].evs.length+1)).map (ab ∘ fun (k:Nat)=>lclT ps i t k)=T at *
  rw[← hbd]
  clear hbd
  obtain⟨k0,n,pp,q,s,l⟩:=t
  simp only[aPd_mk] at *
  refine PC.enter 59 [.tmp 6,.tmp 7] [3,5,35] Proofs.Tryz.func73 rfl rfl rfl rfl rfl (by simp) (AWp.of ?_);simp only[go_sem]
  repeat(first|((with_reducible refine AWp.ofC ?_ ?_);exact rfl;simp only[go_sem])|((with_reducible refine an ?_ ?_);exact Au))
  repeat((with_reducible refine an ?_ ?_);exact As)
  refine(h1).val.use ?_;simp only[go_sem]
  repeat(first|((with_reducible refine AWp.ofC ?_ ?_);exact rfl;simp only[go_sem])|((with_reducible refine an ?_ ?_);exact Au))
  refine AWp.range' T.length [10] [1,8,23,24] (fun k vs L=>∃v,vs=[v]∧AppSt 57 3 ((spL b i k).map aStp) v L) (by omega) rfl rfl rfl ⟨anil,rfl,.nil⟩ ?_ ?_
  ·rintro k vs L' hk - ⟨v,rfl,hA⟩
   have g0:=hT k (by omega)
   have g1:=hT (k - 1) (by omega)
   have gk:((k:Int) - 1).toNat=k - 1:=by omega
   have hfo:=hA.fo
   cases hbk:b k with
   | false =>
    rw[hbk] at g0
    rw[spL_no hbk]
    simp only[go_sem]
    repeat(first|((with_reducible refine AWp.ofC ?_ ?_);exact rfl;simp only[go_sem,g0,hTl])|((with_reducible refine an ?_ ?_);exact Au))
    exact⟨_,List.Sublist.refl _,v,rfl,hA⟩
   | true =>
    rw[hbk] at g0
    simp only[go_sem]
    repeat(first|((with_reducible refine AWp.ofC ?_ ?_);exact rfl;simp only[go_sem,g0,g1,gk,hTl,hfo])|((with_reducible refine an ?_ ?_);exact Au))
    refine⟨fun h2 h3 => ?_,fun h2 => ?_⟩
    ·obtain⟨d,f,e1,e2⟩:=spL_on (b:=b) (p:=i) (k:=k) hbk (by rw[decide_eq_true (by omega),h3];rfl)
     rw[e1] at hA
     rw[e2]
     have gl:((d ++ [(i,f,k - 1)]).map aStp).getD (((d ++ [(i,f,k - 1)]).map aStp).length - 1) .any = .agg [ai i,ai f,ai ((k - 1:Nat):Int)]:=last_get d (i,f,k - 1)
     have gs:((d ++ [(i,f,k - 1)]).map aStp).set (((d ++ [(i,f,k - 1)]).map aStp).length - 1) (.agg [ai i,ai f,ai k])=(d ++ [(i,f,k)]).map aStp:=last_set d (i,f,k - 1) (i,f,k)
     have hyl:1≤((d ++ [(i,f,k - 1)]).map aStp).length:=by simp
     have hyk:=spL_len (b:=b) (p:=i) k
     rw[e1,← List.length_map (f:=aStp)] at hyk
     have hll:((d ++ [(i,f,k)]).map aStp).length=((d ++ [(i,f,k - 1)]).map aStp).length:=by simp
     generalize ((d ++ [(i,f,k - 1)]).map aStp)=ys at *
     generalize ((d ++ [(i,f,k)]).map aStp)=zs at *
     have gn:((ys.length:Int) - 1).toNat=ys.length - 1:=by omega
     rcases hA.inv with ⟨e3,_,_⟩|⟨bq,cap,rfl,rfl⟩
     ·rw[e3] at hyl;simp at hyl
     ·repeat(first|((with_reducible refine AWp.ofC ?_ ?_);exact rfl;simp only[go_sem])|((with_reducible refine an ?_ ?_);exact Au))
      simp only[go_sem,gl,gn,gs]
      repeat((with_reducible refine an ?_ ?_);exact As)
      refine⟨_,List.Sublist.refl _,_,rfl,?_⟩
      rw[← hll]
      exact .row _ _ _
    ·have e0:(decide (0<k) && b (k - 1))=false:=by
      by_cases h3:0<k
      ·rw[decide_eq_true h3,Bool.true_and];simpa using h2 (by omega)
      ·rw[decide_eq_false h3];rfl
     rw[spL_new hbk e0,List.map_append]
     have ea:[(i,k,k)].map aStp=[.agg [ai i,ai k,ai k]]:=rfl
     rw[ea]
     have hyl:=spL_len (b:=b) (p:=i) k
     rw[← List.length_map (f:=aStp)] at hyl
     generalize (spL b i k).map aStp=ys at *
     rcases hA.inv with ⟨e3,rfl,rfl⟩|⟨bq,cap,rfl,rfl⟩
     ·subst e3
      simp only[go_sem]
      repeat((with_reducible refine an ?_ ?_);exact As)
      intro b' cap' _
      refine⟨_,List.Sublist.refl _,_,rfl,?_⟩
      exact .row _ _ _
     ·simp only[go_sem]
      repeat((with_reducible refine an ?_ ?_);exact As)
      intro b' cap' _
      refine⟨_,List.Sublist.refl _,_,rfl,?_⟩
      have:=AppSt.row (t:=57) (k:=3) b' (ys ++ [.agg [ai i,ai k,ai k]]) cap'
      simpa using this
  ·rintro vs L' - ⟨v,rfl,hA⟩
   rw[hTl] at hA
   have hfo:=hA.fo
   rcases hA.inv with ⟨e3,rfl,rfl⟩|⟨bq,cap,rfl,rfl⟩
   ·simp only[go_sem]
    repeat(first|((with_reducible refine AWp.ofC ?_ ?_);exact rfl;simp only[go_sem])|((with_reducible refine an ?_ ?_);exact Au))
    refine ret_view [] ?_;simp only[go_sem]
    rw[e3]
    exact .mkTup (Vws.cons (.nil 3) (Vws.refl _))
   ·simp only[go_sem]
    repeat(first|((with_reducible refine AWp.ofC ?_ ?_);exact rfl;simp only[go_sem])|((with_reducible refine an ?_ ?_);exact Au))
    refine ret_view [true] ?_;simp only[go_sem]
    exact .mkTup (Vws.cons (Vw.ofLs (if_pos rfl) (List.length_map _).symm) (Vws.refl _))
 ·rw[if_neg he] at h1 ⊢
  generalize lclF ps p 0 t=e at *
  obtain⟨k0,n,pp,q,s,l⟩:=t
  simp only[aPd_mk] at *
  refine PC.enter 59 [.tmp 6,.tmp 7] [3,5,35] Proofs.Tryz.func73 rfl rfl rfl rfl rfl (by simp) (AWp.of ?_);simp only[go_sem]
  repeat(first|((with_reducible refine AWp.ofC ?_ ?_);exact rfl;simp only[go_sem])|((with_reducible refine an ?_ ?_);exact Au))
  repeat((with_reducible refine an ?_ ?_);exact As)
  refine(h1).val.use ?_;simp only[go_sem]
  repeat(first|((with_reducible refine AWp.ofC ?_ ?_);exact rfl;simp only[go_sem,he])|((with_reducible refine an ?_ ?_);exact Au))
  refine ret_view [] ?_;simp only[go_sem]
  exact .mkTup (Vws.cons (.nil 3) (Vws.refl _))
end Go.AL
end
section
namespace Go.AL
open Go Go.RowKit
set_option maxRecDepth 4000
def badSp (ps:List Pr) (s:Spn3):Bool:=decide (s.1<0) || (decide ((ps.length:Int)≤s.1) || (decide (s.2.1<0) || (decide (s.2.2<s.2.1) || decide ((nev ps s.1.toNat:Int)<s.2.2))))
def dupSp (l:List Spn3) (i:Nat):Bool:=(l.take i).any fun x=>decide (x.1=(l.getD i (0,0,0)).1)
noncomputable def gvnE (ps:List Pr) (l:List Spn3):Int:=if validF ps=true then (if 1000<l.length then 5 else if l.any (badSp ps)=true then 2 else if (List.range l.length).any (dupSp l)=true then 8 else 0) else 1
def spN (s:Spn3):Stp:=(s.1.toNat,s.2.1.toNat,s.2.2.toNat)
theorem strong_all (ps:List Pr) (hs:Sm ps) (hv:validF ps=true) (l:List Stp) (hl:l.length≤1000000) (hin:∀s ∈ l,SpIn ps s):PC Proofs.Tryz.prog 50 [aTr ps,.sl 3 (l.map aStp)] (aStrs ps l):=by
 have hA:aStrs ps l = .sl 4 (l.map (aStr ps)):=rfl
 rw[hA]
 refine PC.enter 22 [.tmp 4] [2,7,18] Proofs.Tryz.func50 rfl rfl rfl rfl rfl (by simp) (AWp.of ?_);simp only[go_sem]
 repeat(first|((with_reducible refine AWp.ofC ?_ ?_);exact rfl;simp only[go_sem])|((with_reducible refine an ?_ ?_);exact Au))
 refine AWp.range' l.length [5] [2,8,9] (fun k vs L=>∃v,vs=[v]∧AppSt 87 4 ((l.take k).map (aStr ps)) v L) (by omega) rfl rfl rfl ⟨anil,rfl,.nil⟩ ?_ ?_
 ·rintro k vs L hk - ⟨v,rfl,hAp⟩
  have hgk:=getD_map (f:=aStp) hk
  have hms:=strong_measured ps hs hv l[k] (hin _ (List.getElem_mem hk))
  have hfo:=hAp.fo
  have hyl:((l.take k).map (aStr ps)).length=k:=by rw[List.length_map,List.length_take];omega
  rw[List.take_succ_eq_append_getElem hk,List.map_append]
  have ea:[l[k]].map (aStr ps)=[aStr ps l[k]]:=rfl
  rw[ea]
  generalize l[k]=s at *
  obtain⟨p,f,t⟩:=s
  have hgk:(l.map aStp).getD k .any = .agg [ai p,ai f,ai t]:=hgk
  change PC _ _ [_,.agg [ai p,ai f,ai t]] _ at hms
  have hS:aStr ps (p,f,t) = .agg [ai p,ai f,ai t,pastV ps (p,f,t)]:=rfl
  rw[hS] at hms ⊢
  generalize (l.take k).map (aStr ps)=ys at *
  rcases hAp.inv with ⟨e3,rfl,rfl⟩|⟨bq,cap,rfl,rfl⟩
  ·subst e3
   simp only[go_sem]
   repeat(first|((with_reducible refine AWp.ofC ?_ ?_);exact rfl;simp only[go_sem,hgk])|((with_reducible refine an ?_ ?_);exact Au))
   intros
   repeat(first|((with_reducible refine AWp.ofC ?_ ?_);exact rfl;simp only[go_sem])|((with_reducible refine an ?_ ?_);exact Au))
   repeat((with_reducible refine an ?_ ?_);exact As)
   refine(hms).val.use ?_;simp only[go_sem]
   repeat(first|((with_reducible refine AWp.ofC ?_ ?_);exact rfl;simp only[go_sem])|((with_reducible refine an ?_ ?_);exact Au))
   intro b' cap' _
   exact⟨_,List.Sublist.refl _,_,rfl,.row _ _ _⟩
  ·simp only[go_sem]
   repeat(first|((with_reducible refine AWp.ofC ?_ ?_);exact rfl;simp only[go_sem,hgk])|((with_reducible refine an ?_ ?_);exact Au))
   intros
   repeat(first|((with_reducible refine AWp.ofC ?_ ?_);exact rfl;simp only[go_sem])|((with_reducible refine an ?_ ?_);exact Au))
   repeat((with_reducible refine an ?_ ?_);exact As)
   refine(hms).val.use ?_;simp only[go_sem]
   repeat(first|((with_reducible refine AWp.ofC ?_ ?_);exact rfl;simp only[go_sem])|((with_reducible refine an ?_ ?_);exact Au))
   intro b' cap' _
   refine⟨_,List.Sublist.refl _,_,rfl,?_⟩
   exact AppSt.snoc b' cap' _ rfl
 ·rintro vs L - ⟨v,rfl,hAp⟩
  rw[List.take_length] at hAp
  have hfo:=hAp.fo
  rcases hAp.inv with ⟨e3,rfl,rfl⟩|⟨bq,cap,rfl,rfl⟩
  ·simp only[go_sem]
   repeat(first|((with_reducible refine AWp.ofC ?_ ?_);exact rfl;simp only[go_sem])|((with_reducible refine an ?_ ?_);exact Au))
   refine ret_view [] ?_;simp only[go_sem]
   rw[e3]
   exact .nil 4
  ·simp only[go_sem]
   repeat(first|((with_reducible refine AWp.ofC ?_ ?_);exact rfl;simp only[go_sem])|((with_reducible refine an ?_ ?_);exact Au))
   refine ret_view [true] ?_;simp only[go_sem]
   exact Vw.ofLs (if_pos rfl) (List.length_map _).symm
def ovF (ps:List Pr) (l:List Stp):Bool:=(clI ps (fun _=>true) l).isNone
end Go.AL
end
section
namespace Go.AL
open Go Go.RowKit
set_option maxRecDepth 4000
theorem events_indexFuncB (l:List Ev) (hl:l.length≤9223372036854775807) (g:AV) (hgf:fo g=(True,g)) (p:Ev→Bool) (hg:∀x ∈ l,PV Proofs.Tryz.prog g [aEv x] (ab (p x))) :
  PC Proofs.Tryz.prog 69 [aEvs l,g] (ai (match l.findIdx? p with|some i=>(i:Int)|none => -1)):=by
 refine PC.enter 19 [.tmp 4] [] Proofs.Tryz.func69 rfl rfl rfl rfl rfl (by simp) (AWp.of ?_);simp only[go_sem]
 repeat((with_reducible refine an ?_ ?_);exact As)
 refine AWp.of ?_;simp only[go_sem]
 refine AWp.range1' l.length [] [0,1,7] (fun k vs L=>L=[]∧∀i (h:i<l.length),i<k→p l[i]=false) (by omega) rfl rfl rfl ⟨rfl,by omega⟩ ?_ ?_
 ·rintro k vs L' hk hvs ⟨rfl,hI⟩
  simp only[go_sem]
  repeat((with_reducible refine an ?_ ?_);exact As)
  refine AWp.of ?_;simp only[go_sem]
  have hgk:=hg l[k] (List.getElem_mem hk)
  try simp only[go_sem,aEv] at hgk
  repeat((with_reducible refine an ?_ ?_);exact As)
  refine AWp.of ?_;simp only[go_sem,getD_map hk,hgf,aEv]
  refine⟨⟨by omega,by omega⟩,hk,hgk.use (AWp.of ?_)⟩;simp only[go_sem]
  refine⟨fun ht => ?_,fun hf => ?_⟩
  ·repeat((with_reducible refine an ?_ ?_);exact As)
   refine AWp.of ?_;simp only[go_sem]
   refine ret_eq ?_;simp only[go_sem]
   have:l.findIdx? p=some k:=by rw[List.findIdx?_eq_some_iff_getElem];exact⟨hk,ht,fun j hj=>by simpa using hI j (by omega) hj⟩
   rw[this]
  ·refine⟨[],List.Sublist.refl _,rfl,fun i h hi => ?_⟩
   by_cases e:i=k
   ·subst e;exact hf
   ·exact hI i h (by omega)
 ·rintro vs L' hvs ⟨rfl,hI⟩
  simp only[go_sem]
  repeat((with_reducible refine an ?_ ?_);exact As)
  refine AWp.of ?_;simp only[go_sem]
  repeat((with_reducible refine an ?_ ?_);exact As)
  refine AWp.of ?_;simp only[go_sem]
  refine ret_eq ?_;simp only[go_sem]
  have:l.findIdx? p=none:=by rw[List.findIdx?_eq_none_iff];intro x hx;obtain⟨i,hi,rfl⟩:=List.getElem_of_mem hx;exact hI i hi hi
  rw[this]
theorem events_containsFuncB (l:List Ev) (hl:l.length≤9223372036854775807) (g:AV) (hgf:fo g=(True,g)) (p:Ev→Bool) (hg:∀x ∈ l,PV Proofs.Tryz.prog g [aEv x] (ab (p x))) :
  PC Proofs.Tryz.prog 32 [aEvs l,g] (ab (l.any p)):=by
 refine PC.enter 9 [.tmp 4] [] Proofs.Tryz.func32 rfl rfl rfl rfl rfl (by simp) (AWp.of ?_);simp only[go_sem]
 repeat((with_reducible refine an ?_ ?_);exact As)
 refine AWp.of ?_;simp only[go_sem,hgf]
 refine(events_indexFuncB l hl g hgf p hg).val.use ?_
 simp only[go_sem]
 repeat((with_reducible refine an ?_ ?_);exact As)
 refine AWp.of ?_;simp only[go_sem]
 refine ret_eq ?_;simp only[go_sem]
 congr 2;exact findIdx_any l p
theorem trace_FaultB (ps:List Pr) (hs:Smh ps) (hb:∃p,p<ps.length∧procF ps p ≠ 0):PC Proofs.Tryz.prog 104 [aTr ps] (aFault (faultF ps)):=by
 have hl:=hs.procs
 refine PC.enter 66 [.cell 2 135,.cell 3 34] [1,6,7,10,12] Proofs.Tryz.func104 rfl rfl rfl rfl rfl (by simp) (AWp.of ?_);simp only[go_sem]
 intro b2
 intro b3 h3
 have n23:¬b2=b3:=by omega
 repeat((with_reducible refine an ?_ ?_);exact As)
 refine AWp.of ?_;simp only[go_sem]
 repeat((with_reducible refine an ?_ ?_);exact As)
 refine(trace_in _ _ _).val.use ?_;simp only[go_sem]
 repeat(first|((with_reducible refine AWp.ofC ?_ ?_);exact rfl;simp only[go_sem,n23])|((with_reducible refine an ?_ ?_);exact Au))
 refine⟨fun h1 => ?_,fun h1 => ?_⟩
 ·repeat(first|((with_reducible refine AWp.ofC ?_ ?_);exact rfl;simp only[go_sem])|((with_reducible refine an ?_ ?_);exact Au))
  have hf:faultF ps=((0,0),1):=by unfold faultF;rw[if_pos (by simp [h1])]
  rw[hf]
  refine ret_eq ?_
  simp only[go_sem,n23]
 ·repeat(first|((with_reducible refine AWp.ofC ?_ ?_);exact rfl;simp only[go_sem])|((with_reducible refine an ?_ ?_);exact Au))
  refine AWp.range' ps.length [] [1,2,3,22] (fun k vs L=>L=[(b3,.row 34 1 [ai 0] 1),(b2,.row 135 2 [aEid (0,0)] 1)]∧∀j,j<k→procF ps j=0) (by omega) rfl rfl rfl ⟨rfl,by omega⟩ ?_ ?_
  ·rintro k vs L' hk - ⟨rfl,hI⟩
   simp only[go_sem]
   repeat((with_reducible refine an ?_ ?_);exact As)
   refine AWp.of ?_;simp only[go_sem]
   repeat(first|((with_reducible refine AWp.ofC ?_ ?_);exact rfl;simp only[go_sem])|((with_reducible refine an ?_ ?_);exact Au))
   repeat((with_reducible refine an ?_ ?_);exact As)
   refine(trace_processFaultH ps hs k hk).val.use ?_;simp only[go_sem]
   repeat(first|((with_reducible refine AWp.ofC ?_ ?_);exact rfl;simp only[go_sem,n23])|((with_reducible refine an ?_ ?_);exact Au))
   refine⟨fun h2 => ?_,fun h2 => ?_⟩
   ·repeat(first|((with_reducible refine AWp.ofC ?_ ?_);exact rfl;simp only[go_sem])|((with_reducible refine an ?_ ?_);exact Au))
    have hf:faultF ps=(((k:Int),0),procF ps k):=by unfold faultF;rw[if_neg (by simp [h1]),procFirst_hit hk hI h2]
    rw[hf]
    refine ret_eq ?_
    simp only[go_sem,n23]
   ·refine⟨_,List.Sublist.refl _,rfl,fun j hj => ?_⟩
    by_cases e:j=k
    ·rw[e];exact h2
    ·exact hI j (by omega)
  ·rintro vs L' - ⟨rfl,hI⟩
   obtain⟨p,hp,h⟩:=hb
   exact absurd (hI p hp) h
theorem ref12_FaultB (ps:List Pr) (hs:Smh ps) (hb:∃p,p<ps.length∧procF ps p ≠ 0):PC Proofs.Tryz.prog 80 [aTr ps] (aFault (faultF ps)):=by
 have hl:=hs.procs
 refine PC.enter 137 [.cell 2 135,.tmp 3] [1,11,15] Proofs.Tryz.func80 rfl rfl rfl rfl rfl (by simp) (AWp.of ?_);simp only[go_sem]
 intro b2
 repeat(first|((with_reducible refine AWp.ofC ?_ ?_);exact rfl;simp only[go_sem])|((with_reducible refine an ?_ ?_);exact Au))
 repeat(first|((with_reducible refine AWp.ofC ?_ ?_);exact rfl;simp only[go_sem])|((with_reducible refine an ?_ ?_);exact Au))
 refine⟨fun h1 => ?_,fun h1 => ?_⟩
 ·repeat(first|((with_reducible refine AWp.ofC ?_ ?_);exact rfl;simp only[go_sem])|((with_reducible refine an ?_ ?_);exact Au))
  have hf:faultF ps=((0,0),1):=by
   unfold faultF
   rw[if_pos]
   unfold inI
   rw[Bool.not_eq_true',← Bool.not_eq_true,Bool.and_eq_true,decide_eq_true_eq,decide_eq_true_eq]
   omega
  rw[hf]
  refine ret_eq ?_
  simp only[go_sem]
 ·intro h1'
  have hin:¬((!inI ps.length 1 8)=true):=by
   unfold inI
   rw[Bool.not_eq_true',← Bool.not_eq_true,Bool.and_eq_true,decide_eq_true_eq,decide_eq_true_eq]
   omega
  repeat(first|((with_reducible refine AWp.ofC ?_ ?_);exact rfl;simp only[go_sem])|((with_reducible refine an ?_ ?_);exact Au))
  refine AWp.block (AWp.count 4 ps.length [] [1,2] (fun k vs L=>L=[(b2,.row 135 2 [aEid (0,0)] 1)]∧∀j,j<k→procF ps j=0) rfl rfl ⟨by simp [aEid],by omega⟩ ?_)
  rintro k vs L hk - ⟨rfl,hI⟩
  simp only[go_sem]
  repeat(first|((with_reducible refine AWp.ofC ?_ ?_);exact rfl;simp only[go_sem])|((with_reducible refine an ?_ ?_);exact Au))
  refine⟨fun h2 => ?_,fun h2 => ?_⟩
  ·have hkp:k<ps.length:=by omega
   repeat(first|((with_reducible refine AWp.ofC ?_ ?_);exact rfl;simp only[go_sem])|((with_reducible refine an ?_ ?_);exact Au))
   repeat((with_reducible refine an ?_ ?_);exact As)
   refine(ref12_headH ps hs k hkp).val.use ?_;simp only[go_sem]
   repeat(first|((with_reducible refine AWp.ofC ?_ ?_);exact rfl;simp only[go_sem])|((with_reducible refine an ?_ ?_);exact Au))
   refine⟨fun h3 => ?_,fun h3 => ?_⟩
   ·repeat(first|((with_reducible refine AWp.ofC ?_ ?_);exact rfl;simp only[go_sem])|((with_reducible refine an ?_ ?_);exact Au))
    have hf:faultF ps=(((k:Int),0),procF ps k):=by unfold faultF;rw[if_neg hin,procFirst_hit hkp hI h3]
    rw[hf]
    refine ret_eq ?_
    simp only[go_sem]
   ·repeat(first|((with_reducible refine AWp.ofC ?_ ?_);exact rfl;simp only[go_sem])|((with_reducible refine an ?_ ?_);exact Au))
    refine⟨_,List.Sublist.refl _,rfl,fun j hj => ?_⟩
    by_cases e:j=k
    ·rw[e];exact h3
    ·exact hI j (by omega)
  ·obtain⟨p,hp,h⟩:=hb
   exact absurd (hI p (by omega)) h
theorem procF_evs {ps:List Pr} {p:Nat} (hp:p<ps.length) (h:64<ps[p].evs.length):procF ps p ≠ 0:=by
 have hpf:procF ps p=if !nameOk ps[p].name || (ps.take p).any (fun y=>decide (y.name=ps[p].name)) then 13 else if 8<ps[p].vars.length then 5 else
   if fstF (varF ps[p].vars) ps[p].vars.length ≠ 0 then fstF (varF ps[p].vars) ps[p].vars.length else if 64<ps[p].evs.length then 5 else 0:=by
  unfold procF;rw[List.getElem?_eq_getElem hp]
 rw[hpf]
 split
 ·decide
 ·split
  ·decide
  ·split
   ·assumption
   ·first|decide|(rw[if_pos h];decide)
theorem valid_bad {ps:List Pr} (hb:∃p,p<ps.length∧procF ps p ≠ 0):validF ps=false:=by
 cases hv:validF ps with
 | false=>rfl
 | true =>
  obtain⟨p,hp,h⟩:=hb
  exact absurd (procF_of_valid hv hp) h
theorem trace_ValidB (ps:List Pr) (hs:Smh ps) (hb:∃p,p<ps.length∧procF ps p ≠ 0):PC Proofs.Tryz.prog 72 [aTr ps] (ab (validF ps)):=by
 refine PC.enter 12 [.tmp 2] [1,3] Proofs.Tryz.func72 rfl rfl rfl rfl rfl (by simp) (AWp.of ?_);simp only[go_sem]
 repeat(first|((with_reducible refine AWp.ofC ?_ ?_);exact rfl;simp only[go_sem])|((with_reducible refine an ?_ ?_);exact Au))
 repeat((with_reducible refine an ?_ ?_);exact As)
 refine(trace_FaultB ps hs hb).val.use ?_;simp only[go_sem]
 repeat((with_reducible refine an ?_ ?_);exact As)
 intros
 refine AWp.of ?_;simp only[go_sem]
 repeat(first|((with_reducible refine AWp.ofC ?_ ?_);exact rfl;simp only[go_sem])|((with_reducible refine an ?_ ?_);exact Au))
 refine ret_eq ?_;simp only[go_sem]
 rfl
theorem ref12_ValidB (ps:List Pr) (hs:Smh ps) (hb:∃p,p<ps.length∧procF ps p ≠ 0):PC Proofs.Tryz.prog 42 [aTr ps] (ab (validF ps)):=by
 refine PC.enter 12 [.tmp 2] [1,3] Proofs.Tryz.func42 rfl rfl rfl rfl rfl (by simp) (AWp.of ?_);simp only[go_sem]
 repeat(first|((with_reducible refine AWp.ofC ?_ ?_);exact rfl;simp only[go_sem])|((with_reducible refine an ?_ ?_);exact Au))
 repeat((with_reducible refine an ?_ ?_);exact As)
 refine(ref12_FaultB ps hs hb).val.use ?_;simp only[go_sem]
 repeat((with_reducible refine an ?_ ?_);exact As)
 intros
 refine AWp.of ?_;simp only[go_sem]
 repeat(first|((with_reducible refine AWp.ofC ?_ ?_);exact rfl;simp only[go_sem])|((with_reducible refine an ?_ ?_);exact Au))
 refine ret_eq ?_;simp only[go_sem]
 rfl
end Go.AL
end
