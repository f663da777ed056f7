/- Texts of this claim's proof: WV5, WFa, WFb, WGp, WGa, WV7, WXp, WV6. No condition. -/
import Derived.Test.YtaomlpmcimjfgaaGreatDoorM19
import Derived.Test.YtaomlpmcimjfgaaGreatDoorM18
import Derived.Test.YtaomlpmcimjfgaaGreatDoorM15
import Derived.Test.YtaomlpmcimjfgaaGreatDoorM11
import Derived.Test.YtaomlpmcimjfgaaGreatDoorM7
import Derived.Test.YtaomlpmcimjfgaaGreatDoorM10
section
namespace Go.AL
open Go Go.RowKit
set_option maxRecDepth 4000
attribute [go_sem] aStr
abbrev Spn3:=Int × Int × Int
theorem spans_indexFuncB (l:List Spn3) (hl:l.length≤9223372036854775807) (g:AV) (hgf:fo g=(True,g)) (p:Spn3→Bool) (hg:∀x ∈ l,PV Proofs.Tryz.prog g [aSp x] (ab (p x))) :
  PC Proofs.Tryz.prog 96 [aSps l,g] (ai (match l.findIdx? p with|some i=>(i:Int)|none => -1)):=by
 refine PC.enter 19 [.tmp 4] [] Proofs.Tryz.func96 rfl rfl rfl rfl rfl (by simp) (AWp.of ?_);simp only[go_sem]
 refine Sd ?_
 refine AWp.of ?_;simp only[go_sem,aSps]
 refine AWp.range1' l.length [] [0,1,7] (fun k vs L=>L=[]∧∀i (h:i<l.length),i<k→p l[i]=false) (by omega) rfl rfl rfl ⟨rfl,by omega⟩ ?_ ?_
 ·rintro k vs L' hk hvs ⟨rfl,hI⟩
  simp only[go_sem]
  refine Sd ?_
  refine AWp.of ?_;simp only[go_sem]
  have hgk:=hg l[k] (List.getElem_mem hk)
  try simp only[go_sem,aSp] at hgk
  refine Sd ?_
  refine AWp.of ?_;simp only[go_sem,getD_map hk,hgf,aSp]
  refine⟨⟨by omega,by omega⟩,hk,hgk.use (AWp.of ?_)⟩;simp only[go_sem]
  refine⟨fun ht => ?_,fun hf => ?_⟩
  ·refine Sd ?_
   refine AWp.of ?_;simp only[go_sem]
   refine ret_eq ?_;simp only[go_sem]
   have:l.findIdx? p=some k:=by rw[List.findIdx?_eq_some_iff_getElem];exact⟨hk,ht,fun j hj=>by simpa using hI j (by omega) hj⟩
   rw[this]
  ·refine⟨[],List.Sublist.refl _,rfl,fun i h hi => ?_⟩
   by_cases e:i=k
   ·subst e;exact hf
   ·exact hI i h (by omega)
 ·rintro vs L' hvs ⟨rfl,hI⟩
  simp only[go_sem]
  refine Sd ?_
  refine AWp.of ?_;simp only[go_sem]
  refine Sd ?_
  refine AWp.of ?_;simp only[go_sem]
  refine ret_eq ?_;simp only[go_sem]
  have:l.findIdx? p=none:=by rw[List.findIdx?_eq_none_iff];intro x hx;obtain⟨i,hi,rfl⟩:=List.getElem_of_mem hx;exact hI i hi hi
  rw[this]
theorem spans_containsFuncB (l:List Spn3) (hl:l.length≤9223372036854775807) (g:AV) (hgf:fo g=(True,g)) (p:Spn3→Bool) (hg:∀x ∈ l,PV Proofs.Tryz.prog g [aSp x] (ab (p x))) :
  PC Proofs.Tryz.prog 57 [aSps l,g] (ab (l.any p)):=by
 refine PC.enter 9 [.tmp 4] [] Proofs.Tryz.func57 rfl rfl rfl rfl rfl (by simp) (AWp.of ?_);simp only[go_sem]
 refine Sd ?_
 refine AWp.of ?_;simp only[go_sem,hgf,aSps]
 refine(spans_indexFuncB l hl g hgf p hg).val.use ?_
 simp only[go_sem]
 refine Sd ?_
 refine AWp.of ?_;simp only[go_sem]
 refine ret_eq ?_;simp only[go_sem]
 congr 2;exact findIdx_any l p
def aStrs (ps:List Pr) (l:List Stp):AV:=.sl 4 (l.map (aStr ps))
def ckB (ps:List Pr) (l:List Stp) (i k:Nat):Bool:=decide (i ≠ k) && !bgN ps (l.getD i (0,0,0)) (l.getD k (0,0,0))
def clK (ps:List Pr) (l:List Stp) (i:Nat):Option Nat:=(List.range l.length).find? (ckB ps l i)
def clB (ps:List Pr) (g:Stp→Bool) (l:List Stp) (i:Nat):Bool:=g (l.getD i (0,0,0)) && (clK ps l i).isSome
def clI (ps:List Pr) (g:Stp→Bool) (l:List Stp):Option Nat:=(List.range l.length).find? (clB ps g l)
def aClash (ps:List Pr) (g:Stp→Bool) (l:List Stp):AV:=match clI ps g l with
 | some i=>match clK ps l i with
  | some k => .tup [ai i,ai k,ab true]
  | none => .tup [ai 0,ai 0,ab false]
 | none => .tup [ai 0,ai 0,ab false]
theorem getD3 {l:List Stp} {i:Nat} (h:i<l.length):l.getD i (0,0,0)=l[i]:=by rw[List.getD_eq_getElem?_getD,List.getElem?_eq_getElem h,Option.getD_some]
theorem clash_yes {ps:List Pr} {g:Stp→Bool} {l:List Stp} {i k:Nat} (hi:i<l.length) (hk:k<l.length) (hik:i ≠ k) (hg:g l[i]=true) (hb:bgN ps l[i] l[k]=false) (h1:∀k',k'<k→ckB ps l i k'=false)
  (h2:∀i',i'<i→clB ps g l i'=false):aClash ps g l = .tup [ai i,ai k,ab true]:=by
 have e1:clK ps l i=some k:=find_range_of hk (by unfold ckB;rw[getD3 hi,getD3 hk,hb,decide_eq_true hik];rfl) h1
 have e2:clI ps g l=some i:=find_range_of hi (by unfold clB;rw[getD3 hi,hg,e1];rfl) h2
 unfold aClash
 rw[e2];dsimp only;rw[e1]
theorem clash_no {ps:List Pr} {g:Stp→Bool} {l:List Stp} (h:∀i,i<l.length→clB ps g l i=false):clI ps g l=none∧aClash ps g l = .tup [ai 0,ai 0,ab false]:=by
 have e:clI ps g l=none:=find_range_no h
 unfold aClash
 rw[e];exact⟨rfl,rfl⟩
theorem clI_none {ps:List Pr} {g:Stp→Bool} {l:List Stp} (h:clI ps g l=none):∀i k (hi:i<l.length) (hk:k<l.length),i ≠ k→g l[i]=true→bgN ps l[i] l[k]=true:=fun i k hi hk hik hg=>by
 have h1:=find_range_none h i hi
 unfold clB at h1
 rw[getD3 hi,hg,Bool.true_and] at h1
 cases h2:clK ps l i with
 | some z=>rw[h2] at h1;cases h1
 | none =>
  have h3:=find_range_none h2 k hk
  unfold ckB at h3
  rw[getD3 hi,getD3 hk,decide_eq_true hik,Bool.true_and] at h3
  simpa using h3
theorem clI_some {ps:List Pr} {g:Stp→Bool} {l:List Stp} {i:Nat} (h:clI ps g l=some i):∃k,∃(hi:i<l.length) (hk:k<l.length),i ≠ k∧g l[i]=true∧bgN ps l[i] l[k]=false∧aClash ps g l = .tup [ai i,ai k,ab true]:=by
 obtain⟨hi,h1,_⟩:=find_range h
 unfold clB at h1
 rw[getD3 hi,Bool.and_eq_true] at h1
 obtain⟨k,hk⟩:=Option.isSome_iff_exists.1 h1.2
 obtain⟨hk1,h2,_⟩:=find_range hk
 unfold ckB at h2
 rw[getD3 hi,getD3 hk1,Bool.and_eq_true,decide_eq_true_eq] at h2
 refine⟨k,hi,hk1,h2.1,h1.1,by simpa using h2.2,?_⟩
 unfold aClash
 rw[h];dsimp only;rw[hk]
theorem strong_clash (ps:List Pr) (hs:Sm ps) (hv:validF ps=true) (l:List Stp) (hl:l.length≤1000000) (hin:∀s ∈ l,SpIn ps s) (gv:AV) (hgf:fo gv=(True,gv)) (g:Stp→Bool) (hg:∀s ∈ l,PV Proofs.Tryz.prog gv [aStr ps s] (ab (g s))) :
  PC Proofs.Tryz.prog 49 [aStrs ps l,gv] (aClash ps g l):=by
 have hyes:=fun i k hi hk hik h1 h2 h3 h4=>clash_yes (ps:=ps) (g:=g) (l:=l) (i:=i) (k:=k) hi hk hik h1 h2 h3 h4
 have hno:=fun h=>(clash_no (ps:=ps) (g:=g) (l:=l) h).2
 have hR:aStrs ps l = .sl 4 (l.map (aStr ps)):=rfl
 have hcK:∀i,i<l.length→(∀k,k<l.length→ckB ps l i k=false)→(clK ps l i).isSome=false:=fun i hi h=>by
  have:clK ps l i=none:=find_range_no h
  rw[this];rfl
 rw[hR]
 generalize aClash ps g l=R at *
 refine PC.enter 42 [.tmp 4,.tmp 5,.tmp 6] [8,10] Proofs.Tryz.func49 rfl rfl rfl rfl rfl (by simp) (AWp.of ?_);simp only[go_sem]
 refine Wk ?_
 refine AWp.range' l.length [] [0,1,11,12] (fun i vs L=>L=[]∧∀i',i'<i→clB ps g l i'=false) (by omega) rfl rfl rfl ⟨rfl,fun _ h=>by omega⟩ ?_ ?_
 ·rintro i vs L hi - ⟨rfl,hI⟩
  have hgi:=getD_map (f:=aStr ps) hi
  have hgk:=hg l[i] (List.getElem_mem hi)
  have hini:=hin l[i] (List.getElem_mem hi)
  have hI2:(g l[i] && (clK ps l i).isSome)=false→∀i',i'<i+1→clB ps g l i'=false:=fun h i' hi'=>by
   by_cases e:i'=i
   ·subst e;unfold clB;rw[getD3 hi];exact h
   ·exact hI i' (by omega)
  simp only[go_sem] at hgk
  simp only[go_sem]
  refine W2 hgi hgf ?_
  intros
  refine W1 hgf ?_
  refine Sd ?_
  refine(hgk).use ?_;simp only[go_sem]
  refine Wk ?_
  refine⟨fun h1 => ?_,fun h1 => ?_⟩
  ·exact⟨_,List.Sublist.refl _,rfl,hI2 (by rw[h1];rfl)⟩
  ·refine Wk ?_
   refine AWp.range' l.length [] [0,1,7,8,11,12,13,22,23] (fun k vs L=>L=[]∧∀k',k'<k→ckB ps l i k'=false) (by omega) rfl rfl rfl ⟨rfl,fun _ h=>by omega⟩ ?_ ?_
   ·rintro k vs L hk - ⟨rfl,hJ⟩
    have hgk2:=getD_map (f:=aStr ps) hk
    have hbg:=strong_begins ps hs hv l[i] l[k] hini (hin l[k] (List.getElem_mem hk))
    simp only[go_sem] at hbg
    have hJ2:(decide (i ≠ k) && !bgN ps l[i] l[k])=false→∀k',k'<k+1→ckB ps l i k'=false:=fun h k' hk'=>by
     by_cases e:k'=k
     ·subst e;unfold ckB;rw[getD3 hi,getD3 hk];exact h
     ·exact hJ k' (by omega)
    have hy:=hyes i k hi hk
    generalize bgN ps l[i] l[k]=B at *
    simp only[go_sem]
    refine W1 hgk2 ?_
    intros
    refine Wk ?_
    refine Sd ?_
    refine Gc hbg ?_
    by_cases hik:i=k
    ·have hki:(i:Int)=(k:Int):=by omega
     refine W1 hki ?_
     exact⟨_,List.Sublist.refl _,rfl,hJ2 (by rw[decide_eq_false (by simpa using hik)];rfl)⟩
    ·have hki:¬(i:Int)=(k:Int):=by omega
     cases B with
     | true =>
      refine W1 hki ?_
      exact⟨_,List.Sublist.refl _,rfl,hJ2 (by simp)⟩
     | false =>
      rw[hy hik (by simpa using h1) rfl hJ hI]
      refine W1 hki ?_
      refine ret_eq ?_;simp only[go_sem]
   ·rintro vs L - ⟨rfl,hJ⟩
    have:=hcK i hi hJ
    simp only[go_sem]
    refine Wk ?_
    exact⟨_,List.Sublist.refl _,rfl,hI2 (by rw[this,Bool.and_false])⟩
 ·rintro vs L - ⟨rfl,hI⟩
  rw[hno hI]
  simp only[go_sem]
  refine Wk ?_
  refine ret_eq ?_;simp only[go_sem]
theorem strong_anyStretch (ps:List Pr) (s:Stp):PC Proofs.Tryz.prog 51 [aStr ps s] (ab true):=by
 have hR:aStr ps s = .agg [ai s.1,ai s.2.1,ai s.2.2,pastV ps s]:=rfl
 rw[hR]
 refine PC.enter 3 [.tmp 2] [1] Proofs.Tryz.func51 rfl rfl rfl rfl rfl (by simp) (AWp.of ?_);simp only[go_sem]
 refine Wk ?_
 refine ret_eq ?_;simp only[go_sem]
def BadI (n:Nat) (x:List Int) (i:Nat):Prop:=x.getD i 0<0∨(n:Int)<x.getD i 0∨(0<i∧x.getD i 0≤x.getD (i - 1) 0)
open Classical in
noncomputable def listsF (ps:List Pr) (l:List (List Int)):Int:=if validF ps=true∧l.length=ps.length then (if ∃p i,p<l.length∧i<(l.getD p []).length∧BadI (nev ps p) (l.getD p []) i then 2 else 0) else 1
end Go.AL
end
section
namespace Go.AL
open Go Go.RowKit
set_option maxRecDepth 4000
section
variable {ps:List Pr} {E:Elim} {l:List (List Int)} {a:Nat→Nat}
end
theorem totS_le2 {c c':Nat→Nat} : ∀n,(∀q,q<n→c' q≤c q)→totS n c'≤totS n c
 | 0,_=>by simp [totS]
 | n+1,h=>by
  rw[totS_succ,totS_succ]
  have:=totS_le2 n fun q hq=>h q (by omega)
  have:=h n (by omega)
  omega
theorem totS_lt2 {c c':Nat→Nat} {p:Nat} : ∀n,(∀q,q<n→c' q≤c q)→p<n→c' p<c p→totS n c'<totS n c
 | 0,_,hp,_=>by omega
 | n+1,h,hp,hlt=>by
  rw[totS_succ,totS_succ]
  have h1:=h n (by omega)
  by_cases e:p=n
  ·subst e
   have:=totS_le2 p fun q hq=>h q (by omega)
   omega
  ·have:=totS_lt2 n (fun q hq=>h q (by omega)) (by omega) hlt
   omega
def aRowsS (ps:List Pr) (n:Nat) (rows:Nat→List Stp):AV:=.sl 1 ((List.range n).map fun p=>aStrs ps (rows p))
noncomputable def aTight (ps:List Pr) (rows:Nat→List Stp):AV:=match tgtO ps rows with
 | some a => .tup [aStrs ps (chcL ps.length rows a),ab true]
 | none => .tup [aStrs ps [],ab false]
theorem aTight_some {ps:List Pr} {rows:Nat→List Stp} {a:Nat→Nat} (h:LeastS ps rows a):aTight ps rows = .tup [aStrs ps (chcL ps.length rows a),ab true]:=by
 obtain⟨a',h1,h2⟩:=tgtO_some h
 unfold aTight
 rw[h1];dsimp only;rw[chcL_congr h2]
theorem aTight_none {ps:List Pr} {rows:Nat→List Stp} (h:¬ ∃t,TgtS ps rows t):aTight ps rows = .tup [aStrs ps [],ab false]:=by
 unfold aTight;rw[tgtO_none h]
theorem rows_in {ps:List Pr} {b:Nat→Nat→Bool} {rows:Nat→List Stp} (hR:RowsOk ps b rows) {p:Nat} (hp:p<ps.length):∀s ∈ rows p,SpIn ps s:=fun s hs=>by
 obtain⟨h1,h2,h3,_⟩:=(hR p hp).el s hs
 exact⟨by rw[h1];exact hp,h2,by rw[h1];omega⟩
theorem chcL_in {ps:List Pr} {b:Nat→Nat→Bool} {rows:Nat→List Stp} (hR:RowsOk ps b rows) {n:Nat} (hn:n≤ps.length) {a:Nat→Nat} (ha:∀p,p<n→a p<(rows p).length):∀s ∈ chcL n rows a,SpIn ps s:=fun s hs=>by
 obtain⟨p,hp,rfl⟩:=List.mem_map.1 hs
 have hp:=List.mem_range.1 hp
 rw[fSp_eq (ha p hp)]
 exact rows_in hR (by omega) _ (List.getElem_mem _)
theorem chcL_succ (k:Nat) (rows:Nat→List Stp) (a:Nat→Nat):chcL (k+1) rows a=chcL k rows a ++ [fSp rows k (a k)]:=by unfold chcL;rw[List.range_succ,List.map_append];rfl
set_option maxHeartbeats 1000000 in
theorem strong_tight (ps:List Pr) (hs:Sm ps) (hv:validF ps=true) {b:Nat→Nat→Bool} {rows:Nat→List Stp} (hR:RowsOk ps b rows) (hlen:∀p,p<ps.length→(rows p).length≤1000000) :
  PC Proofs.Tryz.prog 40 [aRowsS ps ps.length rows] (aTight ps rows):=by
 obtain⟨hl1,hl8⟩:=valid_len hv
 have hmon:=mon_rows hR
 have hT1:=fun a h=>aTight_some (ps:=ps) (rows:=rows) (a:=a) h
 have hT2:=fun h=>aTight_none (ps:=ps) (rows:=rows) h
 have hin:=fun a ha=>chcL_in hR (Nat.le_refl ps.length) (a:=a) ha
 have hA:∀l,aStrs ps l = .sl 4 (l.map (aStr ps)):=fun _=>rfl
 obtain⟨RS,hRS⟩:∃RS,RS=(List.range ps.length).map fun p=>aStrs ps (rows p):=⟨_,rfl⟩
 have hRl:RS.length=ps.length:=by rw[hRS];simp
 have hRg:∀p,p<ps.length→RS.getD p .any = .sl 4 ((rows p).map (aStr ps)):=fun p hp=>by rw[hRS];exact map_range_getD hp _
 have hR0:aRowsS ps ps.length rows = .sl 1 RS:=by rw[hRS];rfl
 have hcl:=fun l hl hin=>strong_clash ps hs hv l hl hin (.v (.func (.func 51) #[] #[])) rfl (fun _=>true) (fun s _=>(strong_anyStretch ps s).val)
 rw[hR0]
 clear hR0 hRS
 generalize aTight ps rows=R at *
 refine PC.enter 54 [.tmp 2,.tmp 3] [36] Proofs.Tryz.func40 rfl rfl rfl rfl rfl (by simp) (AWp.of ?_);simp only[go_sem]
 refine W1 hRl ?_
 intro bA
 refine Wk ?_
 refine AWp.block (AWp.loopN [] [0,4] (fun m vs L=>∃a:Nat→Nat,m=totS ps.length (fun p=>(rows p).length - a p)∧L=[(bA,.row 3 1 (dnA ps.length a) ps.length)]∧(∀t,TgtS ps rows t→∀p,p<ps.length→a p≤t p)∧∀p,p<ps.length→a p≤(rows p).length) (totS ps.length fun p=>(rows p).length - 0) ?_ ?_)
 ·refine⟨fun _=>0,rfl,?_,fun _ _ _ _=>Nat.zero_le _,fun _ _=>Nat.zero_le _⟩
  have:dnA ps.length (fun _=>0)=List.replicate ps.length (ai 0):=by unfold dnA;apply List.ext_getElem (by simp);intro i h1 h2;simp
  rw[this]
 rintro m vs L - ⟨a,rfl,rfl,hlow,hle⟩
 have hdl:=dnA_length ps.length a
 simp only[go_sem]
 refine Wk ?_
 refine(AWp.range' ps.length [5] [0,4,14,15] (fun k vs L=>∃v Lq,vs=[v]∧L=Lq ++ [(bA,.row 3 1 (dnA ps.length a) ps.length)]∧AppSt 87 4 ((chcL k rows a).map (aStr ps)) v Lq∧(∀x ∈ Lq,x.1 ≠ bA)∧∀p,p<k→a p<(rows p).length) (by omega) rfl rfl rfl ⟨anil,[],rfl,rfl,.nil,by simp,fun _ h=>by omega⟩ ?_ ?_)
 ·rintro k vs L hk - ⟨v,Lq,rfl,rfl,hAp,hq,hlt⟩
  have gk:=dnA_get hk a
  have gR:=hRg k hk
  have hsu:=congrArg (List.map (aStr ps)) (chcL_succ k rows a)
  rw[List.map_append] at hsu
  have hyl:((chcL k rows a).map (aStr ps)).length=k:=by rw[List.length_map,chcL_len]
  have hfo:=hAp.fo
  have hlk:=hlen k hk
  have hak:=hle k hk
  by_cases he:a k=(rows k).length
  ·have hei:(a k:Int)=((rows k).length:Int):=by omega
   have hno:=tgt_none hlow hk (show (rows k).length≤a k by omega)
   rw[hT2 hno,hA]
   rcases hAp.inv with ⟨e1,rfl,rfl⟩|⟨bq,cap,rfl,rfl⟩
   ·simp only[go_sem,List.nil_append]
    refine W5 gk gR hdl hRl hei ?_
    refine ret_view [] ?_;simp only[go_sem]
    exact .mkTup (Vws.cons (.nil 4) (Vws.refl _))
   ·have nq:=hq (bq,.row 87 4 ((chcL k rows a).map (aStr ps)) cap) (by simp)
    simp only at nq
    have nq1:¬bA=bq:=fun e=>nq e.symm
    simp only[go_sem,List.cons_append,List.nil_append]
    repeat(first|((with_reducible refine AWp.ofC ?_ ?_);exact rfl;simp only[go_sem,gk,gR,hdl,hRl,hei,nq1])|((with_reducible refine an ?_ ?_);exact Au))
    refine ret_view [] ?_;simp only[go_sem]
    exact .mkTup (Vws.cons (.nil 4) (Vws.refl _))
  ·have hei:¬(a k:Int)=((rows k).length:Int):=by omega
   have hak2:a k<(rows k).length:=by omega
   have ge:=getD_map (f:=aStr ps) hak2
   rw[← fSp_eq hak2] at ge
   have hlt2:∀p,p<k+1→a p<(rows p).length:=fun p hp=>by
    by_cases e:p=k
    ·subst e;exact hak2
    ·exact hlt p (by omega)
   have es:[fSp rows k (a k)].map (aStr ps)=[aStr ps (fSp rows k (a k))]:=rfl
   rw[es] at hsu
   generalize hys:(chcL k rows a).map (aStr ps)=ys at *
   generalize fSp rows k (a k)=s at *
   rcases hAp.inv with ⟨e1,rfl,rfl⟩|⟨bq,cap,rfl,rfl⟩
   ·rw[e1] at hsu
    simp only[go_sem,List.nil_append]
    refine W6 gk gR ge hdl hRl hei ?_
    intro b' cap' g8 g9
    have n3:¬b'=bA:=by omega
    have n4:¬bA=b':=by omega
    refine W2 n3 n4 ?_
    refine⟨_,List.Sublist.refl _,.ls b' 4 0 1 cap',[(b',.row 87 4 ((chcL (k+1) rows a).map (aStr ps)) cap')],rfl,?_,?_,?_,hlt2⟩
    ·rw[hsu];rfl
    ·rw[hsu];exact .row _ _ _
    ·intro y hy;simp only[List.mem_singleton] at hy;subst hy;exact n3
   ·have nq:=hq (bq,.row 87 4 ys cap) (by simp)
    simp only at nq
    have nq1:¬bA=bq:=fun e=>nq e.symm
    simp only[go_sem,List.cons_append,List.nil_append]
    repeat(first|((with_reducible refine AWp.ofC ?_ ?_);exact rfl;simp only[go_sem,gk,gR,ge,hdl,hRl,hei,nq,nq1])|((with_reducible refine an ?_ ?_);exact Au))
    intro b' cap' g8 g9
    have n3:¬b'=bA:=by omega
    have n4:¬bA=b':=by omega
    refine W2 n3 n4 ?_
    refine⟨_,List.Sublist.refl _,.ls b' 4 0 (ys.length+1) cap',[(b',.row 87 4 ((chcL (k+1) rows a).map (aStr ps)) cap')],rfl,?_,?_,?_,hlt2⟩
    ·rw[hsu];rfl
    ·rw[hsu];exact AppSt.snoc b' cap' _ rfl
    ·intro y hy;simp only[List.mem_singleton] at hy;subst hy;exact n3
 ·rintro vs L - ⟨v,Lq,rfl,rfl,hAp,hq,hlt⟩
  have hyl:((chcL ps.length rows a).map (aStr ps)).length=ps.length:=by rw[List.length_map,chcL_len]
  have hcl2:=hcl (chcL ps.length rows a) (by rw[chcL_len];omega) (hin a hlt)
  have hA2:aStrs ps (chcL ps.length rows a) = .sl 4 ((chcL ps.length rows a).map (aStr ps)):=rfl
  rcases hAp.inv with ⟨e1,_,_⟩|⟨bq,cap,rfl,rfl⟩
  ·rw[e1] at hyl;simp at hyl;omega
  have nq:=hq (bq,.row 87 4 ((chcL ps.length rows a).map (aStr ps)) cap) (by simp)
  simp only at nq
  have nq1:¬bA=bq:=fun e=>nq e.symm
  simp only[go_sem,List.cons_append,List.nil_append]
  repeat(first|((with_reducible refine AWp.ofC ?_ ?_);exact rfl;simp only[go_sem,chcL_len])|((with_reducible refine an ?_ ?_);exact Au))
  have hvw:∀xs,Vws [(bq,.row 87 4 ((chcL ps.length rows a).map (aStr ps)) cap),(bA,.row 3 1 (dnA ps.length a) ps.length)] (.ls bq 4 0 ps.length cap :: xs) (aStrs ps (chcL ps.length rows a) :: xs):=fun xs=>Vws.cons (Vw.ofLs (if_pos rfl) hyl.symm) (Vws.refl _)
  cases hc:clI ps (fun _=>true) (chcL ps.length rows a) with
  | none =>
   have hcE:aClash ps (fun _=>true) (chcL ps.length rows a) = .tup [ai 0,ai 0,ab false]:=by unfold aClash;rw[hc]
   have htgt:TgtS ps rows a:=⟨fun p hp=>hlt p hp,fun p q hp hq2 hpq=>by
    have:=clI_none hc p q (by rw[chcL_len];exact hp) (by rw[chcL_len];exact hq2) hpq rfl
    rw[chcL_get,chcL_get] at this
    exact this⟩
   rw[hcE] at hcl2
   rw[hT1 a ⟨htgt,hlow⟩,hA2]
   refine(PC.view (hvw _) hcl2 (Own.tup fun x hx=>by
    simp only[List.mem_cons,List.not_mem_nil,or_false] at hx
    rcases hx with rfl|rfl|rfl <;> exact Own.v _) ?_).val
   simp only[go_sem]
   refine W2 nq nq1 ?_
   refine ret_view [true,false] ?_;simp only[go_sem]
   exact .mkTup (Vws.cons (Vw.ofLs (if_pos rfl) hyl.symm) (Vws.refl _))
  | some i =>
   obtain⟨k,hi,hk,hik,_,hb,hcE⟩:=clI_some hc
   rw[chcL_get,chcL_get] at hb
   rw[chcL_len] at hi hk
   have gk:=dnA_get hk a
   have hlow2:=tgt_step hmon hlow hi hk hik hb
   have hset:(dnA ps.length a).set k (ai ((a k:Int)+1))=dnA ps.length (updN a k (a k+1)):=dnA_set (by rw[updN_self];omega) fun q hq=>updN_ne hq
   have hlk:=hlen k hk
   have hak:=hlt k hk
   rw[hcE] at hcl2
   refine(PC.view (hvw _) hcl2 (Own.tup fun x hx=>by
    simp only[List.mem_cons,List.not_mem_nil,or_false] at hx
    rcases hx with rfl|rfl|rfl <;> exact Own.v _) ?_).val
   simp only[go_sem]
   refine W4 nq nq1 gk hdl ?_
   refine⟨[(bA,_)],.cons _ (List.Sublist.refl _),_,?_,updN a k (a k+1),rfl,?_,?_,?_⟩
   ·refine totS_lt2 ps.length (p:=k) (fun q _ => ?_) hk ?_
    ·by_cases e:q=k
     ·subst e;rw[updN_self];omega
     ·rw[updN_ne e];exact Nat.le_refl _
    ·rw[updN_self];omega
   ·rw[hset]
   ·intro t ht p hp
    have:=hlow2 t ht p hp
    unfold updN
    split
    ·rename_i e;rw[if_pos e] at this;omega
    ·rename_i e;rw[if_neg e] at this;omega
   ·intro p hp
    by_cases e:p=k
    ·subst e;rw[updN_self];omega
    ·rw[updN_ne e];exact hle p hp
noncomputable def spansF (ps:List Pr) (p:Nat) (t:Pd):List Stp:=spL (fun k:Nat=>lclT ps p t k) p (nev ps p+1)
noncomputable def aSpansR (ps:List Pr) (p:Int) (t:Pd):AV:=if lclF ps p 0 t=0 then .tup [.sl 3 ((spansF ps p.toNat t).map aStp),ai 0] else .tup [.sl 3 [],ai (lclF ps p 0 t)]
theorem last_get (d:List Stp) (x:Stp):((d ++ [x]).map aStp).getD (((d ++ [x]).map aStp).length - 1) .any=aStp x:=by
 rw[List.length_map,List.getD_eq_getElem?_getD,List.getElem?_map]
 simp
theorem last_set (d:List Stp) (x y:Stp):((d ++ [x]).map aStp).set (((d ++ [x]).map aStp).length - 1) (aStp y)=(d ++ [y]).map aStp:=by
 rw[List.length_map,List.map_append,List.map_append]
 simp
theorem conj_Spans (ps:List Pr) (hs:Sm ps) (p:Int) (t:Pd) (hz:szF t≤1000000):PC Proofs.Tryz.prog 73 [aTr ps,ai p,aPd t] (aSpansR ps p t):=by
 have h1:=evaluate_Truths ps hs p t hz
 have hl:=hs.procs
 unfold aTruths at h1
 unfold aSpansR
 by_cases he:lclF ps p 0 t=0
 ·rw[if_pos he] at h1 ⊢
  have hp0:0≤p:=by
   unfold lclF at he
   split at he
   ·rename_i h;exact absurd he h
   ·split at he
    ·cases he
    ·rename_i h;omega
  obtain⟨i,rfl⟩:∃i:Nat,p=i:=⟨p.toNat,by omega⟩
  rw[Int.toNat_natCast] at h1 ⊢
  obtain⟨_,hp,_,_,_,_⟩:=lcl_ok he
  have hel:=hs.evs _ (List.getElem_mem hp)
  unfold spansF
  rw[nev_get hp]
  rw[truthsF_nat hp,List.map_map] at h1
  obtain⟨b,hbd⟩:∃b:Nat→Bool,b=fun k:Nat=>lclT ps i t k:=⟨_,rfl⟩
  have hT:∀k,k<ps[i].evs.length+1→((List.range (ps[i].evs.length+1)).map (ab ∘ fun (k:Nat)=>lclT ps i t k)).getD k .any=ab (b k):=fun k hk=>by rw[hbd];exact map_range_getD hk _
  have hTl:((List.range (ps[i].evs.length+1)).map (ab ∘ fun (k:Nat)=>lclT ps i t k)).length=ps[i].evs.length+1:=by simp
  generalize (List.range (ps[i].evs.length+1)).map (ab ∘ fun (k:Nat)=>lclT ps i t k)=T at *
  rw[← hbd]
  clear hbd
  obtain⟨k0,n,pp,q,s,l⟩:=t
  simp only[aPd_mk] at *
  refine PC.enter 59 [.tmp 6,.tmp 7] [3,5,35] Proofs.Tryz.func73 rfl rfl rfl rfl rfl (by simp) (AWp.of ?_);simp only[go_sem]
  refine Wk ?_
  refine Sd ?_
  refine(h1).val.use ?_;simp only[go_sem]
  refine Wk ?_
  refine AWp.range' T.length [10] [1,8,23,24] (fun k vs L=>∃v,vs=[v]∧AppSt 57 3 ((spL b i k).map aStp) v L) (by omega) rfl rfl rfl ⟨anil,rfl,.nil⟩ ?_ ?_
  ·rintro k vs L' hk - ⟨v,rfl,hA⟩
   have g0:=hT k (by omega)
   have g1:=hT (k - 1) (by omega)
   have gk:((k:Int) - 1).toNat=k - 1:=by omega
   have hfo:=hA.fo
   cases hbk:b k with
   | false =>
    rw[hbk] at g0
    rw[spL_no hbk]
    simp only[go_sem]
    refine W3 g0 hTl hfo ?_
    exact⟨_,List.Sublist.refl _,v,rfl,hA⟩
   | true =>
    rw[hbk] at g0
    simp only[go_sem]
    refine W5 g0 g1 gk hTl hfo ?_
    refine⟨fun h2 h3 => ?_,fun h2 => ?_⟩
    ·obtain⟨d,f,e1,e2⟩:=spL_on (b:=b) (p:=i) (k:=k) hbk (by rw[decide_eq_true (by omega),h3];rfl)
     rw[e1] at hA
     rw[e2]
     have gl:((d ++ [(i,f,k - 1)]).map aStp).getD (((d ++ [(i,f,k - 1)]).map aStp).length - 1) .any = .agg [ai i,ai f,ai ((k - 1:Nat):Int)]:=last_get d (i,f,k - 1)
     have gs:((d ++ [(i,f,k - 1)]).map aStp).set (((d ++ [(i,f,k - 1)]).map aStp).length - 1) (.agg [ai i,ai f,ai k])=(d ++ [(i,f,k)]).map aStp:=last_set d (i,f,k - 1) (i,f,k)
     have hyl:1≤((d ++ [(i,f,k - 1)]).map aStp).length:=by simp
     have hyk:=spL_len (b:=b) (p:=i) k
     rw[e1,← List.length_map (f:=aStp)] at hyk
     have hll:((d ++ [(i,f,k)]).map aStp).length=((d ++ [(i,f,k - 1)]).map aStp).length:=by simp
     generalize ((d ++ [(i,f,k - 1)]).map aStp)=ys at *
     generalize ((d ++ [(i,f,k)]).map aStp)=zs at *
     have gn:((ys.length:Int) - 1).toNat=ys.length - 1:=by omega
     rcases hA.inv with ⟨e3,_,_⟩|⟨bq,cap,rfl,rfl⟩
     ·rw[e3] at hyl;simp at hyl
     ·refine Wk ?_
      simp only[go_sem,gl,gn,gs]
      refine Sd ?_
      refine⟨_,List.Sublist.refl _,_,rfl,?_⟩
      rw[← hll]
      exact .row _ _ _
    ·have e0:(decide (0<k) && b (k - 1))=false:=by
      by_cases h3:0<k
      ·rw[decide_eq_true h3,Bool.true_and];simpa using h2 (by omega)
      ·rw[decide_eq_false h3];rfl
     rw[spL_new hbk e0,List.map_append]
     have ea:[(i,k,k)].map aStp=[.agg [ai i,ai k,ai k]]:=rfl
     rw[ea]
     have hyl:=spL_len (b:=b) (p:=i) k
     rw[← List.length_map (f:=aStp)] at hyl
     generalize (spL b i k).map aStp=ys at *
     rcases hA.inv with ⟨e3,rfl,rfl⟩|⟨bq,cap,rfl,rfl⟩
     ·subst e3
      simp only[go_sem]
      refine Sd ?_
      intro b' cap' _
      refine⟨_,List.Sublist.refl _,_,rfl,?_⟩
      exact .row _ _ _
     ·simp only[go_sem]
      refine Sd ?_
      intro b' cap' _
      refine⟨_,List.Sublist.refl _,_,rfl,?_⟩
      have:=AppSt.row (t:=57) (k:=3) b' (ys ++ [.agg [ai i,ai k,ai k]]) cap'
      simpa using this
  ·rintro vs L' - ⟨v,rfl,hA⟩
   rw[hTl] at hA
   have hfo:=hA.fo
   rcases hA.inv with ⟨e3,rfl,rfl⟩|⟨bq,cap,rfl,rfl⟩
   ·simp only[go_sem]
    refine Wk ?_
    refine ret_view [] ?_;simp only[go_sem]
    rw[e3]
    exact .mkTup (Vws.cons (.nil 3) (Vws.refl _))
   ·simp only[go_sem]
    refine Wk ?_
    refine ret_view [true] ?_;simp only[go_sem]
    exact .mkTup (Vws.cons (Vw.ofLs (if_pos rfl) (List.length_map _).symm) (Vws.refl _))
 ·rw[if_neg he] at h1 ⊢
  generalize lclF ps p 0 t=e at *
  obtain⟨k0,n,pp,q,s,l⟩:=t
  simp only[aPd_mk] at *
  refine PC.enter 59 [.tmp 6,.tmp 7] [3,5,35] Proofs.Tryz.func73 rfl rfl rfl rfl rfl (by simp) (AWp.of ?_);simp only[go_sem]
  refine Wk ?_
  refine Sd ?_
  refine(h1).val.use ?_;simp only[go_sem]
  refine W1 he ?_
  refine ret_view [] ?_;simp only[go_sem]
  exact .mkTup (Vws.cons (.nil 3) (Vws.refl _))
def badSp (ps:List Pr) (s:Spn3):Bool:=decide (s.1<0) || (decide ((ps.length:Int)≤s.1) || (decide (s.2.1<0) || (decide (s.2.2<s.2.1) || decide ((nev ps s.1.toNat:Int)<s.2.2))))
def dupSp (l:List Spn3) (i:Nat):Bool:=(l.take i).any fun x=>decide (x.1=(l.getD i (0,0,0)).1)
noncomputable def gvnE (ps:List Pr) (l:List Spn3):Int:=if validF ps=true then (if 1000<l.length then 5 else if l.any (badSp ps)=true then 2 else if (List.range l.length).any (dupSp l)=true then 8 else 0) else 1
def spN (s:Spn3):Stp:=(s.1.toNat,s.2.1.toNat,s.2.2.toNat)
theorem bad_not {ps:List Pr} {s:Spn3} (h:badSp ps s=false):SpIn ps (spN s)∧aSp s=aStp (spN s)∧s=stpI (spN s):=by
 obtain⟨p,f,t⟩:=s
 unfold badSp at h
 simp only[Bool.or_eq_false_iff,decide_eq_false_iff_not] at h
 obtain⟨h1,h2,h3,h4,h5⟩:=h
 have e1:((p.toNat:Nat):Int)=p:=by omega
 have e2:((f.toNat:Nat):Int)=f:=by omega
 have e3:((t.toNat:Nat):Int)=t:=by omega
 refine⟨⟨show p.toNat<ps.length by omega,show f.toNat≤t.toNat by omega,show t.toNat≤nev ps p.toNat by omega⟩,?_,?_⟩
 ·show AV.agg [ai p,ai f,ai t] = .agg [ai ((p.toNat:Nat):Int),ai ((f.toNat:Nat):Int),ai ((t.toNat:Nat):Int)]
  rw[e1,e2,e3]
 ·show (p,f,t)=(((p.toNat:Nat):Int),((f.toNat:Nat):Int),((t.toNat:Nat):Int))
  rw[e1,e2,e3]
theorem gvn_zero {ps:List Pr} {l:List Spn3} (h:gvnE ps l=0):validF ps=true∧l.length≤1000∧(∀s ∈ l,badSp ps s=false)∧∀i,i<l.length→dupSp l i=false:=by
 unfold gvnE at h
 split at h
 ·rename_i hv
  split at h
  ·cases h
  ·rename_i h1
   split at h
   ·cases h
   ·rename_i h2
    split at h
    ·cases h
    ·rename_i h3
     rw[Bool.not_eq_true,List.any_eq_false] at h2 h3
     exact⟨hv,by omega,fun s hs=>by simpa using h2 s hs,fun i hi=>by simpa using h3 i (List.mem_range.2 hi)⟩
 ·cases h
theorem strong_given1 (x s:Spn3):PC Proofs.Tryz.prog 91 [aSp x,.rp 3 [aSp s] 0 0] (ab (decide (x.1=s.1))):=by
 obtain⟨a,b,c⟩:=x
 obtain⟨d,e,f⟩:=s
 have h1:aSp (a,b,c) = .agg [ai a,ai b,ai c]:=rfl
 have h2:aSp (d,e,f) = .agg [ai d,ai e,ai f]:=rfl
 rw[h1,h2]
 refine PC.enter 9 [.tmp 3] [2] Proofs.Tryz.func91 rfl rfl rfl rfl rfl (by simp) (AWp.of ?_);simp only[go_sem]
 refine Wk ?_
 refine ret_eq ?_;simp only[go_sem]
theorem strong_given (ps:List Pr) (hs:Sm ps) (l:List Spn3) (hl:l.length≤9223372036854775806):PC Proofs.Tryz.prog 48 [aTr ps,aSps l] (ai (gvnE ps l)):=by
 have h1:=trace_Valid ps hs
 have hpl:=hs.procs
 have hR:aSps l = .sl 3 (l.map aSp):=rfl
 rw[hR]
 cases hv:validF ps with
 | false =>
  have hE:gvnE ps l=1:=by unfold gvnE;rw[hv];rfl
  rw[hv] at h1
  rw[hE]
  refine PC.enter 69 [.tmp 4] [2,6,8] Proofs.Tryz.func48 rfl rfl rfl rfl rfl (by simp) (AWp.of ?_);simp only[go_sem]
  refine Wk ?_
  refine Sd ?_
  refine(h1).val.use ?_;simp only[go_sem]
  refine Wk ?_
  refine ret_eq ?_;simp only[go_sem]
 | true =>
  rw[hv] at h1
  have hE0:gvnE ps l=if 1000<l.length then 5 else if l.any (badSp ps)=true then 2 else if (List.range l.length).any (dupSp l)=true then 8 else 0:=by unfold gvnE;rw[hv,if_pos rfl]
  by_cases hlen:1000<l.length
  ·have hli:(1000:Int)<(l.length:Int):=by omega
   rw[hE0,if_pos hlen]
   refine PC.enter 69 [.tmp 4] [2,6,8] Proofs.Tryz.func48 rfl rfl rfl rfl rfl (by simp) (AWp.of ?_);simp only[go_sem]
   refine Wk ?_
   refine Sd ?_
   refine(h1).val.use ?_;simp only[go_sem]
   refine W1 hli ?_
   refine ret_eq ?_;simp only[go_sem]
  ·have hli:¬(1000:Int)<(l.length:Int):=by omega
   rw[if_neg hlen] at hE0
   generalize gvnE ps l=E at *
   refine PC.enter 69 [.tmp 4] [2,6,8] Proofs.Tryz.func48 rfl rfl rfl rfl rfl (by simp) (AWp.of ?_);simp only[go_sem]
   refine Wk ?_
   refine Sd ?_
   refine(h1).val.use ?_;simp only[go_sem]
   refine W1 hli ?_
   refine AWp.range' l.length [] [1,2,17,18] (fun i vs L=>L=[]∧∀j (hj:j<l.length),j<i→badSp ps l[j]=false) (by omega) rfl rfl rfl ⟨rfl,fun _ _ h=>by omega⟩ ?_ ?_
   ·rintro i vs L hi - ⟨rfl,hI⟩
    have hgi:=getD_map (f:=aSp) hi
    have hbad:badSp ps l[i]=true→E=2:=fun h=>by
     rw[hE0,if_pos (List.any_eq_true.2 ⟨_,List.getElem_mem hi,h⟩)]
    have hI2:badSp ps l[i]=false→∀j (hj:j<l.length),j<i+1→badSp ps l[j]=false:=fun h j hj hji=>by
     by_cases e:j=i
     ·subst e;exact h
     ·exact hI j hj (by omega)
    clear hI
    generalize l[i]=s at *
    obtain⟨p,f,t⟩:=s
    have hgi:(l.map aSp).getD i .any = .agg [ai p,ai f,ai t]:=hgi
    have hB:badSp ps (p,f,t)=(decide (p<0) || (decide ((ps.length:Int)≤p) || (decide (f<0) || (decide (t<f) || decide ((nev ps p.toNat:Int)<t))))):=rfl
    have hev:0≤p∧p<ps.length→PC Proofs.Tryz.prog 74 [aTr ps,ai p] (ai (nev ps p.toNat:Nat)):=fun h=>by
     obtain⟨n,rfl⟩:∃n:Nat,p=n:=⟨p.toNat,by omega⟩
     have:=strong_events ps hs n (by omega)
     rw[Int.toNat_natCast];exact this
    generalize nev ps p.toNat=N at *
    simp only[go_sem]
    refine W1 hgi ?_
    intros
    repeat(first|(with_reducible refine AWp.seq ?_)|(with_reducible refine AWp.block ?_))
    refine AWp.read mixed [0,1,2,3,4,5,6,7,8,9,10,11,12,13,14,15,16,17,18,19,20,21,22,23,24,25,26,27,28,29,30,31] (by kernel_rfl) ?_;simp only[go_sem]
    refine Sd ?_
    refine GCall.use (ai (N:Nat)) (fun hg=>⟨At,(hev ?_).val.use ⟨rfl,rfl⟩⟩) ?_
    ·simp at hg
     omega
    simp only[go_sem]
    refine Wk ?_
    refine⟨fun h => ?_,fun h1 h2 h3 h4 h5 => ?_⟩
    ·have hb:badSp ps (p,f,t)=true:=by rw[hB];simp;omega
     rw[hbad hb]
     refine Wk ?_
     refine ret_eq ?_;simp only[go_sem]
    ·have hb:badSp ps (p,f,t)=false:=by rw[hB];simp;omega
     exact⟨_,List.Sublist.refl _,rfl,hI2 hb⟩
   ·rintro vs L - ⟨rfl,hI⟩
    have hnb:¬l.any (badSp ps)=true:=by
     rw[Bool.not_eq_true,List.any_eq_false]
     intro x hx
     obtain⟨j,hj,rfl⟩:=List.getElem_of_mem hx
     rw[hI j hj hj];decide
    rw[if_neg hnb] at hE0
    simp only[go_sem]
    refine Wk ?_
    refine AWp.range' l.length [] [1,56,57] (fun i vs L=>L=[]∧∀j,j<i→dupSp l j=false) (by omega) rfl rfl rfl ⟨rfl,fun _ h=>by omega⟩ ?_ ?_
    ·rintro i vs L hi - ⟨rfl,hJ⟩
     have hgi:=getD_map (f:=aSp) hi
     have hd:dupSp l i=(l.take i).any fun x=>decide (x.1=l[i].1):=by unfold dupSp;rw[List.getD_eq_getElem?_getD,List.getElem?_eq_getElem hi,Option.getD_some]
     have hcf:=spans_containsFuncB (l.take i) (by rw[List.length_take];omega) (.clo 91 [.rp 3 [aSp l[i]] 0 0]) rfl (fun x=>decide (x.1=l[i].1)) fun x _=>(strong_given1 x l[i]).clo
     rw[← hd] at hcf
     have htw:dupSp l i=true→E=8:=fun h=>by
      rw[hE0,if_pos (List.any_eq_true.2 ⟨i,List.mem_range.2 hi,h⟩)]
     have hJ2:dupSp l i=false→∀j,j<i+1→dupSp l j=false:=fun h j hji=>by
      by_cases e:j=i
      ·subst e;exact h
      ·exact hJ j (by omega)
     clear hJ hd
     generalize dupSp l i=D at *
     generalize l[i]=s at *
     obtain⟨p,f,t⟩:=s
     have hgi:(l.map aSp).getD i .any = .agg [ai p,ai f,ai t]:=hgi
     change PC _ _ [_,.clo _ [.rp 3 [.agg [ai p,ai f,ai t]] 0 0]] _ at hcf
     simp only[go_sem]
     refine W1 hgi ?_
     intros
     refine Wk ?_
     refine Sd ?_
     refine Sd ?_
     refine(hcf).val.use ?_;simp only[go_sem]
     cases D with
     | true =>
      rw[htw rfl]
      refine Wk ?_
      refine ret_eq ?_;simp only[go_sem]
     | false =>
      refine Wk ?_
      exact⟨_,List.Sublist.refl _,rfl,hJ2 rfl⟩
    ·rintro vs L - ⟨rfl,hJ⟩
     have hnd:¬(List.range l.length).any (dupSp l)=true:=by
      rw[Bool.not_eq_true,List.any_eq_false]
      intro x hx
      rw[hJ x (List.mem_range.1 hx)];decide
     rw[if_neg hnd] at hE0
     subst hE0
     simp only[go_sem]
     refine Wk ?_
     refine ret_eq ?_;simp only[go_sem]
theorem strong_all (ps:List Pr) (hs:Sm ps) (hv:validF ps=true) (l:List Stp) (hl:l.length≤1000000) (hin:∀s ∈ l,SpIn ps s):PC Proofs.Tryz.prog 50 [aTr ps,.sl 3 (l.map aStp)] (aStrs ps l):=by
 have hA:aStrs ps l = .sl 4 (l.map (aStr ps)):=rfl
 rw[hA]
 refine PC.enter 22 [.tmp 4] [2,7,18] Proofs.Tryz.func50 rfl rfl rfl rfl rfl (by simp) (AWp.of ?_);simp only[go_sem]
 refine Wk ?_
 refine AWp.range' l.length [5] [2,8,9] (fun k vs L=>∃v,vs=[v]∧AppSt 87 4 ((l.take k).map (aStr ps)) v L) (by omega) rfl rfl rfl ⟨anil,rfl,.nil⟩ ?_ ?_
 ·rintro k vs L hk - ⟨v,rfl,hAp⟩
  have hgk:=getD_map (f:=aStp) hk
  have hms:=strong_measured ps hs hv l[k] (hin _ (List.getElem_mem hk))
  have hfo:=hAp.fo
  have hyl:((l.take k).map (aStr ps)).length=k:=by rw[List.length_map,List.length_take];omega
  rw[List.take_succ_eq_append_getElem hk,List.map_append]
  have ea:[l[k]].map (aStr ps)=[aStr ps l[k]]:=rfl
  rw[ea]
  generalize l[k]=s at *
  obtain⟨p,f,t⟩:=s
  have hgk:(l.map aStp).getD k .any = .agg [ai p,ai f,ai t]:=hgk
  change PC _ _ [_,.agg [ai p,ai f,ai t]] _ at hms
  have hS:aStr ps (p,f,t) = .agg [ai p,ai f,ai t,pastV ps (p,f,t)]:=rfl
  rw[hS] at hms ⊢
  generalize (l.take k).map (aStr ps)=ys at *
  rcases hAp.inv with ⟨e3,rfl,rfl⟩|⟨bq,cap,rfl,rfl⟩
  ·subst e3
   simp only[go_sem]
   refine W1 hgk ?_
   intros
   refine Wk ?_
   refine Sd ?_
   refine(hms).val.use ?_;simp only[go_sem]
   refine Wk ?_
   intro b' cap' _
   exact⟨_,List.Sublist.refl _,_,rfl,.row _ _ _⟩
  ·simp only[go_sem]
   refine W1 hgk ?_
   intros
   refine Wk ?_
   refine Sd ?_
   refine(hms).val.use ?_;simp only[go_sem]
   refine Wk ?_
   intro b' cap' _
   refine⟨_,List.Sublist.refl _,_,rfl,?_⟩
   exact AppSt.snoc b' cap' _ rfl
 ·rintro vs L - ⟨v,rfl,hAp⟩
  rw[List.take_length] at hAp
  have hfo:=hAp.fo
  rcases hAp.inv with ⟨e3,rfl,rfl⟩|⟨bq,cap,rfl,rfl⟩
  ·simp only[go_sem]
   refine Wk ?_
   refine ret_view [] ?_;simp only[go_sem]
   rw[e3]
   exact .nil 4
  ·simp only[go_sem]
   refine Wk ?_
   refine ret_view [true] ?_;simp only[go_sem]
   exact Vw.ofLs (if_pos rfl) (List.length_map _).symm
def ovF (ps:List Pr) (l:List Stp):Bool:=(clI ps (fun _=>true) l).isNone
theorem ov_clash (ps:List Pr) (l:List Stp):∃x y:Int,aClash ps (fun _=>true) l = .tup [ai x,ai y,ab (!ovF ps l)]:=by
 unfold ovF
 cases h:clI ps (fun _=>true) l with
 | none =>
  refine⟨0,0,?_⟩
  unfold aClash;rw[h];rfl
 | some i =>
  obtain⟨k,hi,hk,_,_,_,e⟩:=clI_some h
  exact⟨i,k,e⟩
theorem ov_iff {ps:List Pr} {l:List Stp} : ovF ps l=true↔∀i k (hi:i<l.length) (hk:k<l.length),i ≠ k→bgN ps l[i] l[k]=true:=by
 unfold ovF
 constructor
 ·intro h i k hi hk hik
  rw[Option.isNone_iff_eq_none] at h
  exact clI_none h i k hi hk hik rfl
 ·intro h
  cases h1:clI ps (fun _=>true) l with
  | none=>rfl
  | some i =>
   obtain⟨k,hi,hk,hik,_,hb,_⟩:=clI_some h1
   rw[h i k hi hk hik] at hb;cases hb
theorem spN_len {l:List Spn3} : (l.map spN).length=l.length:=List.length_map _
theorem sps_stp {ps:List Pr} {l:List Spn3} (h:∀s ∈ l,badSp ps s=false):aSps l = .sl 3 ((l.map spN).map aStp)∧∀s ∈ l.map spN,SpIn ps s:=by
 refine⟨?_,fun s hs => ?_⟩
 ·show AV.sl 3 (l.map aSp)=_
  rw[List.map_map]
  congr 1
  exact List.map_congr_left fun s hs=>(bad_not (h s hs)).2.1
 ·obtain⟨x,hx,rfl⟩:=List.mem_map.1 hs
  exact(bad_not (h x hx)).1
theorem strong_Overlap (ps:List Pr) (hs:Sm ps) (l:List Spn3) (hl:l.length≤9223372036854775806):PC Proofs.Tryz.prog 18 [aTr ps,aSps l] (.tup [ab (decide (gvnE ps l=0) && ovF ps (l.map spN)),ai (gvnE ps l)]):=by
 have hg:=strong_given ps hs l hl
 by_cases h0:gvnE ps l=0
 ·obtain⟨hv,hl2,hb,_⟩:=gvn_zero h0
  obtain⟨hR,hin⟩:=sps_stp hb
  have hal:=strong_all ps hs hv (l.map spN) (by rw[spN_len];omega) hin
  have hcl:=strong_clash ps hs hv (l.map spN) (by rw[spN_len];omega) hin (.v (.func (.func 51) #[] #[])) rfl (fun _=>true) (fun s _=>(strong_anyStretch ps s).val)
  obtain⟨x,y,hc⟩:=ov_clash ps (l.map spN)
  rw[hc] at hcl
  rw[hR] at hg ⊢
  rw[h0] at hg ⊢
  have hA:aStrs ps (l.map spN) = .sl 4 ((l.map spN).map (aStr ps)):=rfl
  rw[hA] at hal hcl
  rw[decide_eq_true rfl,Bool.true_and]
  generalize ovF ps (l.map spN)=B at *
  refine PC.enter 26 [.tmp 4,.tmp 5] [2] Proofs.Tryz.func18 rfl rfl rfl rfl rfl (by simp) (AWp.of ?_);simp only[go_sem]
  refine Wk ?_
  refine Sd ?_
  refine(hg).val.use ?_;simp only[go_sem]
  refine Wk ?_
  refine Sd ?_
  refine(hal).val.use ?_;simp only[go_sem]
  refine Sd ?_
  refine(hcl).val.use ?_;simp only[go_sem]
  refine Wk ?_
  refine ret_eq ?_;simp only[go_sem]
 ·rw[decide_eq_false h0,Bool.false_and]
  have hR:aSps l = .sl 3 (l.map aSp):=rfl
  rw[hR] at hg ⊢
  generalize gvnE ps l=E at *
  refine PC.enter 26 [.tmp 4,.tmp 5] [2] Proofs.Tryz.func18 rfl rfl rfl rfl rfl (by simp) (AWp.of ?_);simp only[go_sem]
  refine W1 h0 ?_
  refine Sd ?_
  refine(hg).val.use ?_;simp only[go_sem]
  refine W1 h0 ?_
  refine ret_eq ?_;simp only[go_sem]
end Go.AL
end
