/- Texts of this claim's proof: WY20, WY22, WY21. No condition. -/
import Derived.Test.YtplamfpmmogbeaaGreatDoorM16
import Derived.Test.YtplamfpmmogbeaaGreatDoorM12
import Derived.Test.YtplamfpmmogbeaaGreatDoorM10
section
namespace Go.AL
open Go Go.RowKit
set_option maxRecDepth 4000
def aSyns (l:List Syn):AV:=.sl 4 (l.map aSyn)
theorem syns_indexFunc (l:List Syn) (hl:l.length≤1000000) (g:AV) (hgf:fo g=(True,g)) (p:Syn→Bool) (hg:∀x ∈ l,PV Proofs.Tryz.prog g [aSyn x] (ab (p x))) :
  PC Proofs.Tryz.prog 122 [aSyns l,g] (ai (match l.findIdx? p with|some i=>(i:Int)|none => -1)):=by
 refine PC.enter 19 [.tmp 4] [] Proofs.Tryz.func122 rfl rfl rfl rfl rfl (by simp) (AWp.of ?_);simp only[go_sem]
 refine Sd ?_
 refine AWp.of ?_;simp only[go_sem,aSyns]
 refine AWp.range' l.length [] [0,1,7] (fun k vs L=>L=[]∧∀i (h:i<l.length),i<k→p l[i]=false) (by omega) rfl rfl rfl ⟨rfl,by omega⟩ ?_ ?_
 ·rintro k vs L' hk hvs ⟨rfl,hI⟩
  simp only[go_sem]
  refine Sd ?_
  refine AWp.of ?_;simp only[go_sem]
  have hgk:=hg l[k] (List.getElem_mem hk)
  try simp only[go_sem,aSyn] at hgk
  refine Sd ?_
  refine AWp.of ?_;simp only[go_sem,getD_map hk,hgf,aSyn]
  refine⟨⟨by omega,by omega⟩,hk,hgk.use (AWp.of ?_)⟩;simp only[go_sem]
  refine⟨fun ht => ?_,fun hf => ?_⟩
  ·refine Sd ?_
   refine AWp.of ?_;simp only[go_sem]
   refine ret_eq ?_;simp only[go_sem]
   have:l.findIdx? p=some k:=by rw[List.findIdx?_eq_some_iff_getElem];exact⟨hk,ht,fun j hj=>by simpa using hI j (by omega) hj⟩
   rw[this]
  ·refine⟨[],List.Sublist.refl _,rfl,fun i h hi => ?_⟩
   by_cases e:i=k
   ·subst e;exact hf
   ·exact hI i h (by omega)
 ·rintro vs L' hvs ⟨rfl,hI⟩
  simp only[go_sem]
  refine Sd ?_
  refine AWp.of ?_;simp only[go_sem]
  refine Sd ?_
  refine AWp.of ?_;simp only[go_sem]
  refine ret_eq ?_;simp only[go_sem]
  have:l.findIdx? p=none:=by rw[List.findIdx?_eq_none_iff];intro x hx;obtain⟨i,hi,rfl⟩:=List.getElem_of_mem hx;exact hI i hi hi
  rw[this]
theorem syns_containsFunc (l:List Syn) (hl:l.length≤1000000) (g:AV) (hgf:fo g=(True,g)) (p:Syn→Bool) (hg:∀x ∈ l,PV Proofs.Tryz.prog g [aSyn x] (ab (p x))) :
  PC Proofs.Tryz.prog 88 [aSyns l,g] (ab (l.any p)):=by
 refine PC.enter 9 [.tmp 4] [] Proofs.Tryz.func88 rfl rfl rfl rfl rfl (by simp) (AWp.of ?_);simp only[go_sem]
 refine Sd ?_
 refine AWp.of ?_;simp only[go_sem,hgf,aSyns]
 refine(syns_indexFunc l hl g hgf p hg).val.use ?_
 simp only[go_sem]
 refine Sd ?_
 refine AWp.of ?_;simp only[go_sem]
 refine ret_eq ?_;simp only[go_sem]
 congr 2;exact findIdx_any l p
def badSy (ps:List Pr) (s:Syn):Bool:=!eidOk ps s.1 || !eidOk ps s.2
theorem syn_bad {ps:List Pr} {l:List Syn} : l.any (badSy ps)=false↔SynOk ps l:=by
 have he:∀x:Eid,eidOk ps x=true↔0≤x.1∧x.1<ps.length∧1≤x.2∧x.2≤nev ps x.1.toNat:=fun x=>by
  unfold eidOk
  simp only[Bool.and_eq_true,decide_eq_true_eq]
 rw[List.any_eq_false]
 constructor
 ·intro h s hs
  have:=h s hs
  unfold badSy at this
  rw[Bool.not_eq_true,Bool.or_eq_false_iff,Bool.not_eq_false',Bool.not_eq_false'] at this
  exact⟨(he _).1 this.1,(he _).1 this.2⟩
 ·intro h s hs
  obtain⟨h1,h2⟩:=h s hs
  unfold badSy
  rw[(he _).2 h1,(he _).2 h2];simp
theorem ref44_event (ps:List Pr) (hs:Sm ps) (x:Eid):PC Proofs.Tryz.prog 42 [aTr ps,aEid x] (ab (eidOk ps x)):=by
 have hel:∀(p:Nat) (hp:p<ps.length),ps[p].evs.length≤1000000:=fun p hp=>hs.evs _ (List.getElem_mem hp)
 obtain⟨x1,x2⟩:=x
 have hv:eidOk ps (x1,x2)=(decide (0≤x1) && (decide (x1<ps.length) && (decide (1≤x2) && decide (x2≤nev ps x1.toNat)))):=rfl
 have haE:aEid (x1,x2) = .agg [ai x1,ai x2]:=rfl
 rw[haE]
 by_cases hp:x1.toNat<ps.length
 ·have hg:=getD_map (f:=aPr) hp
  rw[nev_get hp] at hv
  generalize ps[x1.toNat]=y at *
  refine PC.enter 34 [.tmp 4] [2,3] Proofs.Tryz.func42 rfl rfl rfl rfl rfl (by simp) (AWp.of ?_);simp only[go_sem]
  refine Wk ?_
  refine AWp.seq ?_
  repeat(first|(with_reducible refine AWp.seq ?_)|(with_reducible refine AWp.block ?_))
  refine AWp.read mixed [0,1,2,3,4,5,6,7,8,9,10,11,12,13,14,15,16,17,18,19,20,21,22,23,24,25,26,27,28,29] (by kernel_rfl) ?_;simp only[go_sem,hg]
  refine⟨fun h1 h2 h3=>⟨⟨⟨h1,h2⟩,h3⟩,h1,h2⟩,fun h1 h2 h3=>⟨⟨⟨h1,h2⟩,h3⟩,hp⟩,?_⟩
  refine Wk ?_
  refine ret_eq ?_;simp only[go_sem]
  rw[hv,Bool.and_assoc,Bool.and_assoc]
 ·have hg:(ps.map aPr).getD x1.toNat .any = .any:=by rw[List.getD_eq_getElem?_getD,List.getElem?_eq_none (by rw[List.length_map];omega)];rfl
  have hx:¬(x1<ps.length)∨x1<0:=by omega
  refine PC.enter 34 [.tmp 4] [2,3] Proofs.Tryz.func42 rfl rfl rfl rfl rfl (by simp) (AWp.of ?_);simp only[go_sem]
  refine Wk ?_
  refine AWp.seq ?_
  have hnc:¬((0≤x1∧x1<ps.length)∧1≤x2):=by omega
  repeat(first|(with_reducible refine AWp.seq ?_)|(with_reducible refine AWp.block ?_))
  refine AWp.read mixed [0,1,2,3,4,5,6,7,8,9,10,11,12,13,14,15,16,17,18,19,20,21,22,23,24,25,26,27,28,29] (by kernel_rfl) ?_;simp only[go_sem,hg,List.getD_nil,hnc]
  refine Wk ?_
  refine ret_eq ?_;simp only[go_sem]
  have:(decide (0≤x1) && decide (x1<ps.length) && decide (1≤x2))=false:=by
   rw[← Bool.not_eq_true]
   simpa using hnc
  rw[hv,← Bool.and_assoc,← Bool.and_assoc,this];rfl
theorem control_check1 (ps:List Pr) (hs:Sm ps) (x:Eid):PC Proofs.Tryz.prog 87 [aEid x,.rp 1 [aTr ps] 0 0] (ab (eidOk ps x)):=by
 have hel:∀(p:Nat) (hp:p<ps.length),ps[p].evs.length≤1000000:=fun p hp=>hs.evs _ (List.getElem_mem hp)
 obtain⟨x1,x2⟩:=x
 have hv:eidOk ps (x1,x2)=(decide (0≤x1) && (decide (x1<ps.length) && (decide (1≤x2) && decide (x2≤nev ps x1.toNat)))):=rfl
 have haE:aEid (x1,x2) = .agg [ai x1,ai x2]:=rfl
 rw[haE]
 by_cases hp:x1.toNat<ps.length
 ·have hg:=getD_map (f:=aPr) hp
  rw[nev_get hp] at hv
  generalize ps[x1.toNat]=y at *
  refine PC.enter 33 [.tmp 3] [2] Proofs.Tryz.func87 rfl rfl rfl rfl rfl (by simp) (AWp.of ?_);simp only[go_sem]
  refine Wk ?_
  refine AWp.seq ?_
  repeat(first|(with_reducible refine AWp.seq ?_)|(with_reducible refine AWp.block ?_))
  refine AWp.read mixed [0,1,2,3,4,5,6,7,8,9,10,11,12,13,14,15,16,17,18,19,20,21,22,23,24,25,26,27,28,29] (by kernel_rfl) ?_;simp only[go_sem,hg]
  refine⟨fun h1 h2 h3=>⟨⟨⟨h1,h2⟩,h3⟩,h1,h2⟩,fun h1 h2 h3=>⟨⟨⟨h1,h2⟩,h3⟩,hp⟩,?_⟩
  refine Wk ?_
  refine ret_eq ?_;simp only[go_sem]
  rw[hv,Bool.and_assoc,Bool.and_assoc]
 ·have hg:(ps.map aPr).getD x1.toNat .any = .any:=by rw[List.getD_eq_getElem?_getD,List.getElem?_eq_none (by rw[List.length_map];omega)];rfl
  have hx:¬(x1<ps.length)∨x1<0:=by omega
  refine PC.enter 33 [.tmp 3] [2] Proofs.Tryz.func87 rfl rfl rfl rfl rfl (by simp) (AWp.of ?_);simp only[go_sem]
  refine Wk ?_
  refine AWp.seq ?_
  have hnc:¬((0≤x1∧x1<ps.length)∧1≤x2):=by omega
  repeat(first|(with_reducible refine AWp.seq ?_)|(with_reducible refine AWp.block ?_))
  refine AWp.read mixed [0,1,2,3,4,5,6,7,8,9,10,11,12,13,14,15,16,17,18,19,20,21,22,23,24,25,26,27,28,29] (by kernel_rfl) ?_;simp only[go_sem,hg,List.getD_nil,hnc]
  refine Wk ?_
  refine ret_eq ?_;simp only[go_sem]
  have:(decide (0≤x1) && decide (x1<ps.length) && decide (1≤x2))=false:=by
   rw[← Bool.not_eq_true]
   simpa using hnc
  rw[hv,← Bool.and_assoc,← Bool.and_assoc,this];rfl
theorem control_check2 (ps:List Pr) (hs:Sm ps) (s:Syn):PC Proofs.Tryz.prog 89 [aSyn s,.rp 1 [.clo 87 [.rp 1 [aTr ps] 0 0]] 0 0] (ab (badSy ps s)):=by
 obtain⟨⟨a,b⟩,c,d⟩:=s
 have h1:=(control_check1 ps hs (a,b)).clo (args:=[_]) (caps:=[_])
 have h2:=(control_check1 ps hs (c,d)).clo (args:=[_]) (caps:=[_])
 have hB:badSy ps ((a,b),(c,d))=(!eidOk ps (a,b) || !eidOk ps (c,d)):=rfl
 have e1:aSyn ((a,b),(c,d)) = .agg [ai a,ai b,ai c,ai d]:=rfl
 have e2:aEid (a,b) = .agg [ai a,ai b]:=rfl
 have e3:aEid (c,d) = .agg [ai c,ai d]:=rfl
 rw[e2] at h1
 rw[e3] at h2
 rw[e1,hB]
 generalize eidOk ps (a,b)=x at *
 generalize eidOk ps (c,d)=y at *
 refine PC.enter 16 [.tmp 3] [2] Proofs.Tryz.func89 rfl rfl rfl rfl rfl (by simp) (AWp.of ?_);simp only[go_sem]
 refine Wk ?_
 refine h1.use ?_
 simp only[go_sem]
 refine Wk ?_
 refine GCall.use (ab y) (fun _=>⟨At,h2.use ⟨rfl,rfl⟩⟩) ?_
 simp only[go_sem]
 refine Wk ?_
 refine ret_eq ?_;simp only[go_sem]
noncomputable def syE (ps:List Pr) (l:List Syn):Int:=if 1000<l.length then 5 else if l.any (badSy ps)=true then 2 else if lftX ps (exF ps l)=0 then 0 else 10
noncomputable def aChk (ps:List Pr) (l:List Syn):AV:=if validF ps=false then .tup [.v (.pointer none),ai 1] else if syE ps l=0 then .tup [aOrd ps (exF ps l) true,ai 0] else .tup [.v (.pointer none),ai (syE ps l)]
theorem control_check_bad {ps:List Pr} (hva:PC Proofs.Tryz.prog 61 [aTr ps] (ab false)) (l:List Syn):PC Proofs.Tryz.prog 46 [aTr ps,.sl 4 (l.map aSyn)] (.tup [.v (.pointer none),ai 1]):=by
 refine PC.enter 30 [.tmp 4,.tmp 5] [2,6] Proofs.Tryz.func46 rfl rfl rfl rfl rfl (by simp) (AWp.of ?_);simp only[go_sem]
 refine Wk ?_
 intros
 refine Wk ?_
 refine Sd ?_
 refine(hva).val.use ?_;simp only[go_sem]
 refine Wk ?_
 refine ret_eq ?_;simp only[go_sem]
theorem control_check (ps:List Pr) (hs:Sm ps) (l:List Syn) (hll:l.length≤1000000):PC Proofs.Tryz.prog 46 [aTr ps,.sl 4 (l.map aSyn)] (aChk ps l):=by
 have h1:=trace_Valid ps hs
 cases hv:validF ps with
 | false =>
  unfold aChk
  rw[if_pos hv]
  rw[hv] at h1
  exact control_check_bad h1 l
 | true =>
  rw[hv] at h1
  have hA:aChk ps l=if syE ps l=0 then .tup [aOrd ps (exF ps l) true,ai 0] else .tup [.v (.pointer none),ai (syE ps l)]:=by unfold aChk;rw[if_neg (by rw[hv];decide)]
  have hE:syE ps l=if 1000<l.length then 5 else if l.any (badSy ps)=true then 2 else if lftX ps (exF ps l)=0 then 0 else 10:=rfl
  have hlm:(l.map aSyn).length=l.length:=List.length_map _
  by_cases hl:1000<l.length
  ·rw[if_pos hl] at hE
   have hli:(1000:Int)<l.length:=by omega
   rw[hA,hE,if_neg (by decide)]
   refine PC.enter 30 [.tmp 4,.tmp 5] [2,6] Proofs.Tryz.func46 rfl rfl rfl rfl rfl (by simp) (AWp.of ?_);simp only[go_sem]
   refine Wk ?_
   intros
   refine Wk ?_
   refine Sd ?_
   refine(h1).val.use ?_;simp only[go_sem]
   refine W2 hlm hli ?_
   refine ret_eq ?_;simp only[go_sem]
  ·rw[if_neg hl] at hE
   have hli:¬(1000:Int)<l.length:=by omega
   have hcf:=syns_containsFunc l hll (.clo 89 [.rp 1 [.clo 87 [.rp 1 [aTr ps] 0 0]] 0 0]) rfl (badSy ps) fun s _=>(control_check2 ps hs s).clo (args:=[_]) (caps:=[_])
   have haS:aSyns l = .sl 4 (l.map aSyn):=rfl
   rw[haS] at hcf
   by_cases hb:l.any (badSy ps)=true
   ·rw[if_pos hb] at hE
    rw[hb] at hcf
    rw[hA,hE,if_neg (by decide)]
    refine PC.enter 30 [.tmp 4,.tmp 5] [2,6] Proofs.Tryz.func46 rfl rfl rfl rfl rfl (by simp) (AWp.of ?_);simp only[go_sem]
    refine Wk ?_
    intros
    refine Wk ?_
    refine Sd ?_
    refine(h1).val.use ?_;simp only[go_sem]
    refine W2 hlm hli ?_
    refine Sd ?_
    refine(hcf).val.use ?_;simp only[go_sem]
    refine Wk ?_
    refine ret_eq ?_;simp only[go_sem]
   ·rw[if_neg hb] at hE
    have hb':l.any (badSy ps)=false:=by simpa using hb
    have hok:=syn_bad.1 hb'
    have hx:=control_extended ps hs hv l hok hll
    rw[hb'] at hcf
    have hO:∀w,aOrd ps (exF ps l) w = .rp 3 [.agg [aPrs ps,.sl 1 ((List.range ps.length).map fun p => .sl 1 ((exF ps l p).map aInts)),ab w]] 0 0:=fun _=>rfl
    by_cases h0:lftX ps (exF ps l)=0
    ·rw[if_pos h0] at hE
     rw[hA,hE,if_pos rfl]
     rw[decide_eq_true h0] at hx
     rw[hO] at hx ⊢
     generalize (List.range ps.length).map (fun p=>AV.sl 1 ((exF ps l p).map aInts))=TT at *
     refine PC.enter 30 [.tmp 4,.tmp 5] [2,6] Proofs.Tryz.func46 rfl rfl rfl rfl rfl (by simp) (AWp.of ?_);simp only[go_sem]
     refine Wk ?_
     intros
     refine Wk ?_
     refine Sd ?_
     refine(h1).val.use ?_;simp only[go_sem]
     refine W2 hlm hli ?_
     refine Sd ?_
     refine(hcf).val.use ?_;simp only[go_sem]
     refine Wk ?_
     refine Sd ?_
     refine(hx).val.use ?_;simp only[go_sem]
     refine Wk ?_
     refine ret_eq ?_;simp only[go_sem]
    ·rw[if_neg h0] at hE
     rw[hA,hE,if_neg (by decide)]
     rw[decide_eq_false h0,hO] at hx
     generalize (List.range ps.length).map (fun p=>AV.sl 1 ((exF ps l p).map aInts))=TT at *
     refine PC.enter 30 [.tmp 4,.tmp 5] [2,6] Proofs.Tryz.func46 rfl rfl rfl rfl rfl (by simp) (AWp.of ?_);simp only[go_sem]
     refine Wk ?_
     intros
     refine Wk ?_
     refine Sd ?_
     refine(h1).val.use ?_;simp only[go_sem]
     refine W2 hlm hli ?_
     refine Sd ?_
     refine(hcf).val.use ?_;simp only[go_sem]
     refine Wk ?_
     refine Sd ?_
     refine(hx).val.use ?_;simp only[go_sem]
     refine Wk ?_
     refine ret_eq ?_;simp only[go_sem]
theorem bits_words (n:Nat) (hn:n≤1000000):PC Proofs.Tryz.prog 92 [ai n] (ai (nW n:Nat)):=by
 have hm:IntKind.i64.wrap (((n:Int)+64 - 1).tdiv 64)=(nW n:Nat):=by
  have:((n:Int)+64 - 1).tdiv 64=((nW n:Nat):Int):=by
   rw[show (n:Int)+64 - 1=((n+63:Nat):Int) by omega];unfold nW;rfl
  rw[this]
  exact IntWalk.i64_in _ (by unfold nW;omega)
 refine PC.enter 7 [.tmp 2] [] Proofs.Tryz.func92 rfl rfl rfl rfl rfl (by simp) (AWp.of ?_);simp only[go_sem]
 refine W1 hm ?_
 refine ret_eq ?_;simp only[go_sem]
theorem bits_inside (n:Nat) (ws:List AV) (i:Int):PC Proofs.Tryz.prog 93 [.agg [ai n,.sl 1 ws],ai i] (ab (decide (0≤i) && decide (i<n))):=by
 refine PC.enter 13 [.tmp 4] [2] Proofs.Tryz.func93 rfl rfl rfl rfl rfl (by simp) (AWp.of ?_);simp only[go_sem]
 refine Wk ?_
 refine ret_eq ?_;simp only[go_sem]
theorem filter_step {n k:Nat} {f:Nat→Bool} (hk:k<((List.range n).filter f).length) {j:Nat} (hjn:j≤n) (hj:(List.range j).filter f=((List.range n).filter f).take k) :
  ∃x,((List.range n).filter f)[k]?=some x∧x<n∧f x=true∧j≤x∧(∀i,j≤i→i<x→f i=false)∧(List.range (x+1)).filter f=((List.range n).filter f).take (k+1):=by
 obtain⟨d,rfl⟩:∃d,n=j+d:=⟨n - j,by omega⟩
 have hadd:∀m,(List.range (j+m)).filter f=(List.range j).filter f ++ ((List.range m).map (j + ·)).filter f:=fun m=>by rw[List.range_add,List.filter_append]
 have hA:((List.range j).filter f).length=k:=by rw[hj,List.length_take];omega
 have hno:∀m,(∀i,i<m→f (j+i)=false)→((List.range m).map (j + ·)).filter f=[]:=fun m h=>by
  rw[List.filter_eq_nil_iff]
  intro a ha
  obtain⟨i,hi,rfl⟩:=List.mem_map.1 ha
  rw[h i (List.mem_range.1 hi)];decide
 have hex:∃i,i<d∧f (j+i)=true:=by
  apply Classical.byContradiction
  intro h
  have h2:=hno d fun i hi=>by
   cases hf:f (j+i) with
   | false=>rfl
   | true=>exact absurd ⟨i,hi,hf⟩ h
  rw[hadd,h2,List.append_nil,hA] at hk
  omega
 obtain⟨i,⟨hi,hfi⟩,hmin⟩:=least hex
 have hlow:∀i',i'<i→f (j+i')=false:=fun i' h=>by
  cases hf:f (j+i') with
  | false=>rfl
  | true=>have:=hmin i' ⟨by omega,hf⟩;omega
 have hone:((List.range (i+1)).map (j + ·)).filter f=[j+i]:=by
  rw[List.range_succ,List.map_append,List.filter_append,hno i hlow,List.nil_append]
  show List.filter f [j+i]=[j+i]
  rw[List.filter_cons_of_pos hfi];rfl
 have hd:∃B,((List.range d).map (j + ·)).filter f=(j+i) :: B:=by
  obtain⟨e,rfl⟩:∃e,d=(i+1)+e:=⟨d - (i+1),by omega⟩
  rw[List.range_add,List.map_append,List.filter_append,hone]
  exact⟨_,rfl⟩
 obtain⟨B,hB⟩:=hd
 refine⟨j+i,?_,by omega,hfi,by omega,fun i' h1 h2 => ?_,?_⟩
 ·rw[hadd,hB,List.getElem?_append_right (by omega),hA,Nat.sub_self];rfl
 ·have:=hlow (i' - j) (by omega)
  rwa [show j+(i' - j)=i' by omega] at this
 ·rw[show j+i+1=j+(i+1) by omega,hadd,hone,hadd d,hB,List.take_append,hA,List.take_of_length_le (by omega),show k+1 - k=1 by omega];rfl
theorem words_skip {f:Nat→Bool} {n j:Nat} : ∀ {x:Nat},j≤x→(∀i,j≤i→i<x→f i=false)→wordsF f n x=wordsF f n j
 | 0,h,_=>by have:j=0:=by omega
             subst this;rfl
 | x+1,h,hf=>by
  by_cases e:j=x+1
  ·subst e;rfl
  ·rw[words_no (hf x (by omega) (by omega))]
   exact words_skip (by omega) fun i h1 h2=>hf i h1 (by omega)
set_option maxHeartbeats 1000000 in
theorem bits_Of (n:Nat) (hn:n≤512) (f:Nat→Bool):PC Proofs.Tryz.prog 49 [ai n,.sl 1 (((List.range n).filter f).map fun j:Nat=>ai j)] (.tup [aBits n (wordsF f n n),ai 0]):=by
 have hwn:=bits_words n (by omega)
 have hnW:nW n≤1000000:=by unfold nW;omega
 have hlm:(((List.range n).filter f).map fun j:Nat=>ai (j:Int)).length=((List.range n).filter f).length:=List.length_map _
 have hll:((List.range n).filter f).length≤n:=Nat.le_trans (List.length_filter_le _ _) (by simp)
 have hn1:¬(512:Int)<n:=by omega
 have hn0:¬(n:Int)<0:=by omega
 refine PC.enter 45 [.cell 4 111,.tmp 5] [6] Proofs.Tryz.func49 rfl rfl rfl rfl rfl (by simp) (AWp.of ?_);simp only[go_sem]
 intro b4
 refine W2 hn0 hn1 ?_
 refine Sd ?_
 refine(hwn).val.use ?_;simp only[go_sem]
 refine Wk ?_
 intro bw gw
 refine Wk ?_
 intro b6 g1 g2
 refine W1 hlm ?_
 have hwz:=words_zero f n
 have hrep:List.replicate (nW n) (AV.v (Value.int IntKind.u64 0))=(wordsF f n 0).map fun w:Nat=>au64 (w:Int):=by rw[hwz,List.map_replicate];rfl
 rw[hrep]
 refine AWp.range' ((List.range n).filter f).length [] [4,6,21,22] (fun k vs L=>vs=[]∧∃j,j≤n∧(List.range j).filter f=((List.range n).filter f).take k∧L=[(bw,.row 114 1 ((wordsF f n j).map fun w:Nat=>au64 (w:Int)) (nW n)),(b4,.row 111 2 [.agg [ai 0,anil]] 1)]) (by omega) rfl rfl rfl ⟨rfl,0,Nat.zero_le _,by rw[List.take_zero];rfl,rfl⟩ ?_ ?_
 ·rintro k vs L hk - ⟨rfl,j,hjn,hj,rfl⟩
  obtain⟨x,hx,hxn,hfx,hjx,hno,hnext⟩:=filter_step hk hjn hj
  have hgx:(((List.range n).filter f).map fun j:Nat=>ai (j:Int)).getD k .any=ai (x:Nat):=by rw[List.getD_eq_getElem?_getD,List.getElem?_map,hx];rfl
  have hws0:=words_skip (f:=f) (n:=n) hjx hno
  rw[← hws0]
  have hws:=words_set (f:=f) (n:=n) (j:=x) hfx
  have hq:=quo64 x (by omega)
  have hr6:=rem64 x
  have hjm:x / 64<nW n:=by unfold nW;omega
  have hwl:=word_lt (f:=f) (j:=x)
  have hgw:((wordsF f n x).map fun w:Nat=>au64 (w:Int)).getD (x / 64) .any=au64 (wordOf f (x / 64) x):=by
   rw[List.getD_eq_getElem?_getD,List.getElem?_map,words_get hjm];rfl
  have hcv:IntKind.u64.wrap ((x % 64:Nat):Int)=((x % 64:Nat):Int):=wrap_u64n (Nat.lt_of_lt_of_le (Nat.mod_lt x (by decide)) (by decide))
  have hsh:=shl_bit (b:=x % 64) (Nat.mod_lt x (by decide))
  have had:=or_bit hwl (Nat.mod_lt x (by decide))
  have hlen:((wordsF f n x).map fun w:Nat=>au64 (w:Int)).length=nW n:=by rw[List.length_map,words_len]
  have hset:((wordsF f n x).map fun w:Nat=>au64 (w:Int)).set (x / 64) (au64 ((wordOf f (x / 64) x+2 ^ (x % 64):Nat):Int))=(wordsF f n (x+1)).map fun w:Nat=>au64 (w:Int):=by rw[hws,List.map_set]
  have hin:=bits_inside n ((wordsF f n x).map fun w:Nat=>au64 (w:Int)) (x:Nat)
  have hinb:(decide ((0:Int)≤(x:Nat)) && decide (((x:Nat):Int)<n))=true:=by simp;omega
  rw[hinb] at hin
  generalize ((wordsF f n x).map fun w:Nat=>au64 (w:Int))=ys at *
  generalize hd:x / 64=jd at *
  generalize hmd:x % 64=jm at *
  have hvw:Vws [(bw,.row 114 1 ys (nW n)),(b4,.row 111 2 [.agg [ai 0,anil]] 1)] [.agg [ai n,.ls bw 1 0 (nW n) (nW n)],ai x] [.agg [ai n,.sl 1 ys],ai x]:=Vws.cons (.mkAgg (Vws.cons (.refl _) (Vws.cons (Vw.ofLs (t:=114) (cap:=nW n) (if_pos rfl) hlen.symm) .nil))) (Vws.refl _)
  simp only[go_sem]
  refine W1 hgx ?_
  refine(PC.view hvw hin (Own.v _) ?_).val
  simp only[go_sem]
  refine W1 hgx ?_
  repeat(first|(with_reducible refine AWp.seq ?_)|(with_reducible refine AWp.block ?_))
  refine AWp.mix mixed [0,1,2,3,4,6,7,8] (.step 5 (.step 9 (.step 10 (.step 11 .done .done) .done) .done) .done) (by kernel_rfl) ?_;simp only[go_sem,hq,hr6,hgw,hsh,had,hlen]
  refine Sd ?_
  refine W1 hgw ?_
  exact⟨_,List.Sublist.refl _,x+1,by omega,hnext,by rw[← hset]⟩
 ·rintro vs L - ⟨rfl,j,hjn,hj,rfl⟩
  rw[List.take_length] at hj
  have hws:wordsF f n n=wordsF f n j:=words_skip hjn fun i h1 h2=>by
   cases hf:f i with
   | false=>rfl
   | true =>
    have hm:i ∈ (List.range n).filter f:=List.mem_filter.2 ⟨List.mem_range.2 h2,hf⟩
    rw[← hj] at hm
    have:=List.mem_range.1 (List.mem_filter.1 hm).1
    omega
  rw[hws]
  have hwl:((wordsF f n j).map fun w:Nat=>au64 (w:Int)).length=nW n:=by rw[List.length_map,words_len]
  have hb:aBits n (wordsF f n j) = .agg [ai n,.sl 1 ((wordsF f n j).map fun w:Nat=>au64 (w:Int))]:=rfl
  rw[hb]
  generalize ((wordsF f n j).map fun w:Nat=>au64 (w:Int))=ys at *
  have n1:¬b4=bw:=by omega
  have n2:¬bw=b4:=by omega
  simp only[go_sem]
  refine W2 n1 n2 ?_
  refine ret_view [true,true] ?_;simp only[go_sem]
  simp only[go_sem,n1]
  exact .mkTup (Vws.cons (.mkAgg (Vws.cons (.refl _) (Vws.cons (Vw.ofLs (t:=114) (cap:=nW n) (if_pos rfl) hwl.symm) .nil))) (Vws.refl _))
theorem ref44_Same (n:Nat) (rs:List (List Nat)) (hl:rs.length≤1000000) (hw:∀r ∈ rs,r.length≤1000000):PC Proofs.Tryz.prog 17 [aRelR n rs,aRelR n rs] (ab true):=by
 unfold aRelR
 refine PC.enter 65 [.tmp 4] [2,3,6,7] Proofs.Tryz.func17 rfl rfl rfl rfl rfl (by simp) (AWp.of ?_);simp only[go_sem]
 refine Wk ?_
 refine AWp.block (AWp.count 5 rs.length [] [2,3] (fun k vs L=>L=[]) rfl rfl rfl ?_)
 rintro k vs L hk - rfl
 simp only[go_sem]
 refine Wk ?_
 refine⟨fun h => ?_,fun h => ?_⟩
 ·have hkl:k<rs.length:=by omega
  have hg:(rs.map (aBits n)).getD k .any = .agg [ai n,.sl 1 (rs[k].map fun w:Nat=>au64 (w:Int))]:=getD_map hkl
  have hwk:=hw _ (List.getElem_mem hkl)
  generalize rs[k]=ws at *
  refine AWp.seq (AWp.block ?_)
  refine AWp.cut [2,3,5,6,7] (fun vs L=>L=[]∧vs=[.rp 1 [.agg [.sl 2 (rs.map (aBits n))]] 0 0,.rp 1 [.agg [.sl 2 (rs.map (aBits n))]] 0 0,ai k,.rp 2 [.agg [ai n,.sl 1 (ws.map fun w:Nat=>au64 (w:Int))]] 0 0,.rp 2 [.agg [ai n,.sl 1 (ws.map fun w:Nat=>au64 (w:Int))]] 0 0]) ?_ ?_
  ·repeat(first|(with_reducible refine AWp.seq ?_)|(with_reducible refine AWp.block ?_))
   refine AWp.mix mixed [0,1,2,3,4,5,6,7,8,9] (.step 10 (.step 11 (.step 12 (.step 13 .done .done) .done) .done) (.step 11 (.step 10 (.step 12 (.step 13 .done .done) .done) .done) .done)) (by kernel_rfl) ?_;simp only[go_sem,hg]
   refine Sd ?_
   repeat' (first|(with_reducible refine And.intro ?_ ?_)|intro _)
   all_goals first|omega|exact⟨_,List.Sublist.refl _,rfl⟩|skip
   all_goals rename_i b b1 g1
   all_goals have n1:¬b=b1:=by omega
   all_goals have n2:¬b1=b:=by omega
   all_goals simp only[go_sem,n1]
   all_goals refine Sd ?_
   all_goals first|exact⟨_,List.Sublist.refl _,rfl⟩|trace_state
  ·rintro vs L - ⟨rfl,rfl⟩
   simp only[go_sem]
   refine Wk ?_
   refine AWp.block (AWp.count 8 ws.length [] [2,3,5,6,7] (fun j vs L=>L=[]) rfl rfl rfl ?_)
   rintro j vs L hj - rfl
   simp only[go_sem]
   refine Wk ?_
   refine⟨fun h2 => ?_,fun h2 => ?_⟩
   ·have hjl:j<ws.length:=by omega
    have hgj:=getD_map (f:=fun w:Nat=>au64 (w:Int)) hjl
    refine AWp.seq (AWp.block (AWp.seq ?_))
    repeat(first|(with_reducible refine AWp.seq ?_)|(with_reducible refine AWp.block ?_))
    refine AWp.read mixed [0,1,2,3,4,5,6,7,8,9,10] (by kernel_rfl) ?_;simp only[go_sem,hgj]
    refine Sd ?_
    refine Wk ?_
    exact⟨_,List.Sublist.refl _,rfl⟩
   ·refine Wk ?_
    exact⟨_,List.Sublist.refl _,rfl⟩
 ·refine Wk ?_
  refine ret_eq ?_;simp only[go_sem]
theorem ref13_Events (ps:List Pr) (hs:Sm ps):PC Proofs.Tryz.prog 81 [aTr ps] (ai (off ps ps.length:Nat)):=by
 have hps:=hs.procs
 refine PC.enter 22 [.tmp 2] [1] Proofs.Tryz.func81 rfl rfl rfl rfl rfl (by simp) (AWp.of ?_);simp only[go_sem]
 refine Wk ?_
 refine AWp.block (AWp.count 4 ps.length [3] [1] (fun p vs L=>L=[]∧vs=[ai (off ps p:Nat)]) rfl rfl ⟨rfl,by simp [off,get]⟩ ?_)
 rintro p vs L hp - ⟨rfl,rfl⟩
 have hos:=off_small hs p hp
 simp only[go_sem]
 refine Wk ?_
 refine⟨fun h1 => ?_,fun h1 => ?_⟩
 ·have hpp:p<ps.length:=by omega
  have hg:=getD_map (f:=aPr) hpp
  have hof:=off_succ hpp
  have hel:=hs.evs _ (List.getElem_mem hpp)
  refine W1 hg ?_
  refine⟨_,List.Sublist.refl _,rfl,?_⟩
  rw[hof];rfl
 ·have:p=ps.length:=by omega
  subst this
  refine Wk ?_
  refine ret_eq ?_;simp only[go_sem]
theorem ref13_Number (ps:List Pr) (hs:Sm ps) {p i:Nat} (hp:p<ps.length) (hi:i<nev ps p):PC Proofs.Tryz.prog 84 [aTr ps,aEid ((p:Int),(i:Int)+1)] (ai (off ps p+i:Nat)):=by
 have hps:=hs.procs
 have hn:=nev_get hp
 have hel:=hs.evs _ (List.getElem_mem hp)
 have e1:aEid ((p:Int),(i:Int)+1) = .agg [ai p,ai ((i:Int)+1)]:=rfl
 rw[e1]
 refine PC.enter 27 [.tmp 4] [2,3] Proofs.Tryz.func84 rfl rfl rfl rfl rfl (by simp) (AWp.of ?_);simp only[go_sem]
 refine Wk ?_
 refine AWp.block (AWp.count 6 p [5] [2,3] (fun q vs L=>L=[]∧vs=[ai (off ps q:Nat)]) rfl rfl ⟨rfl,by simp [off,get]⟩ ?_)
 rintro q vs L hq - ⟨rfl,rfl⟩
 have hos:=off_small hs q (by omega)
 simp only[go_sem]
 refine Wk ?_
 refine⟨fun h1 => ?_,fun h1 => ?_⟩
 ·have hqq:q<ps.length:=by omega
  have hg:=getD_map (f:=aPr) hqq
  have hof:=off_succ hqq
  have helq:=hs.evs _ (List.getElem_mem hqq)
  refine W1 hg ?_
  refine⟨_,List.Sublist.refl _,rfl,?_⟩
  rw[hof];rfl
 ·have:q=p:=by omega
  subst this
  refine Wk ?_
  refine ret_eq ?_;simp only[go_sem]
  congr 2
  omega
theorem off_mono {ps:List Pr} {q:Nat} : ∀ {p:Nat},q≤p→p≤ps.length→off ps q≤off ps p
 | 0,h,_=>by have:q=0:=by omega
             subst this;exact Nat.le_refl _
 | p+1,h,hp=>by
  by_cases e:q=p+1
  ·subst e;exact Nat.le_refl _
  ·have:=off_mono (ps:=ps) (q:=q) (p:=p) (by omega) (by omega)
   rw[off_succ (show p<ps.length by omega)];omega
theorem ref13_Event (ps:List Pr) (hs:Sm ps) {p i:Nat} (hp:p<ps.length) (hi:i<nev ps p):PC Proofs.Tryz.prog 82 [aTr ps,ai (off ps p+i:Nat)] (aEid ((p:Int),(i:Int)+1)):=by
 have hps:=hs.procs
 have hn:=nev_get hp
 have hel:=hs.evs _ (List.getElem_mem hp)
 have e1:aEid ((p:Int),(i:Int)+1) = .agg [ai p,ai ((i:Int)+1)]:=rfl
 rw[e1]
 refine PC.enter 30 [.cell 4 74] [2] Proofs.Tryz.func82 rfl rfl rfl rfl rfl (by simp) (AWp.of ?_);simp only[go_sem]
 intro b
 have hos:=off_small hs p (by omega)
 refine Wk ?_
 refine AWp.seq (AWp.block (AWp.loopN [1,5] [2,4] (fun m vs L=>∃q rest:Nat,vs=[ai rest,ai q]∧L=[(b,.row 74 2 [.agg [ai 0,ai 0]] 1)]∧off ps q+rest=off ps p+i∧q≤p∧m=p - q) p ?_ ?_))
 ·exact⟨0,off ps p+i,rfl,rfl,by simp [off],Nat.zero_le _,rfl⟩
 rintro m vs L - ⟨q,rest,rfl,rfl,hqr,hqp,rfl⟩
 have hqq:q<ps.length:=by omega
 have hg:=getD_map (f:=aPr) hqq
 have hof:=off_succ hqq
 have helq:=hs.evs _ (List.getElem_mem hqq)
 simp only[go_sem]
 refine W1 hg ?_
 refine⟨fun h1 => ?_,fun h1 => ?_⟩
 ·have hne:q ≠ p:=fun e=>by subst e;omega
  refine W1 hg ?_
  refine⟨_,List.Sublist.refl _,p - (q+1),by omega,q+1,rest - ps[q].evs.length,?_,rfl,by omega,by omega,rfl⟩
  rw[show ((rest - ps[q].evs.length:Nat):Int)=(rest:Int) - ps[q].evs.length by omega];rfl
 ·have hqe:q=p:=by
   apply Classical.byContradiction
   intro hne
   have h2:off ps (q+1)≤off ps p:=off_mono (by omega) (by omega)
   omega
  subst hqe
  have hri:rest=i:=by omega
  subst hri
  refine Wk ?_
  refine ret_view [true] ?_;simp only[go_sem]
  exact .refl _
theorem dirE_iff {ps:List Pr} (hv:validF ps=true) {p i q j:Nat} (hp:p<ps.length) (hi:i<ps[p].evs.length) (hq:q<ps.length) (hj:j<ps[q].evs.length) :
  ((p:Int),(i:Int)+1) ∈ dirE ps q j↔if p=q then j=i+1 else ps[p].evs[i].kind=2∧ps[q].evs[j].kind=3∧ps[p].evs[i].msg=ps[q].evs[j].msg:=by
 unfold dirE
 rw[evq_get hq hj,List.mem_append]
 have hsn:ps[q].evs[j].kind=3→p=q→((p:Int),(i:Int)+1) ≠ sndr ps ps[q].evs[j].msg:=fun hk e h=>by
  obtain⟨h1,j',h2,h3,_,_⟩:=recv_peer (valid_parts hv).2.2 hq hj hk
  have:=peer_ne hv hq hj hk
  rw[h3,Prod.mk.injEq] at h
  omega
 by_cases e:p=q
 ·rw[if_pos e]
  constructor
  ·rintro(h|h)
   ·split at h
    ·rw[List.mem_singleton,Prod.mk.injEq] at h;omega
    ·cases h
   ·split at h
    ·rename_i hk
     rw[List.mem_singleton] at h
     exact absurd h (hsn hk e)
    ·cases h
  ·intro h
   left
   rw[if_pos (by omega),List.mem_singleton,Prod.mk.injEq]
   omega
 ·rw[if_neg e]
  constructor
  ·rintro(h|h)
   ·split at h
    ·rw[List.mem_singleton,Prod.mk.injEq] at h;omega
    ·cases h
   ·split at h
    ·rename_i hk
     rw[List.mem_singleton] at h
     obtain⟨h1,j',h2,h3,h4,h5⟩:=recv_peer (valid_parts hv).2.2 hq hj hk
     rw[h3,Prod.mk.injEq] at h
     have hpp:p=ps[q].evs[j].peer.toNat:=by omega
     have hij:i=j':=by omega
     subst hpp
     subst hij
     exact⟨h4,hk,h5⟩
    ·cases h
  ·rintro⟨h1,h2,h3⟩
   right
   rw[if_pos h2,List.mem_singleton,← h3,valid_unique hv hp hi h1]
set_option maxHeartbeats 1000000 in
theorem ref13_Direct (ps:List Pr) (hs:Sm ps) (hv:validF ps=true) {p i q j:Nat} (hp:p<ps.length) (hi:i<ps[p].evs.length) (hq:q<ps.length) (hj:j<ps[q].evs.length) :
  PC Proofs.Tryz.prog 83 [aTr ps,aEid ((p:Int),(i:Int)+1),aEid ((q:Int),(j:Int)+1)] (ab (decide (((p:Int),(i:Int)+1) ∈ dirE ps q j))):=by
 have hiff:=dirE_iff hv hp hi hq hj
 have hgp:=getD_map (f:=aPr) hp
 have hgq:=getD_map (f:=aPr) hq
 have hgi:=getD_map (f:=aEv) hi
 have hgj:=getD_map (f:=aEv) hj
 have hep:=hs.evs _ (List.getElem_mem hp)
 have heq:=hs.evs _ (List.getElem_mem hq)
 have e1:aEid ((p:Int),(i:Int)+1) = .agg [ai p,ai ((i:Int)+1)]:=rfl
 have e2:aEid ((q:Int),(j:Int)+1) = .agg [ai q,ai ((j:Int)+1)]:=rfl
 have x1:((i:Int)+1 - 1).toNat=i:=by omega
 have x2:((j:Int)+1 - 1).toNat=j:=by omega
 have x3:((p:Int)=q)↔p=q:=by omega
 have x4:((j:Int)+1=(i:Int)+1+1)↔j=i+1:=by omega
 rw[e1,e2]
 by_cases e:p=q
 ·rw[if_pos e] at hiff
  have hd:decide (((p:Int),(i:Int)+1) ∈ dirE ps q j)=decide (j=i+1):=decide_eq_decide.2 hiff
  rw[hd]
  have x3':(p:Int)=q:=by omega
  refine PC.enter 59 [.tmp 6] [3,4,5,7,8] Proofs.Tryz.func83 rfl rfl rfl rfl rfl (by simp) (AWp.of ?_);simp only[go_sem]
  refine W2 x3' x4 ?_
  refine ret_eq ?_;simp only[go_sem]
 ·rw[if_neg e] at hiff
  have hd:decide (((p:Int),(i:Int)+1) ∈ dirE ps q j)=(decide (ps[p].evs[i].kind=2) && decide (ps[q].evs[j].kind=3) && decide (ps[p].evs[i].msg=ps[q].evs[j].msg)):=by
   rw[← Bool.decide_and,← Bool.decide_and]
   exact decide_eq_decide.2 (hiff.trans (and_assoc).symm)
  rw[hd]
  have x3':¬(p:Int)=q:=by omega
  generalize ps[p].evs[i]=ea at *
  generalize ps[q].evs[j]=eb at *
  refine PC.enter 59 [.tmp 6] [3,4,5,7,8] Proofs.Tryz.func83 rfl rfl rfl rfl rfl (by simp) (AWp.of ?_);simp only[go_sem]
  refine W1 x3' ?_
  refine AWp.cut [7,8] (fun vs L=>L=[]∧vs=[.rp 5 [aEv ea] 0 0,.rp 5 [aEv eb] 0 0]) ?_ ?_
  ·repeat(first|(with_reducible refine AWp.seq ?_)|(with_reducible refine AWp.block ?_))
   refine AWp.mix mixed [0,1,2,3,4,5,6,7,8,9,10,11,12,13,14,15,16,17,18,19,20,21,22,23] (.step 24 (.step 25 (.step 26 (.step 27 .done .done) .done) .done) (.step 25 (.step 24 (.step 26 (.step 27 .done .done) .done) .done) .done)) (by kernel_rfl) ?_;simp only[go_sem,hgp,hgq,hgi,hgj,x1,x2]
   refine Sd ?_
   repeat' (first|(with_reducible refine And.intro ?_ ?_)|intro _)
   all_goals first|omega|exact⟨_,List.Sublist.refl _,rfl⟩|skip
   all_goals rename_i b b1 g1
   all_goals have n1:¬b=b1:=by omega
   all_goals have n2:¬b1=b:=by omega
   all_goals simp only[go_sem,n1]
   all_goals refine Sd ?_
   all_goals first|exact⟨_,List.Sublist.refl _,rfl⟩|trace_state
  ·rintro vs L - ⟨rfl,rfl⟩
   simp only[go_sem]
   refine Wk ?_
   refine ret_eq ?_;simp only[go_sem]
end Go.AL
end
