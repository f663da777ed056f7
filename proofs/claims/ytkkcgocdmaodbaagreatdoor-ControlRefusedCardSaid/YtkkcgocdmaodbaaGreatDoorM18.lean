/- Texts of this claim's proof: WV6, WU1, WV10, WU3, WU4, WU5, WU6, WV8, WV11, WV12, WV13, WV15, WCs, WV16, WQp, WU7, WU8, WPw3, WV17, WXm, WXs, WV18, WV9, WV14, WXr, WV20, WV21, WV22, WV23, WV24, WU9, WU10. No condition. -/
import Derived.Test.YtkkcgocdmaodbaaGreatDoorM17
import Derived.Test.YtkkcgocdmaodbaaGreatDoorM8
import Derived.Test.YtkkcgocdmaodbaaGreatDoorM16
import Derived.Test.YtkkcgocdmaodbaaGreatDoorM10
import Derived.Test.YtkkcgocdmaodbaaGreatDoorM15
import Derived.Test.YtkkcgocdmaodbaaGreatDoorM7
import Derived.Test.YtkkcgocdmaodbaaGreatDoorM14
section
namespace Go.AL
open Go Go.RowKit
set_option maxRecDepth 4000
def badSp (ps:List Pr) (s:Spn3):Bool:=decide (s.1<0) || (decide ((ps.length:Int)≤s.1) || (decide (s.2.1<0) || (decide (s.2.2<s.2.1) || decide ((nev ps s.1.toNat:Int)<s.2.2))))
def dupSp (l:List Spn3) (i:Nat):Bool:=(l.take i).any fun x=>decide (x.1=(l.getD i (0,0,0)).1)
noncomputable def gvnE (ps:List Pr) (l:List Spn3):Int:=if validF ps=true then (if 1000<l.length then 5 else if l.any (badSp ps)=true then 2 else if (List.range l.length).any (dupSp l)=true then 8 else 0) else 1
def spN (s:Spn3):Stp:=(s.1.toNat,s.2.1.toNat,s.2.2.toNat)
theorem bad_not {ps:List Pr} {s:Spn3} (h:badSp ps s=false):SpIn ps (spN s)∧aSp s=aStp (spN s)∧s=stpI (spN s):=by
 obtain⟨p,f,t⟩:=s
 unfold badSp at h
 simp only[Bool.or_eq_false_iff,decide_eq_false_iff_not] at h
 obtain⟨h1,h2,h3,h4,h5⟩:=h
 have e1:((p.toNat:Nat):Int)=p:=by omega
 have e2:((f.toNat:Nat):Int)=f:=by omega
 have e3:((t.toNat:Nat):Int)=t:=by omega
 refine⟨⟨show p.toNat<ps.length by omega,show f.toNat≤t.toNat by omega,show t.toNat≤nev ps p.toNat by omega⟩,?_,?_⟩
 ·show AV.agg [ai p,ai f,ai t] = .agg [ai ((p.toNat:Nat):Int),ai ((f.toNat:Nat):Int),ai ((t.toNat:Nat):Int)]
  rw[e1,e2,e3]
 ·show (p,f,t)=(((p.toNat:Nat):Int),((f.toNat:Nat):Int),((t.toNat:Nat):Int))
  rw[e1,e2,e3]
theorem gvn_zero {ps:List Pr} {l:List Spn3} (h:gvnE ps l=0):validF ps=true∧l.length≤1000∧(∀s ∈ l,badSp ps s=false)∧∀i,i<l.length→dupSp l i=false:=by
 unfold gvnE at h
 split at h
 ·rename_i hv
  split at h
  ·cases h
  ·rename_i h1
   split at h
   ·cases h
   ·rename_i h2
    split at h
    ·cases h
    ·rename_i h3
     rw[Bool.not_eq_true,List.any_eq_false] at h2 h3
     exact⟨hv,by omega,fun s hs=>by simpa using h2 s hs,fun i hi=>by simpa using h3 i (List.mem_range.2 hi)⟩
 ·cases h
theorem strong_given1 (x s:Spn3):PC Proofs.Tryz.prog 117 [aSp x,.rp 3 [aSp s] 0 0] (ab (decide (x.1=s.1))):=by
 obtain⟨a,b,c⟩:=x
 obtain⟨d,e,f⟩:=s
 have h1:aSp (a,b,c) = .agg [ai a,ai b,ai c]:=rfl
 have h2:aSp (d,e,f) = .agg [ai d,ai e,ai f]:=rfl
 rw[h1,h2]
 refine PC.enter 9 [.tmp 3] [2] Proofs.Tryz.func117 rfl rfl rfl rfl rfl (by simp) (AWp.of ?_);simp only[go_sem]
 refine Wk ?_
 refine ret_eq ?_;simp only[go_sem]
theorem strong_given (ps:List Pr) (hs:Sm ps) (l:List Spn3) (hl:l.length≤9223372036854775806):PC Proofs.Tryz.prog 77 [aTr ps,aSps l] (ai (gvnE ps l)):=by
 have h1:=trace_Valid ps hs
 have hpl:=hs.procs
 have hR:aSps l = .sl 3 (l.map aSp):=rfl
 rw[hR]
 cases hv:validF ps with
 | false =>
  have hE:gvnE ps l=1:=by unfold gvnE;rw[hv];rfl
  rw[hv] at h1
  rw[hE]
  refine PC.enter 69 [.tmp 4] [2,6,8] Proofs.Tryz.func77 rfl rfl rfl rfl rfl (by simp) (AWp.of ?_);simp only[go_sem]
  refine Wk ?_
  refine Sd ?_
  refine(h1).val.use ?_;simp only[go_sem]
  refine Wk ?_
  refine ret_eq ?_;simp only[go_sem]
 | true =>
  rw[hv] at h1
  have hE0:gvnE ps l=if 1000<l.length then 5 else if l.any (badSp ps)=true then 2 else if (List.range l.length).any (dupSp l)=true then 8 else 0:=by unfold gvnE;rw[hv,if_pos rfl]
  by_cases hlen:1000<l.length
  ·have hli:(1000:Int)<(l.length:Int):=by omega
   rw[hE0,if_pos hlen]
   refine PC.enter 69 [.tmp 4] [2,6,8] Proofs.Tryz.func77 rfl rfl rfl rfl rfl (by simp) (AWp.of ?_);simp only[go_sem]
   refine Wk ?_
   refine Sd ?_
   refine(h1).val.use ?_;simp only[go_sem]
   refine W1 hli ?_
   refine ret_eq ?_;simp only[go_sem]
  ·have hli:¬(1000:Int)<(l.length:Int):=by omega
   rw[if_neg hlen] at hE0
   generalize gvnE ps l=E at *
   refine PC.enter 69 [.tmp 4] [2,6,8] Proofs.Tryz.func77 rfl rfl rfl rfl rfl (by simp) (AWp.of ?_);simp only[go_sem]
   refine Wk ?_
   refine Sd ?_
   refine(h1).val.use ?_;simp only[go_sem]
   refine W1 hli ?_
   refine AWp.range' l.length [] [1,2,17,18] (fun i vs L=>L=[]∧∀j (hj:j<l.length),j<i→badSp ps l[j]=false) (by omega) rfl rfl rfl ⟨rfl,fun _ _ h=>by omega⟩ ?_ ?_
   ·rintro i vs L hi - ⟨rfl,hI⟩
    have hgi:=getD_map (f:=aSp) hi
    have hbad:badSp ps l[i]=true→E=2:=fun h=>by
     rw[hE0,if_pos (List.any_eq_true.2 ⟨_,List.getElem_mem hi,h⟩)]
    have hI2:badSp ps l[i]=false→∀j (hj:j<l.length),j<i+1→badSp ps l[j]=false:=fun h j hj hji=>by
     by_cases e:j=i
     ·subst e;exact h
     ·exact hI j hj (by omega)
    clear hI
    generalize l[i]=s at *
    obtain⟨p,f,t⟩:=s
    have hgi:(l.map aSp).getD i .any = .agg [ai p,ai f,ai t]:=hgi
    have hB:badSp ps (p,f,t)=(decide (p<0) || (decide ((ps.length:Int)≤p) || (decide (f<0) || (decide (t<f) || decide ((nev ps p.toNat:Int)<t))))):=rfl
    have hev:0≤p∧p<ps.length→PC Proofs.Tryz.prog 115 [aTr ps,ai p] (ai (nev ps p.toNat:Nat)):=fun h=>by
     obtain⟨n,rfl⟩:∃n:Nat,p=n:=⟨p.toNat,by omega⟩
     have:=strong_events ps hs n (by omega)
     rw[Int.toNat_natCast];exact this
    generalize nev ps p.toNat=N at *
    simp only[go_sem]
    refine W1 hgi ?_
    intros
    repeat(first|(with_reducible refine AWp.seq ?_)|(with_reducible refine AWp.block ?_))
    refine AWp.read mixed [0,1,2,3,4,5,6,7,8,9,10,11,12,13,14,15,16,17,18,19,20,21,22,23,24,25,26,27,28,29,30,31] (by kernel_rfl) ?_;simp only[go_sem]
    refine Sd ?_
    refine GCall.use (ai (N:Nat)) (fun hg=>⟨At,(hev ?_).val.use ⟨rfl,rfl⟩⟩) ?_
    ·simp at hg
     omega
    simp only[go_sem]
    refine Wk ?_
    refine⟨fun h => ?_,fun h1 h2 h3 h4 h5 => ?_⟩
    ·have hb:badSp ps (p,f,t)=true:=by rw[hB];simp;omega
     rw[hbad hb]
     refine Wk ?_
     refine ret_eq ?_;simp only[go_sem]
    ·have hb:badSp ps (p,f,t)=false:=by rw[hB];simp;omega
     exact⟨_,List.Sublist.refl _,rfl,hI2 hb⟩
   ·rintro vs L - ⟨rfl,hI⟩
    have hnb:¬l.any (badSp ps)=true:=by
     rw[Bool.not_eq_true,List.any_eq_false]
     intro x hx
     obtain⟨j,hj,rfl⟩:=List.getElem_of_mem hx
     rw[hI j hj hj];decide
    rw[if_neg hnb] at hE0
    simp only[go_sem]
    refine Wk ?_
    refine AWp.range' l.length [] [1,56,57] (fun i vs L=>L=[]∧∀j,j<i→dupSp l j=false) (by omega) rfl rfl rfl ⟨rfl,fun _ h=>by omega⟩ ?_ ?_
    ·rintro i vs L hi - ⟨rfl,hJ⟩
     have hgi:=getD_map (f:=aSp) hi
     have hd:dupSp l i=(l.take i).any fun x=>decide (x.1=l[i].1):=by unfold dupSp;rw[List.getD_eq_getElem?_getD,List.getElem?_eq_getElem hi,Option.getD_some]
     have hcf:=spans_containsFuncB (l.take i) (by rw[List.length_take];omega) (.clo 117 [.rp 3 [aSp l[i]] 0 0]) rfl (fun x=>decide (x.1=l[i].1)) fun x _=>(strong_given1 x l[i]).clo
     rw[← hd] at hcf
     have htw:dupSp l i=true→E=8:=fun h=>by
      rw[hE0,if_pos (List.any_eq_true.2 ⟨i,List.mem_range.2 hi,h⟩)]
     have hJ2:dupSp l i=false→∀j,j<i+1→dupSp l j=false:=fun h j hji=>by
      by_cases e:j=i
      ·subst e;exact h
      ·exact hJ j (by omega)
     clear hJ hd
     generalize dupSp l i=D at *
     generalize l[i]=s at *
     obtain⟨p,f,t⟩:=s
     have hgi:(l.map aSp).getD i .any = .agg [ai p,ai f,ai t]:=hgi
     change PC _ _ [_,.clo _ [.rp 3 [.agg [ai p,ai f,ai t]] 0 0]] _ at hcf
     simp only[go_sem]
     refine W1 hgi ?_
     intros
     refine Wk ?_
     refine Sd ?_
     refine Sd ?_
     refine(hcf).val.use ?_;simp only[go_sem]
     cases D with
     | true =>
      rw[htw rfl]
      refine Wk ?_
      refine ret_eq ?_;simp only[go_sem]
     | false =>
      refine Wk ?_
      exact⟨_,List.Sublist.refl _,rfl,hJ2 rfl⟩
    ·rintro vs L - ⟨rfl,hJ⟩
     have hnd:¬(List.range l.length).any (dupSp l)=true:=by
      rw[Bool.not_eq_true,List.any_eq_false]
      intro x hx
      rw[hJ x (List.mem_range.1 hx)];decide
     rw[if_neg hnd] at hE0
     subst hE0
     simp only[go_sem]
     refine Wk ?_
     refine ret_eq ?_;simp only[go_sem]
theorem strong_all (ps:List Pr) (hs:Sm ps) (hv:validF ps=true) (l:List Stp) (hl:l.length≤1000000) (hin:∀s ∈ l,SpIn ps s):PC Proofs.Tryz.prog 79 [aTr ps,.sl 3 (l.map aStp)] (aStrs ps l):=by
 have hA:aStrs ps l = .sl 4 (l.map (aStr ps)):=rfl
 rw[hA]
 refine PC.enter 22 [.tmp 4] [2,7,18] Proofs.Tryz.func79 rfl rfl rfl rfl rfl (by simp) (AWp.of ?_);simp only[go_sem]
 refine Wk ?_
 refine AWp.range' l.length [5] [2,8,9] (fun k vs L=>∃v,vs=[v]∧AppSt 176 4 ((l.take k).map (aStr ps)) v L) (by omega) rfl rfl rfl ⟨anil,rfl,.nil⟩ ?_ ?_
 ·rintro k vs L hk - ⟨v,rfl,hAp⟩
  have hgk:=getD_map (f:=aStp) hk
  have hms:=strong_measured ps hs hv l[k] (hin _ (List.getElem_mem hk))
  have hfo:=hAp.fo
  have hyl:((l.take k).map (aStr ps)).length=k:=by rw[List.length_map,List.length_take];omega
  rw[List.take_succ_eq_append_getElem hk,List.map_append]
  have ea:[l[k]].map (aStr ps)=[aStr ps l[k]]:=rfl
  rw[ea]
  generalize l[k]=s at *
  obtain⟨p,f,t⟩:=s
  have hgk:(l.map aStp).getD k .any = .agg [ai p,ai f,ai t]:=hgk
  change PC _ _ [_,.agg [ai p,ai f,ai t]] _ at hms
  have hS:aStr ps (p,f,t) = .agg [ai p,ai f,ai t,pastV ps (p,f,t)]:=rfl
  rw[hS] at hms ⊢
  generalize (l.take k).map (aStr ps)=ys at *
  rcases hAp.inv with ⟨e3,rfl,rfl⟩|⟨bq,cap,rfl,rfl⟩
  ·subst e3
   simp only[go_sem]
   refine W1 hgk ?_
   intros
   refine Wk ?_
   refine Sd ?_
   refine(hms).val.use ?_;simp only[go_sem]
   refine Wk ?_
   intro b' cap' _
   exact⟨_,List.Sublist.refl _,_,rfl,.row _ _ _⟩
  ·simp only[go_sem]
   refine W1 hgk ?_
   intros
   refine Wk ?_
   refine Sd ?_
   refine(hms).val.use ?_;simp only[go_sem]
   refine Wk ?_
   intro b' cap' _
   refine⟨_,List.Sublist.refl _,_,rfl,?_⟩
   exact AppSt.snoc b' cap' _ rfl
 ·rintro vs L - ⟨v,rfl,hAp⟩
  rw[List.take_length] at hAp
  have hfo:=hAp.fo
  rcases hAp.inv with ⟨e3,rfl,rfl⟩|⟨bq,cap,rfl,rfl⟩
  ·simp only[go_sem]
   refine Wk ?_
   refine ret_view [] ?_;simp only[go_sem]
   rw[e3]
   exact .nil 4
  ·simp only[go_sem]
   refine Wk ?_
   refine ret_view [true] ?_;simp only[go_sem]
   exact Vw.ofLs (if_pos rfl) (List.length_map _).symm
def ovF (ps:List Pr) (l:List Stp):Bool:=(clI ps (fun _=>true) l).isNone
theorem ov_clash (ps:List Pr) (l:List Stp):∃x y:Int,aClash ps (fun _=>true) l = .tup [ai x,ai y,ab (!ovF ps l)]:=by
 unfold ovF
 cases h:clI ps (fun _=>true) l with
 | none =>
  refine⟨0,0,?_⟩
  unfold aClash;rw[h];rfl
 | some i =>
  obtain⟨k,hi,hk,_,_,_,e⟩:=clI_some h
  exact⟨i,k,e⟩
theorem ov_iff {ps:List Pr} {l:List Stp} : ovF ps l=true↔∀i k (hi:i<l.length) (hk:k<l.length),i ≠ k→bgN ps l[i] l[k]=true:=by
 unfold ovF
 constructor
 ·intro h i k hi hk hik
  rw[Option.isNone_iff_eq_none] at h
  exact clI_none h i k hi hk hik rfl
 ·intro h
  cases h1:clI ps (fun _=>true) l with
  | none=>rfl
  | some i =>
   obtain⟨k,hi,hk,hik,_,hb,_⟩:=clI_some h1
   rw[h i k hi hk hik] at hb;cases hb
theorem spN_len {l:List Spn3} : (l.map spN).length=l.length:=List.length_map _
theorem sps_stp {ps:List Pr} {l:List Spn3} (h:∀s ∈ l,badSp ps s=false):aSps l = .sl 3 ((l.map spN).map aStp)∧∀s ∈ l.map spN,SpIn ps s:=by
 refine⟨?_,fun s hs => ?_⟩
 ·show AV.sl 3 (l.map aSp)=_
  rw[List.map_map]
  congr 1
  exact List.map_congr_left fun s hs=>(bad_not (h s hs)).2.1
 ·obtain⟨x,hx,rfl⟩:=List.mem_map.1 hs
  exact(bad_not (h x hx)).1
theorem strong_Overlap (ps:List Pr) (hs:Sm ps) (l:List Spn3) (hl:l.length≤9223372036854775806):PC Proofs.Tryz.prog 42 [aTr ps,aSps l] (.tup [ab (decide (gvnE ps l=0) && ovF ps (l.map spN)),ai (gvnE ps l)]):=by
 have hg:=strong_given ps hs l hl
 by_cases h0:gvnE ps l=0
 ·obtain⟨hv,hl2,hb,_⟩:=gvn_zero h0
  obtain⟨hR,hin⟩:=sps_stp hb
  have hal:=strong_all ps hs hv (l.map spN) (by rw[spN_len];omega) hin
  have hcl:=strong_clash ps hs hv (l.map spN) (by rw[spN_len];omega) hin (.v (.func (.func 80) #[] #[])) rfl (fun _=>true) (fun s _=>(strong_anyStretch ps s).val)
  obtain⟨x,y,hc⟩:=ov_clash ps (l.map spN)
  rw[hc] at hcl
  rw[hR] at hg ⊢
  rw[h0] at hg ⊢
  have hA:aStrs ps (l.map spN) = .sl 4 ((l.map spN).map (aStr ps)):=rfl
  rw[hA] at hal hcl
  rw[decide_eq_true rfl,Bool.true_and]
  generalize ovF ps (l.map spN)=B at *
  refine PC.enter 26 [.tmp 4,.tmp 5] [2] Proofs.Tryz.func42 rfl rfl rfl rfl rfl (by simp) (AWp.of ?_);simp only[go_sem]
  refine Wk ?_
  refine Sd ?_
  refine(hg).val.use ?_;simp only[go_sem]
  refine Wk ?_
  refine Sd ?_
  refine(hal).val.use ?_;simp only[go_sem]
  refine Sd ?_
  refine(hcl).val.use ?_;simp only[go_sem]
  refine Wk ?_
  refine ret_eq ?_;simp only[go_sem]
 ·rw[decide_eq_false h0,Bool.false_and]
  have hR:aSps l = .sl 3 (l.map aSp):=rfl
  rw[hR] at hg ⊢
  generalize gvnE ps l=E at *
  refine PC.enter 26 [.tmp 4,.tmp 5] [2] Proofs.Tryz.func42 rfl rfl rfl rfl rfl (by simp) (AWp.of ?_);simp only[go_sem]
  refine W1 h0 ?_
  refine Sd ?_
  refine(hg).val.use ?_;simp only[go_sem]
  refine W1 h0 ?_
  refine ret_eq ?_;simp only[go_sem]
theorem events_indexFuncB (l:List Ev) (hl:l.length≤9223372036854775807) (g:AV) (hgf:fo g=(True,g)) (p:Ev→Bool) (hg:∀x ∈ l,PV Proofs.Tryz.prog g [aEv x] (ab (p x))) :
  PC Proofs.Tryz.prog 85 [aEvs l,g] (ai (match l.findIdx? p with|some i=>(i:Int)|none => -1)):=by
 refine PC.enter 19 [.tmp 4] [] Proofs.Tryz.func85 rfl rfl rfl rfl rfl (by simp) (AWp.of ?_);simp only[go_sem]
 refine Sd ?_
 refine AWp.of ?_;simp only[go_sem]
 refine AWp.range1' l.length [] [0,1,7] (fun k vs L=>L=[]∧∀i (h:i<l.length),i<k→p l[i]=false) (by omega) rfl rfl rfl ⟨rfl,by omega⟩ ?_ ?_
 ·rintro k vs L' hk hvs ⟨rfl,hI⟩
  simp only[go_sem]
  refine Sd ?_
  refine AWp.of ?_;simp only[go_sem]
  have hgk:=hg l[k] (List.getElem_mem hk)
  try simp only[go_sem,aEv] at hgk
  refine Sd ?_
  refine AWp.of ?_;simp only[go_sem,getD_map hk,hgf,aEv]
  refine⟨⟨by omega,by omega⟩,hk,hgk.use (AWp.of ?_)⟩;simp only[go_sem]
  refine⟨fun ht => ?_,fun hf => ?_⟩
  ·refine Sd ?_
   refine AWp.of ?_;simp only[go_sem]
   refine ret_eq ?_;simp only[go_sem]
   have:l.findIdx? p=some k:=by rw[List.findIdx?_eq_some_iff_getElem];exact⟨hk,ht,fun j hj=>by simpa using hI j (by omega) hj⟩
   rw[this]
  ·refine⟨[],List.Sublist.refl _,rfl,fun i h hi => ?_⟩
   by_cases e:i=k
   ·subst e;exact hf
   ·exact hI i h (by omega)
 ·rintro vs L' hvs ⟨rfl,hI⟩
  simp only[go_sem]
  refine Sd ?_
  refine AWp.of ?_;simp only[go_sem]
  refine Sd ?_
  refine AWp.of ?_;simp only[go_sem]
  refine ret_eq ?_;simp only[go_sem]
  have:l.findIdx? p=none:=by rw[List.findIdx?_eq_none_iff];intro x hx;obtain⟨i,hi,rfl⟩:=List.getElem_of_mem hx;exact hI i hi hi
  rw[this]
theorem events_containsFuncB (l:List Ev) (hl:l.length≤9223372036854775807) (g:AV) (hgf:fo g=(True,g)) (p:Ev→Bool) (hg:∀x ∈ l,PV Proofs.Tryz.prog g [aEv x] (ab (p x))) :
  PC Proofs.Tryz.prog 48 [aEvs l,g] (ab (l.any p)):=by
 refine PC.enter 9 [.tmp 4] [] Proofs.Tryz.func48 rfl rfl rfl rfl rfl (by simp) (AWp.of ?_);simp only[go_sem]
 refine Sd ?_
 refine AWp.of ?_;simp only[go_sem,hgf]
 refine(events_indexFuncB l hl g hgf p hg).val.use ?_
 simp only[go_sem]
 refine Sd ?_
 refine AWp.of ?_;simp only[go_sem]
 refine ret_eq ?_;simp only[go_sem]
 congr 2;exact findIdx_any l p
theorem trace_FaultB (ps:List Pr) (hs:Smh ps) (hb:∃p,p<ps.length∧procF ps p ≠ 0):PC Proofs.Tryz.prog 101 [aTr ps] (aFault (faultF ps)):=by
 have hl:=hs.procs
 refine PC.enter 66 [.cell 2 72,.cell 3 32] [1,6,7,10,12] Proofs.Tryz.func101 rfl rfl rfl rfl rfl (by simp) (AWp.of ?_);simp only[go_sem]
 intro b2
 intro b3 h3
 have n23:¬b2=b3:=by omega
 refine Sd ?_
 refine AWp.of ?_;simp only[go_sem]
 refine Sd ?_
 refine(trace_in _ _ _).val.use ?_;simp only[go_sem]
 refine W1 n23 ?_
 refine⟨fun h1 => ?_,fun h1 => ?_⟩
 ·refine W1 n23 ?_
  have hf:faultF ps=((0,0),1):=by unfold faultF;rw[if_pos (by simp [h1])]
  rw[hf]
  refine ret_eq ?_
  simp only[go_sem,n23]
 ·refine Wk ?_
  refine AWp.range' ps.length [] [1,2,3,22] (fun k vs L=>L=[(b3,.row 32 1 [ai 0] 1),(b2,.row 72 2 [aEid (0,0)] 1)]∧∀j,j<k→procF ps j=0) (by omega) rfl rfl rfl ⟨rfl,by omega⟩ ?_ ?_
  ·rintro k vs L' hk - ⟨rfl,hI⟩
   simp only[go_sem]
   refine Sd ?_
   refine AWp.of ?_;simp only[go_sem]
   refine Wk ?_
   refine Sd ?_
   refine(trace_processFaultH ps hs k hk).val.use ?_;simp only[go_sem]
   refine W1 n23 ?_
   refine⟨fun h2 => ?_,fun h2 => ?_⟩
   ·refine W1 n23 ?_
    have hf:faultF ps=(((k:Int),0),procF ps k):=by unfold faultF;rw[if_neg (by simp [h1]),procFirst_hit hk hI h2]
    rw[hf]
    refine ret_eq ?_
    simp only[go_sem,n23]
   ·refine⟨_,List.Sublist.refl _,rfl,fun j hj => ?_⟩
    by_cases e:j=k
    ·rw[e];exact h2
    ·exact hI j (by omega)
  ·rintro vs L' - ⟨rfl,hI⟩
   obtain⟨p,hp,h⟩:=hb
   exact absurd (hI p hp) h
theorem ref12_FaultB (ps:List Pr) (hs:Smh ps) (hb:∃p,p<ps.length∧procF ps p ≠ 0):PC Proofs.Tryz.prog 50 [aTr ps] (aFault (faultF ps)):=by
 have hl:=hs.procs
 refine PC.enter 137 [.cell 2 72,.tmp 3] [1,11,15] Proofs.Tryz.func50 rfl rfl rfl rfl rfl (by simp) (AWp.of ?_);simp only[go_sem]
 intro b2
 refine Wk ?_
 refine Wk ?_
 refine⟨fun h1 => ?_,fun h1 => ?_⟩
 ·refine Wk ?_
  have hf:faultF ps=((0,0),1):=by
   unfold faultF
   rw[if_pos]
   unfold inI
   rw[Bool.not_eq_true',← Bool.not_eq_true,Bool.and_eq_true,decide_eq_true_eq,decide_eq_true_eq]
   omega
  rw[hf]
  refine ret_eq ?_
  simp only[go_sem]
 ·intro h1'
  have hin:¬((!inI ps.length 1 8)=true):=by
   unfold inI
   rw[Bool.not_eq_true',← Bool.not_eq_true,Bool.and_eq_true,decide_eq_true_eq,decide_eq_true_eq]
   omega
  refine Wk ?_
  refine AWp.block (AWp.count 4 ps.length [] [1,2] (fun k vs L=>L=[(b2,.row 72 2 [aEid (0,0)] 1)]∧∀j,j<k→procF ps j=0) rfl rfl ⟨by simp [aEid],by omega⟩ ?_)
  rintro k vs L hk - ⟨rfl,hI⟩
  simp only[go_sem]
  refine Wk ?_
  refine⟨fun h2 => ?_,fun h2 => ?_⟩
  ·have hkp:k<ps.length:=by omega
   refine Wk ?_
   refine Sd ?_
   refine(ref12_headH ps hs k hkp).val.use ?_;simp only[go_sem]
   refine Wk ?_
   refine⟨fun h3 => ?_,fun h3 => ?_⟩
   ·refine Wk ?_
    have hf:faultF ps=(((k:Int),0),procF ps k):=by unfold faultF;rw[if_neg hin,procFirst_hit hkp hI h3]
    rw[hf]
    refine ret_eq ?_
    simp only[go_sem]
   ·refine Wk ?_
    refine⟨_,List.Sublist.refl _,rfl,fun j hj => ?_⟩
    by_cases e:j=k
    ·rw[e];exact h3
    ·exact hI j (by omega)
  ·obtain⟨p,hp,h⟩:=hb
   exact absurd (hI p (by omega)) h
theorem procF_evs {ps:List Pr} {p:Nat} (hp:p<ps.length) (h:64<ps[p].evs.length):procF ps p ≠ 0:=by
 have hpf:procF ps p=if !nameOk ps[p].name || (ps.take p).any (fun y=>decide (y.name=ps[p].name)) then 13 else if 8<ps[p].vars.length then 5 else
   if fstF (varF ps[p].vars) ps[p].vars.length ≠ 0 then fstF (varF ps[p].vars) ps[p].vars.length else if 64<ps[p].evs.length then 5 else 0:=by
  unfold procF;rw[List.getElem?_eq_getElem hp]
 rw[hpf]
 split
 ·decide
 ·split
  ·decide
  ·split
   ·assumption
   ·first|decide|(rw[if_pos h];decide)
theorem valid_bad {ps:List Pr} (hb:∃p,p<ps.length∧procF ps p ≠ 0):validF ps=false:=by
 cases hv:validF ps with
 | false=>rfl
 | true =>
  obtain⟨p,hp,h⟩:=hb
  exact absurd (procF_of_valid hv hp) h
theorem trace_ValidB (ps:List Pr) (hs:Smh ps) (hb:∃p,p<ps.length∧procF ps p ≠ 0):PC Proofs.Tryz.prog 58 [aTr ps] (ab (validF ps)):=by
 refine PC.enter 12 [.tmp 2] [1,3] Proofs.Tryz.func58 rfl rfl rfl rfl rfl (by simp) (AWp.of ?_);simp only[go_sem]
 refine Wk ?_
 refine Sd ?_
 refine(trace_FaultB ps hs hb).val.use ?_;simp only[go_sem]
 refine Sd ?_
 intros
 refine AWp.of ?_;simp only[go_sem]
 refine Wk ?_
 refine ret_eq ?_;simp only[go_sem]
 rfl
theorem ref12_ValidB (ps:List Pr) (hs:Smh ps) (hb:∃p,p<ps.length∧procF ps p ≠ 0):PC Proofs.Tryz.prog 22 [aTr ps] (ab (validF ps)):=by
 refine PC.enter 12 [.tmp 2] [1,3] Proofs.Tryz.func22 rfl rfl rfl rfl rfl (by simp) (AWp.of ?_);simp only[go_sem]
 refine Wk ?_
 refine Sd ?_
 refine(ref12_FaultB ps hs hb).val.use ?_;simp only[go_sem]
 refine Sd ?_
 intros
 refine AWp.of ?_;simp only[go_sem]
 refine Wk ?_
 refine ret_eq ?_;simp only[go_sem]
 rfl
theorem valid_nev {ps:List Pr} (hv:validF ps=true) {p:Nat} (hp:p<ps.length):nev ps p≤64:=by
 rw[nev_get hp]
 apply Classical.byContradiction
 intro h4
 exact procF_evs hp (by omega) (procF_of_valid hv hp)
theorem chn_iff {ps:List Pr} : ∀ {r:List (List Int)} {a:List Int},chnF ps a r=true↔∀j (h:j<r.length),isF ps r[j]=true∧0≤stepF ((a :: r)[j]'(by rw[List.length_cons];omega)) r[j]
 | [],a=>⟨fun _ j h=>absurd h (by simp),fun _=>rfl⟩
 | b :: r,a=>by
  have e:chnF ps a (b :: r)=((isF ps b && decide (0≤stepF a b)) && chnF ps b r):=rfl
  rw[e,Bool.and_eq_true,Bool.and_eq_true,decide_eq_true_eq,chn_iff]
  constructor
  ·rintro⟨h1,h2⟩ j hj
   cases j with
   | zero=>exact h1
   | succ j=>exact h2 j (by simpa using hj)
  ·intro h
   exact⟨h 0 (by simp),fun j hj=>h (j+1) (by simpa using hj)⟩
theorem valid_off {ps:List Pr} (hv:validF ps=true):off ps ps.length≤512:=by
 have h:∀k,k≤ps.length→off ps k≤64 * k:=fun k=>by
  induction k with
  | zero=>intro _;simp [off]
  | succ k ih =>
   intro hk
   have h1:=off_succ (show k<ps.length by omega)
   have h2:=ih (by omega)
   have h3:ps[k].evs.length≤64:=by
    apply Classical.byContradiction
    intro h4
    exact procF_evs (show k<ps.length by omega) (by omega) (procF_of_valid hv (by omega))
   omega
 have:=h ps.length (Nat.le_refl _)
 have:=(valid_len hv).2
 omega
theorem MCalls.toS {P:Program} {f:FuncId} {args:List AV} {K:AV→AHeap→Prop} {S:AV→Prop} (h:MCalls P f args [] K) (hv:∀r L,K r L→∃r0,Vw L r r0∧S r0):MCalls P f args [] fun r L=>L=[]∧S r :=
 ⟨h.1,fun n w A vs hL hr=>(h.2 n w A vs hL hr).mono fun e w' ⟨v,r,L',A',he,hK,hf,hA,hL',hk,hr'⟩=>by
  obtain⟨r',hvw,hS⟩:=hv r L' hK
  exact⟨v,r',[],fun b=>A' b∨keysOf L' b,he,⟨rfl,hS⟩,hf,fun b hb=>hb.elim (hA b) (fun ⟨x,hx,e⟩=>by subst e;exact(hk x hx).elim (fun ⟨y,hy,_⟩=>by cases hy) (fun h => .inr (.inr h))),hL'.viewed (Lf:=L') (Lk:=[]) (by simp) .nil,(by intro x hx;cases hx),hL'.view (Lf:=L') (Lk:=[]) (by simp) hvw hr'⟩⟩
def mixJ (J c:List Int) (i:Nat):List Int:=J.take i ++ c.drop i
theorem mixJ_len {J c:List Int} (h:J.length=c.length) {i:Nat} (hi:i≤c.length):(mixJ J c i).length=c.length:=by unfold mixJ;rw[List.length_append,List.length_take,List.length_drop];omega
theorem mixJ_get {J c:List Int} (h:J.length=c.length) {i:Nat} (hi:i<c.length):(mixJ J c i)[i]'(by rw[mixJ_len h (by omega)];exact hi)=c[i]:=by
 unfold mixJ
 rw[List.getElem_append_right (by rw[List.length_take];omega),List.getElem_drop]
 congr 1
 rw[List.length_take];omega
theorem mixJ_set {J c:List Int} (h:J.length=c.length) {i:Nat} (hi:i<c.length):(mixJ J c i).set i (J[i]'(by omega))=mixJ J c (i+1):=by
 unfold mixJ
 rw[List.set_append_right _ _ (by rw[List.length_take];omega),List.length_take,show i - min i J.length=0 by omega,← List.getElem_cons_drop hi,List.set_cons_zero,List.take_succ_eq_append_getElem (by omega),List.append_assoc]
 rfl
theorem mixJ_zero (J c:List Int):mixJ J c 0=c:=by unfold mixJ;simp
theorem mixJ_full {J c:List Int} (h:J.length=c.length):mixJ J c c.length=J:=by unfold mixJ;rw[List.drop_length,List.append_nil,← h,List.take_length]
theorem tgt_least {α:Type} {bg:α→α→Bool} {len:Nat→Nat} {f:Nat→Nat→α} {n:Nat} (hm:MonB bg len f n) {t:Nat→Nat} (ht:Tgt bg len f n t):∀(m:Nat) (a:Nat→Nat),(∀t,Tgt bg len f n t→∀p,p<n→a p≤t p)→totS n (fun p=>t p - a p)≤m→∃a,LeastT bg len f n a:=by
 intro m
 induction m with
 | zero =>
  intro a ha h0
  by_cases hT:Tgt bg len f n a
  ·exact⟨a,hT,ha⟩
  ·exfalso
   obtain⟨p,q,hp,hq,hpq,hb⟩:∃p q,p<n∧q<n∧p ≠ q∧bg (f p (a p)) (f q (a q))=false:=by
    apply Classical.byContradiction
    intro hn
    refine hT ⟨fun p hp=>Nat.lt_of_le_of_lt (ha t ht p hp) (ht.1 p hp),fun p q hp hq hpq => ?_⟩
    cases hb:bg (f p (a p)) (f q (a q)) with
    | true=>rfl
    | false=>exact absurd ⟨p,q,hp,hq,hpq,hb⟩ hn
   have h1:=tgt_step hm ha hp hq hpq hb t ht q hq
   rw[if_pos rfl] at h1
   have h2:totS n (fun _=>0)<totS n (fun p=>t p - a p):=totS_lt2 n (p:=q) (fun _ _=>Nat.zero_le _) hq (by show 0<t q - a q;omega)
   omega
 | succ m ih =>
  intro a ha h0
  by_cases hT:Tgt bg len f n a
  ·exact⟨a,hT,ha⟩
  ·obtain⟨p,q,hp,hq,hpq,hb⟩:∃p q,p<n∧q<n∧p ≠ q∧bg (f p (a p)) (f q (a q))=false:=by
    apply Classical.byContradiction
    intro hn
    refine hT ⟨fun p hp=>Nat.lt_of_le_of_lt (ha t ht p hp) (ht.1 p hp),fun p q hp hq hpq => ?_⟩
    cases hb:bg (f p (a p)) (f q (a q)) with
    | true=>rfl
    | false=>exact absurd ⟨p,q,hp,hq,hpq,hb⟩ hn
   have hs:=tgt_step hm ha hp hq hpq hb
   have h1:=hs t ht q hq
   rw[if_pos rfl] at h1
   refine ih (fun r=>if r=q then a q+1 else a r) hs ?_
   have h2:totS n (fun r=>t r - (if r=q then a q+1 else a r))<totS n (fun p=>t p - a p):=totS_lt2 n (p:=q) (fun r _=>by
    show t r - (if r=q then a q+1 else a r)≤t r - a r
    split
    ·rename_i e;subst e;omega
    ·exact Nat.le_refl _) hq (by show t q - (if q=q then a q+1 else a q)<t q - a q;rw[if_pos rfl];omega)
   omega
theorem least_ex {ps:List Pr} {b:Nat→Nat→Bool} {rows:Nat→List Stp} (hR:RowsOk ps b rows) (h:∃t,TgtS ps rows t):∃a,LeastS ps rows a:=by
 obtain⟨t,ht⟩:=h
 exact tgt_least (mon_rows hR) ht _ (fun _=>0) (fun _ _ _ _=>Nat.zero_le _) (Nat.le_refl _)
def asg12 (e:Ev):Bool:=decide (12<(e.asg.length:Int))
def smP (x:Pr):Bool:=!(decide (12<(x.vars.length:Int)) || x.evs.any asg12)
def smW (ps:List Pr):Nat→Int
 | 0=>0
 | k+1=>addW (smW ps k) (nev ps k)
def smF (ps:List Pr) (m:Int):Bool:=decide (ps.length≤10) && (ps.all smP && decide (smW ps ps.length≤m))
theorem smF_cases {ps:List Pr} {m:Int} (h:smF ps m=true):Sm ps∨(Smh ps∧∃p,p<ps.length∧procF ps p ≠ 0):=by
 unfold smF at h
 rw[Bool.and_eq_true,Bool.and_eq_true,decide_eq_true_eq,List.all_eq_true] at h
 obtain⟨h1,h2,_⟩:=h
 have h3:∀p ∈ ps,p.vars.length≤12∧∀e ∈ p.evs,e.asg.length≤12:=fun p hp=>by
  have:=h2 p hp
  unfold smP at this
  rw[Bool.not_eq_true',Bool.or_eq_false_iff,decide_eq_false_iff_not,List.any_eq_false] at this
  refine⟨by omega,fun e he => ?_⟩
  have:=this.2 e he
  unfold asg12 at this
  simp at this
  omega
 by_cases hb:∃p,∃h:p<ps.length,64<ps[p].evs.length
 ·obtain⟨p,hp,hb⟩:=hb
  exact .inr ⟨⟨by omega,fun p hp=>by have:=(h3 p hp).1;omega⟩,p,hp,procF_evs hp hb⟩
 ·refine .inl ⟨by omega,fun p hp => ?_,fun p hp=>by have:=(h3 p hp).1;omega,fun p hp e he=>by have:=(h3 p hp).2 e he;omega⟩
  obtain⟨i,hi,rfl⟩:=List.getElem_of_mem hp
  apply Classical.byContradiction
  intro h4
  exact hb ⟨i,hi,by omega⟩
theorem smW_in (ps:List Pr):∀k,-9223372036854775808≤smW ps k∧smW ps k≤9223372036854775807
 | 0=>by show -9223372036854775808≤(0:Int)∧(0:Int)≤9223372036854775807;omega
 | k+1=>by
  show -9223372036854775808≤addW (smW ps k) (nev ps k)∧addW (smW ps k) (nev ps k)≤9223372036854775807
  unfold addW
  rw[IntKind.wrap_i64]
  omega
section
variable {ps:List Pr} (hva:PC Proofs.Tryz.prog 58 [aTr ps] (ab false))
include hva
end
structure Vd (ps:List Pr):Prop where
 val:PC Proofs.Tryz.prog 58 [aTr ps] (ab (validF ps))
 rval:PC Proofs.Tryz.prog 22 [aTr ps] (ab (validF ps))
 sm:validF ps=true→Sm ps
 big:Sm ps∨validF ps=false
theorem vd_of {ps:List Pr} {m:Int} (h:smF ps m=true):Vd ps:=by
 rcases smF_cases h with h|⟨h,hb⟩
 ·exact⟨trace_Valid ps h,ref12_Valid ps h,fun _=>h,.inl h⟩
 ·exact⟨trace_ValidB ps h hb,ref12_ValidB ps h hb,fun hv=>absurd hv (by rw[valid_bad hb];simp),.inr (valid_bad hb)⟩
mutual
def hugeF:Pd→Int→Int→Int
 | .mk _ _ _ _ _ l,d,c=>hugeL l (d+1) (if 40<d then 1000 else c+1)
def hugeL:List Pd→Int→Int→Int
 | [],_,c=>c
 | x :: r,d,c=>if c≤300 then hugeL r d (hugeF x d c) else c
end
theorem AWp.slLen {C:Cfg} {Q:AQ} {ρ:Env} {L:AHeap} {c:Code} {k j:Nat} {xs:List AV} (hj:get ρ j = .sl k xs) (h:xs.length≤9223372036854775807→AWp C c Q ρ L):AWp C c Q ρ L:=fun hok n w0 M A0 a w hs=>by
 obtain⟨A,ds,hs'⟩:=st_iff.1 hs
 have hr:=hs'.env j
 rw[hj] at hr
 have hle:xs.length≤9223372036854775807:=by
  have hm:maxLen=9223372036854775807:=rfl
  rcases hr.inv_sl with ⟨rfl,_⟩|⟨b,off,cap,_,_,h1,h2,_⟩
  ·exact Nat.zero_le _
  ·omega
 exact h hle hok n w0 M A0 a w hs
mutual
def nodF:Pd→Int→Int→Int
 | .mk _ _ _ _ _ l,m,d=>if 40<d then m else nodL l m d 1
def nodL:List Pd→Int→Int→Int→Int
 | [],_,_,n=>n
 | x :: r,m,d,n=>if m≤n+nodF x (m - n) (d+1) then m else nodL r m d (n+nodF x (m - n) (d+1))
end
theorem spans_equal (a b:List Spn3) (ha:a.length≤1000000):PC Proofs.Tryz.prog 26 [aSps a,aSps b] (ab (decide (a=b))):=by
 have haE:∀l:List Spn3,aSps l = .sl 3 (l.map aSp):=fun _=>rfl
 rw[haE,haE]
 refine PC.enter 26 [.tmp 4] [] Proofs.Tryz.func26 rfl rfl rfl rfl rfl (by simp) (AWp.of ?_);simp only[go_sem]
 refine Wk ?_
 refine⟨fun h1 => ?_,fun h1 => ?_⟩
 ·refine Wk ?_
  refine ret_eq ?_;simp only[go_sem]
  congr 2;symm;apply decide_eq_false;rintro rfl;exact h1 rfl
 ·have hab:a.length=b.length:=by omega
  refine Sd ?_
  refine AWp.of ?_;simp only[go_sem]
  refine AWp.range' a.length [] [0,1,12] (fun k vs L=>L=[]∧∀(i:Nat) (hi:i<a.length),i<k→a[i]=b[i]) (by omega) rfl rfl rfl ⟨rfl,by omega⟩ ?_ ?_
  ·rintro k vs L' hk - ⟨rfl,hI⟩
   have hkb:k<b.length:=by omega
   have ga:=getD_map (f:=aSp) hk
   have gb:=getD_map (f:=aSp) hkb
   obtain⟨x1,x2,x3,hx⟩:∃x1 x2 x3,a[k]=(x1,x2,x3):=⟨_,_,_,rfl⟩
   obtain⟨y1,y2,y3,hy⟩:∃y1 y2 y3,b[k]=(y1,y2,y3):=⟨_,_,_,rfl⟩
   rw[hx] at ga
   rw[hy] at gb
   change _=AV.agg [ai x1,ai x2,ai x3] at ga
   change _=AV.agg [ai y1,ai y2,ai y3] at gb
   have hxy:a[k]=b[k]↔(x1=y1∧x2=y2)∧x3=y3:=by rw[hx,hy];exact⟨fun h=>by cases h;exact⟨⟨rfl,rfl⟩,rfl⟩,fun h=>by rw[h.1.1,h.1.2,h.2]⟩
   simp only[go_sem]
   refine Wk ?_
   repeat(first|(with_reducible refine AWp.seq ?_)|(with_reducible refine AWp.block ?_))
   refine AWp.read mixed [0,1,2,3,4,5,6,7,8] (by kernel_rfl) ?_;simp only[go_sem,ga,gb]
   refine Sd ?_
   by_cases he:(x1=y1∧x2=y2)∧x3=y3
   ·have hst:∀(i:Nat) (hi:i<a.length),i<k+1→a[i]=b[i]:=fun i hi hik=>by
     by_cases e:i=k
     ·subst e;exact hxy.2 he
     ·exact hI i hi (by omega)
    obtain⟨⟨rfl,rfl⟩,rfl⟩:=he
    refine Wk ?_
    exact⟨_,List.Sublist.refl _,rfl,hst⟩
   ·have hne:¬a=b:=fun e=>he (hxy.1 (by subst e;rfl))
    rw[decide_eq_false hne]
    have hd:(decide (x1=y1) && (decide (x2=y2) && decide (x3=y3)))=false:=by rw[← Bool.decide_and,← Bool.decide_and];exact decide_eq_false fun h=>he ⟨⟨h.1,h.2.1⟩,h.2.2⟩
    rw[hd]
    refine Wk ?_
    refine ret_eq ?_;simp only[go_sem]
  ·rintro vs L' - ⟨rfl,hI⟩
   simp only[go_sem]
   refine Wk ?_
   refine ret_eq ?_;simp only[go_sem]
   congr 2;symm;apply decide_eq_true
   exact List.ext_getElem hab fun i hi _=>hI i hi hi
theorem dup_no {l:List Spn3} {i:Nat} (hi:i<l.length) (h:∀k (hk:k<i),l[i].1 ≠ (l[k]'(by omega)).1):dupSp l i=false:=by
 unfold dupSp
 rw[List.any_eq_false]
 intro x hx
 obtain⟨k,hk,rfl⟩:=List.mem_take_iff_getElem.1 hx
 rw[decide_eq_true_eq,List.getD_eq_getElem?_getD,List.getElem?_eq_getElem hi,Option.getD_some]
 exact fun e=>h k (by omega) e.symm
theorem bools_index (bs:List Bool) (hl:bs.length≤1000001):PC Proofs.Tryz.prog 76 [.sl 1 (bs.map ab),ab false] (ai (match bs.findIdx? (fun x => !x) with|some i=>(i:Int)|none => -1)):=by
 refine PC.enter 19 [.tmp 4] [] Proofs.Tryz.func76 rfl rfl rfl rfl rfl (by simp) (AWp.of ?_);simp only[go_sem]
 refine Wk ?_
 refine(AWp.range' bs.length [] [0,1,7] (fun k vs L=>L=[]∧∀i (h:i<bs.length),i<k→bs[i]=true) (by omega) rfl rfl rfl ⟨rfl,fun _ _ h=>by omega⟩ ?_ ?_)
 ·rintro k vs L hk - ⟨rfl,hI⟩
  have hg:=getD_map (f:=ab) hk
  have hx:bs[k]=false→bs.findIdx? (fun x => !x)=some k:=fun h=>by
   rw[List.findIdx?_eq_some_iff_getElem];exact⟨hk,by rw[h];rfl,fun j hj=>by rw[hI j (by omega) hj];decide⟩
  have hI2:bs[k]=true→∀i (h:i<bs.length),i<k+1→bs[i]=true:=fun h i hi hik=>by
   by_cases e:i=k
   ·subst e;exact h
   ·exact hI i hi (by omega)
  generalize bs[k]=B at *
  simp only[go_sem]
  cases B with
  | true =>
   refine W1 hg ?_
   exact⟨_,List.Sublist.refl _,rfl,hI2 rfl⟩
  | false =>
   rw[hx rfl]
   refine W1 hg ?_
   refine ret_eq ?_;simp only[go_sem]
 ·rintro vs L - ⟨rfl,hI⟩
  have:bs.findIdx? (fun x => !x)=none:=by rw[List.findIdx?_eq_none_iff];intro x hx;obtain⟨i,hi,rfl⟩:=List.getElem_of_mem hx;rw[hI i hi hi];rfl
  rw[this]
  simp only[go_sem]
  refine Wk ?_
  refine ret_eq ?_;simp only[go_sem]
theorem bools_contains (bs:List Bool) (hl:bs.length≤1000001):PC Proofs.Tryz.prog 41 [.sl 1 (bs.map ab),ab false] (ab (bs.any fun x => !x)):=by
 have h1:=bools_index bs hl
 refine PC.enter 9 [.tmp 4] [] Proofs.Tryz.func41 rfl rfl rfl rfl rfl (by simp) (AWp.of ?_);simp only[go_sem]
 refine Wk ?_
 refine Sd ?_
 refine(h1).val.use ?_;simp only[go_sem]
 refine Wk ?_
 refine ret_eq ?_;simp only[go_sem]
 congr 2;exact findIdx_any bs fun x => !x
theorem evtG_len:∀(R:List (List Int)) (c:List Int),(evtG c R).length=R.length
 | [],_=>rfl
 | b :: R,c=>by
  show (evtG b R).length+1=_
  rw[evtG_len R b];rfl
end Go.AL
end
