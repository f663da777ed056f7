/- Texts of this claim's proof: WY12, WY13. No condition. -/
import Derived.Test.YtkkcgocdmaodbaaGreatDoorM21
import Derived.Test.YtkkcgocdmaodbaaGreatDoorM17
import Derived.Test.YtkkcgocdmaodbaaGreatDoorM18
section
namespace Go.AL
open Go Go.RowKit
set_option maxRecDepth 4000
def aSts (l:List Stp):AV:=.sl 3 (l.map aStp)
def aStss (l:List (List Stp)):AV:=.sl 1 (l.map aSts)
theorem sts_cloneO (l:List (List Stp)) (hl:l.length≤1000000):MCalls Proofs.Tryz.prog 61 [aStss l] [] fun r L=>AppSt 49 1 (l.map aSts) r L:=by
 refine MCalls.enter' 8 [.tmp 2] [] Proofs.Tryz.func61 rfl rfl rfl rfl rfl (by simp) (AWp.of ?_);simp only[go_sem]
 repeat(first|((with_reducible refine AWp.ofC ?_ ?_);exact rfl;simp only[go_sem,aStss])|((with_reducible refine an ?_ ?_);exact Au))
 intro b hb
 refine Wk ?_
 refine⟨fun ht => ?_,fun hf => ?_⟩
 ·have:l=[]:=by
   by_cases h:l=[]
   ·exact h
   ·rw[hb (by simpa using h)] at ht;cases ht
  subst this
  repeat(first|((with_reducible refine AWp.ofC ?_ ?_);exact rfl;simp only[go_sem])|((with_reducible refine an ?_ ?_);exact Au))
  refine ret_own ?_
  simp only[go_sem]
  exact .nil
 ·repeat(first|((with_reducible refine AWp.ofC ?_ ?_);exact rfl;simp only[go_sem])|((with_reducible refine an ?_ ?_);exact Au))
  intros
  refine Sd ?_
  intros
  repeat(first|((with_reducible refine AWp.ofC ?_ ?_);exact rfl;simp only[go_sem])|((with_reducible refine an ?_ ?_);exact Au))
  refine ret_own ?_
  simp only[go_sem]
  have e:l.length=(l.map aSts).length:=by simp
  rw[e];exact .row _ _ _
theorem sts_indexFunc (l:List (List Stp)) (hl:l.length≤1000000) (g:AV) (hgf:fo g=(True,g)) (p:(List Stp)→Bool) (hg:∀x ∈ l,PV Proofs.Tryz.prog g [aSts x] (ab (p x))) :
  PC Proofs.Tryz.prog 103 [aStss l,g] (ai (match l.findIdx? p with|some i=>(i:Int)|none => -1)):=by
 refine PC.enter 19 [.tmp 4] [] Proofs.Tryz.func103 rfl rfl rfl rfl rfl (by simp) (AWp.of ?_);simp only[go_sem]
 refine Sd ?_
 refine AWp.of ?_;simp only[go_sem,aStss]
 refine AWp.range' l.length [] [0,1,7] (fun k vs L=>L=[]∧∀i (h:i<l.length),i<k→p l[i]=false) (by omega) rfl rfl rfl ⟨rfl,by omega⟩ ?_ ?_
 ·rintro k vs L' hk hvs ⟨rfl,hI⟩
  simp only[go_sem]
  refine Sd ?_
  refine AWp.of ?_;simp only[go_sem]
  have hgk:=hg l[k] (List.getElem_mem hk)
  try simp only[go_sem,aSts] at hgk
  refine Sd ?_
  refine AWp.of ?_;simp only[go_sem,getD_map hk,hgf,aSts]
  refine⟨⟨by omega,by omega⟩,hk,hgk.use (AWp.of ?_)⟩;simp only[go_sem]
  refine⟨fun ht => ?_,fun hf => ?_⟩
  ·refine Sd ?_
   refine AWp.of ?_;simp only[go_sem]
   refine ret_eq ?_;simp only[go_sem]
   have:l.findIdx? p=some k:=by rw[List.findIdx?_eq_some_iff_getElem];exact⟨hk,ht,fun j hj=>by simpa using hI j (by omega) hj⟩
   rw[this]
  ·refine⟨[],List.Sublist.refl _,rfl,fun i h hi => ?_⟩
   by_cases e:i=k
   ·subst e;exact hf
   ·exact hI i h (by omega)
 ·rintro vs L' hvs ⟨rfl,hI⟩
  simp only[go_sem]
  refine Sd ?_
  refine AWp.of ?_;simp only[go_sem]
  refine Sd ?_
  refine AWp.of ?_;simp only[go_sem]
  refine ret_eq ?_;simp only[go_sem]
  have:l.findIdx? p=none:=by rw[List.findIdx?_eq_none_iff];intro x hx;obtain⟨i,hi,rfl⟩:=List.getElem_of_mem hx;exact hI i hi hi
  rw[this]
theorem sts_containsFunc (l:List (List Stp)) (hl:l.length≤1000000) (g:AV) (hgf:fo g=(True,g)) (p:(List Stp)→Bool) (hg:∀x ∈ l,PV Proofs.Tryz.prog g [aSts x] (ab (p x))) :
  PC Proofs.Tryz.prog 62 [aStss l,g] (ab (l.any p)):=by
 refine PC.enter 9 [.tmp 4] [] Proofs.Tryz.func62 rfl rfl rfl rfl rfl (by simp) (AWp.of ?_);simp only[go_sem]
 refine Sd ?_
 refine AWp.of ?_;simp only[go_sem,hgf,aStss]
 refine(sts_indexFunc l hl g hgf p hg).val.use ?_
 simp only[go_sem]
 refine Sd ?_
 refine AWp.of ?_;simp only[go_sem]
 refine ret_eq ?_;simp only[go_sem]
 congr 2;exact findIdx_any l p
section
variable {ps:List Pr} (hv:validF ps=true)
include hv
theorem ord_at {p:Nat} (hp:p<ps.length) {i:Nat} (hi:i<nev ps p):((List.range ps.length).map fun p=>AV.sl 1 ((exF ps [] p).map aInts)).getD p .any = .sl 1 ((exF ps [] p).map aInts)∧((exF ps [] p).map aInts).length=nev ps p+1∧((exF ps [] p).map aInts).getD (i+1) .any = .sl 1 ((ptF ps p i).map ai)∧(ptF ps p i).length=ps.length:=by
 have hW:=nil_whl hv p hp
 have hpt:=ex_nil_pt hv (nil_whl hv) hp hi
 refine⟨map_range_getD hp _,by rw[List.length_map,hW],?_,(isF_iff.1 (pt_isN hv hp hi)).1⟩
 rw[getD_map (by rw[hW];omega)]
 unfold stOf at hpt
 rw[List.getD_eq_getElem?_getD,List.getElem?_eq_getElem (by rw[hW];omega),Option.getD_some] at hpt
 rw[hpt];rfl
variable (hs:Sm ps)
include hs
theorem order_begins (w:Bool) (a o:Stp) (ha:a.1<ps.length∧a.2.2≤nev ps a.1) (ho:o.1<ps.length∧o.2.2≤nev ps o.1) (haf:a.2.1≤1000001) :
  PC Proofs.Tryz.prog 64 [aOrd ps (exF ps []) w,aStp a,aStp o] (ab (bgN ps a o)):=by
 obtain⟨a1,a2,a3⟩:=a
 obtain⟨o1,o2,o3⟩:=o
 obtain⟨ha1,ha3⟩:=ha
 obtain⟨ho1,ho3⟩:=ho
 simp only at ha1 ha3 ho1 ho3 haf
 have hB:bgN ps (a1,a2,a3) (o1,o2,o3)=(decide (a2=0) || (decide (o3=nev ps o1) || decide ((a2:Int)≤cAt (ptF ps o1 o3) a1))):=rfl
 have e1:aStp (a1,a2,a3) = .agg [ai a1,ai a2,ai a3]:=rfl
 have e2:aStp (o1,o2,o3) = .agg [ai o1,ai o2,ai o3]:=rfl
 have hps:=hs.procs
 have hgp:=getD_map (f:=aPr) ho1
 have hnv:=nev_get ho1
 have hel:=hs.evs _ (List.getElem_mem ho1)
 have e3:((a2:Int)=0)↔a2=0:=by omega
 have e4:((o3:Int)=ps[o1].evs.length)↔o3=nev ps o1:=by omega
 rw[e1,e2,hB]
 unfold aOrd
 by_cases h1:a2=0
 ·have h0:(decide (a2=0) || (decide (o3=nev ps o1) || decide ((a2:Int)≤cAt (ptF ps o1 o3) a1)))=true:=by simp [h1]
  rw[h0]
  have h1':(a2:Int)=0:=by omega
  refine PC.enter 46 [.tmp 6] [4,5] Proofs.Tryz.func64 rfl rfl rfl rfl rfl (by simp) (AWp.of ?_);simp only[go_sem]
  refine Wk ?_
  repeat(first|(with_reducible refine AWp.seq ?_)|(with_reducible refine AWp.block ?_))
  refine AWp.read mixed [0,1,2,3,4,5,6,7,8,9,10,11,12,13,14,15,16,17,18] (by kernel_rfl) ?_;simp only[go_sem,hgp,h1']
  refine Sd ?_
  refine Wk ?_
  refine ret_eq ?_;simp only[go_sem]
 ·by_cases h2:o3=nev ps o1
  ·have h0:(decide (a2=0) || (decide (o3=nev ps o1) || decide ((a2:Int)≤cAt (ptF ps o1 o3) a1)))=true:=by simp [h2]
   rw[h0]
   have h1':¬(a2:Int)=0:=by omega
   have h2':(o3:Int)=ps[o1].evs.length:=by omega
   refine PC.enter 46 [.tmp 6] [4,5] Proofs.Tryz.func64 rfl rfl rfl rfl rfl (by simp) (AWp.of ?_);simp only[go_sem]
   refine Wk ?_
   repeat(first|(with_reducible refine AWp.seq ?_)|(with_reducible refine AWp.block ?_))
   refine AWp.read mixed [0,1,2,3,4,5,6,7,8,9,10,11,12,13,14,15,16,17,18] (by kernel_rfl) ?_;simp only[go_sem,hgp,h1',h2']
   refine Sd ?_
   refine Wk ?_
   refine ret_eq ?_;simp only[go_sem]
  ·have h0:(decide (a2=0) || (decide (o3=nev ps o1) || decide ((a2:Int)≤cAt (ptF ps o1 o3) a1)))=decide ((a2:Int)≤cAt (ptF ps o1 o3) a1):=by simp [h1,h2]
   rw[h0]
   have h1':¬(a2:Int)=0:=by omega
   have h2':¬(o3:Int)=ps[o1].evs.length:=by omega
   obtain⟨g1,g2,g3,g4⟩:=ord_at hv ho1 (show o3<nev ps o1 by omega)
   have g5:((ptF ps o1 o3).map ai).getD a1 .any=ai (cAt (ptF ps o1 o3) a1):=by rw[getD_map (by omega),cAt_nat (by omega)]
   have g6:((o3:Int)+1).toNat=o3+1:=by omega
   have hTl:((List.range ps.length).map fun p=>AV.sl 1 ((exF ps [] p).map aInts)).length=ps.length:=by simp
   generalize ((List.range ps.length).map fun p=>AV.sl 1 ((exF ps [] p).map aInts))=T at *
   generalize cAt (ptF ps o1 o3) a1=z at *
   refine PC.enter 46 [.tmp 6] [4,5] Proofs.Tryz.func64 rfl rfl rfl rfl rfl (by simp) (AWp.of ?_);simp only[go_sem]
   refine Wk ?_
   repeat(first|(with_reducible refine AWp.seq ?_)|(with_reducible refine AWp.block ?_))
   refine AWp.read mixed [0,1,2,3,4,5,6,7,8,9,10,11,12,13,14,15,16,17,18] (by kernel_rfl) ?_;simp only[go_sem,hgp,h1',h2']
   refine Sd ?_
   refine Wk ?_
   repeat(first|(with_reducible refine AWp.seq ?_)|(with_reducible refine AWp.block ?_))
   refine AWp.read mixed [0,1,2,3,4,5,6,7,8,9,10,11,12,13,14,15,16,17,18,19,20] (by kernel_rfl) ?_;simp only[go_sem,g1,g2,g3,g5,g6,hTl,g4]
   refine Sd ?_
   refine Wk ?_
   refine ret_eq ?_;simp only[go_sem]
end
def rowsD (n:Nat) (rows:Nat→List Stp) (a:Nat→Nat):List AV:=(List.range n).map fun p => .sl 3 (((rows p).drop (a p)).map aStp)
theorem rowsD_len (n:Nat) (rows:Nat→List Stp) (a:Nat→Nat):(rowsD n rows a).length=n:=by simp [rowsD]
theorem rowsD_get {n p:Nat} (hp:p<n) (rows:Nat→List Stp) (a:Nat→Nat):(rowsD n rows a).getD p .any = .sl 3 (((rows p).drop (a p)).map aStp):=map_range_getD hp _
theorem rowsD_set {n q:Nat} (rows:Nat→List Stp) (a:Nat→Nat):(rowsD n rows a).set q (.sl 3 ((((rows q).drop (a q)).map aStp).drop 1))=rowsD n rows (updN a q (a q+1)):=by
 unfold rowsD
 rw[map_range_set]
 congr 1;funext p
 by_cases e:p=q
 ·subst e;rw[if_pos rfl,updN_self,← List.map_drop,List.drop_drop]
 ·rw[if_neg e,updN_ne e]
theorem rowsD_zero (n:Nat) (rows:Nat→List Stp):((List.range n).map rows).map aSts=rowsD n rows fun _=>0:=by unfold rowsD;rw[List.map_map];exact List.map_congr_left fun p _=>by rw[List.drop_zero];rfl
theorem rowsD_hd {rows:Nat→List Stp} {p i:Nat} (h:i<(rows p).length):(((rows p).drop i).map aStp).getD 0 .any=aStp (fSp rows p i):=by
 rw[fSp_eq h,List.getD_eq_getElem?_getD,List.getElem?_map,List.getElem?_drop,Nat.add_zero,List.getElem?_eq_getElem h];rfl
theorem rowsD_sh (rows:Nat→List Stp) (p i:Nat):(((rows p).drop i).map aStp).getD 0 .any = .any∨∃s1 s2 s3:Nat,(((rows p).drop i).map aStp).getD 0 .any = .agg [ai s1,ai s2,ai s3]:=by
 by_cases h:i<(rows p).length
 ·exact .inr ⟨_,_,_,rowsD_hd h⟩
 ·left
  rw[List.drop_of_length_le (by omega)];rfl
noncomputable def aTgt (ps:List Pr) (rows:Nat→List Stp):AV:=match tgtO ps rows with
 | some a => .tup [.sl 3 ((chcL ps.length rows a).map aStp),ab true]
 | none => .tup [.sl 3 [],ab false]
theorem aTgt_some {ps:List Pr} {rows:Nat→List Stp} {a:Nat→Nat} (h:LeastS ps rows a):aTgt ps rows = .tup [.sl 3 ((chcL ps.length rows a).map aStp),ab true]:=by
 obtain⟨a',h1,h2⟩:=tgtO_some h
 unfold aTgt
 rw[h1];dsimp only;rw[chcL_congr h2]
theorem aTgt_none {ps:List Pr} {rows:Nat→List Stp} (h:¬ ∃t,TgtS ps rows t):aTgt ps rows = .tup [.sl 3 [],ab false]:=by
 unfold aTgt;rw[tgtO_none h]
theorem order_tight1 (x:List Stp) (_hx:x.length≤1000000):PC Proofs.Tryz.prog 63 [aSts x] (ab (decide (x.length=0))):=by
 have e:((x.length:Int)=0)↔x.length=0:=by omega
 have e1:aSts x = .sl 3 (x.map aStp):=rfl
 rw[e1]
 refine PC.enter 6 [.tmp 2] [] Proofs.Tryz.func63 rfl rfl rfl rfl rfl (by simp) (AWp.of ?_);simp only[go_sem]
 refine W1 e ?_
 refine ret_eq ?_;simp only[go_sem]
set_option maxHeartbeats 1000000 in
theorem order_tight (ps:List Pr) (hs:Sm ps) (hv:validF ps=true) (w:Bool) {b:Nat→Nat→Bool} {rows:Nat→List Stp} (hR:RowsOk ps b rows) (hlen:∀p,p<ps.length→(rows p).length≤1000000) :
  PC Proofs.Tryz.prog 34 [aOrd ps (exF ps []) w,aStss ((List.range ps.length).map rows)] (aTgt ps rows):=by
 obtain⟨hl1,hl8⟩:=valid_len hv
 have hmon:=mon_rows hR
 have hT1:=fun a h=>aTgt_some (ps:=ps) (rows:=rows) (a:=a) h
 have hT2:=fun h=>aTgt_none (ps:=ps) (rows:=rows) h
 have hbg:=fun a o h1 h2 h3=>order_begins hv hs w a o h1 h2 h3
 have hin:=fun p hp s hs=>rows_in hR (p:=p) hp s hs
 have hnb:=fun p (hp:p<ps.length)=>show nev ps p≤1000000 by rw[nev_get hp];exact hs.evs _ (List.getElem_mem hp)
 have hel:=fun p (hp:p<ps.length) i (hi:i<(rows p).length)=>(hR p hp).el _ (List.getElem_mem hi)
 obtain⟨O,hO⟩:∃O,O=aOrd ps (exF ps []) w:=⟨_,rfl⟩
 have hOf:fo O=(True,O):=by rw[hO];rfl
 rw[← hO] at hbg ⊢
 have hrl:((List.range ps.length).map rows).length=ps.length:=by simp
 have hcl:=sts_cloneO ((List.range ps.length).map rows) (by omega)
 rw[rowsD_zero] at hcl
 have hss:aStss ((List.range ps.length).map rows) = .sl 1 (rowsD ps.length rows fun _=>0):=by rw[← rowsD_zero];rfl
 rw[hss] at hcl ⊢
 generalize aTgt ps rows=R at *
 refine PC.enter 75 [.tmp 4,.tmp 5] [71] Proofs.Tryz.func34 rfl rfl rfl rfl rfl (by simp) (AWp.of ?_);simp only[go_sem]
 refine W1 hOf ?_
 refine hcl.val.mono ?_
 rintro r L hA
 rcases hA.inv with ⟨e1,_,_⟩|⟨bl,cap,rfl,rfl⟩
 ·have:=congrArg List.length e1
  rw[rowsD_len,List.length_nil] at this
  omega
 rw[rowsD_len]
 clear hcl hss
 simp only[go_sem]
 refine AWp.block (AWp.loopN [] [0,1] (fun m vs L=>vs=[]∧∃a:Nat→Nat,m=totS ps.length (fun p=>(rows p).length - a p)∧L=[(bl,.row 49 1 (rowsD ps.length rows a) cap)]∧(∀t,TgtS ps rows t→∀p,p<ps.length→a p≤t p)∧∀p,p<ps.length→a p≤(rows p).length) (totS ps.length fun p=>(rows p).length - 0) ⟨rfl,fun _=>0,rfl,rfl,fun _ _ _ _=>Nat.zero_le _,fun _ _=>Nat.zero_le _⟩ ?_)
 rintro m vs L - ⟨rfl,a,rfl,rfl,hlow,hle⟩
 have hrow:rowsD ps.length rows a=((List.range ps.length).map fun p=>(rows p).drop (a p)).map aSts:=by unfold rowsD;rw[List.map_map];rfl
 have hct:=sts_containsFunc ((List.range ps.length).map fun p=>(rows p).drop (a p)) (by simp;omega) (.v (.func (.func 63) #[] #[])) rfl (fun x=>decide (x.length=0)) (fun x hx=>by
  obtain⟨p,hp,rfl⟩:=List.mem_map.1 hx
  have:=hlen p (List.mem_range.1 hp)
  exact(order_tight1 _ (by rw[List.length_drop];omega)).val)
 have hss:aStss ((List.range ps.length).map fun p=>(rows p).drop (a p)) = .sl 1 (rowsD ps.length rows a):=by rw[hrow];rfl
 rw[hss] at hct
 have hany:((List.range ps.length).map fun p=>(rows p).drop (a p)).any (fun x=>decide (x.length=0))=true↔∃p,p<ps.length∧(rows p).length≤a p:=by
  rw[List.any_map,List.any_eq_true]
  simp only[List.mem_range,Function.comp,decide_eq_true_eq,List.length_drop]
  exact⟨fun ⟨p,h1,h2⟩=>⟨p,h1,by omega⟩,fun ⟨p,h1,h2⟩=>⟨p,h1,by omega⟩⟩
 generalize hac:((List.range ps.length).map fun p=>(rows p).drop (a p)).any (fun x=>decide (x.length=0))=ac at *
 simp only[go_sem]
 refine AWp.block ?_
 refine W1 hOf ?_
 have hvw:∀xs,Vws [(bl,.row 49 1 (rowsD ps.length rows a) cap)] (.ls bl 1 0 ps.length cap :: xs) (.sl 1 (rowsD ps.length rows a) :: xs):=fun xs=>Vws.cons (Vw.ofLs (if_pos rfl) (rowsD_len _ _ _).symm) (Vws.refl _)
 refine(PC.view (hvw _) hct (Own.v _) ?_).val
 simp only[go_sem]
 refine W1 hOf ?_
 refine⟨fun h1 => ?_,fun h1 => ?_⟩
 ·obtain⟨p,hp,hpa⟩:=hany.1 (by simpa using h1)
  rw[hT2 (tgt_none hlow hp hpa)]
  refine Wk ?_
  refine ret_view [] ?_;simp only[go_sem]
  exact .mkTup (Vws.cons (.nil 3) (Vws.refl _))
 have hlt:∀p,p<ps.length→a p<(rows p).length:=fun p hp=>Nat.lt_of_not_le fun h=>by
  have:=hany.2 ⟨p,hp,h⟩
  rw[this] at h1;cases h1
 have hfo:=fun p (hp:p<ps.length)=>rowsD_hd (hlt p hp)
 clear hct hss hrow hac hany hvw
 refine W1 hOf ?_
 refine AWp.range' ps.length [6] [0,1,17] (fun k vs L=>∃(a':Nat→Nat) (mv:Bool),vs=[ab mv]∧L=[(bl,.row 49 1 (rowsD ps.length rows a') cap)]∧(mv=false→a'=a∧∀p q,p<k→q<ps.length→p ≠ q→bgN ps (fSp rows p (a p)) (fSp rows q (a q))=true) ∧
  (mv=true→∃q,q<ps.length∧a'=updN a q (a q+1)∧∀t,TgtS ps rows t→∀r,r<ps.length→(if r=q then a q+1 else a r)≤t r)) (by omega) rfl rfl rfl ⟨a,false,rfl,rfl,fun _=>⟨rfl,fun p q h=>by omega⟩,fun h=>by cases h⟩ ?_ ?_
 ·rintro k vs L hk - ⟨a1,m1,rfl,rfl,hf1,ht1⟩
  simp only[go_sem]
  refine W1 hOf ?_
  refine AWp.range' ps.length [6] [0,1,7,17,18,22] (fun j vs L=>∃(a':Nat→Nat) (mv:Bool),vs=[ab mv]∧L=[(bl,.row 49 1 (rowsD ps.length rows a') cap)]∧(mv=false→a'=a∧(∀p q,p<k→q<ps.length→p ≠ q→bgN ps (fSp rows p (a p)) (fSp rows q (a q))=true)∧∀q,q<j→k ≠ q→bgN ps (fSp rows k (a k)) (fSp rows q (a q))=true) ∧
   (mv=true→∃q,q<ps.length∧a'=updN a q (a q+1)∧∀t,TgtS ps rows t→∀r,r<ps.length→(if r=q then a q+1 else a r)≤t r)) (by omega) rfl rfl rfl ⟨a1,m1,rfl,rfl,fun h=>⟨(hf1 h).1,(hf1 h).2,fun q h=>by omega⟩,ht1⟩ ?_ ?_
  ·rintro j vs L hj - ⟨a2,m2,rfl,rfl,hf2,ht2⟩
   have hkj:((k:Int)=j)↔k=j:=by omega
   cases m2 with
   | true =>
    have g1:=rowsD_get hk rows a2
    have g2:=rowsD_get hj rows a2
    have hl2:=rowsD_len ps.length rows a2
    have q1:=rowsD_sh rows k (a2 k)
    have q2:=rowsD_sh rows j (a2 j)
    generalize ((rows k).drop (a2 k)).map aStp=X at *
    generalize ((rows j).drop (a2 j)).map aStp=Y at *
    rcases q1 with q1|⟨s1,s2,s3,q1⟩ <;> rcases q2 with q2|⟨u1,u2,u3,q2⟩ <;> (
     simp only[go_sem]
     refine W1 hOf ?_
     repeat(first|(with_reducible refine AWp.seq ?_)|(with_reducible refine AWp.block ?_))
     refine AWp.read mixed [0,1,2,3,4,5,6,7,8,9,10,11,12,13,14,15,16,17,18,19,20,21,22,23] (by kernel_rfl) ?_;simp only[go_sem,g1,g2,hl2,q1,q2,hOf,hkj]
     refine GCall.use (ab false) (fun h=>absurd h (by simp)) ?_
     simp only[go_sem]
     refine Sd ?_
     refine W1 hOf ?_
     exact⟨_,List.Sublist.refl _,a2,true,rfl,rfl,fun h=>(by cases h),ht2⟩)
   | false =>
    obtain⟨rfl,hA1,hA2⟩:=hf2 rfl
    have g1:=rowsD_get hk rows a2
    have g2:=rowsD_get hj rows a2
    have hl2:=rowsD_len ps.length rows a2
    have q1:=hfo k hk
    have q2:=hfo j hj
    have hkl:=hel k hk (a2 k) (hlt k hk)
    have hjl:=hel j hj (a2 j) (hlt j hj)
    rw[← fSp_eq] at hkl hjl
    obtain⟨c1,c2,c3,_⟩:=hkl
    obtain⟨d1,d2,d3,_⟩:=hjl
    have hb:=hbg (fSp rows k (a2 k)) (fSp rows j (a2 j)) ⟨by rw[c1];exact hk,by rw[c1];omega⟩ ⟨by rw[d1];exact hj,by rw[d1];omega⟩ (by have:=hnb k hk;omega)
    have hst:k ≠ j→bgN ps (fSp rows k (a2 k)) (fSp rows j (a2 j))=false→∀t,TgtS ps rows t→∀r,r<ps.length→(if r=j then a2 j+1 else a2 r)≤t r:=fun hne h=>tgt_step hmon hlow hk hj hne h
    have hset:=rowsD_set (n:=ps.length) (q:=j) rows a2
    have hA3:bgN ps (fSp rows k (a2 k)) (fSp rows j (a2 j))=true∨k=j→∀q,q<j+1→k ≠ q→bgN ps (fSp rows k (a2 k)) (fSp rows q (a2 q))=true:=fun h q hq hkq=>by
     by_cases e:q=j
     ·subst e
      rcases h with h|h
      ·exact h
      ·exact absurd h hkq
     ·exact hA2 q (by omega) hkq
    have hlr:=hlen j hj
    have hdl:(((rows j).drop (a2 j)).map aStp).length=(rows j).length - a2 j:=by rw[List.length_map,List.length_drop]
    have hltj:=hlt j hj
    have hlrk:=hlen k hk
    have hdlk:(((rows k).drop (a2 k)).map aStp).length=(rows k).length - a2 k:=by rw[List.length_map,List.length_drop]
    have hltk:=hlt k hk
    generalize bgN ps (fSp rows k (a2 k)) (fSp rows j (a2 j))=B at *
    have es:aStp (fSp rows k (a2 k)) = .agg [ai (fSp rows k (a2 k)).1,ai (fSp rows k (a2 k)).2.1,ai (fSp rows k (a2 k)).2.2]:=rfl
    have eu:aStp (fSp rows j (a2 j)) = .agg [ai (fSp rows j (a2 j)).1,ai (fSp rows j (a2 j)).2.1,ai (fSp rows j (a2 j)).2.2]:=rfl
    rw[es] at hb q1
    rw[eu] at hb q2
    generalize ((rows k).drop (a2 k)).map aStp=X at *
    generalize ((rows j).drop (a2 j)).map aStp=Y at *
    by_cases hne:k=j
    ·subst hne
     simp only[go_sem]
     refine W1 hOf ?_
     repeat(first|(with_reducible refine AWp.seq ?_)|(with_reducible refine AWp.block ?_))
     refine AWp.read mixed [0,1,2,3,4,5,6,7,8,9,10,11,12,13,14,15,16,17,18,19,20,21,22,23] (by kernel_rfl) ?_;simp only[go_sem,g1,hl2,q1,hOf]
     refine GCall.use (ab false) (fun h=>absurd h (by simp)) ?_
     simp only[go_sem]
     refine Sd ?_
     refine W1 hOf ?_
     exact⟨_,List.Sublist.refl _,a2,false,rfl,rfl,fun _=>⟨rfl,hA1,hA3 (.inr rfl)⟩,fun h=>by cases h⟩
    ·simp only[go_sem]
     refine W1 hOf ?_
     repeat(first|(with_reducible refine AWp.seq ?_)|(with_reducible refine AWp.block ?_))
     refine AWp.read mixed [0,1,2,3,4,5,6,7,8,9,10,11,12,13,14,15,16,17,18,19,20,21,22,23] (by kernel_rfl) ?_;simp only[go_sem,g1,g2,hl2,q1,q2,hOf,hkj,hne]
     refine Sd ?_
     refine Sd ?_
     refine GCall.use (ab B) (fun _=>⟨At,(hb).val.use ⟨rfl,rfl⟩⟩) ?_;simp only[go_sem]
     refine Sd ?_
     refine W4 hOf g1 g2 hl2 ?_
     refine⟨fun h3 => ?_,fun h3 => ?_⟩
     ·refine W4 g1 g2 hl2 hOf ?_
      refine Sd ?_
      rw[hset]
      refine⟨_,List.Sublist.refl _,_,true,rfl,rfl,fun h=>(by cases h),fun _=>⟨j,hj,rfl,hst hne (by simpa using h3)⟩⟩
     ·refine W1 hOf ?_
      exact⟨_,List.Sublist.refl _,a2,false,rfl,rfl,fun _=>⟨rfl,hA1,hA3 (.inl (by simpa using h3))⟩,fun h=>by cases h⟩
  ·rintro vs L - ⟨a2,m2,rfl,rfl,hf2,ht2⟩
   simp only[go_sem]
   refine W1 hOf ?_
   refine⟨_,List.Sublist.refl _,a2,m2,rfl,rfl,fun h => ?_,ht2⟩
   obtain⟨e1,e2,e3⟩:=hf2 h
   refine⟨e1,fun p q hp hq hpq => ?_⟩
   by_cases e:p=k
   ·subst e;exact e3 q hq hpq
   ·exact e2 p q (by omega) hq hpq
 ·rintro vs L - ⟨a1,m1,rfl,rfl,hf1,ht1⟩
  simp only[go_sem]
  refine W1 hOf ?_
  refine⟨fun h2 => ?_,fun h2 => ?_⟩
  ·obtain⟨q,hq,rfl,hlow2⟩:=ht1 (by simpa using h2)
   have hlq:=hlt q hq
   refine⟨_,List.Sublist.refl _,_,?_,updN a q (a q+1),rfl,rfl,fun t ht p hp => ?_,fun p hp => ?_⟩
   ·refine totS_lt2 ps.length (p:=q) (fun r _ => ?_) hq ?_
    ·by_cases e:r=q
     ·subst e;rw[updN_self];omega
     ·rw[updN_ne e];exact Nat.le_refl _
    ·rw[updN_self];omega
   ·have:=hlow2 t ht p hp
    unfold updN
    split
    ·rename_i e;rw[if_pos e] at this;omega
    ·rename_i e;rw[if_neg e] at this;omega
   ·by_cases e:p=q
    ·subst e;rw[updN_self];omega
    ·rw[updN_ne e];exact hle p hp
  ·obtain⟨rfl,hall⟩:=hf1 (by simpa using h2)
   have htgt:TgtS ps rows a1:=⟨fun p hp=>hlt p hp,fun p q hp hq hpq=>hall p q hp hq hpq⟩
   rw[hT1 a1 ⟨htgt,hlow⟩]
   refine W1 hOf ?_
   have hl2:=rowsD_len ps.length rows a1
   refine AWp.range' ps.length [9] [61,62] (fun k vs L=>∃v Lq,vs=[v]∧L=Lq ++ [(bl,.row 49 1 (rowsD ps.length rows a1) cap)]∧AppSt 80 3 ((chcL k rows a1).map aStp) v Lq∧∀x ∈ Lq,x.1 ≠ bl) (by omega) rfl rfl rfl ⟨anil,[],rfl,rfl,.nil,by simp⟩ ?_ ?_
   ·rintro k vs L hk - ⟨v,Lq,rfl,rfl,hAp,hq⟩
    have g1:=rowsD_get hk rows a1
    have q1:=hfo k hk
    have hltk:=hlt k hk
    have hdlk:(((rows k).drop (a1 k)).map aStp).length=(rows k).length - a1 k:=by rw[List.length_map,List.length_drop]
    have hsu:=congrArg (List.map aStp) (chcL_succ k rows a1)
    rw[List.map_append] at hsu
    have hyl:((chcL k rows a1).map aStp).length=k:=by rw[List.length_map,chcL_len]
    have hfo:=hAp.fo
    have es:[fSp rows k (a1 k)].map aStp=[aStp (fSp rows k (a1 k))]:=rfl
    have es2:aStp (fSp rows k (a1 k)) = .agg [ai (fSp rows k (a1 k)).1,ai (fSp rows k (a1 k)).2.1,ai (fSp rows k (a1 k)).2.2]:=rfl
    rw[es] at hsu
    rw[es2] at hsu q1
    generalize hys:(chcL k rows a1).map aStp=ys at *
    generalize fSp rows k (a1 k)=s at *
    generalize ((rows k).drop (a1 k)).map aStp=X at *
    rcases hAp.inv with ⟨e1,rfl,rfl⟩|⟨bq,cap2,rfl,rfl⟩
    ·rw[e1] at hsu
     simp only[go_sem,List.nil_append]
     refine W4 g1 q1 hl2 hOf ?_
     intro b' cap' g8 g9
     have n3:¬b'=bl:=by omega
     have n4:¬bl=b':=by omega
     refine W2 n3 n4 ?_
     refine⟨_,List.Sublist.refl _,.ls b' 3 0 1 cap',[(b',.row 80 3 ((chcL (k+1) rows a1).map aStp) cap')],rfl,?_,?_,?_⟩
     ·rw[hsu];rfl
     ·rw[hsu];exact .row _ _ _
     ·intro y hy;simp only[List.mem_singleton] at hy;subst hy;exact n3
    ·have nq:=hq (bq,.row 80 3 ys cap2) (by simp)
     simp only at nq
     have nq1:¬bl=bq:=fun e=>nq e.symm
     simp only[go_sem,List.cons_append,List.nil_append]
     refine W6 g1 q1 hl2 nq nq1 hOf ?_
     intro b' cap' g8 g9
     have n3:¬b'=bl:=by omega
     have n4:¬bl=b':=by omega
     refine W2 n3 n4 ?_
     refine⟨_,List.Sublist.refl _,.ls b' 3 0 (ys.length+1) cap',[(b',.row 80 3 ((chcL (k+1) rows a1).map aStp) cap')],rfl,?_,?_,?_⟩
     ·rw[hsu];rfl
     ·rw[hsu];exact AppSt.snoc b' cap' _ rfl
     ·intro y hy;simp only[List.mem_singleton] at hy;subst hy;exact n3
   ·rintro vs L - ⟨v,Lq,rfl,rfl,hAp,hq⟩
    have hyl:((chcL ps.length rows a1).map aStp).length=ps.length:=by rw[List.length_map,chcL_len]
    rcases hAp.inv with ⟨e1,_,_⟩|⟨bq,cap2,rfl,rfl⟩
    ·rw[e1] at hyl;simp at hyl;omega
    simp only[go_sem,List.cons_append,List.nil_append]
    refine W1 hOf ?_
    refine ret_view [true,false] ?_;simp only[go_sem]
    exact .mkTup (Vws.cons (Vw.ofLs (if_pos rfl) (List.length_map _).symm) (Vws.refl _))
def aCrs (n:Nat) (P:Nat→Nat→Bool):AV:=match (List.range n).find? fun i=>(List.range n).any (P i) with
 | none => .tup [ai (-1),ai (-1)]
 | some i=>match (List.range n).find? (P i) with
  | none => .tup [ai (-1),ai (-1)]
  | some j => .tup [ai i,ai j]
theorem range_find {n k:Nat} {P:Nat→Bool} (hk:k<n) (h0:∀i,i<k→P i=false) (h:P k=true):(List.range n).find? P=some k:=by
 rw[List.find?_range_eq_some]
 exact⟨h,List.mem_range.2 hk,fun i hi=>by rw[h0 i hi];rfl⟩
theorem crs_hit {n:Nat} {P:Nat→Nat→Bool} {k j:Nat} (hk:k<n) (hj:j<n) (hI:∀i,i<k→∀j,j<n→P i j=false) (hJ:∀j',j'<j→P k j'=false) (h:P k j=true):aCrs n P = .tup [ai k,ai j]:=by
 unfold aCrs
 rw[range_find (P:=fun i=>(List.range n).any (P i)) hk (fun i hi=>by
  rw[List.any_eq_false];intro y hy;rw[hI i hi y (List.mem_range.1 hy)];simp) (List.any_eq_true.2 ⟨j,List.mem_range.2 hj,h⟩)]
 dsimp only
 rw[range_find hj hJ h]
theorem crs_miss {n:Nat} {P:Nat→Nat→Bool} (hI:∀i,i<n→∀j,j<n→P i j=false):aCrs n P = .tup [ai (-1),ai (-1)]:=by
 unfold aCrs
 have:(List.range n).find? (fun i=>(List.range n).any (P i))=none:=by
  rw[List.find?_eq_none]
  intro i hi h
  obtain⟨j,hj,hp⟩:=List.any_eq_true.1 h
  rw[hI i (List.mem_range.1 hi) j (List.mem_range.1 hj)] at hp;cases hp
 rw[this]
theorem crs_cases (n:Nat) (P:Nat→Nat→Bool):(∃i j,i<n∧j<n∧P i j=true∧aCrs n P = .tup [ai i,ai j])∨((∀i,i<n→∀j,j<n→P i j=false)∧aCrs n P = .tup [ai (-1),ai (-1)]):=by
 cases hf:(List.range n).find? fun i=>(List.range n).any (P i) with
 | none =>
  have hI:∀i,i<n→∀j,j<n→P i j=false:=fun i hi j hj=>by
   have:=List.find?_eq_none.1 hf i (List.mem_range.2 hi)
   cases hp:P i j with
   | false=>rfl
   | true=>exact absurd (List.any_eq_true.2 ⟨j,List.mem_range.2 hj,hp⟩) this
  exact .inr ⟨hI,crs_miss hI⟩
 | some i =>
  have h1:=List.mem_range.1 (List.mem_of_find?_eq_some hf)
  have h2:=List.find?_some hf
  cases hg:(List.range n).find? (P i) with
  | none =>
   obtain⟨j,hj,hp⟩:=List.any_eq_true.1 h2
   exact absurd hp (List.find?_eq_none.1 hg j hj)
  | some j =>
   refine .inl ⟨i,j,h1,List.mem_range.1 (List.mem_of_find?_eq_some hg),List.find?_some hg,?_⟩
   unfold aCrs
   rw[hf];dsimp only;rw[hg]
def crP (ps:List Pr) (rows:Nat→List Stp) (x:Nat→Nat) (c:List Int) (i j:Nat):Bool:=decide (i ≠ j) && (decide (cAt c i<((fSp rows i (x i)).2.1:Int)) && !bgN ps (fSp rows i (x i)) (fSp rows j (x j)))
section
variable {ps:List Pr} (hv:validF ps=true)
include hv
theorem rdy_pt {c:List Int} (hc:isF ps c=true) {p:Nat} (hp:p<ps.length) (hn:cAt c p<nev ps p):rdyF ps c p=true↔∀q:Nat,q<ps.length→q ≠ p→cAt (ptF ps p (cAt c p).toNat) q≤cAt c q:=by
 obtain⟨hl,hr,_⟩:=isF_iff.1 hc
 have h0:=((inRange_iff hl).1 hr p hp).1
 constructor
 ·intro h q hq hqp
  have h1:=pt_least hv hp (i:=(cAt c p).toNat) (rdy_is h) (by rw[stpC_at hc hp,if_pos rfl];omega) q hq
  rw[stpC_at hc hq,if_neg fun e=>hqp e.symm] at h1
  exact h1
 ·intro h
  have hi:(cAt c p).toNat<nev ps p:=by omega
  have hpt:=pt_isN hv hp hi
  have hptl:=(isF_iff.1 hpt).1
  have hself:=pt_self hv hp hi
  have hj:joinL c (ptF ps p (cAt c p).toNat)=stpC c p:=by
   refine List.ext_getElem (by rw[join_len (by omega)];unfold stpC;rw[List.length_set]) fun q h1 h2 => ?_
   have hq:q<ps.length:=by rw[join_len (by omega)] at h1;omega
   rw[← cAt_nat,← cAt_nat,join_cAt (by omega) (by omega),stpC_at hc hq]
   by_cases e:p=q
   ·subst e;rw[if_pos rfl,hself];split <;> omega
   ·rw[if_neg e,if_neg]
    have:=h q hq (fun e'=>e e'.symm)
    omega
  have hu:isF ps (joinL c (ptF ps p (cAt c p).toNat))=true:=(isF_given hv).1 (join_given ((isF_given hv).2 hc) ((isF_given hv).2 hpt))
  rw[hj] at hu
  unfold rdyF
  exact decide_eq_true ⟨hn,hu⟩
variable (hs:Sm ps)
include hs
theorem order_enabled (w:Bool) {c:List Int} (hc:isF ps c=true) {p:Nat} (hp:p<ps.length) (hn:cAt c p<nev ps p) :
  PC Proofs.Tryz.prog 66 [aOrd ps (exF ps []) w,.sl 1 (c.map ai),ai p] (ab (rdyF ps c p)):=by
 obtain⟨hl,hr,_⟩:=isF_iff.1 hc
 have h0:=((inRange_iff hl).1 hr p hp).1
 have hiff:=rdy_pt hv hc hp hn
 obtain⟨i,hi⟩:∃i:Nat,cAt c p=i:=⟨(cAt c p).toNat,by omega⟩
 have hps:=hs.procs
 have hnb:nev ps p≤1000000:=by rw[nev_get hp];exact hs.evs _ (List.getElem_mem hp)
 rw[hi] at hiff hn
 rw[Int.toNat_natCast] at hiff
 obtain⟨g1,g2,g3,g4⟩:=ord_at hv hp (show i<nev ps p by omega)
 have hTl:((List.range ps.length).map fun p=>AV.sl 1 ((exF ps [] p).map aInts)).length=ps.length:=by simp
 have g5:(c.map ai).getD p .any=ai i:=by rw[getD_map (by omega),← cAt_nat,hi]
 have g6:((i:Int)+1).toNat=i+1:=by omega
 have hcl:(c.map ai).length=ps.length:=by rw[List.length_map,hl]
 have hcg:∀q (hq:q<ps.length),(c.map ai).getD q .any=ai (cAt c q):=fun q hq=>by rw[getD_map (by omega),← cAt_nat]
 have hpg:∀q (hq:q<ps.length),((ptF ps p i).map ai).getD q .any=ai (cAt (ptF ps p i) q):=fun q hq=>by rw[getD_map (by omega),← cAt_nat]
 have hpl:((ptF ps p i).map ai).length=ps.length:=by rw[List.length_map,g4]
 unfold aOrd
 generalize ((List.range ps.length).map fun p=>AV.sl 1 ((exF ps [] p).map aInts))=T at *
 generalize rdyF ps c p=E at *
 generalize (ptF ps p i).map ai=PT at *
 generalize c.map ai=CC at *
 refine PC.enter 41 [.tmp 6] [] Proofs.Tryz.func66 rfl rfl rfl rfl rfl (by simp) (AWp.of ?_);simp only[go_sem]
 refine Wk ?_
 repeat(first|(with_reducible refine AWp.seq ?_)|(with_reducible refine AWp.block ?_))
 refine AWp.read mixed [0,1,2,3,4,5,6,7,8,9,10,11,12,13,14,15] (by kernel_rfl) ?_;simp only[go_sem,g1,g2,g3,g5,g6,hTl,hcl]
 refine Sd ?_
 refine AWp.range' ps.length [] [1,2,22,23] (fun k vs L=>L=[]∧vs=[]∧∀q:Nat,q<k→q ≠ p→cAt (ptF ps p i) q≤cAt c q) (by omega) rfl (by rw[hpl];rfl) rfl ⟨rfl,rfl,fun _ h=>by omega⟩ ?_ ?_
 ·rintro k vs L hk - ⟨rfl,rfl,hI⟩
  have hkp:((k:Int)=p)↔k=p:=by omega
  have e1:=hcg k hk
  have e2:=hpg k hk
  simp only[go_sem]
  refine W5 e1 e2 hcl hpl hkp ?_
  refine W5 e1 e2 hcl hpl hkp ?_
  refine⟨fun h1 h2 => ?_,fun h1 => ?_⟩
  ·have:E=false:=by
    cases E with
    | false=>rfl
    | true=>have:=hiff.1 rfl k hk h1;omega
   rw[this]
   refine Wk ?_
   refine ret_eq ?_;simp only[go_sem]
  ·refine Wk ?_
   refine⟨_,List.Sublist.refl _,rfl,fun q hq hqp => ?_⟩
   by_cases e:q=k
   ·subst e;have:=h1 hqp;omega
   ·exact hI q (by omega) hqp
 ·rintro vs L - ⟨rfl,rfl,hI⟩
  have:E=true:=hiff.2 hI
  rw[this]
  simp only[go_sem]
  refine Wk ?_
  refine ret_eq ?_;simp only[go_sem]
theorem order_cross (w:Bool) {b:Nat→Nat→Bool} {rows:Nat→List Stp} (hR:RowsOk ps b rows) (hlen:∀p,p<ps.length→(rows p).length≤1000000) {c:List Int} (hc:isF ps c=true) {x:Nat→Nat} (hx:∀p,p<ps.length→x p<(rows p).length) :
  PC Proofs.Tryz.prog 67 [aOrd ps (exF ps []) w,.sl 1 (c.map ai),.sl 1 (rowsD ps.length rows x)] (aCrs ps.length (crP ps rows x c)):=by
 obtain⟨hl,hr,_⟩:=isF_iff.1 hc
 have hps:=hs.procs
 have hhit:=fun k j => @crs_hit ps.length (crP ps rows x c) k j
 have hmiss:=@crs_miss ps.length (crP ps rows x c)
 have hbg:=fun a o h1 h2 h3=>order_begins hv hs w a o h1 h2 h3
 have hnb:=fun p (hp:p<ps.length)=>show nev ps p≤1000000 by rw[nev_get hp];exact hs.evs _ (List.getElem_mem hp)
 have hel:=fun p (hp:p<ps.length) i (hi:i<(rows p).length)=>(hR p hp).el _ (List.getElem_mem hi)
 have hcl:(c.map ai).length=ps.length:=by rw[List.length_map,hl]
 have hcg:∀q (hq:q<ps.length),(c.map ai).getD q .any=ai (cAt c q):=fun q hq=>by rw[getD_map (by omega),← cAt_nat]
 have hl2:=rowsD_len ps.length rows x
 have hrg:=fun p (hp:p<ps.length)=>rowsD_get hp rows x
 have hfo:=fun p (hp:p<ps.length)=>rowsD_hd (hx p hp)
 obtain⟨O,hO⟩:∃O,O=aOrd ps (exF ps []) w:=⟨_,rfl⟩
 have hOf:fo O=(True,O):=by rw[hO];rfl
 rw[← hO] at hbg ⊢
 generalize aCrs ps.length (crP ps rows x c)=R at *
 generalize rowsD ps.length rows x=RD at *
 generalize c.map ai=CC at *
 refine PC.enter 58 [.tmp 6,.tmp 7] [] Proofs.Tryz.func67 rfl rfl rfl rfl rfl (by simp) (AWp.of ?_);simp only[go_sem]
 refine W2 hOf hl2 ?_
 refine AWp.range' ps.length [] [0,1,2,11] (fun k vs L=>L=[]∧vs=[]∧∀i,i<k→∀j,j<ps.length→crP ps rows x c i j=false) (by omega) rfl rfl rfl ⟨rfl,rfl,fun _ h=>by omega⟩ ?_ ?_
 ·rintro k vs L hk - ⟨rfl,rfl,hI⟩
  simp only[go_sem]
  refine W2 hOf hl2 ?_
  refine AWp.range' ps.length [] [0,1,2,8,11,12,16] (fun j vs L=>L=[]∧vs=[]∧∀j',j'<j→crP ps rows x c k j'=false) (by omega) rfl rfl rfl ⟨rfl,rfl,fun _ h=>by omega⟩ ?_ ?_
  ·rintro j vs L hj - ⟨rfl,rfl,hJ⟩
   have hkj:((k:Int)=j)↔k=j:=by omega
   have g1:=hrg k hk
   have g2:=hrg j hj
   have g3:=hcg k hk
   have q1:=hfo k hk
   have q2:=hfo j hj
   have hkl:=hel k hk (x k) (hx k hk)
   have hjl:=hel j hj (x j) (hx j hj)
   rw[← fSp_eq] at hkl hjl
   obtain⟨c1,c2,c3,_⟩:=hkl
   obtain⟨d1,d2,d3,_⟩:=hjl
   have hb:=hbg (fSp rows k (x k)) (fSp rows j (x j)) ⟨by rw[c1];exact hk,by rw[c1];omega⟩ ⟨by rw[d1];exact hj,by rw[d1];omega⟩ (by have:=hnb k hk;omega)
   have hcr:crP ps rows x c k j=(decide (k ≠ j) && (decide (cAt c k<((fSp rows k (x k)).2.1:Int)) && !bgN ps (fSp rows k (x k)) (fSp rows j (x j)))):=rfl
   have hh:=hhit k j hk hj hI hJ
   have hJ2:crP ps rows x c k j=false→∀j',j'<j+1→crP ps rows x c k j'=false:=fun h j' hj'=>by
    by_cases e:j'=j
    ·subst e;exact h
    ·exact hJ j' (by omega)
   have hlk:=hlen k hk
   have hlj:=hlen j hj
   have hxk:=hx k hk
   have hxj:=hx j hj
   have hdk:(((rows k).drop (x k)).map aStp).length=(rows k).length - x k:=by rw[List.length_map,List.length_drop]
   have hdj:(((rows j).drop (x j)).map aStp).length=(rows j).length - x j:=by rw[List.length_map,List.length_drop]
   generalize bgN ps (fSp rows k (x k)) (fSp rows j (x j))=B at *
   have es:aStp (fSp rows k (x k)) = .agg [ai (fSp rows k (x k)).1,ai (fSp rows k (x k)).2.1,ai (fSp rows k (x k)).2.2]:=rfl
   have eu:aStp (fSp rows j (x j)) = .agg [ai (fSp rows j (x j)).1,ai (fSp rows j (x j)).2.1,ai (fSp rows j (x j)).2.2]:=rfl
   rw[es] at hb q1
   rw[eu] at hb q2
   rw[hcr] at hh hJ2
   clear hcr
   generalize ((rows k).drop (x k)).map aStp=X at *
   generalize ((rows j).drop (x j)).map aStp=Y at *
   generalize cAt c k=ck at *
   generalize (fSp rows k (x k)).2.1=fk at *
   by_cases hne:k=j
   ·subst hne
    simp only[go_sem]
    refine W1 hOf ?_
    repeat(first|(with_reducible refine AWp.seq ?_)|(with_reducible refine AWp.block ?_))
    refine AWp.read mixed [0,1,2,3,4,5,6,7,8,9,10,11,12,13,14,15,16,17,18,19,20,21,22,23,24,25,26,27,28,29,30,31,32,33] (by kernel_rfl) ?_;simp only[go_sem,g1,g3,hl2,q1,hOf,hcl]
    refine Sd ?_
    refine GCall.use (ab false) (fun h=>absurd h (by simp)) ?_
    simp only[go_sem]
    refine Sd ?_
    refine W1 hOf ?_
    exact⟨_,List.Sublist.refl _,rfl,hJ2 (by simp)⟩
   by_cases hlt:ck<(fk:Int)
   ·simp only[go_sem]
    refine W1 hOf ?_
    repeat(first|(with_reducible refine AWp.seq ?_)|(with_reducible refine AWp.block ?_))
    refine AWp.read mixed [0,1,2,3,4,5,6,7,8,9,10,11,12,13,14,15,16,17,18,19,20,21,22,23,24,25,26,27,28,29,30,31,32,33] (by kernel_rfl) ?_;simp only[go_sem,g1,g2,g3,hl2,q1,q2,hOf,hkj,hne,hcl,hlt]
    refine Sd ?_
    refine Sd ?_
    refine GCall.use (ab B) (fun _=>⟨At,(hb).val.use ⟨rfl,rfl⟩⟩) ?_;simp only[go_sem]
    refine Sd ?_
    refine W1 hOf ?_
    refine⟨fun h3 => ?_,fun h3 => ?_⟩
    ·rw[hh (by simp [hne,hlt,h3])]
     refine Wk ?_
     refine ret_eq ?_;simp only[go_sem]
    ·refine W1 hOf ?_
     exact⟨_,List.Sublist.refl _,rfl,hJ2 (by simp [h3])⟩
   ·simp only[go_sem]
    refine W1 hOf ?_
    repeat(first|(with_reducible refine AWp.seq ?_)|(with_reducible refine AWp.block ?_))
    refine AWp.read mixed [0,1,2,3,4,5,6,7,8,9,10,11,12,13,14,15,16,17,18,19,20,21,22,23,24,25,26,27,28,29,30,31,32,33] (by kernel_rfl) ?_;simp only[go_sem,g1,g2,g3,hl2,q1,q2,hOf,hkj,hne,hcl,hlt]
    refine Sd ?_
    refine GCall.use (ab false) (fun h=>absurd h (by simp)) ?_
    simp only[go_sem]
    refine Sd ?_
    refine W1 hOf ?_
    exact⟨_,List.Sublist.refl _,rfl,hJ2 (by simp [hlt])⟩
  ·rintro vs L - ⟨rfl,rfl,hJ⟩
   simp only[go_sem]
   refine W1 hOf ?_
   refine⟨_,List.Sublist.refl _,rfl,fun i hi => ?_⟩
   by_cases e:i=k
   ·subst e;exact hJ
   ·exact hI i (by omega)
 ·rintro vs L - ⟨rfl,rfl,hI⟩
  rw[hmiss hI]
  simp only[go_sem]
  refine W1 hOf ?_
  refine ret_eq ?_;simp only[go_sem]
end
end Go.AL
end
