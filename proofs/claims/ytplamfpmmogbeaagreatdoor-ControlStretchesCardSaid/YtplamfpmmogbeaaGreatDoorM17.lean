/- Texts of this claim's proof: WOe, WV4, WV5, WFa, WFb, WGp, WGa, WV7, WXp, WV6. No condition. -/
import Derived.Test.YtplamfpmmogbeaaGreatDoorM16
import Derived.Test.YtplamfpmmogbeaaGreatDoorM15
import Derived.Test.YtplamfpmmogbeaaGreatDoorM13
import Derived.Test.YtplamfpmmogbeaaGreatDoorM10
import Derived.Test.YtplamfpmmogbeaaGreatDoorM6
import Derived.Test.YtplamfpmmogbeaaGreatDoorM14
section
namespace Go.AL
open Go Go.RowKit
set_option maxRecDepth 4000
noncomputable def pstE (ps:List Pr) (x:Eid):Int:=if validF ps=true then (if eidOk ps x=true then 0 else 2) else 1
noncomputable def pstF (ps:List Pr) (x:Eid):List Int:=if pstE ps x=0 then ptF ps x.1.toNat (x.2.toNat - 1) else []
theorem pst_zero {ps:List Pr} {x:Eid} (h:pstE ps x=0):validF ps=true∧∃(p:Nat) (hp:p<ps.length) (i:Nat) (_:i<ps[p].evs.length),x=((p:Int),(i:Int)+1)∧pstF ps x=ptF ps p i:=by
 have h0:=h
 unfold pstE at h
 split at h
 ·rename_i hv
  split at h
  ·rename_i hx
   obtain⟨p,hp,i,hi,rfl⟩:=eidOk_iff.1 hx
   refine⟨hv,p,hp,i,hi,rfl,?_⟩
   unfold pstF
   rw[if_pos h0]
   have e1:((p:Int)).toNat=p:=by omega
   have e2:((i:Int)+1).toNat - 1=i:=by omega
   rw[e1,e2]
  ·simp at h
 ·simp at h
theorem causality_Past (ps:List Pr) (hs:Sm ps) (x:Eid):PC Proofs.Tryz.prog 158 [aTr ps,aEid x] (.tup [aInts (pstF ps x),ai (pstE ps x)]):=by
 have hc:=causality_check1 ps hs x
 change PC _ _ _ (ai (pstE ps x)) at hc
 by_cases h0:pstE ps x=0
 ·obtain⟨hv,p,hp,i,hi,rfl,hF⟩:=pst_zero h0
  have hk:=causality_knows ps hs hv
  have hpt:=causality_past ps hs hv p hp i hi
  rw[hF,h0]
  rw[h0] at hc
  unfold kwV at hk hpt
  generalize hK:[AV.sl 3 (ps.map aPr),AV.rm (mapK (evM ps 2 (off ps ps.length))) (mapV (evM ps 2 (off ps ps.length))),AV.rm (mapK (evM ps 3 (off ps ps.length))) (mapV (evM ps 3 (off ps ps.length)))]=K at *
  generalize ptF ps p i=D at *
  change PC _ _ [_,.agg [ai p,ai ((i:Int)+1)]] _ at hpt
  change PC _ _ [_,.sl 2 [.agg [ai p,ai ((i:Int)+1)]]] _ at hc
  change PC _ _ [_,.agg [ai p,ai ((i:Int)+1)]] _
  refine PC.enter 18 [.tmp 4,.tmp 5] [2,3,9] Proofs.Tryz.func158 rfl rfl rfl rfl rfl (by simp) (AWp.of ?_);simp only[go_sem]
  refine Wk ?_
  refine Sd ?_
  refine(hc).val.use ?_;simp only[go_sem]
  refine Wk ?_
  refine AWp.seq ?_
  repeat(first|(with_reducible refine AWp.seq ?_)|(with_reducible refine AWp.block ?_))
  refine AWp.read mixed [0,1,2,3,4,5] (by kernel_rfl) ?_;simp only[go_sem]
  refine Sd ?_
  refine Gc hk ?_
  refine Sd ?_
  refine Gc hpt ?_
  refine Wk ?_
  refine ret_eq ?_;simp only[go_sem]
 ·have hF:pstF ps x=[]:=by unfold pstF;rw[if_neg h0]
  rw[hF]
  generalize pstE ps x=e at *
  obtain⟨u,w⟩:=x
  change PC _ _ [_,.sl 2 [.agg [ai u,ai w]]] _ at hc
  change PC _ _ [_,.agg [ai u,ai w]] _
  refine PC.enter 18 [.tmp 4,.tmp 5] [2,3,9] Proofs.Tryz.func158 rfl rfl rfl rfl rfl (by simp) (AWp.of ?_);simp only[go_sem]
  refine W1 h0 ?_
  refine Sd ?_
  refine(hc).val.use ?_;simp only[go_sem]
  refine W1 h0 ?_
  refine ret_view [] ?_;simp only[go_sem]
  exact .mkTup (Vws.cons (.nil 1) (Vws.refl _))
def pastV (ps:List Pr) (s:Stp):AV:=if s.2.2=nev ps s.1 then anil else aInts (ptF ps s.1 s.2.2)
def aStr (ps:List Pr) (s:Stp):AV:=.agg [ai s.1,ai s.2.1,ai s.2.2,pastV ps s]
def SpIn (ps:List Pr) (s:Stp):Prop:=s.1<ps.length∧s.2.1≤s.2.2∧s.2.2≤nev ps s.1
theorem pastV_fo (ps:List Pr) (s:Stp):fo (pastV ps s)=(True,pastV ps s):=by unfold pastV;split <;> rfl
theorem pastV_one (ps:List Pr) (s:Stp):one (pastV ps s)=true:=by unfold pastV;split <;> rfl
attribute [go_sem ↓] pastV_fo pastV_one
theorem strong_events (ps:List Pr) (hs:Sm ps) (p:Nat) (hp:p<ps.length):PC Proofs.Tryz.prog 125 [aTr ps,ai p] (ai (nev ps p:Nat)):=by
 have hgp:=getD_map (f:=aPr) hp
 have hn:=nev_get hp
 have hl:=hs.procs
 rw[hn]
 refine PC.enter 12 [.tmp 4] [2] Proofs.Tryz.func125 rfl rfl rfl rfl rfl (by simp) (AWp.of ?_);simp only[go_sem]
 refine W1 hgp ?_
 refine ret_eq ?_;simp only[go_sem]
theorem strong_measured (ps:List Pr) (hs:Sm ps) (hv:validF ps=true) (s:Stp) (h:SpIn ps s):PC Proofs.Tryz.prog 129 [aTr ps,aStp s] (aStr ps s):=by
 obtain⟨p,f,t⟩:=s
 obtain⟨h1,h2,h3⟩:=h
 have h1:p<ps.length:=h1
 have h2:f≤t:=h2
 have h3:t≤nev ps p:=h3
 have hev:=strong_events ps hs p h1
 have hel:=hs.evs _ (List.getElem_mem h1)
 have hn:=nev_get h1
 have hpst:=causality_Past ps hs ((p:Int),(t:Int)+1)
 have hR:aStr ps (p,f,t) = .agg [ai p,ai f,ai t,pastV ps (p,f,t)]:=rfl
 have hA:aStp (p,f,t) = .agg [ai p,ai f,ai t]:=rfl
 rw[hR,hA]
 by_cases ht:t<nev ps p
 ·have hti:(t:Int)<((nev ps p:Nat):Int):=by omega
  have hE:pstE ps ((p:Int),(t:Int)+1)=0:=by
   unfold pstE
   rw[hv,if_pos rfl,if_pos (eidOk_iff.2 ⟨p,h1,t,by omega,rfl⟩)]
  have hF:pstF ps ((p:Int),(t:Int)+1)=ptF ps p t:=by
   obtain⟨_,p',hp',i',hi',he,hF⟩:=pst_zero hE
   simp only[Prod.mk.injEq] at he
   obtain⟨e1,e2⟩:=he
   have e1:p=p':=by omega
   have e2:t=i':=by omega
   subst e1 e2
   exact hF
  have hP:pastV ps (p,f,t)=aInts (ptF ps p t):=by
   unfold pastV;rw[if_neg (show ¬t=nev ps p by omega)]
  rw[hE,hF] at hpst
  rw[hP]
  change PC _ _ [_,.agg [ai p,ai ((t:Int)+1)]] _ at hpst
  generalize ptF ps p t=D at *
  generalize nev ps p=n at *
  refine PC.enter 28 [.cell 4 182] [2,3] Proofs.Tryz.func129 rfl rfl rfl rfl rfl (by simp) (AWp.of ?_);simp only[go_sem]
  refine Wk ?_
  intro b4
  refine Wk ?_
  intro b5 g5
  have n1:¬b4=b5:=by omega
  have n2:¬b5=b4:=by omega
  refine W2 n1 n2 ?_
  repeat(first|(with_reducible refine AWp.seq ?_)|(with_reducible refine AWp.block ?_))
  refine AWp.read mixed [0,1,2,3,4,5,6] (by kernel_rfl) ?_;simp only[go_sem]
  refine Sd ?_
  refine GCall.use (ai (n:Nat)) (fun _=>⟨At,(hev).val.use ⟨rfl,rfl⟩⟩) ?_;simp only[go_sem]
  refine W3 hti n1 n2 ?_
  refine Sd ?_
  refine(hpst).val.use ?_;simp only[go_sem,n2]
  refine W2 n1 n2 ?_
  refine ret_eq ?_
  simp only[go_sem,n1]
 ·have hti:¬(t:Int)<((nev ps p:Nat):Int):=by omega
  have hP:pastV ps (p,f,t)=anil:=by
   unfold pastV;rw[if_pos (show t=nev ps p by omega)]
  rw[hP]
  generalize nev ps p=n at *
  refine PC.enter 28 [.cell 4 182] [2,3] Proofs.Tryz.func129 rfl rfl rfl rfl rfl (by simp) (AWp.of ?_);simp only[go_sem]
  refine Wk ?_
  intro b4
  refine Wk ?_
  intro b5 g5
  have n1:¬b4=b5:=by omega
  have n2:¬b5=b4:=by omega
  refine W2 n1 n2 ?_
  repeat(first|(with_reducible refine AWp.seq ?_)|(with_reducible refine AWp.block ?_))
  refine AWp.read mixed [0,1,2,3,4,5,6] (by kernel_rfl) ?_;simp only[go_sem]
  refine Sd ?_
  refine GCall.use (ai (n:Nat)) (fun _=>⟨At,(hev).val.use ⟨rfl,rfl⟩⟩) ?_;simp only[go_sem]
  refine W3 hti n1 n2 ?_
  refine ret_eq ?_
  simp only[go_sem,n1]
theorem strong_begins (ps:List Pr) (_hs:Sm ps) (hv:validF ps=true) (a o:Stp) (ha:SpIn ps a) (ho:SpIn ps o):PC Proofs.Tryz.prog 128 [aStr ps a,aStr ps o] (ab (bgN ps a o)):=by
 obtain⟨p,f,t⟩:=a
 obtain⟨q,f',t'⟩:=o
 obtain⟨h1,h2,h3⟩:=ha
 obtain⟨k1,k2,k3⟩:=ho
 have h1:p<ps.length:=h1
 have k1:q<ps.length:=k1
 have k3:t'≤nev ps q:=k3
 have hb:bgN ps (p,f,t) (q,f',t')=(decide (f=0) || (decide (t'=nev ps q) || decide ((f:Int)≤cAt (ptF ps q t') p))):=rfl
 have hA:aStr ps (p,f,t) = .agg [ai p,ai f,ai t,pastV ps (p,f,t)]:=rfl
 have hO:aStr ps (q,f',t') = .agg [ai q,ai f',ai t',pastV ps (q,f',t')]:=rfl
 have hfo:=pastV_fo ps (p,f,t)
 have hon:=pastV_one ps (p,f,t)
 have hf0:decide (f=0)=decide ((f:Int)=0):=by rw[decide_eq_decide];omega
 rw[hA,hO]
 by_cases ht:t'=nev ps q
 ·have hP:pastV ps (q,f',t')=anil:=by unfold pastV;rw[if_pos ht]
  have hbt:bgN ps (p,f,t) (q,f',t')=true:=by rw[hb,decide_eq_true ht];simp
  rw[hP,hbt]
  refine PC.enter 27 [.tmp 4] [2,3] Proofs.Tryz.func128 rfl rfl rfl rfl rfl (by simp) (AWp.of ?_);simp only[go_sem]
  refine Wk ?_
  repeat(first|(with_reducible refine AWp.seq ?_)|(with_reducible refine AWp.block ?_))
  refine AWp.read mixed [0,1,2,3,4,5,6,7,8,9,10,11,12,13,14,15,16,17,18,19,20,21,22] (by kernel_rfl) ?_;simp only[go_sem]
  refine Sd ?_
  refine Wk ?_
  refine ret_eq ?_;simp only[go_sem]
 ·have hP:pastV ps (q,f',t')=aInts (ptF ps q t'):=by unfold pastV;rw[if_neg ht]
  have hpl:=(isF_iff.1 (pt_is hv k1 (show t'<ps[q].evs.length by have:=nev_get k1;omega))).1
  rw[decide_eq_false ht,Bool.false_or,hf0] at hb
  rw[hP,hb]
  have hpD:p<(ptF ps q t').length:=by rw[hpl];exact h1
  generalize ptF ps q t'=D at *
  have hg:=getD_map (f:=ai) (l:=D) (k:=p) hpD
  rw[← cAt_nat hpD] at hg
  have hD:¬D.map ai=[]:=fun e=>by
   have h0:=congrArg List.length e
   rw[List.length_map,hpl] at h0
   have h0:ps.length=0:=h0
   omega
  have hDm:(D.map ai).length=ps.length:=by rw[List.length_map,hpl]
  generalize cAt D p=y at *
  show PC _ _ [_,.agg [_,_,_,.sl 1 (D.map ai)]] _
  generalize D.map ai=DM at *
  refine PC.enter 27 [.tmp 4] [2,3] Proofs.Tryz.func128 rfl rfl rfl rfl rfl (by simp) (AWp.of ?_);simp only[go_sem]
  refine Wk ?_
  repeat(first|(with_reducible refine AWp.seq ?_)|(with_reducible refine AWp.block ?_))
  refine AWp.read mixed [0,1,2,3,4,5,6,7,8,9,10,11,12,13,14,15,16,17,18,19,20,21,22] (by kernel_rfl) ?_;simp only[go_sem,hg,hDm]
  refine⟨fun h=>⟨h,hD⟩,?_⟩
  refine Sd ?_
  refine Wk ?_
  refine ret_eq ?_;simp only[go_sem]
attribute [go_sem] aStr
abbrev Spn3:=Int × Int × Int
theorem spans_indexFuncB (l:List Spn3) (hl:l.length≤9223372036854775807) (g:AV) (hgf:fo g=(True,g)) (p:Spn3→Bool) (hg:∀x ∈ l,PV Proofs.Tryz.prog g [aSp x] (ab (p x))) :
  PC Proofs.Tryz.prog 157 [aSps l,g] (ai (match l.findIdx? p with|some i=>(i:Int)|none => -1)):=by
 refine PC.enter 19 [.tmp 4] [] Proofs.Tryz.func157 rfl rfl rfl rfl rfl (by simp) (AWp.of ?_);simp only[go_sem]
 refine Sd ?_
 refine AWp.of ?_;simp only[go_sem,aSps]
 refine AWp.range1' l.length [] [0,1,7] (fun k vs L=>L=[]∧∀i (h:i<l.length),i<k→p l[i]=false) (by omega) rfl rfl rfl ⟨rfl,by omega⟩ ?_ ?_
 ·rintro k vs L' hk hvs ⟨rfl,hI⟩
  simp only[go_sem]
  refine Sd ?_
  refine AWp.of ?_;simp only[go_sem]
  have hgk:=hg l[k] (List.getElem_mem hk)
  try simp only[go_sem,aSp] at hgk
  refine Sd ?_
  refine AWp.of ?_;simp only[go_sem,getD_map hk,hgf,aSp]
  refine⟨⟨by omega,by omega⟩,hk,hgk.use (AWp.of ?_)⟩;simp only[go_sem]
  refine⟨fun ht => ?_,fun hf => ?_⟩
  ·refine Sd ?_
   refine AWp.of ?_;simp only[go_sem]
   refine ret_eq ?_;simp only[go_sem]
   have:l.findIdx? p=some k:=by rw[List.findIdx?_eq_some_iff_getElem];exact⟨hk,ht,fun j hj=>by simpa using hI j (by omega) hj⟩
   rw[this]
  ·refine⟨[],List.Sublist.refl _,rfl,fun i h hi => ?_⟩
   by_cases e:i=k
   ·subst e;exact hf
   ·exact hI i h (by omega)
 ·rintro vs L' hvs ⟨rfl,hI⟩
  simp only[go_sem]
  refine Sd ?_
  refine AWp.of ?_;simp only[go_sem]
  refine Sd ?_
  refine AWp.of ?_;simp only[go_sem]
  refine ret_eq ?_;simp only[go_sem]
  have:l.findIdx? p=none:=by rw[List.findIdx?_eq_none_iff];intro x hx;obtain⟨i,hi,rfl⟩:=List.getElem_of_mem hx;exact hI i hi hi
  rw[this]
theorem spans_containsFuncB (l:List Spn3) (hl:l.length≤9223372036854775807) (g:AV) (hgf:fo g=(True,g)) (p:Spn3→Bool) (hg:∀x ∈ l,PV Proofs.Tryz.prog g [aSp x] (ab (p x))) :
  PC Proofs.Tryz.prog 126 [aSps l,g] (ab (l.any p)):=by
 refine PC.enter 9 [.tmp 4] [] Proofs.Tryz.func126 rfl rfl rfl rfl rfl (by simp) (AWp.of ?_);simp only[go_sem]
 refine Sd ?_
 refine AWp.of ?_;simp only[go_sem,hgf,aSps]
 refine(spans_indexFuncB l hl g hgf p hg).val.use ?_
 simp only[go_sem]
 refine Sd ?_
 refine AWp.of ?_;simp only[go_sem]
 refine ret_eq ?_;simp only[go_sem]
 congr 2;exact findIdx_any l p
def aStrs (ps:List Pr) (l:List Stp):AV:=.sl 4 (l.map (aStr ps))
def ckB (ps:List Pr) (l:List Stp) (i k:Nat):Bool:=decide (i ≠ k) && !bgN ps (l.getD i (0,0,0)) (l.getD k (0,0,0))
def clK (ps:List Pr) (l:List Stp) (i:Nat):Option Nat:=(List.range l.length).find? (ckB ps l i)
def clB (ps:List Pr) (g:Stp→Bool) (l:List Stp) (i:Nat):Bool:=g (l.getD i (0,0,0)) && (clK ps l i).isSome
def clI (ps:List Pr) (g:Stp→Bool) (l:List Stp):Option Nat:=(List.range l.length).find? (clB ps g l)
def aClash (ps:List Pr) (g:Stp→Bool) (l:List Stp):AV:=match clI ps g l with
 | some i=>match clK ps l i with
  | some k => .tup [ai i,ai k,ab true]
  | none => .tup [ai 0,ai 0,ab false]
 | none => .tup [ai 0,ai 0,ab false]
theorem getD3 {l:List Stp} {i:Nat} (h:i<l.length):l.getD i (0,0,0)=l[i]:=by rw[List.getD_eq_getElem?_getD,List.getElem?_eq_getElem h,Option.getD_some]
theorem clash_yes {ps:List Pr} {g:Stp→Bool} {l:List Stp} {i k:Nat} (hi:i<l.length) (hk:k<l.length) (hik:i ≠ k) (hg:g l[i]=true) (hb:bgN ps l[i] l[k]=false) (h1:∀k',k'<k→ckB ps l i k'=false)
  (h2:∀i',i'<i→clB ps g l i'=false):aClash ps g l = .tup [ai i,ai k,ab true]:=by
 have e1:clK ps l i=some k:=find_range_of hk (by unfold ckB;rw[getD3 hi,getD3 hk,hb,decide_eq_true hik];rfl) h1
 have e2:clI ps g l=some i:=find_range_of hi (by unfold clB;rw[getD3 hi,hg,e1];rfl) h2
 unfold aClash
 rw[e2];dsimp only;rw[e1]
theorem clash_no {ps:List Pr} {g:Stp→Bool} {l:List Stp} (h:∀i,i<l.length→clB ps g l i=false):clI ps g l=none∧aClash ps g l = .tup [ai 0,ai 0,ab false]:=by
 have e:clI ps g l=none:=find_range_no h
 unfold aClash
 rw[e];exact⟨rfl,rfl⟩
theorem clI_none {ps:List Pr} {g:Stp→Bool} {l:List Stp} (h:clI ps g l=none):∀i k (hi:i<l.length) (hk:k<l.length),i ≠ k→g l[i]=true→bgN ps l[i] l[k]=true:=fun i k hi hk hik hg=>by
 have h1:=find_range_none h i hi
 unfold clB at h1
 rw[getD3 hi,hg,Bool.true_and] at h1
 cases h2:clK ps l i with
 | some z=>rw[h2] at h1;cases h1
 | none =>
  have h3:=find_range_none h2 k hk
  unfold ckB at h3
  rw[getD3 hi,getD3 hk,decide_eq_true hik,Bool.true_and] at h3
  simpa using h3
theorem clI_some {ps:List Pr} {g:Stp→Bool} {l:List Stp} {i:Nat} (h:clI ps g l=some i):∃k,∃(hi:i<l.length) (hk:k<l.length),i ≠ k∧g l[i]=true∧bgN ps l[i] l[k]=false∧aClash ps g l = .tup [ai i,ai k,ab true]:=by
 obtain⟨hi,h1,_⟩:=find_range h
 unfold clB at h1
 rw[getD3 hi,Bool.and_eq_true] at h1
 obtain⟨k,hk⟩:=Option.isSome_iff_exists.1 h1.2
 obtain⟨hk1,h2,_⟩:=find_range hk
 unfold ckB at h2
 rw[getD3 hi,getD3 hk1,Bool.and_eq_true,decide_eq_true_eq] at h2
 refine⟨k,hi,hk1,h2.1,h1.1,by simpa using h2.2,?_⟩
 unfold aClash
 rw[h];dsimp only;rw[hk]
theorem strong_clash (ps:List Pr) (hs:Sm ps) (hv:validF ps=true) (l:List Stp) (hl:l.length≤1000000) (hin:∀s ∈ l,SpIn ps s) (gv:AV) (hgf:fo gv=(True,gv)) (g:Stp→Bool) (hg:∀s ∈ l,PV Proofs.Tryz.prog gv [aStr ps s] (ab (g s))) :
  PC Proofs.Tryz.prog 96 [aStrs ps l,gv] (aClash ps g l):=by
 have hyes:=fun i k hi hk hik h1 h2 h3 h4=>clash_yes (ps:=ps) (g:=g) (l:=l) (i:=i) (k:=k) hi hk hik h1 h2 h3 h4
 have hno:=fun h=>(clash_no (ps:=ps) (g:=g) (l:=l) h).2
 have hR:aStrs ps l = .sl 4 (l.map (aStr ps)):=rfl
 have hcK:∀i,i<l.length→(∀k,k<l.length→ckB ps l i k=false)→(clK ps l i).isSome=false:=fun i hi h=>by
  have:clK ps l i=none:=find_range_no h
  rw[this];rfl
 rw[hR]
 generalize aClash ps g l=R at *
 refine PC.enter 42 [.tmp 4,.tmp 5,.tmp 6] [8,10] Proofs.Tryz.func96 rfl rfl rfl rfl rfl (by simp) (AWp.of ?_);simp only[go_sem]
 refine Wk ?_
 refine AWp.range' l.length [] [0,1,11,12] (fun i vs L=>L=[]∧∀i',i'<i→clB ps g l i'=false) (by omega) rfl rfl rfl ⟨rfl,fun _ h=>by omega⟩ ?_ ?_
 ·rintro i vs L hi - ⟨rfl,hI⟩
  have hgi:=getD_map (f:=aStr ps) hi
  have hgk:=hg l[i] (List.getElem_mem hi)
  have hini:=hin l[i] (List.getElem_mem hi)
  have hI2:(g l[i] && (clK ps l i).isSome)=false→∀i',i'<i+1→clB ps g l i'=false:=fun h i' hi'=>by
   by_cases e:i'=i
   ·subst e;unfold clB;rw[getD3 hi];exact h
   ·exact hI i' (by omega)
  simp only[go_sem] at hgk
  simp only[go_sem]
  refine W2 hgi hgf ?_
  intros
  refine W1 hgf ?_
  refine Sd ?_
  refine(hgk).use ?_;simp only[go_sem]
  refine Wk ?_
  refine⟨fun h1 => ?_,fun h1 => ?_⟩
  ·exact⟨_,List.Sublist.refl _,rfl,hI2 (by rw[h1];rfl)⟩
  ·refine Wk ?_
   refine AWp.range' l.length [] [0,1,7,8,11,12,13,22,23] (fun k vs L=>L=[]∧∀k',k'<k→ckB ps l i k'=false) (by omega) rfl rfl rfl ⟨rfl,fun _ h=>by omega⟩ ?_ ?_
   ·rintro k vs L hk - ⟨rfl,hJ⟩
    have hgk2:=getD_map (f:=aStr ps) hk
    have hbg:=strong_begins ps hs hv l[i] l[k] hini (hin l[k] (List.getElem_mem hk))
    simp only[go_sem] at hbg
    have hJ2:(decide (i ≠ k) && !bgN ps l[i] l[k])=false→∀k',k'<k+1→ckB ps l i k'=false:=fun h k' hk'=>by
     by_cases e:k'=k
     ·subst e;unfold ckB;rw[getD3 hi,getD3 hk];exact h
     ·exact hJ k' (by omega)
    have hy:=hyes i k hi hk
    generalize bgN ps l[i] l[k]=B at *
    simp only[go_sem]
    refine W1 hgk2 ?_
    intros
    refine Wk ?_
    refine Sd ?_
    refine Gc hbg ?_
    by_cases hik:i=k
    ·have hki:(i:Int)=(k:Int):=by omega
     refine W1 hki ?_
     exact⟨_,List.Sublist.refl _,rfl,hJ2 (by rw[decide_eq_false (by simpa using hik)];rfl)⟩
    ·have hki:¬(i:Int)=(k:Int):=by omega
     cases B with
     | true =>
      refine W1 hki ?_
      exact⟨_,List.Sublist.refl _,rfl,hJ2 (by simp)⟩
     | false =>
      rw[hy hik (by simpa using h1) rfl hJ hI]
      refine W1 hki ?_
      refine ret_eq ?_;simp only[go_sem]
   ·rintro vs L - ⟨rfl,hJ⟩
    have:=hcK i hi hJ
    simp only[go_sem]
    refine Wk ?_
    exact⟨_,List.Sublist.refl _,rfl,hI2 (by rw[this,Bool.and_false])⟩
 ·rintro vs L - ⟨rfl,hI⟩
  rw[hno hI]
  simp only[go_sem]
  refine Wk ?_
  refine ret_eq ?_;simp only[go_sem]
theorem strong_anyStretch (ps:List Pr) (s:Stp):PC Proofs.Tryz.prog 98 [aStr ps s] (ab true):=by
 have hR:aStr ps s = .agg [ai s.1,ai s.2.1,ai s.2.2,pastV ps s]:=rfl
 rw[hR]
 refine PC.enter 3 [.tmp 2] [1] Proofs.Tryz.func98 rfl rfl rfl rfl rfl (by simp) (AWp.of ?_);simp only[go_sem]
 refine Wk ?_
 refine ret_eq ?_;simp only[go_sem]
def BadI (n:Nat) (x:List Int) (i:Nat):Prop:=x.getD i 0<0∨(n:Int)<x.getD i 0∨(0<i∧x.getD i 0≤x.getD (i - 1) 0)
open Classical in
noncomputable def listsF (ps:List Pr) (l:List (List Int)):Int:=if validF ps=true∧l.length=ps.length then (if ∃p i,p<l.length∧i<(l.getD p []).length∧BadI (nev ps p) (l.getD p []) i then 2 else 0) else 1
end Go.AL
end
section
namespace Go.AL
open Go Go.RowKit
set_option maxRecDepth 4000
section
variable {ps:List Pr} {E:Elim} {l:List (List Int)} {a:Nat→Nat}
end
theorem totS_le2 {c c':Nat→Nat} : ∀n,(∀q,q<n→c' q≤c q)→totS n c'≤totS n c
 | 0,_=>by simp [totS]
 | n+1,h=>by
  rw[totS_succ,totS_succ]
  have:=totS_le2 n fun q hq=>h q (by omega)
  have:=h n (by omega)
  omega
theorem totS_lt2 {c c':Nat→Nat} {p:Nat} : ∀n,(∀q,q<n→c' q≤c q)→p<n→c' p<c p→totS n c'<totS n c
 | 0,_,hp,_=>by omega
 | n+1,h,hp,hlt=>by
  rw[totS_succ,totS_succ]
  have h1:=h n (by omega)
  by_cases e:p=n
  ·subst e
   have:=totS_le2 p fun q hq=>h q (by omega)
   omega
  ·have:=totS_lt2 n (fun q hq=>h q (by omega)) (by omega) hlt
   omega
theorem rows_in {ps:List Pr} {b:Nat→Nat→Bool} {rows:Nat→List Stp} (hR:RowsOk ps b rows) {p:Nat} (hp:p<ps.length):∀s ∈ rows p,SpIn ps s:=fun s hs=>by
 obtain⟨h1,h2,h3,_⟩:=(hR p hp).el s hs
 exact⟨by rw[h1];exact hp,h2,by rw[h1];omega⟩
theorem chcL_succ (k:Nat) (rows:Nat→List Stp) (a:Nat→Nat):chcL (k+1) rows a=chcL k rows a ++ [fSp rows k (a k)]:=by unfold chcL;rw[List.range_succ,List.map_append];rfl
theorem last_get (d:List Stp) (x:Stp):((d ++ [x]).map aStp).getD (((d ++ [x]).map aStp).length - 1) .any=aStp x:=by
 rw[List.length_map,List.getD_eq_getElem?_getD,List.getElem?_map]
 simp
theorem last_set (d:List Stp) (x y:Stp):((d ++ [x]).map aStp).set (((d ++ [x]).map aStp).length - 1) (aStp y)=(d ++ [y]).map aStp:=by
 rw[List.length_map,List.map_append,List.map_append]
 simp
def badSp (ps:List Pr) (s:Spn3):Bool:=decide (s.1<0) || (decide ((ps.length:Int)≤s.1) || (decide (s.2.1<0) || (decide (s.2.2<s.2.1) || decide ((nev ps s.1.toNat:Int)<s.2.2))))
def dupSp (l:List Spn3) (i:Nat):Bool:=(l.take i).any fun x=>decide (x.1=(l.getD i (0,0,0)).1)
noncomputable def gvnE (ps:List Pr) (l:List Spn3):Int:=if validF ps=true then (if 1000<l.length then 5 else if l.any (badSp ps)=true then 2 else if (List.range l.length).any (dupSp l)=true then 8 else 0) else 1
def spN (s:Spn3):Stp:=(s.1.toNat,s.2.1.toNat,s.2.2.toNat)
theorem bad_not {ps:List Pr} {s:Spn3} (h:badSp ps s=false):SpIn ps (spN s)∧aSp s=aStp (spN s)∧s=stpI (spN s):=by
 obtain⟨p,f,t⟩:=s
 unfold badSp at h
 simp only[Bool.or_eq_false_iff,decide_eq_false_iff_not] at h
 obtain⟨h1,h2,h3,h4,h5⟩:=h
 have e1:((p.toNat:Nat):Int)=p:=by omega
 have e2:((f.toNat:Nat):Int)=f:=by omega
 have e3:((t.toNat:Nat):Int)=t:=by omega
 refine⟨⟨show p.toNat<ps.length by omega,show f.toNat≤t.toNat by omega,show t.toNat≤nev ps p.toNat by omega⟩,?_,?_⟩
 ·show AV.agg [ai p,ai f,ai t] = .agg [ai ((p.toNat:Nat):Int),ai ((f.toNat:Nat):Int),ai ((t.toNat:Nat):Int)]
  rw[e1,e2,e3]
 ·show (p,f,t)=(((p.toNat:Nat):Int),((f.toNat:Nat):Int),((t.toNat:Nat):Int))
  rw[e1,e2,e3]
theorem gvn_zero {ps:List Pr} {l:List Spn3} (h:gvnE ps l=0):validF ps=true∧l.length≤1000∧(∀s ∈ l,badSp ps s=false)∧∀i,i<l.length→dupSp l i=false:=by
 unfold gvnE at h
 split at h
 ·rename_i hv
  split at h
  ·cases h
  ·rename_i h1
   split at h
   ·cases h
   ·rename_i h2
    split at h
    ·cases h
    ·rename_i h3
     rw[Bool.not_eq_true,List.any_eq_false] at h2 h3
     exact⟨hv,by omega,fun s hs=>by simpa using h2 s hs,fun i hi=>by simpa using h3 i (List.mem_range.2 hi)⟩
 ·cases h
theorem strong_given1 (x s:Spn3):PC Proofs.Tryz.prog 127 [aSp x,.rp 3 [aSp s] 0 0] (ab (decide (x.1=s.1))):=by
 obtain⟨a,b,c⟩:=x
 obtain⟨d,e,f⟩:=s
 have h1:aSp (a,b,c) = .agg [ai a,ai b,ai c]:=rfl
 have h2:aSp (d,e,f) = .agg [ai d,ai e,ai f]:=rfl
 rw[h1,h2]
 refine PC.enter 9 [.tmp 3] [2] Proofs.Tryz.func127 rfl rfl rfl rfl rfl (by simp) (AWp.of ?_);simp only[go_sem]
 refine Wk ?_
 refine ret_eq ?_;simp only[go_sem]
theorem strong_given (ps:List Pr) (hs:Sm ps) (l:List Spn3) (hl:l.length≤9223372036854775806):PC Proofs.Tryz.prog 95 [aTr ps,aSps l] (ai (gvnE ps l)):=by
 have h1:=trace_Valid ps hs
 have hpl:=hs.procs
 have hR:aSps l = .sl 3 (l.map aSp):=rfl
 rw[hR]
 cases hv:validF ps with
 | false =>
  have hE:gvnE ps l=1:=by unfold gvnE;rw[hv];rfl
  rw[hv] at h1
  rw[hE]
  refine PC.enter 69 [.tmp 4] [2,6,8] Proofs.Tryz.func95 rfl rfl rfl rfl rfl (by simp) (AWp.of ?_);simp only[go_sem]
  refine Wk ?_
  refine Sd ?_
  refine(h1).val.use ?_;simp only[go_sem]
  refine Wk ?_
  refine ret_eq ?_;simp only[go_sem]
 | true =>
  rw[hv] at h1
  have hE0:gvnE ps l=if 1000<l.length then 5 else if l.any (badSp ps)=true then 2 else if (List.range l.length).any (dupSp l)=true then 8 else 0:=by unfold gvnE;rw[hv,if_pos rfl]
  by_cases hlen:1000<l.length
  ·have hli:(1000:Int)<(l.length:Int):=by omega
   rw[hE0,if_pos hlen]
   refine PC.enter 69 [.tmp 4] [2,6,8] Proofs.Tryz.func95 rfl rfl rfl rfl rfl (by simp) (AWp.of ?_);simp only[go_sem]
   refine Wk ?_
   refine Sd ?_
   refine(h1).val.use ?_;simp only[go_sem]
   refine W1 hli ?_
   refine ret_eq ?_;simp only[go_sem]
  ·have hli:¬(1000:Int)<(l.length:Int):=by omega
   rw[if_neg hlen] at hE0
   generalize gvnE ps l=E at *
   refine PC.enter 69 [.tmp 4] [2,6,8] Proofs.Tryz.func95 rfl rfl rfl rfl rfl (by simp) (AWp.of ?_);simp only[go_sem]
   refine Wk ?_
   refine Sd ?_
   refine(h1).val.use ?_;simp only[go_sem]
   refine W1 hli ?_
   refine AWp.range' l.length [] [1,2,17,18] (fun i vs L=>L=[]∧∀j (hj:j<l.length),j<i→badSp ps l[j]=false) (by omega) rfl rfl rfl ⟨rfl,fun _ _ h=>by omega⟩ ?_ ?_
   ·rintro i vs L hi - ⟨rfl,hI⟩
    have hgi:=getD_map (f:=aSp) hi
    have hbad:badSp ps l[i]=true→E=2:=fun h=>by
     rw[hE0,if_pos (List.any_eq_true.2 ⟨_,List.getElem_mem hi,h⟩)]
    have hI2:badSp ps l[i]=false→∀j (hj:j<l.length),j<i+1→badSp ps l[j]=false:=fun h j hj hji=>by
     by_cases e:j=i
     ·subst e;exact h
     ·exact hI j hj (by omega)
    clear hI
    generalize l[i]=s at *
    obtain⟨p,f,t⟩:=s
    have hgi:(l.map aSp).getD i .any = .agg [ai p,ai f,ai t]:=hgi
    have hB:badSp ps (p,f,t)=(decide (p<0) || (decide ((ps.length:Int)≤p) || (decide (f<0) || (decide (t<f) || decide ((nev ps p.toNat:Int)<t))))):=rfl
    have hev:0≤p∧p<ps.length→PC Proofs.Tryz.prog 125 [aTr ps,ai p] (ai (nev ps p.toNat:Nat)):=fun h=>by
     obtain⟨n,rfl⟩:∃n:Nat,p=n:=⟨p.toNat,by omega⟩
     have:=strong_events ps hs n (by omega)
     rw[Int.toNat_natCast];exact this
    generalize nev ps p.toNat=N at *
    simp only[go_sem]
    refine W1 hgi ?_
    intros
    repeat(first|(with_reducible refine AWp.seq ?_)|(with_reducible refine AWp.block ?_))
    refine AWp.read mixed [0,1,2,3,4,5,6,7,8,9,10,11,12,13,14,15,16,17,18,19,20,21,22,23,24,25,26,27,28,29,30,31] (by kernel_rfl) ?_;simp only[go_sem]
    refine Sd ?_
    refine GCall.use (ai (N:Nat)) (fun hg=>⟨At,(hev ?_).val.use ⟨rfl,rfl⟩⟩) ?_
    ·simp at hg
     omega
    simp only[go_sem]
    refine Wk ?_
    refine⟨fun h => ?_,fun h1 h2 h3 h4 h5 => ?_⟩
    ·have hb:badSp ps (p,f,t)=true:=by rw[hB];simp;omega
     rw[hbad hb]
     refine Wk ?_
     refine ret_eq ?_;simp only[go_sem]
    ·have hb:badSp ps (p,f,t)=false:=by rw[hB];simp;omega
     exact⟨_,List.Sublist.refl _,rfl,hI2 hb⟩
   ·rintro vs L - ⟨rfl,hI⟩
    have hnb:¬l.any (badSp ps)=true:=by
     rw[Bool.not_eq_true,List.any_eq_false]
     intro x hx
     obtain⟨j,hj,rfl⟩:=List.getElem_of_mem hx
     rw[hI j hj hj];decide
    rw[if_neg hnb] at hE0
    simp only[go_sem]
    refine Wk ?_
    refine AWp.range' l.length [] [1,56,57] (fun i vs L=>L=[]∧∀j,j<i→dupSp l j=false) (by omega) rfl rfl rfl ⟨rfl,fun _ h=>by omega⟩ ?_ ?_
    ·rintro i vs L hi - ⟨rfl,hJ⟩
     have hgi:=getD_map (f:=aSp) hi
     have hd:dupSp l i=(l.take i).any fun x=>decide (x.1=l[i].1):=by unfold dupSp;rw[List.getD_eq_getElem?_getD,List.getElem?_eq_getElem hi,Option.getD_some]
     have hcf:=spans_containsFuncB (l.take i) (by rw[List.length_take];omega) (.clo 127 [.rp 3 [aSp l[i]] 0 0]) rfl (fun x=>decide (x.1=l[i].1)) fun x _=>(strong_given1 x l[i]).clo
     rw[← hd] at hcf
     have htw:dupSp l i=true→E=8:=fun h=>by
      rw[hE0,if_pos (List.any_eq_true.2 ⟨i,List.mem_range.2 hi,h⟩)]
     have hJ2:dupSp l i=false→∀j,j<i+1→dupSp l j=false:=fun h j hji=>by
      by_cases e:j=i
      ·subst e;exact h
      ·exact hJ j (by omega)
     clear hJ hd
     generalize dupSp l i=D at *
     generalize l[i]=s at *
     obtain⟨p,f,t⟩:=s
     have hgi:(l.map aSp).getD i .any = .agg [ai p,ai f,ai t]:=hgi
     change PC _ _ [_,.clo _ [.rp 3 [.agg [ai p,ai f,ai t]] 0 0]] _ at hcf
     simp only[go_sem]
     refine W1 hgi ?_
     intros
     refine Wk ?_
     refine Sd ?_
     refine Sd ?_
     refine(hcf).val.use ?_;simp only[go_sem]
     cases D with
     | true =>
      rw[htw rfl]
      refine Wk ?_
      refine ret_eq ?_;simp only[go_sem]
     | false =>
      refine Wk ?_
      exact⟨_,List.Sublist.refl _,rfl,hJ2 rfl⟩
    ·rintro vs L - ⟨rfl,hJ⟩
     have hnd:¬(List.range l.length).any (dupSp l)=true:=by
      rw[Bool.not_eq_true,List.any_eq_false]
      intro x hx
      rw[hJ x (List.mem_range.1 hx)];decide
     rw[if_neg hnd] at hE0
     subst hE0
     simp only[go_sem]
     refine Wk ?_
     refine ret_eq ?_;simp only[go_sem]
theorem strong_all (ps:List Pr) (hs:Sm ps) (hv:validF ps=true) (l:List Stp) (hl:l.length≤1000000) (hin:∀s ∈ l,SpIn ps s):PC Proofs.Tryz.prog 97 [aTr ps,.sl 3 (l.map aStp)] (aStrs ps l):=by
 have hA:aStrs ps l = .sl 4 (l.map (aStr ps)):=rfl
 rw[hA]
 refine PC.enter 22 [.tmp 4] [2,7,18] Proofs.Tryz.func97 rfl rfl rfl rfl rfl (by simp) (AWp.of ?_);simp only[go_sem]
 refine Wk ?_
 refine AWp.range' l.length [5] [2,8,9] (fun k vs L=>∃v,vs=[v]∧AppSt 182 4 ((l.take k).map (aStr ps)) v L) (by omega) rfl rfl rfl ⟨anil,rfl,.nil⟩ ?_ ?_
 ·rintro k vs L hk - ⟨v,rfl,hAp⟩
  have hgk:=getD_map (f:=aStp) hk
  have hms:=strong_measured ps hs hv l[k] (hin _ (List.getElem_mem hk))
  have hfo:=hAp.fo
  have hyl:((l.take k).map (aStr ps)).length=k:=by rw[List.length_map,List.length_take];omega
  rw[List.take_succ_eq_append_getElem hk,List.map_append]
  have ea:[l[k]].map (aStr ps)=[aStr ps l[k]]:=rfl
  rw[ea]
  generalize l[k]=s at *
  obtain⟨p,f,t⟩:=s
  have hgk:(l.map aStp).getD k .any = .agg [ai p,ai f,ai t]:=hgk
  change PC _ _ [_,.agg [ai p,ai f,ai t]] _ at hms
  have hS:aStr ps (p,f,t) = .agg [ai p,ai f,ai t,pastV ps (p,f,t)]:=rfl
  rw[hS] at hms ⊢
  generalize (l.take k).map (aStr ps)=ys at *
  rcases hAp.inv with ⟨e3,rfl,rfl⟩|⟨bq,cap,rfl,rfl⟩
  ·subst e3
   simp only[go_sem]
   refine W1 hgk ?_
   intros
   refine Wk ?_
   refine Sd ?_
   refine(hms).val.use ?_;simp only[go_sem]
   refine Wk ?_
   intro b' cap' _
   exact⟨_,List.Sublist.refl _,_,rfl,.row _ _ _⟩
  ·simp only[go_sem]
   refine W1 hgk ?_
   intros
   refine Wk ?_
   refine Sd ?_
   refine(hms).val.use ?_;simp only[go_sem]
   refine Wk ?_
   intro b' cap' _
   refine⟨_,List.Sublist.refl _,_,rfl,?_⟩
   exact AppSt.snoc b' cap' _ rfl
 ·rintro vs L - ⟨v,rfl,hAp⟩
  rw[List.take_length] at hAp
  have hfo:=hAp.fo
  rcases hAp.inv with ⟨e3,rfl,rfl⟩|⟨bq,cap,rfl,rfl⟩
  ·simp only[go_sem]
   refine Wk ?_
   refine ret_view [] ?_;simp only[go_sem]
   rw[e3]
   exact .nil 4
  ·simp only[go_sem]
   refine Wk ?_
   refine ret_view [true] ?_;simp only[go_sem]
   exact Vw.ofLs (if_pos rfl) (List.length_map _).symm
def ovF (ps:List Pr) (l:List Stp):Bool:=(clI ps (fun _=>true) l).isNone
theorem ov_clash (ps:List Pr) (l:List Stp):∃x y:Int,aClash ps (fun _=>true) l = .tup [ai x,ai y,ab (!ovF ps l)]:=by
 unfold ovF
 cases h:clI ps (fun _=>true) l with
 | none =>
  refine⟨0,0,?_⟩
  unfold aClash;rw[h];rfl
 | some i =>
  obtain⟨k,hi,hk,_,_,_,e⟩:=clI_some h
  exact⟨i,k,e⟩
theorem ov_iff {ps:List Pr} {l:List Stp} : ovF ps l=true↔∀i k (hi:i<l.length) (hk:k<l.length),i ≠ k→bgN ps l[i] l[k]=true:=by
 unfold ovF
 constructor
 ·intro h i k hi hk hik
  rw[Option.isNone_iff_eq_none] at h
  exact clI_none h i k hi hk hik rfl
 ·intro h
  cases h1:clI ps (fun _=>true) l with
  | none=>rfl
  | some i =>
   obtain⟨k,hi,hk,hik,_,hb,_⟩:=clI_some h1
   rw[h i k hi hk hik] at hb;cases hb
theorem spN_len {l:List Spn3} : (l.map spN).length=l.length:=List.length_map _
theorem sps_stp {ps:List Pr} {l:List Spn3} (h:∀s ∈ l,badSp ps s=false):aSps l = .sl 3 ((l.map spN).map aStp)∧∀s ∈ l.map spN,SpIn ps s:=by
 refine⟨?_,fun s hs => ?_⟩
 ·show AV.sl 3 (l.map aSp)=_
  rw[List.map_map]
  congr 1
  exact List.map_congr_left fun s hs=>(bad_not (h s hs)).2.1
 ·obtain⟨x,hx,rfl⟩:=List.mem_map.1 hs
  exact(bad_not (h x hx)).1
theorem strong_Overlap (ps:List Pr) (hs:Sm ps) (l:List Spn3) (hl:l.length≤9223372036854775806):PC Proofs.Tryz.prog 51 [aTr ps,aSps l] (.tup [ab (decide (gvnE ps l=0) && ovF ps (l.map spN)),ai (gvnE ps l)]):=by
 have hg:=strong_given ps hs l hl
 by_cases h0:gvnE ps l=0
 ·obtain⟨hv,hl2,hb,_⟩:=gvn_zero h0
  obtain⟨hR,hin⟩:=sps_stp hb
  have hal:=strong_all ps hs hv (l.map spN) (by rw[spN_len];omega) hin
  have hcl:=strong_clash ps hs hv (l.map spN) (by rw[spN_len];omega) hin (.v (.func (.func 98) #[] #[])) rfl (fun _=>true) (fun s _=>(strong_anyStretch ps s).val)
  obtain⟨x,y,hc⟩:=ov_clash ps (l.map spN)
  rw[hc] at hcl
  rw[hR] at hg ⊢
  rw[h0] at hg ⊢
  have hA:aStrs ps (l.map spN) = .sl 4 ((l.map spN).map (aStr ps)):=rfl
  rw[hA] at hal hcl
  rw[decide_eq_true rfl,Bool.true_and]
  generalize ovF ps (l.map spN)=B at *
  refine PC.enter 26 [.tmp 4,.tmp 5] [2] Proofs.Tryz.func51 rfl rfl rfl rfl rfl (by simp) (AWp.of ?_);simp only[go_sem]
  refine Wk ?_
  refine Sd ?_
  refine(hg).val.use ?_;simp only[go_sem]
  refine Wk ?_
  refine Sd ?_
  refine(hal).val.use ?_;simp only[go_sem]
  refine Sd ?_
  refine(hcl).val.use ?_;simp only[go_sem]
  refine Wk ?_
  refine ret_eq ?_;simp only[go_sem]
 ·rw[decide_eq_false h0,Bool.false_and]
  have hR:aSps l = .sl 3 (l.map aSp):=rfl
  rw[hR] at hg ⊢
  generalize gvnE ps l=E at *
  refine PC.enter 26 [.tmp 4,.tmp 5] [2] Proofs.Tryz.func51 rfl rfl rfl rfl rfl (by simp) (AWp.of ?_);simp only[go_sem]
  refine W1 h0 ?_
  refine Sd ?_
  refine(hg).val.use ?_;simp only[go_sem]
  refine W1 h0 ?_
  refine ret_eq ?_;simp only[go_sem]
end Go.AL
end
