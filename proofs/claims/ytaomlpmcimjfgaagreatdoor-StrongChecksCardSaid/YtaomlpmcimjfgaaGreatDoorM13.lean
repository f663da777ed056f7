/- Texts of this claim's proof: WSb, WAw, WSr, WOf, WWl, WCt, WLv, WSn, WMk, WMr, WMn, WCu, WBig, WMl, WMc, WMd, AlGrd, WSs, WSp, WCp, WCk, WEx, WRr, WEy, WPq, WNa, WNb, WTm, WDx, WPu, WNc, WQa. No condition. -/
import Derived.Test.YtaomlpmcimjfgaaGreatDoorM12
import Derived.Test.YtaomlpmcimjfgaaGreatDoorM6
import Derived.Test.YtaomlpmcimjfgaaGreatDoorM10
import Derived.Test.YtaomlpmcimjfgaaGreatDoorM8
import Derived.Test.YtaomlpmcimjfgaaGreatDoorM11
import Derived.Test.YtaomlpmcimjfgaaGreatDoorM7
section
namespace Go.AL
open Go Go.RowKit
set_option maxRecDepth 4000
def lclAt (z:Int→Pd→Int) (ts:List Pd) (p:Nat):Int:=match ts[p]? with|some t=>z p t|none=>0
noncomputable def conF (ps:List Pr) (ts:List Pd):Int :=
 if validF ps=true∧ts.length=ps.length then match (List.range ts.length).find? (fun p=>decide (lclAt (fun p t=>lclF ps p 0 t) ts p ≠ 0)) with|some p=>lclAt (fun p t=>lclF ps p 0 t) ts p|none=>0 else 1
theorem conF_bad {ps:List Pr} {ts:List Pd} (h:¬(validF ps=true∧ts.length=ps.length)):conF ps ts=1:=by unfold conF;rw[if_neg h]
theorem conF_hit {ps:List Pr} {ts:List Pd} (h:validF ps=true∧ts.length=ps.length) {p:Nat} (hp:p<ts.length) (h0:∀q (hq:q<ts.length),q<p→lclF ps q 0 ts[q]=0) (h1:lclF ps p 0 ts[p] ≠ 0):conF ps ts=lclF ps p 0 ts[p]:=by
 have e:∀q (hq:q<ts.length),lclAt (fun p t=>lclF ps p 0 t) ts q=lclF ps q 0 ts[q]:=fun q hq=>by unfold lclAt;rw[List.getElem?_eq_getElem hq]
 unfold conF
 rw[if_pos h,find_range_of hp (by rw[e p hp];exact decide_eq_true h1) fun q hq=>by rw[e q (by omega),h0 q (by omega) hq];rfl]
 exact e p hp
theorem conF_zero {ps:List Pr} {ts:List Pd} (h:validF ps=true∧ts.length=ps.length) (h0:∀q (hq:q<ts.length),lclF ps q 0 ts[q]=0):conF ps ts=0:=by
 have e:∀q (hq:q<ts.length),lclAt (fun p t=>lclF ps p 0 t) ts q=lclF ps q 0 ts[q]:=fun q hq=>by unfold lclAt;rw[List.getElem?_eq_getElem hq]
 unfold conF
 rw[if_pos h,find_range_no fun q hq=>by rw[e q hq,h0 q hq];rfl]
theorem conF_inv {ps:List Pr} {ts:List Pd} (h:conF ps ts=0):validF ps=true∧ts.length=ps.length∧∀q (hq:q<ts.length),lclF ps q 0 ts[q]=0:=by
 by_cases h1:validF ps=true∧ts.length=ps.length
 ·refine⟨h1.1,h1.2,fun q hq => ?_⟩
  have e:∀q (hq:q<ts.length),lclAt (fun p t=>lclF ps p 0 t) ts q=lclF ps q 0 ts[q]:=fun q hq=>by unfold lclAt;rw[List.getElem?_eq_getElem hq]
  unfold conF at h
  rw[if_pos h1] at h
  cases hf:(List.range ts.length).find? (fun p=>decide (lclAt (fun p t=>lclF ps p 0 t) ts p ≠ 0)) with
  | some p =>
   rw[hf] at h
   have:=(find_range hf).2.1
   have h:lclAt (fun p t=>lclF ps p 0 t) ts p=0:=h
   rw[h] at this;simp at this
  | none =>
   have:=find_range_none hf q hq
   rw[e q hq] at this
   simpa using this
 ·rw[conF_bad h1] at h;cases h
theorem AWp.only {C:Cfg} {cd:Code} {Q:AQ} {ρ:Env} {L:AHeap} (ks:List Nat) (h:AWp C cd Q (ks.zip (ks.map (get ρ))) L):AWp C cd Q ρ L :=
 AWp.st (fun _w0 _M _A0 _a _w hh=>st_forget hh (get_zip ks ρ)) h
def psA:List Pr:=[⟨⟨#[112]⟩,[],[⟨2,1,5,0,[]⟩]⟩,⟨⟨#[113]⟩,[],[⟨3,0,5,3,[]⟩]⟩]
def psB:List Pr:=[⟨⟨#[112]⟩,[],[]⟩,⟨⟨#[113]⟩,[],[⟨1,0,0,3,[]⟩]⟩]
structure Ans where
 mode:Int
 holds:Bool
 kind:Int
 cut:List Int
 cuts:List (List Int)
 run:List (List Int)
 spans:List (Int × Int × Int)
 value:Int
def aSp (s:Int × Int × Int):AV:=.agg [ai s.1,ai s.2.1,ai s.2.2]
def aSps (l:List (Int × Int × Int)):AV:=.sl 3 (l.map aSp)
def aAns (a:Ans):AV:=.agg [ai a.mode,ab a.holds,ai a.kind,aInts a.cut,aRows a.cuts,aRows a.run,aSps a.spans,ai a.value]
def stpI (s:Stp):Int × Int × Int:=(s.1,s.2.1,s.2.2)
theorem aStp_I (l:List Stp) : .sl 3 (l.map aStp)=aSps (l.map stpI):=by unfold aSps;rw[List.map_map];rfl
def cutL (n:Nat) (f:Nat→Nat):List Int:=(List.range n).map fun q=>(f q:Int)
def noAns:Ans:=⟨0,false,0,[],[],[],[],0⟩
noncomputable def ansOf (E:Elim):Ans:=if lostF E=true then ⟨1,false,4,[],[],[],(stepsF E).map stpI,0⟩ else ⟨1,true,1,cutL E.n (finF E),[],[],[],0⟩
def psC:List Pr:=[⟨⟨#[112]⟩,[(⟨#[120]⟩,0)],[⟨1,0,0,0,[(0,1)]⟩,⟨1,0,0,0,[(0,0)]⟩,⟨2,1,5,0,[]⟩]⟩,⟨⟨#[113]⟩,[(⟨#[121]⟩,0)],[⟨3,0,5,0,[]⟩,⟨1,0,0,0,[(0,1)]⟩]⟩]
def oneT (p:Int) (s:ByteArray):Pd:=.mk 9 0 0 0 ByteArray.empty [.mk 2 0 p 0 s [],.mk 1 1 0 0 ByteArray.empty []]
def tsC:List Pd:=[oneT 0 ⟨#[120]⟩,oneT 1 ⟨#[121]⟩]
def tsD:List Pd:=[oneT 0 ⟨#[120]⟩,.mk 13 0 0 0 ByteArray.empty []]
def openN (ps:List Pr):Nat→List Int→List Int
 | 0,c=>c
 | n+1,c=>match missF ps c with
  | none=>c
  | some x=>openN ps n (c.set x.2.1.toNat (x.2.2 - 1))
def openF (ps:List Pr) (c:List Int):List Int:=openN ps (totC c) c
structure NeedOk (ps:List Pr) (E:Elim):Prop where
 n:E.n=ps.length
 top:∀p (hp:p<ps.length),E.top p=ps[p].evs.length
 need:∀q k p,E.need q k p=cAt (closeF ps (stC ps.length q k)) p
structure SatD (ps:List Pr) (E:Elim) (d:List Int):Prop where
 len:d.length=ps.length
 rng:inRangeF ps d=true
 clo:closedF ps d=true
 ok:∀p,p<ps.length→E.ok p (cAt d p).toNat=true
theorem stC_cAt {n p q:Nat} {k:Int} (hq:q<n):cAt (stC n p k) q=if p=q then k else 0:=by
 rw[cAt_nat (by rw[stC_len];exact hq)]
 unfold stC
 rw[List.getElem_set,List.getElem_replicate]
theorem need_le {ps:List Pr} (hv:validF ps=true) {d:List Int} (hd:d.length=ps.length) (hr:inRangeF ps d=true) (hcl:closedF ps d=true) {q k:Nat} (hq:q<ps.length) (hk:(k:Int)≤cAt d q):∀p,p<ps.length→cAt (closeF ps (stC ps.length q k)) p≤cAt d p:=by
 have h0:=(inRange_iff hd).1 hr
 obtain⟨a1,a2⟩:=stC_ok (k:=(k:Int)) hq (by omega) (by have:=(h0 q hq).2;omega)
 refine closeF_least hv hd hcl a1 a2 fun p hp => ?_
 rw[stC_cAt hp]
 split
 ·rename_i e;subst e;exact hk
 ·exact(h0 p hp).1
section
variable {ps:List Pr} {E:Elim}
end
theorem noreach {ps:List Pr} (hv:validF ps=true) {x:Eid} (hx:VEv ps x):¬Reach ps x x:=by
 obtain⟨p,hp,i,hi,rfl⟩:=hx
 have h0:=valid_cyc hv
 unfold cycF at h0
 rw[Option.map_eq_none_iff,List.find?_eq_none] at h0
 simpa using h0 _ (List.mem_of_getElem? (evIds_get hp hi))
theorem reach_trans {ps:List Pr} {a b c:Eid} (h1:Reach ps a b) (h2:Reach ps b c):Reach ps a c:=by
 induction h2 with
 | single h=>exact .tail h1 h
 | tail _ h ih=>exact .tail ih h
theorem countP_lt {α:Type} {p q:α→Bool} : ∀ {l:List α},(∀a ∈ l,p a=true→q a=true)→(∃a ∈ l,p a=false∧q a=true)→l.countP p<l.countP q
 | [],_,⟨a,h,_⟩=>by cases h
 | b :: l,h1,⟨a,ha,h2,h3⟩=>by
  have hle:l.countP p≤l.countP q:=List.countP_mono_left fun a ha h=>h1 a (List.mem_cons_of_mem _ ha) h
  rw[List.countP_cons,List.countP_cons]
  have hb:=h1 b List.mem_cons_self
  rcases List.mem_cons.1 ha with rfl|ha
  ·rw[h2,h3];simp;omega
  ·have:=countP_lt (l:=l) (fun a ha h=>h1 a (List.mem_cons_of_mem _ ha) h) ⟨a,ha,h2,h3⟩
   by_cases e:p b=true
   ·rw[e,hb e];omega
   ·rw[if_neg e];split <;> omega
open Classical in
noncomputable def anc (ps:List Pr) (x:Eid):Nat:=(evIds ps).countP fun e=>decide (Reach ps e.1 x)
theorem anc_lt {ps:List Pr} (hv:validF ps=true) {x y:Eid} (hx:VEv ps x) (h:Reach ps x y):anc ps x<anc ps y:=by
 classical
 unfold anc
 refine countP_lt (fun a _ ha=>decide_eq_true (reach_trans (of_decide_eq_true ha) h)) ?_
 obtain⟨e,he,e1⟩:=List.mem_map.1 hx.mem
 exact⟨e,he,decide_eq_false (by rw[e1];exact noreach hv hx),decide_eq_true (by rw[e1];exact h)⟩
theorem nx_line {ps:List Pr} (hm:msgF ps=none) {p:Nat} (hp:p<ps.length) {j:Nat} (hj:j+1<ps[p].evs.length):Nx ps ((p:Int),(j:Int)+1) ((p:Int),((j+1:Nat):Int)+1):=by
 refine((dirL_iff hm hp hj _).1 ?_).2
 unfold dirL
 rw[List.mem_append,if_pos (by omega)]
 exact .inl (by simp)
theorem nx_send {ps:List Pr} (hm:msgF ps=none) {p:Nat} (hp:p<ps.length) {i:Nat} (hi:i<ps[p].evs.length) (hk:ps[p].evs[i].kind=3):Nx ps (sndr ps ps[p].evs[i].msg) ((p:Int),(i:Int)+1):=by
 refine((dirL_iff hm hp hi _).1 ?_).2
 unfold dirL
 rw[List.mem_append,evq_get hp hi,if_pos hk]
 exact .inr (by simp)
theorem reach_line {ps:List Pr} (hm:msgF ps=none) {p:Nat} (hp:p<ps.length) {i:Nat} : ∀ {j:Nat},i<j→j<ps[p].evs.length→Reach ps ((p:Int),(i:Int)+1) ((p:Int),(j:Int)+1)
 | 0,h,_=>by omega
 | j+1,h,hj=>by
  by_cases e:i=j
  ·subst e;exact .single (nx_line hm hp hj)
  ·exact .tail (reach_line hm hp (by omega) (by omega)) (nx_line hm hp hj)
theorem anc_line {ps:List Pr} (hv:validF ps=true) {p:Nat} (hp:p<ps.length) {i j:Nat} (hij:i≤j) (hj:j<ps[p].evs.length):anc ps ((p:Int),(i:Int)+1)≤anc ps ((p:Int),(j:Int)+1):=by
 by_cases e:i=j
 ·subst e;exact Nat.le_refl _
 ·exact Nat.le_of_lt (anc_lt hv ⟨p,hp,i,by omega,rfl⟩ (reach_line (valid_parts hv).2.2 hp (by omega) hj))
theorem argmax (f:Nat→Nat) (P:Nat→Prop):∀n,(∃p,p<n∧P p)→∃p,p<n∧P p∧∀q,q<n→P q→f q≤f p
 | 0,⟨p,h,_⟩=>by omega
 | n+1,⟨p,hp,h⟩=>by
  classical
  by_cases hx:∃p,p<n∧P p
  ·obtain⟨m,h1,h2,h3⟩:=argmax f P n hx
   by_cases hn:P n∧f m<f n
   ·refine⟨n,by omega,hn.1,fun q hq hP => ?_⟩
    by_cases e:q=n
    ·subst e;exact Nat.le_refl _
    ·have:=h3 q (by omega) hP;omega
   ·refine⟨m,by omega,h2,fun q hq hP => ?_⟩
    by_cases e:q=n
    ·subst e
     have:¬f m<f q:=fun h=>hn ⟨hP,h⟩
     omega
    ·exact h3 q (by omega) hP
  ·have:p=n:=by
    by_cases e:p=n
    ·exact e
    ·exact absurd ⟨p,by omega,h⟩ hx
   subst this
   refine⟨p,by omega,h,fun q hq hP => ?_⟩
   by_cases e:q=p
   ·subst e;exact Nat.le_refl _
   ·exact absurd ⟨q,by omega,hP⟩ hx
theorem setc_cAt {d:List Int} {p q:Nat} {z:Int} (hq:q<d.length):cAt (d.set p z) q=if p=q then z else cAt d q:=by
 rw[cAt_nat (by rw[List.length_set];exact hq),List.getElem_set]
 split
 ·rfl
 ·rw[cAt_nat hq]
theorem cut_remove {ps:List Pr} (hv:validF ps=true) {c:List Int} (hl:c.length=ps.length) (hr:inRangeF ps c=true) (hcl:closedF ps c=true) (h0:∃p,p<ps.length∧0<cAt c p) :
  ∃p,p<ps.length∧0<cAt c p∧inRangeF ps (c.set p (cAt c p - 1))=true∧closedF ps (c.set p (cAt c p - 1))=true:=by
 have hm:=(valid_parts hv).2.2
 have hrr:=(inRange_iff hl).1 hr
 obtain⟨p,hp,hp0,hmax⟩:=argmax (fun p=>anc ps ((p:Int),cAt c p)) (fun p=>0<cAt c p) ps.length h0
 refine⟨p,hp,hp0,(inRange_iff (by rw[List.length_set];exact hl)).2 fun q hq => ?_,closed_iff.2 fun q hq i hi hk hle => ?_⟩
 ·rw[setc_cAt (by omega)]
  split
  ·rename_i e;subst e;have:=hrr p hp;omega
  ·exact hrr q hq
 ·have hle':(i:Int)+1≤cAt c q:=by
   rw[setc_cAt (by omega)] at hle
   split at hle
   ·rename_i e;subst e;omega
   ·exact hle
  have h1:=closed_iff.1 hcl q hq i hi hk hle'
  obtain⟨s,hs,j,hj,e,_,_⟩:=sndr_some (recv_sndr hm hq hi hk)
  have hn:=nx_send hm hq hi hk
  rw[e] at h1 hn ⊢
  simp only at h1 ⊢
  rw[setc_cAt (by omega)]
  split
  ·rename_i es;subst es
   by_cases hj2:(j:Int)+1=cAt c p
   ·exfalso
    have h2:=anc_lt hv ⟨p,hs,j,hj,rfl⟩ (.single hn)
    have h3:=hmax q hq (by omega)
    have hq2:=(hrr q hq).2
    have h4:=anc_line hv hq (i:=i) (j:=(cAt c q).toNat - 1) (by omega) (by omega)
    have h5:(((cAt c q).toNat - 1:Nat):Int)+1=cAt c q:=by omega
    rw[h5] at h4
    rw[hj2] at h2
    omega
   ·omega
  ·exact h1
def isF (ps:List Pr) (c:List Int):Bool:=(decide (c.length=ps.length) && inRangeF ps c) && closedF ps c
theorem isF_iff {ps:List Pr} {c:List Int} : isF ps c=true↔c.length=ps.length∧inRangeF ps c=true∧closedF ps c=true:=by
 unfold isF
 rw[Bool.and_eq_true,Bool.and_eq_true,decide_eq_true_eq,and_assoc]
def stpC (c:List Int) (p:Nat):List Int:=c.set p (cAt c p+1)
def nx1 (ps:List Pr) (c:List Int) (p:Nat):List (List Int):=if cAt c p<nev ps p∧isF ps (stpC c p)=true then [stpC c p] else []
def nextT (ps:List Pr) (c:List Int) (k:Nat):List (List Int):=(List.range k).flatMap (nx1 ps c)
def nextL (ps:List Pr) (c:List Int):List (List Int):=nextT ps c c.length
def lexF:List Int→List Int→Bool
 | a :: x,b :: y=>if a=b then lexF x y else decide (a<b)
 | _,_=>false
def befF (a b:List Int):Bool:=if a.sum=b.sum then lexF a b else decide (a.sum<b.sum)
def insF (l:List (List Int)) (c:List Int):List (List Int):=if (l.dropWhile fun x=>befF x c).head?=some c then l else (l.takeWhile fun x=>befF x c) ++ c :: l.dropWhile fun x=>befF x c
def insL (acc l:List (List Int)):List (List Int):=l.foldl insF acc
def moreT (ps:List Pr) (lv:List (List Int)):List (List Int):=lv.foldl (fun acc c=>insL acc (nextL ps c)) []
def levF (ps:List Pr):Nat→List (List Int)
 | 0=>[List.replicate ps.length 0]
 | k+1=>moreT ps (levF ps k)
theorem sum_stpC {c:List Int} {p:Nat} (hp:p<c.length):(stpC c p).sum=c.sum+1:=by
 unfold stpC
 have h:=sum_set c p (cAt c p+1) hp
 have e:cAt c p=c.getD p 0:=by unfold cAt;simp
 rw[h,e];omega
theorem isF_nonneg {ps:List Pr} {c:List Int} (h:isF ps c=true):∀z ∈ c,0≤z:=fun z hz=>by
 obtain⟨h1,h2,_⟩:=isF_iff.1 h
 obtain⟨p,hp,rfl⟩:=List.getElem_of_mem hz
 have:=((inRange_iff h1).1 h2 p (by omega)).1
 rwa [cAt_nat hp] at this
theorem isF_zero {ps:List Pr} : isF ps (List.replicate ps.length 0)=true:=by
 have e:∀q:Int,cAt (List.replicate ps.length 0) q=0:=fun q=>by
  unfold cAt
  rw[List.getD_eq_getElem?_getD,List.getElem?_replicate]
  split <;> rfl
 have hl:(List.replicate ps.length (0:Int)).length=ps.length:=List.length_replicate
 refine isF_iff.2 ⟨hl,(inRange_iff hl).2 fun p hp => ?_,closed_iff.2 fun p hp i hi hk hle => ?_⟩
 ·rw[e];omega
 ·rw[e] at hle;omega
theorem sum_totC:∀ {c:List Int},(∀z ∈ c,0≤z)→c.sum=totC c
 | [],_=>rfl
 | a :: c,h=>by
  have h0:=h a List.mem_cons_self
  have:=sum_totC (c:=c) fun z hz=>h z (List.mem_cons_of_mem _ hz)
  unfold totC at *
  rw[List.sum_cons,List.map_cons,List.sum_cons,this]
  omega
theorem sum_le_off {ps:List Pr} {c:List Int} (h:isF ps c=true):c.sum≤off ps ps.length:=by
 obtain⟨h1,h2,_⟩:=isF_iff.1 h
 have h3:=totC_le h1 h2
 have h4:=sum_totC (isF_nonneg h)
 omega
def cumF (ps:List Pr) (k:Nat):List (List Int):=(List.range k).flatMap (levF ps)
def cutsF (ps:List Pr):List (List Int):=cumF ps (off ps ps.length+1)
end Go.AL
end
section
namespace Go.AL
open Go Go.RowKit
set_option maxRecDepth 4000
def Asc (l:List (List Int)):Prop:=l.Pairwise fun x y=>cmpL x y<0
end Go.AL
end
section
namespace Go.AL
open Go Go.RowKit Go.Sort Go.Proofs Go.Shelf
set_option maxRecDepth 4000
end Go.AL
end
section
namespace Go.AL
open Go Go.RowKit
set_option maxRecDepth 4000
def needE (ps:List Pr) (e:Ev):Eid:=if e.kind=3 then sndr ps e.msg else (0,0)
def aNeeds (ps:List Pr) (l:List Pr):List AV:=l.map fun x=>aEids (x.evs.map (needE ps))
def aMk (ps:List Pr):AV:=.agg [.sl 1 (ps.map fun x=>ai (x.evs.length:Nat)),.sl 1 (aNeeds ps ps)]
theorem AppSt.snoc {t:TypeId} {k:Nat} {ys:List AV} {x:AV} (b cap n:Nat) (hn:n=ys.length+1):AppSt t k (ys ++ [x]) (.ls b k 0 n cap) [(b,.row t k (ys ++ [x]) cap)]:=by
 subst hn
 have:=AppSt.row (t:=t) (k:=k) b (ys ++ [x]) cap
 rwa [List.length_append] at this
theorem cAt_stp {c:List Int} {p q:Nat} (hq:q<c.length):cAt (stpC c p) q=if p=q then cAt c q+1 else cAt c q:=by
 unfold stpC
 rw[setc_cAt hq]
 split
 ·rename_i e;rw[e]
 ·rfl
theorem stp_iff {ps:List Pr} (hv:validF ps=true) {c:List Int} (hc:isF ps c=true) {p:Nat} (hp:p<ps.length) {i:Nat} (hi:i<ps[p].evs.length) (hci:cAt c p=i) :
  isF ps (stpC c p)=true↔(needE ps ps[p].evs[i]).2≤cAt c (needE ps ps[p].evs[i]).1:=by
 obtain⟨h1,h2,h3⟩:=isF_iff.1 hc
 have hm:=(valid_parts hv).2.2
 have hr:=(inRange_iff h1).1 h2
 have hlen:(stpC c p).length=ps.length:=by unfold stpC;rw[List.length_set,h1]
 have hmono:∀q,q<ps.length→cAt c q≤cAt (stpC c p) q:=fun q hq=>by rw[cAt_stp (by omega)];split <;> omega
 unfold needE
 constructor
 ·intro h
  obtain⟨_,_,g3⟩:=isF_iff.1 h
  by_cases hk:ps[p].evs[i].kind=3
  ·rw[if_pos hk]
   have:=closed_iff.1 g3 p hp i hi hk (by rw[cAt_stp (by omega),if_pos rfl,hci];omega)
   obtain⟨s,hs,j,hj,e,hk2,_⟩:=sndr_some (recv_sndr hm hp hi hk)
   rw[e] at this ⊢
   dsimp only at this ⊢
   rw[cAt_stp (by omega)] at this
   split at this
   ·rename_i es;subst es
    by_cases hji:j=i
    ·subst hji;omega
    ·omega
   ·exact this
  ·rw[if_neg hk]
   have:=(hr 0 (by omega)).1
   simpa using this
 ·intro h
  refine isF_iff.2 ⟨hlen,(inRange_iff hlen).2 fun q hq => ?_,closed_iff.2 fun q hq i' hi' hk hle => ?_⟩
  ·have:=hr q hq
   rw[cAt_stp (by omega)]
   split
   ·rename_i e;subst e;omega
   ·exact this
  ·obtain⟨s,hs,j,hj,e,hk2,_⟩:=sndr_some (recv_sndr hm hq hi' hk)
   have hms:=hmono s hs
   by_cases hnew:q=p∧i'=i
   ·obtain⟨rfl,rfl⟩:=hnew
    rw[if_pos hk,e] at h
    rw[e];dsimp only at h ⊢;omega
   ·have:=closed_iff.1 h3 q hq i' hi' hk (by
     rw[cAt_stp (by omega)] at hle
     split at hle
     ·rename_i e2;subst e2
      have:i' ≠ i:=fun e=>hnew ⟨rfl,e⟩
      omega
     ·exact hle)
    rw[e] at this ⊢;dsimp only at this ⊢;omega
def rdyF (ps:List Pr) (c:List Int) (p:Nat):Bool:=decide (cAt c p<nev ps p∧isF ps (stpC c p)=true)
theorem need_in {ps:List Pr} (hv:validF ps=true) {p:Nat} (hp:p<ps.length) {i:Nat} (hi:i<ps[p].evs.length):0≤(needE ps ps[p].evs[i]).1∧(needE ps ps[p].evs[i]).1<ps.length:=by
 have hm:=(valid_parts hv).2.2
 unfold needE
 split
 ·rename_i hk
  obtain⟨s,hs,j,hj,e,hk2,_⟩:=sndr_some (recv_sndr hm hp hi hk)
  rw[e];dsimp only;omega
 ·dsimp only;omega
def chl (ps:List Pr) (lv:List (List Int)) (i:Nat):List (List Int):=(lv.take i).flatMap (nextL ps)
def Cb (c:List Int):Prop:=c.length≤1000000∧∀z ∈ c,0≤z∧z≤1000000
theorem isF_cb {ps:List Pr} (hs:Sm ps) {c:List Int} (h:isF ps c=true):Cb c:=by
 obtain⟨h1,h2,_⟩:=isF_iff.1 h
 have:=hs.procs
 refine⟨by omega,fun z hz=>⟨isF_nonneg h z hz,?_⟩⟩
 obtain⟨p,hp,rfl⟩:=List.getElem_of_mem hz
 have h3:=((inRange_iff h1).1 h2 p (by omega)).2
 have:=hs.evs _ (List.getElem_mem (show p<ps.length by omega))
 rw[cAt_nat hp] at h3
 omega
theorem ref23_Is (ps:List Pr) (hs:Sm ps) (hn:1≤ps.length) (c:List Int):PC Proofs.Tryz.prog 88 [aTr ps,aInts c] (ab (isF ps c)):=by
 have h1:=ref12_Cut ps hs c
 have h2:=fun h1 h2=>ref12_Consistent ps hs hn c h1 h2
 unfold isF
 generalize closedF ps c=B at *
 refine PC.enter 13 [.tmp 4] [2] Proofs.Tryz.func88 rfl rfl rfl rfl rfl (by simp) (AWp.of ?_);simp only[go_sem]
 refine Wk ?_
 refine Sd ?_
 refine(h1).val.use ?_;simp only[go_sem]
 refine GCall.use (ab B) ?_ ?_
 ·intro g;exact⟨At,(h2 (by simpa using g.1) (by simpa using g.2)).val.use ⟨rfl,rfl⟩⟩
 simp only[go_sem]
 refine Wk ?_
 refine ret_eq ?_;simp only[go_sem]
def asg20 (e:Ev):Bool:=decide (20<(e.asg.length:Int))
def bigP (x:Pr):Bool:=decide (70<(x.evs.length:Int)) || (decide (20<(x.vars.length:Int)) || x.evs.any asg20)
def bigF (ps:List Pr):Bool:=decide (10<(ps.length:Int)) || ps.any bigP
theorem off_small {ps:List Pr} (hs:Sm ps):∀k,k≤ps.length→off ps k≤k * 1000000:=by
 intro k
 induction k with
 | zero=>intro _;simp [off]
 | succ k ih =>
  intro hk
  rw[off_succ (by omega)]
  have h1:=ih (by omega)
  have h2:=hs.evs _ (List.getElem_mem (show k<ps.length by omega))
  omega
def nlev (ps:List Pr):Nat:=(List.range (off ps ps.length+2)).findIdx fun k=>(levF ps k).isEmpty
def lvsF (ps:List Pr) (k:Nat):List AV:=(List.range k).map fun j=>aRows (levF ps j)
noncomputable def aLvs (ps:List Pr):AV:=if validF ps=true then (if (cutsF ps).length≤5000 then .tup [.sl 1 (lvsF ps (nlev ps)),ai 0] else .tup [.sl 1 [],ai 16]) else .tup [.sl 1 [],ai 1]
def GrowS (n:Nat) (r:AV) (L:AHeap):Prop:=(n=0∧r=anil∧L=[])∨∃b cap,n≤cap∧r = .ls b 1 0 0 cap∧L=[(b,.row 29 1 (List.replicate n anil) cap)]
def CatS (ls:List (List (List Int))) (k:Nat) (v:AV) (L:AHeap):Prop :=
 (ls.flatten=[]∧v=anil∧L=[])∨∃b cap xs,v = .ls b 1 0 (ls.take k).flatten.length cap∧L=[(b,.row 29 1 xs cap)]∧(ls.take k).flatten.length≤xs.length∧xs.take (ls.take k).flatten.length=(ls.take k).flatten.map aInts
noncomputable def lstE (ps:List Pr):Int:=if validF ps=true then (if (cutsF ps).length≤5000 then 0 else 16) else 1
noncomputable def lvOf (ps:List Pr):List (List (List Int)):=if lstE ps=0 then (List.range (nlev ps)).map (levF ps) else []
noncomputable def lstF (ps:List Pr):List (List Int):=if lstE ps=0 then cutsF ps else []
noncomputable def aLst (ps:List Pr):AV:=.tup [aRows (lstF ps),ai (lstE ps)]
theorem Vw.pre {L:AHeap} {b k n c:Nat} {t:TypeId} {xs ys:List AV} {cap:Nat} (h:lk L b=some (.row t k xs cap)) (hn:n≤xs.length) (ht:xs.take n=ys):Vw L (.ls b k 0 n c) (.sl k ys) :=
 .ls h (by omega) (by rw[List.drop_zero,ht]) (by rw[List.drop_zero,ht];exact(Vws.refl ys).2)
def fullC (ps:List Pr):List Int:=ps.map fun x=>(x.evs.length:Int)
theorem fullC_at {ps:List Pr} {p:Nat} (hp:p<ps.length):cAt (fullC ps) p=ps[p].evs.length:=by
 unfold fullC
 rw[cAt_nat (by rw[List.length_map];exact hp),List.getElem_map]
theorem fullC_is {ps:List Pr} (hv:validF ps=true):isF ps (fullC ps)=true:=by
 have hl:(fullC ps).length=ps.length:=List.length_map _
 refine isF_iff.2 ⟨hl,(inRange_iff hl).2 fun p hp => ?_,closed_iff.2 fun p hp i hi hk _ => ?_⟩
 ·rw[fullC_at hp];omega
 ·obtain⟨s,hs,j,hj,e,_,_⟩:=sndr_some (recv_sndr (valid_parts hv).2.2 hp hi hk)
  rw[e]
  simp only
  rw[fullC_at hs];omega
theorem fullC_sum (ps:List Pr):(fullC ps).sum=off ps ps.length:=by
 unfold fullC off
 rw[List.take_length]
 induction ps with
 | nil=>rfl
 | cons x ps ih=>rw[List.map_cons,List.sum_cons,ih,List.map_cons,List.sum_cons];omega
def lvlF (l:List (List Int)) (k:Int):List (List Int):=l.filter fun c=>decide (c.sum=k)
def widF (f:Nat→Nat):Nat→Nat × Nat
 | 0=>(0,0)
 | n+1=>if (widF f n).2<f n then (n,f n) else widF f n
noncomputable def aLevel (ps:List Pr) (k:Int):AV:=.tup (if validF ps=true then (if k<0∨(off ps ps.length:Int)<k then [.sl 1 [],ai 2] else if lstE ps=0 then [aRows (levF ps k.toNat),ai 0] else [.sl 1 [],ai (lstE ps)]) else [.sl 1 [],ai 1])
end Go.AL
end
section
namespace Go.AL
open Go Go.RowKit
def astepF (C:Cfg) (all:List Oper) (o:Oper) (ρ:Env) (L:AHeap) (K:ARes):Prop :=
 match o.guard with
 | none=>aop C o ρ L K
 | some (j,want)=>match gval all ρ j want with
  | some b=>(b=want→aop C o ρ L K)∧(b ≠ want→K (put ρ o.dst .any) L)
  | none=>False
def aregionF (C:Cfg) (all:List Oper):List Oper→Env→AHeap→ARes→Prop
 | [],ρ,L,K=>K ρ L
 | o :: rest,ρ,L,K=>astepF C all o ρ L fun ρ L=>aregionF C all rest ρ L K
def aregFK (C:Cfg) (all rest:List Oper) (K:ARes) (ρ:Env) (L:AHeap):Prop:=aregionF C all rest ρ L K
theorem aregionF_nil (C:Cfg) (all:List Oper) (ρ:Env) (L:AHeap) (K:ARes):aregionF C all [] ρ L K=K ρ L:=rfl
theorem aregionF_cons (C:Cfg) (all rest:List Oper) (o:Oper) (ρ:Env) (L:AHeap) (K:ARes):aregionF C all (o :: rest) ρ L K=astepF C all o ρ L (aregFK C all rest K):=rfl
attribute [go_sem] aregionF_nil aregionF_cons astepF aregFK
end Go.AL
end
section
namespace Go.AL
open Go Go.RowKit
set_option maxRecDepth 4000
def anilp:AV:=.v (.pointer none)
def startK (ps:List Pr) (ts:List Pd) (r:AV) (L:AHeap):Prop :=
 (conF ps ts=0∧∃bb bn,¬bn=bb∧r = .tup [.lp bb 3 0 0,ai 0]∧L=boardL (elimOf ps ts) (fun _=>0) bb bn)∨(conF ps ts ≠ 0∧r = .tup [.v (.pointer none),ai (conF ps ts)]∧L=[])
def okK (E:Elim) (m:Nat):List AV:=(List.range m).map fun q => .sl 1 (okL E q)
theorem okK_len (E:Elim) (m:Nat):(okK E m).length=m:=by simp [okK]
theorem okK_succ (E:Elim) (m:Nat):okK E (m+1)=okK E m ++ [.sl 1 (okL E m)]:=by unfold okK;rw[List.range_succ,List.map_append];rfl
theorem truths_row {ps:List Pr} {ts:List Pd} {p:Nat} (hp:p<ts.length) (hpp:p<ps.length):(truthsF ps p ts[p]).map ab=okL (elimOf ps ts) p:=by
 rw[truthsF_nat hpp,List.map_map]
 unfold okL
 rw[show (elimOf ps ts).top p=ps[p].evs.length from nev_get hpp]
 refine List.map_congr_left fun k _ => ?_
 show ab _=ab (match ts[p]? with|some t=>lclT ps p t k|none=>true)
 rw[List.getElem?_eq_getElem hp]
noncomputable def aPossR (ps:List Pr) (ts:List Pd):AV:=if conF ps ts=0 then .tup [aAns (ansOf (elimOf ps ts)),ai 0] else .tup [aAns noAns,ai (conF ps ts)]
abbrev Spn:=Int × Int × Int
def spOk (E:Elim) (now:Nat→Nat) (s:Spn):Bool:=!lostB E now && (decide (0≤s.1) && decide (s.1<E.n) && decide (s.2.1=now s.1.toNat) && decide (s.2.1≤s.2.2) && decide (s.2.2≤E.top s.1.toNat))
def spEx (E:Elim) (now:Nat→Nat) (s:Spn):Bool:=(List.range (s.2.2.toNat+1 - s.2.1.toNat)).all fun j=>exB E now s.1.toNat (s.2.1.toNat+j)
def endsG (E:Elim):List Spn→(Nat→Nat)→Bool
 | [],now=>lostB E now
 | s :: r,now=>if spOk E now s=true∧spEx E now s=true then endsG E r (updN now s.1.toNat (s.2.2.toNat+1)) else false
def satG (ps:List Pr) (E:Elim) (c:List Int):Bool:=isF ps c && (List.range c.length).all fun p=>E.ok p (cAt c p).toNat
theorem satG_iff {ps:List Pr} {E:Elim} {c:List Int} : satG ps E c=true↔SatD ps E c:=by
 unfold satG
 rw[Bool.and_eq_true,isF_iff,List.all_eq_true]
 constructor
 ·rintro⟨⟨h1,h2,h3⟩,h4⟩
  exact⟨h1,h2,h3,fun p hp=>h4 p (List.mem_range.2 (by omega))⟩
 ·intro h
  exact⟨⟨h.len,h.rng,h.clo⟩,fun p hp=>h.ok p (by have:=List.mem_range.1 hp;rw[h.len] at this;exact this)⟩
noncomputable def checkG (ps:List Pr) (ts:List Pd) (a:Ans):Bool :=
 if conF ps ts=0∧a.mode=1∧a.cuts=[]∧a.run=[]∧a.value=0 then
  if a.holds=true then decide (a.kind=1) && decide (a.spans=[]) && satG ps (elimOf ps ts) a.cut
  else decide (a.kind=4) && decide (a.cut=[]) && endsG (elimOf ps ts) a.spans fun _=>0
 else false
section
variable {ps:List Pr} {ts:List Pd}
end
theorem ref37_Fault (ps:List Pr) (hs:Sm ps) (ts:List Pd) (hz:∀t ∈ ts,szF t≤1000000) (htl:ts.length≤1000000):PC Proofs.Tryz.prog 12 [aTr ps,.sl 6 (ts.map aPd)] (ai (conF ps ts)):=by
 have h1:=ref12_Valid ps hs
 have hl:=hs.procs
 by_cases hv:validF ps=true∧ts.length=ps.length
 ·have hvl:(ts.length:Int)=ps.length:=by omega
  rw[hv.1] at h1
  have hhit:=fun p hp=>conF_hit hv (p:=p) hp
  have hzero:=conF_zero hv
  generalize conF ps ts=C at *
  refine PC.enter 34 [.tmp 4] [2] Proofs.Tryz.func12 rfl rfl rfl rfl rfl (by simp) (AWp.of ?_);simp only[go_sem]
  refine Wk ?_
  refine Sd ?_
  refine(h1).val.use ?_;simp only[go_sem,hvl]
  repeat(first|((with_reducible refine AWp.ofC ?_ ?_);exact rfl;simp only[go_sem])|((with_reducible refine an ?_ ?_);exact Au))
  refine AWp.block (AWp.count 5 ts.length [] [1,2] (fun p vs L=>L=[]∧∀q (hq:q<ts.length),q<p→lclF ps q 0 ts[q]=0) rfl rfl ⟨rfl,fun q hq h=>by omega⟩ ?_)
  rintro p vs L hp - ⟨rfl,hJ⟩
  simp only[go_sem]
  refine Wk ?_
  refine⟨fun h2 => ?_,fun h2 => ?_⟩
  ·have hpt:p<ts.length:=by omega
   have hgt:=getD_map (f:=aPd) hpt
   have hlf:=ref29_LocalFault ps hs p 0 ts[p] (hz _ (List.getElem_mem hpt))
   have hh:=hhit p hpt hJ
   generalize hE:lclF ps p 0 ts[p]=e at *
   generalize hT:ts[p]=t at *
   obtain⟨k0,n,pp,q,s,l⟩:=t
   simp only[aPd_mk] at *
   refine AWp.seq (AWp.block (AWp.seq ?_))
   repeat(first|(with_reducible refine AWp.seq ?_)|(with_reducible refine AWp.block ?_))
   refine AWp.mix mixed [0,1,2,3,4,5,6,7] .done (by kernel_rfl) ?_;simp only[go_sem,hgt]
   refine Sd ?_
   refine Sd ?_
   refine GCall.use (ai e) (fun _=>⟨At,(hlf).val.use ⟨rfl,rfl⟩⟩) ?_;simp only[go_sem]
   refine Sd ?_
   refine Wk ?_
   refine⟨fun h3 => ?_,fun h3 => ?_⟩
   ·refine Wk ?_
    refine ret_eq ?_;simp only[go_sem]
    rw[hh h3]
   ·refine Wk ?_
    refine⟨_,List.Sublist.refl _,rfl,fun j hj hjp => ?_⟩
    by_cases ej:j=p
    ·subst ej;rw[hT,hE,h3]
    ·exact hJ j hj (by omega)
  ·refine Wk ?_
   refine ret_eq ?_;simp only[go_sem]
   rw[hzero fun q hq=>hJ q hq (by omega)]
 ·rw[conF_bad hv]
  by_cases hv1:validF ps=true
  ·have hvl:¬(ts.length:Int)=ps.length:=fun e=>hv ⟨hv1,by omega⟩
   rw[hv1] at h1
   refine PC.enter 34 [.tmp 4] [2] Proofs.Tryz.func12 rfl rfl rfl rfl rfl (by simp) (AWp.of ?_);simp only[go_sem]
   refine Wk ?_
   refine Sd ?_
   refine(h1).val.use ?_;simp only[go_sem,hvl]
   repeat(first|((with_reducible refine AWp.ofC ?_ ?_);exact rfl;simp only[go_sem])|((with_reducible refine an ?_ ?_);exact Au))
   refine ret_eq ?_;simp only[go_sem]
  ·rw[show validF ps=false by simpa using hv1] at h1
   refine PC.enter 34 [.tmp 4] [2] Proofs.Tryz.func12 rfl rfl rfl rfl rfl (by simp) (AWp.of ?_);simp only[go_sem]
   refine Wk ?_
   refine Sd ?_
   refine(h1).val.use ?_;simp only[go_sem]
   refine Wk ?_
   refine ret_eq ?_;simp only[go_sem]
def leqF (a b:List Int):Bool:=decide (a.length=b.length) && (List.range a.length).all fun i=>decide (a.getD i 0≤b.getD i 0)
theorem leqF_iff {a b:List Int} : leqF a b=true↔a.length=b.length∧∀i,i<a.length→a.getD i 0≤b.getD i 0:=by
 unfold leqF
 rw[Bool.and_eq_true,List.all_eq_true,decide_eq_true_eq]
 exact⟨fun h=>⟨h.1,fun i hi=>of_decide_eq_true (h.2 i (List.mem_range.2 hi))⟩,fun h=>⟨h.1,fun i hi=>decide_eq_true (h.2 i (List.mem_range.1 hi))⟩⟩
noncomputable def safeF (ps:List Pr) (ts:List Pd) (c:List Int):Bool:=lostF (elimOf ps ts) || leqF c (cutL ps.length (finF (elimOf ps ts)))
noncomputable def safeE (ps:List Pr) (ts:List Pd) (c:List Int):Int:=if conF ps ts ≠ 0 then conF ps ts else givenF ps [c] []
def OwnS (xs:List (List Int)) (v:AV) (L:AHeap):Prop :=
 (xs=[]∧v=anil∧L=[])∨∃b cap ws,v = .ls b 1 0 xs.length cap∧L=[(b,.row 29 1 (xs.map aInts ++ ws) cap)]
theorem OwnS.fo {xs:List (List Int)} {v:AV} {L:AHeap} (h:OwnS xs v L):AL.fo v=(True,v):=by
 rcases h with ⟨_,rfl,_⟩|⟨b,cap,ws,rfl,_⟩ <;> rfl
noncomputable def chkE (ps:List Pr) (l:List (List Int)):Int:=if validF ps=true then (if (l.any fun c => !isF ps c)=true then 18 else 0) else 1
def idxF (l:List (List Int)) (c:List Int):Int:=match l.findIdx? fun d=>decide (c=d) with|some i=>(i:Int)|none => -1
noncomputable def fndE (ps:List Pr) (l:List (List Int)):Int:=if chkE ps l ≠ 0 then chkE ps l else lstE ps
noncomputable def fndI (ps:List Pr) (c:List Int):Int:=if fndE ps [c]=0 then idxF (cutsF ps) c else 0
noncomputable def btwF (ps:List Pr) (a b:List Int):List (List Int):=if fndE ps [a,b]=0 then (cutsF ps).filter fun c=>leqF a c && leqF c b else []
section
variable {ps:List Pr} {c:List Int}
variable {j:List Int} {ch:Int→Int→Int}
end
section
variable {ps:List Pr} {c:List Int}
end
def ordL (a b:List Int):Prop:=a.sum<b.sum∨(a.sum=b.sum∧cmpL a b<0)
theorem isF_given {ps:List Pr} (hv:validF ps=true) {c:List Int} : givenF ps [c] []=0↔isF ps c=true:=by
 rw[givenL,isF_iff];simp [hv]
def meetL (c d:List Int):List Int:=List.zipWith (fun x y=>if y<x then y else x) c d
theorem leq_iff_at {a b:List Int} : leqF a b=true↔a.length=b.length∧∀p:Nat,p<a.length→cAt a p≤cAt b p:=leqF_iff
theorem leq_sum:∀ {a b:List Int},leqF a b=true→a.sum≤b.sum∧(a.sum=b.sum→a=b)
 | [],[],_=>⟨Int.le_refl _,fun _=>rfl⟩
 | [],_ :: _,h=>by have:=(leqF_iff.1 h).1;simp at this
 | _ :: _,[],h=>by have:=(leqF_iff.1 h).1;simp at this
 | x :: a,y :: b,h=>by
  obtain⟨h1,h2⟩:=leqF_iff.1 h
  have h0:x≤y:=by simpa using h2 0 (by simp)
  obtain⟨i1,i2⟩:=leq_sum (a:=a) (b:=b) (leqF_iff.2 ⟨by simpa using h1,fun i hi=>by have:=h2 (i+1) (by simpa using hi);simpa using this⟩)
  rw[List.sum_cons,List.sum_cons]
  refine⟨by omega,fun h => ?_⟩
  rw[i2 (by omega),show x=y by omega]
section
variable {A:List (List Int)} (hA:A.Pairwise ordL)
include hA
end
structure LatD (ps:List Pr) (A:List (List Int)) (i j:Nat) (a b u d:List Int):Prop where
 is:isF ps a=true∧isF ps b=true∧isF ps u=true∧isF ps d=true
 bef:i<j→befF a b=true
 ia:idxF A a=i
 iu:∃m:Nat,idxF A u=m∧i≤m∧j≤m
 id:∃m:Nat,idxF A d=m∧m≤i∧m≤j
 btw:∀c,c=a∨c=b∨c=u∨c=d→c ∈ A.filter fun x=>leqF d x && leqF x u
 sum:0≤a.sum∧a.sum≤off ps ps.length
 lev:a ∈ levF ps a.sum.toNat
 zero:a.sum=0→i=0∧(levF ps a.sum.toNat).length=1
 low:0<a.sum→∃x ∈ levF ps (a.sum - 1).toNat,x.length=a.length∧leqF x a=true
theorem argmin (f:Nat→Nat) (P:Nat→Prop):∀n,(∃p,p<n∧P p)→∃p,p<n∧P p∧∀q,q<n→P q→f p≤f q
 | 0,⟨_,h,_⟩=>by omega
 | n+1,⟨p,hp,hP⟩=>by
  by_cases hn:∃p,p<n∧P p
  ·obtain⟨a,a1,a2,a3⟩:=argmin f P n hn
   by_cases hb:P n∧f n<f a
   ·refine⟨n,by omega,hb.1,fun q hq hQ => ?_⟩
    by_cases e:q=n
    ·subst e;exact Nat.le_refl _
    ·have:=a3 q (by omega) hQ;omega
   ·refine⟨a,by omega,a2,fun q hq hQ => ?_⟩
    by_cases e:q=n
    ·subst e
     have:¬f q<f a:=fun h=>hb ⟨hQ,h⟩
     omega
    ·exact a3 q (by omega) hQ
  ·have e:p=n:=by
    by_cases e:p=n
    ·exact e
    ·exact absurd ⟨p,by omega,hP⟩ hn
   subst e
   refine⟨p,by omega,hP,fun q hq hQ => ?_⟩
   by_cases e:q=p
   ·subst e;exact Nat.le_refl _
   ·exact absurd ⟨q,by omega,hQ⟩ hn
theorem add_below {ps:List Pr} (hv:validF ps=true) {c d:List Int} (hc:isF ps c=true) (hd:isF ps d=true) (_hle:∀q:Nat,q<ps.length→cAt c q≤cAt d q) (hne:∃q:Nat,q<ps.length∧cAt c q<cAt d q) :
  ∃q:Nat,q<ps.length∧cAt c q<cAt d q∧rdyF ps c q=true:=by
 obtain⟨hl,hr,hcl⟩:=isF_iff.1 hc
 obtain⟨dl,dr,dcl⟩:=isF_iff.1 hd
 have hm:=(valid_parts hv).2.2
 have hrr:=(inRange_iff hl).1 hr
 have drr:=(inRange_iff dl).1 dr
 obtain⟨p,hp,hp0,hmin⟩:=argmin (fun p=>anc ps ((p:Int),cAt c p+1)) (fun p=>cAt c p<cAt d p) ps.length hne
 have h1:=hrr p hp
 have h2:=drr p hp
 have hi:(cAt c p).toNat<ps[p].evs.length:=by omega
 have hci:cAt c p=((cAt c p).toNat:Nat):=by omega
 refine⟨p,hp,hp0,?_⟩
 unfold rdyF
 rw[decide_eq_true_eq]
 refine⟨by rw[nev_get hp];omega,(stp_iff hv hc hp hi hci).2 ?_⟩
 unfold needE
 split
 ·rename_i hk
  obtain⟨s,hs,j,hj,e,_,_⟩:=sndr_some (recv_sndr hm hp hi hk)
  have hn:=nx_send hm hp hi hk
  have hcd:=closed_iff.1 dcl p hp _ hi hk (by omega)
  rw[e] at hn hcd ⊢
  simp only at hcd ⊢
  by_cases hle2:(j:Int)+1≤cAt c s
  ·exact hle2
  ·exfalso
   have h3:=hmin s hs (by omega)
   have h4:=anc_lt hv ⟨s,hs,j,hj,rfl⟩ (.single hn)
   have h5:=hrr s hs
   have h6:=anc_line hv hs (i:=(cAt c s).toNat) (j:=j) (by omega) hj
   have h7:(((cAt c s).toNat:Nat):Int)=cAt c s:=by omega
   have h8:(((cAt c p).toNat:Nat):Int)=cAt c p:=by omega
   rw[h7] at h6
   rw[h8] at h4
   omega
 ·have:=(hrr 0 (by omega)).1
  simpa using this
theorem rdy_is {ps:List Pr} {c:List Int} {p:Nat} (h:rdyF ps c p=true):isF ps (stpC c p)=true:=(of_decide_eq_true h).2
theorem find_congr {α:Type} {f g:α→Bool} : ∀ {l:List α},(∀x ∈ l,f x=g x)→l.find? f=l.find? g
 | [],_=>rfl
 | x :: l,h=>by
  rw[List.find?_cons,List.find?_cons,h x (by simp),find_congr fun y hy=>h y (List.mem_cons_of_mem _ hy)]
def firstP (ps:List Pr) (perm:List Int→Bool) (c:List Int):Option Nat:=(List.range c.length).find? fun p=>rdyF ps c p && perm (stpC c p)
theorem firstP_some {ps:List Pr} {f:List Int→Bool} {c:List Int} {p:Nat} (h:firstP ps f c=some p):p<c.length∧rdyF ps c p=true∧f (stpC c p)=true:=by
 have h1:=List.find?_some h
 have h2:=List.mem_of_find?_eq_some h
 rw[Bool.and_eq_true] at h1
 exact⟨List.mem_range.1 h2,h1.1,h1.2⟩
theorem firstP_none {ps:List Pr} {f:List Int→Bool} {c:List Int} (h:firstP ps f c=none) {p:Nat} (hp:p<c.length) (hr:rdyF ps c p=true):f (stpC c p)=false:=by
 have:=List.find?_eq_none.1 h p (List.mem_range.2 hp)
 rw[hr,Bool.true_and] at this
 simpa using this
def wlkR (ps:List Pr) (perm:List Int→Bool):Nat→List Int→Option (List (List Int))
 | 0,_=>some []
 | n+1,c=>match firstP ps perm c with
  | none=>none
  | some p=>(wlkR ps perm n (stpC c p)).map (stpC c p :: ·)
theorem wlkR_succ (ps:List Pr) (perm:List Int→Bool) (n:Nat) (c:List Int):wlkR ps perm (n+1) c=match firstP ps perm c with
  | none=>none
  | some p=>(wlkR ps perm n (stpC c p)).map (stpC c p :: ·):=rfl
theorem leq_stp {ps:List Pr} {c d:List Int} (hc:c.length=ps.length) (h:∀q:Nat,q<ps.length→cAt c q≤cAt d q) (hd:d.length=ps.length) {p:Nat} (hp:cAt c p<cAt d p):∀q:Nat,q<ps.length→cAt (stpC c p) q≤cAt d q:=fun q hq=>by
 rw[cAt_stp (by omega)]
 split
 ·rename_i e;subst e;omega
 ·exact h q hq
theorem leq_at {a b:List Int} {n:Nat} (ha:a.length=n) (hb:b.length=n):leqF a b=true↔∀q:Nat,q<n→cAt a q≤cAt b q:=by
 rw[leq_iff_at,ha,hb]
 exact⟨fun h=>h.2,fun h=>⟨rfl,h⟩⟩
theorem stp_len (c:List Int) (p:Nat):(stpC c p).length=c.length:=by unfold stpC;rw[List.length_set]
theorem leq_full {ps:List Pr} {c:List Int} (h:isF ps c=true):leqF c (fullC ps)=true:=by
 obtain⟨hl,hr,_⟩:=isF_iff.1 h
 refine(leq_at hl (by unfold fullC;rw[List.length_map])).2 fun q hq => ?_
 rw[fullC_at hq]
 exact((inRange_iff hl).1 hr q hq).2
section
variable {ps:List Pr} (hv:validF ps=true)
include hv
theorem first_to {c to:List Int} (hc:isF ps c=true) (ht:isF ps to=true) (hle:leqF c to=true) (hne:c.sum<to.sum):∃p,firstP ps (fun d=>leqF d to) c=some p∧p<ps.length∧isF ps (stpC c p)=true∧leqF (stpC c p) to=true:=by
 have hl:=(isF_iff.1 hc).1
 have tl:=(isF_iff.1 ht).1
 have h1:=(leq_at hl tl).1 hle
 have hex:∃q:Nat,q<ps.length∧cAt c q<cAt to q:=by
  apply Classical.byContradiction
  intro hn
  have:c=to:=by
   apply List.ext_getElem (by omega)
   intro i g1 g2
   rw[← cAt_nat g1,← cAt_nat g2]
   have:=h1 i (by omega)
   have:¬cAt c i<cAt to i:=fun h=>hn ⟨i,by omega,h⟩
   omega
  rw[this] at hne;omega
 obtain⟨q,hq,hq1,hq2⟩:=add_below hv hc ht h1 hex
 have hlq:leqF (stpC c q) to=true:=(leq_at (by rw[stp_len];exact hl) tl).2 (leq_stp hl h1 tl hq1)
 cases hf:firstP ps (fun d=>leqF d to) c with
 | none =>
  have:=firstP_none hf (p:=q) (by omega) hq2
  rw[hlq] at this;cases this
 | some p =>
  obtain⟨a1,a2,a3⟩:=firstP_some hf
  exact⟨p,rfl,by omega,rdy_is a2,a3⟩
theorem wlk_to {to:List Int} (ht:isF ps to=true):∀(n:Nat) (c:List Int),isF ps c=true→leqF c to=true→c.sum+n=to.sum→∃R,wlkR ps (fun d=>leqF d to) n c=some R∧R.length=n∧(∀d ∈ R,isF ps d=true∧leqF d to=true)∧(c :: R).getLast?=some to
 | 0,c,hc,hle,hs=>by
  have:c=to:=(leq_sum hle).2 (by omega)
  subst this
  exact⟨[],rfl,rfl,fun d hd=>(by cases hd),rfl⟩
 | n+1,c,hc,hle,hs=>by
  obtain⟨p,h1,h2,h3,h4⟩:=first_to hv hc ht hle (by omega)
  have hsum:(stpC c p).sum=c.sum+1:=sum_stpC (by have:=(isF_iff.1 hc).1;omega)
  obtain⟨R,g1,g2,g3,g4⟩:=wlk_to ht n (stpC c p) h3 h4 (by omega)
  refine⟨stpC c p :: R,by rw[wlkR_succ,h1];simp only[g1,Option.map_some],by rw[List.length_cons,g2],fun d hd => ?_,?_⟩
  ·rcases List.mem_cons.1 hd with rfl|hd
   ·exact⟨h3,h4⟩
   ·exact g3 d hd
  ·rw[List.getLast?_cons_cons];exact g4
end
end Go.AL
end
