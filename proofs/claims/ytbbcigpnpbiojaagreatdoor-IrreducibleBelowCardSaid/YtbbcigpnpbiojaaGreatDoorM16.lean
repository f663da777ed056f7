/- Texts of this claim's proof: WCh2, WY18, WXm, WXs, WV18, WXr, WV20, WV21, WV23, WV24, WV25, WV27, WSg, WY1, WY2, WY3, WY6, WY8, WY5, WY11, WY12, WY13, WY14, WY15, WY7, WY9, WY16, WY39, WY31, WY20, WY35, WY36, WY32, WY33, WY10, WY17, WY19, WY34, WY4, WY22, WY21, WU15, WY23, WY24, WY25, WY26, WY27, WY28, WY37, WY38, WY40, WY29, WZ11, WZ14, WZ15, WI14, WI15. No condition. -/
import Derived.Test.YtbbcigpnpbiojaaGreatDoorM15
import Derived.Test.YtbbcigpnpbiojaaGreatDoorM10
import Derived.Test.YtbbcigpnpbiojaaGreatDoorM12
import Derived.Test.YtbbcigpnpbiojaaGreatDoorM13
import Derived.Test.YtbbcigpnpbiojaaGreatDoorM9
import Derived.Test.YtbbcigpnpbiojaaGreatDoorM8
import Derived.Test.YtbbcigpnpbiojaaGreatDoorM7
import Derived.Test.YtbbcigpnpbiojaaGreatDoorM5
import Derived.Test.YtbbcigpnpbiojaaGreatDoorM11
section
namespace Go.AL
open Go Go.RowKit
set_option maxRecDepth 4000
noncomputable def undF (ps:List Pr) (c:List Int) (p q:Int):Int:=((undM ps c p.toNat q (c.getD p.toNat 0).toNat).length:Int)
theorem view_channel (ps:List Pr) (hs:Sm ps) (c:List Int) (hg:givenF ps [c] []=0) (V:List (List Int)) (k n:Int) (p:Nat) (q:Int) (s:ByteArray) (l:List Pd) (hp:p<ps.length) (hq:0≤q∧q<ps.length) :
  PC Proofs.Tryz.prog 95 [aView ps c V,aPd (.mk k n p q s l)] (ai (undF ps c p q)):=by
 have h1:=cut_UnderWay ps hs c hg p hp q hq
 have hu:undF ps c p q=((undM ps c p q (c.getD p 0).toNat).length:Int):=by unfold undF;rw[Int.toNat_natCast]
 rw[hu]
 have hT:aTr ps = .agg [aPrs ps]:=rfl
 have hI:aInts c = .sl 1 (c.map ai):=rfl
 rw[hT,hI] at h1
 generalize undM ps c p q (c.getD p 0).toNat=ms at *
 unfold aView
 simp only[aPd_mk]
 obtain⟨vv,hvv⟩:∃vv,aRows V = .sl 1 vv:=⟨_,rfl⟩
 rw[hI,hvv]
 obtain⟨tp,htp⟩:∃tp,aPrs ps = .sl 3 tp:=⟨_,rfl⟩
 rw[htp] at h1 ⊢
 refine PC.enter 21 [.tmp 4] [2,3] Proofs.Tryz.func95 rfl rfl rfl rfl rfl (by simp) (AWp.of ?_);simp only[go_sem]
 refine Wk ?_
 refine Sd ?_
 refine(h1).val.use ?_;simp only[go_sem]
 refine Wk ?_
 refine ret_eq ?_;simp only[go_sem]
theorem und_leaf2 (ps:List Pr) (hs:Sm ps) (c:List Int) (hg:givenF ps [c] []=0) (t:Pd) (hr:allB (resB ps) t=true) :
  AllP (leafOk ps c (valuesAt ps c) (cutO ps c (undF ps c))) t∧AllP (obsB ps (cutO ps c (undF ps c))) t:=by
 obtain⟨hv,hc,hir,_⟩:=givenF_zero hg
 have hvl:(valuesAt ps c).length=ps.length:=by unfold valuesAt;rw[List.length_map,List.length_zip];omega
 have hcg:∀i (hi:i<ps.length),c.getD i 0=c[i]'(by omega):=fun i hi=>by rw[List.getD_eq_getElem?_getD,List.getElem?_eq_getElem (by omega)];rfl
 have hvar:∀(i:Nat) (hi:i<ps.length) (s:ByteArray),(cutO ps c (undF ps c)).var i s=(stateAt ps[i] (c[i]'(by omega)).toNat).getD (varIx ps[i].vars s).toNat 0:=fun i hi s=>by
  unfold cutO;simp only[Int.toNat_natCast,List.getElem?_eq_getElem hi,hcg i hi]
 have hcnt:∀(i:Nat) (hi:i<ps.length),(cutO ps c (undF ps c)).cnt i=c[i]'(by omega):=fun i hi=>by
  unfold cutO;simp only[Int.toNat_natCast,hcg i hi]
 have hget:∀(i:Nat) (hi:i<ps.length),c[((i:Nat):Int).toNat]?=some (c[i]'(by omega)):=fun i hi=>by
  rw[Int.toNat_natCast,List.getElem?_eq_getElem (by omega)]
 refine⟨AllP_of_allB (fun x hx => ?_) t hr,AllP_of_allB (fun x hx => ?_) t hr⟩
 ·obtain⟨k,n,p,q,s,l⟩:=x
  obtain⟨r2,r3,r4⟩:=res_leaf hx
  refine⟨fun e => ?_,fun e => ?_,fun e => ?_⟩
  ·obtain⟨i,rfl,hp⟩:=isPB_nat (r2 e).1
   have hvg:=valuesAt_get (c:=c) hp (by omega)
   have h:=view_variable ps hs c (valuesAt ps c) k n i q s l hp (r2 e).2 (by omega) (by rw[hvg,stateAt_length])
   rw[hvg] at h
   rw[hvar i hp];exact h
  ·obtain⟨i,rfl,hp⟩:=isPB_nat (r3 e)
   exact⟨by omega,by rw[hcnt i hp];exact hget i hp⟩
  ·obtain⟨i,rfl,hp⟩:=isPB_nat (r4 e).1
   obtain⟨j,rfl,hq⟩:=isPB_nat (r4 e).2.1
   exact view_channel ps hs c hg (valuesAt ps c) k n i j s l hp ⟨by omega,by omega⟩
 ·obtain⟨k,n,p,q,s,l⟩:=x
  obtain⟨r2,r3,r4⟩:=res_leaf hx
  refine⟨fun e => ?_,fun e => ?_,fun e => ?_⟩
  ·obtain⟨i,rfl,hp⟩:=isPB_nat (r2 e).1
   obtain⟨b1,b2⟩:=inRangeF_get hir hc hp
   have hm:=valsF_mem ps[i] (varIx ps[i].vars s).toNat (k:=(c[i]'(by omega)).toNat) (by omega)
   rw[hvar i hp]
   unfold varLo varHi
   simp only[Int.toNat_natCast,List.getElem?_eq_getElem hp]
   exact⟨minL_le hm,le_maxL hm⟩
  ·obtain⟨i,rfl,hp⟩:=isPB_nat (r3 e)
   obtain⟨b1,b2⟩:=inRangeF_get hir hc hp
   rw[hcnt i hp,evN_get hp]
   exact⟨b1,b2⟩
  ·obtain⟨i,rfl,hp⟩:=isPB_nat (r4 e).1
   show 0≤undF ps c i q∧undF ps c i q≤msgN ps i q
   have h1:=undM_len c q (c.getD i 0).toNat hp
   rw[msgN_get hp]
   unfold undF
   rw[Int.toNat_natCast]
   omega
def totA (rows:Nat→List Stp) (n:Nat) (a:Nat→Nat):Nat:=totS n fun p=>(rows p).length - a p
structure ElA (ps:List Pr) (rows:Nat→List Stp) (a:Nat→Nat):Prop where
 lt:∀p,p<ps.length→a p<(rows p).length
 low:∀t,TgtS ps rows t→∀p,p<ps.length→a p≤t p
theorem ElA.step {ps:List Pr} {b:Nat→Nat→Bool} {rows:Nat→List Stp} (hR:RowsOk ps b rows) {a:Nat→Nat} (h:ElA ps rows a) {p q:Nat} (hp:p<ps.length) (hq:q<ps.length) (hpq:p ≠ q) (hb:bgN ps (fSp rows p (a p)) (fSp rows q (a q))=false) :
  (a q+1=(rows q).length→¬ ∃t,TgtS ps rows t)∧(a q+1 ≠ (rows q).length→ElA ps rows (updN a q (a q+1))∧totA rows ps.length (updN a q (a q+1))<totA rows ps.length a):=by
 have hs:=tgt_step (mon_rows hR) h.low hp hq hpq hb
 have hlq:=h.lt q hq
 have e:∀r,updN a q (a q+1) r=if r=q then a q+1 else a r:=fun r=>rfl
 refine⟨fun h1=>tgt_none hs hq (by show (rows q).length≤if q=q then a q+1 else a q;rw[if_pos rfl];omega),fun h1=>⟨⟨fun r hr => ?_,fun t ht r hr=>by rw[e];exact hs t ht r hr⟩,?_⟩⟩
 ·by_cases e2:r=q
  ·subst e2;rw[updN_self];omega
  ·rw[updN_ne e2];exact h.lt r hr
 ·unfold totA
  refine totS_lt2 ps.length (p:=q) (fun r _ => ?_) hq ?_
  ·by_cases e2:r=q
   ·subst e2;rw[updN_self];omega
   ·rw[updN_ne e2];exact Nat.le_refl _
  ·rw[updN_self];omega
section
variable {b:Nat→Bool} {p K:Nat} {l:List Stp}
theorem SpOk.after (h:SpOk b p K l) {i:Nat} (hi:i<l.length) (h0:l[i].2.2+1<K):b (l[i].2.2+1)=false:=by
 cases hb:b (l[i].2.2+1) with
 | false=>rfl
 | true =>
  obtain⟨_,g2,g3,_⟩:=h.el l[i] (List.getElem_mem hi)
  obtain⟨s,hs,k1,k2⟩:=h.cov _ h0 hb
  obtain⟨m,hm,rfl⟩:=List.getElem_of_mem hs
  rcases Nat.lt_trichotomy m i with e|e|e
  ·have:=h.lt hi e;omega
  ·subst e;omega
  ·have:=h.lt hm e;omega
end
section
variable {ps:List Pr} {ts:List Pd} (hC:conF ps ts=0)
include hC
end
structure TgB (ps:List Pr) (s:Nat→Stp):Prop where
 el:∀p,p<ps.length→(s p).2.1≤(s p).2.2∧(s p).2.2≤nev ps p∧(s p).1=p
 bg:∀p q,p<ps.length→q<ps.length→p ≠ q→bgN ps (s p) (s q)=true
section
variable {ps:List Pr} (hv:validF ps=true) {s:Nat→Stp} (hT:TgB ps s)
include hv hT
end
abbrev Syn:=Eid × Eid
def dirE (ps:List Pr) (p i:Nat):List Eid:=(if 0<i then [((p:Int),(i:Int))] else []) ++ (if (evq ps p i).kind=3 then [sndr ps (evq ps p i).msg] else [])
def dirX (ps:List Pr) (l:List Syn) (p i:Nat):List Eid:=dirE ps p i ++ (l.filter fun s=>decide (s.2=((p:Int),(i:Int)+1))).map (·.1)
def nedX (S:Nat→List (List Int)) (y:Eid):List Int:=stOf S y.1.toNat y.2.toNat
def RdyX (ps:List Pr) (l:List Syn) (S:Nat→List (List Int)) (p:Nat):Prop :=
 p<ps.length∧(S p).length≤nev ps p∧∀y ∈ dirX ps l p ((S p).length - 1),y.2.toNat<(S y.1.toNat).length
def vecX (ps:List Pr) (l:List Syn) (S:Nat→List (List Int)) (p k:Nat):List Int:=((dirX ps l p (k - 1)).foldl (fun v y=>joinL v (nedX S y)) (List.replicate ps.length 0)).set p (k:Int)
inductive GenX (ps:List Pr) (l:List Syn):(Nat→List (List Int))→Prop
 | init:GenX ps l fun _=>[List.replicate ps.length 0]
 | step {S:Nat→List (List Int)} {p:Nat} : GenX ps l S→RdyX ps l S p→GenX ps l (upS S p (vecX ps l S p (S p).length))
section
variable {ps:List Pr} {l:List Syn} {S S':Nat→List (List Int)}
theorem GenX.pos (h:GenX ps l S):∀p,1≤(S p).length:=by
 induction h with
 | init=>intro p;simp
 | @step S r h hr ih=>intro p;exact Nat.le_trans (ih p) (upS_le S r _ p)
theorem GenX.zero (h:GenX ps l S):∀p,stOf S p 0=List.replicate ps.length 0:=by
 induction h with
 | init=>intro p;rfl
 | @step S r h hr ih=>intro p;rw[upS_old (h.pos p)];exact ih p
theorem GenX.top (h:GenX ps l S):∀p,(S p).length≤nev ps p+1:=by
 induction h with
 | init=>intro p;simp
 | @step S r h hr ih =>
  intro p
  rw[upS_len]
  split
  ·rename_i e;subst e;have:=hr.2.1;omega
  ·exact ih p
theorem vecX_congr {p k:Nat} (h:∀y ∈ dirX ps l p (k - 1),nedX S' y=nedX S y):vecX ps l S' p k=vecX ps l S p k:=by
 unfold vecX
 generalize dirX ps l p (k - 1)=D at *
 generalize List.replicate ps.length (0:Int)=v
 congr 1
 induction D generalizing v with
 | nil=>rfl
 | cons y D ih =>
  rw[List.foldl_cons,List.foldl_cons,h y (by simp)]
  exact ih (fun z hz=>h z (List.mem_cons_of_mem _ hz)) _
theorem GenX.entry (h:GenX ps l S):∀p k,1≤k→k<(S p).length→p<ps.length∧k≤nev ps p∧(∀y ∈ dirX ps l p (k - 1),y.2.toNat<(S y.1.toNat).length)∧stOf S p k=vecX ps l S p k:=by
 induction h with
 | init=>intro p k h1 h2;simp at h2;omega
 | @step S r h hr ih =>
  intro p k h1 h2
  have hlt:∀y:Eid,y.2.toNat<(S y.1.toNat).length→y.2.toNat<(upS S r (vecX ps l S r (S r).length) y.1.toNat).length:=fun y hy=>Nat.lt_of_lt_of_le hy (upS_le S r _ _)
  have hold:∀y:Eid,y.2.toNat<(S y.1.toNat).length→nedX (upS S r (vecX ps l S r (S r).length)) y=nedX S y:=fun y hy=>upS_old hy
  by_cases hk:k<(S p).length
  ·obtain⟨a1,a2,a3,a4⟩:=ih p k h1 hk
   refine⟨a1,a2,fun y hy=>hlt y (a3 y hy),?_⟩
   rw[upS_old hk,a4]
   exact(vecX_congr fun y hy=>hold y (a3 y hy)).symm
  ·rw[upS_len] at h2
   by_cases e:p=r
   ·subst e
    rw[if_pos rfl] at h2
    have hke:k=(S p).length:=by omega
    subst hke
    refine⟨hr.1,hr.2.1,fun y hy=>hlt y (hr.2.2 y hy),?_⟩
    rw[upS_new]
    exact(vecX_congr fun y hy=>hold y (hr.2.2 y hy)).symm
   ·rw[if_neg e] at h2;omega
theorem GenX.agree (h:GenX ps l S) (h':GenX ps l S'):∀p k,k<(S p).length→k<(S' p).length→stOf S p k=stOf S' p k:=by
 induction h with
 | init =>
  intro p k h1 h2
  have:k=0:=by simp at h1;omega
  subst this
  rw[h'.zero];rfl
 | @step S r h hr ih =>
  intro p k h1 h2
  by_cases hk:k<(S p).length
  ·rw[upS_old hk];exact ih p k hk h2
  ·rw[upS_len] at h1
   by_cases e:p=r
   ·subst e
    rw[if_pos rfl] at h1
    have hke:k=(S p).length:=by omega
    subst hke
    obtain⟨_,_,a3,a4⟩:=h'.entry p _ (h.pos p) h2
    rw[upS_new,a4]
    exact(vecX_congr fun y hy=>(ih _ _ (hr.2.2 y hy) (a3 y hy)).symm).symm
   ·rw[if_neg e] at h1;omega
theorem GenX.under (h:GenX ps l S) (h':GenX ps l S') (hst:∀p,¬RdyX ps l S' p):∀p,(S p).length≤(S' p).length:=by
 induction h with
 | init=>intro p;have:=h'.pos p;simpa using this
 | @step S r h hr ih =>
  intro p
  rw[upS_len]
  split
  ·rename_i e
   subst e
   refine Nat.lt_of_le_of_ne (ih p) fun e=>hst p ⟨hr.1,by have:=hr.2.1;omega,fun y hy => ?_⟩
   rw[← e] at hy
   exact Nat.lt_of_lt_of_le (hr.2.2 y hy) (ih _)
  ·exact ih p
theorem GenX.uniq (h:GenX ps l S) (hs:∀p,¬RdyX ps l S p) (h':GenX ps l S') (hs':∀p,¬RdyX ps l S' p):S=S':=by
 funext p
 have e:(S p).length=(S' p).length:=Nat.le_antisymm (h.under h' hs' p) (h'.under h hs p)
 refine List.ext_getElem e fun k h1 h2 => ?_
 have:=h.agree h' p k h1 h2
 unfold stOf at this
 rwa [List.getD_eq_getElem?_getD,List.getElem?_eq_getElem h1,List.getD_eq_getElem?_getD,List.getElem?_eq_getElem h2] at this
end
open Classical in
noncomputable def exF (ps:List Pr) (l:List Syn):Nat→List (List Int):=if h:∃S,GenX ps l S∧∀p,¬RdyX ps l S p then Classical.choose h else fun _=>[]
def CloX (ps:List Pr) (l:List Syn) (d:Nat→Int):Prop:=∀a,a<ps.length→∀i,i<nev ps a→(i:Int)+1≤d a→∀y ∈ dirX ps l a i,y.2≤d y.1.toNat
def SynOk (ps:List Pr) (l:List Syn):Prop:=∀s ∈ l,(0≤s.1.1∧s.1.1<ps.length∧1≤s.1.2∧s.1.2≤nev ps s.1.1.toNat)∧(0≤s.2.1∧s.2.1<ps.length∧1≤s.2.2∧s.2.2≤nev ps s.2.1.toNat)
theorem dirX_ev {ps:List Pr} (hv:validF ps=true) {l:List Syn} (hl:SynOk ps l) {p i:Nat} (hp:p<ps.length) (hi:i<nev ps p):∀y ∈ dirX ps l p i,0≤y.1∧y.1<ps.length∧1≤y.2∧y.2≤nev ps y.1.toNat:=fun y hy=>by
 unfold dirX dirE at hy
 rw[List.mem_append,List.mem_append] at hy
 rcases hy with (hy|hy)|hy
 ·split at hy
  ·rw[List.mem_singleton] at hy
   subst hy
   simp only[Int.toNat_natCast]
   omega
  ·cases hy
 ·split at hy
  ·rename_i hk
   rw[List.mem_singleton] at hy
   subst hy
   have hn:=nev_get hp
   rw[evq_get hp (by omega)] at hk ⊢
   obtain⟨q,hq,j,hj,e,_⟩:=sndr_some (recv_sndr (valid_parts hv).2.2 hp (by omega) hk)
   rw[e]
   have:=nev_get hq
   simp only[Int.toNat_natCast]
   omega
  ·cases hy
 ·obtain⟨s,hs,rfl⟩:=List.mem_map.1 hy
  exact(hl s (List.mem_filter.1 hs).1).1
structure StX (ps:List Pr) (l:List Syn) (S:Nat→List (List Int)) (p k:Nat):Prop where
 len:(stOf S p k).length=ps.length
 own:p<ps.length→(stOf S p k).getD p 0=(k:Int)
 le:∀j,(stOf S p k).getD j 0<(S j).length
 nn:∀j,0≤(stOf S p k).getD j 0
 clo:CloX ps l fun j=>(stOf S p k).getD j 0
 least:∀d:Nat→Int,CloX ps l d→(∀j,0≤d j)→(k:Int)≤d p→∀j,(stOf S p k).getD j 0≤d j
structure JnX (ps:List Pr) (l:List Syn) (S:Nat→List (List Int)) (D:List Eid) (v:List Int):Prop where
 len:v.length=ps.length
 le:∀j,v.getD j 0<(S j).length
 nn:∀j,0≤v.getD j 0
 clo:CloX ps l fun j=>v.getD j 0
 has:∀y ∈ D,y.2≤v.getD y.1.toNat 0
 least:∀d:Nat→Int,CloX ps l d→(∀j,0≤d j)→(∀y ∈ D,y.2≤d y.1.toNat)→∀j,v.getD j 0≤d j
theorem joinL_getD {v w:List Int} (h:v.length=w.length) (j:Nat):(joinL v w).getD j 0=if v.getD j 0<w.getD j 0 then w.getD j 0 else v.getD j 0:=by
 by_cases hj:j<v.length
 ·have:=join_cAt h hj
  unfold cAt at this
  rw[Int.toNat_natCast] at this
  exact this
 ·have h1:=join_len h
  rw[List.getD_eq_getElem?_getD,List.getElem?_eq_none (by omega),List.getD_eq_getElem?_getD,List.getElem?_eq_none (by omega),List.getD_eq_getElem?_getD,List.getElem?_eq_none (by omega)]
  simp
theorem JnX.add {ps:List Pr} {l:List Syn} {S:Nat→List (List Int)} {D:List Eid} {v:List Int} (h:JnX ps l S D v) {y:Eid} (hy:StX ps l S y.1.toNat y.2.toNat) (hp:y.1.toNat<ps.length) (h0:0≤y.2):JnX ps l S (D ++ [y]) (joinL v (nedX S y)):=by
 have hl:v.length=(nedX S y).length:=by rw[h.len];exact hy.len.symm
 have hg:=joinL_getD hl
 have hown:=hy.own hp
 refine⟨by rw[join_len hl,h.len],fun j => ?_,fun j => ?_,fun a ha i hi hd z hz => ?_,fun z hz => ?_,fun d h1 h2 h3 j => ?_⟩
 ·rw[hg];have:=h.le j;have:=hy.le j;unfold nedX;split <;> omega
 ·rw[hg];have:=h.nn j;have:=hy.nn j;unfold nedX;split <;> omega
 ·simp only[hg] at hd ⊢
  have c1:=h.clo a ha i hi
  have c2:=hy.clo a ha i hi
  unfold nedX at hd ⊢
  simp only at c1 c2
  split at hd
  ·have:=c2 hd z hz;split <;> omega
  ·have:=c1 hd z hz;split <;> omega
 ·rw[hg]
  rcases List.mem_append.1 hz with hz|hz
  ·have:=h.has z hz;split <;> omega
  ·rw[List.mem_singleton] at hz
   subst hz
   unfold nedX
   rw[hown]
   split <;> omega
 ·rw[hg]
  have c1:=h.least d h1 h2 (fun z hz=>h3 z (List.mem_append_left _ hz)) j
  have c2:=hy.least d h1 h2 (by have:=h3 y (by simp);omega) j
  unfold nedX
  split <;> omega
theorem GenX.join {ps:List Pr} {l:List Syn} {S:Nat→List (List Int)} (h0:∀p,1≤(S p).length):∀(D E:List Eid) (v:List Int),JnX ps l S E v→(∀y ∈ D,StX ps l S y.1.toNat y.2.toNat∧y.1.toNat<ps.length∧0≤y.2)→JnX ps l S (E ++ D) (D.foldl (fun v y=>joinL v (nedX S y)) v)
 | [],E,v,hv,_=>by rw[List.append_nil];exact hv
 | y :: D,E,v,hv,hD=>by
  obtain⟨a1,a2,a3⟩:=hD y (by simp)
  have:=GenX.join h0 D (E ++ [y]) _ (hv.add a1 a2 a3) fun z hz=>hD z (List.mem_cons_of_mem _ hz)
  rwa [List.append_assoc] at this
theorem getD_zeros (n j:Nat):(List.replicate n (0:Int)).getD j 0=0:=by
 rw[List.getD_eq_getElem?_getD,List.getElem?_replicate];split <;> rfl
theorem JnX.nil {ps:List Pr} {l:List Syn} {S:Nat→List (List Int)} (h0:∀p,1≤(S p).length):JnX ps l S [] (List.replicate ps.length 0):=by
 refine⟨by simp,fun j => ?_,fun j => ?_,fun a ha i hi hd => ?_,fun y hy=>(nomatch hy),fun d _ h2 _ j => ?_⟩
 ·rw[getD_zeros];have:=h0 j;omega
 ·rw[getD_zeros];omega
 ·simp only[getD_zeros] at hd;omega
 ·rw[getD_zeros];exact h2 j
theorem GenX.st {ps:List Pr} (hv:validF ps=true) {l:List Syn} (hl:SynOk ps l) {S:Nat→List (List Int)} (h:GenX ps l S):∀p k,k<(S p).length→StX ps l S p k:=by
 induction h with
 | init =>
  intro p k hk
  have:k=0:=by simp at hk;omega
  subst this
  show StX ps l _ p 0
  have e:stOf (fun _=>[List.replicate ps.length (0:Int)]) p 0=List.replicate ps.length 0:=rfl
  constructor
  ·rw[e];simp
  ·intro _;rw[e,getD_zeros];rfl
  ·intro j;rw[e,getD_zeros];simp
  ·intro j;rw[e,getD_zeros];omega
  ·intro a ha i hi hd;simp only[e,getD_zeros] at hd;omega
  ·intro d _ h2 _ j;rw[e,getD_zeros];exact h2 j
 | @step S r h hr ih =>
  have hle:=fun q=>upS_le S r (vecX ps l S r (S r).length) q
  intro p k hk
  by_cases hold:k<(S p).length
  ·obtain⟨a1,a2,a3,a4,a5,a6⟩:=ih p k hold
   have e:stOf (upS S r (vecX ps l S r (S r).length)) p k=stOf S p k:=upS_old hold
   constructor
   ·rw[e];exact a1
   ·rw[e];exact a2
   ·rw[e];exact fun j=>Int.lt_of_lt_of_le (a3 j) (by have:=hle j;omega)
   ·rw[e];exact a4
   ·rw[e];exact a5
   ·rw[e];exact a6
  ·have hl2:=upS_len S r (vecX ps l S r (S r).length)
   rw[hl2] at hk
   by_cases e:p=r
   ·subst e
    rw[if_pos rfl] at hk
    have hke:k=(S p).length:=by omega
    subst hke
    obtain⟨hp,htop,hdep⟩:=hr
    have hpos:=h.pos p
    have hev:=dirX_ev hv hl (p:=p) (i:=(S p).length - 1) hp (by omega)
    have hJ:=GenX.join h.pos (dirX ps l p ((S p).length - 1)) [] _ (JnX.nil (l:=l) h.pos) fun y hy=>by
     obtain⟨b1,b2,b3,b4⟩:=hev y hy
     exact⟨ih _ _ (hdep y hy),by omega,by omega⟩
    rw[List.nil_append] at hJ
    have hnew:stOf (upS S p (vecX ps l S p (S p).length)) p (S p).length=vecX ps l S p (S p).length:=upS_new
    have hvec:vecX ps l S p (S p).length=((dirX ps l p ((S p).length - 1)).foldl (fun v y=>joinL v (nedX S y)) (List.replicate ps.length 0)).set p ((S p).length:Int):=rfl
    generalize (dirX ps l p ((S p).length - 1)).foldl (fun v y=>joinL v (nedX S y)) (List.replicate ps.length 0)=v at *
    have hset:∀j,(v.set p ((S p).length:Int)).getD j 0=if p=j then ((S p).length:Int) else v.getD j 0:=fun j=>by
     rw[List.getD_eq_getElem?_getD,List.getElem?_set,List.getD_eq_getElem?_getD]
     split
     ·rw[if_pos (by rw[hJ.len];exact hp)];rfl
     ·rfl
    have hvp:v.getD p 0<((S p).length:Int):=hJ.le p
    constructor
    ·rw[hnew,hvec,List.length_set];exact hJ.len
    ·intro _;rw[hnew,hvec,hset,if_pos rfl]
    ·intro j
     rw[hnew,hvec,hset,← hvec,hl2]
     split
     ·rename_i e;rw[if_pos e.symm];omega
     ·rename_i e;rw[if_neg fun h=>e h.symm];exact hJ.le j
    ·intro j;rw[hnew,hvec,hset];have:=hJ.nn j;split <;> omega
    ·intro a ha i hi hd z hz
     rw[hnew,hvec] at hd ⊢
     simp only[hset] at hd ⊢
     have hz2:z.2≤v.getD z.1.toNat 0:=by
      by_cases hpa:p=a
      ·subst hpa
       rw[if_pos rfl] at hd
       by_cases hlast:i=(S p).length - 1
       ·subst hlast
        exact hJ.has z hz
       ·-- an older event of the process: the process's last one needs it
        have hprev:((p:Int),(((S p).length - 1:Nat):Int)) ∈ dirX ps l p ((S p).length - 1):=by
         unfold dirX dirE
         rw[if_pos (by omega)]
         simp
        have h1:=hJ.has _ hprev
        simp only[Int.toNat_natCast] at h1
        exact hJ.clo p ha i hi (by show (i:Int)+1≤v.getD p 0;omega) z hz
      ·rw[if_neg hpa] at hd
       exact hJ.clo a ha i hi hd z hz
     split
     ·rename_i e;rw[← e] at hz2;omega
     ·exact hz2
    ·intro d h1 h2 h3 j
     rw[hnew,hvec,hset]
     split
     ·rename_i e;subst e;exact h3
     ·refine hJ.least d h1 h2 (fun y hy => ?_) j
      refine h1 p hp ((S p).length - 1) (by omega) (by omega) y hy
   ·rw[if_neg e] at hk;omega
end Go.AL
end
section
namespace Go.AL
open Go Go.RowKit
set_option maxRecDepth 4000
structure HoldX (ps:List Pr) (l:List Syn) (bad:Nat→Nat→Bool) (d:Nat→Nat):Prop where
 rng:∀p,p<ps.length→d p≤nev ps p
 bad:∀p,p<ps.length→bad p (d p)=true
 clo:∀a,a<ps.length→∀i,i<nev ps a→i+1≤d a→∀y ∈ dirX ps l a i,y.2≤d y.1.toNat
open Classical in
noncomputable def ctlB (ps:List Pr) (l:List Syn) (bad:Nat→Nat→Bool):Bool:=decide (¬ ∃d,HoldX ps l bad d)
open Classical in
theorem ctlB_true {ps:List Pr} {l:List Syn} {bad:Nat→Nat→Bool} : ctlB ps l bad=true↔¬ ∃d,HoldX ps l bad d:=by unfold ctlB;exact decide_eq_true_iff
def WhlX (ps:List Pr) (S:Nat→List (List Int)):Prop:=∀p,p<ps.length→(S p).length=nev ps p+1
section
variable {ps:List Pr} {l:List Syn} {bad:Nat→Nat→Bool} {S:Nat→List (List Int)} (hv:validF ps=true) (hl:SynOk ps l) (hG:GenX ps l S) (hW:WhlX ps S)
include hv hl hG hW
theorem ctl_stop {c:Nat→Nat} (hr:∀p,p<ps.length→c p≤nev ps p) (hb:∀p,p<ps.length→bad p (c p)=true)
  (hx:∀p q,p<ps.length→q<ps.length→q ≠ p→(stOf S q (c q)).getD p 0≤(c p:Int)):HoldX ps l bad c:=by
 refine⟨hr,hb,fun a ha i hi hd y hy => ?_⟩
 have hst:=hG.st hv hl a (c a) (by rw[hW a ha];have:=hr a ha;omega)
 have hown:=hst.own ha
 have h1:=hst.clo a ha i hi (by simp only;rw[hown];omega) y hy
 simp only at h1
 obtain⟨_,y2,_,_⟩:=dirX_ev hv hl ha hi y hy
 by_cases e:a=y.1.toNat
 ·rw[← e] at h1 ⊢
  omega
 ·have:=hx y.1.toNat a (by omega) ha e
  omega
end
def RnkX (ps:List Pr) (l:List Syn) (r:Eid→Nat):Prop:=∀p,p<ps.length→∀i,i<nev ps p→∀y ∈ dirX ps l p i,r y<r ((p:Int),(i:Int)+1)
theorem RnkX.sub {ps:List Pr} {l l':List Syn} {r:Eid→Nat} (h:RnkX ps l r) (hs:∀s ∈ l',s ∈ l):RnkX ps l' r:=fun p hp i hi y hy=>by
 refine h p hp i hi y ?_
 unfold dirX at hy ⊢
 rcases List.mem_append.1 hy with hy|hy
 ·exact List.mem_append_left _ hy
 ·obtain⟨s,h1,rfl⟩:=List.mem_map.1 hy
  obtain⟨h2,h3⟩:=List.mem_filter.1 h1
  exact List.mem_append_right _ (List.mem_map.2 ⟨s,List.mem_filter.2 ⟨hs s h2,h3⟩,rfl⟩)
theorem SynOk.sub {ps:List Pr} {l l':List Syn} (h:SynOk ps l) (hs:∀s ∈ l',s ∈ l):SynOk ps l':=fun s hx=>h s (hs s hx)
end Go.AL
end
section
namespace Go.AL
open Go Go.RowKit
set_option maxRecDepth 4000
section
variable {ps:List Pr}
end
def excB (n:Nat) (S:Nat→List (List Int)) (c:Nat→Nat) (p:Nat):Bool:=(List.range n).any fun q=>decide (q ≠ p) && decide ((c p:Int)<(stOf S q (c q)).getD p 0)
theorem excB_iff {n:Nat} {S:Nat→List (List Int)} {c:Nat→Nat} {p:Nat} : excB n S c p=true↔∃q,q<n∧q ≠ p∧(c p:Int)<(stOf S q (c q)).getD p 0:=by
 unfold excB
 rw[List.any_eq_true]
 constructor
 ·rintro⟨q,h1,h2⟩
  rw[Bool.and_eq_true,decide_eq_true_eq,decide_eq_true_eq] at h2
  exact⟨q,List.mem_range.1 h1,h2.1,h2.2⟩
 ·rintro⟨q,h1,h2,h3⟩
  exact⟨q,List.mem_range.2 h1,by rw[decide_eq_true h2,decide_eq_true h3];rfl⟩
def UpX (ps:List Pr) (l:List Syn) (bad:Nat→Nat→Bool) (c:Nat→Nat):Prop:=∀d,HoldX ps l bad d→∀p,p<ps.length→c p≤d p
theorem UpX.stop {ps:List Pr} {l:List Syn} {bad:Nat→Nat→Bool} {S:Nat→List (List Int)} (hv:validF ps=true) (hl:SynOk ps l) (hG:GenX ps l S) (hW:WhlX ps S) {c:Nat→Nat} (hr:∀p,p<ps.length→c p≤nev ps p)
  (h:∀p,p<ps.length→bad p (c p)=true∧excB ps.length S c p=false):ctlB ps l bad=false:=by
 cases hc:ctlB ps l bad with
 | false=>rfl
 | true =>
  refine absurd ⟨c,ctl_stop hv hl hG hW hr (fun p hp=>(h p hp).1) fun p q hp hq hne => ?_⟩ (ctlB_true.1 hc)
  refine Int.not_lt.1 fun hlt => ?_
  have:=(h p hp).2
  rw[excB_iff.2 ⟨q,hq,hne,hlt⟩] at this;cases this
section
variable {ps:List Pr} {l:List Syn} {S:Nat→List (List Int)} (hv:validF ps=true) (hl:SynOk ps l) (hG:GenX ps l S)
include hv hl hG
end
section
variable {ps:List Pr} (hv:validF ps=true)
include hv
variable (hs:Sm ps)
include hs
end
section
variable {ps:List Pr} (hv:validF ps=true)
include hv
variable (hs:Sm ps)
include hs
end
def FamS (tO tI:TypeId) (k n:Nat) (Y:Nat→List AV) (v:AV) (L:AHeap):Prop :=
 ∃Lv V Ls,L.Perm (Lv ++ famL n Ls)∧AppSt tO 1 ((List.range n).map V) v Lv∧∀q,q<n→AppSt tI k (Y q) (V q) (Ls q)
section
variable {tO tI:TypeId} {k n:Nat} {Y:Nat→List AV} {v:AV} {L:AHeap}
theorem FamS.nil (Y:Nat→List AV):FamS tO tI k 0 Y anil []:=⟨[],fun _=>anil,fun _=>[],by simp [famL],.nil,fun q h=>by omega⟩
theorem fam_more {n:Nat} {Ls:Nat→AHeap} (Lx:AHeap):(famL (n+1) (fun q=>if q=n then Lx else Ls q)).Perm (Lx ++ famL n Ls):=by
 unfold famL
 rw[List.range_succ,List.flatMap_append]
 have e:(List.range n).flatMap (fun q=>if q=n then Lx else Ls q)=(List.range n).flatMap Ls:=flatMap_ext fun q hq=>if_neg (by have:=List.mem_range.1 hq;omega)
 rw[e]
 simp only[List.flatMap_cons,List.flatMap_nil,if_true,List.append_nil]
 exact List.perm_append_comm
theorem map_more {n:Nat} {V:Nat→AV} (x:AV):(List.range (n+1)).map (fun q=>if q=n then x else V q)=(List.range n).map V ++ [x]:=by
 rw[List.range_succ,List.map_append]
 congr 1
 ·exact List.map_congr_left fun q hq=>if_neg (by have:=List.mem_range.1 hq;omega)
 ·simp
theorem FamS.snoc {V:Nat→AV} {Ls:Nat→AHeap} {x v':AV} {Lx Lv' L':AHeap} (hF:∀q,q<n→AppSt tI k (Y q) (V q) (Ls q)) (hx:AppSt tI k (Y n) x Lx) (hA:AppSt tO 1 ((List.range n).map V ++ [x]) v' Lv') (hp:L'.Perm (Lv' ++ (Lx ++ famL n Ls))):FamS tO tI k (n+1) Y v' L':=by
 refine⟨Lv',fun q=>if q=n then x else V q,fun q=>if q=n then Lx else Ls q,hp.trans (List.Perm.append_left _ (fam_more Lx).symm),?_,fun q hq => ?_⟩
 ·rw[map_more];exact hA
 ·by_cases e:q=n
  ·subst e;dsimp only;rw[if_pos rfl,if_pos rfl];exact hx
  ·dsimp only;rw[if_neg e,if_neg e];exact hF q (by omega)
theorem FamS.congr {Y':Nat→List AV} (h:FamS tO tI k n Y v L) (e:∀q,q<n→Y' q=Y q):FamS tO tI k n Y' v L:=by
 obtain⟨Lv,V,Ls,h1,h2,h3⟩:=h
 exact⟨Lv,V,Ls,h1,h2,fun q hq=>by rw[e q hq];exact h3 q hq⟩
theorem FamS.perm {L':AHeap} (h:FamS tO tI k n Y v L) (hp:L'.Perm L):FamS tO tI k n Y v L':=by
 obtain⟨Lv,V,Ls,h1,h2,h3⟩:=h
 exact⟨Lv,V,Ls,hp.trans h1,h2,h3⟩
theorem AWp.famView {C:Cfg} {c:Code} {Q:AQ} {ρ:Env} {j:Nat} (h:FamS tO tI k n Y v L) (hj:get ρ j=v) (hw:AWp C c Q ((j,.sl 1 ((List.range n).map fun q => .sl k (Y q))) :: ρ) []):AWp C c Q ρ L:=by
 obtain⟨Lv,V,Ls,h1,h2,h3⟩:=h
 refine AWp.nodup fun hnd => ?_
 have hnd':((famL n Ls).map (·.1)).Nodup:=by
  have:=(h1.map (·.1)).nodup_iff.1 hnd
  rw[List.map_append,List.nodup_append] at this
  exact this.2.1
 rcases h2.inv with ⟨e1,e2,e3⟩|⟨bo,cap,e2,e3⟩
 ·have h0:n=0:=by have:=congrArg List.length e1;simpa using this
  subst h0
  subst e3
  refine AWp.viewP (Lf:=[]) (Lk:=[]) (L':=[]) (by simpa [famL] using h1) (LVw.refl _) [(j,_)] (fun q hq => ?_) hw
  simp only[List.mem_singleton] at hq
  subst hq
  rw[hj,e2]
  exact .nil 1
 ·subst e3
  have hp:L.Perm (famL n Ls ++ [(bo,.row tO 1 ((List.range n).map V) cap)]):=h1.trans List.perm_append_comm
  refine AWp.viewP hp (.row (fam_views hnd' h3) (LVw.none _)) [] (by simp) ?_
  refine AWp.viewP (Lf:=[(bo,.row tO 1 ((List.range n).map fun q => .sl k (Y q)) cap)]) (Lk:=[]) (L':=[]) (.refl _) (LVw.refl _) [(j,_)] (fun q hq => ?_) hw
  simp only[List.mem_singleton] at hq
  subst hq
  show Vw _ (get ρ j) _
  rw[hj,e2]
  exact Vw.ofLs (t:=tO) (cap:=cap) (if_pos rfl) (by simp)
theorem FamS.open (h:FamS tO tI k n Y v L) {p:Nat} (hp:p<n) :
  ∃bo cap V Ls,v = .ls bo 1 0 n cap∧L.Perm ((bo,.row tO 1 ((List.range n).map V) cap) :: (Ls p ++ famR n p Ls))∧AppSt tI k (Y p) (V p) (Ls p) ∧
   ∀(Y':Nat→List AV) (x:AV) (Lp L':AHeap),(∀q,q ≠ p→Y' q=Y q)→AppSt tI k (Y' p) x Lp→L'.Perm ((bo,.row tO 1 (((List.range n).map V).set p x) cap) :: (Lp ++ famR n p Ls))→FamS tO tI k n Y' v L':=by
 obtain⟨Lv,V,Ls,h1,h2,h3⟩:=h
 rcases h2.inv with ⟨e1,_,_⟩|⟨bo,cap,e2,e3⟩
 ·have h0:n=0:=by have:=congrArg List.length e1;simpa using this
  omega
 ·have hlen:((List.range n).map V).length=n:=by simp
  rw[hlen] at e2
  subst e3
  refine⟨bo,cap,V,Ls,e2,h1.trans ((fam_split hp Ls).cons _),h3 p hp,fun Y' x Lp L' hY hx hL => ?_⟩
  refine⟨[(bo,.row tO 1 (((List.range n).map V).set p x) cap)],fun q=>if q=p then x else V q,fun q=>if q=p then Lp else Ls q,?_,?_,fun q hq => ?_⟩
  ·refine hL.trans (List.Perm.cons _ ?_)
   have hsp:=fam_split hp (fun q=>if q=p then Lp else Ls q)
   rw[if_pos rfl,famR_congr (Ls:=Ls) (fun q hq=>if_neg hq)] at hsp
   exact hsp.symm
  ·rw[← map_range_set,e2]
   have:=AppSt.row (t:=tO) (k:=1) bo (((List.range n).map V).set p x) cap
   rwa [List.length_set,hlen] at this
  ·by_cases e:q=p
   ·subst e;dsimp only;rw[if_pos rfl,if_pos rfl];exact hx
   ·dsimp only;rw[if_neg e,if_neg e,hY q e];exact h3 q hq
end
theorem nd1 {b:Nat} {x:ABlk} {r:AHeap} (h:(((b,x) :: r:AHeap).map (·.1)).Nodup):∀z ∈ r,¬b=z.1∧¬z.1=b:=by
 simp only[List.map_cons,List.nodup_cons,List.mem_map,not_exists,not_and] at h
 exact fun z hz=>⟨fun e=>h.1 z hz e.symm,h.1 z hz⟩
section
variable {ps:List Pr} {bad:List Int→Bool} {c:List Int}
def FwdX (ps:List Pr) (bad:List Int→Bool) (c:List Int):Prop:=∃R,chnF ps (zeroC ps) R=true∧(zeroC ps :: R).getLast?=some c∧∀d ∈ zeroC ps :: R,bad d=false
open Classical in
noncomputable def opnL (ps:List Pr) (bad:List Int→Bool) (cs:List (List Int)):List (List Int):=cs.filter fun c=>decide (FwdX ps bad c)
end
section
variable {ps:List Pr} {b:Nat→Nat→Bool}
end
mutual
def ftF:Pd→Int→Int→Bool × Int
 | .mk _ _ _ _ s l,n,d=>if 0≤n - 1∧d≤60∧(s.size:Int)≤100 then (!(ftL l (n - 1) (d+1)).1,(ftL l (n - 1) (d+1)).2) else (false,n - 1)
def ftL:List Pd→Int→Int→Bool × Int
 | [],n,_=>(false,n)
 | x :: r,n,d=>if (ftF x n d).1=true then ftL r (ftF x n d).2 d else (true,(ftF x n d).2)
end
section
variable {ps:List Pr} (hva:PC Proofs.Tryz.prog 30 [aTr ps] (ab false))
include hva
end
inductive PthK (f:Nat→Nat→Bool) (k:Nat):Nat→Nat→Prop
 | one {i j:Nat} : f i j=true→PthK f k i j
 | cons {i m j:Nat} : f i m=true→m<k→PthK f k m j→PthK f k i j
theorem PthK.mono {f:Nat→Nat→Bool} {k k':Nat} (h:k≤k') {i j:Nat} (p:PthK f k i j):PthK f k' i j:=by
 induction p with
 | one h1=>exact .one h1
 | cons h1 h2 _ ih=>exact .cons h1 (by omega) ih
section
variable {tO tI:TypeId} {k n:Nat} {Y:Nat→List AV} {v:AV} {L:AHeap}
theorem FamS.one (h:FamS tO tI k n Y v L) {p:Nat} (hp:p<n) (hY:Y p ≠ []) :
  ∃bo cap V bp cp X,v = .ls bo 1 0 n cap∧V.length=n∧V.getD p .any = .ls bp k 0 (Y p).length cp∧L.Perm ((bo,.row tO 1 V cap) :: (bp,.row tI k (Y p) cp) :: X) ∧
   ∀(Y':Nat→List AV) (L':AHeap),(∀q,q ≠ p→Y' q=Y q)→(Y' p).length=(Y p).length→L'.Perm ((bo,.row tO 1 V cap) :: (bp,.row tI k (Y' p) cp) :: X)→FamS tO tI k n Y' v L':=by
 obtain⟨bo,cap,V,Ls,h1,h2,h3,h4⟩:=h.open hp
 rcases h3.inv with ⟨e1,_,_⟩|⟨bp,cp,e2,e3⟩
 ·exact absurd e1 hY
 ·refine⟨bo,cap,(List.range n).map V,bp,cp,famR n p Ls,h1,by simp,by rw[map_range_getD hp,e2],by rw[e3] at h2;exact h2,fun Y' L' hq hl hL => ?_⟩
  refine h4 Y' (V p) [(bp,.row tI k (Y' p) cp)] L' hq ?_ ?_
  ·rw[e2,← hl];exact .row _ _ _
  ·have:((List.range n).map V).set p (V p)=(List.range n).map V:=by
    rw[map_range_set]
    exact List.map_congr_left fun q _=>by split <;> simp_all
   rw[this];exact hL
end
theorem FamS.fo {tO tI:TypeId} {k n:Nat} {Y:Nat→List AV} {v:AV} {L:AHeap} (h:FamS tO tI k n Y v L):fo v=(True,v):=by
 obtain⟨Lv,V,Ls,_,hA,_⟩:=h
 exact hA.fo
theorem evaluate_BoolC (ps:List Pr) (hs:Sm ps) (c:List Int) (hcl:c.length≤1000000) (t:Pd) (hz:szF t≤1000000) (hE:atE ps c t 2=0):PC Proofs.Tryz.prog 8 [aTr ps,aInts c,aPd t] (.tup [ab (truF (cutO ps c (undF ps c)) t),ai 0]):=by
 have h1:=evaluate_at ps hs c hcl t hz 2
 rw[hE] at h1
 obtain⟨g1,g2,g3,g4,g5⟩:=atE_zero hE
 obtain⟨g6,g7,g8,g9⟩:=checkF_zero g1
 have h3:atV ps c t=aView ps c (valuesAt ps c):=by unfold atV;rw[if_neg (by rintro(h|h|h);exact h g5;exact h g1;exact h g2)]
 have g10:=g8
 unfold okT at g10
 simp only[Bool.and_eq_true] at g10
 obtain⟨l1,l2⟩:=und_leaf2 ps hs c g2 t g10.1.2
 have h2:=view_truth ps c _ _ hcl t hz g8 g3 g9 g4 l2 l1
 rw[h3] at h1
 generalize truF (cutO ps c (undF ps c)) t=b at *
 obtain⟨k,n,p,q,s,l⟩:=t
 unfold aView at *
 simp only[aPd_mk] at *
 refine PC.enter 23 [.tmp 6,.tmp 7] [3,5,8] Proofs.Tryz.func8 rfl rfl rfl rfl rfl (by simp) (AWp.of ?_);simp only[go_sem]
 refine Wk ?_
 refine Sd ?_
 refine(h1).val.use ?_;simp only[go_sem]
 refine Wk ?_
 intro b8
 refine Wk ?_
 refine Sd ?_
 refine(h2).val.use ?_;simp only[go_sem]
 refine Wk ?_
 refine ret_eq ?_;simp only[go_sem]
theorem check_norm {ps:List Pr} {t:Pd} (h:checkF ps t=0) (hp:prdF t=0) (b:Bool):checkF ps (normF t b)=0:=by
 obtain⟨h1,h2,h3,h4⟩:=checkF_zero h
 unfold okT at h3
 simp only[Bool.and_eq_true] at h3
 have hn:=norm_prd hp b
 unfold checkF
 rw[h1,hn.2,norm_res ps t (prd_ok hp) h3.1.2 b,show typedB (normF t b)=true from (norm_ok t (prd_ok hp) b).ok.2.1,norm_fit ps t (prd_ok hp) h4 b]
 rfl
end Go.AL
end
