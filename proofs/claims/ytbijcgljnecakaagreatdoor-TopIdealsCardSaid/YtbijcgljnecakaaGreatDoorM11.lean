/- Texts of this claim's proof: WY1, WQa, WQb, WY2, WY7, WQd, WV1, WSq, WV2. No condition. -/
import Derived.Test.YtbijcgljnecakaaGreatDoorM10
import Derived.Test.YtbijcgljnecakaaGreatDoorM9
import Derived.Test.YtbijcgljnecakaaGreatDoorM7
import Derived.Test.YtbijcgljnecakaaGreatDoorM6
import Derived.Test.YtbijcgljnecakaaGreatDoorM5
section
namespace Go.AL
open Go Go.RowKit
set_option maxRecDepth 4000
abbrev Syn:=Eid × Eid
def dirE (ps:List Pr) (p i:Nat):List Eid:=(if 0<i then [((p:Int),(i:Int))] else []) ++ (if (evq ps p i).kind=3 then [sndr ps (evq ps p i).msg] else [])
def dirX (ps:List Pr) (l:List Syn) (p i:Nat):List Eid:=dirE ps p i ++ (l.filter fun s=>decide (s.2=((p:Int),(i:Int)+1))).map (·.1)
def nedX (S:Nat→List (List Int)) (y:Eid):List Int:=stOf S y.1.toNat y.2.toNat
def RdyX (ps:List Pr) (l:List Syn) (S:Nat→List (List Int)) (p:Nat):Prop :=
 p<ps.length∧(S p).length≤nev ps p∧∀y ∈ dirX ps l p ((S p).length - 1),y.2.toNat<(S y.1.toNat).length
def vecX (ps:List Pr) (l:List Syn) (S:Nat→List (List Int)) (p k:Nat):List Int:=((dirX ps l p (k - 1)).foldl (fun v y=>joinL v (nedX S y)) (List.replicate ps.length 0)).set p (k:Int)
inductive GenX (ps:List Pr) (l:List Syn):(Nat→List (List Int))→Prop
 | init:GenX ps l fun _=>[List.replicate ps.length 0]
 | step {S:Nat→List (List Int)} {p:Nat} : GenX ps l S→RdyX ps l S p→GenX ps l (upS S p (vecX ps l S p (S p).length))
section
variable {ps:List Pr} {l:List Syn} {S S':Nat→List (List Int)}
theorem GenX.pos (h:GenX ps l S):∀p,1≤(S p).length:=by
 induction h with
 | init=>intro p;simp
 | @step S r h hr ih=>intro p;exact Nat.le_trans (ih p) (upS_le S r _ p)
theorem GenX.zero (h:GenX ps l S):∀p,stOf S p 0=List.replicate ps.length 0:=by
 induction h with
 | init=>intro p;rfl
 | @step S r h hr ih=>intro p;rw[upS_old (h.pos p)];exact ih p
theorem GenX.top (h:GenX ps l S):∀p,(S p).length≤nev ps p+1:=by
 induction h with
 | init=>intro p;simp
 | @step S r h hr ih =>
  intro p
  rw[upS_len]
  split
  ·rename_i e;subst e;have:=hr.2.1;omega
  ·exact ih p
theorem vecX_congr {p k:Nat} (h:∀y ∈ dirX ps l p (k - 1),nedX S' y=nedX S y):vecX ps l S' p k=vecX ps l S p k:=by
 unfold vecX
 generalize dirX ps l p (k - 1)=D at *
 generalize List.replicate ps.length (0:Int)=v
 congr 1
 induction D generalizing v with
 | nil=>rfl
 | cons y D ih =>
  rw[List.foldl_cons,List.foldl_cons,h y (by simp)]
  exact ih (fun z hz=>h z (List.mem_cons_of_mem _ hz)) _
theorem GenX.entry (h:GenX ps l S):∀p k,1≤k→k<(S p).length→p<ps.length∧k≤nev ps p∧(∀y ∈ dirX ps l p (k - 1),y.2.toNat<(S y.1.toNat).length)∧stOf S p k=vecX ps l S p k:=by
 induction h with
 | init=>intro p k h1 h2;simp at h2;omega
 | @step S r h hr ih =>
  intro p k h1 h2
  have hlt:∀y:Eid,y.2.toNat<(S y.1.toNat).length→y.2.toNat<(upS S r (vecX ps l S r (S r).length) y.1.toNat).length:=fun y hy=>Nat.lt_of_lt_of_le hy (upS_le S r _ _)
  have hold:∀y:Eid,y.2.toNat<(S y.1.toNat).length→nedX (upS S r (vecX ps l S r (S r).length)) y=nedX S y:=fun y hy=>upS_old hy
  by_cases hk:k<(S p).length
  ·obtain⟨a1,a2,a3,a4⟩:=ih p k h1 hk
   refine⟨a1,a2,fun y hy=>hlt y (a3 y hy),?_⟩
   rw[upS_old hk,a4]
   exact(vecX_congr fun y hy=>hold y (a3 y hy)).symm
  ·rw[upS_len] at h2
   by_cases e:p=r
   ·subst e
    rw[if_pos rfl] at h2
    have hke:k=(S p).length:=by omega
    subst hke
    refine⟨hr.1,hr.2.1,fun y hy=>hlt y (hr.2.2 y hy),?_⟩
    rw[upS_new]
    exact(vecX_congr fun y hy=>hold y (hr.2.2 y hy)).symm
   ·rw[if_neg e] at h2;omega
theorem GenX.agree (h:GenX ps l S) (h':GenX ps l S'):∀p k,k<(S p).length→k<(S' p).length→stOf S p k=stOf S' p k:=by
 induction h with
 | init =>
  intro p k h1 h2
  have:k=0:=by simp at h1;omega
  subst this
  rw[h'.zero];rfl
 | @step S r h hr ih =>
  intro p k h1 h2
  by_cases hk:k<(S p).length
  ·rw[upS_old hk];exact ih p k hk h2
  ·rw[upS_len] at h1
   by_cases e:p=r
   ·subst e
    rw[if_pos rfl] at h1
    have hke:k=(S p).length:=by omega
    subst hke
    obtain⟨_,_,a3,a4⟩:=h'.entry p _ (h.pos p) h2
    rw[upS_new,a4]
    exact(vecX_congr fun y hy=>(ih _ _ (hr.2.2 y hy) (a3 y hy)).symm).symm
   ·rw[if_neg e] at h1;omega
theorem GenX.under (h:GenX ps l S) (h':GenX ps l S') (hst:∀p,¬RdyX ps l S' p):∀p,(S p).length≤(S' p).length:=by
 induction h with
 | init=>intro p;have:=h'.pos p;simpa using this
 | @step S r h hr ih =>
  intro p
  rw[upS_len]
  split
  ·rename_i e
   subst e
   refine Nat.lt_of_le_of_ne (ih p) fun e=>hst p ⟨hr.1,by have:=hr.2.1;omega,fun y hy => ?_⟩
   rw[← e] at hy
   exact Nat.lt_of_lt_of_le (hr.2.2 y hy) (ih _)
  ·exact ih p
theorem GenX.uniq (h:GenX ps l S) (hs:∀p,¬RdyX ps l S p) (h':GenX ps l S') (hs':∀p,¬RdyX ps l S' p):S=S':=by
 funext p
 have e:(S p).length=(S' p).length:=Nat.le_antisymm (h.under h' hs' p) (h'.under h hs p)
 refine List.ext_getElem e fun k h1 h2 => ?_
 have:=h.agree h' p k h1 h2
 unfold stOf at this
 rwa [List.getD_eq_getElem?_getD,List.getElem?_eq_getElem h1,List.getD_eq_getElem?_getD,List.getElem?_eq_getElem h2] at this
end
open Classical in
noncomputable def exF (ps:List Pr) (l:List Syn):Nat→List (List Int):=if h:∃S,GenX ps l S∧∀p,¬RdyX ps l S p then Classical.choose h else fun _=>[]
theorem exF_eq {ps:List Pr} {l:List Syn} {S:Nat→List (List Int)} (h:GenX ps l S) (hs:∀p,¬RdyX ps l S p):exF ps l=S:=by
 have hx:∃S,GenX ps l S∧∀p,¬RdyX ps l S p:=⟨S,h,hs⟩
 unfold exF
 rw[dif_pos hx]
 exact(Classical.choose_spec hx).1.uniq (Classical.choose_spec hx).2 h hs
def CloX (ps:List Pr) (l:List Syn) (d:Nat→Int):Prop:=∀a,a<ps.length→∀i,i<nev ps a→(i:Int)+1≤d a→∀y ∈ dirX ps l a i,y.2≤d y.1.toNat
def SynOk (ps:List Pr) (l:List Syn):Prop:=∀s ∈ l,(0≤s.1.1∧s.1.1<ps.length∧1≤s.1.2∧s.1.2≤nev ps s.1.1.toNat)∧(0≤s.2.1∧s.2.1<ps.length∧1≤s.2.2∧s.2.2≤nev ps s.2.1.toNat)
theorem dirX_ev {ps:List Pr} (hv:validF ps=true) {l:List Syn} (hl:SynOk ps l) {p i:Nat} (hp:p<ps.length) (hi:i<nev ps p):∀y ∈ dirX ps l p i,0≤y.1∧y.1<ps.length∧1≤y.2∧y.2≤nev ps y.1.toNat:=fun y hy=>by
 unfold dirX dirE at hy
 rw[List.mem_append,List.mem_append] at hy
 rcases hy with (hy|hy)|hy
 ·split at hy
  ·rw[List.mem_singleton] at hy
   subst hy
   simp only[Int.toNat_natCast]
   omega
  ·cases hy
 ·split at hy
  ·rename_i hk
   rw[List.mem_singleton] at hy
   subst hy
   have hn:=nev_get hp
   rw[evq_get hp (by omega)] at hk ⊢
   obtain⟨q,hq,j,hj,e,_⟩:=sndr_some (recv_sndr (valid_parts hv).2.2 hp (by omega) hk)
   rw[e]
   have:=nev_get hq
   simp only[Int.toNat_natCast]
   omega
  ·cases hy
 ·obtain⟨s,hs,rfl⟩:=List.mem_map.1 hy
  exact(hl s (List.mem_filter.1 hs).1).1
structure StX (ps:List Pr) (l:List Syn) (S:Nat→List (List Int)) (p k:Nat):Prop where
 len:(stOf S p k).length=ps.length
 own:p<ps.length→(stOf S p k).getD p 0=(k:Int)
 le:∀j,(stOf S p k).getD j 0<(S j).length
 nn:∀j,0≤(stOf S p k).getD j 0
 clo:CloX ps l fun j=>(stOf S p k).getD j 0
 least:∀d:Nat→Int,CloX ps l d→(∀j,0≤d j)→(k:Int)≤d p→∀j,(stOf S p k).getD j 0≤d j
structure JnX (ps:List Pr) (l:List Syn) (S:Nat→List (List Int)) (D:List Eid) (v:List Int):Prop where
 len:v.length=ps.length
 le:∀j,v.getD j 0<(S j).length
 nn:∀j,0≤v.getD j 0
 clo:CloX ps l fun j=>v.getD j 0
 has:∀y ∈ D,y.2≤v.getD y.1.toNat 0
 least:∀d:Nat→Int,CloX ps l d→(∀j,0≤d j)→(∀y ∈ D,y.2≤d y.1.toNat)→∀j,v.getD j 0≤d j
theorem joinL_getD {v w:List Int} (h:v.length=w.length) (j:Nat):(joinL v w).getD j 0=if v.getD j 0<w.getD j 0 then w.getD j 0 else v.getD j 0:=by
 by_cases hj:j<v.length
 ·have:=join_cAt h hj
  unfold cAt at this
  rw[Int.toNat_natCast] at this
  exact this
 ·have h1:=join_len h
  rw[List.getD_eq_getElem?_getD,List.getElem?_eq_none (by omega),List.getD_eq_getElem?_getD,List.getElem?_eq_none (by omega),List.getD_eq_getElem?_getD,List.getElem?_eq_none (by omega)]
  simp
theorem JnX.add {ps:List Pr} {l:List Syn} {S:Nat→List (List Int)} {D:List Eid} {v:List Int} (h:JnX ps l S D v) {y:Eid} (hy:StX ps l S y.1.toNat y.2.toNat) (hp:y.1.toNat<ps.length) (h0:0≤y.2):JnX ps l S (D ++ [y]) (joinL v (nedX S y)):=by
 have hl:v.length=(nedX S y).length:=by rw[h.len];exact hy.len.symm
 have hg:=joinL_getD hl
 have hown:=hy.own hp
 refine⟨by rw[join_len hl,h.len],fun j => ?_,fun j => ?_,fun a ha i hi hd z hz => ?_,fun z hz => ?_,fun d h1 h2 h3 j => ?_⟩
 ·rw[hg];have:=h.le j;have:=hy.le j;unfold nedX;split <;> omega
 ·rw[hg];have:=h.nn j;have:=hy.nn j;unfold nedX;split <;> omega
 ·simp only[hg] at hd ⊢
  have c1:=h.clo a ha i hi
  have c2:=hy.clo a ha i hi
  unfold nedX at hd ⊢
  simp only at c1 c2
  split at hd
  ·have:=c2 hd z hz;split <;> omega
  ·have:=c1 hd z hz;split <;> omega
 ·rw[hg]
  rcases List.mem_append.1 hz with hz|hz
  ·have:=h.has z hz;split <;> omega
  ·rw[List.mem_singleton] at hz
   subst hz
   unfold nedX
   rw[hown]
   split <;> omega
 ·rw[hg]
  have c1:=h.least d h1 h2 (fun z hz=>h3 z (List.mem_append_left _ hz)) j
  have c2:=hy.least d h1 h2 (by have:=h3 y (by simp);omega) j
  unfold nedX
  split <;> omega
theorem GenX.join {ps:List Pr} {l:List Syn} {S:Nat→List (List Int)} (h0:∀p,1≤(S p).length):∀(D E:List Eid) (v:List Int),JnX ps l S E v→(∀y ∈ D,StX ps l S y.1.toNat y.2.toNat∧y.1.toNat<ps.length∧0≤y.2)→JnX ps l S (E ++ D) (D.foldl (fun v y=>joinL v (nedX S y)) v)
 | [],E,v,hv,_=>by rw[List.append_nil];exact hv
 | y :: D,E,v,hv,hD=>by
  obtain⟨a1,a2,a3⟩:=hD y (by simp)
  have:=GenX.join h0 D (E ++ [y]) _ (hv.add a1 a2 a3) fun z hz=>hD z (List.mem_cons_of_mem _ hz)
  rwa [List.append_assoc] at this
theorem getD_zeros (n j:Nat):(List.replicate n (0:Int)).getD j 0=0:=by
 rw[List.getD_eq_getElem?_getD,List.getElem?_replicate];split <;> rfl
theorem JnX.nil {ps:List Pr} {l:List Syn} {S:Nat→List (List Int)} (h0:∀p,1≤(S p).length):JnX ps l S [] (List.replicate ps.length 0):=by
 refine⟨by simp,fun j => ?_,fun j => ?_,fun a ha i hi hd => ?_,fun y hy=>(nomatch hy),fun d _ h2 _ j => ?_⟩
 ·rw[getD_zeros];have:=h0 j;omega
 ·rw[getD_zeros];omega
 ·simp only[getD_zeros] at hd;omega
 ·rw[getD_zeros];exact h2 j
theorem GenX.st {ps:List Pr} (hv:validF ps=true) {l:List Syn} (hl:SynOk ps l) {S:Nat→List (List Int)} (h:GenX ps l S):∀p k,k<(S p).length→StX ps l S p k:=by
 induction h with
 | init =>
  intro p k hk
  have:k=0:=by simp at hk;omega
  subst this
  show StX ps l _ p 0
  have e:stOf (fun _=>[List.replicate ps.length (0:Int)]) p 0=List.replicate ps.length 0:=rfl
  constructor
  ·rw[e];simp
  ·intro _;rw[e,getD_zeros];rfl
  ·intro j;rw[e,getD_zeros];simp
  ·intro j;rw[e,getD_zeros];omega
  ·intro a ha i hi hd;simp only[e,getD_zeros] at hd;omega
  ·intro d _ h2 _ j;rw[e,getD_zeros];exact h2 j
 | @step S r h hr ih =>
  have hle:=fun q=>upS_le S r (vecX ps l S r (S r).length) q
  intro p k hk
  by_cases hold:k<(S p).length
  ·obtain⟨a1,a2,a3,a4,a5,a6⟩:=ih p k hold
   have e:stOf (upS S r (vecX ps l S r (S r).length)) p k=stOf S p k:=upS_old hold
   constructor
   ·rw[e];exact a1
   ·rw[e];exact a2
   ·rw[e];exact fun j=>Int.lt_of_lt_of_le (a3 j) (by have:=hle j;omega)
   ·rw[e];exact a4
   ·rw[e];exact a5
   ·rw[e];exact a6
  ·have hl2:=upS_len S r (vecX ps l S r (S r).length)
   rw[hl2] at hk
   by_cases e:p=r
   ·subst e
    rw[if_pos rfl] at hk
    have hke:k=(S p).length:=by omega
    subst hke
    obtain⟨hp,htop,hdep⟩:=hr
    have hpos:=h.pos p
    have hev:=dirX_ev hv hl (p:=p) (i:=(S p).length - 1) hp (by omega)
    have hJ:=GenX.join h.pos (dirX ps l p ((S p).length - 1)) [] _ (JnX.nil (l:=l) h.pos) fun y hy=>by
     obtain⟨b1,b2,b3,b4⟩:=hev y hy
     exact⟨ih _ _ (hdep y hy),by omega,by omega⟩
    rw[List.nil_append] at hJ
    have hnew:stOf (upS S p (vecX ps l S p (S p).length)) p (S p).length=vecX ps l S p (S p).length:=upS_new
    have hvec:vecX ps l S p (S p).length=((dirX ps l p ((S p).length - 1)).foldl (fun v y=>joinL v (nedX S y)) (List.replicate ps.length 0)).set p ((S p).length:Int):=rfl
    generalize (dirX ps l p ((S p).length - 1)).foldl (fun v y=>joinL v (nedX S y)) (List.replicate ps.length 0)=v at *
    have hset:∀j,(v.set p ((S p).length:Int)).getD j 0=if p=j then ((S p).length:Int) else v.getD j 0:=fun j=>by
     rw[List.getD_eq_getElem?_getD,List.getElem?_set,List.getD_eq_getElem?_getD]
     split
     ·rw[if_pos (by rw[hJ.len];exact hp)];rfl
     ·rfl
    have hvp:v.getD p 0<((S p).length:Int):=hJ.le p
    constructor
    ·rw[hnew,hvec,List.length_set];exact hJ.len
    ·intro _;rw[hnew,hvec,hset,if_pos rfl]
    ·intro j
     rw[hnew,hvec,hset,← hvec,hl2]
     split
     ·rename_i e;rw[if_pos e.symm];omega
     ·rename_i e;rw[if_neg fun h=>e h.symm];exact hJ.le j
    ·intro j;rw[hnew,hvec,hset];have:=hJ.nn j;split <;> omega
    ·intro a ha i hi hd z hz
     rw[hnew,hvec] at hd ⊢
     simp only[hset] at hd ⊢
     have hz2:z.2≤v.getD z.1.toNat 0:=by
      by_cases hpa:p=a
      ·subst hpa
       rw[if_pos rfl] at hd
       by_cases hlast:i=(S p).length - 1
       ·subst hlast
        exact hJ.has z hz
       ·-- an older event of the process: the process's last one needs it
        have hprev:((p:Int),(((S p).length - 1:Nat):Int)) ∈ dirX ps l p ((S p).length - 1):=by
         unfold dirX dirE
         rw[if_pos (by omega)]
         simp
        have h1:=hJ.has _ hprev
        simp only[Int.toNat_natCast] at h1
        exact hJ.clo p ha i hi (by show (i:Int)+1≤v.getD p 0;omega) z hz
      ·rw[if_neg hpa] at hd
       exact hJ.clo a ha i hi hd z hz
     split
     ·rename_i e;rw[← e] at hz2;omega
     ·exact hz2
    ·intro d h1 h2 h3 j
     rw[hnew,hvec,hset]
     split
     ·rename_i e;subst e;exact h3
     ·refine hJ.least d h1 h2 (fun y hy => ?_) j
      refine h1 p hp ((S p).length - 1) (by omega) (by omega) y hy
   ·rw[if_neg e] at hk;omega
theorem CloX.of_isF {ps:List Pr} (hv:validF ps=true) {d:List Int} (hd:isF ps d=true):CloX ps [] fun j=>d.getD j 0:=fun a ha i hi hdi y hy=>by
 obtain⟨h1,h2,h3⟩:=isF_iff.1 hd
 have hn:=nev_get ha
 unfold dirX dirE at hy
 simp only[List.filter_nil,List.map_nil,List.append_nil] at hy
 rcases List.mem_append.1 hy with hy|hy
 ·split at hy
  ·rw[List.mem_singleton] at hy
   subst hy
   simp only[Int.toNat_natCast]
   simp only at hdi
   omega
  ·cases hy
 ·split at hy
  ·rename_i hk
   rw[List.mem_singleton] at hy
   subst hy
   rw[evq_get ha (by omega)] at hk ⊢
   exact closed_iff.1 h3 a ha i (by omega) hk (by unfold cAt;rw[Int.toNat_natCast];exact hdi)
  ·cases hy
theorem isF_of_CloX {ps:List Pr} {l:List Syn} {d:List Int} (h1:d.length=ps.length) (h2:inRangeF ps d=true) (h:CloX ps l fun j=>d.getD j 0):isF ps d=true:=by
 refine isF_iff.2 ⟨h1,h2,closed_iff.2 fun p hp i hi hk hc => ?_⟩
 have hn:=nev_get hp
 unfold cAt at hc ⊢
 rw[Int.toNat_natCast] at hc
 refine h p hp i (by omega) hc _ ?_
 unfold dirX dirE
 rw[evq_get hp hi,if_pos hk]
 simp
end Go.AL
end
section
namespace Go.AL
open Go Go.RowKit
set_option maxRecDepth 4000
theorem argmin (f:Nat→Nat) (P:Nat→Prop):∀n,(∃p,p<n∧P p)→∃p,p<n∧P p∧∀q,q<n→P q→f p≤f q
 | 0,⟨_,h,_⟩=>by omega
 | n+1,⟨p,hp,hP⟩=>by
  by_cases hn:∃p,p<n∧P p
  ·obtain⟨a,a1,a2,a3⟩:=argmin f P n hn
   by_cases hb:P n∧f n<f a
   ·refine⟨n,by omega,hb.1,fun q hq hQ => ?_⟩
    by_cases e:q=n
    ·subst e;exact Nat.le_refl _
    ·have:=a3 q (by omega) hQ;omega
   ·refine⟨a,by omega,a2,fun q hq hQ => ?_⟩
    by_cases e:q=n
    ·subst e
     have:¬f q<f a:=fun h=>hb ⟨hQ,h⟩
     omega
    ·exact a3 q (by omega) hQ
  ·have e:p=n:=by
    by_cases e:p=n
    ·exact e
    ·exact absurd ⟨p,by omega,hP⟩ hn
   subst e
   refine⟨p,by omega,hP,fun q hq hQ => ?_⟩
   by_cases e:q=p
   ·subst e;exact Nat.le_refl _
   ·exact absurd ⟨q,by omega,hQ⟩ hn
theorem add_below {ps:List Pr} (hv:validF ps=true) {c d:List Int} (hc:isF ps c=true) (hd:isF ps d=true) (hle:∀q:Nat,q<ps.length→cAt c q≤cAt d q) (hne:∃q:Nat,q<ps.length∧cAt c q<cAt d q) :
  ∃q:Nat,q<ps.length∧cAt c q<cAt d q∧rdyF ps c q=true:=by
 obtain⟨hl,hr,hcl⟩:=isF_iff.1 hc
 obtain⟨dl,dr,dcl⟩:=isF_iff.1 hd
 have hm:=(valid_parts hv).2.2
 have hrr:=(inRange_iff hl).1 hr
 have drr:=(inRange_iff dl).1 dr
 obtain⟨p,hp,hp0,hmin⟩:=argmin (fun p=>anc ps ((p:Int),cAt c p+1)) (fun p=>cAt c p<cAt d p) ps.length hne
 have h1:=hrr p hp
 have h2:=drr p hp
 have hi:(cAt c p).toNat<ps[p].evs.length:=by omega
 have hci:cAt c p=((cAt c p).toNat:Nat):=by omega
 refine⟨p,hp,hp0,?_⟩
 unfold rdyF
 rw[decide_eq_true_eq]
 refine⟨by rw[nev_get hp];omega,(stp_iff hv hc hp hi hci).2 ?_⟩
 unfold needE
 split
 ·rename_i hk
  obtain⟨s,hs,j,hj,e,_,_⟩:=sndr_some (recv_sndr hm hp hi hk)
  have hn:=nx_send hm hp hi hk
  have hcd:=closed_iff.1 dcl p hp _ hi hk (by omega)
  rw[e] at hn hcd ⊢
  simp only at hcd ⊢
  by_cases hle2:(j:Int)+1≤cAt c s
  ·exact hle2
  ·exfalso
   have h3:=hmin s hs (by omega)
   have h4:=anc_lt hv ⟨s,hs,j,hj,rfl⟩ (.single hn)
   have h5:=hrr s hs
   have h6:=anc_line hv hs (i:=(cAt c s).toNat) (j:=j) (by omega) hj
   have h7:(((cAt c s).toNat:Nat):Int)=cAt c s:=by omega
   have h8:(((cAt c p).toNat:Nat):Int)=cAt c p:=by omega
   rw[h7] at h6
   rw[h8] at h4
   omega
 ·have:=(hrr 0 (by omega)).1
  simpa using this
theorem rdy_is {ps:List Pr} {c:List Int} {p:Nat} (h:rdyF ps c p=true):isF ps (stpC c p)=true:=(of_decide_eq_true h).2
def firstP (ps:List Pr) (perm:List Int→Bool) (c:List Int):Option Nat:=(List.range c.length).find? fun p=>rdyF ps c p && perm (stpC c p)
theorem firstP_some {ps:List Pr} {f:List Int→Bool} {c:List Int} {p:Nat} (h:firstP ps f c=some p):p<c.length∧rdyF ps c p=true∧f (stpC c p)=true:=by
 have h1:=List.find?_some h
 have h2:=List.mem_of_find?_eq_some h
 rw[Bool.and_eq_true] at h1
 exact⟨List.mem_range.1 h2,h1.1,h1.2⟩
theorem firstP_none {ps:List Pr} {f:List Int→Bool} {c:List Int} (h:firstP ps f c=none) {p:Nat} (hp:p<c.length) (hr:rdyF ps c p=true):f (stpC c p)=false:=by
 have:=List.find?_eq_none.1 h p (List.mem_range.2 hp)
 rw[hr,Bool.true_and] at this
 simpa using this
def wlkR (ps:List Pr) (perm:List Int→Bool):Nat→List Int→Option (List (List Int))
 | 0,_=>some []
 | n+1,c=>match firstP ps perm c with
  | none=>none
  | some p=>(wlkR ps perm n (stpC c p)).map (stpC c p :: ·)
theorem wlkR_succ (ps:List Pr) (perm:List Int→Bool) (n:Nat) (c:List Int):wlkR ps perm (n+1) c=match firstP ps perm c with
  | none=>none
  | some p=>(wlkR ps perm n (stpC c p)).map (stpC c p :: ·):=rfl
theorem leq_stp {ps:List Pr} {c d:List Int} (hc:c.length=ps.length) (h:∀q:Nat,q<ps.length→cAt c q≤cAt d q) (hd:d.length=ps.length) {p:Nat} (hp:cAt c p<cAt d p):∀q:Nat,q<ps.length→cAt (stpC c p) q≤cAt d q:=fun q hq=>by
 rw[cAt_stp (by omega)]
 split
 ·rename_i e;subst e;omega
 ·exact h q hq
theorem leq_at {a b:List Int} {n:Nat} (ha:a.length=n) (hb:b.length=n):leqF a b=true↔∀q:Nat,q<n→cAt a q≤cAt b q:=by
 rw[leq_iff_at,ha,hb]
 exact⟨fun h=>h.2,fun h=>⟨rfl,h⟩⟩
theorem stp_len (c:List Int) (p:Nat):(stpC c p).length=c.length:=by unfold stpC;rw[List.length_set]
section
variable {ps:List Pr} (hv:validF ps=true)
include hv
theorem first_to {c to:List Int} (hc:isF ps c=true) (ht:isF ps to=true) (hle:leqF c to=true) (hne:c.sum<to.sum):∃p,firstP ps (fun d=>leqF d to) c=some p∧p<ps.length∧isF ps (stpC c p)=true∧leqF (stpC c p) to=true:=by
 have hl:=(isF_iff.1 hc).1
 have tl:=(isF_iff.1 ht).1
 have h1:=(leq_at hl tl).1 hle
 have hex:∃q:Nat,q<ps.length∧cAt c q<cAt to q:=by
  apply Classical.byContradiction
  intro hn
  have:c=to:=by
   apply List.ext_getElem (by omega)
   intro i g1 g2
   rw[← cAt_nat g1,← cAt_nat g2]
   have:=h1 i (by omega)
   have:¬cAt c i<cAt to i:=fun h=>hn ⟨i,by omega,h⟩
   omega
  rw[this] at hne;omega
 obtain⟨q,hq,hq1,hq2⟩:=add_below hv hc ht h1 hex
 have hlq:leqF (stpC c q) to=true:=(leq_at (by rw[stp_len];exact hl) tl).2 (leq_stp hl h1 tl hq1)
 cases hf:firstP ps (fun d=>leqF d to) c with
 | none =>
  have:=firstP_none hf (p:=q) (by omega) hq2
  rw[hlq] at this;cases this
 | some p =>
  obtain⟨a1,a2,a3⟩:=firstP_some hf
  exact⟨p,rfl,by omega,rdy_is a2,a3⟩
theorem wlk_to {to:List Int} (ht:isF ps to=true):∀(n:Nat) (c:List Int),isF ps c=true→leqF c to=true→c.sum+n=to.sum→∃R,wlkR ps (fun d=>leqF d to) n c=some R∧R.length=n∧(∀d ∈ R,isF ps d=true∧leqF d to=true)∧(c :: R).getLast?=some to
 | 0,c,hc,hle,hs=>by
  have:c=to:=(leq_sum hle).2 (by omega)
  subst this
  exact⟨[],rfl,rfl,fun d hd=>(by cases hd),rfl⟩
 | n+1,c,hc,hle,hs=>by
  obtain⟨p,h1,h2,h3,h4⟩:=first_to hv hc ht hle (by omega)
  have hsum:(stpC c p).sum=c.sum+1:=sum_stpC (by have:=(isF_iff.1 hc).1;omega)
  obtain⟨R,g1,g2,g3,g4⟩:=wlk_to ht n (stpC c p) h3 h4 (by omega)
  refine⟨stpC c p :: R,by rw[wlkR_succ,h1];simp only[g1,Option.map_some],by rw[List.length_cons,g2],fun d hd => ?_,?_⟩
  ·rcases List.mem_cons.1 hd with rfl|hd
   ·exact⟨h3,h4⟩
   ·exact g3 d hd
  ·rw[List.getLast?_cons_cons];exact g4
end
def stepG (a b:List Int):Nat→Option Int
 | 0=>some (-1)
 | k+1=>match stepG a b k with
  | none=>none
  | some p=>if cAt a k=cAt b k then some p else if 0≤p∨¬cAt b k=cAt a k+1 then none else some k
def stepF (a b:List Int):Int:=if a.length=b.length then (stepG a b a.length).getD (-1) else -1
theorem stepG_some {a b:List Int} : ∀ {k:Nat} {z:Int},stepG a b k=some z↔(z = -1∧∀i:Nat,i<k→cAt a i=cAt b i)∨∃q:Nat,q<k∧z=q∧cAt b q=cAt a q+1∧∀i:Nat,i<k→i ≠ q→cAt a i=cAt b i
 | 0,z=>by
  constructor
  ·intro h;exact .inl ⟨(Option.some.inj h).symm,fun i hi=>by omega⟩
  ·rintro(⟨h,_⟩|⟨q,h,_⟩)
   ·rw[h];rfl
   ·omega
 | k+1,z=>by
  have e:stepG a b (k+1)=match stepG a b k with
   | none=>none
   | some p=>if cAt a k=cAt b k then some p else if 0≤p∨¬cAt b k=cAt a k+1 then none else some k:=rfl
  rw[e]
  constructor
  ·intro h
   cases hs:stepG a b k with
   | none=>rw[hs] at h;cases h
   | some p =>
    rw[hs] at h
    simp only at h
    have ih:=stepG_some.1 hs
    by_cases h1:cAt a k=cAt b k
    ·rw[if_pos h1] at h
     cases h
     rcases ih with ⟨i1,i2⟩|⟨q,i1,i2,i3,i4⟩
     ·exact .inl ⟨i1,fun i hi=>by
       by_cases e:i=k
       ·subst e;exact h1
       ·exact i2 i (by omega)⟩
     ·exact .inr ⟨q,by omega,i2,i3,fun i hi hn=>by
       by_cases e:i=k
       ·subst e;exact h1
       ·exact i4 i (by omega) hn⟩
    ·rw[if_neg h1] at h
     split at h
     ·cases h
     ·rename_i h2
      cases h
      rcases ih with ⟨i1,i2⟩|⟨q,i1,i2,i3,i4⟩
      ·refine .inr ⟨k,by omega,rfl,?_,fun i hi hn=>i2 i (by omega)⟩
       apply Classical.byContradiction;intro h3;exact h2 (.inr h3)
      ·exact absurd (.inl (by omega)) h2
  ·rintro(⟨i1,i2⟩|⟨q,i1,i2,i3,i4⟩)
   ·rw[stepG_some.2 (.inl ⟨i1,fun i hi=>i2 i (by omega)⟩)]
    simp only
    rw[if_pos (i2 k (by omega))]
   ·by_cases e:q=k
    ·subst e
     rw[stepG_some.2 (.inl ⟨rfl,fun i hi=>i4 i (by omega) (by omega)⟩)]
     simp only
     rw[if_neg (by omega),if_neg (by omega),i2]
    ·rw[stepG_some.2 (.inr ⟨q,by omega,i2,i3,fun i hi hn=>i4 i (by omega) hn⟩)]
     simp only
     rw[if_pos (i4 k (by omega) (by omega))]
theorem stepF_iff {a b:List Int} {q:Nat} : stepF a b=q↔q<a.length∧b=stpC a q:=by
 unfold stepF
 constructor
 ·intro h
  split at h
  ·rename_i hl
   cases hs:stepG a b a.length with
   | none=>rw[hs] at h;simp at h
   | some z =>
    rw[hs] at h
    simp only[Option.getD_some] at h
    subst h
    rcases stepG_some.1 hs with ⟨i1,_⟩|⟨p,i1,i2,i3,i4⟩
    ·omega
    ·have:p=q:=by omega
     subst this
     refine⟨i1,?_⟩
     apply List.ext_getElem (by rw[stp_len];omega)
     intro i g1 g2
     rw[← cAt_nat g1,← cAt_nat g2,cAt_stp (by omega)]
     split
     ·rename_i e;subst e;exact i3
     ·rename_i e;exact(i4 i (by omega) fun h=>e h.symm).symm
  ·omega
 ·rintro⟨hq,rfl⟩
  rw[if_pos (stp_len a q).symm,stepG_some.2 (.inr ⟨q,hq,rfl,?_,?_⟩)]
  ·rfl
  ·rw[cAt_stp hq,if_pos rfl]
  ·intro i hi hn
   rw[cAt_stp hi,if_neg (fun e=>hn e.symm)]
theorem stepF_range (a b:List Int):stepF a b = -1∨∃q:Nat,stepF a b=q:=by
 unfold stepF
 split
 ·cases hs:stepG a b a.length with
  | none=>exact .inl rfl
  | some z =>
   rcases stepG_some.1 hs with ⟨i1,_⟩|⟨p,_,i2,_⟩
   ·exact .inl i1
   ·exact .inr ⟨p,i2⟩
 ·exact .inl rfl
def stpP (ps:List Pr) (a b:List Int):Option Nat:=(List.range ps.length).find? fun p=>rdyF ps a p && decide (b=stpC a p)
theorem stpC_inj {a:List Int} {p q:Nat} (hp:p<a.length) (hq:q<a.length) (h:stpC a p=stpC a q):p=q:=by
 have h1:cAt (stpC a p) p=cAt (stpC a q) p:=by rw[h]
 rw[cAt_stp hp,cAt_stp hp,if_pos rfl] at h1
 split at h1
 ·rename_i e;exact e.symm
 ·omega
theorem stpP_some {ps:List Pr} {a b:List Int} (ha:a.length=ps.length) {p:Nat} : stpP ps a b=some p↔p<ps.length∧rdyF ps a p=true∧b=stpC a p:=by
 constructor
 ·intro h
  have h1:=List.find?_some h
  have h2:=List.mem_of_find?_eq_some h
  rw[Bool.and_eq_true,decide_eq_true_eq] at h1
  exact⟨List.mem_range.1 h2,h1.1,h1.2⟩
 ·rintro⟨h1,h2,h3⟩
  cases hf:stpP ps a b with
  | none =>
   have:=List.find?_eq_none.1 hf p (List.mem_range.2 h1)
   rw[h2,decide_eq_true h3] at this
   simp at this
  | some q =>
   have g1:=List.find?_some hf
   have g2:=List.mem_range.1 (List.mem_of_find?_eq_some hf)
   rw[Bool.and_eq_true,decide_eq_true_eq] at g1
   rw[stpC_inj (a:=a) (by omega) (by omega) (g1.2.symm.trans h3)]
theorem stpP_step {ps:List Pr} {a b:List Int} (ha:isF ps a=true):stpP ps a b=if isF ps b=true∧0≤stepF a b then some (stepF a b).toNat else none:=by
 have hl:=(isF_iff.1 ha).1
 split
 ·rename_i h
  rcases stepF_range a b with e|⟨q,e⟩
  ·rw[e] at h;exact absurd h.2 (by decide)
  ·rw[e]
   obtain⟨h1,h2⟩:=stepF_iff.1 e
   refine(stpP_some hl).2 ⟨by omega,?_,h2⟩
   have e2:((q:Int)).toNat=q:=by omega
   rw[e2]
   unfold rdyF
   rw[decide_eq_true_eq,← h2]
   refine⟨?_,h.1⟩
   obtain⟨bl,br,_⟩:=isF_iff.1 h.1
   have:=(inRange_iff bl).1 br q (by omega)
   have e3:cAt b q=cAt a q+1:=by rw[h2,cAt_stp h1,if_pos rfl]
   rw[nev_get (by omega)];omega
 ·rename_i h
  cases hf:stpP ps a b with
  | none=>rfl
  | some p =>
   obtain⟨g1,g2,g3⟩:=(stpP_some hl).1 hf
   exact absurd ⟨by rw[g3];exact rdy_is g2,by rw[stepF_iff.2 ⟨by omega,g3⟩];omega⟩ h
def stpsG (ps:List Pr):List Int→List (List Int)→Option (List Nat)
 | _,[]=>some []
 | a,b :: r=>match stpP ps a b with
  | none=>none
  | some p=>(stpsG ps b r).map (p :: ·)
def zeroC (ps:List Pr):List Int:=List.replicate ps.length 0
def chnF (ps:List Pr):List Int→List (List Int)→Bool
 | _,[]=>true
 | a,b :: r=>(isF ps b && decide (0≤stepF a b)) && chnF ps b r
def isRunF (ps:List Pr):List (List Int)→Bool
 | []=>false
 | a :: r=>decide (a=zeroC ps∧(a :: r).getLast?=some (fullC ps)) && chnF ps a r
theorem zeroC_is (ps:List Pr):isF ps (zeroC ps)=true:=isF_zero
def evtG:List Int→List (List Int)→List Eid
 | _,[]=>[]
 | a,b :: r=>(stepF a b,cAt b (stepF a b)) :: evtG b r
structure HoldX (ps:List Pr) (l:List Syn) (bad:Nat→Nat→Bool) (d:Nat→Nat):Prop where
 rng:∀p,p<ps.length→d p≤nev ps p
 bad:∀p,p<ps.length→bad p (d p)=true
 clo:∀a,a<ps.length→∀i,i<nev ps a→i+1≤d a→∀y ∈ dirX ps l a i,y.2≤d y.1.toNat
open Classical in
noncomputable def ctlB (ps:List Pr) (l:List Syn) (bad:Nat→Nat→Bool):Bool:=decide (¬ ∃d,HoldX ps l bad d)
open Classical in
theorem ctlB_true {ps:List Pr} {l:List Syn} {bad:Nat→Nat→Bool} : ctlB ps l bad=true↔¬ ∃d,HoldX ps l bad d:=by unfold ctlB;exact decide_eq_true_iff
def WhlX (ps:List Pr) (S:Nat→List (List Int)):Prop:=∀p,p<ps.length→(S p).length=nev ps p+1
section
variable {ps:List Pr} {l:List Syn} {bad:Nat→Nat→Bool} {S:Nat→List (List Int)} (hv:validF ps=true) (hl:SynOk ps l) (hG:GenX ps l S) (hW:WhlX ps S)
include hv hl hG hW
theorem ctl_stop {c:Nat→Nat} (hr:∀p,p<ps.length→c p≤nev ps p) (hb:∀p,p<ps.length→bad p (c p)=true)
  (hx:∀p q,p<ps.length→q<ps.length→q ≠ p→(stOf S q (c q)).getD p 0≤(c p:Int)):HoldX ps l bad c:=by
 refine⟨hr,hb,fun a ha i hi hd y hy => ?_⟩
 have hst:=hG.st hv hl a (c a) (by rw[hW a ha];have:=hr a ha;omega)
 have hown:=hst.own ha
 have h1:=hst.clo a ha i hi (by simp only;rw[hown];omega) y hy
 simp only at h1
 obtain⟨_,y2,_,_⟩:=dirX_ev hv hl ha hi y hy
 by_cases e:a=y.1.toNat
 ·rw[← e] at h1 ⊢
  omega
 ·have:=hx y.1.toNat a (by omega) ha e
  omega
end
def RnkX (ps:List Pr) (l:List Syn) (r:Eid→Nat):Prop:=∀p,p<ps.length→∀i,i<nev ps p→∀y ∈ dirX ps l p i,r y<r ((p:Int),(i:Int)+1)
theorem whl_of {ps:List Pr} (hv:validF ps=true) {l:List Syn} (hl:SynOk ps l) {r:Eid→Nat} (hr:RnkX ps l r) {S:Nat→List (List Int)} (hG:GenX ps l S) (hst:∀p,¬RdyX ps l S p):WhlX ps S:=by
 have key:∀(m p i:Nat),p<ps.length→i<nev ps p→r ((p:Int),(i:Int)+1)≤m→i+1<(S p).length:=fun m=>by
  induction m with
  | zero =>
   intro p i hp hi hm
   have hpos:=hG.pos p
   -- no event before this one
   have hno:∀y ∈ dirX ps l p i,False:=fun y hy=>by have:=hr p hp i hi y hy;omega
   have hi0:i=0:=by
    by_cases e:i=0
    ·exact e
    ·exfalso
     refine hno ((p:Int),(i:Int)) ?_
     unfold dirX dirE
     rw[if_pos (by omega)];simp
   subst hi0
   refine Classical.byContradiction fun hlt=>hst p ⟨hp,by omega,fun y hy => ?_⟩
   have:(S p).length - 1=0:=by omega
   rw[this] at hy
   exact(hno y hy).elim
  | succ m ih =>
   intro p i hp hi hm
   have hdep:∀y ∈ dirX ps l p i,y.2.toNat<(S y.1.toNat).length:=fun y hy=>by
    obtain⟨y1,y2,y3,y4⟩:=dirX_ev hv hl hp hi y hy
    have h1:=hr p hp i hi y hy
    obtain⟨a,b⟩:=y
    have y1:0≤a:=y1
    have y2:a<ps.length:=y2
    have y3:1≤b:=y3
    have y4:b≤nev ps a.toNat:=y4
    have h2:=ih a.toNat (b.toNat - 1) (by omega) (by omega) (by
     have e:(((a.toNat:Nat):Int),((b.toNat - 1:Nat):Int)+1)=(a,b):=by
      rw[Prod.mk.injEq];omega
     rw[e];omega)
    show b.toNat<(S a.toNat).length
    omega
   have hprev:i<(S p).length:=by
    by_cases e:i=0
    ·have:=hG.pos p;omega
    ·have:=hdep ((p:Int),(i:Int)) (by unfold dirX dirE;rw[if_pos (by omega)];simp)
     simp only[Int.toNat_natCast] at this
     exact this
   refine Classical.byContradiction fun hlt=>hst p ⟨hp,by omega,fun y hy => ?_⟩
   have:(S p).length - 1=i:=by omega
   rw[this] at hy
   exact hdep y hy
 intro p hp
 have h1:=hG.top p
 have h2:=hG.pos p
 by_cases h0:nev ps p=0
 ·omega
 ·have:=key _ p (nev ps p - 1) hp (by omega) (Nat.le_refl _)
  omega
theorem RnkX.sub {ps:List Pr} {l l':List Syn} {r:Eid→Nat} (h:RnkX ps l r) (hs:∀s ∈ l',s ∈ l):RnkX ps l' r:=fun p hp i hi y hy=>by
 refine h p hp i hi y ?_
 unfold dirX at hy ⊢
 rcases List.mem_append.1 hy with hy|hy
 ·exact List.mem_append_left _ hy
 ·obtain⟨s,h1,rfl⟩:=List.mem_map.1 hy
  obtain⟨h2,h3⟩:=List.mem_filter.1 h1
  exact List.mem_append_right _ (List.mem_map.2 ⟨s,List.mem_filter.2 ⟨hs s h2,h3⟩,rfl⟩)
theorem SynOk.sub {ps:List Pr} {l l':List Syn} (h:SynOk ps l) (hs:∀s ∈ l',s ∈ l):SynOk ps l':=fun s hx=>h s (hs s hx)
end Go.AL
end
section
namespace Go.AL
open Go Go.RowKit
set_option maxRecDepth 4000
def FamS (tO tI:TypeId) (k n:Nat) (Y:Nat→List AV) (v:AV) (L:AHeap):Prop :=
 ∃Lv V Ls,L.Perm (Lv ++ famL n Ls)∧AppSt tO 1 ((List.range n).map V) v Lv∧∀q,q<n→AppSt tI k (Y q) (V q) (Ls q)
section
variable {tO tI:TypeId} {k n:Nat} {Y:Nat→List AV} {v:AV} {L:AHeap}
theorem FamS.nil (Y:Nat→List AV):FamS tO tI k 0 Y anil []:=⟨[],fun _=>anil,fun _=>[],by simp [famL],.nil,fun q h=>by omega⟩
theorem fam_more {n:Nat} {Ls:Nat→AHeap} (Lx:AHeap):(famL (n+1) (fun q=>if q=n then Lx else Ls q)).Perm (Lx ++ famL n Ls):=by
 unfold famL
 rw[List.range_succ,List.flatMap_append]
 have e:(List.range n).flatMap (fun q=>if q=n then Lx else Ls q)=(List.range n).flatMap Ls:=flatMap_ext fun q hq=>if_neg (by have:=List.mem_range.1 hq;omega)
 rw[e]
 simp only[List.flatMap_cons,List.flatMap_nil,if_true,List.append_nil]
 exact List.perm_append_comm
theorem map_more {n:Nat} {V:Nat→AV} (x:AV):(List.range (n+1)).map (fun q=>if q=n then x else V q)=(List.range n).map V ++ [x]:=by
 rw[List.range_succ,List.map_append]
 congr 1
 ·exact List.map_congr_left fun q hq=>if_neg (by have:=List.mem_range.1 hq;omega)
 ·simp
theorem FamS.snoc {V:Nat→AV} {Ls:Nat→AHeap} {x v':AV} {Lx Lv' L':AHeap} (hF:∀q,q<n→AppSt tI k (Y q) (V q) (Ls q)) (hx:AppSt tI k (Y n) x Lx) (hA:AppSt tO 1 ((List.range n).map V ++ [x]) v' Lv') (hp:L'.Perm (Lv' ++ (Lx ++ famL n Ls))):FamS tO tI k (n+1) Y v' L':=by
 refine⟨Lv',fun q=>if q=n then x else V q,fun q=>if q=n then Lx else Ls q,hp.trans (List.Perm.append_left _ (fam_more Lx).symm),?_,fun q hq => ?_⟩
 ·rw[map_more];exact hA
 ·by_cases e:q=n
  ·subst e;dsimp only;rw[if_pos rfl,if_pos rfl];exact hx
  ·dsimp only;rw[if_neg e,if_neg e];exact hF q (by omega)
theorem FamS.congr {Y':Nat→List AV} (h:FamS tO tI k n Y v L) (e:∀q,q<n→Y' q=Y q):FamS tO tI k n Y' v L:=by
 obtain⟨Lv,V,Ls,h1,h2,h3⟩:=h
 exact⟨Lv,V,Ls,h1,h2,fun q hq=>by rw[e q hq];exact h3 q hq⟩
theorem FamS.perm {L':AHeap} (h:FamS tO tI k n Y v L) (hp:L'.Perm L):FamS tO tI k n Y v L':=by
 obtain⟨Lv,V,Ls,h1,h2,h3⟩:=h
 exact⟨Lv,V,Ls,hp.trans h1,h2,h3⟩
theorem FamS.open (h:FamS tO tI k n Y v L) {p:Nat} (hp:p<n) :
  ∃bo cap V Ls,v = .ls bo 1 0 n cap∧L.Perm ((bo,.row tO 1 ((List.range n).map V) cap) :: (Ls p ++ famR n p Ls))∧AppSt tI k (Y p) (V p) (Ls p) ∧
   ∀(Y':Nat→List AV) (x:AV) (Lp L':AHeap),(∀q,q ≠ p→Y' q=Y q)→AppSt tI k (Y' p) x Lp→L'.Perm ((bo,.row tO 1 (((List.range n).map V).set p x) cap) :: (Lp ++ famR n p Ls))→FamS tO tI k n Y' v L':=by
 obtain⟨Lv,V,Ls,h1,h2,h3⟩:=h
 rcases h2.inv with ⟨e1,_,_⟩|⟨bo,cap,e2,e3⟩
 ·have h0:n=0:=by have:=congrArg List.length e1;simpa using this
  omega
 ·have hlen:((List.range n).map V).length=n:=by simp
  rw[hlen] at e2
  subst e3
  refine⟨bo,cap,V,Ls,e2,h1.trans ((fam_split hp Ls).cons _),h3 p hp,fun Y' x Lp L' hY hx hL => ?_⟩
  refine⟨[(bo,.row tO 1 (((List.range n).map V).set p x) cap)],fun q=>if q=p then x else V q,fun q=>if q=p then Lp else Ls q,?_,?_,fun q hq => ?_⟩
  ·refine hL.trans (List.Perm.cons _ ?_)
   have hsp:=fam_split hp (fun q=>if q=p then Lp else Ls q)
   rw[if_pos rfl,famR_congr (Ls:=Ls) (fun q hq=>if_neg hq)] at hsp
   exact hsp.symm
  ·rw[← map_range_set,e2]
   have:=AppSt.row (t:=tO) (k:=1) bo (((List.range n).map V).set p x) cap
   rwa [List.length_set,hlen] at this
  ·by_cases e:q=p
   ·subst e;dsimp only;rw[if_pos rfl,if_pos rfl];exact hx
   ·dsimp only;rw[if_neg e,if_neg e,hY q e];exact h3 q hq
end
theorem nd1 {b:Nat} {x:ABlk} {r:AHeap} (h:(((b,x) :: r:AHeap).map (·.1)).Nodup):∀z ∈ r,¬b=z.1∧¬z.1=b:=by
 simp only[List.map_cons,List.nodup_cons,List.mem_map,not_exists,not_and] at h
 exact fun z hz=>⟨fun e=>h.1 z hz e.symm,h.1 z hz⟩
def dirK (ps:List Pr) (l:List Syn) (q:Nat):List Eid:=match (evIds ps)[q]? with|some x=>dirX ps l x.1.1.toNat (x.1.2.toNat - 1)|none=>[]
theorem dirK_at {ps:List Pr} {l:List Syn} {p i:Nat} (hp:p<ps.length) (hi:i<ps[p].evs.length):dirK ps l (off ps p+i)=dirX ps l p i:=by
 unfold dirK
 rw[evIds_get hp hi]
 show dirX ps l ((p:Int)).toNat (((i:Int)+1).toNat - 1)=_
 rw[Int.toNat_natCast,show ((i:Int)+1).toNat - 1=i by omega]
theorem chn_cons {ps:List Pr} {a b:List Int} {r:List (List Int)} (ha:isF ps a=true):chnF ps a (b :: r)=true↔∃q:Nat,q<ps.length∧rdyF ps a q=true∧b=stpC a q∧stepF a b=q∧chnF ps b r=true:=by
 have hl:=(isF_iff.1 ha).1
 have e:chnF ps a (b :: r)=((isF ps b && decide (0≤stepF a b)) && chnF ps b r):=rfl
 rw[e,Bool.and_eq_true,Bool.and_eq_true,decide_eq_true_eq]
 constructor
 ·rintro⟨⟨h1,h2⟩,h3⟩
  have h4:=stpP_step (b:=b) ha
  rw[if_pos ⟨h1,h2⟩] at h4
  obtain⟨g1,g2,g3⟩:=(stpP_some hl).1 h4
  exact⟨_,g1,g2,g3,by omega,h3⟩
 ·rintro⟨q,h1,h2,h3,h4,h5⟩
  exact⟨⟨by rw[h3];exact rdy_is h2,by omega⟩,h5⟩
theorem isrun_mk {ps:List Pr} {R:List (List Int)} (h:chnF ps (zeroC ps) R=true) (hl:(zeroC ps :: R).getLast?=some (fullC ps)):isRunF ps (zeroC ps :: R)=true:=by
 show (decide (zeroC ps=zeroC ps∧(zeroC ps :: R).getLast?=some (fullC ps)) && chnF ps (zeroC ps) R)=true
 rw[decide_eq_true ⟨rfl,hl⟩,h];rfl
theorem wlk_chn {ps:List Pr} {perm:List Int→Bool} : ∀ {n:Nat} {c:List Int} {R:List (List Int)},isF ps c=true→wlkR ps perm n c=some R→chnF ps c R=true∧R.length=n
 | 0,c,R,hc,h=>by
  have:R=[]:=(Option.some.inj h).symm
  subst this;exact⟨rfl,rfl⟩
 | n+1,c,R,hc,h=>by
  rw[wlkR_succ] at h
  cases hf:firstP ps perm c with
  | none=>rw[hf] at h;cases h
  | some p =>
   rw[hf] at h
   simp only at h
   cases hs:wlkR ps perm n (stpC c p) with
   | none=>rw[hs] at h;cases h
   | some R' =>
    rw[hs] at h
    have hR:R=stpC c p :: R':=(Option.some.inj h).symm
    subst hR
    obtain⟨a1,a2,_⟩:=firstP_some hf
    obtain⟨i1,i2⟩:=wlk_chn (rdy_is a2) hs
    have hl:=(isF_iff.1 hc).1
    exact⟨(chn_cons hc).2 ⟨p,by omega,a2,rfl,stepF_iff.2 ⟨a1,rfl⟩,i1⟩,by rw[List.length_cons,i2]⟩
theorem chn_app {ps:List Pr} : ∀ {R S:List (List Int)} {c d:List Int},(c :: R).getLast?=some d→chnF ps c R=true→chnF ps d S=true→chnF ps c (R ++ S)=true
 | [],S,c,d,h,_,h2=>by
  have:c=d:=Option.some.inj h
  subst this;exact h2
 | b :: R,S,c,d,h,h1,h2=>by
  have e:chnF ps c (b :: R)=((isF ps b && decide (0≤stepF c b)) && chnF ps b R):=rfl
  have e2:chnF ps c (b :: R ++ S)=((isF ps b && decide (0≤stepF c b)) && chnF ps b (R ++ S)):=rfl
  rw[e,Bool.and_eq_true] at h1
  rw[e2,h1.1,Bool.true_and]
  rw[List.getLast?_cons_cons] at h
  exact chn_app h h1.2 h2
theorem chn_get {ps:List Pr} : ∀ {R:List (List Int)} {c:List Int},isF ps c=true→chnF ps c R=true→(evtG c R).length=R.length∧∀(i:Nat) (hi:i<(evtG c R).length) (hi2:i+1<(c :: R).length),
  ∃p:Nat,p<ps.length∧isF ps (c :: R)[i]=true∧rdyF ps (c :: R)[i] p=true∧(c :: R)[i+1]=stpC (c :: R)[i] p∧(evtG c R)[i]=((p:Int),cAt (c :: R)[i] p+1)
 | [],c,hc,h=>⟨rfl,fun i hi=>by cases hi⟩
 | b :: R,c,hc,h=>by
  obtain⟨q,h1,h2,rfl,h4,h5⟩:=(chn_cons hc).1 h
  have hl:=(isF_iff.1 hc).1
  have e:evtG c (stpC c q :: R)=(stepF c (stpC c q),cAt (stpC c q) (stepF c (stpC c q))) :: evtG (stpC c q) R:=rfl
  obtain⟨i1,i2⟩:=chn_get (rdy_is h2) h5
  refine⟨by rw[e,List.length_cons,List.length_cons,i1],fun i hi hi2 => ?_⟩
  cases i with
  | zero =>
   refine⟨q,h1,hc,h2,rfl,?_⟩
   show (stepF c (stpC c q),cAt (stpC c q) (stepF c (stpC c q)))=_
   rw[h4,cAt_stp (by omega),if_pos rfl]
   rfl
  | succ i =>
   have hi':i<(evtG (stpC c q) R).length:=by rw[e,List.length_cons] at hi;omega
   exact i2 i hi' (by rw[List.length_cons] at hi2;omega)
theorem chn_mono {ps:List Pr} {R:List (List Int)} {c:List Int} (hc:isF ps c=true) (h:chnF ps c R=true) {i:Nat} (hi:i<(c :: R).length):∀(m:Nat) (hj:i+m<(c :: R).length),∀q:Nat,q<ps.length→cAt (c :: R)[i] q≤cAt (c :: R)[i+m] q
 | 0,hj,q,hq=>Int.le_refl _
 | m+1,hj,q,hq=>by
  obtain⟨g1,g2⟩:=chn_get hc h
  have hj1:i+m+1<(c :: R).length:=hj
  obtain⟨p,a1,a2,a3,a4,a5⟩:=g2 (i+m) (by rw[g1];rw[List.length_cons] at hj;omega) hj1
  have ih:=chn_mono hc h hi m (by omega) q hq
  have e:(c :: R)[i+(m+1)]=stpC (c :: R)[i+m] p:=a4
  rw[e,cAt_stp (by rw[(isF_iff.1 a2).1];exact hq)]
  split <;> omega
end Go.AL
end
section
namespace Go.AL
open Go Go.RowKit
section
variable {α:Type} (bg:α→α→Bool) (len:Nat→Nat) (f:Nat→Nat→α) (n:Nat)
def Tgt (t:Nat→Nat):Prop:=(∀p,p<n→t p<len p)∧∀p q,p<n→q<n→p ≠ q→bg (f p (t p)) (f q (t q))=true
def MonB:Prop:=∀p i j,p<n→i≤j→j<len p→∀o,bg (f p j) o=true→bg (f p i) o=true
def LeastT (a:Nat→Nat):Prop:=Tgt bg len f n a∧∀t,Tgt bg len f n t→∀p,p<n→a p≤t p
variable {bg len f n}
theorem tgt_step (hm:MonB bg len f n) {a:Nat→Nat} (ha:∀t,Tgt bg len f n t→∀p,p<n→a p≤t p) {p q:Nat} (hp:p<n) (hq:q<n) (hpq:p ≠ q) (h:bg (f p (a p)) (f q (a q))=false) :
  ∀t,Tgt bg len f n t→∀r,r<n→(if r=q then a q+1 else a r)≤t r:=fun t ht r hr=>by
 have h1:=ha t ht
 split
 ·rename_i e
  subst e
  have h2:=h1 r hr
  by_cases e:a r=t r
  ·exfalso
   have h3:=ht.2 p r hp hr hpq
   have h4:=hm p (a p) (t p) hp (h1 p hp) (ht.1 p hp) _ h3
   rw[← e,h] at h4;cases h4
  ·omega
 ·exact h1 r hr
theorem tgt_none {a:Nat→Nat} (ha:∀t,Tgt bg len f n t→∀p,p<n→a p≤t p) {p:Nat} (hp:p<n) (h:len p≤a p):¬ ∃t,Tgt bg len f n t:=fun ⟨t,ht⟩=>by
 have h1:=ha t ht p hp
 have h2:=ht.1 p hp
 omega
end
end Go.AL
end
section
namespace Go.AL
open Go Go.RowKit
set_option maxRecDepth 4000
section
variable {b:Nat→Bool} {p:Nat}
end
structure SpOk (b:Nat→Bool) (p K:Nat) (l:List Stp):Prop where
 el:∀s ∈ l,s.1=p∧s.2.1≤s.2.2∧s.2.2<K∧∀j,s.2.1≤j→j≤s.2.2→b j=true
 ord:l.Pairwise fun s u=>s.2.2+1<u.2.1
 cov:∀j,j<K→b j=true→∃s ∈ l,s.2.1≤j∧j≤s.2.2
section
variable {b:Nat→Bool} {p K:Nat} {l:List Stp}
theorem SpOk.lt (h:SpOk b p K l) {i j:Nat} (hj:j<l.length) (hij:i<j):(l[i]'(by omega)).2.2+1<l[j].2.1:=List.pairwise_iff_getElem.1 h.ord i j (by omega) hj hij
end
def bgN (ps:List Pr) (a o:Stp):Bool:=decide (a.2.1=0) || (decide (o.2.2=nev ps o.1) || decide ((a.2.1:Int)≤cAt (ptF ps o.1 o.2.2) a.1))
def fSp (rows:Nat→List Stp) (p i:Nat):Stp:=(rows p).getD i (0,0,0)
def lenSp (rows:Nat→List Stp) (p:Nat):Nat:=(rows p).length
abbrev TgtS (ps:List Pr) (rows:Nat→List Stp) (t:Nat→Nat):Prop:=Tgt (bgN ps) (lenSp rows) (fSp rows) ps.length t
abbrev LeastS (ps:List Pr) (rows:Nat→List Stp) (t:Nat→Nat):Prop:=LeastT (bgN ps) (lenSp rows) (fSp rows) ps.length t
def RowsOk (ps:List Pr) (b:Nat→Nat→Bool) (rows:Nat→List Stp):Prop:=∀p,p<ps.length→SpOk (b p) p (nev ps p+1) (rows p)
theorem fSp_eq {rows:Nat→List Stp} {p i:Nat} (h:i<(rows p).length):fSp rows p i=(rows p)[i]:=by
 unfold fSp;rw[List.getD_eq_getElem?_getD,List.getElem?_eq_getElem h,Option.getD_some]
def AvoidC (ps:List Pr) (b:Nat→Nat→Bool) (c:List Int):Prop:=∃p,p<ps.length∧b p (cAt c p).toNat=false
section
variable {ps:List Pr} (hv:validF ps=true)
include hv
theorem pt_self {a i:Nat} (ha:a<ps.length) (hi:i<nev ps a):cAt (ptF ps a i) a=(i:Int)+1:=(irr_pt hv ha (by rw[nev_get ha] at hi;exact hi)).2.1
theorem pt_isN {a i:Nat} (ha:a<ps.length) (hi:i<nev ps a):isF ps (ptF ps a i)=true:=pt_is hv ha (by rw[nev_get ha] at hi;exact hi)
end
section
variable {ps:List Pr} {b:Nat→Nat→Bool} {rows:Nat→List Stp} (hv:validF ps=true) (hR:RowsOk ps b rows)
include hR
theorem mon_rows:MonB (bgN ps) (lenSp rows) (fSp rows) ps.length:=fun p i j hp hij hj o h=>by
 have hj:j<(rows p).length:=hj
 rw[fSp_eq hj] at h
 rw[fSp_eq (show i<(rows p).length by omega)]
 have e1:=((hR p hp).el _ (List.getElem_mem hj))
 have e2:=((hR p hp).el _ (List.getElem_mem (show i<(rows p).length by omega)))
 have e3:(rows p)[i].2.1≤(rows p)[j].2.1:=by
  rcases Nat.lt_or_eq_of_le hij with e|e
  ·have:=(hR p hp).lt hj e
   omega
  ·subst e;exact Nat.le_refl _
 unfold bgN at h ⊢
 rw[e2.1]
 rw[e1.1] at h
 simp only[Bool.or_eq_true,decide_eq_true_eq] at h ⊢
 rcases h with h|h|h
 ·exact .inl (by omega)
 ·exact .inr (.inl h)
 ·exact .inr (.inr (by omega))
end
end Go.AL
end
