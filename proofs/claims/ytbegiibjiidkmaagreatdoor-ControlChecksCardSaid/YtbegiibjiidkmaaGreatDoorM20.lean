/- Texts of this claim's proof: WV18, WV9, WV14, WXr, WV20, WV21, WV22, WV23, WV24, WU9, WU10, WU12, WU13, WQe, WXg, WU14, WV25, WV27, WSg, WY1, WY2, WY3. No condition. -/
import Derived.Test.YtbegiibjiidkmaaGreatDoorM19
import Derived.Test.YtbegiibjiidkmaaGreatDoorM13
import Derived.Test.YtbegiibjiidkmaaGreatDoorM9
import Derived.Test.YtbegiibjiidkmaaGreatDoorM17
import Derived.Test.YtbegiibjiidkmaaGreatDoorM18
import Derived.Test.YtbegiibjiidkmaaGreatDoorM10
section
namespace Go.AL
open Go Go.RowKit Proofs.Tryz
set_option maxRecDepth 4000
theorem spans_equal (a b:List Spn3)(ha:a.length<=1000000):PC prog 23 [aSps a,aSps b] (ab (decide (a=b))):=by
 have haE:∀l:List Spn3,aSps l = .sl 3 (l.map aSp):=fun _=>rfl
 rw[haE,haE]
 refine PE 26 [.tmp 4] [] func23 ?_;simp only[go_sem]
 refine Wk ?_
 constructor<;>intro h1
 ·refine Wk ?_
  refine Rq ?_
  congr 2;symm;apply decide_eq_false;rintro rfl;exact h1 rfl
 ·have hab:a.length=b.length:=by omega
  refine Sd ?_
  refine Ao ?_
  refine AWp.range' a.length [] [0,1,12] (fun k vs L=>L=[]/\∀(i:Nat) (hi:i<a.length),i<k->a[i]=b[i]) (by omega) rfl rfl rfl ⟨rfl,by omega⟩ ?_ ?_
  ·rintro k vs L' hk - ⟨rfl,hI⟩
   have hkb:k<b.length:=by omega
   have ga:=getD_map (f:=aSp) hk
   have gb:=getD_map (f:=aSp) hkb
   obtain⟨x1,x2,x3,hx⟩:∃x1 x2 x3,a[k]=(x1,x2,x3):=⟨_,_,_,rfl⟩
   obtain⟨y1,y2,y3,hy⟩:∃y1 y2 y3,b[k]=(y1,y2,y3):=⟨_,_,_,rfl⟩
   rw[hx] at ga
   rw[hy] at gb
   change _=AV.agg [ai x1,ai x2,ai x3] at ga
   change _=AV.agg [ai y1,ai y2,ai y3] at gb
   have hxy:a[k]=b[k]↔(x1=y1/\x2=y2)/\x3=y3:=by rw[hx,hy];exact⟨fun h=>by cases h;exact⟨⟨rfl,rfl⟩,rfl⟩,fun h=>by rw[h.1.1,h.1.2,h.2]⟩
   simp only[go_sem]
   refine Wk ?_
   refine Sq ?_
   refine AWp.read mixed [0,1,2,3,4,5,6,7,8] (by kernel_rfl) ?_;simp only[go_sem,ga,gb]
   refine Sd ?_
   by_cases he:(x1=y1/\x2=y2)/\x3=y3
   ·have hst:∀(i:Nat) (hi:i<a.length),i<k+1->a[i]=b[i]:=fun i hi hik=>by
     by_cases e:i=k
     ·subst e;exact hxy.2 he
     ·exact hI i hi (by omega)
    obtain⟨⟨rfl,rfl⟩,rfl⟩:=he
    refine Wk ?_
    exact⟨_,.refl _,rfl,hst⟩
   ·have hne:¬a=b:=fun e=>he (hxy.1 (by subst e;rfl))
    rw[decide_eq_false hne]
    have hd:(decide (x1=y1) && (decide (x2=y2) && decide (x3=y3)))=false:=by rw[<- Bool.decide_and,<- Bool.decide_and];exact decide_eq_false fun h=>he ⟨⟨h.1,h.2.1⟩,h.2.2⟩
    rw[hd]
    refine Wk ?_
    exact Rz
  ·rintro vs L' - ⟨rfl,hI⟩
   simp only[go_sem]
   refine Wk ?_
   refine Rq ?_
   congr 2;symm;apply decide_eq_true
   exact List.ext_getElem hab fun i hi _=>hI i hi hi
theorem evtG_len:∀(R:List (List Int)) (c:List Int),(evtG c R).length=R.length
 | [],_=>rfl
 | b :: R,c=>by
  show (evtG b R).length+1=_
  rw[evtG_len R b];rfl
section
variable {b:Nat->Bool} {p K:Nat} {l:List Stp}
end
section
variable {ps:List Pr} {ts:List Pd} (hC:conF ps ts=0)
include hC
end
structure TgB (ps:List Pr)(s:Nat->Stp):Prop where
 el:∀p,p<ps.length->(s p).2.1<=(s p).2.2/\(s p).2.2<=nev ps p/\(s p).1=p
 bg:∀p q,p<ps.length->q<ps.length->p ≠ q->bgN ps (s p) (s q)=true
theorem cut_at {ps:List Pr}{c:List Int}(hc:isF ps c=true){p:Nat}(hp:p<ps.length):0<=cAt c p/\cAt c p<=nev ps p:=by
 rw[nev_get hp]
 exact(inRange_iff (isF_iff.1 hc).1).1 (isF_iff.1 hc).2.1 p hp
section
variable {ps:List Pr} (hv:validF ps=true) {s:Nat->Stp} (hT:TgB ps s)
include hv hT
end
abbrev Syn:=Eid × Eid
def dirE (ps:List Pr)(p i:Nat):List Eid:=(if 0<i then [((p:Int),(i:Int))] else []) ++ (if (evq ps p i).kind=3 then [sndr ps (evq ps p i).msg] else [])
def dirX (ps:List Pr)(l:List Syn)(p i:Nat):List Eid:=dirE ps p i ++ (l.filter fun s=>decide (s.2=((p:Int),(i:Int)+1))).map (·.1)
def nedX (S:Nat->List (List Int))(y:Eid):List Int:=stOf S y.1.toNat y.2.toNat
def RdyX (ps:List Pr)(l:List Syn)(S:Nat->List (List Int))(p:Nat):Prop :=
 p<ps.length/\(S p).length<=nev ps p/\∀y ∈ dirX ps l p ((S p).length - 1),y.2.toNat<(S y.1.toNat).length
def vecX (ps:List Pr)(l:List Syn)(S:Nat->List (List Int))(p k:Nat):List Int:=((dirX ps l p (k - 1)).foldl (fun v y=>joinL v (nedX S y)) (List.replicate ps.length 0)).set p (k:Int)
inductive GenX (ps:List Pr)(l:List Syn):(Nat->List (List Int))->Prop
 | init:GenX ps l fun _=>[List.replicate ps.length 0]
 | step {S:Nat->List (List Int)} {p:Nat} : GenX ps l S->RdyX ps l S p->GenX ps l (upS S p (vecX ps l S p (S p).length))
section
variable {ps:List Pr} {l:List Syn} {S S':Nat->List (List Int)}
theorem GenX.pos (h:GenX ps l S):∀p,1<=(S p).length:=by
 induction h with
 | init=>intro p;simp
 | @step S r h hr ih=>intro p;exact Nat.le_trans (ih p) (upS_le S r _ p)
theorem GenX.zero (h:GenX ps l S):∀p,stOf S p 0=List.replicate ps.length 0:=by
 induction h with
 | init=>intro p;rfl
 | @step S r h hr ih=>intro p;rw[upS_old (h.pos p)];exact ih p
theorem GenX.top (h:GenX ps l S):∀p,(S p).length<=nev ps p+1:=by
 induction h with
 | init=>intro p;simp
 | @step S r h hr ih =>
  intro p
  rw[upS_len]
  split
  ·rename_i e;subst e;have:=hr.2.1;omega
  ·exact ih p
theorem vecX_congr {p k:Nat}(h:∀y ∈ dirX ps l p (k - 1),nedX S' y=nedX S y):vecX ps l S' p k=vecX ps l S p k:=by
 unfold vecX
 generalize dirX ps l p (k - 1)=D at *
 generalize List.replicate ps.length (0:Int)=v
 congr 1
 induction D generalizing v with
 | nil=>rfl
 | cons y D ih =>
  rw[List.foldl_cons,List.foldl_cons,h y (by simp)]
  exact ih (fun z hz=>h z (List.mem_cons_of_mem _ hz)) _
theorem GenX.entry (h:GenX ps l S):∀p k,1<=k->k<(S p).length->p<ps.length/\k<=nev ps p/\(∀y ∈ dirX ps l p (k - 1),y.2.toNat<(S y.1.toNat).length)/\stOf S p k=vecX ps l S p k:=by
 induction h with
 | init=>intro p k h1 h2;simp at h2;omega
 | @step S r h hr ih =>
  intro p k h1 h2
  have hlt:∀y:Eid,y.2.toNat<(S y.1.toNat).length->y.2.toNat<(upS S r (vecX ps l S r (S r).length) y.1.toNat).length:=fun y hy=>Nat.lt_of_lt_of_le hy (upS_le S r _ _)
  have hold:∀y:Eid,y.2.toNat<(S y.1.toNat).length->nedX (upS S r (vecX ps l S r (S r).length)) y=nedX S y:=fun y hy=>upS_old hy
  by_cases hk:k<(S p).length
  ·obtain⟨a1,a2,a3,a4⟩:=ih p k h1 hk
   refine⟨a1,a2,fun y hy=>hlt y (a3 y hy),?_⟩
   rw[upS_old hk,a4]
   exact(vecX_congr fun y hy=>hold y (a3 y hy)).symm
  ·rw[upS_len] at h2
   by_cases e:p=r
   ·subst e
    rw[if_pos rfl] at h2
    have hke:k=(S p).length:=by omega
    subst hke
    refine⟨hr.1,hr.2.1,fun y hy=>hlt y (hr.2.2 y hy),?_⟩
    rw[upS_new]
    exact(vecX_congr fun y hy=>hold y (hr.2.2 y hy)).symm
   ·rw[if_neg e] at h2;omega
theorem GenX.agree (h:GenX ps l S)(h':GenX ps l S'):∀p k,k<(S p).length->k<(S' p).length->stOf S p k=stOf S' p k:=by
 induction h with
 | init =>
  intro p k h1 h2
  have:k=0:=by simp at h1;omega
  subst this
  rw[h'.zero];rfl
 | @step S r h hr ih =>
  intro p k h1 h2
  by_cases hk:k<(S p).length
  ·rw[upS_old hk];exact ih p k hk h2
  ·rw[upS_len] at h1
   by_cases e:p=r
   ·subst e
    rw[if_pos rfl] at h1
    have hke:k=(S p).length:=by omega
    subst hke
    obtain⟨_,_,a3,a4⟩:=h'.entry p _ (h.pos p) h2
    rw[upS_new,a4]
    exact(vecX_congr fun y hy=>(ih _ _ (hr.2.2 y hy) (a3 y hy)).symm).symm
   ·rw[if_neg e] at h1;omega
theorem GenX.under (h:GenX ps l S)(h':GenX ps l S')(hst:∀p,¬RdyX ps l S' p):∀p,(S p).length<=(S' p).length:=by
 induction h with
 | init=>intro p;have:=h'.pos p;simpa using this
 | @step S r h hr ih =>
  intro p
  rw[upS_len]
  split
  ·rename_i e
   subst e
   refine Nat.lt_of_le_of_ne (ih p) fun e=>hst p ⟨hr.1,by have:=hr.2.1;omega,fun y hy=>?_⟩
   rw[<- e] at hy
   exact Nat.lt_of_lt_of_le (hr.2.2 y hy) (ih _)
  ·exact ih p
theorem GenX.uniq (h:GenX ps l S)(hs:∀p,¬RdyX ps l S p)(h':GenX ps l S')(hs':∀p,¬RdyX ps l S' p):S=S':=by
 funext p
 have e:(S p).length=(S' p).length:=Nat.le_antisymm (h.under h' hs' p) (h'.under h hs p)
 refine List.ext_getElem e fun k h1 h2=>?_
 have:=h.agree h' p k h1 h2
 unfold stOf at this
 rwa [List.getD_eq_getElem?_getD,List.getElem?_eq_getElem h1,List.getD_eq_getElem?_getD,List.getElem?_eq_getElem h2] at this
end
open Classical in
noncomputable def exF (ps:List Pr)(l:List Syn):Nat->List (List Int):=if h:∃S,GenX ps l S/\∀p,¬RdyX ps l S p then Classical.choose h else fun _=>[]
theorem exF_eq {ps:List Pr}{l:List Syn}{S:Nat->List (List Int)}(h:GenX ps l S)(hs:∀p,¬RdyX ps l S p):exF ps l=S:=by
 have hx:∃S,GenX ps l S/\∀p,¬RdyX ps l S p:=⟨S,h,hs⟩
 unfold exF
 rw[dif_pos hx]
 exact(Classical.choose_spec hx).1.uniq (Classical.choose_spec hx).2 h hs
def CloX (ps:List Pr)(l:List Syn)(d:Nat->Int):Prop:=∀a,a<ps.length->∀i,i<nev ps a->(i:Int)+1<=d a->∀y ∈ dirX ps l a i,y.2<=d y.1.toNat
def SynOk (ps:List Pr)(l:List Syn):Prop:=∀s ∈ l,(0<=s.1.1/\s.1.1<ps.length/\1<=s.1.2/\s.1.2<=nev ps s.1.1.toNat)/\(0<=s.2.1/\s.2.1<ps.length/\1<=s.2.2/\s.2.2<=nev ps s.2.1.toNat)
theorem dirX_ev {ps:List Pr}(hv:validF ps=true){l:List Syn}(hl:SynOk ps l){p i:Nat}(hp:p<ps.length)(hi:i<nev ps p):∀y ∈ dirX ps l p i,0<=y.1/\y.1<ps.length/\1<=y.2/\y.2<=nev ps y.1.toNat:=fun y hy=>by
 unfold dirX dirE at hy
 rw[List.mem_append,List.mem_append] at hy
 rcases hy with (hy|hy)|hy
 ·split at hy
  ·rw[List.mem_singleton] at hy
   subst hy
   simp only[Int.toNat_natCast]
   omega
  ·cases hy
 ·split at hy
  ·rename_i hk
   rw[List.mem_singleton] at hy
   subst hy
   have hn:=nev_get hp
   rw[evq_get hp (by omega)] at hk ⊢
   obtain⟨q,hq,j,hj,e,_⟩:=sndr_some (recv_sndr (valid_parts hv).2.2 hp (by omega) hk)
   rw[e]
   have:=nev_get hq
   simp only[Int.toNat_natCast]
   omega
  ·cases hy
 ·obtain⟨s,hs,rfl⟩:=List.mem_map.1 hy
  exact(hl s (List.mem_filter.1 hs).1).1
structure StX (ps:List Pr)(l:List Syn)(S:Nat->List (List Int))(p k:Nat):Prop where
 len:(stOf S p k).length=ps.length
 own:p<ps.length->(stOf S p k).getD p 0=(k:Int)
 le:∀j,(stOf S p k).getD j 0<(S j).length
 nn:∀j,0<=(stOf S p k).getD j 0
 clo:CloX ps l fun j=>(stOf S p k).getD j 0
 least:∀d:Nat->Int,CloX ps l d->(∀j,0<=d j)->(k:Int)<=d p->∀j,(stOf S p k).getD j 0<=d j
structure JnX (ps:List Pr)(l:List Syn)(S:Nat->List (List Int))(D:List Eid)(v:List Int):Prop where
 len:v.length=ps.length
 le:∀j,v.getD j 0<(S j).length
 nn:∀j,0<=v.getD j 0
 clo:CloX ps l fun j=>v.getD j 0
 has:∀y ∈ D,y.2<=v.getD y.1.toNat 0
 least:∀d:Nat->Int,CloX ps l d->(∀j,0<=d j)->(∀y ∈ D,y.2<=d y.1.toNat)->∀j,v.getD j 0<=d j
theorem joinL_getD {v w:List Int}(h:v.length=w.length)(j:Nat):(joinL v w).getD j 0=if v.getD j 0<w.getD j 0 then w.getD j 0 else v.getD j 0:=by
 by_cases hj:j<v.length
 ·have:=join_cAt h hj
  unfold cAt at this
  rw[Int.toNat_natCast] at this
  exact this
 ·have h1:=join_len h
  rw[List.getD_eq_getElem?_getD,List.getElem?_eq_none (by omega),List.getD_eq_getElem?_getD,List.getElem?_eq_none (by omega),List.getD_eq_getElem?_getD,List.getElem?_eq_none (by omega)]
  simp
theorem JnX.add {ps:List Pr}{l:List Syn}{S:Nat->List (List Int)}{D:List Eid}{v:List Int}(h:JnX ps l S D v){y:Eid}(hy:StX ps l S y.1.toNat y.2.toNat)(hp:y.1.toNat<ps.length)(h0:0<=y.2):JnX ps l S (D ++ [y]) (joinL v (nedX S y)):=by
 have hl:v.length=(nedX S y).length:=by rw[h.len];exact hy.len.symm
 have hg:=joinL_getD hl
 have hown:=hy.own hp
 refine⟨by rw[join_len hl,h.len],fun j=>?_,fun j=>?_,fun a ha i hi hd z hz=>?_,fun z hz=>?_,fun d h1 h2 h3 j=>?_⟩
 ·rw[hg];have:=h.le j;have:=hy.le j;unfold nedX;split <;> omega
 ·rw[hg];have:=h.nn j;have:=hy.nn j;unfold nedX;split <;> omega
 ·simp only[hg] at hd ⊢
  have c1:=h.clo a ha i hi
  have c2:=hy.clo a ha i hi
  unfold nedX at hd ⊢
  simp only at c1 c2
  split at hd
  ·have:=c2 hd z hz;split <;> omega
  ·have:=c1 hd z hz;split <;> omega
 ·rw[hg]
  rcases List.mem_append.1 hz with hz|hz
  ·have:=h.has z hz;split <;> omega
  ·rw[List.mem_singleton] at hz
   subst hz
   unfold nedX
   rw[hown]
   split <;> omega
 ·rw[hg]
  have c1:=h.least d h1 h2 (fun z hz=>h3 z (List.mem_append_left _ hz)) j
  have c2:=hy.least d h1 h2 (by have:=h3 y (by simp);omega) j
  unfold nedX
  split <;> omega
theorem GenX.join {ps:List Pr}{l:List Syn}{S:Nat->List (List Int)}(h0:∀p,1<=(S p).length):∀(D E:List Eid) (v:List Int),JnX ps l S E v->(∀y ∈ D,StX ps l S y.1.toNat y.2.toNat/\y.1.toNat<ps.length/\0<=y.2)->JnX ps l S (E ++ D) (D.foldl (fun v y=>joinL v (nedX S y)) v)
 | [],E,v,hv,_=>by rw[List.append_nil];exact hv
 | y :: D,E,v,hv,hD=>by
  obtain⟨a1,a2,a3⟩:=hD y (by simp)
  have:=GenX.join h0 D (E ++ [y]) _ (hv.add a1 a2 a3) fun z hz=>hD z (List.mem_cons_of_mem _ hz)
  rwa [List.append_assoc] at this
theorem getD_zeros (n j:Nat):(List.replicate n (0:Int)).getD j 0=0:=by
 rw[List.getD_eq_getElem?_getD,List.getElem?_replicate];split <;> rfl
theorem JnX.nil {ps:List Pr}{l:List Syn}{S:Nat->List (List Int)}(h0:∀p,1<=(S p).length):JnX ps l S [] (List.replicate ps.length 0):=by
 refine⟨by simp,fun j=>?_,fun j=>?_,fun a ha i hi hd=>?_,fun y hy=>(nomatch hy),fun d _ h2 _ j=>?_⟩
 ·rw[getD_zeros];have:=h0 j;omega
 ·rw[getD_zeros];omega
 ·simp only[getD_zeros] at hd;omega
 ·rw[getD_zeros];exact h2 j
theorem GenX.st {ps:List Pr}(hv:validF ps=true){l:List Syn}(hl:SynOk ps l){S:Nat->List (List Int)}(h:GenX ps l S):∀p k,k<(S p).length->StX ps l S p k:=by
 induction h with
 | init =>
  intro p k hk
  have:k=0:=by simp at hk;omega
  subst this
  show StX ps l _ p 0
  have e:stOf (fun _=>[List.replicate ps.length (0:Int)]) p 0=List.replicate ps.length 0:=rfl
  constructor
  ·rw[e];simp
  ·intro _;rw[e,getD_zeros];rfl
  ·intro j;rw[e,getD_zeros];simp
  ·intro j;rw[e,getD_zeros];omega
  ·intro a ha i hi hd;simp only[e,getD_zeros] at hd;omega
  ·intro d _ h2 _ j;rw[e,getD_zeros];exact h2 j
 | @step S r h hr ih =>
  have hle:=fun q=>upS_le S r (vecX ps l S r (S r).length) q
  intro p k hk
  by_cases hold:k<(S p).length
  ·obtain⟨a1,a2,a3,a4,a5,a6⟩:=ih p k hold
   have e:stOf (upS S r (vecX ps l S r (S r).length)) p k=stOf S p k:=upS_old hold
   constructor
   ·rw[e];exact a1
   ·rw[e];exact a2
   ·rw[e];exact fun j=>Int.lt_of_lt_of_le (a3 j) (by have:=hle j;omega)
   ·rw[e];exact a4
   ·rw[e];exact a5
   ·rw[e];exact a6
  ·have hl2:=upS_len S r (vecX ps l S r (S r).length)
   rw[hl2] at hk
   by_cases e:p=r
   ·subst e
    rw[if_pos rfl] at hk
    have hke:k=(S p).length:=by omega
    subst hke
    obtain⟨hp,htop,hdep⟩:=hr
    have hpos:=h.pos p
    have hev:=dirX_ev hv hl (p:=p) (i:=(S p).length - 1) hp (by omega)
    have hJ:=GenX.join h.pos (dirX ps l p ((S p).length - 1)) [] _ (JnX.nil (l:=l) h.pos) fun y hy=>by
     obtain⟨b1,b2,b3,b4⟩:=hev y hy
     exact⟨ih _ _ (hdep y hy),by omega,by omega⟩
    rw[List.nil_append] at hJ
    have hnew:stOf (upS S p (vecX ps l S p (S p).length)) p (S p).length=vecX ps l S p (S p).length:=upS_new
    have hvec:vecX ps l S p (S p).length=((dirX ps l p ((S p).length - 1)).foldl (fun v y=>joinL v (nedX S y)) (List.replicate ps.length 0)).set p ((S p).length:Int):=rfl
    generalize (dirX ps l p ((S p).length - 1)).foldl (fun v y=>joinL v (nedX S y)) (List.replicate ps.length 0)=v at *
    have hset:∀j,(v.set p ((S p).length:Int)).getD j 0=if p=j then ((S p).length:Int) else v.getD j 0:=fun j=>by
     rw[List.getD_eq_getElem?_getD,List.getElem?_set,List.getD_eq_getElem?_getD]
     split
     ·rw[if_pos (by rw[hJ.len];exact hp)];rfl
     ·rfl
    have hvp:v.getD p 0<((S p).length:Int):=hJ.le p
    constructor
    ·rw[hnew,hvec,List.length_set];exact hJ.len
    ·intro _;rw[hnew,hvec,hset,if_pos rfl]
    ·intro j
     rw[hnew,hvec,hset,<- hvec,hl2]
     split
     ·rename_i e;rw[if_pos e.symm];omega
     ·rename_i e;rw[if_neg fun h=>e h.symm];exact hJ.le j
    ·intro j;rw[hnew,hvec,hset];have:=hJ.nn j;split <;> omega
    ·intro a ha i hi hd z hz
     rw[hnew,hvec] at hd ⊢
     simp only[hset] at hd ⊢
     have hz2:z.2<=v.getD z.1.toNat 0:=by
      by_cases hpa:p=a
      ·subst hpa
       rw[if_pos rfl] at hd
       by_cases hlast:i=(S p).length - 1
       ·subst hlast
        exact hJ.has z hz
       ·-- an older event of the process: the process's last one needs it
        have hprev:((p:Int),(((S p).length - 1:Nat):Int)) ∈ dirX ps l p ((S p).length - 1):=by
         unfold dirX dirE
         rw[if_pos (by omega)]
         simp
        have h1:=hJ.has _ hprev
        simp only[Int.toNat_natCast] at h1
        exact hJ.clo p ha i hi (by show (i:Int)+1<=v.getD p 0;omega) z hz
      ·rw[if_neg hpa] at hd
       exact hJ.clo a ha i hi hd z hz
     split
     ·rename_i e;rw[<- e] at hz2;omega
     ·exact hz2
    ·intro d h1 h2 h3 j
     rw[hnew,hvec,hset]
     split
     ·rename_i e;subst e;exact h3
     ·refine hJ.least d h1 h2 (fun y hy=>?_) j
      refine h1 p hp ((S p).length - 1) (by omega) (by omega) y hy
   ·rw[if_neg e] at hk;omega
theorem CloX.of_isF {ps:List Pr}(hv:validF ps=true){d:List Int}(hd:isF ps d=true):CloX ps [] fun j=>d.getD j 0:=fun a ha i hi hdi y hy=>by
 obtain⟨h1,h2,h3⟩:=isF_iff.1 hd
 have hn:=nev_get ha
 unfold dirX dirE at hy
 simp only[List.filter_nil,List.map_nil,List.append_nil] at hy
 rcases List.mem_append.1 hy with hy|hy
 ·split at hy
  ·rw[List.mem_singleton] at hy
   subst hy
   simp only[Int.toNat_natCast]
   simp only at hdi
   omega
  ·cases hy
 ·split at hy
  ·rename_i hk
   rw[List.mem_singleton] at hy
   subst hy
   rw[evq_get ha (by omega)] at hk ⊢
   exact closed_iff.1 h3 a ha i (by omega) hk (by unfold cAt;rw[Int.toNat_natCast];exact hdi)
  ·cases hy
theorem isF_of_CloX {ps:List Pr}{l:List Syn}{d:List Int}(h1:d.length=ps.length)(h2:inRangeF ps d=true)(h:CloX ps l fun j=>d.getD j 0):isF ps d=true:=by
 refine isF_iff.2 ⟨h1,h2,closed_iff.2 fun p hp i hi hk hc=>?_⟩
 have hn:=nev_get hp
 unfold cAt at hc ⊢
 rw[Int.toNat_natCast] at hc
 refine h p hp i (by omega) hc _ ?_
 unfold dirX dirE
 rw[evq_get hp hi,if_pos hk]
 simp
end Go.AL
end
section
namespace Go.AL
open Go Go.RowKit Proofs.Tryz
set_option maxRecDepth 4000
structure HoldX (ps:List Pr)(l:List Syn)(bad:Nat->Nat->Bool)(d:Nat->Nat):Prop where
 rng:∀p,p<ps.length->d p<=nev ps p
 bad:∀p,p<ps.length->bad p (d p)=true
 clo:∀a,a<ps.length->∀i,i<nev ps a->i+1<=d a->∀y ∈ dirX ps l a i,y.2<=d y.1.toNat
theorem HoldX.cloX {ps:List Pr}{l:List Syn}{bad:Nat->Nat->Bool}{d:Nat->Nat}(h:HoldX ps l bad d):CloX ps l fun p=>(d p:Int):=fun a ha i hi hd y hy=>h.clo a ha i hi (by simp only at hd;omega) y hy
open Classical in
noncomputable def ctlB (ps:List Pr)(l:List Syn)(bad:Nat->Nat->Bool):Bool:=decide (¬ ∃d,HoldX ps l bad d)
open Classical in
theorem ctlB_true {ps:List Pr}{l:List Syn}{bad:Nat->Nat->Bool} : ctlB ps l bad=true↔¬ ∃d,HoldX ps l bad d:=by unfold ctlB;exact decide_eq_true_iff
def WhlX (ps:List Pr)(S:Nat->List (List Int)):Prop:=∀p,p<ps.length->(S p).length=nev ps p+1
section
variable {ps:List Pr} {l:List Syn} {bad:Nat->Nat->Bool} {S:Nat->List (List Int)} (hv:validF ps=true) (hl:SynOk ps l) (hG:GenX ps l S) (hW:WhlX ps S)
include hv hl hG hW
theorem ctl_bump {c:Nat->Nat}(hI:∀d,HoldX ps l bad d->∀p,p<ps.length->c p<=d p){p:Nat}(hp:p<ps.length)
  (h:bad p (c p)=false\/∃q,q<ps.length/\c q<=nev ps q/\(c p:Int)<(stOf S q (c q)).getD p 0):∀d,HoldX ps l bad d->c p+1<=d p:=fun d hd=>by
 have h1:=hI d hd p hp
 rcases h with h|⟨q,hq,hcq,h⟩
 ·refine Nat.lt_of_le_of_ne h1 fun e=>?_
  have:=hd.bad p hp
  rw[<- e,h] at this;cases this
 ·have hst:=hG.st hv hl q (c q) (by rw[hW q hq];omega)
  have:=hst.least _ hd.cloX (fun j=>by omega) (by have:=hI d hd q hq;omega) p
  omega
theorem ctl_stop {c:Nat->Nat}(hr:∀p,p<ps.length->c p<=nev ps p)(hb:∀p,p<ps.length->bad p (c p)=true)
  (hx:∀p q,p<ps.length->q<ps.length->q ≠ p->(stOf S q (c q)).getD p 0<=(c p:Int)):HoldX ps l bad c:=by
 refine⟨hr,hb,fun a ha i hi hd y hy=>?_⟩
 have hst:=hG.st hv hl a (c a) (by rw[hW a ha];have:=hr a ha;omega)
 have hown:=hst.own ha
 have h1:=hst.clo a ha i hi (by simp only;rw[hown];omega) y hy
 simp only at h1
 obtain⟨_,y2,_,_⟩:=dirX_ev hv hl ha hi y hy
 by_cases e:a=y.1.toNat
 ·rw[<- e] at h1 ⊢
  omega
 ·have:=hx y.1.toNat a (by omega) ha e
  omega
end
def RnkX (ps:List Pr)(l:List Syn)(r:Eid->Nat):Prop:=∀p,p<ps.length->∀i,i<nev ps p->∀y ∈ dirX ps l p i,r y<r ((p:Int),(i:Int)+1)
theorem whl_of {ps:List Pr}(hv:validF ps=true){l:List Syn}(hl:SynOk ps l){r:Eid->Nat}(hr:RnkX ps l r){S:Nat->List (List Int)}(hG:GenX ps l S)(hst:∀p,¬RdyX ps l S p):WhlX ps S:=by
 have key:∀(m p i:Nat),p<ps.length->i<nev ps p->r ((p:Int),(i:Int)+1)<=m->i+1<(S p).length:=fun m=>by
  induction m with
  | zero =>
   intro p i hp hi hm
   have hpos:=hG.pos p
   -- no event before this one
   have hno:∀y ∈ dirX ps l p i,False:=fun y hy=>by have:=hr p hp i hi y hy;omega
   have hi0:i=0:=by
    by_cases e:i=0
    ·exact e
    ·exfalso
     refine hno ((p:Int),(i:Int)) ?_
     unfold dirX dirE
     rw[if_pos (by omega)];simp
   subst hi0
   refine Classical.byContradiction fun hlt=>hst p ⟨hp,by omega,fun y hy=>?_⟩
   have:(S p).length - 1=0:=by omega
   rw[this] at hy
   exact(hno y hy).elim
  | succ m ih =>
   intro p i hp hi hm
   have hdep:∀y ∈ dirX ps l p i,y.2.toNat<(S y.1.toNat).length:=fun y hy=>by
    obtain⟨y1,y2,y3,y4⟩:=dirX_ev hv hl hp hi y hy
    have h1:=hr p hp i hi y hy
    obtain⟨a,b⟩:=y
    have y1:0<=a:=y1
    have y2:a<ps.length:=y2
    have y3:1<=b:=y3
    have y4:b<=nev ps a.toNat:=y4
    have h2:=ih a.toNat (b.toNat - 1) (by omega) (by omega) (by
     have e:(((a.toNat:Nat):Int),((b.toNat - 1:Nat):Int)+1)=(a,b):=by
      rw[Prod.mk.injEq];omega
     rw[e];omega)
    show b.toNat<(S a.toNat).length
    omega
   have hprev:i<(S p).length:=by
    by_cases e:i=0
    ·have:=hG.pos p;omega
    ·have:=hdep ((p:Int),(i:Int)) (by unfold dirX dirE;rw[if_pos (by omega)];simp)
     simp only[Int.toNat_natCast] at this
     exact this
   refine Classical.byContradiction fun hlt=>hst p ⟨hp,by omega,fun y hy=>?_⟩
   have:(S p).length - 1=i:=by omega
   rw[this] at hy
   exact hdep y hy
 intro p hp
 have h1:=hG.top p
 have h2:=hG.pos p
 by_cases h0:nev ps p=0
 ·omega
 ·have:=key _ p (nev ps p - 1) hp (by omega) (Nat.le_refl _)
  omega
end Go.AL
end
section
namespace Go.AL
open Go Go.RowKit Proofs.Tryz
set_option maxRecDepth 4000
def synL:List Eid->List Syn
 | x :: y :: r=>(if x.1 ≠ y.1 then [(x,y)] else []) ++ synL (y :: r)
 | _=>[]
theorem synL_mem {s:Syn} : ∀ {es:List Eid},s ∈ synL es↔s.1.1 ≠ s.2.1/\∃(j:Nat) (h:j+1<es.length),s=(es[j],es[j+1])
 | []=>by
  constructor
  ·intro h;cases h
  ·rintro⟨_,j,h,_⟩;simp at h
 | [x]=>by
  constructor
  ·intro h;cases h
  ·rintro⟨_,j,h,_⟩;simp at h
 | x :: y :: r=>by
  have e:synL (x :: y :: r)=(if x.1 ≠ y.1 then [(x,y)] else []) ++ synL (y :: r):=rfl
  rw[e,List.mem_append,synL_mem]
  constructor
  ·rintro(h|⟨h1,j,hj,h2⟩)
   ·split at h
    ·rename_i hne
     rw[List.mem_singleton] at h
     subst h
     exact⟨hne,0,by simp,rfl⟩
    ·cases h
   ·exact⟨h1,j+1,by simp at hj ⊢;omega,h2⟩
  ·rintro⟨h1,j,hj,h2⟩
   cases j with
   | zero =>
    left
    subst h2
    have h1:x.1 ≠ y.1:=h1
    rw[if_pos h1]
    exact List.mem_singleton.2 rfl
   | succ j=>exact .inr ⟨h1,j,by simp at hj ⊢;omega,h2⟩
def hasB (c:List Int)(y:Eid):Bool:=decide (y.2<=cAt c y.1)
def rkO (O:List (List Int))(y:Eid):Nat:=(O.filter fun c=>!hasB c y).length
theorem filter_lt {α:Type}{p q:α->Bool} : ∀ {l:List α},(∀x ∈ l,p x=true->q x=true)->(∃x ∈ l,p x=false/\q x=true)->(l.filter p).length<(l.filter q).length
 | [],_,⟨_,h,_⟩=>nomatch h
 | a :: l,h,⟨x,hx,h1,h2⟩=>by
  have hle:(l.filter p).length<=(l.filter q).length:=by
   have:∀ {l:List α},(∀x ∈ l,p x=true->q x=true)->(l.filter p).length<=(l.filter q).length:=fun {l}=>by
    induction l with
    | nil=>intro _;simp
    | cons b l ih =>
     intro h
     have ih:=ih fun x hx=>h x (List.mem_cons_of_mem _ hx)
     have hb:=h b (by simp)
     rw[List.filter_cons,List.filter_cons]
     cases hp:p b with
     | true=>rw[hb hp];simp;exact ih
     | false=>cases q b <;> simp <;> omega
   exact this fun x hx=>h x (List.mem_cons_of_mem _ hx)
  rw[List.filter_cons,List.filter_cons]
  rcases List.mem_cons.1 hx with rfl|hx
  ·rw[h1,h2];simp;omega
  ·have ih:=filter_lt (l:=l) (fun x hx=>h x (List.mem_cons_of_mem _ hx)) ⟨x,hx,h1,h2⟩
   have ha:=h a (by simp)
   cases hp:p a with
   | true=>rw[ha hp];simp;exact ih
   | false=>cases q a <;> simp <;> omega
section
variable {ps:List Pr}
theorem stpC_at {c:List Int}(hc:isF ps c=true){q p:Nat}(hp:p<ps.length):cAt (stpC c q) p=if q=p then cAt c q+1 else cAt c p:=by
 have:=(isF_iff.1 hc).1
 rw[cAt_stp (by omega)]
 split
 ·rename_i e;subst e;rfl
 ·rfl
theorem chn_gain {y:Eid}(hy:0<=y.1/\y.1<ps.length):∀ {R:List (List Int)} {c:List Int},isF ps c=true->chnF ps c R=true->hasB c y=false->(∃d ∈ R,hasB d y=true) ->
  ∃a b,a ∈ c :: R/\b ∈ R/\isF ps a=true/\hasB a y=false/\(∃q,q<ps.length/\b=stpC a q/\y=((q:Int),cAt a q+1))
 | [],c,_,_,_,⟨d,hd,_⟩=>nomatch hd
 | b :: R,c,hc,h,h0,⟨d,hd,h1⟩=>by
  obtain⟨q,q1,q2,rfl,_,q5⟩:=(chn_cons hc).1 h
  cases hb:hasB (stpC c q) y with
  | false =>
   have hd':∃d ∈ R,hasB d y=true:=by
    rcases List.mem_cons.1 hd with rfl|hd
    ·rw[hb] at h1;cases h1
    ·exact⟨d,hd,h1⟩
   obtain⟨a,b,g1,g2,g3⟩:=chn_gain hy (rdy_is q2) q5 hb hd'
   exact⟨a,b,List.mem_cons_of_mem _ g1,List.mem_cons_of_mem _ g2,g3⟩
  | true =>
   refine⟨c,_,by simp,by simp,hc,h0,q,q1,rfl,?_⟩
   obtain⟨a,k⟩:=y
   have hy:0<=a/\a<ps.length:=hy
   unfold hasB at h0 hb
   simp only[decide_eq_false_iff_not,decide_eq_true_eq] at h0 hb
   obtain⟨a',rfl⟩:=Int.eq_ofNat_of_zero_le hy.1
   rw[stpC_at hc (by omega)] at hb
   split at hb
   ·rename_i e;subst e
    rw[Prod.mk.injEq];omega
   ·omega
theorem rk_lt {R:List (List Int)}(h:chnF ps (zeroC ps) R=true)(hlast:(zeroC ps :: R).getLast?=some (fullC ps)){y x:Eid}(hy:0<=y.1/\y.1<ps.length/\1<=y.2/\y.2<=nev ps y.1.toNat)(hx0:0<=x.1)(hne:y ≠ x)
  (hx:∀c ∈ zeroC ps :: R,hasB c x=true->hasB c y=true):rkO (zeroC ps :: R) y<rkO (zeroC ps :: R) x:=by
 obtain⟨y1,y2,y3,y4⟩:=hy
 have hz:hasB (zeroC ps) y=false:=by
  unfold hasB
  refine decide_eq_false ?_
  unfold zeroC cAt
  rw[getD_zeros];omega
 have hf:hasB (fullC ps) y=true:=by
  unfold hasB
  refine decide_eq_true ?_
  obtain⟨p,hp⟩:=Int.eq_ofNat_of_zero_le y1
  rw[hp] at y2 y4 ⊢
  rw[Int.toNat_natCast] at y4
  rw[fullC_at (by omega),<- nev_get (by omega)]
  exact y4
 have hR:∃d ∈ R,hasB d y=true:=by
  have hm:=List.mem_of_getLast? hlast
  rcases List.mem_cons.1 hm with e|hm
  ·rw[e,hz] at hf;cases hf
  ·exact⟨_,hm,hf⟩
 obtain⟨a,b,g1,g2,g3,g4,q,q1,rfl,q3⟩:=chn_gain ⟨y1,y2⟩ (zeroC_is ps) h hz hR
 refine filter_lt (fun c hc hn=>?_) ⟨stpC a q,List.mem_cons_of_mem _ g2,?_,?_⟩
 ·cases hh:hasB c x with
  | false=>rfl
  | true=>rw[hx c hc hh] at hn;cases hn
 ·have:hasB (stpC a q) y=true:=by
   unfold hasB
   refine decide_eq_true ?_
   rw[q3]
   show cAt a q+1<=cAt (stpC a q) q
   rw[stpC_at g3 q1,if_pos rfl];exact Int.le_refl _
  rw[this];rfl
 ·cases hh:hasB (stpC a q) x with
  | false=>rfl
  | true =>
   exfalso
   have ha:hasB a x=false:=by
    cases h2:hasB a x with
    | false=>rfl
    | true=>rw[hx a g1 h2] at g4;cases g4
   refine hne ?_
   obtain⟨u,k⟩:=x
   unfold hasB at hh ha
   simp only[decide_eq_false_iff_not,decide_eq_true_eq] at hh ha
   have hal:=(isF_iff.1 g3).1
   have hu:u.toNat=q:=by
    refine Classical.byContradiction fun hne=>?_
    unfold cAt at hh ha
    unfold stpC at hh
    rw[List.getD_eq_getElem?_getD,List.getElem?_set,if_neg (fun e=>hne e.symm),<- List.getD_eq_getElem?_getD] at hh
    exact ha hh
   have e1:cAt (stpC a q) u=cAt a u+1:=by
    unfold cAt stpC
    rw[hu,List.getD_eq_getElem?_getD,List.getElem?_set,if_pos rfl,if_pos (by omega),Option.getD_some]
    unfold cAt;rfl
   have e2:cAt a u=cAt a q:=by unfold cAt;rw[hu,Int.toNat_natCast]
   have hx0:0<=u:=hx0
   rw[q3,Prod.mk.injEq]
   omega
theorem evt_get:∀ {R:List (List Int)} {c:List Int} (_:isF ps c=true) (_:chnF ps c R=true) {j:Nat} (hj:j<(evtG c R).length),∃a,isF ps a=true/\(c :: R)[j]?=some a/\∃q,q<ps.length/\(c :: R)[j+1]?=some (stpC a q)/\(evtG c R)[j]=((q:Int),cAt a q+1)/\rdyF ps a q=true
 | [],_,_,_,j,hj=>by simp [evtG] at hj
 | b :: R,c,hc,h,j,hj=>by
  obtain⟨q,q1,q2,rfl,q4,q5⟩:=(chn_cons hc).1 h
  have e:evtG c (stpC c q :: R)=(stepF c (stpC c q),cAt (stpC c q) (stepF c (stpC c q))) :: evtG (stpC c q) R:=rfl
  cases j with
  | zero =>
   refine⟨c,hc,rfl,q,q1,rfl,?_,q2⟩
   simp only[e,List.getElem_cons_zero]
   rw[q4,stpC_at hc q1,if_pos rfl]
  | succ j =>
   have hj2:j<(evtG (stpC c q) R).length:=by rw[e,List.length_cons] at hj;omega
   obtain⟨a,a1,a2,q',a3,a4,a5,a6⟩:=evt_get (rdy_is q2) q5 hj2
   exact⟨a,a1,a2,q',a3,a4,by simp only[e,List.getElem_cons_succ];exact a5,a6⟩
theorem evt_ex {p:Nat}(hp:p<ps.length):∀ {R:List (List Int)} {c e:List Int},isF ps c=true->chnF ps c R=true->(c :: R).getLast?=some e->cAt c p<cAt e p->((p:Int),cAt c p+1) ∈ evtG c R
 | [],c,e,hc,_,hl,hlt=>by
  have:c=e:=Option.some.inj hl
  rw[this] at hlt;omega
 | b :: R,c,e,hc,h,hl,hlt=>by
  obtain⟨q,q1,q2,rfl,q4,q5⟩:=(chn_cons hc).1 h
  rw[List.getLast?_cons_cons] at hl
  have e0:evtG c (stpC c q :: R)=(stepF c (stpC c q),cAt (stpC c q) (stepF c (stpC c q))) :: evtG (stpC c q) R:=rfl
  have hat:=stpC_at hc (q:=q) hp
  rw[e0,List.mem_cons]
  by_cases hqp:q=p
  ·subst hqp
   left
   rw[q4,hat,if_pos rfl]
  ·right
   rw[if_neg hqp] at hat
   have:=evt_ex hp (rdy_is q2) q5 hl (by rw[hat];exact hlt)
   rwa [hat] at this
theorem evt_back {es:List Eid}{P:Eid->Prop}(h:∀j (hj:j+1<es.length),P es[j+1]->P es[j]):∀ {m:Nat} (hm:m<es.length),P es[m]->∀ {j:Nat} (hj:j<=m),P (es[j]'(by omega))
 | 0,hm,hp,j,hj=>by
  have:j=0:=by omega
  subst this;exact hp
 | m+1,hm,hp,j,hj=>by
  by_cases e:j=m+1
  ·subst e;exact hp
  ·exact evt_back h (m:=m) (by omega) (h m hm hp) (by omega)
theorem prefix_of {d:Nat->Nat} : ∀ {R:List (List Int)} {c:List Int},isF ps c=true->chnF ps c R=true->(c :: R).getLast?=some (fullC ps)->(∀p,p<ps.length->d p<=nev ps p) ->
  (∀p,p<ps.length->cAt c p<=d p)->(∀j (hj:j+1<(evtG c R).length),((evtG c R)[j+1]).2<=d ((evtG c R)[j+1]).1.toNat->((evtG c R)[j]).2<=d ((evtG c R)[j]).1.toNat)->∃a ∈ c :: R,∀p,p<ps.length->cAt a p=d p
 | [],c,_,_,hl,hn,hle,_=>by
  have:c=fullC ps:=Option.some.inj hl
  refine⟨c,by simp,fun p hp=>?_⟩
  have h1:=hle p hp
  have h2:=hn p hp
  rw[this,fullC_at hp,<- nev_get hp] at h1 ⊢
  omega
 | b :: R,c,hc,h,hl,hn,hle,hcl=>by
  have h':=h
  obtain⟨q,q1,q2,rfl,q4,q5⟩:=(chn_cons hc).1 h
  have e0:evtG c (stpC c q :: R)=(stepF c (stpC c q),cAt (stpC c q) (stepF c (stpC c q))) :: evtG (stpC c q) R:=rfl
  by_cases hq:cAt c q+1<=d q
  ·have hl2:=hl
   rw[List.getLast?_cons_cons] at hl2
   have hle2:∀p,p<ps.length->cAt (stpC c q) p<=d p:=fun p hp=>by
    rw[stpC_at hc hp]
    split
    ·rename_i e;subst e;exact hq
    ·exact hle p hp
   obtain⟨a,a1,a2⟩:=prefix_of (rdy_is q2) q5 hl2 hn hle2 fun j hj hd=>by
    have:=hcl (j+1) (by rw[e0,List.length_cons];omega)
    simp only[e0,List.getElem_cons_succ] at this
    exact this hd
   exact⟨a,List.mem_cons_of_mem _ a1,a2⟩
  ·refine⟨c,by simp,fun p hp=>?_⟩
   refine Int.le_antisymm (hle p hp) (Int.not_lt.1 fun hlt=>hq ?_)
   have hfull:cAt c p<cAt (fullC ps) p:=by
    have:=hn p hp
    rw[fullC_at hp,<- nev_get hp];omega
   have hm:=evt_ex hp hc h' hl hfull
   obtain⟨m,hm1,hm2⟩:=List.getElem_of_mem hm
   have hb:=evt_back (es:=evtG c (stpC c q :: R)) (P:=fun y=>y.2<=d y.1.toNat) (fun j hj=>hcl j hj) hm1 (by rw[hm2];simp only[Int.toNat_natCast];omega) (j:=0) (Nat.zero_le _)
   simp only[e0,List.getElem_cons_zero] at hb
   rw[q4,stpC_at hc q1,if_pos rfl,Int.toNat_natCast] at hb
   exact hb
theorem syn_ok {R:List (List Int)}(h:chnF ps (zeroC ps) R=true):SynOk ps (synL (evtG (zeroC ps) R)):=fun s hs=>by
 obtain⟨_,j,hj,rfl⟩:=synL_mem.1 hs
 have key:∀i (hi:i<(evtG (zeroC ps) R).length),0<=((evtG (zeroC ps) R)[i]).1/\((evtG (zeroC ps) R)[i]).1<ps.length/\1<=((evtG (zeroC ps) R)[i]).2/\((evtG (zeroC ps) R)[i]).2<=nev ps ((evtG (zeroC ps) R)[i]).1.toNat:=fun i hi=>by
  obtain⟨a,a1,_,q,a3,_,a5,a6⟩:=evt_get (zeroC_is ps) h hi
  rw[a5]
  simp only[Int.toNat_natCast]
  have h1:=cut_at (rdy_is a6) a3
  have h2:=cut_at a1 a3
  rw[stpC_at a1 a3,if_pos rfl] at h1
  omega
 exact⟨key j (by omega),key (j+1) hj⟩
theorem evt_lack:∀ {R:List (List Int)} {c:List Int} (_:isF ps c=true) (_:chnF ps c R=true) {j:Nat} (hj:j<(evtG c R).length),∀m,m<=j->∀a,(c :: R)[m]?=some a->hasB a (evtG c R)[j]=false
 | [],_,_,_,j,hj=>by simp [evtG] at hj
 | b :: R,c,hc,h,j,hj=>by
  intro m hm a ha
  obtain⟨q,q1,q2,rfl,q4,q5⟩:=(chn_cons hc).1 h
  have e:evtG c (stpC c q :: R)=(stepF c (stpC c q),cAt (stpC c q) (stepF c (stpC c q))) :: evtG (stpC c q) R:=rfl
  have hself:hasB c ((q:Int),cAt c q+1)=false:=decide_eq_false (by show ¬cAt c q+1<=cAt c q;omega)
  cases j with
  | zero =>
   have:m=0:=by omega
   subst this
   have:c=a:=Option.some.inj ha
   subst this
   simp only[e,List.getElem_cons_zero]
   rw[q4,stpC_at hc q1,if_pos rfl]
   exact hself
  | succ j =>
   have hj2:j<(evtG (stpC c q) R).length:=by rw[e,List.length_cons] at hj;omega
   simp only[e,List.getElem_cons_succ]
   cases m with
   | succ m=>exact evt_lack (rdy_is q2) q5 hj2 m (by omega) a ha
   | zero =>
    have:c=a:=Option.some.inj ha
    subst this
    have h1:=evt_lack (rdy_is q2) q5 hj2 0 (Nat.zero_le _) (stpC c q) rfl
    obtain⟨a',a1,_,q',a3,_,a5,_⟩:=evt_get (rdy_is q2) q5 hj2
    rw[a5] at h1 ⊢
    unfold hasB at h1 ⊢
    simp only[decide_eq_false_iff_not] at h1 ⊢
    rw[stpC_at hc a3] at h1
    split at h1
    ·rename_i e;subst e;omega
    ·omega
theorem chn_sum_le:∀ {R:List (List Int)} {c:List Int},isF ps c=true->chnF ps c R=true->∀d ∈ c :: R,∀y:Eid,hasB c y=true->hasB d y=true
 | [],c,_,_,d,hd,y,h=>by
  rw[List.mem_singleton] at hd
  subst hd;exact h
 | b :: R,c,hc,h,d,hd,y,hy=>by
  obtain⟨q,q1,q2,rfl,q4,q5⟩:=(chn_cons hc).1 h
  rcases List.mem_cons.1 hd with rfl|hd
  ·exact hy
  ·refine chn_sum_le (rdy_is q2) q5 d hd y ?_
   unfold hasB cAt stpC at *
   simp only[decide_eq_true_eq] at hy ⊢
   have hl:=(isF_iff.1 hc).1
   rw[List.getD_eq_getElem?_getD,List.getElem?_set]
   split
   ·rename_i e
    rw[if_pos (by omega),Option.getD_some,e]
    unfold cAt
    rw[Int.toNat_natCast]
    have:(c.getD y.1.toNat 0)=c.getD y.1.toNat 0:=rfl
    omega
   ·rw[<- List.getD_eq_getElem?_getD];exact hy
theorem evt_have:∀ {R:List (List Int)} {c:List Int} (_:isF ps c=true) (_:chnF ps c R=true) {j:Nat} (hj:j<(evtG c R).length),∀m,j<m->∀a,(c :: R)[m]?=some a->hasB a (evtG c R)[j]=true
 | [],_,_,_,j,hj=>by simp [evtG] at hj
 | b :: R,c,hc,h,j,hj=>by
  intro m hm a ha
  obtain⟨q,q1,q2,rfl,q4,q5⟩:=(chn_cons hc).1 h
  have e:evtG c (stpC c q :: R)=(stepF c (stpC c q),cAt (stpC c q) (stepF c (stpC c q))) :: evtG (stpC c q) R:=rfl
  cases m with
  | zero=>omega
  | succ m =>
   have ha:(stpC c q :: R)[m]?=some a:=ha
   cases j with
   | zero =>
    simp only[e,List.getElem_cons_zero]
    refine chn_sum_le (rdy_is q2) q5 a (List.mem_of_getElem? ha) _ ?_
    rw[q4]
    unfold hasB
    exact decide_eq_true (Int.le_refl _)
   | succ j =>
    have hj2:j<(evtG (stpC c q) R).length:=by rw[e,List.length_cons] at hj;omega
    simp only[e,List.getElem_cons_succ]
    exact evt_have (rdy_is q2) q5 hj2 m (by omega) a ha
theorem syn_rnk (hv:validF ps=true){R:List (List Int)}(h:chnF ps (zeroC ps) R=true)(hl:(zeroC ps :: R).getLast?=some (fullC ps)):RnkX ps (synL (evtG (zeroC ps) R)) (rkO (zeroC ps :: R)):=fun p hp i hi y hy=>by
 have hok:=syn_ok h
 have hev:=dirX_ev hv hok hp hi y hy
 have hR:∀c ∈ zeroC ps :: R,isF ps c=true:=fun c hc=>by
  rcases List.mem_cons.1 hc with rfl|hc
  ·exact zeroC_is ps
  ·obtain⟨j,hj,rfl⟩:=List.getElem_of_mem hc
   exact(chn_iff.1 h j hj).1
 have hy':=hy
 unfold dirX dirE at hy
 rw[List.mem_append,List.mem_append] at hy
 rcases hy with (hy|hy)|hy
 ·split at hy
  ·rw[List.mem_singleton] at hy
   subst hy
   refine rk_lt h hl hev (by show (0:Int)<=(p:Int);omega) (by intro e;rw[Prod.mk.injEq] at e;omega) fun c _ hc=>?_
   unfold hasB at *
   simp only[decide_eq_true_eq] at *
   omega
  ·cases hy
 ·split at hy
  ·rename_i hk
   rw[List.mem_singleton] at hy
   subst hy
   have hn:=nev_get hp
   rw[evq_get hp (by omega)] at hk hev ⊢
   obtain⟨_,_,m3⟩:=valid_parts hv
   refine rk_lt h hl hev (by show (0:Int)<=(p:Int);omega) ?_ fun c hc hx=>?_
   ·intro e
    obtain⟨hq,j,hj,hsd,g1,g2⟩:=recv_peer m3 hp (by omega) hk
    have hne:=peer_ne hv hp (by omega) hk
    have e1:=congrArg Prod.fst e
    rw[hsd] at e1
    have e1:((ps[p].evs[i].peer.toNat:Nat):Int)=p:=e1
    omega
   ·obtain⟨c1,c2,c3⟩:=isF_iff.1 (hR c hc)
    unfold hasB at hx ⊢
    simp only[decide_eq_true_eq] at hx ⊢
    exact closed_iff.1 c3 p hp i (by omega) hk hx
  ·cases hy
 ·obtain⟨s,h1,rfl⟩:=List.mem_map.1 hy
  obtain⟨h2,h3⟩:=List.mem_filter.1 h1
  have h3:=of_decide_eq_true h3
  obtain⟨hne,j,hj,rfl⟩:=synL_mem.1 h2
  have h3:(evtG (zeroC ps) R)[j+1]=((p:Int),(i:Int)+1):=h3
  rw[<- h3]
  refine rk_lt h hl hev (by rw[h3];show (0:Int)<=(p:Int);omega) (fun e=>hne (congrArg Prod.fst e)) fun c hc hx=>?_
  obtain⟨m,hm,rfl⟩:=List.getElem_of_mem hc
  have hmg:(zeroC ps :: R)[m]?=some (zeroC ps :: R)[m]:=List.getElem?_eq_getElem hm
  by_cases hmj:m<=j+1
  ·rw[evt_lack (zeroC_is ps) h hj m hmj _ hmg] at hx;cases hx
  ·exact evt_have (zeroC_is ps) h (by omega) m (by omega) _ hmg
theorem syn_ctl {bad:Nat->Nat->Bool}{R:List (List Int)}(hD:DodgeR ps bad (zeroC ps :: R)):ctlB ps (synL (evtG (zeroC ps) R)) bad=true:=by
 obtain⟨R',hR',h,hl⟩:=isrun_inv hD.run
 have:R=R':=by injection hR'
 subst this
 rw[ctlB_true]
 rintro⟨d,hd⟩
 obtain⟨a,ha,hat⟩:=prefix_of (d:=d) (zeroC_is ps) h hl hd.rng (fun p hp=>by unfold zeroC cAt;rw[getD_zeros];omega) fun j hj hx=>by
  obtain⟨a,a1,_,q,a3,_,a5,a6⟩:=evt_get (zeroC_is ps) h hj
  obtain⟨a',a1',_,q',a3',_,a5',a6'⟩:=evt_get (zeroC_is ps) h (show j<(evtG (zeroC ps) R).length by omega)
  have h1:=cut_at (rdy_is a6) a3
  have h2:=cut_at a1 a3
  rw[stpC_at a1 a3,if_pos rfl] at h1
  by_cases hne:((evtG (zeroC ps) R)[j]).1 ≠ ((evtG (zeroC ps) R)[j+1]).1
  ·have hs:((evtG (zeroC ps) R)[j],(evtG (zeroC ps) R)[j+1]) ∈ synL (evtG (zeroC ps) R):=synL_mem.2 ⟨hne,j,hj,rfl⟩
   refine hd.clo q a3 (cAt a q).toNat (by omega) ?_ _ ?_
   ·rw[a5] at hx
    simp only[Int.toNat_natCast] at hx
    omega
   ·unfold dirX
    refine List.mem_append_right _ (List.mem_map.2 ⟨_,List.mem_filter.2 ⟨hs,decide_eq_true ?_⟩,rfl⟩)
    show (evtG (zeroC ps) R)[j+1]=_
    rw[a5,Prod.mk.injEq]
    omega
  ·-- the same process: the event before has a smaller number
   have hne:((evtG (zeroC ps) R)[j]).1=((evtG (zeroC ps) R)[j+1]).1:=Classical.not_not.1 hne
   have hlk:=evt_lack (zeroC_is ps) h hj (j+1) (Nat.le_refl _)
   obtain⟨b,hb⟩:∃b,(zeroC ps :: R)[j+1]?=some b:=⟨a,by assumption⟩
   have g1:=hlk b hb
   have g2:=evt_have (zeroC_is ps) h (show j<(evtG (zeroC ps) R).length by omega) (j+1) (by omega) b hb
   unfold hasB at g1 g2
   simp only[decide_eq_true_eq,decide_eq_false_iff_not] at g1 g2
   rw[hne] at g2 ⊢
   omega
 obtain⟨p,hp,hb⟩:=hD.av a ha
 have:=hd.bad p hp
 rw[hat p hp,Int.toNat_natCast,this] at hb
 cases hb
end
end Go.AL
end
