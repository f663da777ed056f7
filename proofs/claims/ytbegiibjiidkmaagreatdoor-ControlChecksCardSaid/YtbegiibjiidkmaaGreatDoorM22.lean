/- Texts of this claim's proof: WY5, WY11, WY12. No condition. -/
import Derived.Test.YtbegiibjiidkmaaGreatDoorM20
import Derived.Test.YtbegiibjiidkmaaGreatDoorM18
import Derived.Test.YtbegiibjiidkmaaGreatDoorM9
import Derived.Test.YtbegiibjiidkmaaGreatDoorM19
import Derived.Test.YtbegiibjiidkmaaGreatDoorM21
section
namespace Go.AL
open Go Go.RowKit Proofs.Tryz
set_option maxRecDepth 4000
def EvX (ps:List Pr)(y:Eid):Prop:=0<=y.1/\y.1<ps.length/\1<=y.2/\y.2<=nev ps y.1.toNat
def DirR (ps:List Pr)(l:List Syn)(x y:Eid):Prop:=EvX ps y/\x ∈ dirX ps l y.1.toNat (y.2.toNat - 1)
abbrev RchX (ps:List Pr) (l:List Syn):Eid->Eid->Prop:=Relation.TransGen (DirR ps l)
theorem evx_form {ps:List Pr}{y:Eid}(h:EvX ps y):∃p i:Nat,p<ps.length/\i<nev ps p/\y=((p:Int),(i:Int)+1):=by
 obtain⟨a,b⟩:=y
 obtain⟨h1,h2,h3,h4⟩:=h
 refine⟨a.toNat,b.toNat - 1,?_,?_,?_⟩
 ·have h2:a<ps.length:=h2
  have h1:0<=a:=h1
  omega
 ·have h4:b<=nev ps a.toNat:=h4
  have h3:1<=b:=h3
  omega
 ·have h1:0<=a:=h1
  have h3:1<=b:=h3
  rw[Prod.mk.injEq];omega
theorem dir_mk {ps:List Pr}{l:List Syn}{p i:Nat}(hp:p<ps.length)(hi:i<nev ps p){x:Eid}(hx:x ∈ dirX ps l p i):DirR ps l x ((p:Int),(i:Int)+1):=by
 have e:((i:Int)+1).toNat - 1=i:=by omega
 refine⟨⟨by show (0:Int)<=(p:Int);omega,by show (p:Int)<_;omega,by show (1:Int)<=(i:Int)+1;omega,by show (i:Int)+1<=nev ps ((p:Int)).toNat;rw[Int.toNat_natCast];omega⟩,?_⟩
 show x ∈ dirX ps l ((p:Int)).toNat (((i:Int)+1).toNat - 1)
 rw[Int.toNat_natCast,e];exact hx
theorem dir_iff {ps:List Pr}{l:List Syn}{p i:Nat}{x:Eid}(h:DirR ps l x ((p:Int),(i:Int)+1)):p<ps.length/\i<nev ps p/\x ∈ dirX ps l p i:=by
 obtain⟨⟨_,h2,_,h4⟩,h5⟩:=h
 have e:((i:Int)+1).toNat - 1=i:=by omega
 have h2:(p:Int)<ps.length:=h2
 have h4:(i:Int)+1<=nev ps ((p:Int)).toNat:=h4
 have h5:x ∈ dirX ps l ((p:Int)).toNat (((i:Int)+1).toNat - 1):=h5
 rw[Int.toNat_natCast] at h4 h5
 rw[e] at h5
 exact⟨by omega,by omega,h5⟩
theorem clo_dir {ps:List Pr}{l:List Syn}{d:Nat->Int}(h:CloX ps l d){x y:Eid}(hd:DirR ps l x y)(hy:y.2<=d y.1.toNat):x.2<=d x.1.toNat:=by
 obtain⟨p,i,hp,hi,rfl⟩:=evx_form hd.1
 obtain⟨_,_,hx⟩:=dir_iff hd
 exact h p hp i hi (by simpa using hy) x hx
theorem clo_rch {ps:List Pr}{l:List Syn}{d:Nat->Int}(h:CloX ps l d){x y:Eid}(hr:RchX ps l x y):y.2<=d y.1.toNat->x.2<=d x.1.toNat:=by
 induction hr with
 | single hd=>exact clo_dir h hd
 | tail _ hd ih=>exact fun hy=>ih (clo_dir h hd hy)
section
variable {ps:List Pr} {l:List Syn} {S:Nat->List (List Int)} (hv:validF ps=true) (hl:SynOk ps l) (hG:GenX ps l S)
include hv hl hG
theorem rch_entry {x:Eid}{p k:Nat}(hp:p<ps.length)(hk:k<(S p).length)(hr:RchX ps l x ((p:Int),(k:Int))):x.2<=(stOf S p k).getD x.1.toNat 0:=by
 have hst:=hG.st hv hl p k hk
 refine clo_rch hst.clo hr ?_
 show (k:Int)<=(stOf S p k).getD ((p:Int)).toNat 0
 rw[Int.toNat_natCast,hst.own hp];exact Int.le_refl _
theorem entry_less:∀p k,1<=k->k<(S p).length->∀y ∈ dirX ps l p (k - 1),(nedX S y).getD p 0<(k:Int):=by
 induction hG with
 | init=>intro p k h1 h2;simp at h2;omega
 | @step S r h hr ih =>
  intro p k h1 h2 y hy
  by_cases hold:k<(S p).length
  ·obtain⟨_,_,h3,_⟩:=h.entry p k h1 hold
   have e:nedX (upS S r (vecX ps l S r (S r).length)) y=nedX S y:=upS_old (h3 y hy)
   rw[e]
   exact ih p k h1 hold y hy
  ·rw[upS_len] at h2
   by_cases e:p=r
   ·subst e
    rw[if_pos rfl] at h2
    have hke:k=(S p).length:=by omega
    subst hke
    have e:nedX (upS S p (vecX ps l S p (S p).length)) y=nedX S y:=upS_old (hr.2.2 y hy)
    rw[e]
    exact(h.st hv hl y.1.toNat y.2.toNat (hr.2.2 y hy)).le p
   ·rw[if_neg e] at h2;omega
theorem whl_acyc (hW:WhlX ps S){x:Eid}(h:RchX ps l x x):False:=by
 have key:∀ {x y:Eid},RchX ps l x y->∃z,DirR ps l z y/\(x=z\/RchX ps l x z):=fun {x y} h=>by
  cases h with
  | single h=>exact⟨x,h,.inl rfl⟩
  | tail h1 h2=>exact⟨_,h2,.inr h1⟩
 obtain⟨z,hz,h1⟩:=key h
 obtain⟨p,i,hp,hi,rfl⟩:=evx_form hz.1
 obtain⟨_,_,hm⟩:=dir_iff hz
 have hlen:=hW p hp
 have h2:=entry_less hv hl hG p (i+1) (by omega) (by omega) z (by rw[Nat.add_sub_cancel];exact hm)
 obtain⟨z1,z2,z3,z4⟩:=dirX_ev hv hl hp hi z hm
 obtain⟨u,w,hu,hw,rfl⟩:=evx_form ⟨z1,z2,z3,z4⟩
 have hlu:=hW u hu
 have e:nedX S ((u:Int),(w:Int)+1)=stOf S u (w+1):=by
  unfold nedX
  rw[Int.toNat_natCast]
  congr 1
 rw[e] at h2
 have h3:(i:Int)+1<=(stOf S u (w+1)).getD p 0:=by
  rcases h1 with h1|h1
  ·rw[Prod.mk.injEq] at h1
   have:p=u:=by omega
   subst this
   rw[(hG.st hv hl p (w+1) (by omega)).own hp]
   omega
  ·have:=rch_entry hv hl hG hu (k:=w+1) (by omega) (x:=((p:Int),(i:Int)+1)) (by rw[show ((w+1:Nat):Int)=(w:Int)+1 by omega];exact h1)
   simpa using this
 omega
end
theorem cyc_of {α:Type}{R:α->α->Prop}(ht:∀a b c,R a b->R b c->R a c):∀(m:Nat) (L:List α),L.length<=m->L ≠ []->(∀a ∈ L,∃b ∈ L,R b a)->∃a,R a a:=fun m=>by
 induction m with
 | zero=>intro L h hne;exact absurd (List.length_eq_zero_iff.1 (by omega)) hne
 | succ m ih =>
  intro L h hne hL
  cases L with
  | nil=>exact absurd rfl hne
  | cons a L =>
   refine Classical.byContradiction fun hno=>?_
   have hirr:∀x,¬R x x:=fun x hx=>hno ⟨x,hx⟩
   -- what comes before a without a itself
   obtain⟨b,hb,hba⟩:=hL a (by simp)
   classical
   let M:=L.filter fun x=>decide (R x a)
   have hbM:b ∈ M:=by
    rcases List.mem_cons.1 hb with rfl|hb
    ·exact absurd hba (hirr _)
    ·exact List.mem_filter.2 ⟨hb,decide_eq_true hba⟩
   have hMl:M.length<=m:=by
    have:M.length<=L.length:=List.length_filter_le _ _
    rw[List.length_cons] at h
    omega
   obtain⟨x,hx⟩:=ih M hMl (fun e=>by rw[e] at hbM;cases hbM) fun x hx=>by
    obtain⟨h1,h2⟩:=List.mem_filter.1 hx
    have h2:=of_decide_eq_true h2
    obtain⟨c,hc,hcx⟩:=hL x (List.mem_cons_of_mem _ h1)
    have hca:=ht c x a hcx h2
    rcases List.mem_cons.1 hc with rfl|hc
    ·exact absurd hca (hirr _)
    ·exact⟨c,List.mem_filter.2 ⟨hc,decide_eq_true hca⟩,hcx⟩
   exact hirr x hx
theorem prc_chain {ps:List Pr}{l:List Syn}{p:Nat}(hp:p<ps.length):∀ {i j:Nat},i<j->j<nev ps p->RchX ps l ((p:Int),(i:Int)+1) ((p:Int),(j:Int)+1)
 | i,0,h,_=>by omega
 | i,j+1,h,hj=>by
  have hd:DirR ps l ((p:Int),(j:Int)+1) ((p:Int),((j+1:Nat):Int)+1):=dir_mk hp hj (by
   unfold dirX dirE
   rw[if_pos (by omega)]
   simp)
  by_cases e:i=j
  ·subst e;exact .single hd
  ·exact .tail (prc_chain hp (show i<j by omega) (by omega)) hd
theorem stuck_cyc {ps:List Pr}(hv:validF ps=true){l:List Syn}(hl:SynOk ps l){S:Nat->List (List Int)}(hG:GenX ps l S)(hst:∀p,¬RdyX ps l S p)(hW:¬WhlX ps S):∃x,EvX ps x/\RchX ps l x x:=by
 let L:=((List.range ps.length).filter fun p=>decide ((S p).length<=nev ps p)).map fun p=>(((p:Nat):Int),(((S p).length - 1:Nat):Int)+1)
 have hmem:∀x,x ∈ L↔∃p,p<ps.length/\(S p).length<=nev ps p/\x=(((p:Nat):Int),(((S p).length - 1:Nat):Int)+1):=fun x=>by
  show x ∈ List.map _ _↔_
  rw[List.mem_map]
  constructor
  ·rintro⟨p,h1,h2⟩
   obtain⟨h3,h4⟩:=List.mem_filter.1 h1
   exact⟨p,List.mem_range.1 h3,of_decide_eq_true h4,h2.symm⟩
  ·rintro⟨p,h1,h2,h3⟩
   exact⟨p,List.mem_filter.2 ⟨List.mem_range.2 h1,decide_eq_true h2⟩,h3.symm⟩
 have hne:L ≠ []:=fun e=>hW fun p hp=>by
  have h1:=hG.top p
  refine Classical.byContradiction fun h2=>?_
  have:(((p:Nat):Int),(((S p).length - 1:Nat):Int)+1) ∈ L:=(hmem _).2 ⟨p,hp,by omega,rfl⟩
  rw[e] at this;cases this
 obtain⟨x,hx⟩:=cyc_of (R:=RchX ps l) (fun a b c h1 h2=>Relation.TransGen.trans h1 h2) L.length L (Nat.le_refl _) hne fun x hx=>by
  obtain⟨p,hp,hlt,rfl⟩:=(hmem x).1 hx
  have hpos:=hG.pos p
  have hi:(S p).length - 1<nev ps p:=by omega
  have:∃y ∈ dirX ps l p ((S p).length - 1),¬y.2.toNat<(S y.1.toNat).length:=by
   refine Classical.byContradiction fun hno=>hst p ⟨hp,hlt,fun y hy=>Classical.byContradiction fun h=>hno ⟨y,hy,h⟩⟩
  obtain⟨y,hy,hny⟩:=this
  obtain⟨y1,y2,y3,y4⟩:=dirX_ev hv hl hp hi y hy
  have hd:=dir_mk (l:=l) hp hi hy
  obtain⟨u,w,hu,hw,rfl⟩:=evx_form ⟨y1,y2,y3,y4⟩
  have hny:¬((w:Int)+1).toNat<(S ((u:Int)).toNat).length:=hny
  rw[Int.toNat_natCast] at hny
  have hposu:=hG.pos u
  refine⟨_,(hmem _).2 ⟨u,hu,by omega,rfl⟩,?_⟩
  by_cases e:(S u).length - 1=w
  ·rw[e];exact .single hd
  ·exact .tail (prc_chain hu (show (S u).length - 1<w by omega) hw) hd
 refine⟨x,?_,hx⟩
 cases hx with
 | single h=>exact h.1
 | tail _ h=>exact h.1
def lftX (ps:List Pr)(S:Nat->List (List Int)):Nat:=totS ps.length fun p=>nev ps p+1 - (S p).length
theorem tot_congr {n:Nat}{c c':Nat->Nat}(h:∀q,q<n->c q=c' q):totS n c=totS n c':=Nat.le_antisymm (totS_le2 n fun q hq=>Nat.le_of_eq (h q hq)) (totS_le2 n fun q hq=>Nat.le_of_eq (h q hq).symm)
theorem tot_off {ps:List Pr} : ∀k,k<=ps.length->totS k (nev ps)=off ps k
 | 0,_=>by simp [totS,off]
 | k+1,h=>by rw[totS_succ,tot_off k (by omega),off_succ (by omega),nev_get (by omega)]
theorem lft_init (ps:List Pr):lftX ps (fun _=>[List.replicate ps.length 0])=off ps ps.length:=by
 unfold lftX
 rw[<- tot_off ps.length (Nat.le_refl _)]
 exact tot_congr fun q _=>by simp
theorem lft_up {ps:List Pr}{S:Nat->List (List Int)}{p:Nat}(hp:p<ps.length)(h:(S p).length<=nev ps p)(v:List Int):lftX ps S=lftX ps (upS S p v)+1:=by
 unfold lftX
 rw[totS_bump (c:=fun q=>nev ps q+1 - (upS S p v q).length) (p:=p) (fun q=>by
  simp only[upS_len]
  by_cases e:q=p
  ·subst e;simp;omega
  ·simp [e]) ps.length,if_pos hp]
theorem lft_le {ps:List Pr}{l:List Syn}{S:Nat->List (List Int)}(h:GenX ps l S):lftX ps S<=off ps ps.length:=by
 unfold lftX
 rw[<- tot_off ps.length (Nat.le_refl _)]
 exact totS_le2 _ fun q _=>by have:=h.pos q;omega
theorem ex_ex (ps:List Pr)(l:List Syn):∃S,GenX ps l S/\∀p,¬RdyX ps l S p:=by
 suffices h:∀n S,GenX ps l S->lftX ps S<=n->∃S,GenX ps l S/\∀p,¬RdyX ps l S p from h _ _ .init (Nat.le_refl _)
 intro n
 induction n with
 | zero =>
  intro S hG h
  refine⟨S,hG,fun p hr=>?_⟩
  have:=lft_up hr.1 hr.2.1 (vecX ps l S p (S p).length)
  omega
 | succ n ih =>
  intro S hG h
  by_cases hx:∃p,RdyX ps l S p
  ·obtain⟨p,hr⟩:=hx
   have:=lft_up hr.1 hr.2.1 (vecX ps l S p (S p).length)
   exact ih _ (hG.step hr) (by omega)
  ·exact⟨S,hG,fun p hr=>hx ⟨p,hr⟩⟩
theorem exF_gen (ps:List Pr)(l:List Syn):GenX ps l (exF ps l):=by
 obtain⟨S,h1,h2⟩:=ex_ex ps l
 rw[exF_eq h1 h2];exact h1
theorem exF_stop (ps:List Pr)(l:List Syn):∀p,¬RdyX ps l (exF ps l) p:=by
 obtain⟨S,h1,h2⟩:=ex_ex ps l
 rw[exF_eq h1 h2];exact h2
theorem totS_zero {f:Nat->Nat} : ∀n,totS n f=0↔∀p,p<n->f p=0
 | 0=>by simp [totS]
 | n+1=>by
  rw[totS_succ,Nat.add_eq_zero_iff,totS_zero n]
  constructor
  ·rintro⟨h1,h2⟩ p hp
   by_cases e:p=n
   ·subst e;exact h2
   ·exact h1 p (by omega)
  ·exact fun h=>⟨fun p hp=>h p (by omega),h n (by omega)⟩
theorem lft_whl {ps:List Pr}{l:List Syn}{S:Nat->List (List Int)}(h:GenX ps l S):lftX ps S=0↔WhlX ps S:=by
 unfold lftX WhlX
 rw[totS_zero]
 constructor
 ·intro g p hp
  have:=g p hp
  have:=h.top p
  omega
 ·intro g p hp
  have:=g p hp
  omega
theorem rnk_sub {ps:List Pr}{l l':List Syn}(h:∀s ∈ l',s ∈ l){r:Eid->Nat}(hr:RnkX ps l r):RnkX ps l' r:=fun p hp i hi y hy=>by
 refine hr p hp i hi y ?_
 unfold dirX at hy ⊢
 rcases List.mem_append.1 hy with hy|hy
 ·exact List.mem_append_left _ hy
 ·obtain⟨s,h1,rfl⟩:=List.mem_map.1 hy
  obtain⟨h2,h3⟩:=List.mem_filter.1 h1
  exact List.mem_append_right _ (List.mem_map.2 ⟨s,List.mem_filter.2 ⟨h s h2,h3⟩,rfl⟩)
theorem synOk_nil (ps:List Pr):SynOk ps []:=fun s hs=>nomatch hs
theorem synOk_sub {ps:List Pr}{l l':List Syn}(h:∀s ∈ l',s ∈ l)(hl:SynOk ps l):SynOk ps l':=fun s hs=>hl s (h s hs)
theorem ex_nil_pt {ps:List Pr}(hv:validF ps=true)(hW:WhlX ps (exF ps [])){p:Nat}(hp:p<ps.length){i:Nat}(hi:i<nev ps p):stOf (exF ps []) p (i+1)=ptF ps p i:=by
 have hi':i<ps[p].evs.length:=by rw[nev_get hp] at hi;exact hi
 have hG:=exF_gen ps []
 have hst:=hG.st hv (synOk_nil ps) p (i+1) (by rw[hW p hp];omega)
 have hown:=hst.own hp
 have hpt:=pt_isN hv hp hi
 have hptl:(ptF ps p i).length=ps.length:=(isF_iff.1 hpt).1
 have hin:isF ps (stOf (exF ps []) p (i+1))=true:=by
  refine isF_of_CloX hst.len ((inRange_iff hst.len).2 fun q hq=>?_) hst.clo
  have h1:=hst.le q
  have h2:=hG.top q
  have h3:=hst.nn q
  have h4:=nev_get hq
  unfold cAt
  rw[Int.toNat_natCast]
  omega
 refine List.ext_getElem (by rw[hst.len,hptl]) fun q h1 h2=>?_
 have hq:q<ps.length:=by rw[hst.len] at h1;exact h1
 have a1:=hst.least (fun j=>(ptF ps p i).getD j 0) (CloX.of_isF hv hpt) (fun j=>by
  by_cases hj:j<ps.length
  ·have:=((inRange_iff hptl).1 (isF_iff.1 hpt).2.1 j hj).1
   unfold cAt at this;rwa [Int.toNat_natCast] at this
  ·rw[List.getD_eq_getElem?_getD,List.getElem?_eq_none (by omega)];exact Int.le_refl _) (by
  have:=pt_has (ps:=ps) (p:=p) (i:=i) hv hp hi'
  unfold cAt at this;rw[Int.toNat_natCast] at this;omega) q
 have a2:=pt_least hv hp hin (show (i:Int)+1<=cAt _ p by unfold cAt;rw[Int.toNat_natCast,hown];omega) q hq
 unfold cAt at a2
 rw[Int.toNat_natCast] at a2
 have e1:(stOf (exF ps []) p (i+1)).getD q 0=(stOf (exF ps []) p (i+1))[q]:=by rw[List.getD_eq_getElem?_getD,List.getElem?_eq_getElem h1,Option.getD_some]
 have e2:(ptF ps p i).getD q 0=(ptF ps p i)[q]:=by rw[List.getD_eq_getElem?_getD,List.getElem?_eq_getElem h2,Option.getD_some]
 rw[e1,e2] at a1 a2
 exact Int.le_antisymm a1 a2
theorem nil_whl {ps:List Pr}(hv:validF ps=true):WhlX ps (exF ps []):=by
 obtain⟨R,h1,h2,h3⟩:=wlk_go hv (zeroC_is ps) (fullC_is hv) ((leq_at (isF_iff.1 (zeroC_is ps)).1 (isF_iff.1 (fullC_is hv)).1).2 fun q hq=>by rw[fullC_at hq];unfold zeroC cAt;rw[getD_zeros];omega)
 exact whl_of hv (synOk_nil ps) (rnk_sub (l':=[]) (fun s (hs:s ∈ [])=>absurd hs (List.not_mem_nil)) (syn_rnk hv h2 h3.1)) (exF_gen ps []) (exF_stop ps [])
def aSts (l:List Stp):AV:=.sl 3 (l.map aStp)
def aStss (l:List (List Stp)):AV:=.sl 1 (l.map aSts)
theorem sts_cloneO (l:List (List Stp))(hl:l.length<=1000000):MCalls prog 96 [aStss l] [] fun r L=>AppSt 72 1 (l.map aSts) r L:=by
 refine MCalls.enter' 8 [.tmp 2] [] func96 rfl rfl rfl rfl rfl (by simp) (AWp.of ?_);simp only[go_sem]
 repeat(first|((with_reducible refine AWp.ofC ?_ ?_);exact rfl;simp only[go_sem,aStss])|((with_reducible refine an ?_ ?_);exact Au))
 intro b hb
 refine Wk ?_
 refine⟨fun ht=>?_,fun hf=>?_⟩
 ·have:l=[]:=by
   by_cases h:l=[]
   ·exact h
   ·rw[hb (by simpa using h)] at ht;cases ht
  subst this
  repeat(first|((with_reducible refine AWp.ofC ?_ ?_);exact rfl;simp only[go_sem,aStss])|((with_reducible refine an ?_ ?_);exact Au))
  refine ret_own ?_
  simp only[go_sem]
  exact .nil
 ·repeat(first|((with_reducible refine AWp.ofC ?_ ?_);exact rfl;simp only[go_sem,aStss])|((with_reducible refine an ?_ ?_);exact Au))
  intros
  refine Sd ?_
  intros
  repeat(first|((with_reducible refine AWp.ofC ?_ ?_);exact rfl;simp only[go_sem,aStss])|((with_reducible refine an ?_ ?_);exact Au))
  refine ret_own ?_
  simp only[go_sem]
  have e:l.length=(l.map aSts).length:=by simp
  rw[e];exact .row _ _ _
theorem sts_indexFunc (l:List (List Stp))(hl:l.length<=1000000)(g:AV)(hgf:fo g=(True,g))(p:(List Stp)->Bool)(hg:∀x ∈ l,PV prog g [aSts x] (ab (p x))) :
  PC prog 143 [aStss l,g] (ai (match l.findIdx? p with|some i=>(i:Int)|none=>-1)):=by
 refine PE 19 [.tmp 4] [] func143 ?_;simp only[go_sem]
 refine Sd ?_
 refine AWp.of ?_;simp only[go_sem,aStss]
 refine AWp.range' l.length [] [0,1,7] (fun k vs L=>L=[]/\∀i (h:i<l.length),i<k->p l[i]=false) (by omega) rfl rfl rfl ⟨rfl,by omega⟩ ?_ ?_
 ·rintro k vs L' hk hvs ⟨rfl,hI⟩
  simp only[go_sem]
  refine Sd ?_
  refine Ao ?_
  have hgk:=hg l[k] (List.getElem_mem hk)
  try simp only[go_sem,aSts] at hgk
  refine Sd ?_
  refine AWp.of ?_;simp only[go_sem,getD_map hk,hgf,aSts]
  refine⟨⟨by omega,by omega⟩,hk,hgk.use (AWp.of ?_)⟩;simp only[go_sem]
  refine⟨fun ht=>?_,fun hf=>?_⟩
  ·refine Sd ?_
   refine Ao ?_
   refine Rq ?_
   have:l.findIdx? p=some k:=by rw[List.findIdx?_eq_some_iff_getElem];exact⟨hk,ht,fun j hj=>by simpa using hI j (by omega) hj⟩
   rw[this]
  ·refine⟨[],List.Sublist.refl _,rfl,fun i h hi=>?_⟩
   by_cases e:i=k
   ·subst e;exact hf
   ·exact hI i h (by omega)
 ·rintro vs L' hvs ⟨rfl,hI⟩
  simp only[go_sem]
  refine Sd ?_
  refine Ao ?_
  refine Sd ?_
  refine Ao ?_
  refine Rq ?_
  have:l.findIdx? p=none:=by rw[List.findIdx?_eq_none_iff];intro x hx;obtain⟨i,hi,rfl⟩:=List.getElem_of_mem hx;exact hI i hi hi
  rw[this]
theorem sts_containsFunc (l:List (List Stp))(hl:l.length<=1000000)(g:AV)(hgf:fo g=(True,g))(p:(List Stp)->Bool)(hg:∀x ∈ l,PV prog g [aSts x] (ab (p x))) :
  PC prog 97 [aStss l,g] (ab (l.any p)):=by
 refine PE 9 [.tmp 4] [] func97 ?_;simp only[go_sem]
 refine Sd ?_
 refine AWp.of ?_;simp only[go_sem,hgf,aStss]
 refine(sts_indexFunc l hl g hgf p hg).val.use ?_
 simp only[go_sem]
 refine Sd ?_
 refine Ao ?_
 refine Rq ?_
 congr 2;exact findIdx_any l p
section
variable {ps:List Pr} (hv:validF ps=true)
include hv
theorem ord_at {p:Nat}(hp:p<ps.length){i:Nat}(hi:i<nev ps p):((List.range ps.length).map fun p=>AV.sl 1 ((exF ps [] p).map aInts)).getD p .any = .sl 1 ((exF ps [] p).map aInts)/\((exF ps [] p).map aInts).length=nev ps p+1/\((exF ps [] p).map aInts).getD (i+1) .any = .sl 1 ((ptF ps p i).map ai)/\(ptF ps p i).length=ps.length:=by
 have hW:=nil_whl hv p hp
 have hpt:=ex_nil_pt hv (nil_whl hv) hp hi
 refine⟨map_range_getD hp _,by rw[List.length_map,hW],?_,(isF_iff.1 (pt_isN hv hp hi)).1⟩
 rw[getD_map (by rw[hW];omega)]
 unfold stOf at hpt
 rw[List.getD_eq_getElem?_getD,List.getElem?_eq_getElem (by rw[hW];omega),Option.getD_some] at hpt
 rw[hpt];rfl
variable (hs:Sm ps)
include hs
theorem order_begins (w:Bool)(a o:Stp)(ha:a.1<ps.length/\a.2.2<=nev ps a.1)(ho:o.1<ps.length/\o.2.2<=nev ps o.1)(haf:a.2.1<=1000001) :
  PC prog 99 [aOrd ps (exF ps []) w,aStp a,aStp o] (ab (bgN ps a o)):=by
 obtain⟨a1,a2,a3⟩:=a
 obtain⟨o1,o2,o3⟩:=o
 obtain⟨ha1,ha3⟩:=ha
 obtain⟨ho1,ho3⟩:=ho
 simp only at ha1 ha3 ho1 ho3 haf
 have hB:bgN ps (a1,a2,a3) (o1,o2,o3)=(decide (a2=0) || (decide (o3=nev ps o1) || decide ((a2:Int)<=cAt (ptF ps o1 o3) a1))):=rfl
 have e1:aStp (a1,a2,a3) = .agg [ai a1,ai a2,ai a3]:=rfl
 have e2:aStp (o1,o2,o3) = .agg [ai o1,ai o2,ai o3]:=rfl
 have hps:=hs.procs
 have hgp:=getD_map (f:=aPr) ho1
 have hnv:=nev_get ho1
 have hel:=hs.evs _ (List.getElem_mem ho1)
 have e3:((a2:Int)=0)↔a2=0:=by omega
 have e4:((o3:Int)=ps[o1].evs.length)↔o3=nev ps o1:=by omega
 rw[e1,e2,hB]
 unfold aOrd
 by_cases h1:a2=0
 ·have h0:(decide (a2=0) || (decide (o3=nev ps o1) || decide ((a2:Int)<=cAt (ptF ps o1 o3) a1)))=true:=by simp [h1]
  rw[h0]
  have h1':(a2:Int)=0:=by omega
  refine PE 46 [.tmp 6] [4,5] func99 ?_;simp only[go_sem]
  refine Wk ?_
  refine Sq ?_
  refine AWp.read mixed [0,1,2,3,4,5,6,7,8,9,10,11,12,13,14,15,16,17,18] (by kernel_rfl) ?_;simp only[go_sem,hgp,h1']
  refine Sd ?_
  refine Wk ?_
  exact Rz
 ·by_cases h2:o3=nev ps o1
  ·have h0:(decide (a2=0) || (decide (o3=nev ps o1) || decide ((a2:Int)<=cAt (ptF ps o1 o3) a1)))=true:=by simp [h2]
   rw[h0]
   have h1':¬(a2:Int)=0:=by omega
   have h2':(o3:Int)=ps[o1].evs.length:=by omega
   refine PE 46 [.tmp 6] [4,5] func99 ?_;simp only[go_sem]
   refine Wk ?_
   refine Sq ?_
   refine AWp.read mixed [0,1,2,3,4,5,6,7,8,9,10,11,12,13,14,15,16,17,18] (by kernel_rfl) ?_;simp only[go_sem,hgp,h1',h2']
   refine Sd ?_
   refine Wk ?_
   exact Rz
  ·have h0:(decide (a2=0) || (decide (o3=nev ps o1) || decide ((a2:Int)<=cAt (ptF ps o1 o3) a1)))=decide ((a2:Int)<=cAt (ptF ps o1 o3) a1):=by simp [h1,h2]
   rw[h0]
   have h1':¬(a2:Int)=0:=by omega
   have h2':¬(o3:Int)=ps[o1].evs.length:=by omega
   obtain⟨g1,g2,g3,g4⟩:=ord_at hv ho1 (show o3<nev ps o1 by omega)
   have g5:((ptF ps o1 o3).map ai).getD a1 .any=ai (cAt (ptF ps o1 o3) a1):=by rw[getD_map (by omega),cAt_nat (by omega)]
   have g6:((o3:Int)+1).toNat=o3+1:=by omega
   have hTl:((List.range ps.length).map fun p=>AV.sl 1 ((exF ps [] p).map aInts)).length=ps.length:=by simp
   generalize ((List.range ps.length).map fun p=>AV.sl 1 ((exF ps [] p).map aInts))=T at *
   generalize cAt (ptF ps o1 o3) a1=z at *
   refine PE 46 [.tmp 6] [4,5] func99 ?_;simp only[go_sem]
   refine Wk ?_
   refine Sq ?_
   refine AWp.read mixed [0,1,2,3,4,5,6,7,8,9,10,11,12,13,14,15,16,17,18] (by kernel_rfl) ?_;simp only[go_sem,hgp,h1',h2']
   refine Sd ?_
   refine Wk ?_
   refine Sq ?_
   refine AWp.read mixed [0,1,2,3,4,5,6,7,8,9,10,11,12,13,14,15,16,17,18,19,20] (by kernel_rfl) ?_;simp only[go_sem,g1,g2,g3,g5,g6,hTl,g4]
   refine Sd ?_
   refine Wk ?_
   exact Rz
end
def rowsD (n:Nat)(rows:Nat->List Stp)(a:Nat->Nat):List AV:=(List.range n).map fun p=>.sl 3 (((rows p).drop (a p)).map aStp)
theorem rowsD_len (n:Nat)(rows:Nat->List Stp)(a:Nat->Nat):(rowsD n rows a).length=n:=by simp [rowsD]
theorem rowsD_get {n p:Nat}(hp:p<n)(rows:Nat->List Stp)(a:Nat->Nat):(rowsD n rows a).getD p .any = .sl 3 (((rows p).drop (a p)).map aStp):=map_range_getD hp _
theorem rowsD_set {n q:Nat}(rows:Nat->List Stp)(a:Nat->Nat):(rowsD n rows a).set q (.sl 3 ((((rows q).drop (a q)).map aStp).drop 1))=rowsD n rows (updN a q (a q+1)):=by
 unfold rowsD
 rw[map_range_set]
 congr 1;funext p
 by_cases e:p=q
 ·subst e;rw[if_pos rfl,updN_self,<- List.map_drop,List.drop_drop]
 ·rw[if_neg e,updN_ne e]
theorem rowsD_zero (n:Nat)(rows:Nat->List Stp):((List.range n).map rows).map aSts=rowsD n rows fun _=>0:=by unfold rowsD;rw[List.map_map];exact List.map_congr_left fun p _=>by rw[List.drop_zero];rfl
theorem rowsD_hd {rows:Nat->List Stp}{p i:Nat}(h:i<(rows p).length):(((rows p).drop i).map aStp).getD 0 .any=aStp (fSp rows p i):=by
 rw[fSp_eq h,List.getD_eq_getElem?_getD,List.getElem?_map,List.getElem?_drop,Nat.add_zero,List.getElem?_eq_getElem h];rfl
theorem rowsD_sh (rows:Nat->List Stp)(p i:Nat):(((rows p).drop i).map aStp).getD 0 .any = .any\/∃s1 s2 s3:Nat,(((rows p).drop i).map aStp).getD 0 .any = .agg [ai s1,ai s2,ai s3]:=by
 by_cases h:i<(rows p).length
 ·exact .inr ⟨_,_,_,rowsD_hd h⟩
 ·left
  rw[List.drop_of_length_le (by omega)];rfl
noncomputable def aTgt (ps:List Pr)(rows:Nat->List Stp):AV:=match tgtO ps rows with
 | some a=>.tup [.sl 3 ((chcL ps.length rows a).map aStp),ab true]
 | none=>.tup [.sl 3 [],ab false]
theorem aTgt_some {ps:List Pr}{rows:Nat->List Stp}{a:Nat->Nat}(h:LeastS ps rows a):aTgt ps rows = .tup [.sl 3 ((chcL ps.length rows a).map aStp),ab true]:=by
 obtain⟨a',h1,h2⟩:=tgtO_some h
 unfold aTgt
 rw[h1];dsimp only;rw[chcL_congr h2]
theorem aTgt_none {ps:List Pr}{rows:Nat->List Stp}(h:¬ ∃t,TgtS ps rows t):aTgt ps rows = .tup [.sl 3 [],ab false]:=by
 unfold aTgt;rw[tgtO_none h]
theorem order_tight1 (x:List Stp)(hx:x.length<=1000000):PC prog 98 [aSts x] (ab (decide (x.length=0))):=by
 have e:((x.length:Int)=0)↔x.length=0:=by omega
 have e1:aSts x = .sl 3 (x.map aStp):=rfl
 rw[e1]
 refine PE 6 [.tmp 2] [] func98 ?_;simp only[go_sem]
 refine W1 e ?_
 exact Rz
set_option maxHeartbeats 1000000 in
theorem order_tight (ps:List Pr)(hs:Sm ps)(hv:validF ps=true)(w:Bool){b:Nat->Nat->Bool}{rows:Nat->List Stp}(hR:RowsOk ps b rows)(hlen:∀p,p<ps.length->(rows p).length<=1000000) :
  PC prog 56 [aOrd ps (exF ps []) w,aStss ((List.range ps.length).map rows)] (aTgt ps rows):=by
 obtain⟨hl1,hl8⟩:=valid_len hv
 have hmon:=mon_rows hR
 have hT1:=fun a h=>aTgt_some (ps:=ps) (rows:=rows) (a:=a) h
 have hT2:=fun h=>aTgt_none (ps:=ps) (rows:=rows) h
 have hbg:=fun a o h1 h2 h3=>order_begins hv hs w a o h1 h2 h3
 have hin:=fun p hp s hs=>rows_in hR (p:=p) hp s hs
 have hnb:=fun p (hp:p<ps.length)=>show nev ps p<=1000000 by rw[nev_get hp];exact hs.evs _ (List.getElem_mem hp)
 have hel:=fun p (hp:p<ps.length) i (hi:i<(rows p).length)=>(hR p hp).el _ (List.getElem_mem hi)
 obtain⟨O,hO⟩:∃O,O=aOrd ps (exF ps []) w:=⟨_,rfl⟩
 have hOf:fo O=(True,O):=by rw[hO];rfl
 rw[<- hO] at hbg ⊢
 have hrl:((List.range ps.length).map rows).length=ps.length:=by simp
 have hcl:=sts_cloneO ((List.range ps.length).map rows) (by omega)
 rw[rowsD_zero] at hcl
 have hss:aStss ((List.range ps.length).map rows) = .sl 1 (rowsD ps.length rows fun _=>0):=by rw[<- rowsD_zero];rfl
 rw[hss] at hcl ⊢
 generalize aTgt ps rows=R at *
 refine PE 75 [.tmp 4,.tmp 5] [71] func56 ?_;simp only[go_sem]
 refine W1 hOf ?_
 refine hcl.val.mono ?_
 rintro r L hA
 rcases hA.inv with ⟨e1,_,_⟩|⟨bl,cap,rfl,rfl⟩
 ·have:=congrArg List.length e1
  rw[rowsD_len,List.length_nil] at this
  omega
 rw[rowsD_len]
 clear hcl hss
 simp only[go_sem,hOf]
 refine AWp.block (AWp.loopN [] [0,1] (fun m vs L=>vs=[]/\∃a:Nat->Nat,m=totS ps.length (fun p=>(rows p).length - a p)/\L=[(bl,.row 72 1 (rowsD ps.length rows a) cap)]/\(∀t,TgtS ps rows t->∀p,p<ps.length->a p<=t p)/\∀p,p<ps.length->a p<=(rows p).length) (totS ps.length fun p=>(rows p).length - 0) ⟨rfl,fun _=>0,rfl,rfl,fun _ _ _ _=>Nat.zero_le _,fun _ _=>Nat.zero_le _⟩ ?_)
 rintro m vs L - ⟨rfl,a,rfl,rfl,hlow,hle⟩
 have hrow:rowsD ps.length rows a=((List.range ps.length).map fun p=>(rows p).drop (a p)).map aSts:=by unfold rowsD;rw[List.map_map];rfl
 have hct:=sts_containsFunc ((List.range ps.length).map fun p=>(rows p).drop (a p)) (by simp;omega) (.v (.func (.func 98) #[] #[])) rfl (fun x=>decide (x.length=0)) (fun x hx=>by
  obtain⟨p,hp,rfl⟩:=List.mem_map.1 hx
  have:=hlen p (List.mem_range.1 hp)
  exact(order_tight1 _ (by rw[List.length_drop];omega)).val)
 have hss:aStss ((List.range ps.length).map fun p=>(rows p).drop (a p)) = .sl 1 (rowsD ps.length rows a):=by rw[hrow];rfl
 rw[hss] at hct
 have hany:((List.range ps.length).map fun p=>(rows p).drop (a p)).any (fun x=>decide (x.length=0))=true↔∃p,p<ps.length/\(rows p).length<=a p:=by
  rw[List.any_map,List.any_eq_true]
  simp only[List.mem_range,Function.comp,decide_eq_true_eq,List.length_drop]
  exact⟨fun ⟨p,h1,h2⟩=>⟨p,h1,by omega⟩,fun ⟨p,h1,h2⟩=>⟨p,h1,by omega⟩⟩
 generalize hac:((List.range ps.length).map fun p=>(rows p).drop (a p)).any (fun x=>decide (x.length=0))=ac at *
 simp only[go_sem,hOf]
 refine AWp.block ?_
 refine W1 hOf ?_
 have hvw:∀xs,Vws [(bl,.row 72 1 (rowsD ps.length rows a) cap)] (.ls bl 1 0 ps.length cap :: xs) (.sl 1 (rowsD ps.length rows a) :: xs):=fun xs=>Vws.cons (Vw.ofLs (if_pos rfl) (rowsD_len _ _ _).symm) (Vws.refl _)
 refine(PC.view (hvw _) hct (Own.v _) ?_).val
 simp only[go_sem,hOf]
 refine W1 hOf ?_
 constructor<;>intro h1
 ·obtain⟨p,hp,hpa⟩:=hany.1 (by simpa using h1)
  rw[hT2 (tgt_none hlow hp hpa)]
  refine Wk ?_
  refine ret_view [] ?_;simp only[go_sem]
  exact .mkTup (Vws.cons (.nil 3) (Vws.refl _))
 have hlt:∀p,p<ps.length->a p<(rows p).length:=fun p hp=>Nat.lt_of_not_le fun h=>by
  have:=hany.2 ⟨p,hp,h⟩
  rw[this] at h1;cases h1
 have hfo:=fun p (hp:p<ps.length)=>rowsD_hd (hlt p hp)
 clear hct hss hrow hac hany hvw
 refine W1 hOf ?_
 refine AWp.range' ps.length [6] [0,1,17] (fun k vs L=>∃(a':Nat->Nat) (mv:Bool),vs=[ab mv]/\L=[(bl,.row 72 1 (rowsD ps.length rows a') cap)]/\(mv=false->a'=a/\∀p q,p<k->q<ps.length->p ≠ q->bgN ps (fSp rows p (a p)) (fSp rows q (a q))=true) /\
  (mv=true->∃q,q<ps.length/\a'=updN a q (a q+1)/\∀t,TgtS ps rows t->∀r,r<ps.length->(if r=q then a q+1 else a r)<=t r)) (by omega) rfl rfl rfl ⟨a,false,rfl,rfl,fun _=>⟨rfl,fun p q h=>by omega⟩,fun h=>by cases h⟩ ?_ ?_
 ·rintro k vs L hk - ⟨a1,m1,rfl,rfl,hf1,ht1⟩
  simp only[go_sem,hOf]
  refine W1 hOf ?_
  refine AWp.range' ps.length [6] [0,1,7,17,18,22] (fun j vs L=>∃(a':Nat->Nat) (mv:Bool),vs=[ab mv]/\L=[(bl,.row 72 1 (rowsD ps.length rows a') cap)]/\(mv=false->a'=a/\(∀p q,p<k->q<ps.length->p ≠ q->bgN ps (fSp rows p (a p)) (fSp rows q (a q))=true)/\∀q,q<j->k ≠ q->bgN ps (fSp rows k (a k)) (fSp rows q (a q))=true) /\
   (mv=true->∃q,q<ps.length/\a'=updN a q (a q+1)/\∀t,TgtS ps rows t->∀r,r<ps.length->(if r=q then a q+1 else a r)<=t r)) (by omega) rfl rfl rfl ⟨a1,m1,rfl,rfl,fun h=>⟨(hf1 h).1,(hf1 h).2,fun q h=>by omega⟩,ht1⟩ ?_ ?_
  ·rintro j vs L hj - ⟨a2,m2,rfl,rfl,hf2,ht2⟩
   have hkj:((k:Int)=j)↔k=j:=by omega
   cases m2 with
   | true =>
    have g1:=rowsD_get hk rows a2
    have g2:=rowsD_get hj rows a2
    have hl2:=rowsD_len ps.length rows a2
    have q1:=rowsD_sh rows k (a2 k)
    have q2:=rowsD_sh rows j (a2 j)
    generalize ((rows k).drop (a2 k)).map aStp=X at *
    generalize ((rows j).drop (a2 j)).map aStp=Y at *
    rcases q1 with q1|⟨s1,s2,s3,q1⟩ <;> rcases q2 with q2|⟨u1,u2,u3,q2⟩ <;> (
     simp only[go_sem,hOf]
     refine W1 hOf ?_
     refine Sq ?_
     refine AWp.read mixed [0,1,2,3,4,5,6,7,8,9,10,11,12,13,14,15,16,17,18,19,20,21,22,23] (by kernel_rfl) ?_;simp only[go_sem,g1,g2,hl2,q1,q2,hOf,hkj]
     refine GCall.use (ab false) (fun h=>absurd h (by simp)) ?_
     simp only[go_sem,hOf]
     refine Sd ?_
     refine W1 hOf ?_
     exact⟨_,.refl _,a2,true,rfl,rfl,fun h=>(by cases h),ht2⟩)
   | false =>
    obtain⟨rfl,hA1,hA2⟩:=hf2 rfl
    have g1:=rowsD_get hk rows a2
    have g2:=rowsD_get hj rows a2
    have hl2:=rowsD_len ps.length rows a2
    have q1:=hfo k hk
    have q2:=hfo j hj
    have hkl:=hel k hk (a2 k) (hlt k hk)
    have hjl:=hel j hj (a2 j) (hlt j hj)
    rw[<- fSp_eq] at hkl hjl
    obtain⟨c1,c2,c3,_⟩:=hkl
    obtain⟨d1,d2,d3,_⟩:=hjl
    have hb:=hbg (fSp rows k (a2 k)) (fSp rows j (a2 j)) ⟨by rw[c1];exact hk,by rw[c1];omega⟩ ⟨by rw[d1];exact hj,by rw[d1];omega⟩ (by have:=hnb k hk;omega)
    have hst:k ≠ j->bgN ps (fSp rows k (a2 k)) (fSp rows j (a2 j))=false->∀t,TgtS ps rows t->∀r,r<ps.length->(if r=j then a2 j+1 else a2 r)<=t r:=fun hne h=>tgt_step hmon hlow hk hj hne h
    have hset:=rowsD_set (n:=ps.length) (q:=j) rows a2
    have hA3:bgN ps (fSp rows k (a2 k)) (fSp rows j (a2 j))=true\/k=j->∀q,q<j+1->k ≠ q->bgN ps (fSp rows k (a2 k)) (fSp rows q (a2 q))=true:=fun h q hq hkq=>by
     by_cases e:q=j
     ·subst e
      rcases h with h|h
      ·exact h
      ·exact absurd h hkq
     ·exact hA2 q (by omega) hkq
    have hlr:=hlen j hj
    have hdl:(((rows j).drop (a2 j)).map aStp).length=(rows j).length - a2 j:=by rw[List.length_map,List.length_drop]
    have hltj:=hlt j hj
    have hlrk:=hlen k hk
    have hdlk:(((rows k).drop (a2 k)).map aStp).length=(rows k).length - a2 k:=by rw[List.length_map,List.length_drop]
    have hltk:=hlt k hk
    generalize bgN ps (fSp rows k (a2 k)) (fSp rows j (a2 j))=B at *
    have es:aStp (fSp rows k (a2 k)) = .agg [ai (fSp rows k (a2 k)).1,ai (fSp rows k (a2 k)).2.1,ai (fSp rows k (a2 k)).2.2]:=rfl
    have eu:aStp (fSp rows j (a2 j)) = .agg [ai (fSp rows j (a2 j)).1,ai (fSp rows j (a2 j)).2.1,ai (fSp rows j (a2 j)).2.2]:=rfl
    rw[es] at hb q1
    rw[eu] at hb q2
    generalize ((rows k).drop (a2 k)).map aStp=X at *
    generalize ((rows j).drop (a2 j)).map aStp=Y at *
    by_cases hne:k=j
    ·subst hne
     simp only[go_sem,hOf]
     refine W1 hOf ?_
     refine Sq ?_
     refine AWp.read mixed [0,1,2,3,4,5,6,7,8,9,10,11,12,13,14,15,16,17,18,19,20,21,22,23] (by kernel_rfl) ?_;simp only[go_sem,g1,g2,hl2,q1,q2,hOf]
     refine GCall.use (ab false) (fun h=>absurd h (by simp)) ?_
     simp only[go_sem,hOf]
     refine Sd ?_
     refine W1 hOf ?_
     exact⟨_,.refl _,a2,false,rfl,rfl,fun _=>⟨rfl,hA1,hA3 (.inr rfl)⟩,fun h=>by cases h⟩
    ·simp only[go_sem,hOf]
     refine W1 hOf ?_
     refine Sq ?_
     refine AWp.read mixed [0,1,2,3,4,5,6,7,8,9,10,11,12,13,14,15,16,17,18,19,20,21,22,23] (by kernel_rfl) ?_;simp only[go_sem,g1,g2,hl2,q1,q2,hOf,hkj,hne]
     refine Sd ?_
     refine Sd ?_
     refine GCall.use (ab B) (fun _=>⟨At,(hb).val.use ⟨rfl,rfl⟩⟩) ?_;simp only[go_sem,hOf]
     refine Sd ?_
     refine W4 hOf g1 g2 hl2 ?_
     constructor<;>intro h3
     ·refine W4 g1 g2 hl2 hOf ?_
      refine Sd ?_
      rw[hset]
      refine⟨_,.refl _,_,true,rfl,rfl,fun h=>(by cases h),fun _=>⟨j,hj,rfl,hst hne (by simpa using h3)⟩⟩
     ·refine W1 hOf ?_
      exact⟨_,.refl _,a2,false,rfl,rfl,fun _=>⟨rfl,hA1,hA3 (.inl (by simpa using h3))⟩,fun h=>by cases h⟩
  ·rintro vs L - ⟨a2,m2,rfl,rfl,hf2,ht2⟩
   simp only[go_sem,hOf]
   refine W1 hOf ?_
   refine⟨_,.refl _,a2,m2,rfl,rfl,fun h=>?_,ht2⟩
   obtain⟨e1,e2,e3⟩:=hf2 h
   refine⟨e1,fun p q hp hq hpq=>?_⟩
   by_cases e:p=k
   ·subst e;exact e3 q hq hpq
   ·exact e2 p q (by omega) hq hpq
 ·rintro vs L - ⟨a1,m1,rfl,rfl,hf1,ht1⟩
  simp only[go_sem,hOf]
  refine W1 hOf ?_
  constructor<;>intro h2
  ·obtain⟨q,hq,rfl,hlow2⟩:=ht1 (by simpa using h2)
   have hlq:=hlt q hq
   refine⟨_,.refl _,_,?_,updN a q (a q+1),rfl,rfl,fun t ht p hp=>?_,fun p hp=>?_⟩
   ·refine totS_lt2 ps.length (p:=q) (fun r _=>?_) hq ?_
    ·by_cases e:r=q
     ·subst e;rw[updN_self];omega
     ·rw[updN_ne e];exact Nat.le_refl _
    ·rw[updN_self];omega
   ·have:=hlow2 t ht p hp
    unfold updN
    split
    ·rename_i e;rw[if_pos e] at this;omega
    ·rename_i e;rw[if_neg e] at this;omega
   ·by_cases e:p=q
    ·subst e;rw[updN_self];omega
    ·rw[updN_ne e];exact hle p hp
  ·obtain⟨rfl,hall⟩:=hf1 (by simpa using h2)
   have htgt:TgtS ps rows a1:=⟨fun p hp=>hlt p hp,fun p q hp hq hpq=>hall p q hp hq hpq⟩
   rw[hT1 a1 ⟨htgt,hlow⟩]
   refine W1 hOf ?_
   have hl2:=rowsD_len ps.length rows a1
   refine AWp.range' ps.length [9] [61,62] (fun k vs L=>∃v Lq,vs=[v]/\L=Lq ++ [(bl,.row 72 1 (rowsD ps.length rows a1) cap)]/\AppSt 77 3 ((chcL k rows a1).map aStp) v Lq/\∀x ∈ Lq,x.1 ≠ bl) (by omega) rfl rfl rfl ⟨anil,[],rfl,rfl,.nil,by simp⟩ ?_ ?_
   ·rintro k vs L hk - ⟨v,Lq,rfl,rfl,hAp,hq⟩
    have g1:=rowsD_get hk rows a1
    have q1:=hfo k hk
    have hltk:=hlt k hk
    have hdlk:(((rows k).drop (a1 k)).map aStp).length=(rows k).length - a1 k:=by rw[List.length_map,List.length_drop]
    have hsu:=congrArg (List.map aStp) (chcL_succ k rows a1)
    rw[List.map_append] at hsu
    have hyl:((chcL k rows a1).map aStp).length=k:=by rw[List.length_map,chcL_len]
    have hfo:=hAp.fo
    have es:[fSp rows k (a1 k)].map aStp=[aStp (fSp rows k (a1 k))]:=rfl
    have es2:aStp (fSp rows k (a1 k)) = .agg [ai (fSp rows k (a1 k)).1,ai (fSp rows k (a1 k)).2.1,ai (fSp rows k (a1 k)).2.2]:=rfl
    rw[es] at hsu
    rw[es2] at hsu q1
    generalize hys:(chcL k rows a1).map aStp=ys at *
    generalize fSp rows k (a1 k)=s at *
    generalize ((rows k).drop (a1 k)).map aStp=X at *
    rcases hAp.inv with ⟨e1,rfl,rfl⟩|⟨bq,cap2,rfl,rfl⟩
    ·rw[e1] at hsu
     simp only[go_sem,List.nil_append]
     refine W4 g1 q1 hl2 hOf ?_
     intro b' cap' g8 g9
     have n3:¬b'=bl:=by omega
     have n4:¬bl=b':=by omega
     refine W2 n3 n4 ?_
     refine⟨_,.refl _,.ls b' 3 0 1 cap',[(b',.row 77 3 ((chcL (k+1) rows a1).map aStp) cap')],rfl,?_,?_,?_⟩
     ·rw[hsu];rfl
     ·rw[hsu];exact .row _ _ _
     ·intro y hy;simp only[List.mem_singleton] at hy;subst hy;exact n3
    ·have nq:=hq (bq,.row 77 3 ys cap2) (by simp)
     simp only at nq
     have nq1:¬bl=bq:=fun e=>nq e.symm
     simp only[go_sem,List.cons_append,List.nil_append]
     refine W6 g1 q1 hl2 nq nq1 hOf ?_
     intro b' cap' g8 g9
     have n3:¬b'=bl:=by omega
     have n4:¬bl=b':=by omega
     refine W2 n3 n4 ?_
     refine⟨_,.refl _,.ls b' 3 0 (ys.length+1) cap',[(b',.row 77 3 ((chcL (k+1) rows a1).map aStp) cap')],rfl,?_,?_,?_⟩
     ·rw[hsu];rfl
     ·rw[hsu];exact AppSt.snoc b' cap' _ rfl
     ·intro y hy;simp only[List.mem_singleton] at hy;subst hy;exact n3
   ·rintro vs L - ⟨v,Lq,rfl,rfl,hAp,hq⟩
    have hyl:((chcL ps.length rows a1).map aStp).length=ps.length:=by rw[List.length_map,chcL_len]
    rcases hAp.inv with ⟨e1,_,_⟩|⟨bq,cap2,rfl,rfl⟩
    ·rw[e1] at hyl;simp at hyl;omega
    simp only[go_sem,List.cons_append,List.nil_append]
    refine W1 hOf ?_
    refine ret_view [true,false] ?_;simp only[go_sem]
    exact .mkTup (Vws.cons (Vw.ofLs (if_pos rfl) (List.length_map _).symm) (Vws.refl _))
end Go.AL
end
