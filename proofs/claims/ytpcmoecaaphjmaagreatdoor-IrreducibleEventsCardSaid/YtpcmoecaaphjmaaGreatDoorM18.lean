/- Texts of this claim's proof: WY2, WY3, WY6, WY8, WY5, WY11, WY12, WY13, WY14, WY15, WY7, WY9, WY16, WY39, WY31, WY20, WY35, WY36, WY32, WY33, WY10, WY17, WY19, WY34, WY4, WY22, WY21, WU15, WY23, WY24, WY25, WY26, WY27, WY28, WY37, WY38, WY40, WY29, WZ11, WZ14, WZ15, WI14, WI15, WI18. No condition. -/
import Derived.Test.YtpcmoecaaphjmaaGreatDoorM17
import Derived.Test.YtpcmoecaaphjmaaGreatDoorM11
import Derived.Test.YtpcmoecaaphjmaaGreatDoorM13
import Derived.Test.YtpcmoecaaphjmaaGreatDoorM10
import Derived.Test.YtpcmoecaaphjmaaGreatDoorM9
import Derived.Test.YtpcmoecaaphjmaaGreatDoorM8
import Derived.Test.YtpcmoecaaphjmaaGreatDoorM7
import Derived.Test.YtpcmoecaaphjmaaGreatDoorM5
import Derived.Test.YtpcmoecaaphjmaaGreatDoorM12
import Derived.Test.YtpcmoecaaphjmaaGreatDoorM14
import Derived.Test.YtpcmoecaaphjmaaGreatDoorM16
section
namespace Go.AL
open Go Go.RowKit
set_option maxRecDepth 4000
structure HoldX (ps:List Pr) (l:List Syn) (bad:Nat→Nat→Bool) (d:Nat→Nat):Prop where
 rng:∀p,p<ps.length→d p≤nev ps p
 bad:∀p,p<ps.length→bad p (d p)=true
 clo:∀a,a<ps.length→∀i,i<nev ps a→i+1≤d a→∀y ∈ dirX ps l a i,y.2≤d y.1.toNat
open Classical in
noncomputable def ctlB (ps:List Pr) (l:List Syn) (bad:Nat→Nat→Bool):Bool:=decide (¬ ∃d,HoldX ps l bad d)
open Classical in
theorem ctlB_true {ps:List Pr} {l:List Syn} {bad:Nat→Nat→Bool} : ctlB ps l bad=true↔¬ ∃d,HoldX ps l bad d:=by unfold ctlB;exact decide_eq_true_iff
def WhlX (ps:List Pr) (S:Nat→List (List Int)):Prop:=∀p,p<ps.length→(S p).length=nev ps p+1
section
variable {ps:List Pr} {l:List Syn} {bad:Nat→Nat→Bool} {S:Nat→List (List Int)} (hv:validF ps=true) (hl:SynOk ps l) (hG:GenX ps l S) (hW:WhlX ps S)
include hv hl hG hW
theorem ctl_stop {c:Nat→Nat} (hr:∀p,p<ps.length→c p≤nev ps p) (hb:∀p,p<ps.length→bad p (c p)=true)
  (hx:∀p q,p<ps.length→q<ps.length→q ≠ p→(stOf S q (c q)).getD p 0≤(c p:Int)):HoldX ps l bad c:=by
 refine⟨hr,hb,fun a ha i hi hd y hy => ?_⟩
 have hst:=hG.st hv hl a (c a) (by rw[hW a ha];have:=hr a ha;omega)
 have hown:=hst.own ha
 have h1:=hst.clo a ha i hi (by simp only;rw[hown];omega) y hy
 simp only at h1
 obtain⟨_,y2,_,_⟩:=dirX_ev hv hl ha hi y hy
 by_cases e:a=y.1.toNat
 ·rw[← e] at h1 ⊢
  omega
 ·have:=hx y.1.toNat a (by omega) ha e
  omega
end
def RnkX (ps:List Pr) (l:List Syn) (r:Eid→Nat):Prop:=∀p,p<ps.length→∀i,i<nev ps p→∀y ∈ dirX ps l p i,r y<r ((p:Int),(i:Int)+1)
theorem RnkX.sub {ps:List Pr} {l l':List Syn} {r:Eid→Nat} (h:RnkX ps l r) (hs:∀s ∈ l',s ∈ l):RnkX ps l' r:=fun p hp i hi y hy=>by
 refine h p hp i hi y ?_
 unfold dirX at hy ⊢
 rcases List.mem_append.1 hy with hy|hy
 ·exact List.mem_append_left _ hy
 ·obtain⟨s,h1,rfl⟩:=List.mem_map.1 hy
  obtain⟨h2,h3⟩:=List.mem_filter.1 h1
  exact List.mem_append_right _ (List.mem_map.2 ⟨s,List.mem_filter.2 ⟨hs s h2,h3⟩,rfl⟩)
theorem SynOk.sub {ps:List Pr} {l l':List Syn} (h:SynOk ps l) (hs:∀s ∈ l',s ∈ l):SynOk ps l':=fun s hx=>h s (hs s hx)
end Go.AL
end
section
namespace Go.AL
open Go Go.RowKit
set_option maxRecDepth 4000
section
variable {ps:List Pr}
end
def excB (n:Nat) (S:Nat→List (List Int)) (c:Nat→Nat) (p:Nat):Bool:=(List.range n).any fun q=>decide (q ≠ p) && decide ((c p:Int)<(stOf S q (c q)).getD p 0)
theorem excB_iff {n:Nat} {S:Nat→List (List Int)} {c:Nat→Nat} {p:Nat} : excB n S c p=true↔∃q,q<n∧q ≠ p∧(c p:Int)<(stOf S q (c q)).getD p 0:=by
 unfold excB
 rw[List.any_eq_true]
 constructor
 ·rintro⟨q,h1,h2⟩
  rw[Bool.and_eq_true,decide_eq_true_eq,decide_eq_true_eq] at h2
  exact⟨q,List.mem_range.1 h1,h2.1,h2.2⟩
 ·rintro⟨q,h1,h2,h3⟩
  exact⟨q,List.mem_range.2 h1,by rw[decide_eq_true h2,decide_eq_true h3];rfl⟩
def UpX (ps:List Pr) (l:List Syn) (bad:Nat→Nat→Bool) (c:Nat→Nat):Prop:=∀d,HoldX ps l bad d→∀p,p<ps.length→c p≤d p
theorem UpX.stop {ps:List Pr} {l:List Syn} {bad:Nat→Nat→Bool} {S:Nat→List (List Int)} (hv:validF ps=true) (hl:SynOk ps l) (hG:GenX ps l S) (hW:WhlX ps S) {c:Nat→Nat} (hr:∀p,p<ps.length→c p≤nev ps p)
  (h:∀p,p<ps.length→bad p (c p)=true∧excB ps.length S c p=false):ctlB ps l bad=false:=by
 cases hc:ctlB ps l bad with
 | false=>rfl
 | true =>
  refine absurd ⟨c,ctl_stop hv hl hG hW hr (fun p hp=>(h p hp).1) fun p q hp hq hne => ?_⟩ (ctlB_true.1 hc)
  refine Int.not_lt.1 fun hlt => ?_
  have:=(h p hp).2
  rw[excB_iff.2 ⟨q,hq,hne,hlt⟩] at this;cases this
section
variable {ps:List Pr} {l:List Syn} {S:Nat→List (List Int)} (hv:validF ps=true) (hl:SynOk ps l) (hG:GenX ps l S)
include hv hl hG
end
section
variable {ps:List Pr} (hv:validF ps=true)
include hv
variable (hs:Sm ps)
include hs
end
section
variable {ps:List Pr} (hv:validF ps=true)
include hv
variable (hs:Sm ps)
include hs
end
def FamS (tO tI:TypeId) (k n:Nat) (Y:Nat→List AV) (v:AV) (L:AHeap):Prop :=
 ∃Lv V Ls,L.Perm (Lv ++ famL n Ls)∧AppSt tO 1 ((List.range n).map V) v Lv∧∀q,q<n→AppSt tI k (Y q) (V q) (Ls q)
section
variable {tO tI:TypeId} {k n:Nat} {Y:Nat→List AV} {v:AV} {L:AHeap}
theorem FamS.nil (Y:Nat→List AV):FamS tO tI k 0 Y anil []:=⟨[],fun _=>anil,fun _=>[],by simp [famL],.nil,fun q h=>by omega⟩
theorem fam_more {n:Nat} {Ls:Nat→AHeap} (Lx:AHeap):(famL (n+1) (fun q=>if q=n then Lx else Ls q)).Perm (Lx ++ famL n Ls):=by
 unfold famL
 rw[List.range_succ,List.flatMap_append]
 have e:(List.range n).flatMap (fun q=>if q=n then Lx else Ls q)=(List.range n).flatMap Ls:=flatMap_ext fun q hq=>if_neg (by have:=List.mem_range.1 hq;omega)
 rw[e]
 simp only[List.flatMap_cons,List.flatMap_nil,if_true,List.append_nil]
 exact List.perm_append_comm
theorem map_more {n:Nat} {V:Nat→AV} (x:AV):(List.range (n+1)).map (fun q=>if q=n then x else V q)=(List.range n).map V ++ [x]:=by
 rw[List.range_succ,List.map_append]
 congr 1
 ·exact List.map_congr_left fun q hq=>if_neg (by have:=List.mem_range.1 hq;omega)
 ·simp
theorem FamS.snoc {V:Nat→AV} {Ls:Nat→AHeap} {x v':AV} {Lx Lv' L':AHeap} (hF:∀q,q<n→AppSt tI k (Y q) (V q) (Ls q)) (hx:AppSt tI k (Y n) x Lx) (hA:AppSt tO 1 ((List.range n).map V ++ [x]) v' Lv') (hp:L'.Perm (Lv' ++ (Lx ++ famL n Ls))):FamS tO tI k (n+1) Y v' L':=by
 refine⟨Lv',fun q=>if q=n then x else V q,fun q=>if q=n then Lx else Ls q,hp.trans (List.Perm.append_left _ (fam_more Lx).symm),?_,fun q hq => ?_⟩
 ·rw[map_more];exact hA
 ·by_cases e:q=n
  ·subst e;dsimp only;rw[if_pos rfl,if_pos rfl];exact hx
  ·dsimp only;rw[if_neg e,if_neg e];exact hF q (by omega)
theorem FamS.congr {Y':Nat→List AV} (h:FamS tO tI k n Y v L) (e:∀q,q<n→Y' q=Y q):FamS tO tI k n Y' v L:=by
 obtain⟨Lv,V,Ls,h1,h2,h3⟩:=h
 exact⟨Lv,V,Ls,h1,h2,fun q hq=>by rw[e q hq];exact h3 q hq⟩
theorem FamS.perm {L':AHeap} (h:FamS tO tI k n Y v L) (hp:L'.Perm L):FamS tO tI k n Y v L':=by
 obtain⟨Lv,V,Ls,h1,h2,h3⟩:=h
 exact⟨Lv,V,Ls,hp.trans h1,h2,h3⟩
theorem AWp.famView {C:Cfg} {c:Code} {Q:AQ} {ρ:Env} {j:Nat} (h:FamS tO tI k n Y v L) (hj:get ρ j=v) (hw:AWp C c Q ((j,.sl 1 ((List.range n).map fun q => .sl k (Y q))) :: ρ) []):AWp C c Q ρ L:=by
 obtain⟨Lv,V,Ls,h1,h2,h3⟩:=h
 refine AWp.nodup fun hnd => ?_
 have hnd':((famL n Ls).map (·.1)).Nodup:=by
  have:=(h1.map (·.1)).nodup_iff.1 hnd
  rw[List.map_append,List.nodup_append] at this
  exact this.2.1
 rcases h2.inv with ⟨e1,e2,e3⟩|⟨bo,cap,e2,e3⟩
 ·have h0:n=0:=by have:=congrArg List.length e1;simpa using this
  subst h0
  subst e3
  refine AWp.viewP (Lf:=[]) (Lk:=[]) (L':=[]) (by simpa [famL] using h1) (LVw.refl _) [(j,_)] (fun q hq => ?_) hw
  simp only[List.mem_singleton] at hq
  subst hq
  rw[hj,e2]
  exact .nil 1
 ·subst e3
  have hp:L.Perm (famL n Ls ++ [(bo,.row tO 1 ((List.range n).map V) cap)]):=h1.trans List.perm_append_comm
  refine AWp.viewP hp (.row (fam_views hnd' h3) (LVw.none _)) [] (by simp) ?_
  refine AWp.viewP (Lf:=[(bo,.row tO 1 ((List.range n).map fun q => .sl k (Y q)) cap)]) (Lk:=[]) (L':=[]) (.refl _) (LVw.refl _) [(j,_)] (fun q hq => ?_) hw
  simp only[List.mem_singleton] at hq
  subst hq
  show Vw _ (get ρ j) _
  rw[hj,e2]
  exact Vw.ofLs (t:=tO) (cap:=cap) (if_pos rfl) (by simp)
theorem FamS.open (h:FamS tO tI k n Y v L) {p:Nat} (hp:p<n) :
  ∃bo cap V Ls,v = .ls bo 1 0 n cap∧L.Perm ((bo,.row tO 1 ((List.range n).map V) cap) :: (Ls p ++ famR n p Ls))∧AppSt tI k (Y p) (V p) (Ls p) ∧
   ∀(Y':Nat→List AV) (x:AV) (Lp L':AHeap),(∀q,q ≠ p→Y' q=Y q)→AppSt tI k (Y' p) x Lp→L'.Perm ((bo,.row tO 1 (((List.range n).map V).set p x) cap) :: (Lp ++ famR n p Ls))→FamS tO tI k n Y' v L':=by
 obtain⟨Lv,V,Ls,h1,h2,h3⟩:=h
 rcases h2.inv with ⟨e1,_,_⟩|⟨bo,cap,e2,e3⟩
 ·have h0:n=0:=by have:=congrArg List.length e1;simpa using this
  omega
 ·have hlen:((List.range n).map V).length=n:=by simp
  rw[hlen] at e2
  subst e3
  refine⟨bo,cap,V,Ls,e2,h1.trans ((fam_split hp Ls).cons _),h3 p hp,fun Y' x Lp L' hY hx hL => ?_⟩
  refine⟨[(bo,.row tO 1 (((List.range n).map V).set p x) cap)],fun q=>if q=p then x else V q,fun q=>if q=p then Lp else Ls q,?_,?_,fun q hq => ?_⟩
  ·refine hL.trans (List.Perm.cons _ ?_)
   have hsp:=fam_split hp (fun q=>if q=p then Lp else Ls q)
   rw[if_pos rfl,famR_congr (Ls:=Ls) (fun q hq=>if_neg hq)] at hsp
   exact hsp.symm
  ·rw[← map_range_set,e2]
   have:=AppSt.row (t:=tO) (k:=1) bo (((List.range n).map V).set p x) cap
   rwa [List.length_set,hlen] at this
  ·by_cases e:q=p
   ·subst e;dsimp only;rw[if_pos rfl,if_pos rfl];exact hx
   ·dsimp only;rw[if_neg e,if_neg e,hY q e];exact h3 q hq
end
theorem nd1 {b:Nat} {x:ABlk} {r:AHeap} (h:(((b,x) :: r:AHeap).map (·.1)).Nodup):∀z ∈ r,¬b=z.1∧¬z.1=b:=by
 simp only[List.map_cons,List.nodup_cons,List.mem_map,not_exists,not_and] at h
 exact fun z hz=>⟨fun e=>h.1 z hz e.symm,h.1 z hz⟩
section
variable {ps:List Pr} {bad:List Int→Bool} {c:List Int}
def FwdX (ps:List Pr) (bad:List Int→Bool) (c:List Int):Prop:=∃R,chnF ps (zeroC ps) R=true∧(zeroC ps :: R).getLast?=some c∧∀d ∈ zeroC ps :: R,bad d=false
open Classical in
noncomputable def opnL (ps:List Pr) (bad:List Int→Bool) (cs:List (List Int)):List (List Int):=cs.filter fun c=>decide (FwdX ps bad c)
end
section
variable {ps:List Pr} {b:Nat→Nat→Bool}
end
mutual
def ftF:Pd→Int→Int→Bool × Int
 | .mk _ _ _ _ s l,n,d=>if 0≤n - 1∧d≤60∧(s.size:Int)≤100 then (!(ftL l (n - 1) (d+1)).1,(ftL l (n - 1) (d+1)).2) else (false,n - 1)
def ftL:List Pd→Int→Int→Bool × Int
 | [],n,_=>(false,n)
 | x :: r,n,d=>if (ftF x n d).1=true then ftL r (ftF x n d).2 d else (true,(ftF x n d).2)
end
section
variable {ps:List Pr} (hva:PC Proofs.Tryz.prog 72 [aTr ps] (ab false))
include hva
end
inductive PthK (f:Nat→Nat→Bool) (k:Nat):Nat→Nat→Prop
 | one {i j:Nat} : f i j=true→PthK f k i j
 | cons {i m j:Nat} : f i m=true→m<k→PthK f k m j→PthK f k i j
theorem PthK.mono {f:Nat→Nat→Bool} {k k':Nat} (h:k≤k') {i j:Nat} (p:PthK f k i j):PthK f k' i j:=by
 induction p with
 | one h1=>exact .one h1
 | cons h1 h2 _ ih=>exact .cons h1 (by omega) ih
section
variable {tO tI:TypeId} {k n:Nat} {Y:Nat→List AV} {v:AV} {L:AHeap}
theorem FamS.one (h:FamS tO tI k n Y v L) {p:Nat} (hp:p<n) (hY:Y p ≠ []) :
  ∃bo cap V bp cp X,v = .ls bo 1 0 n cap∧V.length=n∧V.getD p .any = .ls bp k 0 (Y p).length cp∧L.Perm ((bo,.row tO 1 V cap) :: (bp,.row tI k (Y p) cp) :: X) ∧
   ∀(Y':Nat→List AV) (L':AHeap),(∀q,q ≠ p→Y' q=Y q)→(Y' p).length=(Y p).length→L'.Perm ((bo,.row tO 1 V cap) :: (bp,.row tI k (Y' p) cp) :: X)→FamS tO tI k n Y' v L':=by
 obtain⟨bo,cap,V,Ls,h1,h2,h3,h4⟩:=h.open hp
 rcases h3.inv with ⟨e1,_,_⟩|⟨bp,cp,e2,e3⟩
 ·exact absurd e1 hY
 ·refine⟨bo,cap,(List.range n).map V,bp,cp,famR n p Ls,h1,by simp,by rw[map_range_getD hp,e2],by rw[e3] at h2;exact h2,fun Y' L' hq hl hL => ?_⟩
  refine h4 Y' (V p) [(bp,.row tI k (Y' p) cp)] L' hq ?_ ?_
  ·rw[e2,← hl];exact .row _ _ _
  ·have:((List.range n).map V).set p (V p)=(List.range n).map V:=by
    rw[map_range_set]
    exact List.map_congr_left fun q _=>by split <;> simp_all
   rw[this];exact hL
end
theorem FamS.fo {tO tI:TypeId} {k n:Nat} {Y:Nat→List AV} {v:AV} {L:AHeap} (h:FamS tO tI k n Y v L):fo v=(True,v):=by
 obtain⟨Lv,V,Ls,_,hA,_⟩:=h
 exact hA.fo
theorem evaluate_BoolC (ps:List Pr) (hs:Sm ps) (c:List Int) (hcl:c.length≤1000000) (t:Pd) (hz:szF t≤1000000) (hE:atE ps c t 2=0):PC Proofs.Tryz.prog 90 [aTr ps,aInts c,aPd t] (.tup [ab (truF (cutO ps c (undF ps c)) t),ai 0]):=by
 have h1:=evaluate_at ps hs c hcl t hz 2
 rw[hE] at h1
 obtain⟨g1,g2,g3,g4,g5⟩:=atE_zero hE
 obtain⟨g6,g7,g8,g9⟩:=checkF_zero g1
 have h3:atV ps c t=aView ps c (valuesAt ps c):=by unfold atV;rw[if_neg (by rintro(h|h|h);exact h g5;exact h g1;exact h g2)]
 have g10:=g8
 unfold okT at g10
 simp only[Bool.and_eq_true] at g10
 obtain⟨l1,l2⟩:=und_leaf2 ps hs c g2 t g10.1.2
 have h2:=view_truth ps c _ _ hcl t hz g8 g3 g9 g4 l2 l1
 rw[h3] at h1
 generalize truF (cutO ps c (undF ps c)) t=b at *
 obtain⟨k,n,p,q,s,l⟩:=t
 unfold aView at *
 simp only[aPd_mk] at *
 refine PC.enter 23 [.tmp 6,.tmp 7] [3,5,8] Proofs.Tryz.func90 rfl rfl rfl rfl rfl (by simp) (AWp.of ?_);simp only[go_sem]
 refine Wk ?_
 refine Sd ?_
 refine(h1).val.use ?_;simp only[go_sem]
 refine Wk ?_
 intro b8
 refine Wk ?_
 refine Sd ?_
 refine(h2).val.use ?_;simp only[go_sem]
 refine Wk ?_
 refine ret_eq ?_;simp only[go_sem]
theorem ref29_TruthD (ps:List Pr) (hs:Sm ps) (c:List Int) (hcl:c.length≤1000000) (t:Pd) (hz:szF t≤1000000) (hE:atE ps c t 2=0):PC Proofs.Tryz.prog 29 [aTr ps,aInts c,aPd t] (ab (truF (cutO ps c (undF ps c)) t)):=by
 obtain⟨g1,g2,g3,g4,g5⟩:=atE_zero hE
 obtain⟨g6,g7,g8,g9⟩:=checkF_zero g1
 have g10:=g8
 unfold okT at g10
 simp only[Bool.and_eq_true] at g10
 obtain⟨_,h2,h3⟩:=und_leaf ps hs c g2 t g10.1.2
 exact ref29_Truth ps c _ hcl t hz g8 g3 g9 g4 h2 h3
theorem check_norm {ps:List Pr} {t:Pd} (h:checkF ps t=0) (hp:prdF t=0) (b:Bool):checkF ps (normF t b)=0:=by
 obtain⟨h1,h2,h3,h4⟩:=checkF_zero h
 unfold okT at h3
 simp only[Bool.and_eq_true] at h3
 have hn:=norm_prd hp b
 unfold checkF
 rw[h1,hn.2,norm_res ps t (prd_ok hp) h3.1.2 b,show typedB (normF t b)=true from (norm_ok t (prd_ok hp) b).ok.2.1,norm_fit ps t (prd_ok hp) h4 b]
 rfl
abbrev Tms:=List (Atm × Int)
def keysT (h:Tms):List Value:=h.map fun x=>atmV x.1
def valsT (h:Tms):List AV:=h.map fun x=>ai x.2
def mapT (h:Tms):AV:=.rm (keysT h) (valsT h)
theorem keysT_cons (x:Atm × Int) (h:Tms):keysT (x :: h)=atmV x.1 :: keysT h:=rfl
theorem keysT_len (h:Tms):(keysT h).length=h.length:=List.length_map _
theorem valsT_len (h:Tms):(valsT h).length=h.length:=List.length_map _
theorem keysT_fits (h:Tms):(keysT h).all (KK.st [.int,.int,.int,.str]).fits=true:=by
 rw[List.all_eq_true]
 intro v hv
 obtain⟨x,_,rfl⟩:=List.mem_map.1 hv
 exact atmV_fits x.1
theorem keyB_atm (a b:Atm):keyB (atmV a) (atmV b)=decide (a=b):=by
 show (decide (a.1=b.1) && (decide (a.2.1=b.2.1) && (decide (a.2.2.1=b.2.2.1) && (seqB a.2.2.2 b.2.2.2 && true))))=decide (a=b)
 rw[seqB_dec',Bool.eq_iff_iff]
 obtain⟨a1,a2,a3,a4⟩:=a
 obtain⟨b1,b2,b3,b4⟩:=b
 simp
def fdT (a:Atm):Tms→Option Nat
 | []=>none
 | x :: h=>if a=x.1 then some 0 else match fdT a h with
  | some i=>some (i+1)
  | none=>none
def cfT (a:Atm):Tms→Int
 | []=>0
 | x :: h=>if a=x.1 then x.2 else cfT a h
def putT (a:Atm) (m:Int):Tms→Tms
 | []=>[(a,m)]
 | x :: h=>if a=x.1 then (x.1,m) :: h else x :: putT a m h
def delT (a:Atm):Tms→Tms
 | []=>[]
 | x :: h=>if a=x.1 then h else x :: delT a h
theorem mfind_T (a:Atm):∀h,mfind (atmV a) (keysT h)=fdT a h
 | []=>rfl
 | x :: h=>by
  rw[keysT_cons,mfind,fdT,keyB_atm,mfind_T a h]
  by_cases e:a=x.1
  ·rw[decide_eq_true e,if_pos rfl,if_pos e]
  ·rw[decide_eq_false e,if_neg (by decide),if_neg e]
   cases fdT a h <;> rfl
theorem fdT_get (a:Atm):∀h,(match fdT a h with|some i=>(valsT h).getD i .any|none=>ai 0)=ai (cfT a h)
 | []=>rfl
 | x :: h=>by
  rw[fdT,cfT]
  by_cases e:a=x.1
  ·rw[if_pos e,if_pos e];rfl
  ·rw[if_neg e,if_neg e,← fdT_get a h]
   cases fdT a h <;> rfl
theorem mget_T (a:Atm) (h:Tms):mget (atmV a) (keysT h) (valsT h) (ai 0)=ai (cfT a h):=by
 unfold mget
 rw[mfind_T]
 exact fdT_get a h
theorem fdT_put (a:Atm) (m:Int):∀h,(match fdT a h with|some i=>ABlk.amap (keysT h) ((valsT h).set i (ai m))|none => .amap (keysT h ++ [atmV a]) (valsT h ++ [ai m])) = .amap (keysT (putT a m h)) (valsT (putT a m h))
 | []=>rfl
 | x :: h=>by
  have ih:=fdT_put a m h
  rw[fdT,putT]
  by_cases e:a=x.1
  ·rw[if_pos e,if_pos e];rfl
  ·rw[if_neg e,if_neg e]
   cases hf:fdT a h with
   | none =>
    rw[hf] at ih
    have ih:ABlk.amap (keysT h ++ [atmV a]) (valsT h ++ [ai m])=_:=ih
    injection ih with i1 i2
    show ABlk.amap (atmV x.1 :: (keysT h ++ [atmV a])) (ai x.2 :: (valsT h ++ [ai m]))=_
    rw[i1,i2];rfl
   | some i =>
    rw[hf] at ih
    have ih:ABlk.amap (keysT h) ((valsT h).set i (ai m))=_:=ih
    injection ih with i1 i2
    show ABlk.amap (atmV x.1 :: keysT h) (ai x.2 :: (valsT h).set i (ai m))=_
    rw[i1,i2];rfl
theorem mput_T (a:Atm) (m:Int) (h:Tms):mput (atmV a) (ai m) (keysT h) (valsT h) = .amap (keysT (putT a m h)) (valsT (putT a m h)):=by
 unfold mput
 rw[mfind_T]
 exact fdT_put a m h
theorem fdT_del (a:Atm):∀h,(match fdT a h with|some i=>ABlk.amap ((keysT h).eraseIdx i) ((valsT h).eraseIdx i)|none => .amap (keysT h) (valsT h)) = .amap (keysT (delT a h)) (valsT (delT a h))
 | []=>rfl
 | x :: h=>by
  have ih:=fdT_del a h
  rw[fdT,delT]
  by_cases e:a=x.1
  ·rw[if_pos e,if_pos e];rfl
  ·rw[if_neg e,if_neg e]
   cases hf:fdT a h with
   | none =>
    rw[hf] at ih
    have ih:ABlk.amap (keysT h) (valsT h)=_:=ih
    injection ih with i1 i2
    show ABlk.amap (atmV x.1 :: keysT h) (ai x.2 :: valsT h)=_
    rw[i1,i2];rfl
   | some i =>
    rw[hf] at ih
    have ih:ABlk.amap ((keysT h).eraseIdx i) ((valsT h).eraseIdx i)=_:=ih
    injection ih with i1 i2
    show ABlk.amap (atmV x.1 :: (keysT h).eraseIdx i) (ai x.2 :: (valsT h).eraseIdx i)=_
    rw[i1,i2];rfl
theorem mdel_T (a:Atm) (h:Tms):mdel (atmV a) (keysT h) (valsT h) = .amap (keysT (delT a h)) (valsT (delT a h)):=by
 unfold mdel
 rw[mfind_T]
 exact fdT_del a h
theorem del_put (a:Atm) (m:Int):∀h,delT a (putT a m h)=delT a h
 | []=>by rw[putT];show (if a=a then [] else _)=_;rw[if_pos rfl];rfl
 | x :: h=>by
  rw[putT,delT]
  by_cases e:a=x.1
  ·rw[if_pos e,if_pos e,delT,if_pos e]
  ·rw[if_neg e,if_neg e,delT,if_neg e,del_put a m h]
def stT (a:Atm) (m:Int) (h:Tms):Tms:=if m=0 then delT a h else putT a m h
def sT (v:Atm→Int):Tms→Int
 | []=>0
 | x :: h=>x.2 * v x.1+sT v h
theorem sT_put (v:Atm→Int) (a:Atm) (m:Int):∀h,sT v (putT a m h)=sT v h+(m - cfT a h) * v a
 | []=>by
  show m * v a+0=0+(m - 0) * v a
  simp
 | x :: h=>by
  rw[putT,cfT]
  by_cases e:a=x.1
  ·rw[if_pos e,if_pos e,sT,sT,e,Int.sub_mul]
   show m * v x.1+sT v h=x.2 * v x.1+sT v h+(m * v x.1 - x.2 * v x.1)
   omega
  ·rw[if_neg e,if_neg e,sT,sT,sT_put v a m h]
   omega
theorem sT_del (v:Atm→Int) (a:Atm):∀h,sT v (delT a h)=sT v h - cfT a h * v a
 | []=>by rw[delT,sT,cfT];simp
 | x :: h=>by
  rw[delT,cfT]
  by_cases e:a=x.1
  ·rw[if_pos e,if_pos e,sT,e]
   omega
  ·rw[if_neg e,if_neg e,sT,sT,sT_del v a h]
   omega
theorem sT_st (v:Atm→Int) (a:Atm) (m:Int) (h:Tms):sT v (stT a m h)=sT v h+(m - cfT a h) * v a:=by
 unfold stT
 split
 ·rename_i e
  rw[sT_del,e,Int.sub_mul]
  omega
 ·exact sT_put v a m h
structure OkT (h:Tms):Prop where
 nd:(h.map Prod.fst).Nodup
 co:∀x ∈ h,x.2 ≠ 0∧NumB x.2
theorem cfT_num {a:Atm} : ∀ {h:Tms},(∀x ∈ h,x.2 ≠ 0∧NumB x.2)→NumB (cfT a h)
 | [],_=>by unfold cfT NumB;decide
 | x :: h,hc=>by
  rw[cfT]
  split
  ·exact(hc x (by simp)).2
  ·exact cfT_num fun y hy=>hc y (List.mem_cons_of_mem _ hy)
theorem putT_mem {a:Atm} {m:Int} : ∀ {h:Tms} {x:Atm × Int},x ∈ putT a m h→x=(a,m)∨x ∈ h
 | [],x,hx=>by rw[putT] at hx;exact .inl (List.mem_singleton.1 hx)
 | y :: h,x,hx=>by
  rw[putT] at hx
  split at hx
  ·rename_i e
   rcases List.mem_cons.1 hx with rfl|hx
   ·rw[← e];exact .inl rfl
   ·exact .inr (List.mem_cons_of_mem _ hx)
  ·rcases List.mem_cons.1 hx with rfl|hx
   ·exact .inr (by simp)
   ·rcases putT_mem hx with h1|h1
    ·exact .inl h1
    ·exact .inr (List.mem_cons_of_mem _ h1)
theorem putT_nd {a:Atm} {m:Int} : ∀ {h:Tms},(h.map Prod.fst).Nodup→((putT a m h).map Prod.fst).Nodup
 | [],_=>by rw[putT];simp
 | y :: h,hn=>by
  rw[putT]
  rw[List.map_cons,List.nodup_cons] at hn
  split
  ·rw[List.map_cons,List.nodup_cons];exact hn
  ·rename_i e
   rw[List.map_cons,List.nodup_cons]
   refine⟨fun hm => ?_,putT_nd hn.2⟩
   obtain⟨x,hx,hxe⟩:=List.mem_map.1 hm
   rcases putT_mem hx with rfl|hx
   ·exact e hxe
   ·exact hn.1 (List.mem_map.2 ⟨x,hx,hxe⟩)
theorem delT_sub (a:Atm):∀h:Tms,List.Sublist (delT a h) h
 | []=>List.Sublist.refl _
 | x :: h=>by
  rw[delT]
  split
  ·exact List.sublist_cons_self _ _
  ·exact(delT_sub a h).cons_cons _
theorem st_ok {a:Atm} {m:Int} {h:Tms} (hk:OkT h) (hm:NumB m):OkT (stT a m h)∧∀x ∈ stT a m h,x.1=a∨x ∈ h:=by
 unfold stT
 split
 ·exact⟨⟨hk.nd.sublist ((delT_sub a h).map _),fun x hx=>hk.co x ((delT_sub a h).mem hx)⟩,fun x hx => .inr ((delT_sub a h).mem hx)⟩
 ·rename_i h0
  refine⟨⟨putT_nd hk.nd,fun x hx => ?_⟩,fun x hx => ?_⟩
  ·rcases putT_mem hx with rfl|hx
   ·exact⟨h0,hm⟩
   ·exact hk.co x hx
  ·rcases putT_mem hx with rfl|hx
   ·exact .inl rfl
   ·exact .inr hx
theorem cfT_no {a:Atm} : ∀ {h:Tms},a ∉ h.map Prod.fst→cfT a h=0
 | [],_=>rfl
 | x :: h,hn=>by
  rw[List.map_cons,List.mem_cons,not_or] at hn
  rw[cfT,if_neg hn.1,cfT_no hn.2]
theorem cfT_mem {a:Atm} {n:Int} : ∀ {h:Tms},(h.map Prod.fst).Nodup→(a,n) ∈ h→cfT a h=n
 | x :: h,hn,hm=>by
  rw[List.map_cons,List.nodup_cons] at hn
  rw[cfT]
  rcases List.mem_cons.1 hm with rfl|hm
  ·rw[if_pos rfl]
  ·rw[if_neg (fun e:a=x.1=>hn.1 (by rw[← e];exact List.mem_map.2 ⟨(a,n),hm,rfl⟩)),cfT_mem hn.2 hm]
theorem cfT_in {a:Atm} : ∀ {h:Tms},cfT a h ≠ 0→(a,cfT a h) ∈ h
 | [],hc=>absurd rfl hc
 | x :: h,hc=>by
  rw[cfT] at hc ⊢
  by_cases e:a=x.1
  ·rw[if_pos e,e];exact List.mem_cons_self
  ·rw[if_neg e] at hc ⊢;exact List.mem_cons_of_mem _ (cfT_in hc)
theorem sT_ind (a:Atm):∀ {h:Tms},(h.map Prod.fst).Nodup→sT (fun b=>if b=a then 1 else 0) h=cfT a h
 | [],_=>rfl
 | x :: h,hn=>by
  rw[List.map_cons,List.nodup_cons] at hn
  rw[sT,sT_ind a hn.2,cfT]
  by_cases e:a=x.1
  ·rw[if_pos e,if_pos e.symm,e,cfT_no hn.1];omega
  ·rw[if_neg e,if_neg (fun h=>e h.symm)];omega
theorem cfT_put (a b:Atm) (m:Int) (hne:a ≠ b):∀h,cfT a (putT b m h)=cfT a h
 | []=>by
  rw[putT]
  show (if a=b then m else 0)=0
  rw[if_neg hne]
 | x :: h=>by
  rw[putT]
  split
  ·rename_i e
   rw[cfT,cfT]
   have hx:¬a=x.1:=fun h=>hne (h.trans e.symm)
   rw[if_neg hx,if_neg hx]
  ·rw[cfT,cfT,cfT_put a b m hne h]
theorem cfT_del (a b:Atm) (hne:a ≠ b):∀h,cfT a (delT b h)=cfT a h
 | []=>rfl
 | x :: h=>by
  rw[delT]
  split
  ·rename_i e
   rw[cfT,if_neg (fun h=>hne (h.trans e.symm))]
  ·rw[cfT,cfT,cfT_del a b hne h]
theorem cfT_st (a b:Atm) (m:Int) (hne:a ≠ b) (h:Tms):cfT a (stT b m h)=cfT a h:=by
 unfold stT
 split
 ·exact cfT_del a b hne h
 ·exact cfT_put a b m hne h
structure EqT (h g:Tms):Prop where
 l:OkT h
 r:OkT g
 eq:∀v,sT v h=sT v g
theorem EqT.cf {h g:Tms} (e:EqT h g) (a:Atm):cfT a h=cfT a g:=by rw[← sT_ind a e.l.nd,← sT_ind a e.r.nd,e.eq]
theorem EqT.symm {h g:Tms} (e:EqT h g):EqT g h:=⟨e.r,e.l,fun v=>(e.eq v).symm⟩
theorem EqT.trans {h g f:Tms} (e:EqT h g) (e':EqT g f):EqT h f:=⟨e.l,e'.r,fun v=>(e.eq v).trans (e'.eq v)⟩
theorem EqT.refl {h:Tms} (e:OkT h):EqT h h:=⟨e,e,fun _=>rfl⟩
theorem EqT.mem {h g:Tms} (e:EqT h g) {x:Atm × Int} (hx:x ∈ h):x ∈ g:=by
 have h1:cfT x.1 h=x.2:=cfT_mem e.l.nd hx
 have h2:=e.cf x.1
 have h3:=cfT_in (a:=x.1) (h:=g) (by rw[← h2,h1];exact(e.l.co x hx).1)
 rw[← h2,h1] at h3
 exact h3
theorem nodup_fst {h:Tms} (hn:(h.map Prod.fst).Nodup):h.Nodup:=List.Pairwise.of_map Prod.fst (fun _ _ hab e=>hab (by rw[e])) hn
theorem EqT.perm {h g:Tms} (e:EqT h g):h.Perm g:=(List.perm_ext_iff_of_nodup (nodup_fst e.l.nd) (nodup_fst e.r.nd)).2 fun _=>⟨e.mem,e.symm.mem⟩
theorem EqT.nil {h g:Tms} (e:EqT h g):h=[]↔g=[]:=by rw[← List.length_eq_zero_iff,← List.length_eq_zero_iff,e.perm.length_eq]
def okA (k c d:Int) (f g:Tms):Bool:=(sumF k c d).2 && g.all fun x=>(sumF k (cfT x.1 f) x.2).2
def addT (k:Int) (f:Tms):Tms→Tms
 | []=>f
 | x :: g=>stT x.1 (sumF k (cfT x.1 f) x.2).1 (addT k f g)
theorem all_perm {α:Type} {p:α→Bool} {a b:List α} (h:a.Perm b):a.all p=b.all p:=by
 rw[Bool.eq_iff_iff,List.all_eq_true,List.all_eq_true]
 exact⟨fun g x hx=>g x (h.mem_iff.2 hx),fun g x hx=>g x (h.mem_iff.1 hx)⟩
theorem okA_eq {k c d:Int} {f f' g g':Tms} (hf:EqT f f') (hg:EqT g g'):okA k c d f g=okA k c d f' g':=by
 unfold okA
 rw[all_perm hg.perm]
 simp only[hf.cf]
theorem sumF_num (k x y:Int):NumB (sumF k x y).1:=by
 unfold sumF
 split
 ·unfold NumB;decide
 ·show NumB (if _ then _ else _)
  split
  ·assumption
  ·unfold NumB;decide
theorem sumF_ok {k x y:Int} (h:(sumF k x y).2=true):(sumF k x y).1=x+k * y:=by
 unfold sumF at *
 split at h
 ·cases h
 ·rename_i h1
  have h2:(mulF k y).2=0:=by simpa using h1
  have h3:(mulF k y).1=k * y:=by
   unfold mulF at *
   split at h2
   ·rename_i h4
    rw[if_pos h4]
    rcases h4 with rfl|rfl <;> simp
   ·rename_i h4
    rw[if_neg h4]
    split at h2
    ·exact absurd h2 (by decide)
    ·rename_i h5
     rw[if_neg h5]
  have h4:NumB (x+(mulF k y).1):=of_decide_eq_true h
  rw[if_neg h1]
  show (if _ then _ else _)=_
  rw[if_pos h4,h3]
theorem addT_cf (k:Int) (f:Tms) (a:Atm):∀g:Tms,a ∉ g.map Prod.fst→cfT a (addT k f g)=cfT a f
 | [],_=>rfl
 | x :: g,hn=>by
  rw[List.map_cons,List.mem_cons,not_or] at hn
  rw[addT,cfT_st _ _ _ hn.1,addT_cf k f a g hn.2]
theorem addT_ok (k:Int) {f:Tms} (hf:OkT f):∀g:Tms,OkT (addT k f g)
 | []=>hf
 | x :: g=>(st_ok (addT_ok k hf g) (sumF_num _ _ _)).1
theorem addT_s {k:Int} {f:Tms} (v:Atm→Int):∀g:Tms,(g.map Prod.fst).Nodup→(g.all fun x=>(sumF k (cfT x.1 f) x.2).2)=true→sT v (addT k f g)=sT v f+k * sT v g
 | [],_,_=>by show sT v f=sT v f+k * 0;simp
 | x :: g,hn,ha=>by
  rw[List.map_cons,List.nodup_cons] at hn
  rw[List.all_cons,Bool.and_eq_true] at ha
  rw[addT,sT_st,addT_s v g hn.2 ha.2,addT_cf k f _ g hn.1,sumF_ok ha.1,sT,Int.mul_add]
  have e:cfT x.1 f+k * x.2 - cfT x.1 f=k * x.2:=by omega
  rw[e,Int.mul_assoc]
  omega
def a0:Atm × Int:=((0,0,0,ByteArray.empty),0)
def sumI:List Int→Int
 | []=>0
 | x :: l=>x+sumI l
theorem sumI_app:∀a b,sumI (a ++ b)=sumI a+sumI b
 | [],b=>by rw[List.nil_append,sumI];omega
 | x :: a,b=>by rw[List.cons_append,sumI,sumI,sumI_app a b];omega
theorem sumI_perm {a b:List Int} (h:a.Perm b):sumI a=sumI b:=by
 induction h with
 | nil=>rfl
 | cons x _ ih=>rw[sumI,sumI,ih]
 | swap x y l=>rw[sumI,sumI,sumI,sumI];omega
 | trans _ _ h1 h2=>exact h1.trans h2
def visT (v:Atm→Int) (g:Tms) (vis:List Nat):Int:=sumI (vis.map fun i=>(g.getD i a0).2 * v (g.getD i a0).1)
theorem visT_snoc (v:Atm→Int) (g:Tms) (vis:List Nat) (i:Nat):visT v g (vis ++ [i])=visT v g vis+(g.getD i a0).2 * v (g.getD i a0).1:=by
 unfold visT
 rw[List.map_append,sumI_app]
 show _+((g.getD i a0).2 * v (g.getD i a0).1+0)=_
 omega
theorem visT_range (v:Atm→Int):∀g:Tms,visT v g (List.range g.length)=sT v g
 | []=>rfl
 | x :: g=>by
  have ih:=visT_range v g
  unfold visT at *
  rw[List.length_cons,List.range_succ_eq_map,List.map_cons,List.map_map,sumI,sT,← ih]
  rfl
theorem visT_all {v:Atm→Int} {g:Tms} {vis:List Nat} (hn:vis.Nodup) (hl:∀i ∈ vis,i<g.length) (ha:∀i,i<g.length→i ∈ vis):visT v g vis=sT v g:=by
 rw[← visT_range]
 have hp:vis.Perm (List.range g.length):=(List.perm_ext_iff_of_nodup hn List.nodup_range).2 fun i=>⟨fun h=>List.mem_range.2 (hl i h),fun h=>ha i (List.mem_range.1 h)⟩
 exact sumI_perm (hp.map _)
theorem keysT_getD {g:Tms} {i:Nat} (hi:i<g.length):(keysT g).getD i undef=atmV g[i].1:=by
 unfold keysT
 rw[List.getD_eq_getElem?_getD,List.getElem?_map,List.getElem?_eq_getElem hi];rfl
theorem valsT_getD {g:Tms} {i:Nat} (hi:i<g.length):(valsT g).getD i .any=ai g[i].2:=getD_map (f:=fun x:Atm × Int=>ai x.2) hi
theorem getD_a0 {g:Tms} {i:Nat} (hi:i<g.length):g.getD i a0=g[i]:=by rw[List.getD_eq_getElem?_getD,List.getElem?_eq_getElem hi];rfl
end Go.AL
end
