/- Texts of this claim's proof: WK1, WK2, WOg, WGr, WK3. No condition. -/
import Derived.Test.YtpcmoecaaphjmaaGreatDoorM21
import Derived.Test.YtpcmoecaaphjmaaGreatDoorM17
import Derived.Test.YtpcmoecaaphjmaaGreatDoorM10
import Derived.Test.YtpcmoecaaphjmaaGreatDoorM9
import Derived.Test.YtpcmoecaaphjmaaGreatDoorM13
section
namespace Go.AL
open Go Go.RowKit
set_option maxRecDepth 4000
noncomputable abbrev obC (ps:List Pr) (c:List Int):Obs:=cutO ps c (undF ps c)
def leC (c d:List Int):Prop:=∀p:Nat,c.getD p 0≤d.getD p 0
theorem leC.refl (c:List Int):leC c c:=fun _=>Int.le_refl _
theorem leC.trans {c d e:List Int} (h:leC c d) (k:leC d e):leC c e:=fun p=>Int.le_trans (h p) (k p)
theorem lack_mono {ps:List Pr} {c d:List Int} (h:leC c d) {m:Int} (hl:lackB ps d m=true):lackB ps c m=true:=by
 unfold lackB at *
 rw[Bool.or_eq_true] at *
 rcases hl with hl|hl
 ·exact .inl hl
 ·refine .inr (decide_eq_true ?_)
  have:=of_decide_eq_true hl
  exact Int.lt_of_le_of_lt (h _) this
theorem recv_peerT {ps:List Pr} (hv:validF ps=true) {p:Nat} (hp:p<ps.length) {i:Nat} (hi:i<ps[p].evs.length) (hk:ps[p].evs[i].kind=2) (h:0<(findIn (evIds ps) 3 ps[p].evs[i].msg).2) :
  (findIn (evIds ps) 3 ps[p].evs[i].msg).1=ps[p].evs[i].peer:=by
 have hm:=(valid_parts hv).2.2
 obtain⟨q,hq,j,hj,e1,e2,e3⟩:=findIn_some h
 have h1:=recv_sends hm hq hj e2
 rw[e1]
 unfold sendsB at h1
 split at h1
 ·rename_i x hx
  rw[List.any_eq_true] at h1
  obtain⟨e,he,h2⟩:=h1
  simp only[Bool.and_eq_true,decide_eq_true_eq] at h2
  obtain⟨r,hr,rfl⟩:=List.getElem_of_mem he
  obtain⟨hq',hx'⟩:=List.getElem?_eq_some_iff.1 hx
  subst hx'
  have u1:=pair_unique hm hq' hr (.inl h2.1.1)
  have u2:=pair_unique hm hp hi (.inl hk)
  rw[h2.1.1,h2.1.2,e3] at u1
  rw[hk] at u2
  rw[u2] at u1
  rw[Prod.mk.injEq] at u1
  have a1:p=ps[q].evs[j].peer.toNat:=by omega
  have a2:i=r:=by omega
  subst a2
  subst a1
  exact h2.2.symm
 ·cases h1
theorem und_same {ps:List Pr} {c d:List Int} (h:leC c d) (p:Nat) (q:Int) (hp:c.getD p 0=d.getD p 0):undF ps d p q≤undF ps c p q:=by
 unfold undF undM
 rw[Int.toNat_natCast,hp,List.length_map,List.length_map,← List.countP_eq_length_filter,← List.countP_eq_length_filter]
 refine Int.ofNat_le.2 (List.countP_mono_left fun e _ he => ?_)
 unfold undB at *
 rw[Bool.and_eq_true] at *
 exact⟨he.1,lack_mono h he.2⟩
theorem und_more {ps:List Pr} (hv:validF ps=true) {c d:List Int} (h:leC c d) (p q:Nat) (hq:c.getD q 0=d.getD q 0):undF ps c p q≤undF ps d p q:=by
 unfold undF undM
 rw[Int.toNat_natCast,List.length_map,List.length_map,← List.countP_eq_length_filter,← List.countP_eq_length_filter]
 by_cases hp:p<ps.length
 ·rw[List.getElem?_eq_getElem hp]
  show ((List.countP (undB ps c q) (ps[p].evs.take (c.getD p 0).toNat):Nat):Int)≤(List.countP (undB ps d q) (ps[p].evs.take (d.getD p 0).toNat):Nat)
  have e:List.countP (undB ps c q) (ps[p].evs.take (c.getD p 0).toNat)=List.countP (undB ps d q) (ps[p].evs.take (c.getD p 0).toNat):=by
   refine List.countP_congr fun e he => ?_
   obtain⟨i,hi,rfl⟩:=List.getElem_of_mem (List.mem_of_mem_take he)
   unfold undB
   by_cases hs:sentTo q ps[p].evs[i]=true
   ·rw[hs,Bool.true_and,Bool.true_and]
    unfold sentTo at hs
    simp only[Bool.and_eq_true,decide_eq_true_eq] at hs
    unfold lackB
    by_cases h0:0<(findIn (evIds ps) 3 ps[p].evs[i].msg).2
    ·have hr:=recv_peerT hv hp hi hs.1 h0
     rw[hr,hs.2,Int.toNat_natCast,hq]
    ·have hz:(findIn (evIds ps) 3 ps[p].evs[i].msg).2=0:=by
      rcases findIn_or ps 3 ps[p].evs[i].msg with h1|h1
      ·rw[h1]
      ·obtain⟨_,_,j,_,e⟩:=h1
       rw[e] at h0
       exact absurd (show (0:Int)<(j:Int)+1 by omega) h0
     rw[hz];simp
   ·have hs:sentTo q ps[p].evs[i]=false:=by simpa using hs
    rw[hs,Bool.false_and,Bool.false_and]
  rw[e]
  refine Int.ofNat_le.2 (List.Sublist.countP_le ?_)
  have hle:(c.getD p 0).toNat≤(d.getD p 0).toNat:=by have:=h p;omega
  have e2:ps[p].evs.take (c.getD p 0).toNat=(ps[p].evs.take (d.getD p 0).toNat).take (c.getD p 0).toNat:=by rw[List.take_take,Nat.min_eq_left hle]
  rw[e2]
  exact List.take_sublist _ _
 ·rw[List.getElem?_eq_none (by omega)]
  show (((List.take _ ([]:List Ev)).countP _:Nat):Int)≤_
  simp
mutual
def ownF:Pd→Int
 | .mk k _ p _ _ l=>if k=2∨k=3 then p else ownL l
def ownL:List Pd→Int
 | [] => -1
 | x :: r=>if 0≤ownF x then ownF x else ownL r
end
theorem ownF_mk (k n p q:Int) (s:ByteArray) (l:List Pd):ownF (.mk k n p q s l)=if k=2∨k=3 then p else ownL l:=by rw[ownF]
def ownB (pr:Int):Pd→Bool | .mk k _ p _ _ _=>if k=2∨k=3 then decide (p=pr) else true
def noB:Pd→Bool | .mk k _ _ _ _ _ => !decide (k=2∨k=3)
theorem no_own {pr:Int} {x:Pd} (h:noB x=true):ownB pr x=true:=by
 obtain⟨k,n,p,q,s,l⟩:=x
 have h:(!decide (k=2∨k=3))=true:=h
 show (if k=2∨k=3 then decide (p=pr) else true)=true
 rw[Bool.not_eq_true',decide_eq_false_iff_not] at h
 rw[if_neg h]
theorem allB_monoT {f g:Pd→Bool} (hfg:∀x,f x=true→g x=true) (t:Pd):allB f t=true→allB g t=true:=by
 induction t using Pd.ind with
 | _ k n p q s l ih =>
 intro h
 rw[allB_mk,Bool.and_eq_true,List.all_eq_true] at *
 exact⟨hfg _ h.1,fun x hx=>ih x hx (h.2 x hx)⟩
theorem allB_two {f g:Pd→Bool} (t:Pd):allB f t=true→allB g t=true→allB (fun x=>f x && g x) t=true:=by
 induction t using Pd.ind with
 | _ k n p q s l ih =>
 intro h h'
 rw[allB_mk,Bool.and_eq_true,List.all_eq_true] at *
 exact⟨by rw[h.1,h'.1];rfl,fun x hx=>ih x hx (h.2 x hx) (h'.2 x hx)⟩
def CnP (t:Pd):Prop:=∀pr fd st',cnS lcS t (pr,fd)=(false,st')→(fd=true→st'=(pr,true)∧allB (ownB pr) t=true)∧(fd=false→(st'=(pr,false)∧allB noB t=true)∨∃q,st'=(q,true)∧allB (ownB q) t=true)
theorem cnL_lc:∀(l:List Pd),(∀x ∈ l,CnP x)→∀pr fd st',cnL lcS l (pr,fd)=(false,st')→(fd=true→st'=(pr,true)∧∀x ∈ l,allB (ownB pr) x=true)∧(fd=false→(st'=(pr,false)∧∀x ∈ l,allB noB x=true)∨∃q,st'=(q,true)∧∀x ∈ l,allB (ownB q) x=true)
 | [],_,pr,fd,st',h=>by
  rw[cnL] at h
  cases h
  exact⟨by rintro rfl;exact⟨rfl,by simp⟩,by rintro rfl;exact .inl ⟨rfl,by simp⟩⟩
 | x :: l,hl,pr,fd,st',h=>by
  rw[cnL] at h
  generalize hx:cnS lcS x (pr,fd)=r at h
  obtain⟨b,pr1,fd1⟩:=r
  cases b with
  | true=>simp at h
  | false =>
   simp only[Bool.false_eq_true,if_false] at h
   have ih:=cnL_lc l (fun y hy=>hl y (List.mem_cons_of_mem _ hy)) pr1 fd1 st' h
   obtain⟨a1,a2⟩:=hl x (by simp) pr fd _ hx
   refine⟨fun e => ?_,fun e => ?_⟩
   ·obtain⟨b1,b2⟩:=a1 e
    cases b1
    obtain⟨c1,c2⟩:=ih.1 rfl
    exact⟨c1,fun y hy=>by rcases List.mem_cons.1 hy with rfl|hy;exact b2;exact c2 y hy⟩
   ·rcases a2 e with ⟨b1,b2⟩|⟨w,b1,b2⟩
    ·cases b1
     rcases ih.2 rfl with ⟨c1,c2⟩|⟨w,c1,c2⟩
     ·exact .inl ⟨c1,fun y hy=>by rcases List.mem_cons.1 hy with rfl|hy;exact b2;exact c2 y hy⟩
     ·exact .inr ⟨w,c1,fun y hy=>by rcases List.mem_cons.1 hy with rfl|hy;exact allB_monoT (fun _=>no_own) _ b2;exact c2 y hy⟩
    ·cases b1
     obtain⟨c1,c2⟩:=ih.1 rfl
     exact .inr ⟨_,c1,fun y hy=>by rcases List.mem_cons.1 hy with rfl|hy;exact b2;exact c2 y hy⟩
theorem cn_lc (t:Pd):CnP t:=by
 induction t using Pd.ind with
 | _ k n p q s l ih =>
 intro pr fd st' h
 rw[cnS] at h
 have hB:∀w,ownB w (.mk k n p q s l)=if k=2∨k=3 then decide (p=w) else true:=fun _=>rfl
 have hN:noB (.mk k n p q s l) = !decide (k=2∨k=3):=rfl
 have hS:lcS (.mk k n p q s l) (pr,fd)=if k=2∨k=3 then (decide (¬p=if fd then pr else p),(if fd then pr else p,true)) else (false,(pr,fd)):=rfl
 rw[hS] at h
 simp only[allB_mk,hB,hN,Bool.and_eq_true,List.all_eq_true]
 by_cases hk:k=2∨k=3
 ·simp only[if_pos hk] at h ⊢
  cases fd with
  | true =>
   simp only[if_true] at h
   by_cases e:p=pr
   ·simp only[e,not_true_eq_false,decide_false,Bool.false_eq_true,if_false] at h
    obtain⟨c1,c2⟩:=(cnL_lc l ih _ _ _ h).1 rfl
    exact⟨fun _=>⟨c1,decide_eq_true e,c2⟩,fun e=>nomatch e⟩
   ·simp [e] at h
  | false =>
   simp only[Bool.false_eq_true,if_false,not_true_eq_false,decide_false] at h
   obtain⟨c1,c2⟩:=(cnL_lc l ih _ _ _ h).1 rfl
   exact⟨fun e=>(nomatch e),fun _ => .inr ⟨p,c1,decide_eq_true rfl,c2⟩⟩
 ·simp only[if_neg hk,Bool.false_eq_true,if_false] at h ⊢
  obtain⟨a1,a2⟩:=cnL_lc l ih _ _ _ h
  refine⟨fun e=>⟨(a1 e).1,trivial,(a1 e).2⟩,fun e => ?_⟩
  rcases a2 e with ⟨c1,c2⟩|⟨w,c1,c2⟩
  ·exact .inl ⟨c1,by simp [hk],c2⟩
  ·exact .inr ⟨w,c1,trivial,c2⟩
theorem own_all {ps:List Pr} {pr:Int} (t:Pd):allB (ownB pr) t=true→allB (resB ps) t=true→(ownF t=pr∧0≤pr∧pr<ps.length)∨(ownF t = -1∧allB noB t=true):=by
 induction t using Pd.ind with
 | _ k n p q s l ih =>
 intro h hr
 rw[allB_mk,Bool.and_eq_true,List.all_eq_true] at h hr
 have h1:(if k=2∨k=3 then decide (p=pr) else true)=true:=h.1
 rw[ownF_mk]
 by_cases hk:k=2∨k=3
 ·rw[if_pos hk] at h1 ⊢
  obtain rfl:=of_decide_eq_true h1
  obtain⟨r2,r3,_⟩:=res_leaf hr.1
  refine .inl ⟨rfl,?_⟩
  have:isPB ps.length p=true:=by
   rcases hk with hk|hk
   ·exact(r2 hk).1
   ·exact r3 hk
  obtain⟨i,rfl,hi⟩:=isPB_nat this
  omega
 ·rw[if_neg hk]
  have hL:∀(l:List Pd),(∀x ∈ l,(ownF x=pr∧0≤pr∧pr<ps.length)∨(ownF x = -1∧allB noB x=true))→(ownL l=pr∧0≤pr∧pr<ps.length)∨(ownL l = -1∧∀x ∈ l,allB noB x=true):=by
   intro l
   induction l with
   | nil=>intro _;exact .inr ⟨by rw[ownL],by simp⟩
   | cons x l ihl =>
    intro hl
    rw[ownL]
    rcases hl x (by simp) with ⟨e1,e2,e3⟩|⟨e1,e2⟩
    ·rw[e1,if_pos e2];exact .inl ⟨rfl,e2,e3⟩
    ·rw[e1,if_neg (by decide)]
     rcases ihl (fun y hy=>hl y (List.mem_cons_of_mem _ hy)) with h|⟨h,h'⟩
     ·exact .inl h
     ·exact .inr ⟨h,fun y hy=>by rcases List.mem_cons.1 hy with rfl|hy;exact e2;exact h' y hy⟩
  rcases hL l (fun x hx=>ih x hx (h.2 x hx) (hr.2 x hx)) with h|⟨h,h'⟩
  ·exact .inl h
  ·refine .inr ⟨h,?_⟩
   rw[allB_mk,Bool.and_eq_true,List.all_eq_true]
   exact⟨show (!decide (k=2∨k=3))=true by simp [hk],h'⟩
theorem loc_own {ps:List Pr} {t:Pd} (hr:allB (resB ps) t=true) (hl:(locR t).2=true):allB nchB t=true∧((ownF t = -1∧allB noB t=true)∨∃i:Nat,ownF t=i∧i<ps.length∧allB (ownB i) t=true):=by
 unfold locR at hl
 split at hl
 ·cases hl
 ·rename_i h0
  simp only[Bool.or_eq_true,Bool.not_eq_true',not_or,Bool.not_eq_false] at h0
  generalize hc:cnS lcS t (0,false)=r at hl
  obtain⟨b,st'⟩:=r
  have hl:(!b)=true:=hl
  cases b with
  | true=>cases hl
  | false =>
   refine⟨h0.2,?_⟩
   have hno:allB noB t=true→ownF t = -1:=fun h=>by
    rcases own_all (pr:=-1) t (allB_monoT (fun _=>no_own) t h) hr with ⟨_,e,_⟩|⟨e,_⟩
    ·exact absurd e (by decide)
    ·exact e
   rcases (cn_lc t _ _ _ hc).2 rfl with ⟨_,h⟩|⟨q,_,h⟩
   ·exact .inl ⟨hno h,h⟩
   ·rcases own_all t h hr with ⟨e,e1,e2⟩|h'
    ·refine .inr ⟨q.toNat,by omega,by omega,?_⟩
     rw[Int.toNat_of_nonneg e1];exact h
    ·exact .inl h'
theorem loc_tru {ps:List Pr} {t:Pd} (hok:okT ps t=true) (h9:9≤t.kind) (hl:(locR t).2=true) {c d:List Int} (h:∀i:Nat,ownF t=i→c.getD i 0=d.getD i 0):truF (obC ps c) t=truF (obC ps d) t:=by
 have hr:allB (resB ps) t=true:=by
  unfold okT at hok
  simp only[Bool.and_eq_true] at hok
  exact hok.1.2
 obtain⟨hch,ho⟩:=loc_own hr hl
 refine truF_congr t hok h9 ?_
 rcases ho with ⟨_,hn⟩|⟨i,e,hi,hn⟩
 ·refine AllP_of_allB (fun x hx => ?_) t (allB_two t hn hch)
  obtain⟨k,n,p,q,s,l⟩:=x
  rw[Bool.and_eq_true] at hx
  have h1:(!decide (k=2∨k=3))=true:=hx.1
  have h2:¬k=4:=of_decide_eq_true hx.2
  rw[Bool.not_eq_true',decide_eq_false_iff_not] at h1
  exact⟨fun e=>absurd (.inl e) h1,fun e=>absurd (.inr e) h1,fun e=>absurd e h2⟩
 ·have hci:=h i e
  refine AllP_of_allB (fun x hx => ?_) t (allB_two t hn hch)
  obtain⟨k,n,p,q,s,l⟩:=x
  rw[Bool.and_eq_true] at hx
  have h1:(if k=2∨k=3 then decide (p=(i:Int)) else true)=true:=hx.1
  have h2:¬k=4:=of_decide_eq_true hx.2
  refine⟨fun e => ?_,fun e => ?_,fun e=>absurd e h2⟩
  ·rw[if_pos (.inl e)] at h1
   obtain rfl:=of_decide_eq_true h1
   show (match ps[((i:Nat):Int).toNat]? with|some x=>(stateAt x (c.getD ((i:Nat):Int).toNat 0).toNat).getD (varIx x.vars s).toNat 0|none=>0)=(match ps[((i:Nat):Int).toNat]? with|some x=>(stateAt x (d.getD ((i:Nat):Int).toNat 0).toNat).getD (varIx x.vars s).toNat 0|none=>0)
   rw[Int.toNat_natCast,hci]
  ·rw[if_pos (.inr e)] at h1
   obtain rfl:=of_decide_eq_true h1
   show c.getD ((i:Nat):Int).toNat 0=d.getD ((i:Nat):Int).toNat 0
   rw[Int.toNat_natCast,hci]
theorem PC.vw0 {P:Program} {f:FuncId} {args args':List AV} {r:AV} (hv:Vws [] args args') (h:PC P f args' r):PC P f args r:=⟨h.1,fun n w A vs hL hr=>h.2 n w A vs hL ⟨hr.1.trans hv.1.symm,fun i a u ha hu=>by
 have hi:i<args.length:=by
  have h1:=(List.getElem?_eq_some_iff.1 ha).1
  have h2:=hv.1
  omega
 exact Rel.view (hv.2 i _ a (List.getElem?_eq_getElem hi) ha) (fun b x h=>by cases h) (fun _ h=>h) (hr.2 i _ u (List.getElem?_eq_getElem hi) hu)⟩⟩
theorem adE_some {k c d:Int} {f g:Tms} {r:Int × Tms} (h:adE k c d f g=some r):okA k c d f g=true∧r=((sumF k c d).1,addT k f g):=by
 unfold adE at h
 split at h
 ·rename_i h1;cases h;exact⟨h1,rfl⟩
 ·cases h
theorem linE_inv1 {k n p q:Int} {s:ByteArray} {x:Pd} {r:Int × Tms} (hk:¬k=1) (hk2:¬(k=2∨k=3∨k=4)) (h:linE (.mk k n p q s [x])=some r):∃a,linE x=some a∧adE (-1) 0 a.1 [] a.2=some r:=by
 cases hx:linE x with
 | none=>rw[lin_none (l:=[x]) (i:=0) (by simp) hx] at h;cases h
 | some a=>rw[linE_1 hx,linN,if_neg hk,if_neg hk2] at h;exact⟨a,rfl,h⟩
theorem linE_inv2 {k n p q:Int} {s:ByteArray} {x y:Pd} {r:Int × Tms} (hk:¬k=1) (hk2:¬(k=2∨k=3∨k=4)) (h:linE (.mk k n p q s [x,y])=some r):∃a b,linE x=some a∧linE y=some b ∧
  (if k=6 then adE 1 a.1 b.1 a.2 b.2 else if k=7 then adE (-1) a.1 b.1 a.2 b.2 else if a.2.length=0 then adE a.1 0 b.1 [] b.2 else if b.2.length=0 then adE b.1 0 a.1 [] a.2 else none)=some r:=by
 cases hx:linE x with
 | none=>rw[lin_none (l:=[x,y]) (i:=0) (by simp) hx] at h;cases h
 | some a =>
  cases hy:linE y with
  | none=>rw[lin_none (l:=[x,y]) (i:=1) (by simp) hy] at h;cases h
  | some b=>rw[linE_2 hx hy,linN,if_neg hk,if_neg hk2] at h;exact⟨a,b,rfl,rfl,h⟩
theorem addT_mem {k:Int} {f:Tms} (hf:OkT f):∀g:Tms,∀x ∈ addT k f g,x.1 ∈ f.map Prod.fst∨x.1 ∈ g.map Prod.fst
 | [],x,hx => .inl (List.mem_map.2 ⟨x,hx,rfl⟩)
 | y :: g,x,hx=>by
  rw[addT] at hx
  rcases (st_ok (addT_ok k hf g) (sumF_num _ _ _)).2 x hx with h|h
  ·exact .inr (by rw[h];simp)
  ·rcases addT_mem hf g x h with h|h
   ·exact .inl h
   ·exact .inr (by rw[List.map_cons];exact List.mem_cons_of_mem _ h)
theorem lin_ad {t:Pd} {k c d:Int} {f g:Tms} {r:Int × Tms} (hE:linE t=some r) (h:adE k c d f g=some r) (hf:OkT f) (hg:OkT g) (hmem:∀a,(a ∈ f.map Prod.fst∨a ∈ g.map Prod.fst)→a ∈ lvF t) (hv:∀o,valF o t=(c+sT (obV o) f)+k * (d+sT (obV o) g)):LinS t r.1 r.2:=by
 obtain⟨h1,rfl⟩:=adE_some h
 have h1':=h1
 unfold okA at h1
 rw[Bool.and_eq_true] at h1
 exact lin_of (addT_ok k hf g) (addT_mem hf g) h1.1 (fun v=>addT_s v g hg.nd h1.2) hmem hv ⟨_,hE,.refl (addT_ok k hf g)⟩
theorem linE_lin (t:Pd):IntOk t→∀r,linE t=some r→LinS t r.1 r.2:=by
 induction t using Pd.ind with
 | _ k n p q s l ih =>
 intro hio r h
 obtain⟨hsub,hc⟩:=int_parts hio
 rcases hc with ⟨hk,rfl⟩|⟨rfl,x,rfl⟩|⟨hk,x,y,rfl⟩
 ·by_cases h1:k=1
  ·subst h1
   have hn:NumB n:=by
    have h1:=hio.1
    rw[allB_mk,Bool.and_eq_true] at h1
    have h2:=(loc_len h1.1).2
    unfold numB at h2
    rw[if_pos rfl,decide_eq_true_eq] at h2
    unfold NumB;omega
   rw[linE_mk,linL_nil] at h
   have h:(if (1:Int)=1 then some (n,[]) else _)=some r:=h
   rw[if_pos rfl] at h
   cases h
   exact lin_num p q s hn
  ·have h2:k=2∨k=3∨k=4:=by omega
   rw[linE_mk,linL_nil] at h
   have h:(if k=1 then some (n,[]) else if k=2∨k=3∨k=4 then some (0,[((k,p,q,s),1)]) else _)=some r:=h
   rw[if_neg h1,if_pos h2] at h
   cases h
   exact lin_leaf h2 n p q s
 ·obtain⟨a,ha,h'⟩:=linE_inv1 (by decide) (by decide) h
  have hx:=ih x (by simp) (hsub x (by simp)) a ha
  refine lin_ad h h' ok_nil hx.ok (fun b hb => ?_) fun o => ?_
  ·rcases hb with hb|hb
   ·simp at hb
   ·exact lv_mem (by decide) (x:=x) (by simp) (lin_mem hx hb)
  ·rw[valF_mk]
   show -valF o x=_
   rw[hx.val o]
   show _=0+0 + -1 * _
   omega
 ·obtain⟨a,b,ha,hb,h'⟩:=linE_inv2 (by omega) (by omega) h
  have hx:=ih x (by simp) (hsub x (by simp)) a ha
  have hy:=ih y (by simp) (hsub y (by simp)) b hb
  have hk4:¬(k=2∨k=3∨k=4):=by omega
  have mx:∀u,u ∈ a.2.map Prod.fst→u ∈ lvF (.mk k n p q s [x,y]):=fun u hu=>lv_mem hk4 (x:=x) (by simp) (lin_mem hx hu)
  have my:∀u,u ∈ b.2.map Prod.fst→u ∈ lvF (.mk k n p q s [x,y]):=fun u hu=>lv_mem hk4 (x:=y) (by simp) (lin_mem hy hu)
  have hvl:∀o,valF o (.mk k n p q s [x,y])=if k=6 then valF o x+valF o y else if k=7 then valF o x - valF o y else valF o x * valF o y:=fun o=>by rw[valF_mk];rfl
  split at h'
  ·rename_i e
   refine lin_ad h h' hx.ok hy.ok (fun u hu=>hu.elim (mx u) (my u)) fun o => ?_
   rw[hvl,if_pos e,hx.val,hy.val]
   omega
  split at h'
  ·rename_i e6 e
   refine lin_ad h h' hx.ok hy.ok (fun u hu=>hu.elim (mx u) (my u)) fun o => ?_
   rw[hvl,if_neg e6,if_pos e,hx.val,hy.val]
   omega
  split at h'
  ·rename_i e6 e7 e
   refine lin_ad h h' ok_nil hy.ok (fun u hu=>hu.elim (fun hu=>by simp at hu) (my u)) fun o => ?_
   rw[hvl,if_neg e6,if_neg e7,hx.val,hy.val,List.length_eq_zero_iff.1 e]
   show (a.1+0) * _=0+0+a.1 * _
   rw[Int.add_zero,Int.zero_add,Int.zero_add]
  split at h'
  ·rename_i e6 e7 e8 e
   refine lin_ad h h' ok_nil hx.ok (fun u hu=>hu.elim (fun hu=>by simp at hu) (mx u)) fun o => ?_
   rw[hvl,if_neg e6,if_neg e7,hx.val,hy.val,List.length_eq_zero_iff.1 e]
   show _ * (b.1+0)=0+0+b.1 * _
   rw[Int.add_zero,Int.zero_add,Int.zero_add,Int.mul_comm]
  ·cases h'
def mvIs (st:Int × Int) (x:Atm × Int):Int × Int:=if x.1.1=4∧0<x.2 then (x.1.2.1,x.1.2.2.1) else if x.1.1=4 then (x.1.2.2.1,x.1.2.1) else if 0<x.2 then (x.1.2.1,st.2) else (st.1,x.1.2.1)
def mvI (h:Tms):Int × Int:=h.foldl mvIs (-1,-1)
theorem two_inv {h:Tms} (ht:twoS h=true):(∃x,h=[x]∧x.1.1=4)∨∃x y,(h=[x,y]∨h=[y,x])∧x.1.1=3∧0<x.2∧y.1.1=3∧¬0<y.2:=by
 unfold twoS at ht
 simp only[Bool.or_eq_true,Bool.and_eq_true,decide_eq_true_eq] at ht
 rcases ht with ⟨h1,h2⟩|⟨⟨h1,h2⟩,h3⟩
 ·obtain⟨x,rfl⟩:=ln1 (l:=h) (by omega)
  refine .inl ⟨x,rfl,?_⟩
  by_cases e:x.1.1=4
  ·exact e
  ·unfold nF at h2
   simp [isChn,e] at h2
 ·obtain⟨x,y,rfl⟩:=ln2 (l:=h) (by omega)
  refine .inr ?_
  unfold nF at h2 h3
  by_cases px:isPos x=true
  ·have hx:x.1.1=3∧0<x.2:=by unfold isPos at px;simpa using px
   have nx:isNeg x=false:=by unfold isNeg;simp [hx.2]
   by_cases ny:isNeg y=true
   ·have hy:y.1.1=3∧¬0<y.2:=by unfold isNeg at ny;simpa using ny
    exact⟨x,y,.inl rfl,hx.1,hx.2,hy.1,hy.2⟩
   ·have ny:isNeg y=false:=by simpa using ny
    simp [nx,ny] at h3
  ·have px:isPos x=false:=by simpa using px
   by_cases py:isPos y=true
   ·have hy:y.1.1=3∧0<y.2:=by unfold isPos at py;simpa using py
    have ny:isNeg y=false:=by unfold isNeg;simp [hy.2]
    by_cases nx:isNeg x=true
    ·have hx:x.1.1=3∧¬0<x.2:=by unfold isNeg at nx;simpa using nx
     exact⟨y,x,.inr rfl,hy.1,hy.2,hx.1,hx.2⟩
    ·have nx:isNeg x=false:=by simpa using nx
     simp [nx,ny] at h3
   ·have py:isPos y=false:=by simpa using py
    simp [px,py] at h2
theorem mv_chn {x:Atm × Int} (h:x.1.1=4):mvI [x]=if 0<x.2 then (x.1.2.1,x.1.2.2.1) else (x.1.2.2.1,x.1.2.1):=by
 show mvIs (-1,-1) x=_
 unfold mvIs
 by_cases h2:0<x.2
 ·rw[if_pos ⟨h,h2⟩,if_pos h2]
 ·rw[if_neg (fun e=>h2 e.2),if_pos h,if_neg h2]
theorem mv_cnt {x y:Atm × Int} (h1:x.1.1=3) (h2:0<x.2) (h3:y.1.1=3) (h4:¬0<y.2):mvI [x,y]=(x.1.2.1,y.1.2.1)∧mvI [y,x]=(x.1.2.1,y.1.2.1):=by
 have n1:¬x.1.1=4:=by omega
 have n2:¬y.1.1=4:=by omega
 have e:∀st,mvIs st x=(x.1.2.1,st.2):=fun st=>by unfold mvIs;rw[if_neg (fun e=>n1 e.1),if_neg n1,if_pos h2]
 have e':∀st,mvIs st y=(st.1,y.1.2.1):=fun st=>by unfold mvIs;rw[if_neg (fun e=>n2 e.1),if_neg n2,if_neg h4]
 constructor
 ·show mvIs (mvIs (-1,-1) x) y=_
  rw[e,e']
 ·show mvIs (mvIs (-1,-1) y) x=_
  rw[e',e]
theorem perm_two {α:Type} {h:List α} {x y:α} (hp:h.Perm [x,y]):h=[x,y]∨h=[y,x]:=by
 obtain⟨a,b,rfl⟩:=ln2 (l:=h) hp.length_eq
 have ha:a ∈ [x,y]:=hp.mem_iff.1 (by simp)
 simp only[List.mem_cons,List.not_mem_nil,or_false] at ha
 rcases ha with rfl|rfl
 ·have:=(List.perm_cons a).1 hp
  have:=List.perm_singleton.1 this
  exact .inl (by rw[this])
 ·have h2:[a,b].Perm [a,x]:=hp.trans (List.Perm.swap a x [])
  have:=(List.perm_cons a).1 h2
  have:=List.perm_singleton.1 this
  exact .inr (by rw[this])
theorem mv_two {g h:Tms} (ht:twoS g=true) (hp:h.Perm g):mvI h=mvI g:=by
 rcases two_inv ht with ⟨x,rfl,_⟩|⟨x,y,e,h1,h2,h3,h4⟩
 ·rw[List.perm_singleton.1 hp]
 ·obtain⟨m1,m2⟩:=mv_cnt h1 h2 h3 h4
  have hp':h.Perm [x,y]:=by
   rcases e with rfl|rfl
   ·exact hp
   ·exact hp.trans (List.Perm.swap x y [])
  have a1:mvI g=(x.1.2.1,y.1.2.1):=by rcases e with rfl|rfl;exact m1;exact m2
  rw[a1]
  rcases perm_two hp' with rfl|rfl
  ·exact m1
  ·exact m2
theorem mv_up:∀(h:Tms) (st:Int × Int),(∀x ∈ h,x.1.1=3∧0<x.2)→(h.foldl mvIs st).2=st.2
 | [],_,_=>rfl
 | x :: h,st,hx=>by
  rw[List.foldl_cons,mv_up h _ fun y hy=>hx y (List.mem_cons_of_mem _ hy)]
  obtain⟨h1,h2⟩:=hx x (by simp)
  unfold mvIs
  rw[if_neg (fun e=>by omega),if_neg (by omega),if_pos h2]
theorem cnt_inv {g:Tms} (hg:OkT g) (h:cntS 1 g=true):∀x ∈ g,x.1.1=3∧0<x.2:=fun x hx=>by
 unfold cntS at h
 have:=List.all_eq_true.1 h x hx
 rw[Bool.and_eq_true,Bool.not_eq_true',decide_eq_true_eq,decide_eq_false_iff_not] at this
 have:=(hg.co x hx).1
 omega
theorem mv_down {g:Tms} (hg:OkT g) (h:cntS 1 g=true):(mvI g).2 = -1:=mv_up g _ (cnt_inv hg h)
def AtmOk (ps:List Pr) (g:Tms):Prop:=∀x ∈ g,(x.1.1=3→∃i:Nat,x.1.2.1=i∧i<ps.length)∧(x.1.1=4→∃i j:Nat,x.1.2.1=i∧i<ps.length∧x.1.2.2.1=j∧j<ps.length)
theorem lv_res {ps:List Pr} (t:Pd):allB (resB ps) t=true→∀a ∈ lvF t,(a.1=3→∃i:Nat,a.2.1=i∧i<ps.length)∧(a.1=4→∃i j:Nat,a.2.1=i∧i<ps.length∧a.2.2.1=j∧j<ps.length):=by
 induction t using Pd.ind with
 | _ k n p q s l ih =>
 intro hr a ha
 rw[allB_mk,Bool.and_eq_true,List.all_eq_true] at hr
 rw[lvF_mk] at ha
 split at ha
 ·obtain rfl:=List.mem_singleton.1 ha
  obtain⟨_,r3,r4⟩:=res_leaf hr.1
  refine⟨fun e => ?_,fun e => ?_⟩
  ·obtain⟨i,e1,hi⟩:=isPB_nat (r3 e)
   exact⟨i,e1,hi⟩
  ·obtain⟨i,e1,hi⟩:=isPB_nat (r4 e).1
   obtain⟨j,e2,hj⟩:=isPB_nat (r4 e).2.1
   exact⟨i,j,e1,hi,e2,hj⟩
 ·have hL:∀l:List Pd,(∀x ∈ l,∀a ∈ lvF x,(a.1=3→∃i:Nat,a.2.1=i∧i<ps.length)∧(a.1=4→∃i j:Nat,a.2.1=i∧i<ps.length∧a.2.2.1=j∧j<ps.length))→∀a ∈ lvL l,(a.1=3→∃i:Nat,a.2.1=i∧i<ps.length)∧(a.1=4→∃i j:Nat,a.2.1=i∧i<ps.length∧a.2.2.1=j∧j<ps.length):=by
   intro l
   induction l with
   | nil=>intro _ a ha;rw[lvL] at ha;cases ha
   | cons x l ihl =>
    intro hl a ha
    rw[lvL] at ha
    rcases List.mem_append.1 ha with ha|ha
    ·exact hl x (by simp) a ha
    ·exact ihl (fun y hy=>hl y (List.mem_cons_of_mem _ hy)) a ha
  exact hL l (fun x hx=>ih x hx (hr.2 x hx)) a ha
theorem obV_cnt {ps:List Pr} {c:List Int} {a:Atm} {i:Nat} (h:a.1=3) (e:a.2.1=i):obV (obC ps c) a=c.getD i 0:=by
 unfold obV
 rw[if_neg (by omega),if_pos h,e]
 show c.getD ((i:Nat):Int).toNat 0=_
 rw[Int.toNat_natCast]
theorem obV_chn {ps:List Pr} {c:List Int} {a:Atm} {i j:Nat} (h:a.1=4) (e:a.2.1=i) (e':a.2.2.1=j):obV (obC ps c) a=undF ps c i j:=by
 unfold obV
 rw[if_neg (by omega),if_neg (by omega),e,e'];rfl
theorem two_val {ps:List Pr} (hv:validF ps=true) {g:Tms} (hg:OkT g) (ha:AtmOk ps g) (ht:twoS g=true):∃i j:Nat,mvI g=((i:Int),(j:Int))∧i<ps.length∧j<ps.length∧∀ {c d:List Int},leC c d →
  (c.getD j 0=d.getD j 0→sT (obV (obC ps c)) g≤sT (obV (obC ps d)) g)∧(c.getD i 0=d.getD i 0→sT (obV (obC ps d)) g≤sT (obV (obC ps c)) g):=by
 rcases two_inv ht with ⟨x,rfl,h4⟩|⟨x,y,e,h1,h2,h3,h4⟩
 ·obtain⟨i,j,e1,hi,e2,hj⟩:=(ha x (by simp)).2 h4
  have hx0:=(hg.co x (by simp)).1
  have hs:∀c,sT (obV (obC ps c)) [x]=x.2 * undF ps c i j:=fun c=>by
   show x.2 * obV (obC ps c) x.1+0=_
   rw[obV_chn h4 e1 e2,Int.add_zero]
  rw[mv_chn h4]
  by_cases h0:0<x.2
  ·rw[if_pos h0,e1,e2]
   refine⟨i,j,rfl,hi,hj,fun {c d} hle=>⟨fun h => ?_,fun h => ?_⟩⟩
   ·rw[hs,hs]
    exact Int.mul_le_mul_of_nonneg_left (und_more hv hle i j h) (by omega)
   ·rw[hs,hs]
    exact Int.mul_le_mul_of_nonneg_left (und_same hle i j h) (by omega)
  ·rw[if_neg h0,e1,e2]
   refine⟨j,i,rfl,hj,hi,fun {c d} hle=>⟨fun h => ?_,fun h => ?_⟩⟩
   ·rw[hs,hs]
    exact Int.mul_le_mul_of_nonpos_left (by omega) (und_same hle i j h)
   ·rw[hs,hs]
    exact Int.mul_le_mul_of_nonpos_left (by omega) (und_more hv hle i j h)
 ·have hmx:x ∈ g:=by rcases e with rfl|rfl <;> simp
  have hmy:y ∈ g:=by rcases e with rfl|rfl <;> simp
  obtain⟨i,e1,hi⟩:=(ha x hmx).1 h1
  obtain⟨j,e2,hj⟩:=(ha y hmy).1 h3
  obtain⟨m1,m2⟩:=mv_cnt h1 h2 h3 h4
  have hm:mvI g=((i:Int),(j:Int)):=by rw[← e1,← e2];rcases e with rfl|rfl;exact m1;exact m2
  have hs:∀c,sT (obV (obC ps c)) g=x.2 * c.getD i 0+y.2 * c.getD j 0:=fun c=>by
   rw[← obV_cnt (ps:=ps) (c:=c) h1 e1,← obV_cnt (ps:=ps) (c:=c) h3 e2]
   rcases e with rfl|rfl
   ·show x.2 * _+(y.2 * _+0)=_
    omega
   ·show y.2 * _+(x.2 * _+0)=_
    omega
  refine⟨i,j,hm,hi,hj,fun {c d} hle=>⟨fun h => ?_,fun h => ?_⟩⟩
  ·rw[hs,hs,h]
   have:=Int.mul_le_mul_of_nonneg_left (hle i) (show 0≤x.2 by omega)
   omega
  ·rw[hs,hs,h]
   have:=Int.mul_le_mul_of_nonpos_left (show y.2≤0 by omega) (hle j)
   omega
theorem cnt_val {ps:List Pr} {c d:List Int} (hle:leC c d):∀ {g:Tms},AtmOk ps g→(∀x ∈ g,x.1.1=3∧0<x.2)→sT (obV (obC ps c)) g≤sT (obV (obC ps d)) g
 | [],_,_=>Int.le_refl _
 | x :: g,ha,hx=>by
  have ih:=cnt_val hle (g:=g) (fun y hy=>ha y (List.mem_cons_of_mem _ hy)) fun y hy=>hx y (List.mem_cons_of_mem _ hy)
  obtain⟨h1,h2⟩:=hx x (by simp)
  obtain⟨i,e,hi⟩:=(ha x (by simp)).1 h1
  rw[sT,sT,obV_cnt h1 e,obV_cnt h1 e]
  have:=Int.mul_le_mul_of_nonneg_left (hle i) (show 0≤x.2 by omega)
  omega
structure IsGr (ps:List Pr) (E:Elim) (c:List Int):Prop where
 sat:SatD ps E c
 up:∀d,SatD ps E d→∀p,p<ps.length→cAt d p≤cAt c p
open Classical in
noncomputable def greatO (ps:List Pr) (E:Elim):Option (List Int):=if h:∃c,IsGr ps E c then some (Classical.choose h) else none
section
variable {ps:List Pr} {E:Elim}
theorem totC_lt {d e:List Int} (hl:e.length=d.length) (hle:∀q,q<d.length→0≤cAt e q∧cAt e q≤cAt d q) (hlt:∃q,q<d.length∧cAt e q<cAt d q):totC e<totC d:=by
 have key:∀(d e:List Int),e.length=d.length→(∀q,q<d.length→0≤cAt e q∧cAt e q≤cAt d q)→totC e≤totC d∧((∃q,q<d.length∧cAt e q<cAt d q)→totC e<totC d):=by
  intro d
  induction d with
  | nil =>
   intro e hl _
   have:e=[]:=List.length_eq_zero_iff.1 (by simpa using hl)
   subst this
   exact⟨Nat.le_refl _,fun ⟨q,hq,_⟩=>by simp at hq⟩
  | cons a d ih =>
   intro e hl h
   cases e with
   | nil=>simp at hl
   | cons b e =>
    have hc:∀(x:Int) (l:List Int) (q:Nat),cAt (x :: l) ((q+1:Nat):Int)=cAt l (q:Int):=fun x l q=>by
     unfold cAt
     rw[Int.toNat_natCast,Int.toNat_natCast]
     simp
    have h0:=h 0 (by simp)
    have e0:∀(x:Int) (l:List Int),cAt (x :: l) ((0:Nat):Int)=x:=fun x l=>by unfold cAt;simp
    rw[e0,e0] at h0
    obtain⟨i1,i2⟩:=ih e (by simpa using hl) fun q hq=>by
     have:=h (q+1) (by simpa using hq)
     rw[hc,hc] at this
     exact this
    have ht:∀(x:Int) (l:List Int),totC (x :: l)=x.toNat+totC l:=fun x l=>by simp [totC]
    rw[ht,ht]
    refine⟨by omega,?_⟩
    rintro⟨q,hq,hlt⟩
    cases q with
    | zero=>rw[e0,e0] at hlt;omega
    | succ q =>
     rw[hc,hc] at hlt
     have:=i2 ⟨q,by simpa using hq,hlt⟩
     omega
 exact(key d e hl hle).2 hlt
end
end Go.AL
end
section
namespace Go.AL
open Go Go.RowKit
set_option maxRecDepth 4000
structure PartOk (ps:List Pr) (t:Pd):Prop where
 ok:PredOk t
 ck:checkF ps t=0
 ntm:allB ntmB t=true
 sz:szF t≤1000000
 lin:(locR t).2=true∨bndF t 1=true∨bothF t=true
theorem PartOk.okt {ps:List Pr} {t:Pd} (h:PartOk ps t):okT ps t=true:=(checkF_zero h.ck).2.2.1
def difV (o:Obs):Pd→Int
 | .mk _ _ _ _ _ [x,y]=>valF o x - valF o y
 | _=>0
noncomputable def fbF (ps:List Pr) (c:List Int) (t:Pd):Int :=
 if (locR t).2 then ownF t else match cmpE t with
  | some g=>if t.kind=9∧difV (obC ps c) t<0 then (mvI g.2).1 else (mvI g.2).2
  | none => -1
theorem okT_res {ps:List Pr} {t:Pd} (h:okT ps t=true):allB (resB ps) t=true:=by
 unfold okT at h
 simp only[Bool.and_eq_true] at h
 exact h.1.2
theorem dfP_ok {x y:Pd} (hx:IntOk x) (hy:IntOk y):IntOk (dfP x y):=by
 refine⟨?_,?_,show (7:Int)≤8 by decide⟩
 ·unfold dfP
  rw[allB_mk,Bool.and_eq_true,List.all_eq_true]
  refine⟨by unfold locB partsF numB nameB;simp,fun z hz => ?_⟩
  simp only[List.mem_cons,List.not_mem_nil,or_false] at hz
  rcases hz with rfl|rfl
  ·exact hx.1
  ·exact hy.1
 ·unfold dfP
  rw[allB_mk,Bool.and_eq_true,List.all_eq_true]
  refine⟨typ_nd (k:=7) (l:=[x,y]) fun z hz => ?_,fun z hz => ?_⟩
  ·simp only[List.mem_cons,List.not_mem_nil,or_false] at hz
   rcases hz with rfl|rfl
   ·exact res_of_int hx.2.2
   ·exact res_of_int hy.2.2
  ·simp only[List.mem_cons,List.not_mem_nil,or_false] at hz
   rcases hz with rfl|rfl
   ·exact hx.2.1
   ·exact hy.2.1
structure CmpPt (ps:List Pr) (k:Int) (x y:Pd) (g:Int × Tms):Prop where
 k4:k=9∨k=10∨k=11∨k=12
 ix:IntOk x
 iy:IntOk y
 he:cmpE (nd k [x,y])=some g
 hl:linE (dfP x y)=some g
 ok:OkT g.2
 at':AtmOk ps g.2
 val:∀o,valF o x - valF o y=g.1+sT (obV o) g.2
 is:(g.2.length=0∨((k=11∨k=12)∧cntS 1 g.2=true))∨(¬k=10∧twoS g.2=true)
theorem part_cmp {ps:List Pr} {t:Pd} (h:PartOk ps t) (hl:(locR t).2=false):∃k x y g,t=nd k [x,y]∧CmpPt ps k x y g:=by
 have hor:bndF t 1=true∨bothF t=true:=by
  rcases h.lin with e|e
  ·rw[hl] at e;cases e
  ·exact e
 obtain⟨g,hg⟩:∃g,cmpE t=some g:=by
  cases hc:cmpE t with
  | some g=>exact⟨g,rfl⟩
  | none =>
   unfold bndF bothF at hor
   rw[hc] at hor
   simp at hor
 have hk12:t.kind≤12:=by
  by_cases e:9≤t.kind∧t.kind≤12
  ·exact e.2
  ·rw[cmpE_no e] at hg;cases hg
 obtain⟨k,x,y,hk4,rfl,hx,hy⟩:=pred_cmp h.ok hk12
 have hd:=dfP_ok hx hy
 have hg':=hg
 rw[cmpE_nd hk4] at hg'
 have hL:=linE_lin (dfP x y) hd g hg'
 have hr:=okT_res h.okt
 rw[nd_allB] at hr
 simp only[Bool.and_eq_true,List.all_cons,List.all_nil,Bool.and_true] at hr
 have hrd:∀a ∈ lvF (dfP x y),a ∈ lvF x∨a ∈ lvF y:=fun a ha=>by
  unfold dfP at ha
  rw[lvF_mk,if_neg (by decide),lvL,lvL,lvL,List.append_nil] at ha
  exact List.mem_append.1 ha
 refine⟨k,x,y,g,rfl,hk4,hx,hy,hg,hg',hL.ok,fun z hz => ?_,fun o => ?_,?_⟩
 ·rcases hrd _ (hL.mem z hz) with ha|ha
  ·exact lv_res x hr.2.1 _ ha
  ·exact lv_res y hr.2.2 _ ha
 ·rw[← hL.val o]
  unfold dfP
  rw[valF_mk];rfl
 ·rcases hor with e|e
  ·unfold bndF at e
   rw[hg] at e
   simp only[Bool.or_eq_true,Bool.and_eq_true,decide_eq_true_eq] at e
   rcases e with e|⟨e1,e2⟩
   ·exact .inl (.inl (by omega))
   ·exact .inl (.inr ⟨e1,e2⟩)
  ·unfold bothF at e
   rw[hg] at e
   simp only[Bool.and_eq_true,Bool.not_eq_true',decide_eq_false_iff_not] at e
   exact .inr ⟨e.1,e.2⟩
theorem fb_cmp {ps:List Pr} {k:Int} {x y:Pd} {g:Int × Tms} (hl:(locR (nd k [x,y])).2=false) (h:CmpPt ps k x y g) (c:List Int) :
  fbF ps c (nd k [x,y])=if k=9∧valF (obC ps c) x - valF (obC ps c) y<0 then (mvI g.2).1 else (mvI g.2).2:=by
 unfold fbF
 rw[hl,h.he];rfl
theorem tru_cmp (o:Obs) (k:Int) (x y:Pd):truF o (nd k [x,y])=truN k [valF o x,valF o y] [truF o x,truF o y]:=by unfold nd;rw[truF_mk];rfl
theorem fb_spec {ps:List Pr} (hv:validF ps=true) {t:Pd} (h:PartOk ps t) {c d:List Int} (hle:leC c d) (hf:truF (obC ps c) t=false) (ht:truF (obC ps d) t=true):∃i:Nat,fbF ps c t=i∧i<ps.length∧c.getD i 0<d.getD i 0:=by
 cases hl:(locR t).2 with
 | true =>
  have hne:¬truF (obC ps c) t=truF (obC ps d) t:=by rw[hf,ht];decide
  have e:fbF ps c t=ownF t:=by unfold fbF;rw[hl];rfl
  rcases (loc_own (okT_res h.okt) hl).2 with ⟨e1,_⟩|⟨i,e1,hi,_⟩
  ·exact absurd (loc_tru h.okt h.ok.2.2 hl fun i e2=>by omega) hne
  ·refine⟨i,e.trans e1,hi,?_⟩
   by_cases e2:c.getD i 0=d.getD i 0
   ·exact absurd (loc_tru h.okt h.ok.2.2 hl fun j e3=>by
     have:j=i:=by omega
     rw[this];exact e2) hne
   ·have:=hle i
    omega
 | false =>
  obtain⟨k,x,y,g,rfl,hc⟩:=part_cmp h hl
  rw[fb_cmp hl hc c]
  rw[tru_cmp] at hf ht
  have v1:=hc.val (obC ps c)
  have v2:=hc.val (obC ps d)
  generalize valF (obC ps c) x=a at *
  generalize valF (obC ps c) y=b at *
  generalize valF (obC ps d) x=a' at *
  generalize valF (obC ps d) y=b' at *
  have key:(¬k=9∧¬k=10→a' - b'<a - b)∧(k=9→(a - b<0→a - b<a' - b')∧(¬a - b<0→a' - b'<a - b)):=by
   rcases hc.k4 with rfl|rfl|rfl|rfl
   ·have h1:decide (a=b)=false:=hf
    have h2:decide (a'=b')=true:=ht
    have h1:=of_decide_eq_false h1
    have h2:=of_decide_eq_true h2
    exact⟨fun e=>absurd rfl e.1,fun _=>⟨fun _=>by omega,fun _=>by omega⟩⟩
   ·exact⟨fun e=>absurd rfl e.2,fun e=>absurd e (by decide)⟩
   ·have h1:decide (a<b)=false:=hf
    have h2:decide (a'<b')=true:=ht
    have h1:=of_decide_eq_false h1
    have h2:=of_decide_eq_true h2
    exact⟨fun _=>by omega,fun e=>absurd e (by decide)⟩
   ·have h1:decide (a≤b)=false:=hf
    have h2:decide (a'≤b')=true:=ht
    have h1:=of_decide_eq_false h1
    have h2:=of_decide_eq_true h2
    exact⟨fun _=>by omega,fun e=>absurd e (by decide)⟩
  rcases hc.is with (e0|⟨e1,e2⟩)|⟨e1,e2⟩
  ·exfalso
   have e0:=List.length_eq_zero_iff.1 e0
   rw[e0] at v1 v2
   have s0:∀v,sT v ([]:Tms)=0:=fun _=>rfl
   rw[s0] at v1 v2
   have e3:a - b=a' - b':=by omega
   have e4:truN k [a,b] [truF (obC ps c) x,truF (obC ps c) y]=truN k [a',b'] [truF (obC ps d) x,truF (obC ps d) y]:=by
    rcases hc.k4 with rfl|rfl|rfl|rfl
    ·show decide (a=b)=decide (a'=b')
     rw[decide_eq_decide];omega
    ·show (!decide (a=b)) = !decide (a'=b')
     congr 1
     rw[decide_eq_decide];omega
    ·show decide (a<b)=decide (a'<b')
     rw[decide_eq_decide];omega
    ·show decide (a≤b)=decide (a'≤b')
     rw[decide_eq_decide];omega
   rw[e4,ht] at hf
   cases hf
  ·exfalso
   have:=cnt_val hle hc.at' (cnt_inv hc.ok e2)
   have:=key.1 (by omega)
   omega
  ·obtain⟨i,j,em,hi,hj,hm⟩:=two_val hv hc.ok hc.at' e2
   obtain⟨m1,m2⟩:=hm hle
   have gi:=hle i
   have gj:=hle j
   rw[em]
   by_cases hk:k=9∧a - b<0
   ·rw[if_pos hk]
    refine⟨i,rfl,hi,?_⟩
    by_cases e:c.getD i 0=d.getD i 0
    ·have:=m2 e
     have:=(key.2 hk.1).1 hk.2
     omega
    ·omega
   ·rw[if_neg hk]
    refine⟨j,rfl,hj,?_⟩
    by_cases e:c.getD j 0=d.getD j 0
    ·have:=m1 e
     by_cases k9:k=9
     ·have:=(key.2 k9).2 fun e=>hk ⟨k9,e⟩
      omega
     ·have:=key.1 ⟨k9,e1⟩
      omega
    ·omega
theorem fb_rng {ps:List Pr} (hv:validF ps=true) {t:Pd} (h:PartOk ps t) (c:List Int):fbF ps c t = -1∨∃i:Nat,fbF ps c t=i∧i<ps.length:=by
 cases hl:(locR t).2 with
 | true =>
  have e:fbF ps c t=ownF t:=by unfold fbF;rw[hl];rfl
  rw[e]
  rcases (loc_own (okT_res h.okt) hl).2 with ⟨e1,_⟩|⟨i,e1,hi,_⟩
  ·exact .inl e1
  ·exact .inr ⟨i,e1,hi⟩
 | false =>
  obtain⟨k,x,y,g,rfl,hc⟩:=part_cmp h hl
  rw[fb_cmp hl hc c]
  rcases hc.is with (e0|⟨e1,e2⟩)|⟨e1,e2⟩
  ·have e0:=List.length_eq_zero_iff.1 e0
   rw[e0]
   left
   split <;> rfl
  ·rw[if_neg (by omega),mv_down hc.ok e2]
   exact .inl rfl
  ·obtain⟨i,j,em,hi,hj,_⟩:=two_val hv hc.ok hc.at' e2
   rw[em]
   split
   ·exact .inr ⟨i,rfl,hi⟩
   ·exact .inr ⟨j,rfl,hj⟩
theorem fb_perm {ps:List Pr} {k:Int} {x y:Pd} {g:Int × Tms} (h:CmpPt ps k x y g) (b:Prop) [Decidable b] {f:Tms} (hp:f.Perm g.2):(if k=9∧b then (mvI f).1 else (mvI f).2)=if k=9∧b then (mvI g.2).1 else (mvI g.2).2:=by
 rcases h.is with (e0|⟨e1,e2⟩)|⟨e1,e2⟩
 ·have e0:=List.length_eq_zero_iff.1 e0
  rw[e0] at hp ⊢
  rw[List.perm_nil.1 hp]
 ·rw[if_neg (by omega),if_neg (by omega),mv_down h.ok e2,show (mvI f).2 = -1 from mv_up f _ fun z hz=>cnt_inv h.ok e2 z (hp.mem_iff.1 hz)]
 ·rw[mv_two e2 hp]
structure Lst (ps:List Pr) (T:List Int→Prop) (c d:List Int):Prop where
 is:isF ps d=true
 ge:leC c d
 tru:T d
 least:∀e,isF ps e=true→leC c e→T e→leC d e
theorem leC_anti {c d:List Int} (hl:c.length=d.length) (h:leC c d) (h':leC d c):c=d:=by
 apply List.ext_getElem hl
 intro i h1 h2
 have a:=h i
 have b:=h' i
 rw[List.getD_eq_getElem?_getD,List.getD_eq_getElem?_getD,List.getElem?_eq_getElem h1,List.getElem?_eq_getElem h2] at a b
 simp only[Option.getD_some] at a b
 omega
theorem Lst.uniq {ps:List Pr} {T:List Int→Prop} {c d e:List Int} (h:Lst ps T c d) (h':Lst ps T c e):d=e :=
 leC_anti ((isF_iff.1 h.is).1.trans (isF_iff.1 h'.is).1.symm) (h.least e h'.is h'.ge h'.tru) (h'.least d h.is h.ge h.tru)
open Classical in
noncomputable def lstQ (ps:List Pr) (T:List Int→Prop) (c:List Int):Option (List Int):=if h:∃d,Lst ps T c d then some h.choose else none
theorem lsq_eq {ps:List Pr} {T:List Int→Prop} {c d:List Int} (h:Lst ps T c d):lstQ ps T c=some d:=by
 unfold lstQ
 rw[dif_pos ⟨d,h⟩]
 exact congrArg some ((⟨d,h⟩:∃d,Lst ps T c d).choose_spec.uniq h)
theorem lsq_none {ps:List Pr} {T:List Int→Prop} {c:List Int} (h:∀e,isF ps e=true→leC c e→¬T e):lstQ ps T c=none:=by
 unfold lstQ
 rw[dif_neg]
 rintro⟨d,hd⟩
 exact h d hd.is hd.ge hd.tru
theorem lsq_some {ps:List Pr} {T:List Int→Prop} {c d:List Int} (h:lstQ ps T c=some d):Lst ps T c d:=by
 unfold lstQ at h
 split at h
 ·rename_i h1
  cases h
  exact h1.choose_spec
 ·cases h
theorem totC_ltC {ps:List Pr} {c d:List Int} (hc:isF ps c=true) (hd:isF ps d=true) (h:leC c d) (hlt:∃i:Nat,i<ps.length∧c.getD i 0<d.getD i 0):totC c<totC d:=by
 have hcl:=(isF_iff.1 hc).1
 have hdl:=(isF_iff.1 hd).1
 have hcA:∀(e:List Int) (q:Nat),cAt e q=e.getD q 0:=fun e q=>by unfold cAt;rw[Int.toNat_natCast]
 refine totC_lt (hcl.trans hdl.symm) (fun q hq => ?_) ?_
 ·rw[hcA,hcA]
  refine⟨?_,h q⟩
  obtain⟨b1,_⟩:=inRangeF_get (isF_iff.1 hc).2.1 hcl (show q<ps.length by omega)
  rw[List.getD_eq_getElem?_getD,List.getElem?_eq_getElem (by omega)]
  exact b1
 ·obtain⟨i,hi,hlt⟩:=hlt
  exact⟨i,by omega,by rw[hcA,hcA];exact hlt⟩
theorem inRangeF_of {ps:List Pr} {c:List Int} (hc:c.length=ps.length) (h:∀q (hq:q<ps.length),0≤c[q]'(by omega)∧c[q]'(by omega)≤ps[q].evs.length):inRangeF ps c=true:=by
 unfold inRangeF
 rw[List.all_eq_true]
 intro q hq
 have hq:=List.mem_range.1 hq
 have h1:=h q (by omega)
 unfold cntOk
 rw[List.getElem?_eq_getElem (show q<ps.length by omega),List.getElem?_eq_getElem hq]
 simp only[Bool.and_eq_true,decide_eq_true_eq]
 exact h1
theorem close_step {ps:List Pr} (hv:validF ps=true) {c:List Int} (hc:isF ps c=true) {i:Nat} (hi:i<ps.length) (hlt:c.getD i 0<ps[i].evs.length) :
  (c.set i (c.getD i 0+1)).length=ps.length∧inRangeF ps (c.set i (c.getD i 0+1))=true∧isF ps (closeF ps (c.set i (c.getD i 0+1)))=true∧leC c (closeF ps (c.set i (c.getD i 0+1)))∧c.getD i 0<(closeF ps (c.set i (c.getD i 0+1))).getD i 0 ∧
   ∀e,isF ps e=true→leC c e→c.getD i 0<e.getD i 0→leC (closeF ps (c.set i (c.getD i 0+1))) e:=by
 have hcA:∀(e:List Int) (q:Nat),cAt e q=e.getD q 0:=fun e q=>by unfold cAt;rw[Int.toNat_natCast]
 obtain⟨hcl,hcr,hcc⟩:=isF_iff.1 hc
 have h1:(c.set i (c.getD i 0+1)).length=ps.length:=by rw[List.length_set];exact hcl
 have hg:∀q,q<ps.length→(c.set i (c.getD i 0+1)).getD q 0=if i=q then c.getD i 0+1 else c.getD q 0:=fun q hq=>by
  rw[List.getD_eq_getElem?_getD,List.getElem?_eq_getElem (by omega),List.getElem_set,List.getD_eq_getElem?_getD (l:=c) (i:=q),List.getElem?_eq_getElem (by omega)]
  rfl
 have h2:inRangeF ps (c.set i (c.getD i 0+1))=true:=by
  refine inRangeF_of h1 fun q hq => ?_
  have hgq:=hg q hq
  rw[List.getD_eq_getElem?_getD,List.getElem?_eq_getElem (by omega)] at hgq
  have hgq:(c.set i (c.getD i 0+1))[q]=_:=hgq
  rw[hgq]
  obtain⟨b1,b2⟩:=inRangeF_get hcr hcl hq
  have e:c.getD q 0=c[q]:=by rw[List.getD_eq_getElem?_getD,List.getElem?_eq_getElem (by omega)];rfl
  split
  ·rename_i e2;subst e2
   omega
  ·omega
 obtain⟨a1,a2,a3⟩:=closeF_ok hv h1 h2
 have a4:=closeF_ge hv h1 h2
 have hout:∀(e:List Int) (q:Nat),e.length=ps.length→¬q<ps.length→e.getD q 0=0:=fun e q he hq=>by
  rw[List.getD_eq_getElem?_getD,List.getElem?_eq_none (by omega)];rfl
 refine⟨h1,h2,isF_iff.2 ⟨a1,a2,closeF_closed hv h1 h2⟩,fun q => ?_,?_,fun e he hle hlt q => ?_⟩
 ·by_cases hq:q<ps.length
  ·have:=a4 q hq
   rw[hcA,hcA,hg q hq] at this
   split at this
   ·rename_i e;subst e;omega
   ·exact this
  ·rw[hout c q hcl hq,hout _ q a1 hq];exact Int.le_refl _
 ·have:=a4 i hi
  rw[hcA,hcA,hg i hi,if_pos rfl] at this
  omega
 ·obtain⟨e1,e2,e3⟩:=isF_iff.1 he
  by_cases hq:q<ps.length
  ·have:=closeF_least hv e1 e3 h1 h2 (fun p hp=>by
    rw[hcA,hcA,hg p hp]
    split
    ·rename_i e;subst e;omega
    ·exact hle p) q hq
   rw[hcA,hcA] at this
   exact this
  ·rw[hout e q e1 hq,hout _ q a1 hq];exact Int.le_refl _
end Go.AL
end
