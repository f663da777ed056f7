/- Texts of this claim's proof: WRf5, WRf6, WRf7, WRf8, WPd, WPf, WPc, WDl, WPb, WPt, WPe, WVe, WPg, WPh, WRf9, WPj, WPi, WVt, WVb, WJn, WPw, WPw2, WTl, WEf, WEl, WBd, WCl, WRe, WLo, WLp, WLq, WNd, WBs, WSb, WAw, WSr, WOf, WWl. No condition. -/
import Derived.Test.YtjblppbkhgihoaaGreatDoorM7
import Derived.Test.YtjblppbkhgihoaaGreatDoorM6
import Derived.Test.YtjblppbkhgihoaaGreatDoorM5
section
namespace Go.AL
open Go Go.RowKit
set_option maxRecDepth 4000
structure Psr (ps:List Pr) (x:Eid) (seen q:List Eid):Prop where
 sv:∀y ∈ seen,VEv ps y∧Reach ps y x
 qv:∀y ∈ q,VEv ps y∧Reach ps y x
 nodup:seen.Nodup
 c1:∀z,VEv ps z→Nx ps z x→z ∈ seen∨z ∈ q
 c2:∀y ∈ seen,∀z,VEv ps z→Nx ps z y→z ∈ seen∨z ∈ q
 size:q.length≤2 * (seen.length+1)
theorem dirL_length (ps:List Pr) (p i:Nat):(dirL ps p i).length≤2:=by
 unfold dirL
 rw[List.length_append]
 have h1:(if 0<i then [((p:Int),(i:Int))] else []).length≤1:=by split <;> simp
 have h2:(if (evq ps p i).kind=3 then [sndr ps (evq ps p i).msg] else []).length≤1:=by split <;> simp
 omega
theorem Psr.start {ps:List Pr} (hm:msgF ps=none) {p:Nat} (hp:p<ps.length) {i:Nat} (hi:i<ps[p].evs.length):Psr ps ((p:Int),(i:Int)+1) [] (dirL ps p i) :=
 ⟨fun y h=>(by cases h),fun y h=>let ⟨a,b⟩:=(dirL_iff hm hp hi y).1 h;⟨a,.single b⟩,.nil,fun z h1 h2 => .inr ((dirL_iff hm hp hi z).2 ⟨h1,h2⟩),fun y h=>(by cases h),(by have:=dirL_length ps p i;simp only[List.length_nil];omega)⟩
theorem Psr.skip {ps:List Pr} {x y:Eid} {seen q:List Eid} (h:Psr ps x seen (y :: q)) (hy:y ∈ seen):Psr ps x seen q:=by
 have hc:∀z,z ∈ seen∨z ∈ y :: q→z ∈ seen∨z ∈ q:=fun z hz=>by
  rcases hz with hz|hz
  ·exact .inl hz
  ·rcases List.mem_cons.1 hz with rfl|hz
   ·exact .inl hy
   ·exact .inr hz
 exact⟨h.sv,fun z hz=>h.qv z (List.mem_cons_of_mem _ hz),h.nodup,fun z h1 h2=>hc z (h.c1 z h1 h2),fun w hw z h1 h2=>hc z (h.c2 w hw z h1 h2),by have:=h.size;simp at this;omega⟩
theorem Reach.head {ps:List Pr} {a b y:Eid} (hr:Reach ps b y) (hn:Nx ps a b):Reach ps a y:=by
 induction hr with
 | single h=>exact .tail (.single hn) h
 | tail _ h ih=>exact .tail ih h
theorem Psr.mark {ps:List Pr} (hm:msgF ps=none) {x:Eid} {seen q:List Eid} {p:Nat} (hp:p<ps.length) {i:Nat} (hi:i<ps[p].evs.length) (h:Psr ps x seen (((p:Int),(i:Int)+1) :: q)) (hy:((p:Int),(i:Int)+1) ∉ seen) :
  Psr ps x (((p:Int),(i:Int)+1) :: seen) (q ++ dirL ps p i):=by
 have hyx:=h.qv _ List.mem_cons_self
 have hc:∀z,z ∈ seen∨z ∈ ((p:Int),(i:Int)+1) :: q→z ∈ ((p:Int),(i:Int)+1) :: seen∨z ∈ q ++ dirL ps p i:=fun z hz=>by
  rcases hz with hz|hz
  ·exact .inl (List.mem_cons_of_mem _ hz)
  ·rcases List.mem_cons.1 hz with rfl|hz
   ·exact .inl List.mem_cons_self
   ·exact .inr (List.mem_append_left _ hz)
 refine⟨fun z hz => ?_,fun z hz => ?_,List.nodup_cons.2 ⟨hy,h.nodup⟩,fun z h1 h2=>hc z (h.c1 z h1 h2),fun w hw z h1 h2 => ?_,?_⟩
 ·rcases List.mem_cons.1 hz with rfl|hz
  ·exact hyx
  ·exact h.sv z hz
 ·rcases List.mem_append.1 hz with hz|hz
  ·exact h.qv z (List.mem_cons_of_mem _ hz)
  ·obtain⟨a,b⟩:=(dirL_iff hm hp hi z).1 hz
   exact⟨a,hyx.2.head b⟩
 ·rcases List.mem_cons.1 hw with rfl|hw
  ·exact .inr (List.mem_append_right _ ((dirL_iff hm hp hi z).2 ⟨h1,h2⟩))
  ·exact hc z (h.c2 w hw z h1 h2)
 ·have h1:=h.size
  have h2:=dirL_length ps p i
  simp only[List.length_cons,List.length_append] at h1 ⊢
  omega
theorem Psr.done {ps:List Pr} {x:Eid} {seen:List Eid} (h:Psr ps x seen []) {z:Eid} (hz:VEv ps z):z ∈ seen↔Reach ps z x:=by
 refine⟨fun hs=>(h.sv z hs).2,fun hr => ?_⟩
 have key:∀c,Reach ps z c→(c=x∨c ∈ seen)→z ∈ seen:=fun c hc=>by
  induction hc with
  | single hn =>
   rintro(rfl|hc)
   ·exact(h.c1 z hz hn).resolve_right (by simp)
   ·exact(h.c2 _ hc z hz hn).resolve_right (by simp)
  | @tail b c hb hn ih =>
   have hbv:VEv ps b:=Reach.valid hb hz
   rintro(rfl|hc)
   ·exact ih (.inr ((h.c1 b hbv hn).resolve_right (by simp)))
   ·exact ih (.inr ((h.c2 _ hc b hbv hn).resolve_right (by simp)))
 exact key x hr (.inl rfl)
theorem Psr.small {ps:List Pr} {x:Eid} {seen q:List Eid} (h:Psr ps x seen q):seen.length≤(evIds ps).length:=by
 have:=List.Nodup.length_le_of_subset h.nodup (l₂:=(evIds ps).map (·.1)) (fun y hy=>(h.sv y hy).1.mem)
 simpa using this
def pRow (ps:List Pr) (seen:List Eid) (p:Nat):List AV:=(List.range (nev ps p+1)).map fun (k:Nat)=>ab (decide (((p:Int),(k:Int)) ∈ seen))
theorem pRow_length (ps:List Pr) (seen:List Eid) (p:Nat):(pRow ps seen p).length=nev ps p+1:=by simp [pRow]
theorem pRow_get {ps:List Pr} {seen:List Eid} {p k:Nat} (hk:k<nev ps p+1):(pRow ps seen p).getD k .any=ab (decide (((p:Int),(k:Int)) ∈ seen)):=map_range_getD hk _
theorem pRow_set {ps:List Pr} {seen:List Eid} {p k:Nat} : (pRow ps seen p).set k (ab true)=pRow ps (((p:Int),(k:Int)) :: seen) p:=by
 unfold pRow
 rw[map_range_set];congr 1;funext j
 by_cases e:j=k
 ·subst e;rw[if_pos rfl,decide_eq_true List.mem_cons_self]
 ·rw[if_neg e]
  have:(((p:Int),(j:Int)) ∈ ((p:Int),(k:Int)) :: seen)↔(((p:Int),(j:Int)) ∈ seen):=by
   rw[List.mem_cons,Prod.mk.injEq]
   exact⟨fun h=>h.resolve_left fun h=>e (by omega),.inr⟩
  rw[decide_eq_decide.2 this]
theorem pRow_other {ps:List Pr} {seen:List Eid} {p k q:Nat} (h:q ≠ p):pRow ps (((p:Int),(k:Int)) :: seen) q=pRow ps seen q:=by
 unfold pRow
 congr 1;funext j
 have:(((q:Int),(j:Int)) ∈ ((p:Int),(k:Int)) :: seen)↔(((q:Int),(j:Int)) ∈ seen):=by
  rw[List.mem_cons,Prod.mk.injEq]
  exact⟨fun h'=>h'.resolve_left fun h'=>h (by omega),.inr⟩
 rw[decide_eq_decide.2 this]
theorem pRow_nil (ps:List Pr) (p:Nat):pRow ps [] p=List.replicate (nev ps p+1) (ab false):=by
 unfold pRow;apply List.ext_getElem (by simp);intro i h1 h2;simp
open Classical in
noncomputable def pastA (ps:List Pr) (x:Eid):AV:=.sl 1 ((List.range ps.length).map fun (p:Nat) => .sl 1 ((List.range (nev ps p+1)).map fun (k:Nat)=>ab (decide (VEv ps ((p:Int),(k:Int))∧Reach ps ((p:Int),(k:Int)) x))))
theorem pastA_of {ps:List Pr} {x:Eid} {seen:List Eid} (h:Psr ps x seen []):AV.sl 1 ((List.range ps.length).map fun p=>AV.sl 1 (pRow ps seen p))=pastA ps x:=by
 unfold pastA pRow
 congr 2;funext p;congr 2;funext k
 have:(((p:Int),(k:Int)) ∈ seen)↔(VEv ps ((p:Int),(k:Int))∧Reach ps ((p:Int),(k:Int)) x) :=
  ⟨fun hs=>h.sv _ hs,fun ⟨h1,h2⟩=>(h.done h1).2 h2⟩
 rw[decide_eq_decide.2 this]
theorem ref12_Directly (ps:List Pr) (hs:Sm ps) (p:Nat) (hp:p<ps.length) (i:Nat) (hi:i<ps[p].evs.length):MCalls Proofs.Tryz.prog 59 [aTr ps,aEid (p,(i:Int)+1)] [] fun r L=>AppSt 54 2 ((dirL ps p i).map aEid) r L:=by
 have hel:=hs.evs _ (List.getElem_mem hp)
 have hat:=ref12_At ps hs p hp i hi
 have hd:dirL ps p i=(if 0<i then [((p:Int),(i:Int))] else []) ++ (if ps[p].evs[i].kind=3 then [sndr ps ps[p].evs[i].msg] else []):=by
  unfold dirL;rw[evq_get hp hi]
 have hfd:=ref12_Find ps hs 2 ps[p].evs[i].msg
 have hse:findIn (evIds ps) 2 ps[p].evs[i].msg=sndr ps ps[p].evs[i].msg:=rfl
 rw[hse] at hfd
 rw[hd]
 generalize ps[p].evs[i]=e at *
 generalize sndr ps e.msg=sd at *
 have e1:(i:Int)+1 - 1=i:=by omega
 refine MCalls.enter' 33 [.tmp 4] [2,3,6,17,30] Proofs.Tryz.func59 rfl rfl rfl rfl rfl (by simp) (AWp.of ?_);simp only[go_sem]
 refine Wk ?_
 refine Wk ?_
 refine⟨fun h1 => ?_,fun h1 => ?_⟩
 ·rw[if_pos (show 0<i by omega)]
  refine W1 e1 ?_
  refine Sd ?_
  intro b cap g1
  refine Wk ?_
  refine Sd ?_
  refine(hat).val.use ?_;simp only[go_sem]
  refine Sd ?_
  intro b6 g2
  refine Wk ?_
  refine⟨fun h2 => ?_,fun h2 => ?_⟩
  ·rw[if_pos h2]
   refine Wk ?_
   refine Sd ?_
   refine(hfd).val.use ?_;simp only[go_sem]
   refine Sd ?_
   intro b2 cap2 g3
   refine Wk ?_
   refine ret_own ?_
   simp only[go_sem]
   rw[e1]
   exact .row _ [_,_] _
  ·rw[if_neg h2]
   refine Wk ?_
   refine ret_own ?_
   simp only[go_sem]
   rw[e1]
   exact .row _ [_] _
 ·rw[if_neg (show ¬0<i by omega)]
  refine Wk ?_
  refine Sd ?_
  refine(hat).val.use ?_;simp only[go_sem]
  refine Sd ?_
  intro b6
  refine Wk ?_
  refine⟨fun h2 => ?_,fun h2 => ?_⟩
  ·rw[if_pos h2]
   refine Wk ?_
   refine Sd ?_
   refine(hfd).val.use ?_;simp only[go_sem]
   refine Sd ?_
   intro b2 cap2 g3
   refine Wk ?_
   refine ret_own ?_
   simp only[go_sem]
   exact .row _ [_] _
  ·rw[if_neg h2]
   refine Wk ?_
   refine ret_own ?_
   simp only[go_sem]
   exact .nil
end Go.AL
end
section
namespace Go.AL
open Go Go.RowKit
set_option maxRecDepth 4000
def RSt (n bo cap:Nat) (Y:Nat→List AV) (L:AHeap):Prop :=
 ∃(V:Nat→AV) (Ls:Nat→AHeap),L.Perm ((bo,.row 90 1 ((List.range n).map V) cap) :: famL n Ls)∧∀p,p<n→AppSt 4 1 (Y p) (V p) (Ls p)
theorem RSt.perm {n bo cap:Nat} {Y:Nat→List AV} {L L':AHeap} (hp:L'.Perm L) (h:RSt n bo cap Y L):RSt n bo cap Y L' :=
 let ⟨V,Ls,h1,h2⟩:=h
 ⟨V,Ls,hp.trans h1,h2⟩
theorem RSt.open {n bo cap:Nat} {Y:Nat→List AV} {L:AHeap} (h:RSt n bo cap Y L) {p:Nat} (hp:p<n) (hY:0<(Y p).length) :
  ∃(V:Nat→AV) (b cp:Nat) (X:AHeap),L.Perm ((bo,.row 90 1 ((List.range n).map V) cap) :: (b,.row 4 1 (Y p) cp) :: X)∧V p = .ls b 1 0 (Y p).length cp ∧
   ∀(Y':Nat→List AV) (L':AHeap),(∀q,q ≠ p→Y' q=Y q)→(Y' p).length=(Y p).length→L'.Perm ((bo,.row 90 1 ((List.range n).map V) cap) :: (b,.row 4 1 (Y' p) cp) :: X)→RSt n bo cap Y' L':=by
 obtain⟨V,Ls,h1,h2⟩:=h
 rcases (h2 p hp).inv with ⟨e,_,_⟩|⟨b,cp,e1,e2⟩
 ·rw[e] at hY;simp at hY
 ·have hsp:=fam_split hp Ls
  rw[e2] at hsp
  refine⟨V,b,cp,famR n p Ls,h1.trans (hsp.cons _),e1,fun Y' L' hq hl hL => ?_⟩
  refine⟨V,fun q=>if q=p then [(b,.row 4 1 (Y' p) cp)] else Ls q,?_,fun q hqn => ?_⟩
  ·refine hL.trans (List.Perm.cons _ ?_)
   have hsp:=fam_split hp (fun q=>if q=p then [(b,ABlk.row 4 1 (Y' p) cp)] else Ls q)
   rw[if_pos rfl,famR_congr (Ls:=Ls) (fun q hq=>if_neg hq)] at hsp
   exact hsp.symm
  ·by_cases e:q=p
   ·subst e;dsimp only;rw[if_pos rfl,e1,← hl];exact .row _ _ _
   ·dsimp only;rw[if_neg e,hq q e];exact h2 q hqn
def QSt (q:List Eid) (v:AV) (L:AHeap):Prop :=
 (q=[]∧v=anil∧L=[])∨∃b off cap capb xs,v = .ls b 2 off q.length cap∧L=[(b,.row 54 2 xs capb)]∧(xs.drop off).take q.length=q.map aEid∧off+q.length≤xs.length∧q.length≤cap∧off+cap=capb
theorem QSt.of {q:List Eid} {v:AV} {L:AHeap} (h:AppSt 54 2 (q.map aEid) v L) (hc:∀b cap,L=[(b,.row 54 2 (q.map aEid) cap)]→q.length≤cap):QSt q v L:=by
 rcases h.inv with ⟨e1,e2,e3⟩|⟨b,cap,e1,e2⟩
 ·exact .inl ⟨by simpa using e1,e2,e3⟩
 ·refine .inr ⟨b,0,cap,cap,q.map aEid,by rw[e1,List.length_map],e2,?_,by simp,hc b cap e2,by omega⟩
  rw[List.drop_zero,List.take_of_length_le (by simp)]
theorem AWp.queue {C:Cfg} {c:Code} {Q:AQ} {ρ:Env} {L Lq L1:AHeap} {q:List Eid} {v:AV} (hP:L.Perm (Lq ++ L1)) (hA:AppSt 54 2 (q.map aEid) v Lq) (h:QSt q v Lq→AWp C c Q ρ L):AWp C c Q ρ L:=by
 rcases hA.inv with ⟨e1,e2,e3⟩|⟨b,cap,e1,e2⟩
 ·exact h (.inl ⟨by simpa using e1,e2,e3⟩)
 ·subst e2
  refine AWp.rowLe (hP.mem_iff.2 (List.mem_append_left _ (List.mem_singleton_self _))) fun hle=>h (QSt.of hA fun b' cap' e => ?_)
  simp only[List.cons.injEq,Prod.mk.injEq,ABlk.row.injEq,and_true] at e
  obtain⟨_,_,_,_,rfl⟩:=e
  simpa using hle
theorem queue_tail {xs:List AV} {off n:Nat} {a:AV} {l:List AV} (h:(xs.drop off).take (n+1)=a :: l):xs.getD off .any=a∧(xs.drop (off+1)).take n=l:=by
 have hd:xs.drop (off+1)=(xs.drop off).drop 1:=by rw[List.drop_drop]
 cases hx:xs.drop off with
 | nil=>rw[hx] at h;cases h
 | cons b r =>
  rw[hx] at h
  simp only[List.take_succ_cons,List.cons.injEq] at h
  refine⟨?_,by rw[hd,hx];simpa using h.2⟩
  have e:xs[off]?=some b:=by
   have:=List.getElem?_drop (xs:=xs) (i:=off) (j:=0)
   rw[hx] at this
   simpa using this.symm
  rw[List.getD_eq_getElem?_getD,e];exact h.1
theorem ref12_Past (ps:List Pr) (hs:Sm ps) (hm:msgF ps=none) (hn:1≤ps.length) (p:Nat) (hp:p<ps.length) (i:Nat) (hi:i<ps[p].evs.length):PC Proofs.Tryz.prog 39 [aTr ps,aEid (p,(i:Int)+1)] (pastA ps ((p:Int),(i:Int)+1)):=by
 have hl:=hs.procs
 refine PC.enter 75 [.tmp 4] [2,3,8,28,72] Proofs.Tryz.func39 rfl rfl rfl rfl rfl (by simp) (AWp.of ?_);simp only[go_sem]
 refine Sd ?_
 refine AWp.of ?_;simp only[go_sem]
 refine AWp.cut [2,3,5] (fun vs L=>∃bo cap,vs=[.rp 1 [aTr ps] 0 0,.rp 2 [aEid (p,(i:Int)+1)] 0 0,.ls bo 1 0 ps.length cap]∧RSt ps.length bo cap (pRow ps []) L) ?_ ?_
 ·refine Wk ?_
  refine AWp.block (AWp.count 6 ps.length [5] [2,3] (fun k vs L=>∃v Lv V Ls,vs=[v]∧L.Perm (Lv ++ famL k Ls)∧AppSt 90 1 ((List.range k).map V) v Lv∧∀q,q<k→AppSt 4 1 (pRow ps [] q) (V q) (Ls q))
   rfl rfl ⟨anil,[],fun _=>anil,fun _=>[],rfl,.refl _,.nil,fun q hq=>by omega⟩ ?_)
  rintro k vs L hk - ⟨v,Lv,V,Ls,rfl,hP,hA,hF⟩
  refine AWp.perm hP ?_
  simp only[go_sem]
  refine Wk ?_
  refine⟨fun h1 => ?_,fun h1 => ?_⟩
  ·have hkp:k<ps.length:=by omega
   have hel:=hs.evs _ (List.getElem_mem hkp)
   have e1:((ps[k].evs.length:Int)+1).toNat=nev ps k+1:=by rw[nev_get hkp];omega
   have hz:ab false :: List.replicate (nev ps k) (ab false)=pRow ps [] k:=by rw[pRow_nil,List.replicate_succ]
   have hzl:=pRow_length ps [] k
   -- the family with one row more
   have hfam:∀b:Nat,(famL (k+1) (fun q=>if q=k then [(b,ABlk.row 4 1 (pRow ps [] k) (nev ps k+1))] else Ls q)).Perm ((b,.row 4 1 (pRow ps [] k) (nev ps k+1)) :: famL k Ls):=fun b=>by
    unfold famL
    rw[List.range_succ,List.flatMap_append]
    have e:(List.range k).flatMap (fun q=>if q=k then [(b,ABlk.row 4 1 (pRow ps [] k) (nev ps k+1))] else Ls q)=(List.range k).flatMap Ls :=
     flatMap_ext fun q hq=>if_neg (by have:=List.mem_range.1 hq;omega)
    rw[e]
    simp only[List.flatMap_cons,List.flatMap_nil,if_true]
    exact List.perm_append_comm (l₂:=[_])
   have hmap:∀x,(List.range k ++ [k]).map (fun q=>if q=k then x else V q)=(List.range k).map V ++ [x]:=fun x=>by
    rw[List.map_append]
    congr 1
    ·refine List.map_congr_left fun q hq=>if_neg (by have:=List.mem_range.1 hq;omega)
    ·simp
   have hAll:∀b:Nat,∀q,q<k+1→AppSt 4 1 (pRow ps [] q) (if q=k then .ls b 1 0 (nev ps k+1) (nev ps k+1) else V q) (if q=k then [(b,ABlk.row 4 1 (pRow ps [] k) (nev ps k+1))] else Ls q):=fun b q hq=>by
    by_cases e:q=k
    ·subst e
     rw[if_pos rfl,if_pos rfl]
     have:=AppSt.row (t:=4) (k:=1) b (pRow ps [] q) (nev ps q+1)
     rwa [hzl] at this
    ·rw[if_neg e,if_neg e];exact hF q (by omega)
   have hyl:((List.range k).map V).length=k:=by simp
   generalize (List.range k).map V=ys at *
   rcases hA.inv with ⟨e2,rfl,rfl⟩|⟨bv,cap,rfl,rfl⟩
   ·refine Sd ?_
    refine AWp.of ?_;simp only[go_sem,getD_map hkp,e1]
    refine Sd ?_
    intro b hb b' cap' g1 g2 g3
    rw[hz]
    refine Wk ?_
    refine⟨_,List.Sublist.refl _,.ls b' 1 0 1 cap',[(b',.row 90 1 [.ls b 1 0 (nev ps k+1) (nev ps k+1)] cap')],_,_,rfl,List.Perm.cons _ (hfam b).symm,?_,hAll b⟩
    rw[hmap,e2]
    exact .row _ [_] _
   ·refine Sd ?_
    refine AWp.of ?_;simp only[go_sem,getD_map hkp,e1]
    refine Sd ?_
    intro b hb g0
    have nb:¬bv=b:=by omega
    simp only[go_sem,nb]
    refine Sd ?_
    intro b' cap' g1 g2 g3
    rw[hz]
    refine Wk ?_
    refine⟨_,List.Sublist.refl _,.ls b' 1 0 (ys.length+1) cap',[(b',.row 90 1 (ys ++ [.ls b 1 0 (nev ps k+1) (nev ps k+1)]) cap')],_,_,rfl,List.Perm.cons _ (hfam b).symm,?_,hAll b⟩
    rw[hmap]
    have:=AppSt.row (t:=90) (k:=1) b' (ys ++ [.ls b 1 0 (nev ps k+1) (nev ps k+1)]) cap'
    simpa using this
  ·have hkn:k=ps.length:=by omega
   subst hkn
   rcases hA.inv with ⟨e2,rfl,rfl⟩|⟨bv,cap,rfl,rfl⟩
   ·have h9:ps.length=0:=by have:=congrArg List.length e2;simpa using this
    omega
   ·refine⟨_,List.Sublist.refl _,bv,cap,?_,V,Ls,.refl _,hF⟩
    simp
 ·rintro vs L - ⟨bo,cap,rfl,hR⟩
  have hdir:=ref12_Directly ps hs p hp i hi
  simp only[go_sem]
  have hE:=evIds_small hs
  refine AWp.cut [2,5,7] (fun vs L=>∃v Lq L1,vs=[.rp 1 [aTr ps] 0 0,.ls bo 1 0 ps.length cap,v]∧L.Perm (Lq ++ L1)∧AppSt 54 2 ((dirL ps p i).map aEid) v Lq∧RSt ps.length bo cap (pRow ps []) L1) ?_ ?_
  ·refine Sd ?_
   refine AWp.of ?_;simp only[go_sem]
   refine((hdir.val).frame (Lr:=L)).mono ?_
   rintro r L' ⟨Lq,rfl,hA⟩
   have hfo:=hA.fo
   simp only[go_sem,hfo]
   exact⟨_,List.Sublist.refl _,r,Lq,L,rfl,.refl _,hA,hR⟩
  ·rintro vs L' - ⟨v,Lq,L1,rfl,hP,hA,hR⟩
   refine AWp.queue hP hA fun hQ => ?_
   simp only[go_sem]
   refine AWp.seq (AWp.block (AWp.loopN [7] [2,5] (fun m vs L=>∃seen q v Lq L1,vs=[v]∧L.Perm (Lq ++ L1)∧QSt q v Lq∧RSt ps.length bo cap (pRow ps seen) L1∧Psr ps ((p:Int),(i:Int)+1) seen q∧m=3 * ((evIds ps).length - seen.length)+q.length)
    (3 * ((evIds ps).length - 0)+(dirL ps p i).length) ?_ ?_))
   ·exact⟨[],_,v,Lq,L1,rfl,hP,hQ,hR,Psr.start hm hp hi,rfl⟩
   rintro m vs L - ⟨seen,q,v,Lq,L1,rfl,hP,hQ,hR,hS,rfl⟩
   -- the end,where the queue is empty
   have hend:q=[]→fo v=(True,v)→True:=fun _ _=>trivial
   rcases hQ with ⟨rfl,rfl,rfl⟩|⟨b,off,cq,capq,xs,rfl,rfl,hxs,hl1,hl2,hl3⟩
   ·simp only[go_sem]
    refine Wk ?_
    intro _
    obtain⟨V,Ls,hPr,hF⟩:=hR
    have hP2:=hP.trans (List.Perm.append_left _ hPr)
    obtain⟨Lx,hLx⟩:∃Lx:AHeap,Lx=[]:=⟨_,rfl⟩
    rw[← hLx] at hP2
    refine AWp.nodup fun hnd => ?_
    have hP3:L.Perm (famL ps.length Ls ++ ((bo,.row 90 1 ((List.range ps.length).map V) cap) :: Lx)):=hP2.trans ((List.perm_append_comm (l₁:=Lx)).trans ((List.perm_append_comm (l₁:=[_])).append_right _ |>.trans (by rw[List.append_assoc];exact .refl _)))
    have hnd':((famL ps.length Ls).map (·.1)).Nodup:=by
     have:=(hP3.map (·.1)).nodup_iff.1 hnd
     rw[List.map_append,List.nodup_append] at this
     exact this.1
    refine AWp.viewP hP3 (.row (fam_views hnd' hF) (LVw.none _)) [] (by simp) ?_
    simp only[go_sem]
    refine Wk ?_
    refine ret_view [true] ?_;simp only[go_sem]
    rw[← pastA_of hS]
    exact Vw.ofLs (t:=90) (cap:=cap) (if_pos rfl) (by simp)
   ·cases q with
    | nil =>
     simp only[go_sem]
     refine Wk ?_
     intro _
     obtain⟨V,Ls,hPr,hF⟩:=hR
     have hP2:=hP.trans (List.Perm.append_left _ hPr)
     obtain⟨Lx,hLx⟩:∃Lx:AHeap,Lx=[(b,.row 54 2 xs capq)]:=⟨_,rfl⟩
     rw[← hLx] at hP2
     refine AWp.nodup fun hnd => ?_
     have hP3:L.Perm (famL ps.length Ls ++ ((bo,.row 90 1 ((List.range ps.length).map V) cap) :: Lx)):=hP2.trans ((List.perm_append_comm (l₁:=Lx)).trans ((List.perm_append_comm (l₁:=[_])).append_right _ |>.trans (by rw[List.append_assoc];exact .refl _)))
     have hnd':((famL ps.length Ls).map (·.1)).Nodup:=by
      have:=(hP3.map (·.1)).nodup_iff.1 hnd
      rw[List.map_append,List.nodup_append] at this
      exact this.1
     refine AWp.viewP hP3 (.row (fam_views hnd' hF) (LVw.none _)) [] (by simp) ?_
     simp only[go_sem]
     refine Wk ?_
     refine ret_view [true] ?_;simp only[go_sem]
     rw[← pastA_of hS]
     exact Vw.ofLs (t:=90) (cap:=cap) (if_pos rfl) (by simp)
    | cons y q' =>
     simp only[List.length_cons,List.map_cons] at hxs hl1 hl2
     obtain⟨hg0,htl⟩:=queue_tail hxs
     have hsz:=hS.size
     have hsm:=hS.small
     simp only[List.length_cons] at hsz
     obtain⟨⟨py,hpy,iy,hiy,rfl⟩,hreach⟩:=hS.qv y List.mem_cons_self
     have hnv:=nev_get hpy
     have hely:=hs.evs _ (List.getElem_mem hpy)
     obtain⟨V,br,cp,X,hPr,hVr,hcl⟩:=hR.open hpy (by rw[pRow_length];omega)
     refine AWp.perm (hP.trans (hPr.cons _)) (AWp.nodup fun hnd => ?_)
     obtain⟨⟨m1,m2⟩,⟨m3,m4⟩,⟨m5,m6⟩,_⟩:=nd3 hnd
     have hgV:((List.range ps.length).map V).getD py .any = .ls br 1 0 (nev ps py+1) cp:=by rw[map_range_getD hpy,hVr,pRow_length]
     have hgr:(pRow ps seen py).getD ((iy:Int)+1).toNat .any=ab (decide (((py:Int),(iy:Int)+1) ∈ seen)):=by
      have e:((iy:Int)+1).toNat=iy+1:=by omega
      rw[e,pRow_get (by omega)];simp
     have hrl:=pRow_length ps seen py
     simp only[go_sem]
     refine Wk ?_
     refine⟨fun _ => ?_,fun h=>(by exfalso;omega)⟩
     refine W1 hg0 ?_
     refine Sd ?_
     intro b8 h8 h9 h10 h11
     refine Wk ?_
     refine AWp.seq (AWp.seq ?_)
     repeat(first|(with_reducible refine AWp.seq ?_)|(with_reducible refine AWp.block ?_))
     refine AWp.mix mixed [0,1,2,3,5,6] (.step 4 (.step 7 (.step 8 .done .done) .done) .done) (by kernel_rfl) ?_;simp only[go_sem,m1,m2,m3,m4,m5,m6,hgV,hgr,hrl,List.length_range]
     refine Sd ?_
     refine Wk ?_
     refine⟨fun h1 => ?_,fun h1 => ?_⟩
     ·refine Wk ?_
      refine⟨_,List.Sublist.refl _,3 * ((evIds ps).length - seen.length)+q'.length,by omega,seen,q',_,[(b,.row 54 2 xs capq)],(bo,.row 90 1 ((List.range ps.length).map V) cap) :: (br,.row 4 1 (pRow ps seen py) cp) :: X,rfl,.refl _,?_,hR.perm hPr.symm,hS.skip h1,rfl⟩
      exact .inr ⟨b,off+1,cq - 1,capq,xs,by rw[Nat.add_sub_cancel],rfl,htl,by omega,by omega,by omega⟩
     ·have hset:(pRow ps seen py).set ((iy:Int)+1).toNat (ab true)=pRow ps (((py:Int),(iy:Int)+1) :: seen) py:=by
       have e:((iy:Int)+1).toNat=iy+1:=by omega
       rw[e];exact pRow_set
      have hR2:RSt ps.length bo cap (pRow ps (((py:Int),(iy:Int)+1) :: seen)) ((bo,.row 90 1 ((List.range ps.length).map V) cap) :: (br,.row 4 1 (pRow ps (((py:Int),(iy:Int)+1) :: seen) py) cp) :: X) :=
       hcl _ _ (fun q hq=>pRow_other (k:=iy+1) hq) (by rw[pRow_length,pRow_length]) (.refl _)
      have hmk:=Psr.mark hm hpy hiy hS h1
      have hdir2:=ref12_Directly ps hs py hpy iy hiy
      have hd2:=dirL_length ps py iy
      have hms:=hmk.small
      simp only[List.length_cons] at hms
      refine AWp.seq ?_
      repeat(first|(with_reducible refine AWp.seq ?_)|(with_reducible refine AWp.block ?_))
      refine AWp.mix mixed [0,1,2,3,5,6] (.step 4 (.step 7 (.step 8 .done .done) .done) .done) (by kernel_rfl) ?_;simp only[go_sem,m1,m2,m3,m4,m5,m6,hgV,hgr,hrl,List.length_range]
      refine Sd ?_
      rw[hset]
      generalize dirL ps py iy=dl at *
      obtain⟨LR,hLR⟩:∃LR:AHeap,LR=(bo,.row 90 1 ((List.range ps.length).map V) cap) :: (br,.row 4 1 (pRow ps (((py:Int),(iy:Int)+1) :: seen) py) cp) :: X:=⟨_,rfl⟩
      rw[← hLR] at hR2 ⊢
      refine Wk ?_
      refine((hdir2.val).frame (Lr:=(b,.row 54 2 xs capq) :: LR)).mono ?_
      rintro r L' ⟨Ln,rfl,hAn⟩
      have hfo:=hAn.fo
      simp only[go_sem,hfo]
      refine AWp.viewP (Lf:=Ln) (Lk:=(b,.row 54 2 xs capq) :: LR) (.refl _) (LVw.refl _) [(9,.sl 2 (dl.map aEid))] ?_ ?_
      ·intro q hq
       simp only[List.mem_singleton] at hq
       subst hq
       have:=hAn.vw []
       rw[List.append_nil] at this
       show Vw Ln _ (.sl 2 (dl.map aEid))
       simpa only [get,if_true] using this
      simp only[go_sem]
      refine Wk ?_
      refine AWp.block (AWp.count 10 dl.length [7] [2,5,9] (fun j vs L=>∃v Lq L1,vs=[v]∧L.Perm (Lq ++ L1)∧QSt (q' ++ dl.take j) v Lq∧RSt ps.length bo cap (pRow ps (((py:Int),(iy:Int)+1) :: seen)) L1) rfl rfl ?_ ?_)
      ·refine⟨_,[(b,.row 54 2 xs capq)],LR,rfl,.refl _,?_,hR2⟩
       rw[List.take_zero,List.append_nil]
       exact .inr ⟨b,off+1,cq - 1,capq,xs,rfl,rfl,htl,by omega,by omega,by omega⟩
      rintro j vs L hj - ⟨w,Lw,L2,rfl,hPw,hQw,hRw⟩
      refine AWp.perm hPw ?_
      simp only[go_sem]
      refine Wk ?_
      refine⟨fun h2 => ?_,fun h2 => ?_⟩
      ·have hjd:j<dl.length:=by omega
       have hgj:=getD_map (f:=aEid) hjd
       have hsu:q' ++ dl.take (j+1)=(q' ++ dl.take j) ++ [dl[j]]:=by rw[List.take_succ_eq_append_getElem hjd,List.append_assoc]
       have hql:(q' ++ dl.take j).length≤q'.length+2:=by rw[List.length_append,List.length_take];omega
       obtain⟨qq,hqq⟩:∃qq,q' ++ dl.take j=qq:=⟨_,rfl⟩
       rw[hqq] at hQw hsu hql
       generalize dl[j]=z at *
       rcases hQw with ⟨rfl,rfl,rfl⟩|⟨bw,ow,cw,capw,ys,rfl,rfl,hys,y1,y2,y3⟩
       ·refine Sd ?_
        refine AWp.of ?_;simp only[go_sem,hgj]
        refine Sd ?_
        intro b' cap' g1 g2
        refine Wk ?_
        refine⟨_,List.Sublist.refl _,.ls b' 2 0 1 cap',[(b',.row 54 2 [aEid z] cap')],L2,rfl,.refl _,.inr ⟨b',0,cap',cap',[aEid z],by rw[hsu];rfl,rfl,by rw[hsu];simp,by rw[hsu];simp,by rw[hsu];simpa using g2,by omega⟩,hRw⟩
       ·have hzl:(qq ++ [z]).length=qq.length+1:=by simp
        cases ow with
        | zero =>
         simp only[Nat.zero_add] at y3 y1
         subst y3
         rw[List.drop_zero] at hys
         refine Sd ?_
         refine AWp.of ?_;simp only[go_sem,hgj]
         refine Sd ?_
         intro b' cap' g1 g2
         refine Wk ?_
         refine⟨_,List.Sublist.refl _,.ls b' 2 0 (qq.length+1) cap',[(b',.row 54 2 (ys.take qq.length ++ [aEid z]) cap')],L2,rfl,.refl _,.inr ⟨b',0,cap',cap',_,by rw[hsu,hzl],rfl,?_,?_,by rw[hsu,hzl];exact g2,by omega⟩,hRw⟩
         ·rw[hsu,hys,List.drop_zero,List.take_of_length_le (by simp)];simp
         ·rw[hsu,hys];simp
        | succ ow =>
         refine Sd ?_
         refine AWp.of ?_;simp only[go_sem,hgj]
         refine Sd ?_
         refine⟨fun g2 => ?_,fun b' cap' g1 g2 => ?_⟩
         ·refine Wk ?_
          refine⟨_,List.Sublist.refl _,.ls bw 2 (ow+1) (qq.length+1) cw,[(bw,.row 54 2 (ys.take (ow+1+qq.length) ++ [aEid z]) capw)],L2,rfl,.refl _,.inr ⟨bw,ow+1,cw,capw,_,by rw[hsu,hzl],rfl,?_,?_,by rw[hsu,hzl];exact g2,y3⟩,hRw⟩
          ·have hd:(ys.take (ow+1+qq.length)).drop (ow+1)=qq.map aEid:=by
            rw[List.drop_take,Nat.add_sub_cancel_left];exact hys
           rw[hsu,List.drop_append_of_le_length (by rw[List.length_take];omega),hd,List.take_of_length_le (by simp)];simp
          ·rw[hsu,hzl,List.length_append,List.length_take];simp only[List.length_cons,List.length_nil];omega
         ·intro g3
          refine Wk ?_
          refine⟨_,List.Sublist.refl _,.ls b' 2 0 (qq.length+1) cap',[(b',.row 54 2 ((ys.drop (ow+1)).take qq.length ++ [aEid z]) cap')],L2,rfl,.refl _,.inr ⟨b',0,cap',cap',_,by rw[hsu,hzl],rfl,?_,?_,by rw[hsu,hzl];omega,by omega⟩,hRw⟩
          ·rw[hsu,hys,List.drop_zero,List.take_of_length_le (by simp)];simp
          ·rw[hsu,hys];simp
      ·refine Wk ?_
       refine⟨_,List.Sublist.refl _,3 * ((evIds ps).length - (seen.length+1))+(q' ++ dl).length,?_,_,_,w,Lw,L2,rfl,.refl _,?_,hRw,hmk,by simp⟩
       ·rw[List.length_append];omega
       ·rwa [List.take_of_length_le (by omega)] at hQw
theorem pairF_zero {ps:List Pr} (h:∀p (hp:p<ps.length) i (hi:i<ps[p].evs.length),pairF ps (off ps p+i)=0):msgF ps=none:=by
 refine msgF_none fun k hk => ?_
 obtain⟨p,hp,i,hi,e,_⟩:=evIds_inv (List.getElem?_eq_getElem hk)
 rw[e];exact h p hp i hi
def Ahead (ps:List Pr) (f:Nat→Nat→Prop) (p i:Nat):Prop:=(∀q (hq:q<ps.length) j,q<p→j<ps[q].evs.length→f q j)∧∀j,j<i→f p j
theorem Ahead.next {ps:List Pr} {f:Nat→Nat→Prop} {p i:Nat} (h:Ahead ps f p i) (hf:f p i):Ahead ps f p (i+1) :=
 ⟨h.1,fun j hj=>by
  by_cases e:j=i
  ·rw[e];exact hf
  ·exact h.2 j (by omega)⟩
theorem Ahead.row {ps:List Pr} {f:Nat→Nat→Prop} {p:Nat} (hp:p<ps.length) (h:Ahead ps f p ps[p].evs.length):Ahead ps f (p+1) 0 :=
 ⟨fun q hq j hqp hj=>by
  by_cases e:q=p
  ·subst e;exact h.2 j hj
  ·exact h.1 q hq j (by omega) hj,fun j hj=>by omega⟩
theorem Ahead.idx {ps:List Pr} {f:Nat→Nat→Prop} {p i:Nat} (hp:p<ps.length) (hi:i≤ps[p].evs.length) (h:Ahead ps f p i) {q j:Nat} (hq:q<ps.length) (hj:j<ps[q].evs.length) (hlt:off ps q+j<off ps p+i):f q j:=by
 have mono:∀a b,a≤b→b≤ps.length→off ps a≤off ps b:=by
  intro a b hab hb
  induction b with
  | zero=>have:a=0:=by omega
          subst this;exact Nat.le_refl _
  | succ b ih =>
   by_cases e:a=b+1
   ·subst e;exact Nat.le_refl _
   ·have:=ih (by omega) (by omega)
    rw[off_succ (by omega)];omega
 by_cases h1:q<p
 ·exact h.1 q hq j h1 hj
 ·by_cases h2:q=p
  ·subst h2;exact h.2 j (by omega)
  ·have h3:=mono (p+1) q (by omega) (by omega)
   rw[off_succ hp] at h3
   omega
open Classical in
noncomputable def pastR (ps:List Pr) (x:Eid) (p:Nat):List AV:=(List.range (nev ps p+1)).map fun (k:Nat)=>ab (decide (VEv ps ((p:Int),(k:Int))∧Reach ps ((p:Int),(k:Int)) x))
theorem pastA_eq (ps:List Pr) (x:Eid):pastA ps x = .sl 1 ((List.range ps.length).map fun p => .sl 1 (pastR ps x p)):=rfl
open Classical in
theorem pastR_get {ps:List Pr} (x:Eid) {p:Nat} (hp:p<ps.length) {i:Nat} (hi:i<ps[p].evs.length):(pastR ps x p).getD ((i:Int)+1).toNat .any=ab (decide (Reach ps ((p:Int),(i:Int)+1) x)):=by
 have e:((i:Int)+1).toNat=i+1:=by omega
 unfold pastR
 rw[e,map_range_getD (by rw[nev_get hp];omega)]
 have hc:(((i+1:Nat):Int))=(i:Int)+1:=rfl
 rw[hc]
 have hv:VEv ps ((p:Int),(i:Int)+1):=⟨p,hp,i,hi,rfl⟩
 congr 2
 exact propext ⟨fun h=>h.2,fun h=>⟨hv,h⟩⟩
theorem ref12_Fault (ps:List Pr) (hs:Sm ps):PC Proofs.Tryz.prog 15 [aTr ps] (aFault (faultF ps)):=by
 have hl:=hs.procs
 refine PC.enter 137 [.cell 2 54,.tmp 3] [1,11,15] Proofs.Tryz.func15 rfl rfl rfl rfl rfl (by simp) (AWp.of ?_);simp only[go_sem]
 intro b2
 refine Wk ?_
 refine Wk ?_
 refine⟨fun h1 => ?_,fun h1 => ?_⟩
 ·refine Wk ?_
  have hf:faultF ps=((0,0),1):=by
   unfold faultF
   rw[if_pos]
   unfold inI
   rw[Bool.not_eq_true',← Bool.not_eq_true,Bool.and_eq_true,decide_eq_true_eq,decide_eq_true_eq]
   omega
  rw[hf]
  refine ret_eq ?_
  simp only[go_sem]
 ·intro h1'
  have hin:¬((!inI ps.length 1 8)=true):=by
   unfold inI
   rw[Bool.not_eq_true',← Bool.not_eq_true,Bool.and_eq_true,decide_eq_true_eq,decide_eq_true_eq]
   omega
  refine Wk ?_
  refine AWp.block (AWp.count 4 ps.length [] [1,2] (fun k vs L=>L=[(b2,.row 54 2 [aEid (0,0)] 1)]∧∀j,j<k→procF ps j=0) rfl rfl ⟨by simp [aEid],by omega⟩ ?_)
  rintro k vs L hk - ⟨rfl,hI⟩
  simp only[go_sem]
  refine Wk ?_
  refine⟨fun h2 => ?_,fun h2 => ?_⟩
  ·have hkp:k<ps.length:=by omega
   refine Wk ?_
   refine Sd ?_
   refine(ref12_head ps hs k hkp).val.use ?_;simp only[go_sem]
   refine Wk ?_
   refine⟨fun h3 => ?_,fun h3 => ?_⟩
   ·refine Wk ?_
    have hf:faultF ps=(((k:Int),0),procF ps k):=by unfold faultF;rw[if_neg hin,procFirst_hit hkp hI h3]
    rw[hf]
    refine ret_eq ?_
    simp only[go_sem]
   ·refine Wk ?_
    refine⟨_,List.Sublist.refl _,rfl,fun j hj => ?_⟩
    by_cases e:j=k
    ·rw[e];exact h3
    ·exact hI j (by omega)
  ·have hpf:=procFirst_none (ps:=ps) fun j hj=>hI j (by omega)
   refine Wk ?_
   refine AWp.block (AWp.count 6 ps.length [] [1,2] (fun p vs L=>L=[(b2,.row 54 2 [aEid (0,0)] 1)]∧Ahead ps (fun q j=>evF ps q j=0) p 0) rfl rfl ⟨by simp [aEid],fun _ _ _ h=>by omega,fun j hj=>by omega⟩ ?_)
   rintro p vs L hp - ⟨rfl,hA⟩
   simp only[go_sem]
   refine Wk ?_
   refine⟨fun h4 => ?_,fun h4 => ?_⟩
   ·have hpp:p<ps.length:=by omega
    have hgP:=getD_map (f:=aPr) hpp
    have hel:=hs.evs _ (List.getElem_mem hpp)
    refine Wk ?_
    refine AWp.block (AWp.count 7 ps[p].evs.length [] [1,2,6] (fun i vs L=>L=[(b2,.row 54 2 [aEid (0,0)] 1)]∧Ahead ps (fun q j=>evF ps q j=0) p i) rfl rfl ⟨by simp [aEid],hA⟩ ?_)
    rintro i vs L hi - ⟨rfl,hB⟩
    simp only[go_sem]
    refine W1 hgP ?_
    refine⟨fun h5 => ?_,fun h5 => ?_⟩
    ·have hie:i<ps[p].evs.length:=by omega
     refine Wk ?_
     refine Sd ?_
     refine(ref12_form ps hs p hpp i hie).val.use ?_;simp only[go_sem]
     refine Wk ?_
     refine⟨fun h6 => ?_,fun h6 => ?_⟩
     ·refine Wk ?_
      have hat:evAt ps ((p:Int),(i:Int)+1)=evF ps p i:=by simp only[evAt,Int.toNat_natCast,show ((i:Int)+1 - 1).toNat=i by omega]
      have hhit:=evFirst_hit (evIds_get hpp hie) (fun j y hj hy=>by
       obtain⟨q,hq,r,hr,e,rfl⟩:=evIds_inv hy
       have:=hB.idx hpp (by omega) hq hr (by omega)
       simpa only [evAt,Int.toNat_natCast,show ((r:Int)+1 - 1).toNat=r by omega] using this) (by rw[hat];exact h6)
      have hf:faultF ps=(((p:Int),(i:Int)+1),evF ps p i):=by unfold faultF;rw[if_neg hin,hpf,hhit,hat]
      rw[hf]
      refine ret_eq ?_
      simp only[go_sem]
     ·refine Wk ?_
      exact⟨_,List.Sublist.refl _,rfl,hB.next h6⟩
    ·have e:i=ps[p].evs.length:=by omega
     rw[e] at hB
     refine Wk ?_
     exact⟨_,List.Sublist.refl _,rfl,hB.row hpp⟩
   ·have hpn:p=ps.length:=by omega
    have hef:evFirst ps=none:=evFirst_none fun j y hy=>by
     obtain⟨q,hq,r,hr,e,rfl⟩:=evIds_inv hy
     have:=hA.1 q hq r (by omega) hr
     simpa only [evAt,Int.toNat_natCast,show ((r:Int)+1 - 1).toNat=r by omega] using this
    have hfm:=formed_of_evFirst hef
    clear hA
    refine Wk ?_
    refine AWp.block (AWp.count 9 ps.length [] [1,2] (fun p vs L=>L=[(b2,.row 54 2 [aEid (0,0)] 1)]∧Ahead ps (fun q j=>pairF ps (off ps q+j)=0) p 0) rfl rfl ⟨by simp [aEid],fun _ _ _ h=>by omega,fun j hj=>by omega⟩ ?_)
    rintro p vs L hp - ⟨rfl,hA⟩
    simp only[go_sem]
    refine Wk ?_
    refine⟨fun h4 => ?_,fun h4 => ?_⟩
    ·have hpp:p<ps.length:=by omega
     have hgP:=getD_map (f:=aPr) hpp
     have hel:=hs.evs _ (List.getElem_mem hpp)
     refine Wk ?_
     refine AWp.block (AWp.count 10 ps[p].evs.length [] [1,2,9] (fun i vs L=>L=[(b2,.row 54 2 [aEid (0,0)] 1)]∧Ahead ps (fun q j=>pairF ps (off ps q+j)=0) p i) rfl rfl ⟨by simp [aEid],hA⟩ ?_)
     rintro i vs L hi - ⟨rfl,hB⟩
     simp only[go_sem]
     refine W1 hgP ?_
     refine⟨fun h5 => ?_,fun h5 => ?_⟩
     ·have hie:i<ps[p].evs.length:=by omega
      refine Wk ?_
      intro b11 _
      refine Wk ?_
      refine Sd ?_
      refine(ref12_paired ps hs hfm p hpp i hie).val.use ?_;simp only[go_sem]
      refine Wk ?_
      refine⟨fun h6 => ?_,fun h6 => ?_⟩
      ·refine Wk ?_
       have hhit:=msgF_hit (evIds_get hpp hie) (fun j hj=>by
        have hjl:j<(evIds ps).length:=by have:=(List.getElem?_eq_some_iff.1 (evIds_get hpp hie)).1;omega
        obtain⟨q,hq,r,hr,e,_⟩:=evIds_inv (List.getElem?_eq_getElem hjl)
        rw[e];exact hB.idx hpp (by omega) hq hr (by omega)) h6
       have hf:faultF ps=(((p:Int),(i:Int)+1),pairF ps (off ps p+i)):=by unfold faultF;rw[if_neg hin,hpf,hef,hhit]
       rw[hf]
       refine ret_eq ?_
       simp only[go_sem]
      ·refine Wk ?_
       exact⟨_,List.Sublist.refl _,rfl,hB.next h6⟩
     ·have e:i=ps[p].evs.length:=by omega
      rw[e] at hB
      refine Wk ?_
      exact⟨_,List.Sublist.refl _,rfl,hB.row hpp⟩
    ·have hmf:msgF ps=none:=pairF_zero fun q hq r hr=>hA.1 q hq r (by omega) hr
     clear hA
     have hn1:1≤ps.length:=by omega
     refine Wk ?_
     refine Sd ?_
     refine(ref12_acyclic ps hs hmf hn1).val.use ?_;simp only[go_sem]
     refine Wk ?_
     refine⟨fun h7 => ?_,fun h7 => ?_⟩
     ·refine Wk ?_
      have hf:faultF ps=((0,0),0):=by unfold faultF;rw[if_neg hin,hpf,hef,hmf,acyB_cyc hs hmf h7]
      rw[hf]
      refine ret_eq ?_
      simp only[go_sem]
     ·refine Wk ?_
      refine AWp.block (AWp.count 13 ps.length [] [1,2] (fun p vs L=>L=[(b2,.row 54 2 [aEid (0,0)] 1)]∧Ahead ps (fun q j=>¬Reach ps ((q:Int),(j:Int)+1) ((q:Int),(j:Int)+1)) p 0) rfl rfl ⟨by simp [aEid],fun _ _ _ h=>by omega,fun j hj=>by omega⟩ ?_)
      rintro p vs L hp - ⟨rfl,hA⟩
      simp only[go_sem]
      refine Wk ?_
      refine⟨fun h4 => ?_,fun h4 => ?_⟩
      ·have hpp:p<ps.length:=by omega
       have hgP:=getD_map (f:=aPr) hpp
       have hel:=hs.evs _ (List.getElem_mem hpp)
       refine Wk ?_
       refine AWp.block (AWp.count 14 ps[p].evs.length [] [1,2,13] (fun i vs L=>L=[(b2,.row 54 2 [aEid (0,0)] 1)]∧Ahead ps (fun q j=>¬Reach ps ((q:Int),(j:Int)+1) ((q:Int),(j:Int)+1)) p i) rfl rfl ⟨by simp [aEid],hA⟩ ?_)
       rintro i vs L hi - ⟨rfl,hB⟩
       simp only[go_sem]
       refine W1 hgP ?_
       refine⟨fun h5 => ?_,fun h5 => ?_⟩
       ·have hie:i<ps[p].evs.length:=by omega
        have hpast:=ref12_Past ps hs hmf hn1 p hpp i hie
        rw[pastA_eq] at hpast
        have hg1:((List.range ps.length).map fun q=>AV.sl 1 (pastR ps ((p:Int),(i:Int)+1) q)).getD p .any = .sl 1 (pastR ps ((p:Int),(i:Int)+1) p):=map_range_getD hpp _
        have hg2:=pastR_get ((p:Int),(i:Int)+1) hpp hie
        have hgl:(pastR ps ((p:Int),(i:Int)+1) p).length=ps[p].evs.length+1:=by unfold pastR;rw[List.length_map,List.length_range,nev_get hpp]
        refine Wk ?_
        intro b15 _
        refine Wk ?_
        refine Sd ?_
        refine(hpast).val.use ?_;simp only[go_sem,hg1,hg2,hgl,List.length_range]
        refine Sd ?_
        refine Wk ?_
        refine⟨fun h6 => ?_,fun h6 => ?_⟩
        ·refine Wk ?_
         have hhit:=cycF_hit (evIds_get hpp hie) (fun j y hj hy=>by
          obtain⟨q,hq,r,hr,e,rfl⟩:=evIds_inv hy
          exact hB.idx hpp (by omega) hq hr (by omega)) h6
         have hf:faultF ps=(((p:Int),(i:Int)+1),10):=by unfold faultF;rw[if_neg hin,hpf,hef,hmf,hhit]
         rw[hf]
         refine ret_eq ?_
         simp only[go_sem]
        ·refine Wk ?_
         exact⟨_,List.Sublist.refl _,rfl,hB.next h6⟩
       ·have e:i=ps[p].evs.length:=by omega
        rw[e] at hB
        refine Wk ?_
        exact⟨_,List.Sublist.refl _,rfl,hB.row hpp⟩
      ·have hcf:cycF ps=none:=cycF_none fun j y hy=>by
        obtain⟨q,hq,r,hr,e,rfl⟩:=evIds_inv hy
        exact hA.1 q hq r (by omega) hr
       refine Wk ?_
       have hf:faultF ps=((0,0),0):=by unfold faultF;rw[if_neg hin,hpf,hef,hmf,hcf]
       rw[hf]
       refine ret_eq ?_
       simp only[go_sem]
theorem ref12_Valid (ps:List Pr) (hs:Sm ps):PC Proofs.Tryz.prog 6 [aTr ps] (ab (validF ps)):=by
 refine PC.enter 12 [.tmp 2] [1,3] Proofs.Tryz.func6 rfl rfl rfl rfl rfl (by simp) (AWp.of ?_);simp only[go_sem]
 refine Wk ?_
 refine Sd ?_
 refine(ref12_Fault ps hs).val.use ?_;simp only[go_sem]
 refine Sd ?_
 intros
 refine AWp.of ?_;simp only[go_sem]
 refine Wk ?_
 refine ret_eq ?_;simp only[go_sem]
 rfl
end Go.AL
end
section
namespace Go.AL
open Go Go.RowKit
set_option maxRecDepth 4000
inductive Pd where
 | mk (kind n proc peer:Int) (name:ByteArray) (l:List Pd)
def Pd.l:Pd→List Pd | .mk _ _ _ _ _ l=>l
def Pd.kind:Pd→Int | .mk k _ _ _ _ _=>k
mutual
def aPd:Pd→AV
 | .mk k n p q s l => .agg [ai k,ai n,ai p,ai q,astr s,.sl 6 (aPdL l)]
def aPdL:List Pd→List AV
 | []=>[]
 | x :: r=>aPd x :: aPdL r
end
theorem aPdL_map:∀l:List Pd,aPdL l=l.map aPd
 | []=>by rw[aPdL];rfl
 | x :: r=>by rw[aPdL,aPdL_map r];rfl
@[go_sem] theorem aPd_mk (k n p q:Int) (s:ByteArray) (l:List Pd):aPd (.mk k n p q s l) = .agg [ai k,ai n,ai p,ai q,astr s,.sl 6 (l.map aPd)]:=by rw[aPd,aPdL_map]
theorem Pd.ind {P:Pd→Prop} (h:∀k n p q s l,(∀x ∈ l,P x)→P (.mk k n p q s l)):∀t,P t
 | .mk k n p q s l=>h k n p q s l fun x hx=>Pd.ind h x
termination_by t=>SizeOf.sizeOf t
decreasing_by have:=List.sizeOf_lt_of_mem hx;simp;omega
mutual
def szF:Pd→Nat
 | .mk _ _ _ _ _ l=>szL l+1
def szL:List Pd→Nat
 | []=>0
 | x :: r=>szF x+szL r
end
mutual
def dpF:Pd→Nat
 | .mk _ _ _ _ _ l=>dpL l+1
def dpL:List Pd→Nat
 | []=>0
 | x :: r=>max (dpF x) (dpL r)
end
def partsF (k:Int):Int:=if ((1≤k∧k≤4)∨k=13)∨k=14 then 0 else if (k=5∨k=15)∨(18≤k∧k≤21) then 1 else if ((6≤k∧k≤12)∨k=16)∨k=17 then 2 else -1
mutual
def allB (f:Pd→Bool):Pd→Bool
 | .mk k n p q s l=>f (.mk k n p q s l) && allL f l
def allL (f:Pd→Bool):List Pd→Bool
 | []=>true
 | x :: r=>allB f x && allL f r
end
def numB (k n:Int):Bool:=if k=1 then decide (0≤n∧n≤1125899906842624) else decide (n=0)
def nameB (k p q:Int) (s:ByteArray):Bool:=decide (2≤k∧k≤4) || decide (p=0∧q=0∧s=ByteArray.empty)
def locB:Pd→Bool
 | .mk k n p q s l=>decide (partsF k=l.length) && numB k n && nameB k p q s
def formedB (t:Pd):Bool:=decide (szF t≤200) && decide (dpF t≤20) && allB locB t
def resF (k:Int):Int:=if k≤8 then 1 else 2
def needF (k:Int):Int:=if k≤12 then 1 else 2
def tyNe (k m:Int):Bool:=decide (¬resF m=needF k)
def typB:Pd→Bool
 | .mk k _ _ _ _ l => !l.any fun x=>tyNe k x.kind
def typedB (t:Pd):Bool:=allB typB t
mutual
def walkF:Pd→Int→Int→Bool × Int
 | .mk k n p q s l,d,c=>if c - 1<0∨20<d∨locB (.mk k n p q s l)=false then (false,c - 1) else walkL l (d+1) (c - 1)
def walkL:List Pd→Int→Int→Bool × Int
 | [],_,c=>(true,c)
 | x :: r,d,c=>if (walkF x d c).1 then walkL r d (walkF x d c).2 else (false,(walkF x d c).2)
end
def nmB (s:ByteArray) (v:ByteArray × Int):Bool:=decide (v.1=s)
def varIx (vs:List (ByteArray × Int)) (s:ByteArray):Int:=match vs.findIdx? (nmB s) with|some i=>i|none => -1
def isPB (n:Nat) (p:Int):Bool:=decide (0≤p) && decide (p<n)
def knownB (ps:List Pr) (p:Int) (s:ByteArray):Bool:=match ps[p.toNat]? with|some x=>x.vars.any (nmB s)|none=>false
def resB (ps:List Pr):Pd→Bool
 | .mk k _ p q s _=>if k=2 then isPB ps.length p && decide (q=0) && knownB ps p s else if k=3 then isPB ps.length p && decide (q=0) && decide (s=ByteArray.empty) else
  if k=4 then isPB ps.length p && isPB ps.length q && !decide (p=q) && decide (s=ByteArray.empty) else true
theorem fstF_zero {f:Nat→Int} {n:Nat} (h:fstF f n=0):∀i,i<n→f i=0:=by
 intro i
 induction i using Nat.strongRecOn with
 | _ i ih =>
  intro hi
  by_cases h0:f i=0
  ·exact h0
  ·rw[fstF_hit hi (fun j hj=>ih j hj (by omega)) h0] at h;exact h
theorem procF_of_valid {ps:List Pr} (h:validF ps=true) {p:Nat} (hp:p<ps.length):procF ps p=0:=by
 have h0:=(valid_parts h).1
 unfold procFirst at h0
 rw[Option.map_eq_none_iff,List.find?_eq_none] at h0
 simpa using h0 p (List.mem_range.2 hp)
theorem procF_parts {ps:List Pr} {p:Nat} (hp:p<ps.length):procF ps p=0↔(nameOk ps[p].name=true∧(ps.take p).any (fun y=>decide (y.name=ps[p].name))=false)∧ps[p].vars.length≤8∧(∀i,i<ps[p].vars.length→varF ps[p].vars i=0)∧ps[p].evs.length≤64:=by
 have e:procF ps p=if !nameOk ps[p].name || (ps.take p).any (fun y=>decide (y.name=ps[p].name)) then 13 else if 8<ps[p].vars.length then 5 else
   if fstF (varF ps[p].vars) ps[p].vars.length ≠ 0 then fstF (varF ps[p].vars) ps[p].vars.length else if 64<ps[p].evs.length then 5 else 0:=by
  unfold procF;simp only[List.getElem?_eq_getElem hp]
 rw[e]
 constructor
 ·intro h
  split at h
  ·cases h
  ·rename_i h1
   split at h
   ·cases h
   ·split at h
    ·rename_i h3;exact absurd h h3
    ·rename_i h3
     split at h
     ·cases h
     ·simp only[Bool.or_eq_true,Bool.not_eq_true',not_or,Bool.not_eq_true] at h1
      exact⟨⟨by simpa using h1.1,h1.2⟩,by omega,fstF_zero (by simpa using h3),by omega⟩
 ·rintro⟨⟨h1,h2⟩,h3,h4,h5⟩
  rw[if_neg (by rw[h1,h2];decide),if_neg (by omega),if_neg (by rw[fstF_none h4];decide),if_neg (by omega)]
theorem evF_parts {ps:List Pr} {p:Nat} (hp:p<ps.length) {i:Nat} (hi:i<ps[p].evs.length):evF ps p i=0↔formedI ps.length p ps[p].evs[i]=true∧(0≤ps[p].evs[i].time∧ps[p].evs[i].time≤1099511627776∧lastT ps[p].evs i≤ps[p].evs[i].time) ∧
  ps[p].evs[i].asg.length≤8∧∀k,k<ps[p].evs[i].asg.length→asgF ps[p].vars.length ps[p].evs[i].asg k=0:=by
 have e:evF ps p i=if !formedI ps.length p ps[p].evs[i] then 3 else if !inI ps[p].evs[i].time 0 1099511627776 || decide (ps[p].evs[i].time<lastT ps[p].evs i) then 11 else if 8<ps[p].evs[i].asg.length then 5 else fstF (asgF ps[p].vars.length ps[p].evs[i].asg) ps[p].evs[i].asg.length:=by
  unfold evF;simp only[List.getElem?_eq_getElem hp,List.getElem?_eq_getElem hi]
 rw[e]
 constructor
 ·intro h
  split at h
  ·cases h
  ·rename_i h1
   split at h
   ·cases h
   ·rename_i h2
    split at h
    ·cases h
    ·simp only[inI,Bool.or_eq_true,Bool.not_eq_true',not_or,Bool.not_eq_false,Bool.and_eq_true,decide_eq_true_eq] at h2
     exact⟨by simpa using h1,⟨h2.1.1,h2.1.2,by omega⟩,by omega,fstF_zero h⟩
 ·rintro⟨h1,⟨h2,h3,h4⟩,h5,h6⟩
  rw[if_neg (by rw[h1];decide),if_neg (by simp only[inI,Bool.or_eq_true,Bool.not_eq_true',not_or,Bool.not_eq_false,Bool.and_eq_true,decide_eq_true_eq];omega),if_neg (by omega),fstF_none h6]
theorem evF_of_valid {ps:List Pr} (h:validF ps=true) {p:Nat} (hp:p<ps.length) {i:Nat} (hi:i<ps[p].evs.length):evF ps p i=0:=evFirst_get (valid_parts h).2.1 hp hi
theorem valid_cyc {ps:List Pr} (h:validF ps=true):cycF ps=none:=by
 obtain⟨h1,h2,h3⟩:=valid_parts h
 unfold validF faultF at h
 rw[h1,h2,h3] at h
 simp only[decide_eq_true_eq] at h
 split at h
 ·cases h
 ·split at h
  ·cases h
  ·assumption
section
variable {ps:List Pr} {c:List Int}
end
def mn2 (a b:Int):Int:=if b<a then b else a
def mx2 (a b:Int):Int:=if a<b then b else a
def minL:List Int→Int | []=>0|a :: r=>r.foldl mn2 a
def maxL:List Int→Int | []=>0|a :: r=>r.foldl mx2 a
def valsF (x:Pr) (v:Nat):List Int:=(List.range (x.evs.length+1)).map fun k=>(stateAt x k).getD v 0
def varLo (ps:List Pr) (p:Int) (s:ByteArray):Int:=match ps[p.toNat]? with|some x=>minL (valsF x (varIx x.vars s).toNat)|none=>0
def varHi (ps:List Pr) (p:Int) (s:ByteArray):Int:=match ps[p.toNat]? with|some x=>maxL (valsF x (varIx x.vars s).toNat)|none=>0
def evN (ps:List Pr) (p:Int):Int:=match ps[p.toNat]? with|some x=>x.evs.length|none=>0
def sentTo (q:Int) (e:Ev):Bool:=decide (e.kind=2) && decide (e.peer=q)
def msgN (ps:List Pr) (p q:Int):Int:=match ps[p.toNat]? with|some x=>(x.evs.countP (sentTo q):Int)|none=>0
def tooB (a b:Int):Bool:=decide (a < -1125899906842624) || decide (1125899906842624<b)
def absF (a:Int):Int:=mx2 a (-a)
def timesF (a b:Int):Int:=if a=0∨b=0 then 0 else if 1125899906842624 / absF b<absF a then (if (decide (a<0) != decide (b<0))=true then -1125899906842625 else 1125899906842625) else a * b
abbrev Bd:=Int × Int × Bool
def bdL (ps:List Pr) (k n p q:Int) (s:ByteArray):Int × Int:=if k=1 then (n,n) else if k=3 then (0,evN ps p) else if k=4 then (0,msgN ps p q) else (varLo ps p s,varHi ps p s)
def bd2 (k:Int) (a b:Bd):Int × Int:=if k=5 then (-a.2.1,-a.1) else if k=6 then (a.1+b.1,a.2.1+b.2.1) else if k=7 then (a.1 - b.2.1,a.2.1 - b.1) else
 (minL [timesF a.1 b.1,timesF a.1 b.2.1,timesF a.2.1 b.1,timesF a.2.1 b.2.1],maxL [timesF a.1 b.1,timesF a.1 b.2.1,timesF a.2.1 b.1,timesF a.2.1 b.2.1])
def bdG (i:Int × Int):Bd:=(i.1,i.2,!tooB i.1 i.2)
def bdN (ps:List Pr) (k n p q:Int) (s:ByteArray):List Bd→Bd
 | []=>bdG (bdL ps k n p q s)
 | [a]=>if a.2.2=true then bdG (bd2 k a a) else (0,0,false)
 | a :: b :: _=>if a.2.2=true∧b.2.2=true then bdG (bd2 k a b) else (0,0,false)
mutual
def intF (ps:List Pr):Pd→Bd
 | .mk k n p q s l=>bdN ps k n p q s (intL ps l)
def intL (ps:List Pr):List Pd→List Bd
 | []=>[]
 | x :: r=>intF ps x :: intL ps r
end
mutual
def fitB (ps:List Pr):Pd→Bool
 | .mk k n p q s l=>if k≤8 then (intF ps (.mk k n p q s l)).2.2 else fitL ps l
def fitL (ps:List Pr):List Pd→Bool
 | []=>true
 | x :: r=>fitB ps x && fitL ps r
end
structure Obs where
 var:Int→ByteArray→Int
 cnt:Int→Int
 chn:Int→Int→Int
def valN (o:Obs) (k n p q:Int) (s:ByteArray):List Int→Int
 | []=>if k=1 then n else if k=2 then o.var p s else if k=3 then o.cnt p else o.chn p q
 | [a] => -a
 | a :: b :: _=>if k=6 then a+b else if k=7 then a - b else a * b
mutual
def valF (o:Obs):Pd→Int
 | .mk k n p q s l=>valN o k n p q s (valL o l)
def valL (o:Obs):List Pd→List Int
 | []=>[]
 | x :: r=>valF o x :: valL o r
end
mutual
def AllP (f:Pd→Prop):Pd→Prop
 | .mk k n p q s l=>f (.mk k n p q s l)∧AllPL f l
def AllPL (f:Pd→Prop):List Pd→Prop
 | []=>True
 | x :: r=>AllP f x∧AllPL f r
end
def truN (k:Int) (v:List Int) (b:List Bool):Bool :=
 if k=9 then decide (v.getD 0 0=v.getD 1 0) else if k=10 then !decide (v.getD 0 0=v.getD 1 0) else if k=11 then decide (v.getD 0 0<v.getD 1 0) else if k=12 then decide (v.getD 0 0≤v.getD 1 0) else
 if k=13 then true else if k=14 then false else if k=15 then !b.getD 0 false else if k=16 then b.getD 0 false && b.getD 1 false else b.getD 0 false || b.getD 1 false
mutual
def truF (o:Obs):Pd→Bool
 | .mk k _ _ _ _ l=>truN k (valL o l) (truL o l)
def truL (o:Obs):List Pd→List Bool
 | []=>[]
 | x :: r=>truF o x :: truL o r
end
noncomputable def checkF (ps:List Pr) (t:Pd):Int:=if (validF ps && formedB t)=false then 1 else if allB (resB ps) t=false then 13 else if typedB t=false then 14 else if fitB ps t=false then 9 else 0
def lclB (pr:Int):Pd→Bool
 | .mk k _ p _ _ _=>if k=4∨(18≤k∧k≤21) then false else if k=2∨k=3 then decide (p=pr) else true
noncomputable def lclF (ps:List Pr) (pr k:Int) (t:Pd):Int :=
 if checkF ps t ≠ 0 then checkF ps t else if ¬(0≤pr∧pr<ps.length∧0≤k∧k≤evN ps pr) then 2 else if t.kind≤8 then 14 else if allB (lclB pr) t=false then 15 else 0
def stC (n p:Nat) (k:Int):List Int:=(List.replicate n 0).set p k
def aView (ps:List Pr) (c:List Int) (V:List (List Int)):AV:=.agg [aPrs ps,aInts c,aRows V]
open Classical in
noncomputable def atV (ps:List Pr) (c:List Int) (t:Pd):AV:=if c.length ≠ ps.length∨checkF ps t ≠ 0∨givenF ps [c] [] ≠ 0 then aView [] [] [] else aView ps c (valuesAt ps c)
end Go.AL
end
section
namespace Go.AL
open Go Go.RowKit
set_option maxRecDepth 4000
theorem givenL {ps:List Pr} {l:List (List Int)} : givenF ps l []=0↔(validF ps=true∧∀c ∈ l,c.length=ps.length)∧(∀c ∈ l,inRangeF ps c=true)∧∀c ∈ l,closedF ps c=true:=by
 have h1:sizedF ps l=true↔validF ps=true∧∀c ∈ l,c.length=ps.length:=by
  refine⟨sizedF_inv,fun h => ?_⟩
  unfold sizedF
  rw[h.1,Bool.true_and,Bool.not_eq_true',List.any_eq_false]
  intro c hc
  rw[decide_eq_true (h.2 c hc)];decide
 have h2:=List.all_eq_true (l:=l) (p:=inRangeF ps)
 have h3:=List.all_eq_true (l:=l) (p:=closedF ps)
 rw[← h1,← h2,← h3]
 unfold givenF
 cases sizedF ps l <;> cases l.all (inRangeF ps) <;> cases l.all (closedF ps) <;> simp
mutual
def rwF (c:List Int):Pd→Pd
 | .mk k n p q s l=>if k=3 then .mk 6 0 0 0 ByteArray.empty [.mk k n p q s l,.mk 1 (c.getD p.toNat 0) 0 0 ByteArray.empty []] else .mk k n p q s (rwL c l)
def rwL (c:List Int):List Pd→List Pd
 | []=>[]
 | x :: r=>rwF c x :: rwL c r
end
theorem closed_iff {ps:List Pr} {c:List Int} : closedF ps c=true↔∀(p:Nat) (hp:p<ps.length) (i:Nat) (hi:i<ps[p].evs.length),ps[p].evs[i].kind=3→(i:Int)+1≤cAt c p→(sndr ps ps[p].evs[i].msg).2≤cAt c (sndr ps ps[p].evs[i].msg).1:=by
 unfold closedF
 rw[Bool.not_eq_true',List.any_eq_false]
 constructor
 ·intro h p hp i hi hk hc
  have:=h _ (List.mem_of_getElem? (evIds_get hp hi))
  unfold badEv at this
  simp only[Bool.and_eq_true,decide_eq_true_eq,not_and] at this
  have:=this ⟨hk,hc⟩
  unfold sndr
  omega
 ·intro h x hx
  obtain⟨k,hk⟩:=List.getElem?_of_mem hx
  obtain⟨p,hp,i,hi,_,rfl⟩:=evIds_inv hk
  unfold badEv
  simp only[Bool.and_eq_true,decide_eq_true_eq,not_and]
  rintro⟨h1,h2⟩
  have:=h p hp i hi h1 h2
  unfold sndr at this
  omega
theorem inRange_iff {ps:List Pr} {c:List Int} (hc:c.length=ps.length):inRangeF ps c=true↔∀(p:Nat) (hp:p<ps.length),0≤cAt c p∧cAt c p≤ps[p].evs.length:=by
 constructor
 ·intro h p hp
  obtain⟨h1,h2⟩:=inRangeF_get h hc hp
  rw[cAt_nat (show p<c.length by omega)]
  exact⟨h1,h2⟩
 ·intro h
  unfold inRangeF
  rw[List.all_eq_true]
  intro p hp
  have hpc:=List.mem_range.1 hp
  have hpp:p<ps.length:=by omega
  have:=h p hpp
  rw[cAt_nat hpc] at this
  unfold cntOk
  simp only[List.getElem?_eq_getElem hpc,List.getElem?_eq_getElem hpp,Bool.and_eq_true,decide_eq_true_eq]
  exact this
def joinL (c d:List Int):List Int:=List.zipWith (fun x y=>if x<y then y else x) c d
theorem zw_cAt {c d:List Int} {g:Int→Int→Int} (h:c.length=d.length) {p:Nat} (hp:p<c.length):cAt (List.zipWith g c d) p=g (cAt c p) (cAt d p):=by
 rw[cAt_nat (show p<(List.zipWith g c d).length by rw[List.length_zipWith];omega),cAt_nat hp,cAt_nat (show p<d.length by omega),List.getElem_zipWith]
theorem join_cAt {c d:List Int} (h:c.length=d.length) {p:Nat} (hp:p<c.length):cAt (joinL c d) p=if cAt c p<cAt d p then cAt d p else cAt c p:=zw_cAt h hp
theorem join_len {c d:List Int} (h:c.length=d.length):(joinL c d).length=c.length:=by unfold joinL;rw[List.length_zipWith];omega
theorem join_given {ps:List Pr} {c d:List Int} (hc:givenF ps [c] []=0) (hd:givenF ps [d] []=0):givenF ps [joinL c d] []=0:=by
 obtain⟨hv,hcl,hcr,hcc⟩:=givenF_zero hc
 obtain⟨_,hdl,hdr,hdc⟩:=givenF_zero hd
 have hl:=join_len (c:=c) (d:=d) (by omega)
 rw[givenL]
 refine⟨⟨hv,fun x hx => ?_⟩,fun x hx => ?_,fun x hx => ?_⟩ <;> (simp only[List.mem_singleton] at hx;subst hx)
 ·omega
 ·rw[inRange_iff (by omega)]
  intro p hp
  have h1:=(inRange_iff hcl).1 hcr p hp
  have h2:=(inRange_iff hdl).1 hdr p hp
  rw[join_cAt (by omega) (by omega)]
  split <;> omega
 ·rw[closed_iff]
  intro p hp i hi hk hle
  obtain⟨hq,j,hj,h1,_,_⟩:=recv_peer (valid_parts hv).2.2 hp hi hk
  rw[join_cAt (by omega) (by omega)] at hle
  have g1:=closed_iff.1 hcc p hp i hi hk
  have g2:=closed_iff.1 hdc p hp i hi hk
  rw[h1] at g1 g2 ⊢
  simp only at g1 g2 ⊢
  generalize ps[p].evs[i].peer.toNat=q at *
  rw[join_cAt (by omega) (by omega)]
  split at hle <;> split <;> omega
section
variable {ps:List Pr} {c j:List Int}
end
def closeN (ps:List Pr):Nat→List Int→List Int
 | 0,c=>c
 | n+1,c=>match missF ps c with
  | none=>c
  | some x=>closeN ps n (c.set x.1.1.toNat x.1.2)
def closeF (ps:List Pr) (c:List Int):List Int:=closeN ps (off ps ps.length) c
theorem sumN_set:∀(l:List Nat) (i x:Nat) (h:i<l.length),(l.set i x).sum+l[i]=l.sum+x
 | a :: r,0,x,_=>by simp only[List.set_cons_zero,List.sum_cons,List.getElem_cons_zero];omega
 | a :: r,i+1,x,h=>by
  have:=sumN_set r i x (by simpa using h)
  simp only[List.set_cons_succ,List.sum_cons,List.getElem_cons_succ];omega
def totC (c:List Int):Nat:=(c.map Int.toNat).sum
theorem totC_set {c:List Int} {q:Nat} {x:Int} (hq:q<c.length):totC (c.set q x)+(c[q]).toNat=totC c+x.toNat:=by
 unfold totC
 rw[List.map_set]
 have:=sumN_set (c.map Int.toNat) q x.toNat (by simpa using hq)
 simpa using this
theorem totC_le0:∀(l:List Pr) (c:List Int),c.length=l.length→(∀p (hp:p<l.length),c.getD p 0≤l[p].evs.length)→totC c≤(l.map fun x=>x.evs.length).sum
 | [],[],_,_=>Nat.le_refl _
 | x :: l,a :: c,hl,h=>by
  have h0:=h 0 (by simp)
  have ht:=totC_le0 l c (by simpa using hl) fun p hp=>by
   have:=h (p+1) (by simpa using hp)
   simpa using this
  simp only[List.getElem_cons_zero,List.getD_cons_zero] at h0
  unfold totC at *
  simp only[List.map_cons,List.sum_cons]
  omega
theorem totC_le {ps:List Pr} {c:List Int} (hc:c.length=ps.length) (hr:inRangeF ps c=true):totC c≤off ps ps.length:=by
 unfold off
 rw[List.take_length]
 refine totC_le0 ps c hc fun p hp => ?_
 have:=((inRange_iff hc).1 hr p hp).2
 unfold cAt at this
 simpa using this
theorem miss_inv {ps:List Pr} (hv:validF ps=true) {c:List Int} (hc:c.length=ps.length) {x:Eid × Eid} (h:missF ps c=some x) :
  ∃(p:Nat) (_:p<ps.length) (i:Nat) (_:i<ps[p].evs.length) (q:Nat) (_:q<ps.length) (j:Nat) (_:j<ps[q].evs.length),ps[p].evs[i].kind=3∧(i:Int)+1≤cAt c p∧sndr ps ps[p].evs[i].msg=((q:Int),(j:Int)+1)∧x=(((q:Int),(j:Int)+1),((p:Int),(i:Int)+1))∧cAt c q<(j:Int)+1:=by
 unfold missF at h
 rw[Option.map_eq_some_iff] at h
 obtain⟨y,hy,rfl⟩:=h
 have hb:=List.find?_some hy
 obtain⟨k,hk⟩:=List.getElem?_of_mem (List.mem_of_find?_eq_some hy)
 obtain⟨p,hp,i,hi,_,rfl⟩:=evIds_inv hk
 unfold badEv at hb
 simp only[Bool.and_eq_true,decide_eq_true_eq] at hb
 obtain⟨⟨h1,h2⟩,h3⟩:=hb
 obtain⟨hq,j,hj,e,_,_⟩:=recv_peer (valid_parts hv).2.2 hp hi h1
 have e':findIn (evIds ps) 2 ps[p].evs[i].msg=((ps[p].evs[i].peer.toNat:Int),(j:Int)+1):=e
 rw[e'] at h3
 exact⟨p,hp,i,hi,_,hq,j,hj,h1,h2,e,by rw[e'],h3⟩
theorem miss_next {ps:List Pr} (hv:validF ps=true) {c:List Int} (hc:c.length=ps.length) (hr:inRangeF ps c=true) {x:Eid × Eid} (h:missF ps c=some x) :
  (c.set x.1.1.toNat x.1.2).length=ps.length∧inRangeF ps (c.set x.1.1.toNat x.1.2)=true∧totC c<totC (c.set x.1.1.toNat x.1.2):=by
 obtain⟨p,hp,i,hi,q,hq,j,hj,_,_,_,rfl,h1⟩:=miss_inv hv hc h
 have hl:(c.set q ((j:Int)+1)).length=ps.length:=by rw[List.length_set];exact hc
 refine⟨hl,?_,?_⟩
 ·rw[Int.toNat_natCast,inRange_iff hl]
  intro r hr'
  rw[cAt_nat (show r<(c.set q ((j:Int)+1)).length by omega),List.getElem_set]
  split
  ·rename_i e;subst e;omega
  ·have:=(inRange_iff hc).1 hr r hr'
   rw[cAt_nat (show r<c.length by omega)] at this
   exact this
 ·have:=totC_set (c:=c) (q:=q) (x:=(j:Int)+1) (by omega)
  rw[cAt_nat (show q<c.length by omega)] at h1
  have h0:=((inRange_iff hc).1 hr q hq).1
  rw[cAt_nat (show q<c.length by omega)] at h0
  simp only[Int.toNat_natCast]
  have h3:((j:Int)+1).toNat=j+1:=by omega
  rw[h3] at this
  omega
theorem closeN_more {ps:List Pr} (hv:validF ps=true):∀(n:Nat) (c:List Int),c.length=ps.length→inRangeF ps c=true→off ps ps.length≤totC c+n→closeN ps (n+1) c=closeN ps n c
 | 0,c,hc,hr,hn=>by
  unfold closeN
  cases h:missF ps c with
  | none=>rfl
  | some x =>
   obtain⟨a1,a2,a3⟩:=miss_next hv hc hr h
   have:=totC_le a1 a2
   omega
 | n+1,c,hc,hr,hn=>by
  rw[closeN]
  conv=>rhs;rw[closeN]
  cases h:missF ps c with
  | none=>rfl
  | some x =>
   obtain⟨a1,a2,a3⟩:=miss_next hv hc hr h
   exact closeN_more hv n _ a1 a2 (by omega)
theorem closeN_of {ps:List Pr} (hv:validF ps=true) {c:List Int} (hc:c.length=ps.length) (hr:inRangeF ps c=true) {n:Nat} (h:off ps ps.length≤totC c+n):∀k,closeN ps (n+k) c=closeN ps n c
 | 0=>rfl
 | k+1=>by rw[← Nat.add_assoc,closeN_more hv (n+k) c hc hr (by omega),closeN_of hv hc hr h k]
theorem closeF_step {ps:List Pr} (hv:validF ps=true) {c:List Int} (hc:c.length=ps.length) (hr:inRangeF ps c=true) {x:Eid × Eid} (h:missF ps c=some x):closeF ps c=closeF ps (c.set x.1.1.toNat x.1.2):=by
 obtain⟨a1,a2,a3⟩:=miss_next hv hc hr h
 have hle:=totC_le a1 a2
 unfold closeF
 obtain⟨m,hm⟩:∃m,off ps ps.length=m+1:=⟨off ps ps.length - 1,by omega⟩
 rw[hm]
 conv=>lhs;rw[closeN]
 rw[h]
 exact(closeN_of hv a1 a2 (n:=m) (by omega) 1).symm
theorem closeF_none {ps:List Pr} {c:List Int} (h:missF ps c=none):closeF ps c=c:=by
 unfold closeF
 cases off ps ps.length with
 | zero=>rfl
 | succ n=>rw[closeN,h]
theorem miss_ind {ps:List Pr} (hv:validF ps=true) {M:List Int→Prop} (h0:∀c,c.length=ps.length→inRangeF ps c=true→missF ps c=none→M c)
  (h1:∀c,c.length=ps.length→inRangeF ps c=true→∀x,missF ps c=some x→M (c.set x.1.1.toNat x.1.2)→M c):∀c,c.length=ps.length→inRangeF ps c=true→M c:=by
 suffices H:∀n c,c.length=ps.length→inRangeF ps c=true→off ps ps.length - totC c=n→M c from fun c hc hr=>H _ c hc hr rfl
 intro n
 induction n using Nat.strongRecOn with
 | _ n ih =>
  intro c hc hr hn
  cases h:missF ps c with
  | none=>exact h0 c hc hr h
  | some x =>
   obtain⟨a1,a2,a3⟩:=miss_next hv hc hr h
   have:=totC_le a1 a2
   exact h1 c hc hr x h (ih _ (by omega) _ a1 a2 rfl)
theorem closeF_ok {ps:List Pr} (hv:validF ps=true) {c:List Int} (hc:c.length=ps.length) (hr:inRangeF ps c=true):(closeF ps c).length=ps.length∧inRangeF ps (closeF ps c)=true∧missF ps (closeF ps c)=none:=by
 refine miss_ind hv (M:=fun c=>(closeF ps c).length=ps.length∧inRangeF ps (closeF ps c)=true∧missF ps (closeF ps c)=none) (fun c hc hr h => ?_) (fun c hc hr x h hm => ?_) c hc hr
 ·rw[closeF_none h];exact⟨hc,hr,h⟩
 ·rw[closeF_step hv hc hr h];exact hm
theorem closeF_ge {ps:List Pr} (hv:validF ps=true) {c:List Int} (hc:c.length=ps.length) (hr:inRangeF ps c=true):∀p,p<ps.length→cAt c p≤cAt (closeF ps c) p:=by
 refine miss_ind hv (M:=fun c=>∀p,p<ps.length→cAt c p≤cAt (closeF ps c) p) (fun c hc hr h p hp => ?_) (fun c hc hr x h hm p hp => ?_) c hc hr
 ·rw[closeF_none h];exact Int.le_refl _
 ·rw[closeF_step hv hc hr h]
  refine Int.le_trans ?_ (hm p hp)
  obtain⟨_,_,_,_,q,hq,j,hj,_,_,_,rfl,h1⟩:=miss_inv hv hc h
  rw[Int.toNat_natCast,cAt_nat (show p<(c.set q ((j:Int)+1)).length by rw[List.length_set];omega),List.getElem_set]
  split
  ·rename_i e;subst e;omega
  ·rw[cAt_nat (show p<c.length by omega)];exact Int.le_refl _
theorem closeF_least {ps:List Pr} (hv:validF ps=true) {d:List Int} (hd:d.length=ps.length) (hcl:closedF ps d=true) {c:List Int} (hc:c.length=ps.length) (hr:inRangeF ps c=true) :
  (∀p,p<ps.length→cAt c p≤cAt d p)→∀p,p<ps.length→cAt (closeF ps c) p≤cAt d p:=by
 refine miss_ind hv (M:=fun c=>(∀p,p<ps.length→cAt c p≤cAt d p)→∀p,p<ps.length→cAt (closeF ps c) p≤cAt d p) (fun c hc hr h hle => ?_) (fun c hc hr x h hm hle => ?_) c hc hr
 ·rw[closeF_none h];exact hle
 ·rw[closeF_step hv hc hr h]
  refine hm fun p hp => ?_
  obtain⟨a,ha,i,hi,q,hq,j,hj,g1,g2,g3,rfl,h1⟩:=miss_inv hv hc h
  rw[Int.toNat_natCast,cAt_nat (show p<(c.set q ((j:Int)+1)).length by rw[List.length_set];omega),List.getElem_set]
  split
  ·rename_i e;subst e
   have:=closed_iff.1 hcl a ha i hi g1 (Int.le_trans g2 (hle a ha))
   rw[g3] at this
   exact this
  ·have:=hle p hp
   rw[cAt_nat (show p<c.length by omega)] at this
   exact this
theorem closeF_closed {ps:List Pr} (hv:validF ps=true) {c:List Int} (hc:c.length=ps.length) (hr:inRangeF ps c=true):closedF ps (closeF ps c)=true:=by
 rw[closedF_iff,(closeF_ok hv hc hr).2.2];rfl
structure Elim where
 n:Nat
 top:Nat→Nat
 ok:Nat→Nat→Bool
 need:Nat→Nat→Nat→Int
def exB (E:Elim) (now:Nat→Nat) (p k:Nat):Bool:=!E.ok p k || (List.range E.n).any fun q=>decide (q ≠ p) && decide ((k:Int)<E.need q (now q) p)
def nextF (ex:Nat→Bool) (top:Nat):Nat→Nat→Nat
 | 0,k=>k
 | m+1,k=>if k≤top∧ex k=true then nextF ex top m (k+1) else k
def nextK (ex:Nat→Bool) (top k:Nat):Nat:=nextF ex top (top+1 - k) k
section
variable {ex:Nat→Bool} {top k:Nat}
theorem nextK_hit (h:k≤top) (he:ex k=true):nextK ex top k=nextK ex top (k+1):=by
 unfold nextK
 obtain⟨m,hm⟩:∃m,top+1 - k=m+1:=⟨top - k,by omega⟩
 rw[hm,nextF,if_pos ⟨h,he⟩,show top+1 - (k+1)=m by omega]
theorem nextK_stop (h:¬(k≤top∧ex k=true)):nextK ex top k=k:=by
 unfold nextK
 cases top+1 - k with
 | zero=>rfl
 | succ m=>rw[nextF,if_neg h]
theorem nextK_spec:∀(m k:Nat),top+1 - k=m→k≤top+1→k≤nextK ex top k∧nextK ex top k≤top+1∧(∀j,k≤j→j<nextK ex top k→ex j=true)∧(nextK ex top k≤top→ex (nextK ex top k)=false)
 | 0,k,hm,hk=>by
  rw[nextK_stop (by omega)]
  exact⟨Nat.le_refl _,hk,fun j _ _=>by omega,fun h=>by omega⟩
 | m+1,k,hm,hk=>by
  by_cases he:ex k=true
  ·rw[nextK_hit (by omega) he]
   obtain⟨a1,a2,a3,a4⟩:=nextK_spec m (k+1) (by omega) (by omega)
   refine⟨by omega,a2,fun j h1 h2 => ?_,a4⟩
   by_cases e:j=k
   ·subst e;exact he
   ·exact a3 j (by omega) h2
  ·rw[nextK_stop (fun h=>he h.2)]
   exact⟨Nat.le_refl _,hk,fun j _ _=>by omega,fun _=>by simpa using he⟩
end
def stepP (E:Elim) (now:Nat→Nat):Option Nat:=(List.range E.n).find? fun p=>exB E now p (now p)
def goF (E:Elim) (now:Nat→Nat) (p:Nat):Nat:=nextK (exB E now p) (E.top p) (now p)
def updN (f:Nat→Nat) (p x:Nat):Nat→Nat:=fun q=>if q=p then x else f q
theorem updN_self (f:Nat→Nat) (p x:Nat):updN f p x p=x:=if_pos rfl
theorem updN_ne {f:Nat→Nat} {p x q:Nat} (h:q ≠ p):updN f p x q=f q:=if_neg h
theorem find_range {n:Nat} {f:Nat→Bool} {p:Nat} (h:(List.range n).find? f=some p):p<n∧f p=true∧∀q,q<p→f q=false:=by
 rw[List.find?_eq_some_iff_getElem] at h
 obtain⟨h1,i,hi,e,h2⟩:=h
 rw[List.getElem_range] at e
 subst e
 refine⟨by simpa using hi,h1,fun q hq => ?_⟩
 have:=h2 q hq
 rw[List.getElem_range] at this
 simpa using this
abbrev Stp:=Nat × Nat × Nat
inductive RunR (E:Elim):(Nat→Nat)→List Stp→(Nat→Nat)→Bool→Prop
 | stop {now:Nat→Nat} (h:stepP E now=none):RunR E now [] now false
 | lost {now:Nat→Nat} {p:Nat} (h:stepP E now=some p) (hl:E.top p<goF E now p):RunR E now [(p,now p,goF E now p - 1)] (updN now p (goF E now p)) true
 | go {now fin:Nat→Nat} {p:Nat} {st:List Stp} {l:Bool} (h:stepP E now=some p) (hl:goF E now p≤E.top p) (hr:RunR E (updN now p (goF E now p)) st fin l):RunR E now ((p,now p,goF E now p - 1) :: st) fin l
def InE (E:Elim) (now:Nat→Nat):Prop:=∀q,q<E.n→now q≤E.top q
def roomE (E:Elim) (now:Nat→Nat):Nat:=totS E.n fun q=>E.top q+1 - now q
theorem totS_lt {c c':Nat→Nat} {p:Nat} (h:∀q,q ≠ p→c' q=c q) (hp:c' p<c p):∀n,totS n c'+(if p<n then 1 else 0)≤totS n c
 | 0=>by simp [totS]
 | n+1=>by
  have:=totS_lt h hp n
  rw[totS_succ,totS_succ]
  by_cases e:n=p
  ·subst e
   rw[if_neg (by omega)] at this
   rw[if_pos (by omega)];omega
  ·rw[h n e]
   by_cases e2:p<n
   ·rw[if_pos e2] at this;rw[if_pos (by omega)];omega
   ·rw[if_neg e2] at this;rw[if_neg (by omega)];omega
theorem step_inv {E:Elim} {now:Nat→Nat} (hI:InE E now) {p:Nat} (h:stepP E now=some p) :
  p<E.n∧exB E now p (now p)=true∧(∀q,q<p→exB E now q (now q)=false)∧now p<goF E now p∧goF E now p≤E.top p+1∧(∀j,now p≤j→j<goF E now p→exB E now p j=true)∧roomE E (updN now p (goF E now p))<roomE E now:=by
 obtain⟨h1,h2,h3⟩:=find_range h
 have hle:=hI p h1
 obtain⟨a1,a2,a3,a4⟩:=nextK_spec (ex:=exB E now p) (top:=E.top p) _ (now p) rfl (by omega)
 have hlt:now p<goF E now p:=by
  unfold goF
  rw[nextK_hit hle h2]
  obtain⟨b1,_⟩:=nextK_spec (ex:=exB E now p) (top:=E.top p) _ (now p+1) rfl (by omega)
  omega
 refine⟨h1,h2,h3,hlt,a2,a3,?_⟩
 unfold roomE
 have:=totS_lt (c:=fun q=>E.top q+1 - now q) (c':=fun q=>E.top q+1 - updN now p (goF E now p) q) (p:=p) (fun q hq=>by rw[updN_ne hq]) (by rw[updN_self];omega) E.n
 rw[if_pos h1] at this
 omega
theorem inE_step {E:Elim} {now:Nat→Nat} (hI:InE E now) {p:Nat} (hl:goF E now p≤E.top p):InE E (updN now p (goF E now p)):=fun q hq=>by
 by_cases e:q=p
 ·subst e;rw[updN_self];exact hl
 ·rw[updN_ne e];exact hI q hq
theorem run_ex (E:Elim):∀(m:Nat) (now:Nat→Nat),InE E now→roomE E now≤m→∃st fin l,RunR E now st fin l:=by
 intro m
 induction m with
 | zero =>
  intro now hI hm
  cases h:stepP E now with
  | none=>exact⟨_,_,_,.stop h⟩
  | some p=>have:=(step_inv hI h).2.2.2.2.2.2;omega
 | succ m ih =>
  intro now hI hm
  cases h:stepP E now with
  | none=>exact⟨_,_,_,.stop h⟩
  | some p =>
   have h7:=(step_inv hI h).2.2.2.2.2.2
   by_cases hl:goF E now p≤E.top p
   ·obtain⟨st,fin,l,hr⟩:=ih _ (inE_step hI hl) (by omega)
    exact⟨_,_,_,.go h hl hr⟩
   ·exact⟨_,_,_,.lost h (by omega)⟩
theorem inE_zero (E:Elim):InE E fun _=>0:=fun _ _=>Nat.zero_le _
open Classical in
noncomputable def stepsF (E:Elim):List Stp:=Classical.choose (run_ex E _ _ (inE_zero E) (Nat.le_refl _))
open Classical in
noncomputable def finF (E:Elim):Nat→Nat:=Classical.choose (Classical.choose_spec (run_ex E _ _ (inE_zero E) (Nat.le_refl _)))
open Classical in
noncomputable def lostF (E:Elim):Bool:=Classical.choose (Classical.choose_spec (Classical.choose_spec (run_ex E _ _ (inE_zero E) (Nat.le_refl _))))
end Go.AL
end
section
namespace Go.AL
open Go Go.RowKit
set_option maxRecDepth 4000
section
variable {E:Elim} {p q m k:Nat}
end
theorem stC_ok {ps:List Pr} {p:Nat} {k:Int} (hp:p<ps.length) (h0:0≤k) (hk:k≤ps[p].evs.length):(stC ps.length p k).length=ps.length∧inRangeF ps (stC ps.length p k)=true:=by
 have hl:(stC ps.length p k).length=ps.length:=by unfold stC;rw[List.length_set,List.length_replicate]
 refine⟨hl,?_⟩
 rw[inRange_iff hl]
 intro q hq
 unfold cAt stC
 rw[Int.toNat_natCast,getD_set0]
 split
 ·rename_i e;obtain⟨rfl,_⟩:=e;omega
 ·rw[List.getD_eq_getElem?_getD,List.getElem?_replicate,if_pos hq]
  exact⟨Int.le_refl 0,by simp⟩
theorem stC_len (n p:Nat) (k:Int):(stC n p k).length=n:=by unfold stC;rw[List.length_set,List.length_replicate]
def lclAt (z:Int→Pd→Int) (ts:List Pd) (p:Nat):Int:=match ts[p]? with|some t=>z p t|none=>0
noncomputable def conF (ps:List Pr) (ts:List Pd):Int :=
 if validF ps=true∧ts.length=ps.length then match (List.range ts.length).find? (fun p=>decide (lclAt (fun p t=>lclF ps p 0 t) ts p ≠ 0)) with|some p=>lclAt (fun p t=>lclF ps p 0 t) ts p|none=>0 else 1
theorem stC_cAt {n p q:Nat} {k:Int} (hq:q<n):cAt (stC n p k) q=if p=q then k else 0:=by
 rw[cAt_nat (by rw[stC_len];exact hq)]
 unfold stC
 rw[List.getElem_set,List.getElem_replicate]
theorem need_le {ps:List Pr} (hv:validF ps=true) {d:List Int} (hd:d.length=ps.length) (hr:inRangeF ps d=true) (hcl:closedF ps d=true) {q k:Nat} (hq:q<ps.length) (hk:(k:Int)≤cAt d q):∀p,p<ps.length→cAt (closeF ps (stC ps.length q k)) p≤cAt d p:=by
 have h0:=(inRange_iff hd).1 hr
 obtain⟨a1,a2⟩:=stC_ok (k:=(k:Int)) hq (by omega) (by have:=(h0 q hq).2;omega)
 refine closeF_least hv hd hcl a1 a2 fun p hp => ?_
 rw[stC_cAt hp]
 split
 ·rename_i e;subst e;exact hk
 ·exact(h0 p hp).1
theorem peer_ne {ps:List Pr} (hv:validF ps=true) {p:Nat} (hp:p<ps.length) {i:Nat} (hi:i<ps[p].evs.length) (hk:ps[p].evs[i].kind=3):ps[p].evs[i].peer.toNat ≠ p:=by
 have h:=(evF_parts hp hi).1 (evF_of_valid hv hp hi)
 have h:=h.1
 unfold formedI at h
 rw[if_neg (by omega),if_pos (.inr hk)] at h
 simp only[Bool.and_eq_true,Bool.not_eq_true',decide_eq_false_iff_not] at h
 have h0:=h.1.1
 unfold inI at h0
 simp only[Bool.and_eq_true,decide_eq_true_eq] at h0
 intro e
 exact h.1.2 (by omega)
section
variable {ps:List Pr} {E:Elim}
end
end Go.AL
end
