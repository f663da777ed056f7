/- Texts of this claim's proof: WY21, WU15, WY23, WY24, WY25, AlRdw. No condition. -/
import Derived.Test.YtbegiibjiidkmaaGreatDoorM25
import Derived.Test.YtbegiibjiidkmaaGreatDoorM20
import Derived.Test.YtbegiibjiidkmaaGreatDoorM19
import Derived.Test.YtbegiibjiidkmaaGreatDoorM27
import Derived.Test.YtbegiibjiidkmaaGreatDoorM28
import Derived.Test.YtbegiibjiidkmaaGreatDoorM17
import Derived.Test.YtbegiibjiidkmaaGreatDoorM10
section
namespace Go.AL
open Go Go.RowKit Proofs.Tryz
set_option maxRecDepth 4000
theorem ref13_Events (ps:List Pr)(hs:Sm ps):PC prog 127 [aTr ps] (ai (off ps ps.length:Nat)):=by
 have hps:=hs.procs
 refine PE 22 [.tmp 2] [1] func127 ?_;simp only[go_sem]
 refine Wk ?_
 refine AWp.block (AWp.count 4 ps.length [3] [1] (fun p vs L=>L=[]/\vs=[ai (off ps p:Nat)]) rfl rfl ⟨rfl,by simp [off,get]⟩ ?_)
 rintro p vs L hp - ⟨rfl,rfl⟩
 have hos:=off_small hs p hp
 simp only[go_sem]
 refine Wk ?_
 constructor<;>intro h1
 ·have hpp:p<ps.length:=by omega
  have hg:=getD_map (f:=aPr) hpp
  have hof:=off_succ hpp
  have hel:=hs.evs _ (List.getElem_mem hpp)
  refine W1 hg ?_
  refine⟨_,.refl _,rfl,?_⟩
  rw[hof];rfl
 ·have:p=ps.length:=by omega
  subst this
  refine Wk ?_
  exact Rz
theorem ref13_Number (ps:List Pr)(hs:Sm ps){p i:Nat}(hp:p<ps.length)(hi:i<nev ps p):PC prog 130 [aTr ps,aEid ((p:Int),(i:Int)+1)] (ai (off ps p+i:Nat)):=by
 have hps:=hs.procs
 have hn:=nev_get hp
 have hel:=hs.evs _ (List.getElem_mem hp)
 have e1:aEid ((p:Int),(i:Int)+1) = .agg [ai p,ai ((i:Int)+1)]:=rfl
 rw[e1]
 refine PE 27 [.tmp 4] [2,3] func130 ?_;simp only[go_sem]
 refine Wk ?_
 refine AWp.block (AWp.count 6 p [5] [2,3] (fun q vs L=>L=[]/\vs=[ai (off ps q:Nat)]) rfl rfl ⟨rfl,by simp [off,get]⟩ ?_)
 rintro q vs L hq - ⟨rfl,rfl⟩
 have hos:=off_small hs q (by omega)
 simp only[go_sem]
 refine Wk ?_
 constructor<;>intro h1
 ·have hqq:q<ps.length:=by omega
  have hg:=getD_map (f:=aPr) hqq
  have hof:=off_succ hqq
  have helq:=hs.evs _ (List.getElem_mem hqq)
  refine W1 hg ?_
  refine⟨_,.refl _,rfl,?_⟩
  rw[hof];rfl
 ·have:q=p:=by omega
  subst this
  refine Wk ?_
  refine Rq ?_
  congr 2
  omega
theorem off_mono {ps:List Pr}{q:Nat} : ∀ {p:Nat},q<=p->p<=ps.length->off ps q<=off ps p
 | 0,h,_=>by have:q=0:=by omega
             subst this;exact Nat.le_refl _
 | p+1,h,hp=>by
  by_cases e:q=p+1
  ·subst e;exact Nat.le_refl _
  ·have:=off_mono (ps:=ps) (q:=q) (p:=p) (by omega) (by omega)
   rw[off_succ (show p<ps.length by omega)];omega
theorem ref13_Event (ps:List Pr)(hs:Sm ps){p i:Nat}(hp:p<ps.length)(hi:i<nev ps p):PC prog 128 [aTr ps,ai (off ps p+i:Nat)] (aEid ((p:Int),(i:Int)+1)):=by
 have hps:=hs.procs
 have hn:=nev_get hp
 have hel:=hs.evs _ (List.getElem_mem hp)
 have e1:aEid ((p:Int),(i:Int)+1) = .agg [ai p,ai ((i:Int)+1)]:=rfl
 rw[e1]
 refine PE 30 [.cell 4 53] [2] func128 ?_;simp only[go_sem]
 intro b
 have hos:=off_small hs p (by omega)
 refine Wk ?_
 refine AWp.seq (AWp.block (AWp.loopN [1,5] [2,4] (fun m vs L=>∃q rest:Nat,vs=[ai rest,ai q]/\L=[(b,.row 53 2 [.agg [ai 0,ai 0]] 1)]/\off ps q+rest=off ps p+i/\q<=p/\m=p - q) p ?_ ?_))
 ·exact⟨0,off ps p+i,rfl,rfl,by simp [off],Nat.zero_le _,rfl⟩
 rintro m vs L - ⟨q,rest,rfl,rfl,hqr,hqp,rfl⟩
 have hqq:q<ps.length:=by omega
 have hg:=getD_map (f:=aPr) hqq
 have hof:=off_succ hqq
 have helq:=hs.evs _ (List.getElem_mem hqq)
 simp only[go_sem]
 refine W1 hg ?_
 constructor<;>intro h1
 ·have hne:q ≠ p:=fun e=>by subst e;omega
  refine W1 hg ?_
  refine⟨_,.refl _,p - (q+1),by omega,q+1,rest - ps[q].evs.length,?_,rfl,by omega,by omega,rfl⟩
  rw[show ((rest - ps[q].evs.length:Nat):Int)=(rest:Int) - ps[q].evs.length by omega];rfl
 ·have hqe:q=p:=by
   apply Classical.byContradiction
   intro hne
   have h2:off ps (q+1)<=off ps p:=off_mono (by omega) (by omega)
   omega
  subst hqe
  have hri:rest=i:=by omega
  subst hri
  refine Wk ?_
  refine ret_view [true] ?_;simp only[go_sem]
  exact .refl _
theorem dirE_iff {ps:List Pr}(hv:validF ps=true){p i q j:Nat}(hp:p<ps.length)(hi:i<ps[p].evs.length)(hq:q<ps.length)(hj:j<ps[q].evs.length) :
  ((p:Int),(i:Int)+1) ∈ dirE ps q j↔if p=q then j=i+1 else ps[p].evs[i].kind=2/\ps[q].evs[j].kind=3/\ps[p].evs[i].msg=ps[q].evs[j].msg:=by
 unfold dirE
 rw[evq_get hq hj,List.mem_append]
 have hsn:ps[q].evs[j].kind=3->p=q->((p:Int),(i:Int)+1) ≠ sndr ps ps[q].evs[j].msg:=fun hk e h=>by
  obtain⟨h1,j',h2,h3,_,_⟩:=recv_peer (valid_parts hv).2.2 hq hj hk
  have:=peer_ne hv hq hj hk
  rw[h3,Prod.mk.injEq] at h
  omega
 by_cases e:p=q
 ·rw[if_pos e]
  constructor
  ·rintro(h|h)
   ·split at h
    ·rw[List.mem_singleton,Prod.mk.injEq] at h;omega
    ·cases h
   ·split at h
    ·rename_i hk
     rw[List.mem_singleton] at h
     exact absurd h (hsn hk e)
    ·cases h
  ·intro h
   left
   rw[if_pos (by omega),List.mem_singleton,Prod.mk.injEq]
   omega
 ·rw[if_neg e]
  constructor
  ·rintro(h|h)
   ·split at h
    ·rw[List.mem_singleton,Prod.mk.injEq] at h;omega
    ·cases h
   ·split at h
    ·rename_i hk
     rw[List.mem_singleton] at h
     obtain⟨h1,j',h2,h3,h4,h5⟩:=recv_peer (valid_parts hv).2.2 hq hj hk
     rw[h3,Prod.mk.injEq] at h
     have hpp:p=ps[q].evs[j].peer.toNat:=by omega
     have hij:i=j':=by omega
     subst hpp
     subst hij
     exact⟨h4,hk,h5⟩
    ·cases h
  ·rintro⟨h1,h2,h3⟩
   right
   rw[if_pos h2,List.mem_singleton,<- h3,valid_unique hv hp hi h1]
set_option maxHeartbeats 1000000 in
theorem ref13_Direct (ps:List Pr)(hs:Sm ps)(hv:validF ps=true){p i q j:Nat}(hp:p<ps.length)(hi:i<ps[p].evs.length)(hq:q<ps.length)(hj:j<ps[q].evs.length) :
  PC prog 129 [aTr ps,aEid ((p:Int),(i:Int)+1),aEid ((q:Int),(j:Int)+1)] (ab (decide (((p:Int),(i:Int)+1) ∈ dirE ps q j))):=by
 have hiff:=dirE_iff hv hp hi hq hj
 have hgp:=getD_map (f:=aPr) hp
 have hgq:=getD_map (f:=aPr) hq
 have hgi:=getD_map (f:=aEv) hi
 have hgj:=getD_map (f:=aEv) hj
 have hep:=hs.evs _ (List.getElem_mem hp)
 have heq:=hs.evs _ (List.getElem_mem hq)
 have e1:aEid ((p:Int),(i:Int)+1) = .agg [ai p,ai ((i:Int)+1)]:=rfl
 have e2:aEid ((q:Int),(j:Int)+1) = .agg [ai q,ai ((j:Int)+1)]:=rfl
 have x1:((i:Int)+1 - 1).toNat=i:=by omega
 have x2:((j:Int)+1 - 1).toNat=j:=by omega
 have x3:((p:Int)=q)↔p=q:=by omega
 have x4:((j:Int)+1=(i:Int)+1+1)↔j=i+1:=by omega
 rw[e1,e2]
 by_cases e:p=q
 ·rw[if_pos e] at hiff
  have hd:decide (((p:Int),(i:Int)+1) ∈ dirE ps q j)=decide (j=i+1):=decide_eq_decide.2 hiff
  rw[hd]
  have x3':(p:Int)=q:=by omega
  refine PE 59 [.tmp 6] [3,4,5,7,8] func129 ?_;simp only[go_sem]
  refine W2 x3' x4 ?_
  exact Rz
 ·rw[if_neg e] at hiff
  have hd:decide (((p:Int),(i:Int)+1) ∈ dirE ps q j)=(decide (ps[p].evs[i].kind=2) && decide (ps[q].evs[j].kind=3) && decide (ps[p].evs[i].msg=ps[q].evs[j].msg)):=by
   rw[<- Bool.decide_and,<- Bool.decide_and]
   exact decide_eq_decide.2 (hiff.trans (and_assoc).symm)
  rw[hd]
  have x3':¬(p:Int)=q:=by omega
  generalize ps[p].evs[i]=ea at *
  generalize ps[q].evs[j]=eb at *
  refine PE 59 [.tmp 6] [3,4,5,7,8] func129 ?_;simp only[go_sem]
  refine W1 x3' ?_
  refine AWp.cut [7,8] (fun vs L=>L=[]/\vs=[.rp 5 [aEv ea] 0 0,.rp 5 [aEv eb] 0 0]) ?_ ?_
  ·refine Sq ?_
   refine AWp.mix mixed [0,1,2,3,4,5,6,7,8,9,10,11,12,13,14,15,16,17,18,19,20,21,22,23] (.step 24 (.step 25 (.step 26 (.step 27 .done .done) .done) .done) (.step 25 (.step 24 (.step 26 (.step 27 .done .done) .done) .done) .done)) (by kernel_rfl) ?_;simp only[go_sem,hgp,hgq,hgi,hgj,x1,x2]
   refine Sd ?_
   repeat' (first|(with_reducible refine And.intro ?_ ?_)|intro _)
   all_goals first|omega|exact⟨_,.refl _,rfl⟩|skip
   all_goals rename_i b b1 g1
   all_goals have n1:¬b=b1:=by omega
   all_goals have n2:¬b1=b:=by omega
   all_goals simp only[go_sem,n1,n2,hgp,hgq,hgi,hgj,x1,x2]
   all_goals refine Sd ?_
   all_goals first|exact⟨_,.refl _,rfl⟩|trace_state
  ·rintro vs L - ⟨rfl,rfl⟩
   simp only[go_sem]
   refine Wk ?_
   exact Rz
def evE (ps:List Pr)(k:Nat):Eid:=match (evIds ps)[k]? with|some x=>x.1|none=>(0,0)
theorem evE_at {ps:List Pr}{p i:Nat}(hp:p<ps.length)(hi:i<ps[p].evs.length):evE ps (off ps p+i)=((p:Int),(i:Int)+1):=by
 unfold evE
 rw[evIds_get hp hi]
theorem num_form {ps:List Pr} : ∀(n:Nat),n<=ps.length->∀ {k:Nat},k<off ps n->∃p i:Nat,∃hp:p<ps.length,i<ps[p].evs.length/\k=off ps p+i
 | 0,_,k,h=>by simp [off] at h
 | n+1,hn,k,h=>by
  rw[off_succ (show n<ps.length by omega)] at h
  by_cases e:k<off ps n
  ·exact num_form n (by omega) e
  ·exact⟨n,k - off ps n,by omega,by omega,by omega⟩
theorem famR_split {n p q:Nat}(hq:q<n)(hn:q ≠ p)(Ls:Nat->AHeap):∃X,(famR n p Ls).Perm (Ls q ++ X):=by
 refine⟨(((List.range n).erase p).erase q).flatMap Ls,?_⟩
 have hm:q ∈ (List.range n).erase p:=(List.mem_erase_of_ne hn).2 (List.mem_range.2 hq)
 have h:=List.Perm.flatMap_right Ls (List.perm_cons_erase hm)
 rwa [List.flatMap_cons] at h
section
variable {tO tI:TypeId} {k n:Nat} {Y:Nat->List AV} {v:AV} {L:AHeap}
theorem FamS.one (h:FamS tO tI k n Y v L){p:Nat}(hp:p<n)(hY:Y p ≠ []) :
  ∃bo cap V bp cp X,v = .ls bo 1 0 n cap/\V.length=n/\V.getD p .any = .ls bp k 0 (Y p).length cp/\L.Perm ((bo,.row tO 1 V cap) :: (bp,.row tI k (Y p) cp) :: X) /\
   ∀(Y':Nat->List AV) (L':AHeap),(∀q,q ≠ p->Y' q=Y q)->(Y' p).length=(Y p).length->L'.Perm ((bo,.row tO 1 V cap) :: (bp,.row tI k (Y' p) cp) :: X)->FamS tO tI k n Y' v L':=by
 obtain⟨bo,cap,V,Ls,h1,h2,h3,h4⟩:=h.open hp
 rcases h3.inv with ⟨e1,_,_⟩|⟨bp,cp,e2,e3⟩
 ·exact absurd e1 hY
 ·refine⟨bo,cap,(List.range n).map V,bp,cp,famR n p Ls,h1,by simp,by rw[map_range_getD hp,e2],by rw[e3] at h2;exact h2,fun Y' L' hq hl hL=>?_⟩
  refine h4 Y' (V p) [(bp,.row tI k (Y' p) cp)] L' hq ?_ ?_
  ·rw[e2,<- hl];exact .row _ _ _
  ·have:((List.range n).map V).set p (V p)=(List.range n).map V:=by
    rw[map_range_set]
    exact List.map_congr_left fun q _=>by split <;> simp_all
   rw[this];exact hL
theorem FamS.two (h:FamS tO tI k n Y v L){p q:Nat}(hp:p<n)(hq:q<n)(hn:q ≠ p)(hY:Y p ≠ [])(hYq:Y q ≠ []) :
  ∃bo cap V bp cp bq cq X,v = .ls bo 1 0 n cap/\V.length=n/\V.getD p .any = .ls bp k 0 (Y p).length cp/\V.getD q .any = .ls bq k 0 (Y q).length cq/\L.Perm ((bo,.row tO 1 V cap) :: (bp,.row tI k (Y p) cp) :: (bq,.row tI k (Y q) cq) :: X) /\
   ∀(Y':Nat->List AV) (L':AHeap),(∀q,q ≠ p->Y' q=Y q)->(Y' p).length=(Y p).length->L'.Perm ((bo,.row tO 1 V cap) :: (bp,.row tI k (Y' p) cp) :: (bq,.row tI k (Y q) cq) :: X)->FamS tO tI k n Y' v L':=by
 obtain⟨Lv,V,Ls,h1,h2,h3⟩:=h
 rcases h2.inv with ⟨e1,_,_⟩|⟨bo,cap,e2,e3⟩
 ·have h0:n=0:=by have:=congrArg List.length e1;simpa using this
  omega
 have hlen:((List.range n).map V).length=n:=by simp
 rw[hlen] at e2
 subst e3
 rcases (h3 p hp).inv with ⟨e1,_,_⟩|⟨bp,cp,e4,e5⟩
 ·exact absurd e1 hY
 rcases (h3 q hq).inv with ⟨e1,_,_⟩|⟨bq,cq,e6,e7⟩
 ·exact absurd e1 hYq
 obtain⟨X,hX⟩:=famR_split hq hn Ls
 have hfs:=fam_split hp Ls
 rw[e5] at hfs
 rw[e7] at hX
 refine⟨bo,cap,(List.range n).map V,bp,cp,bq,cq,X,e2,by simp,by rw[map_range_getD hp,e4],by rw[map_range_getD hq,e6],?_,fun Y' L' hY' hl hL=>?_⟩
 ·exact h1.trans (List.Perm.cons _ (hfs.trans (List.Perm.cons _ hX)))
 ·refine⟨[(bo,.row tO 1 ((List.range n).map V) cap)],V,fun r=>if r=p then [(bp,.row tI k (Y' p) cp)] else Ls r,?_,?_,fun r hr=>?_⟩
  ·refine hL.trans (List.Perm.cons _ ?_)
   have hsp:=fam_split hp (fun r=>if r=p then [(bp,ABlk.row tI k (Y' p) cp)] else Ls r)
   rw[if_pos rfl,famR_congr (Ls:=Ls) (fun q hq=>if_neg hq)] at hsp
   exact((List.Perm.cons _ hX.symm).trans hsp.symm)
  ·have:=AppSt.row (t:=tO) (k:=1) bo ((List.range n).map V) cap
   rw[hlen] at this
   rw[e2];exact this
  ·by_cases e:r=p
   ·subst e;dsimp only;rw[if_pos rfl,e4,<- hl];exact .row _ _ _
   ·dsimp only;rw[if_neg e,hY' r e];exact h3 r hr
end
def bRow (n:Nat)(f:Nat->Bool):List AV:=(List.range n).map fun j=>ab (f j)
theorem bRow_len {n:Nat}{f:Nat->Bool} : (bRow n f).length=n:=by simp [bRow]
theorem bRow_ne {n i:Nat}{f:Nat->Bool}(h:i<n):bRow n f ≠ []:=fun e=>by
 have:=congrArg List.length e
 rw[bRow_len] at this
 simp at this;omega
theorem bRow_get {n j:Nat}{f:Nat->Bool}(h:j<n):(bRow n f).getD j .any=ab (f j):=map_range_getD h _
theorem bRow_congr {n:Nat}{f g:Nat->Bool}(h:∀j,j<n->f j=g j):bRow n f=bRow n g:=List.map_congr_left fun j hj=>by rw[h j (List.mem_range.1 hj)]
theorem bRow_set {n j:Nat}{f g:Nat->Bool}(h:∀i,i ≠ j->g i=f i):bRow n g=(bRow n f).set j (ab (g j)):=by
 unfold bRow
 rw[map_range_set]
 refine List.map_congr_left fun i _=>?_
 by_cases e:i=j
 ·rw[if_pos e,e]
 ·rw[if_neg e,h i e]
theorem bRow_fill {n:Nat} : bRow n (fun _=>false)=List.replicate n (ab false):=by
 unfold bRow
 rw[List.eq_replicate_iff]
 refine⟨by simp,fun b hb=>?_⟩
 obtain⟨k,_,rfl⟩:=List.mem_map.1 hb
 rfl
def mid (k i j:Nat)(f:Nat->Nat->Bool):Nat->Nat->Bool:=fun x y=>if x<i\/(x=i/\y<j) then wstep k f x y else f x y
theorem mid_zero {k:Nat}{f:Nat->Nat->Bool} : mid k 0 0 f=f:=by
 funext x y
 unfold mid
 rw[if_neg (by omega)]
theorem mid_next {k i:Nat}{n:Nat}{f:Nat->Nat->Bool}{x y:Nat}(hy:y<n):mid k i n f x y=mid k (i+1) 0 f x y:=by
 unfold mid
 by_cases h:x<i\/(x=i/\y<n)
 ·rw[if_pos h,if_pos (by omega)]
 ·rw[if_neg h,if_neg (by omega)]
theorem mid_full {k n:Nat}{f:Nat->Nat->Bool}{x y:Nat}(hx:x<n):mid k n 0 f x y=wstep k f x y:=by
 unfold mid
 rw[if_pos (by omega)]
theorem mid_row {k i j x:Nat}{f:Nat->Nat->Bool}(h:x ≠ i):mid k i (j+1) f x=mid k i j f x:=by
 funext y
 unfold mid
 by_cases e:x<i
 ·rw[if_pos (.inl e),if_pos (.inl e)]
 ·rw[if_neg (by omega),if_neg (by omega)]
theorem mid_oth {k i j y:Nat}{f:Nat->Nat->Bool}(h:y ≠ j):mid k i (j+1) f i y=mid k i j f i y:=by
 unfold mid
 by_cases e:y<j
 ·rw[if_pos (by omega),if_pos (by omega)]
 ·rw[if_neg (by omega),if_neg (by omega)]
theorem mid_at {k i j:Nat}{f:Nat->Nat->Bool} : mid k i (j+1) f i j=(mid k i j f i j || (mid k i j f i k && mid k i j f k j)):=by
 have h1:mid k i (j+1) f i j=wstep k f i j:=by unfold mid;rw[if_pos (by omega)]
 have h2:mid k i j f i j=f i j:=by unfold mid;rw[if_neg (by omega)]
 have h3:mid k i j f i k=f i k:=by unfold mid;split;exact wstep_col k f i;rfl
 have h4:mid k i j f k j=f k j:=by unfold mid;split;exact wstep_row k f j;rfl
 rw[h1,h2,h3,h4];rfl
end Go.AL
end
section
namespace Go.AL
open Go Go.RowKit Proofs.Tryz
def mixW (ops:Array Oper)(qs:List Nat):Bool :=
 ascend qs && qs.all (fun q=>decide (q<ops.size)) &&
 (List.range ops.size).all fun i=>match ops[i]? with
  | some o=>(predsOf o).all (fun p=>decide (p<i)) &&
    qs.all (fun q=>match dstOf ops q with
     | some d=>(!(o.looksAt ops).contains d || (predsOf o).contains q) && (i == q || !(o.dst == some d))
     | none=>true)
  | none=>true
section
variable {C:Cfg} {ops:Array Oper} {L:AHeap}
theorem mixW_at {qs:List Nat}(h:mixW ops qs=true){i:Nat}{o:Oper}(hi:ops[i]?=some o) :
  (∀p ∈ predsOf o,p<i)/\(∀q ∈ qs,∀d,dstOf ops q=some d->(d ∈ o.looksAt ops->q ∈ predsOf o)/\(i ≠ q->o.dst ≠ some d)):=by
 unfold mixW at h
 simp only[Bool.and_eq_true,List.all_eq_true] at h
 have hlt:i<ops.size:=(Array.getElem?_eq_some_iff.1 hi).1
 have h3:=h.2 i (List.mem_range.2 hlt)
 rw[hi] at h3
 simp only[Bool.and_eq_true,List.all_eq_true,decide_eq_true_eq] at h3
 refine⟨h3.1,fun q hq d hd=>?_⟩
 have:=h3.2 q hq
 rw[hd] at this
 simp only[Bool.and_eq_true,Bool.or_eq_true,Bool.not_eq_true',List.contains_eq_mem,decide_eq_true_eq,decide_eq_false_iff_not,beq_iff_eq,beq_eq_false_iff_ne,ne_eq] at this
 exact⟨fun hm=>this.1.resolve_left (fun hn=>hn hm),fun hne=>this.2.resolve_left hne⟩
theorem mixW_asc {qs:List Nat}(h:mixW ops qs=true):ascend qs=true/\∀q ∈ qs,q<ops.size:=by
 unfold mixW at h
 simp only[Bool.and_eq_true,List.all_eq_true,decide_eq_true_eq] at h
 exact h.1
theorem aqWRun_facts {qs0:List Nat}(hm:mixW ops qs0=true)(hok:ops.toList.all (operOk C.N)=true):∀(qs:List Nat) (ρ:Env) (K:Env->Prop),(∀q ∈ qs,q ∈ qs0)->ascend qs=true->aqLRun C ops.toList L qs K ρ ->
  ∃ρq,K ρq/\(∀q ∈ qs,QFactL C ops ρq L q)/\∀s,(∀q ∈ qs,dstOf ops q ≠ some s)->get ρq s=get ρ s
 | [],ρ,K,_,_,h=>⟨ρ,h,fun q hq=>(by cases hq),fun _ _=>rfl⟩
 | i :: r,ρ,K,hsub,hasc,h=>by
  obtain⟨hlt,hasc'⟩:=ascend_cons hasc
  simp only[aqLRun] at h
  cases ho:ops.toList[i]? with
  | none=>rw[ho] at h;exact h.elim
  | some o =>
   rw[ho] at h
   have ho':ops[i]?=some o:=by simpa using ho
   obtain⟨x,hy,hK⟩:=aqL_yields ho' (List.all_eq_true.1 hok o (List.mem_of_getElem? ho)) h
   obtain⟨ρq,h1,h2,h3⟩:=aqWRun_facts hm hok r _ K (fun q hq=>hsub q (List.mem_cons_of_mem _ hq)) hasc' hK
   obtain⟨p1,p2⟩:=mixW_at hm ho'
   have hself:∀d,o.dst=some d->d ∉ o.looksAt ops:=fun d hd hm'=>by
    have:=(p2 i (hsub i List.mem_cons_self) d (by simp [dstOf,ho',hd])).1 hm'
    exact absurd (p1 i this) (Nat.lt_irrefl i)
   refine⟨ρq,h1,fun q hq=>?_,fun s hs=>?_⟩
   ·rcases List.mem_cons.1 hq with rfl|hq
    ·refine⟨o,x,ho',hy.of_agree fun t ht=>?_,fun d hd=>?_⟩
     ·rw[h3 t fun q' hq' he=>?_,get_put,if_neg fun he=>hself t he ht]
      have:=(p2 q' (hsub q' (List.mem_cons_of_mem _ hq')) t he).1 ht
      have:=p1 q' this;have:=hlt q' hq';omega
     ·rw[h3 d fun q' hq' he=>?_,get_put,if_pos hd]
      exact(p2 q' (hsub q' (List.mem_cons_of_mem _ hq')) d he).2 (by have:=hlt q' hq';omega) hd
    ·exact h2 q hq
   ·rw[h3 s fun q hq=>hs q (List.mem_cons_of_mem _ hq),get_put,if_neg]
    have:=hs i List.mem_cons_self
    simpa [dstOf,ho'] using this
end
def tailOk (ops:Array Oper)(qs:List Nat)(z:Nat):Bool :=
 mixW ops qs && !(qs.contains z) && ((List.range ops.size).all fun i=>qs.contains i || i == z) &&
 (match ops[z]? with|some o=>o.guard.isNone && qs.all (fun q=>(predsOf o).contains q)|none=>false)
section
variable {C:Cfg} {ops:Array Oper} {L:AHeap}
theorem rdw_sound {qs:List Nat}{z:Nat}{oz:Oper}(hm:mixW ops qs=true)(hall:∀i,i<ops.size->i ∈ qs\/i=z)(hz:z ∉ qs)(hoz:ops[z]?=some oz)(hpz:∀q ∈ qs,q ∈ predsOf oz)
  {K:ARes} {n:Nat} {w0:World} {M A0:Foot} {Q:Exit->Act->World->Prop} (hQ:∀a w,post w0 M A0 C.N K a w->Q .normal a w) {ρT:Env} (hK:GOp C ops z ρT L K) :
  ∀(f:Nat) (listed:Array Bool) (a:Act) (w:World),listed.size=ops.size->listed.getD z true=false ->
   (∀l:List Nat,l.Nodup->(∀i ∈ l,listed.getD i true=false)->l.length<=f) ->
   (∀q ∈ qs,listed.getD q true=false->QFactL C ops ρT L q)->St w0 M A0 C.N (mask ops qs listed ρT) L a w ->
   wpAnyIn (Fw C.r) n C.P .any ops Q f listed a w:=by
 have allOf:∀listed:Array Bool,listed.size=ops.size->Region.ready .any ops listed=[]->∀i,listed.getD i true=true:=by
  intro listed hsz hr i
  induction i using Nat.strongRecOn with
  | _ i ih =>
   cases hi:listed.getD i true with
   | true=>rfl
   | false =>
    exfalso
    have hlt:i<ops.size:=by
     rw[<- hsz]
     by_cases h:i<listed.size
     ·exact h
     ·simp [Array.getD,h] at hi
    have ho:ops[i]?=some ops[i]:=Array.getElem?_eq_getElem hlt
    have:i ∈ Region.ready .any ops listed:=mem_ready.2 ⟨hi,_,ho,fun e he hb=>by
     have hp:=(mixW_at hm ho).1 e.on (List.mem_map.2 ⟨e,List.mem_filter.2 ⟨by simpa using he,hb⟩,rfl⟩)
     exact getD_ft (by omega) (ih _ hp)⟩
    rw[hr] at this;cases this
 intro f
 induction f with
 | zero =>
  intro listed a w hsz hlz hcnt hfact hs
  exfalso
  have:=hcnt [z] (by simp) (fun i hi=>by simp at hi;subst hi;exact hlz)
  simp at this
 | succ f ih =>
  intro listed a w hsz hlz hcnt hfact hs
  refine⟨fun hr=>(by have:=allOf listed hsz hr z;rw[hlz] at this;cases this),fun i hi=>?_⟩
  obtain⟨hun,o,ho,hpre⟩:=mem_ready.1 hi
  have hlt:i<ops.size:=(Array.getElem?_eq_some_iff.1 ho).1
  by_cases ez:i=z
  ·subst ez
   rw[ho] at hoz;cases hoz
   have hql:∀q ∈ qs,listed.getD q true=true:=fun q hq=>by
    obtain⟨e,he,rfl⟩:=List.mem_map.1 (hpz q hq)
    obtain⟨he1,he2⟩:=List.mem_filter.1 he
    exact getD_tf (hpre e (by simpa using he1) he2)
   have hs':St w0 M A0 C.N ρT L a w:=st_forget hs fun s=>.inr (mask_out fun q hq hl _=>by rw[hql q hq] at hl;cases hl).symm
   refine wpOpIn_mono ?_ (hK n w0 M A0 a w Q hs')
   intro a' w' hp
   have hready:Region.ready .any ops (listed.setIfInBounds i true)=[]:=by
    cases hh:Region.ready .any ops (listed.setIfInBounds i true) with
    | nil=>rfl
    | cons j r =>
     exfalso
     have hj:j ∈ Region.ready .any ops (listed.setIfInBounds i true):=by rw[hh];exact List.mem_cons_self
     obtain⟨h1,oj,hoj,_⟩:=mem_ready.1 hj
     have hjlt:j<ops.size:=(Array.getElem?_eq_some_iff.1 hoj).1
     by_cases e:j=i
     ·subst e
      simp [Array.getD,show j<listed.size by omega] at h1
     ·rw[getD_set_ne true (Ne.symm e)] at h1
      rw[hql j ((hall j hjlt).resolve_right e)] at h1;cases h1
   cases f with
   | zero=>exact⟨hready,hQ _ _ hp⟩
   | succ f=>exact⟨fun _=>hQ _ _ hp,fun j hj=>by rw[hready] at hj;cases hj⟩
  ·have hq:=(hall i hlt).resolve_right ez
   obtain⟨m1,m2⟩:=mixW_at hm ho
   have hlooks:∀t ∈ o.looksAt ops,get (mask ops qs listed ρT) t=get ρT t:=fun t ht=>mask_out fun q hq hl hd=>by
    have hp:=(m2 q hq t hd).1 ht
    obtain⟨e,he,rfl⟩:=List.mem_map.1 hp
    obtain⟨he1,he2⟩:=List.mem_filter.1 he
    have:=getD_tf (hpre e (by simpa using he1) he2)
    rw[hl] at this;cases this
   have hcnt':∀l:List Nat,l.Nodup->(∀j ∈ l,(listed.setIfInBounds i true).getD j true=false)->l.length<=f:=fun l hn hl=>by
    have hil:i ∉ l:=fun h=>by
     have:=hl i h
     simp [Array.getD,show i<listed.size by omega] at this
    have:=hcnt (i :: l) (List.nodup_cons.2 ⟨hil,hn⟩) (fun j hj=>by
     rcases List.mem_cons.1 hj with rfl|hj
     ·exact hun
     ·have:=hl j hj
      have hne:i ≠ j:=fun e=>hil (e ▸ hj)
      rwa [getD_set_ne true hne] at this)
    simp at this;omega
   have hset:∀j,j ≠ i->(listed.setIfInBounds i true).getD j true=listed.getD j true:=fun j hj=>getD_set_ne true (Ne.symm hj)
   obtain⟨o',x,ho',hy,hgx⟩:=hfact i hq hun
   rw[ho] at ho';cases ho'
   refine wpOpIn_mono ?_ (hy _ hlooks n w0 M A0 a w Q hs)
   rintro a' w' ⟨ρ2,L2,⟨rfl,rfl⟩,hs2⟩
   refine ih _ a' w' (by simpa using hsz) (by rw[hset z (Ne.symm ez)];exact hlz) hcnt' (fun q hq' hl=>hfact q hq' (by
    by_cases e:q=i
    ·subst e;exact hun
    ·rwa [hset q e] at hl)) (st_forget hs2 fun s=>?_)
   rcases mask_or (ops:=ops) qs (listed.setIfInBounds i true) ρT s with ⟨h1,_⟩|⟨h1,h2⟩
   ·exact .inl h1
   ·refine .inr ?_
    rw[h1,get_put]
    by_cases hd:o.dst=some s
    ·rw[if_pos hd];exact hgx s hd
    ·rw[if_neg hd,mask_out fun q hq' hl hds=>?_]
     by_cases e:q=i
     ·subst e;exact hd (by simpa [dstOf,ho] using hds)
     ·exact h2 q hq' (by rw[hset q e];exact hl) hds
end
def rdwK (C:Cfg)(all:List Oper)(z:Nat)(K:ARes)(L:AHeap)(ρ:Env):Prop:=match all[z]? with|some o=>aopX C o ρ L K|none=>False
theorem AWp.readW {C:Cfg}{id:Nat}{ops:Array Oper}{Q:AQ}{ρ:Env}{L:AHeap}(hmx:C.P.follows .mixedOrders=true)(qs:List Nat)(z:Nat)(hT:tailOk ops qs z=true)(h:aqLRun C ops.toList L qs (rdwK C ops.toList z (Q .normal) L) ρ) :
  AWp C (.region id ops true) Q ρ L:=fun hok n w0 M A0 a w hs=>by
 simp only[tailOk,Bool.and_eq_true,List.all_eq_true,Bool.not_eq_true',Bool.or_eq_true,beq_iff_eq,List.contains_eq_mem,decide_eq_true_eq,decide_eq_false_iff_not] at hT
 obtain⟨⟨⟨hm,hz⟩,hal⟩,hzo⟩:=hT
 have hasc:=mixW_asc hm
 obtain⟨ρq,hK,hF,hother⟩  :=aqWRun_facts hm hok qs ρ _ (fun _ h=>h) hasc.1 h
 refine wpIn_region_any hmx ?_
 obtain⟨A,ds,hs'⟩:=st_iff.1 hs
 cases hoz:ops[z]? with
 | none=>rw[hoz] at hzo;cases hzo
 | some oz =>
  rw[hoz] at hzo
  simp only[Bool.and_eq_true,List.all_eq_true,List.contains_eq_mem,decide_eq_true_eq,Option.isNone_iff_eq_none] at hzo
  have hzl:ops.toList[z]?=some oz:=by simpa using hoz
  unfold rdwK at hK
  rw[hzl] at hK
  have hoo:=List.all_eq_true.1 hok oz (List.mem_of_getElem? hzl)
  have hzlt:z<ops.size:=(Array.getElem?_eq_some_iff.1 hoz).1
  have hgo:GOp C ops z ρq L (Q .normal):=AOp.gop hoz hzo.1 (aop_sound (operOk_dst hoo) (operOk_def hoo) (aopX_aop hK))
  refine rdw_sound hm (fun i hi=>hal i (List.mem_range.2 hi)) hz hoz (fun q hq=>hzo.2 q hq) (K:=Q .normal) (fun a w ⟨ρ',L',h1,h2⟩=>⟨ρ',L',h1,h2⟩) hgo ops.size _ a _ (by simp) (by simp [Array.getD,hzlt]) ?_ (fun q hq _=>hF q hq) (st_forget (st_iff.2 ⟨A,ds,hs'.drew⟩) fun s=>?_)
  ·intro l hn hl
   have:=List.Nodup.length_le_of_subset hn (l₂:=List.range ops.size) (fun i hi=>by
    have:=hl i hi
    rw[List.mem_range]
    by_cases h:i<ops.size
    ·exact h
    ·simp [Array.getD,h] at this)
   simpa using this
  ·rcases mask_or (ops:=ops) qs (Array.replicate ops.size false) ρq s with ⟨h1,_⟩|⟨h1,h2⟩
   ·exact .inl h1
   ·refine .inr ?_
    rw[h1]
    exact hother s fun q hq hd=>h2 q hq (by simp [Array.getD,hasc.2 q hq]) hd
attribute [go_sem] rdwK
end Go.AL
end
