/- Texts of this claim's proof: WY7, WQc, WQf, WQg, WQh, WQi, WQj, WQk, WQl, WQm, WMe, WQn, WU2, WNg, WNf, AlWrp, AlRng, WMf, WNd2, WNh, WNi, WNj. No condition. -/
import Derived.Test.YtbegiibjiidkmaaGreatDoorM10
import Derived.Test.YtbegiibjiidkmaaGreatDoorM6
import Derived.Test.YtbegiibjiidkmaaGreatDoorM9
import Derived.Test.YtbegiibjiidkmaaGreatDoorM4
import Derived.Test.YtbegiibjiidkmaaGreatDoorM3
section
namespace Go.AL
open Go Go.RowKit Proofs.Tryz
set_option maxRecDepth 4000
def FamS (tO tI:TypeId)(k n:Nat)(Y:Nat->List AV)(v:AV)(L:AHeap):Prop :=
 ∃Lv V Ls,L.Perm (Lv ++ famL n Ls)/\AppSt tO 1 ((List.range n).map V) v Lv/\∀q,q<n->AppSt tI k (Y q) (V q) (Ls q)
section
variable {tO tI:TypeId} {k n:Nat} {Y:Nat->List AV} {v:AV} {L:AHeap}
theorem FamS.nil (Y:Nat->List AV):FamS tO tI k 0 Y anil []:=⟨[],fun _=>anil,fun _=>[],by simp [famL],.nil,fun q h=>by omega⟩
theorem fam_more {n:Nat}{Ls:Nat->AHeap}(Lx:AHeap):(famL (n+1) (fun q=>if q=n then Lx else Ls q)).Perm (Lx ++ famL n Ls):=by
 unfold famL
 rw[List.range_succ,List.flatMap_append]
 have e:(List.range n).flatMap (fun q=>if q=n then Lx else Ls q)=(List.range n).flatMap Ls:=flatMap_ext fun q hq=>if_neg (by have:=List.mem_range.1 hq;omega)
 rw[e]
 simp only[List.flatMap_cons,List.flatMap_nil,if_true,List.append_nil]
 exact List.perm_append_comm
theorem map_more {n:Nat}{V:Nat->AV}(x:AV):(List.range (n+1)).map (fun q=>if q=n then x else V q)=(List.range n).map V ++ [x]:=by
 rw[List.range_succ,List.map_append]
 congr 1
 ·exact List.map_congr_left fun q hq=>if_neg (by have:=List.mem_range.1 hq;omega)
 ·simp
theorem FamS.snoc {V:Nat->AV}{Ls:Nat->AHeap}{x v':AV}{Lx Lv' L':AHeap}(hF:∀q,q<n->AppSt tI k (Y q) (V q) (Ls q))(hx:AppSt tI k (Y n) x Lx)(hA:AppSt tO 1 ((List.range n).map V ++ [x]) v' Lv')(hp:L'.Perm (Lv' ++ (Lx ++ famL n Ls))):FamS tO tI k (n+1) Y v' L':=by
 refine⟨Lv',fun q=>if q=n then x else V q,fun q=>if q=n then Lx else Ls q,hp.trans (List.Perm.append_left _ (fam_more Lx).symm),?_,fun q hq=>?_⟩
 ·rw[map_more];exact hA
 ·by_cases e:q=n
  ·subst e;dsimp only;rw[if_pos rfl,if_pos rfl];exact hx
  ·dsimp only;rw[if_neg e,if_neg e];exact hF q (by omega)
theorem FamS.congr {Y':Nat->List AV}(h:FamS tO tI k n Y v L)(e:∀q,q<n->Y' q=Y q):FamS tO tI k n Y' v L:=by
 obtain⟨Lv,V,Ls,h1,h2,h3⟩:=h
 exact⟨Lv,V,Ls,h1,h2,fun q hq=>by rw[e q hq];exact h3 q hq⟩
theorem AWp.famView {C:Cfg}{c:Code}{Q:AQ}{ρ:Env}{j:Nat}(h:FamS tO tI k n Y v L)(hj:get ρ j=v)(hw:AWp C c Q ((j,.sl 1 ((List.range n).map fun q=>.sl k (Y q))) :: ρ) []):AWp C c Q ρ L:=by
 obtain⟨Lv,V,Ls,h1,h2,h3⟩:=h
 refine AWp.nodup fun hnd=>?_
 have hnd':((famL n Ls).map (·.1)).Nodup:=by
  have:=(h1.map (·.1)).nodup_iff.1 hnd
  rw[List.map_append,List.nodup_append] at this
  exact this.2.1
 rcases h2.inv with ⟨e1,e2,e3⟩|⟨bo,cap,e2,e3⟩
 ·have h0:n=0:=by have:=congrArg List.length e1;simpa using this
  subst h0
  subst e3
  refine AWp.viewP (Lf:=[]) (Lk:=[]) (L':=[]) (by simpa [famL] using h1) (LVw.refl _) [(j,_)] (fun q hq=>?_) hw
  simp only[List.mem_singleton] at hq
  subst hq
  rw[hj,e2]
  exact .nil 1
 ·subst e3
  have hp:L.Perm (famL n Ls ++ [(bo,.row tO 1 ((List.range n).map V) cap)]):=h1.trans List.perm_append_comm
  refine AWp.viewP hp (.row (fam_views hnd' h3) (LVw.none _)) [] (by simp) ?_
  refine AWp.viewP (Lf:=[(bo,.row tO 1 ((List.range n).map fun q=>.sl k (Y q)) cap)]) (Lk:=[]) (L':=[]) (.refl _) (LVw.refl _) [(j,_)] (fun q hq=>?_) hw
  simp only[List.mem_singleton] at hq
  subst hq
  show Vw _ (get ρ j) _
  rw[hj,e2]
  exact Vw.ofLs (t:=tO) (cap:=cap) (if_pos rfl) (by simp)
theorem FamS.open (h:FamS tO tI k n Y v L){p:Nat}(hp:p<n) :
  ∃bo cap V Ls,v = .ls bo 1 0 n cap/\L.Perm ((bo,.row tO 1 ((List.range n).map V) cap) :: (Ls p ++ famR n p Ls))/\AppSt tI k (Y p) (V p) (Ls p) /\
   ∀(Y':Nat->List AV) (x:AV) (Lp L':AHeap),(∀q,q ≠ p->Y' q=Y q)->AppSt tI k (Y' p) x Lp->L'.Perm ((bo,.row tO 1 (((List.range n).map V).set p x) cap) :: (Lp ++ famR n p Ls))->FamS tO tI k n Y' v L':=by
 obtain⟨Lv,V,Ls,h1,h2,h3⟩:=h
 rcases h2.inv with ⟨e1,_,_⟩|⟨bo,cap,e2,e3⟩
 ·have h0:n=0:=by have:=congrArg List.length e1;simpa using this
  omega
 ·have hlen:((List.range n).map V).length=n:=by simp
  rw[hlen] at e2
  subst e3
  refine⟨bo,cap,V,Ls,e2,h1.trans ((fam_split hp Ls).cons _),h3 p hp,fun Y' x Lp L' hY hx hL=>?_⟩
  refine⟨[(bo,.row tO 1 (((List.range n).map V).set p x) cap)],fun q=>if q=p then x else V q,fun q=>if q=p then Lp else Ls q,?_,?_,fun q hq=>?_⟩
  ·refine hL.trans (List.Perm.cons _ ?_)
   have hsp:=fam_split hp (fun q=>if q=p then Lp else Ls q)
   rw[if_pos rfl,famR_congr (Ls:=Ls) (fun q hq=>if_neg hq)] at hsp
   exact hsp.symm
  ·rw[<- map_range_set,e2]
   have:=AppSt.row (t:=tO) (k:=1) bo (((List.range n).map V).set p x) cap
   rwa [List.length_set,hlen] at this
  ·by_cases e:q=p
   ·subst e;dsimp only;rw[if_pos rfl,if_pos rfl];exact hx
   ·dsimp only;rw[if_neg e,if_neg e,hY q e];exact h3 q hq
end
theorem control_index (ps:List Pr)(hs:Sm ps)(p i:Nat)(hp:p<ps.length)(hi:i<nev ps p):PC prog 95 [aTr ps,aEid ((p:Int),(i:Int)+1)] (ai (off ps p+i:Nat)):=by
 have hps:=hs.procs
 have hn:=nev_get hp
 have hel:=hs.evs _ (List.getElem_mem hp)
 have e1:aEid ((p:Int),(i:Int)+1) = .agg [ai p,ai ((i:Int)+1)]:=rfl
 have e2:((p:Int)).toNat=p:=rfl
 have e3:(i:Int)+1 - 1=i:=by omega
 have e4:(ps.take p).length=p:=by rw[List.length_take];omega
 rw[e1]
 have hinit:[ai (i:Int)]=[ai ((off ps 0+i:Nat):Int)]:=by rw[show off ps 0+i=i by simp [off]]
 refine PE 28 [.tmp 4] [2,3,7] func95 ?_;simp only[go_sem]
 refine W2 e3 e4 ?_
 refine AWp.range' p [5] [15,16] (fun k vs L=>L=[]/\vs=[ai ((off ps k+i:Nat):Int)]) (by omega) rfl rfl rfl ⟨rfl,hinit⟩ ?_ ?_
 ·rintro k vs L hk - ⟨rfl,rfl⟩
  have hkp:k<ps.length:=by omega
  have hg:((ps.take p).map aPr).getD k .any=aPr ps[k]:=by
   rw[getD_map (by rw[e4];exact hk),List.getElem_take]
  have hof:=off_succ hkp
  have hos:=off_small hs k (by omega)
  have hek:=hs.evs _ (List.getElem_mem hkp)
  have hip:i<=1000000:=by omega
  simp only[go_sem]
  refine W2 hg e4 ?_
  intros
  refine W2 hg e4 ?_
  exact⟨_,.refl _,rfl,by rw[hof,show ((off ps k+ps[k].evs.length+i:Nat):Int)=((off ps k+i:Nat):Int)+(ps[k].evs.length:Int) by omega]⟩
 ·rintro vs L - ⟨rfl,rfl⟩
  simp only[go_sem]
  refine Wk ?_
  exact Rz
theorem control_before1 (f e:Ev):PC prog 142 [aEv f,.rp 5 [aEv e] 0 0] (ab (decide (f.kind=2) && decide (f.msg=e.msg))):=by
 refine PE 14 [.tmp 3] [2] func142 ?_;simp only[go_sem]
 refine Wk ?_
 exact Rz
theorem sender_index (ps:List Pr)(hs:Sm ps)(hv:validF ps=true)(p:Nat)(hp:p<ps.length)(i:Nat)(hi:i<ps[p].evs.length)(hk:ps[p].evs[i].kind=3) :
  ∃(q:Nat) (hq:q<ps.length) (j:Nat),ps[p].evs[i].peer=(q:Int)/\j<ps[q].evs.length/\sndr ps ps[p].evs[i].msg=((q:Int),(j:Int)+1) /\
   PC prog 59 [.sl 5 (ps[q].evs.map aEv),.clo 142 [.rp 5 [aEv ps[p].evs[i]] 0 0]] (ai j):=by
 have hm:=(valid_parts hv).2.2
 obtain⟨hq,j,hj,hsd,h1,h2⟩:=recv_peer hm hp hi hk
 have hpr:0<=ps[p].evs[i].peer:=by
  have:=(evF_parts hp hi).1 (evF_of_valid hv hp hi)
  exact(formed_msg this.1 (.inr hk)).2.2.1
 have hix:ps[ps[p].evs[i].peer.toNat].evs.findIdx? (fun f=>decide (f.kind=2) && decide (f.msg=ps[p].evs[i].msg))=some j:=by
  rw[List.findIdx?_eq_some_iff_getElem]
  refine⟨hj,by rw[h1,h2];simp,fun k hkj h=>?_⟩
  simp only[Bool.and_eq_true,decide_eq_true_eq] at h
  have g1:=valid_unique hv hq hj h1
  have g2:=valid_unique hv hq (i:=k) (by omega) h.1
  rw[h2] at g1
  rw[h.2,g1] at g2
  have:=(Prod.mk.inj g2).2
  omega
 have hel:=hs.evs _ (List.getElem_mem hq)
 have hir:=events_indexFunc ps[ps[p].evs[i].peer.toNat].evs hel (.clo 142 [.rp 5 [aEv ps[p].evs[i]] 0 0]) rfl _ fun f _=>(control_before1 f ps[p].evs[i]).clo
 rw[hix] at hir
 exact⟨_,hq,j,by omega,hj,hsd,hir⟩
theorem nd1 {b:Nat}{x:ABlk}{r:AHeap}(h:(((b,x) :: r:AHeap).map (·.1)).Nodup):∀z ∈ r,¬b=z.1/\¬z.1=b:=by
 simp only[List.map_cons,List.nodup_cons,List.mem_map,not_exists,not_and] at h
 exact fun z hz=>⟨fun e=>h.1 z hz e.symm,h.1 z hz⟩
def dirK (ps:List Pr)(l:List Syn)(q:Nat):List Eid:=match (evIds ps)[q]? with|some x=>dirX ps l x.1.1.toNat (x.1.2.toNat - 1)|none=>[]
theorem dirK_at {ps:List Pr}{l:List Syn}{p i:Nat}(hp:p<ps.length)(hi:i<ps[p].evs.length):dirK ps l (off ps p+i)=dirX ps l p i:=by
 unfold dirK
 rw[evIds_get hp hi]
 show dirX ps l ((p:Int)).toNat (((i:Int)+1).toNat - 1)=_
 rw[Int.toNat_natCast,show ((i:Int)+1).toNat - 1=i by omega]
theorem dirX_nil {ps:List Pr}{p i:Nat} : dirX ps [] p i=dirE ps p i:=by unfold dirX;simp
theorem dirX_snoc {ps:List Pr}{l:List Syn}{s:Syn}{p i:Nat} : dirX ps (l ++ [s]) p i=dirX ps l p i ++ if s.2=((p:Int),(i:Int)+1) then [s.1] else []:=by
 unfold dirX
 rw[List.filter_append,List.map_append,<- List.append_assoc]
 congr 1
 by_cases h:s.2=((p:Int),(i:Int)+1)
 ·rw[if_pos h,List.filter_cons_of_pos (by simp [h])];rfl
 ·rw[if_neg h,List.filter_cons_of_neg (by simp [h])];rfl
theorem dirK_snoc {ps:List Pr}{l:List Syn}{s:Syn}{p i:Nat}(hp:p<ps.length)(hi:i<ps[p].evs.length)(hs:s.2=((p:Int),(i:Int)+1))(q:Nat):dirK ps (l ++ [s]) q=dirK ps l q ++ if q=off ps p+i then [s.1] else []:=by
 by_cases e:q=off ps p+i
 ·subst e
  rw[if_pos rfl,dirK_at hp hi,dirK_at hp hi,dirX_snoc,if_pos hs]
 ·rw[if_neg e,List.append_nil]
  unfold dirK
  cases hx:(evIds ps)[q]? with
  | none=>rfl
  | some x =>
   obtain⟨p',hp',i',hi',h1,h2⟩:=evIds_inv hx
   subst h2
   have e1:(((p':Int),(i':Int)+1):Eid).1.toNat=p':=rfl
   have e2:(((p':Int),(i':Int)+1):Eid).2.toNat - 1=i':=by show ((i':Int)+1).toNat - 1=i';omega
   show dirX ps (l ++ [s]) (((p':Int),(i':Int)+1):Eid).1.toNat ((((p':Int),(i':Int)+1):Eid).2.toNat - 1)=dirX ps l _ _
   rw[e1,e2,dirX_snoc,if_neg,List.append_nil]
   intro h
   rw[hs,Prod.mk.injEq] at h
   have hpp:p=p':=by omega
   subst hpp
   have:i=i':=by omega
   subst this
   exact e h1
def aSyn (s:Syn):AV:=.agg [ai s.1.1,ai s.1.2,ai s.2.1,ai s.2.2]
abbrev dirY (ps:List Pr) (l:List Syn) (q:Nat):List AV:=(dirK ps l q).map aEid
def aDir (ps:List Pr)(l:List Syn):AV:=.sl 1 ((List.range (off ps ps.length)).map fun q=>.sl 2 (dirY ps l q))
set_option maxHeartbeats 2000000 in
theorem control_before (ps:List Pr)(hs:Sm ps)(hv:validF ps=true)(l:List Syn)(hl:SynOk ps l)(hll:l.length<=1000000):PC prog 94 [aTr ps,.sl 4 (l.map aSyn)] (aDir ps l):=by
 have hps:=hs.procs
 have hSL:∃SL,SL=l.map aSyn:=⟨_,rfl⟩
 obtain⟨SL,hSL⟩:=hSL
 rw[<- hSL]
 refine PE 88 [.tmp 4] [2,7,9,13,37,57,61,83] func94 ?_;simp only[go_sem]
 refine Wk ?_
 refine AWp.range' ps.length [5] [1,2,16,17] (fun p vs L=>∃v,vs=[v]/\FamS 102 53 2 (off ps p) (dirY ps []) v L) (by omega) rfl rfl rfl ⟨anil,rfl,.nil _⟩ ?_ ?_
 ·rintro p vs L hp - ⟨v,rfl,hF⟩
  have hg:=getD_map (f:=aPr) hp
  have hel:=hs.evs _ (List.getElem_mem hp)
  have hof:=off_succ hp
  have hnv:=nev_get hp
  obtain⟨Lv,V,Ls,hP,hA,hFr⟩:=id hF
  have hfo:=hA.fo
  clear hA hFr hP
  simp only[go_sem]
  refine W2 hg hfo ?_
  intros
  refine W2 hg hfo ?_
  refine AWp.range' ps[p].evs.length [5] [1,2,6,16,17,18,24,25] (fun i vs L=>∃v,vs=[v]/\FamS 102 53 2 (off ps p+i) (dirY ps []) v L) (by omega) rfl rfl rfl ⟨v,rfl,hF⟩ ?_ ?_
  ·rintro i vs L hi - ⟨v,rfl,hF⟩
   have hge:=getD_map (f:=aEv) hi
   obtain⟨Lv,V,Ls,hP,hA,hFr⟩:=hF
   have hfo:=hA.fo
   have hevq:=evq_get hp hi
   have hdk:dirY ps [] (off ps p+i)=(dirE ps p i).map aEid:=by show (dirK ps [] (off ps p+i)).map aEid=_;rw[dirK_at hp hi,dirX_nil]
   have hdE:dirE ps p i=(if 0<i then [((p:Int),(i:Int))] else []) ++ (if ps[p].evs[i].kind=3 then [sndr ps ps[p].evs[i].msg] else []):=by unfold dirE;rw[hevq]
   have hsi:=fun hk=>sender_index ps hs hv p hp i hi hk
   simp only[go_sem]
   refine Sd ?_
   refine AWp.of ?_;simp only[go_sem,hge,hfo]
   refine Sd ?_
   intro b9 g9
   refine Sd ?_
   refine AWp.of ?_;simp only[go_sem,hfo]
   refine AWp.cut [1,2,5,6,8,9,10,16,17,18,24,25,26] (fun vs L'=>∃x Lx,vs=[.sl 4 SL,.rp 1 [aTr ps] 0 0,v,ai p,ai i,.rp 5 [aEv ps[p].evs[i]] 0 0,x,.sl 3 (ps.map aPr),ai ps.length,ai p,.sl 5 (ps[p].evs.map aEv),ai ps[p].evs.length,ai i]/\L'=Lx ++ L /\
    AppSt 53 2 ((if 0<i then [((p:Int),(i:Int))] else []).map aEid) x Lx) ?_ ?_
   ·refine W1 hfo ?_
    constructor<;>intro h0
    ·refine W1 hfo ?_
     intro b' cap'
     intros
     have hi0:0<i:=by omega
     exact⟨_,.refl _,_,[_],rfl,rfl,by rw[if_pos hi0];exact .row _ _ _⟩
    ·have hi0:¬0<i:=by omega
     exact⟨_,.refl _,_,[],rfl,rfl,by rw[if_neg hi0];exact .nil⟩
   ·rintro vs L1 - ⟨x,Lx,rfl,rfl,hx⟩
    have hxo:=hx.fo
    simp only[go_sem,hxo,hfo]
    refine AWp.cut [1,2,5,6,8,9,10,16,17,18,24,25,26] (fun vs L'=>∃x Lx,vs=[.sl 4 SL,.rp 1 [aTr ps] 0 0,v,ai p,ai i,.rp 5 [aEv ps[p].evs[i]] 0 0,x,.sl 3 (ps.map aPr),ai ps.length,ai p,.sl 5 (ps[p].evs.map aEv),ai ps[p].evs.length,ai i]/\L'=Lx ++ L /\
     AppSt 53 2 ((dirE ps p i).map aEid) x Lx) ?_ ?_
    ·by_cases hk:ps[p].evs[i].kind=3
     ·obtain⟨q,hq,j,e1,e2,e3,h4⟩:=hsi hk
      have hgq:=getD_map (f:=aPr) hq
      have hev9:aEv ps[p].evs[i] = .agg [ai 3,ai q,ai ps[p].evs[i].msg,ai ps[p].evs[i].time,aAsgs ps[p].evs[i].asg]:=by unfold aEv;rw[hk,e1]
      rw[hev9] at h4
      rw[hdE,if_pos hk,e3,List.map_append]
      have hjb:=hs.evs _ (List.getElem_mem hq)
      have hif:(if 0<i then [((p:Int),(i:Int))] else []).length<=1:=by split <;> simp
      clear hsi hdE hdk
      generalize (if 0<i then [((p:Int),(i:Int))] else [])=pre at *
      rcases hx.inv with ⟨e4,rfl,rfl⟩|⟨bx,cx,rfl,rfl⟩
      ·refine W4 hk e1 hgq hfo ?_
       refine Sd ?_
       refine(h4).val.use ?_;simp only[go_sem,e1,hgq,hfo]
       refine W2 e1 hfo ?_
       intro b' cap'
       intros
       exact⟨_,.refl _,_,[_],rfl,rfl,by rw[e4];exact .row _ _ _⟩
      ·refine W4 hk e1 hgq hfo ?_
       refine Sd ?_
       refine(h4).val.use ?_;simp only[go_sem,e1,hgq,hfo]
       refine W2 e1 hfo ?_
       intro b' cap'
       intros
       exact⟨_,.refl _,_,[_],rfl,rfl,AppSt.snoc _ _ _ (by rw[List.length_map])⟩
     ·rw[hdE,if_neg hk,List.append_nil]
      refine W3 hk hxo hfo ?_
      exact⟨_,.refl _,_,Lx,rfl,rfl,hx⟩
    ·rintro vs L1 - ⟨x,Lx,rfl,rfl,hx⟩
     have hxo:=hx.fo
     simp only[go_sem,hxo,hfo]
     have hPP:(Lx ++ L).Perm (Lv ++ (Lx ++ famL (off ps p+i) Ls)):=(hP.append_left Lx).trans (by rw[<- List.append_assoc,<- List.append_assoc];exact List.perm_append_comm.append_right _)
     refine AWp.perm hPP ?_
     have hyl:((List.range (off ps p+i)).map V).length=off ps p+i:=by simp
     have hos:=off_small hs p (by omega)
     have hys:∃ys,ys=(List.range (off ps p+i)).map V:=⟨_,rfl⟩
     obtain⟨ys,hys⟩:=hys
     rw[<- hys] at hA hyl
     generalize (dirE ps p i).map aEid=row at *
     have hx':=hx
     rw[<- hdk] at hx'
     rcases hx.inv with ⟨e6,rfl,rfl⟩|⟨bx,cx,rfl,rfl⟩
     ·rcases hA.inv with ⟨e1,rfl,rfl⟩|⟨bo,cap,rfl,rfl⟩
      ·refine Wk ?_
       intro b' cap'
       intros
       refine Wk ?_
       exact⟨_,.refl _,_,rfl,FamS.snoc (n:=off ps p+i) hFr hx' (by rw[<- hys,e1];exact .row _ _ _) (.refl _)⟩
      ·refine Wk ?_
       refine Sd ?_
       intro b' cap'
       intros
       refine Wk ?_
       exact⟨_,.refl _,_,rfl,FamS.snoc (n:=off ps p+i) hFr hx' (by rw[<- hys];exact AppSt.snoc _ _ _ rfl) (.refl _)⟩
     ·rcases hA.inv with ⟨e1,rfl,rfl⟩|⟨bo,cap,rfl,rfl⟩
      ·refine Wk ?_
       intro b' cap'
       intros
       refine Wk ?_
       exact⟨_,.refl _,_,rfl,FamS.snoc (n:=off ps p+i) hFr hx' (by rw[<- hys,e1];exact .row _ _ _) (.refl _)⟩
      ·refine Wk ?_
       refine Sd ?_
       intro b' cap'
       intros
       refine Wk ?_
       exact⟨_,.refl _,_,rfl,FamS.snoc (n:=off ps p+i) hFr hx' (by rw[<- hys];exact AppSt.snoc _ _ _ rfl) (.refl _)⟩
  ·rintro vs L - ⟨v,rfl,hF⟩
   rw[<- hof] at hF
   obtain⟨Lv,V,Ls,hP,hA,hFr⟩:=id hF
   have hfo:=hA.fo
   simp only[go_sem,hfo]
   refine W1 hfo ?_
   exact⟨_,.refl _,_,rfl,hF⟩
 ·rintro vs L - ⟨v,rfl,hF⟩
  obtain⟨Lv,V,Ls,hP,hA,hFr⟩:=id hF
  have hfo:=hA.fo
  clear hP hA hFr
  have hSLl:SL.length=l.length:=by rw[hSL,List.length_map]
  simp only[go_sem,hfo]
  refine W2 hfo hSLl ?_
  refine AWp.range' l.length [] [2,5,65,66] (fun k vs L=>vs=[]/\FamS 102 53 2 (off ps ps.length) (dirY ps (l.take k)) v L) (by omega) rfl rfl rfl ⟨rfl,by rw[List.take_zero];exact hF⟩ ?_ ?_
  ·rintro k vs L hk - ⟨rfl,hF⟩
   have hgs:SL.getD k .any=aSyn l[k]:=by rw[hSL];exact getD_map hk
   obtain⟨-,t1,t2,t3,t4⟩:=hl l[k] (List.getElem_mem hk)
   have htk:l.take (k+1)=l.take k ++ [l[k]]:=List.take_succ_eq_append_getElem hk
   generalize l[k]=s at *
   obtain⟨⟨a,b⟩,tp,ti⟩:=s
   obtain⟨p,i,hp,hi,e⟩:∃p i:Nat,p<ps.length/\i<nev ps p/\((tp,ti):Eid)=((p:Int),(i:Int)+1):=by
    have t1:0<=tp:=t1
    have t2:tp<ps.length:=t2
    have t3:1<=ti:=t3
    have t4:ti<=nev ps tp.toNat:=t4
    exact⟨tp.toNat,ti.toNat - 1,by omega,by omega,by rw[Prod.mk.injEq];omega⟩
   have hix:=control_index ps hs p i hp hi
   rw[<- e] at hix
   have hoq:off ps p+i<off ps ps.length:=by
    have h1:=(List.getElem?_eq_some_iff.1 (evIds_get hp (by rw[<- nev_get hp];exact hi))).1
    rw[evIds_length] at h1;exact h1
   have hsn:=fun q=>dirK_snoc (ps:=ps) (l:=l.take k) (s:=((a,b),(tp,ti))) hp (by rw[<- nev_get hp];exact hi) e q
   rw[<- htk] at hsn
   have es:aSyn ((a,b),(tp,ti)) = .agg [ai a,ai b,ai tp,ai ti]:=rfl
   have ei:aEid (tp,ti) = .agg [ai tp,ai ti]:=rfl
   rw[es] at hgs
   rw[ei] at hix
   obtain⟨bo,cap,V,Ls,rfl,hP,hA,hcl⟩:=hF.open hoq
   refine AWp.perm hP (AWp.nodup fun hnd=>?_)
   have hnew:dirY ps (l.take (k+1)) (off ps p+i)=dirY ps (l.take k) (off ps p+i) ++ [.agg [ai a,ai b]]:=by
    show (dirK ps (l.take (k+1)) (off ps p+i)).map aEid=(dirK ps (l.take k) (off ps p+i)).map aEid ++ _
    rw[hsn,if_pos rfl,List.map_append];rfl
   have hold:∀q,q ≠ off ps p+i->dirY ps (l.take (k+1)) q=dirY ps (l.take k) q:=fun q hq=>by
    show (dirK ps (l.take (k+1)) q).map aEid=(dirK ps (l.take k) q).map aEid
    rw[hsn,if_neg hq,List.append_nil]
   have n3:=nd1 hnd
   have hlr:((List.range (off ps ps.length)).map V).length=off ps ps.length:=by simp
   have hos:=off_small hs ps.length (Nat.le_refl _)
   have hyl:(dirY ps (l.take k) (off ps p+i)).length<=1100000:=by
    have h1:(dirX ps (l.take k) p i).length<=2+l.length:=by
     unfold dirX dirE
     rw[List.length_append,List.length_append,List.length_map]
     have h2:=List.length_filter_le (fun s:Syn=>decide (s.2=((p:Int),(i:Int)+1))) (l.take k)
     rw[List.length_take] at h2
     split <;> split <;> simp only[List.length_cons,List.length_nil] <;> omega
    show ((dirK ps (l.take k) (off ps p+i)).map aEid).length<=_
    rw[List.length_map,dirK_at hp (by rw[<- nev_get hp];exact hi)];omega
   generalize dirY ps (l.take (k+1))=Y' at *
   generalize off ps p+i=z at *
   generalize dirY ps (l.take k)=Y at *
   rcases hA.inv with ⟨e1,e2,e3⟩|⟨bi,cp,e2,e3⟩
   ·have hgd:((List.range (off ps ps.length)).map V).getD z .any=anil:=by rw[map_range_getD hoq,e2]
    rw[e3]
    simp only[go_sem]
    refine W1 hgs ?_
    intros
    refine W1 hgs ?_
    refine Sd ?_
    refine(hix).val.use ?_;simp only[go_sem,hgs]
    refine Sq ?_
    refine AWp.mix mixed [0,1,2,3,4,6,7] (.step 5 (.step 8 (.step 9 (.step 10 (.step 11 .done .done) .done) .done) .done) (.step 8 (.step 5 (.step 9 (.step 10 (.step 11 .done .done) .done) .done) .done) .done)) (by kernel_rfl) ?_;simp only[go_sem,hgd,hlr]
    refine Sd ?_
    intro b' cap' g1 g2 g3
    have nb:¬bo=b':=by omega
    simp only[go_sem,nb,hgd,hlr]
    refine Sd ?_
    refine⟨_,.refl _,hcl Y' (.ls b' 2 0 1 cap') [(b',.row 53 2 [.agg [ai a,ai b]] cap')] _ hold (by rw[hnew,e1];exact .row _ [_] _) ?_⟩
    exact List.Perm.swap _ _ _
   ·have hgd:((List.range (off ps ps.length)).map V).getD z .any = .ls bi 2 0 (Y z).length cp:=by rw[map_range_getD hoq,e2]
    rw[e3] at n3 ⊢
    obtain⟨n4,n5⟩:=n3 (bi,_) (List.mem_append_left _ (List.mem_singleton_self _))
    simp only[go_sem]
    refine W1 hgs ?_
    intros
    refine W1 hgs ?_
    refine Sd ?_
    refine(hix).val.use ?_;simp only[go_sem,hgs]
    refine Sq ?_
    refine AWp.mix mixed [0,1,2,3,4,6,7] (.step 5 (.step 8 (.step 9 (.step 10 (.step 11 .done .done) .done) .done) .done) (.step 8 (.step 5 (.step 9 (.step 10 (.step 11 .done .done) .done) .done) .done) .done)) (by kernel_rfl) ?_;simp only[go_sem,hgd,hlr,n4,n5]
    refine Sd ?_
    intro b' cap' g1 g2 g3
    simp only[go_sem,g1,hgd,hlr]
    refine Sd ?_
    refine⟨_,.refl _,hcl Y' (.ls b' 2 0 ((Y z).length+1) cap') [(b',.row 53 2 (Y z ++ [.agg [ai a,ai b]]) cap')] _ hold (by rw[hnew];exact AppSt.snoc _ _ _ rfl) ?_⟩
    exact List.Perm.swap _ _ _
  ·rintro vs L - ⟨rfl,hF⟩
   rw[List.take_length] at hF
   refine AWp.famView (j:=5) hF rfl ?_
   simp only[go_sem]
   refine Wk ?_
   refine Rq ?_
   rfl
section
variable {ps:List Pr} (hv:validF ps=true) {l:List (List Int)} (hl:l=cutsF ps)
include hv hl
end
end Go.AL
end
section
namespace Go.AL
open Go Go.RowKit Proofs.Tryz
theorem fits_str (s:ByteArray):(KK.sc .str).fits (.string s)=true:=rfl
attribute [go_sem] fits_str
end Go.AL
end
section
namespace Go.AL
open Go Go.RowKit Proofs.Tryz
set_option maxRecDepth 4000
abbrev au64 (n:Int):AV:=.v (.int .u64 n)
def wordOf (f:Nat->Bool)(w:Nat):Nat->Nat
 | 0=>0
 | j+1=>if f j=true/\j / 64=w then wordOf f w j+2 ^ (j % 64) else wordOf f w j
theorem word_zero {f:Nat->Bool}{w:Nat} : ∀ {j:Nat},j<=64 * w->wordOf f w j=0
 | 0,_=>rfl
 | j+1,h=>by
  unfold wordOf
  rw[if_neg (by omega)]
  exact word_zero (by omega)
theorem word_lt {f:Nat->Bool} : ∀ {j:Nat},wordOf f (j / 64) j<2 ^ (j % 64)
 | 0=>by show (0:Nat)<2 ^ (0 % 64);decide
 | j+1=>by
  have ih:=word_lt (f:=f) (j:=j)
  by_cases h:(j+1) % 64=0
  ·rw[word_zero (by omega),h];decide
  ·have e1:(j+1) / 64=j / 64:=by omega
   have e2:(j+1) % 64=j % 64+1:=by omega
   rw[e1,e2,Nat.pow_succ]
   unfold wordOf
   split <;> omega
theorem word_big {f:Nat->Bool}{w:Nat} : ∀ {j:Nat},wordOf f w j<2 ^ 64
 | 0=>by show (0:Nat)<2 ^ 64;decide
 | j+1=>by
  have ih:=word_big (f:=f) (w:=w) (j:=j)
  unfold wordOf
  split
  ·rename_i h
   have h1:=word_lt (f:=f) (j:=j)
   rw[h.2] at h1
   have h2:2 ^ (j % 64+1)<=2 ^ 64:=Nat.pow_le_pow_right (by decide) (by omega)
   rw[Nat.pow_succ] at h2
   omega
  ·exact ih
theorem word_congr {f g:Nat->Bool}{w:Nat} : ∀ {j:Nat},(∀i,i<j->f i=g i)->wordOf f w j=wordOf g w j
 | 0,_=>rfl
 | j+1,h=>by
  unfold wordOf
  rw[h j (by omega),word_congr fun i hi=>h i (by omega)]
def nW (n:Nat):Nat:=(n+63) / 64
def wordsF (f:Nat->Bool)(n j:Nat):List Nat:=(List.range (nW n)).map fun w=>wordOf f w j
theorem words_len (f:Nat->Bool)(n j:Nat):(wordsF f n j).length=nW n:=by simp [wordsF]
theorem words_get {f:Nat->Bool}{n j i:Nat}(h:i<nW n):(wordsF f n j)[i]?=some (wordOf f i j):=by
 unfold wordsF;rw[List.getElem?_map,List.getElem?_range h];rfl
theorem words_zero (f:Nat->Bool)(n:Nat):wordsF f n 0=List.replicate (nW n) 0:=by
 apply List.ext_getElem?
 intro i
 by_cases h:i<nW n
 ·rw[words_get h,List.getElem?_replicate,if_pos h];rfl
 ·rw[List.getElem?_eq_none (by rw[words_len];omega),List.getElem?_eq_none (by rw[List.length_replicate];omega)]
theorem words_no {f:Nat->Bool}{n j:Nat}(h:f j=false):wordsF f n (j+1)=wordsF f n j:=by
 unfold wordsF
 refine List.map_congr_left fun w _=>?_
 conv=>lhs;unfold wordOf
 rw[if_neg (by rw[h];simp)]
theorem words_set {f:Nat->Bool}{n j:Nat}(h:f j=true):wordsF f n (j+1)=(wordsF f n j).set (j / 64) (wordOf f (j / 64) j+2 ^ (j % 64)):=by
 apply List.ext_getElem?
 intro i
 rw[List.getElem?_set]
 by_cases hi:i<nW n
 ·rw[words_get hi,words_len]
  conv=>lhs;unfold wordOf
  by_cases e:j / 64=i
  ·rw[if_pos ⟨h,e⟩,if_pos e,if_pos (by omega),e]
  ·rw[if_neg (fun g=>e g.2),if_neg e,words_get hi]
 ·rw[List.getElem?_eq_none (by rw[words_len];omega)]
  split
  ·rw[words_len,if_neg (by omega)]
  ·rw[List.getElem?_eq_none (by rw[words_len];omega)]
theorem words_congr {f g:Nat->Bool}{n j:Nat}(h:∀i,i<j->f i=g i):wordsF f n j=wordsF g n j:=by
 unfold wordsF
 exact List.map_congr_left fun w _=>word_congr h
theorem quo64 (j:Nat)(h:j<=1000000):IntKind.i64.wrap ((j:Int).tdiv 64)=((j / 64:Nat):Int):=by
 have:(j:Int).tdiv 64=((j / 64:Nat):Int):=rfl
 rw[this]
 exact IntWalk.i64_in _ (by omega)
theorem rem64 (j:Nat):(j:Int).tmod 64=((j % 64:Nat):Int):=rfl
theorem wrap_u64n {x:Nat}(h:x<2 ^ 64):IntKind.u64.wrap (x:Int)=x:=by
 rw[IntKind.wrap_u64];omega
theorem pow_b {b:Nat}(h:b<64):2 ^ b<2 ^ 64:=Nat.pow_lt_pow_right (by decide) h
theorem shl_bit {b:Nat}(h:b<64):shlK .u64 1 (b:Nat)=((2 ^ b:Nat):Int):=by
 unfold shlK
 have:min (b:Int).toNat (IntKind.u64.bits)=b:=by
  show min (b:Int).toNat 64=b
  omega
 rw[this,Int.one_mul]
 have e:((2:Int) ^ b)=((2 ^ b:Nat):Int):=by rw[Int.natCast_pow];rfl
 rw[e]
 exact wrap_u64n (pow_b h)
theorem add_lt {x b:Nat}(hx:x<2 ^ b)(h:b<64):x+2 ^ b<2 ^ 64:=by
 have h2:2 ^ (b+1)<=2 ^ 64:=Nat.pow_le_pow_right (by decide) (by omega)
 rw[Nat.pow_succ] at h2
 omega
theorem or_bit {x b:Nat}(hx:x<2 ^ b)(h:b<64):orK .u64 (x:Nat) ((2 ^ b:Nat):Int)=((x+2 ^ b:Nat):Int):=by
 have hp:=pow_b h
 have hl:=add_lt hx h
 unfold orK
 have e1:((BitVec.ofInt IntKind.u64.bits (x:Nat) ||| BitVec.ofInt IntKind.u64.bits ((2 ^ b:Nat):Int)).toNat)=x+2 ^ b:=by
  show ((BitVec.ofInt 64 (x:Nat) ||| BitVec.ofInt 64 ((2 ^ b:Nat):Int)).toNat)=x+2 ^ b
  rw[BitVec.toNat_or,BitVec.ofInt_natCast,BitVec.ofInt_natCast,BitVec.toNat_ofNat,BitVec.toNat_ofNat,Nat.mod_eq_of_lt (by omega),Nat.mod_eq_of_lt hp,Nat.or_comm]
  have:=Nat.two_pow_add_eq_or_of_lt hx 1
  rw[Nat.mul_one] at this
  omega
 rw[e1]
 exact wrap_u64n hl
def aBits (n:Nat)(ws:List Nat):AV:=.agg [ai n,.sl 1 (ws.map fun w:Nat=>au64 (w:Int))]
def aRelR (n:Nat)(rs:List (List Nat)):AV:=.agg [.sl 2 (rs.map (aBits n))]
end Go.AL
end
section
namespace Go.AL
open Go Go.RowKit Proofs.Tryz
def addW (a b:Int):Int:=IntKind.i64.wrap (a+b)
def aAddW (C:Cfg)(o:Oper)(x y:AV)(ρ:Env)(L:AHeap)(K:ARes):Prop :=
 match x,y with
 | .v (.int .i64 a),.v (.int .i64 b)=>K (put ρ o.dst (ai (addW a b))) L
 | _,_=>False
def aopW (C:Cfg)(o:Oper)(ρ:Env)(L:AHeap)(K:ARes):Prop :=
 match o.op with
 | .binOp .add _ x y _=>aAddW C o (ev ρ x) (ev ρ y) ρ L K
 | _=>aop C o ρ L K
theorem aopW_sound {C:Cfg}{o:Oper}{ρ:Env}{L:AHeap}{K:ARes}(hd:dstOk C o)(hdef:∀c,o.op ≠ .defer c)(h:aopW C o ρ L K):AOp C o ρ L K:=by
 unfold aopW at h
 split at h
 ·rename_i t x y t' hop
  unfold aAddW at h
  split at h
  ·rename_i a b hx hy
   refine AOp.val hd hdef (fun ac w A hρ hL=>⟨.int .i64 (addW a b),?_,.v _⟩) h
   have h1:=hρ x;rw[hx] at h1;have h1:=h1.inv_v
   have h2:=hρ y;rw[hy] at h2;have h2:=h2.inv_v
   unfold execOp
   rw[hop]
   simp [h1,h2,binOp,eqGuard,Op.intArith,addW]
  ·exact h.elim
 ·exact aop_sound hd hdef h
def aregionW (C:Cfg):List Oper->Env->AHeap->ARes->Prop
 | [],ρ,L,K=>K ρ L
 | o :: rest,ρ,L,K=>o.guard=none/\aopW C o ρ L fun ρ L=>aregionW C rest ρ L K
def aregWK (C:Cfg)(rest:List Oper)(K:ARes)(ρ:Env)(L:AHeap):Prop:=aregionW C rest ρ L K
theorem aregionW_nil (C:Cfg)(ρ:Env)(L:AHeap)(K:ARes):aregionW C [] ρ L K=K ρ L:=rfl
theorem aregionW_cons (C:Cfg)(rest:List Oper)(o:Oper)(ρ:Env)(L:AHeap)(K:ARes):aregionW C (o :: rest) ρ L K=(o.guard=none/\aopW C o ρ L (aregWK C rest K)):=rfl
theorem aregionW_sound {C:Cfg}{ops:Array Oper}{K:ARes}{n:Nat}{w0:World}{M A0:Foot}{Q:Exit->Act->World->Prop}(hQ:∀a w,post w0 M A0 C.N K a w->Q .normal a w)(hok:ops.toList.all (operOk C.N)=true) :
  ∀(l:List Oper) (k:Nat),(∀j,l[j]?=ops[k+j]?)->∀(ρ:Env) (L:AHeap) (a:Act) (w:World),aregionW C l ρ L K->St w0 M A0 C.N ρ L a w->wpOpsIn (Fw C.r) n C.P ops Q (List.range' k l.length) a w
 | [],k,_,ρ,L,a,w,h,hs=>hQ a w ⟨ρ,L,h,hs⟩
 | o :: l,k,hl,ρ,L,a,w,h,hs=>by
  have h0:ops[k]?=some o:=by simpa using (hl 0).symm
  have ho:operOk C.N o=true:=List.all_eq_true.1 hok o (List.mem_of_getElem? (by simpa using h0))
  rw[List.length_cons,List.range'_succ,wpOpsIn_cons]
  refine wpOpIn_mono ?_ (AOp.gop h0 h.1 (aopW_sound (operOk_dst ho) (operOk_def ho) h.2) n w0 M A0 a w Q hs)
  rintro a' w' ⟨ρ',L',h1,h2⟩
  exact aregionW_sound hQ hok l (k+1) (fun j=>by have:=hl (j+1);simpa [Nat.add_assoc,Nat.add_comm 1 j] using this) ρ' L' a' w' h1 h2
theorem AWp.regionW {C:Cfg}{id:Nat}{ops:Array Oper}{Q:AQ}{ρ:Env}{L:AHeap}(h:aregionW C ops.toList ρ L (Q .normal)):AWp C (.region id ops false) Q ρ L:=fun hok n w0 M A0 a w hs=>by
 refine wpIn_region ?_
 have:=aregionW_sound (C:=C) (ops:=ops) (K:=Q .normal) (n:=n) (Q:=cq C w0 M A0 Q) (fun a w ⟨ρ',L',h1,h2⟩=>⟨ρ',L',h1,h2⟩) hok ops.toList 0 (by simp) ρ L a w h hs
 rwa [Array.length_toList,<- List.range_eq_range'] at this
attribute [go_sem] aregionW_nil aregionW_cons aregWK aopW aAddW
end Go.AL
end
section
namespace Go.AL
open Go Go.RowKit Proofs.Tryz
theorem AWp.range1 {C:Cfg}{id i1 i2 t s n t2:Nat}{ty1 ty2 ty3 ty4 r1 r2 r3:TypeId}{p1 p2 p3:String}{a1 a2 a3:Array Edge}{body:Code}{Q:AQ}{ρ:Env}{L:AHeap}
  (m:Nat) (ls ks:List Nat) (I:Nat->List AV->AHeap->Prop) (hm:m<=9223372036854775807) (hs:get ρ s=ai 0) (hn:get ρ n=ai m) (hnk:n ∈ ks) (hsk:s ∉ ks) (hsl:s ∉ ls) (hts:t ≠ s) (htk:t ∉ ks) (h2k:t2 ∉ ks) (htl:t ∉ ls) (h2l:t2 ∉ ls)
  (h0:I 0 (ls.map (get ρ)) L)
  (round:∀k vs L',k<m->vs.length=ls.length->I k vs L'->AWp C body (rangeQ id s k ls ks ρ (I (k+1)) Q) ((s,ai k) :: lenv ls ks vs ρ) L')
  (done:∀vs L',vs.length=ls.length->I m vs L'->Q .normal ((s,ai m) :: lenv ls ks vs ρ) L') :
  AWp C (.block id (.loop (.seq (.region i1 #[⟨some t,.binOp .lss ty1 (.tmp s) (.tmp n) ty2,r1,p1,a1,none⟩] false) (.seq (.cond (.tmp t) .skip (.exit id)) (.seq body
   (.region i2 #[⟨some t2,.binOp .add ty3 (.tmp s) (.const (.int .i64 1)) ty4,r2,p2,a2,none⟩,⟨some s,.move (.tmp t2),r3,p3,a3,none⟩] false)))))) Q ρ L:=by
 have hnl:∀vs:List AV,vs.length=ls.length->get (lenv ls ks vs ρ) n=ai m:=fun vs _=>by
  unfold lenv
  have hin:n ∈ (keep ks ρ).map (·.1):=by simp [keep,hnk]
  rw[get_append,if_pos hin]
  rcases get_keep ks ρ n with e|e
  ·have:∀l:List Nat,n ∈ l->get (keep l ρ) n=get ρ n:=fun l=>by
    induction l with
    | nil=>intro h;cases h
    | cons x r ih =>
     intro h
     simp only[keep,List.map_cons,get]
     split
     ·rename_i e;rw[e]
     ·rename_i e;exact ih ((List.mem_cons.1 h).resolve_left e)
   rw[this ks hnk,hn]
  ·rw[e,hn]
 have hns:n ≠ s:=fun e=>hsk (e ▸ hnk)
 have dropT:∀(k:Nat) (vs:List AV) (x:AV) (i:Nat),get ((s,ai k) :: lenv ls ks vs ρ) i = .any\/get ((s,ai k) :: lenv ls ks vs ρ) i=get ((t,x) :: (s,ai k) :: lenv ls ks vs ρ) i:=fun k vs x i=>by
  by_cases hi:i=t
  ·subst hi
   refine .inl ?_
   simp only[get,if_neg hts,lenv]
   rw[get_append,if_neg (by simp [keep,htk])]
   have:∀(l:List Nat) (v:List AV),i ∉ l->get (l.zip v) i = .any:=fun l=>by
    induction l with
    | nil=>intro v _;rfl
    | cons x r ih =>
     intro v h
     cases v with
     | nil=>rfl
     | cons y v =>
      simp only[List.zip_cons_cons,get]
      rw[if_neg (by rintro rfl;exact h List.mem_cons_self)]
      exact ih v (fun hh=>h (List.mem_cons_of_mem _ hh))
   exact this ls vs htl
  ·exact .inr (by simp [get,hi])
 refine AWp.block (AWp.loop (s :: ls) ks (fun vs' L'=>∃(k:Nat) (vs:List AV),vs'=ai (k:Int) :: vs/\k<=m/\I k vs L') (fun vs' _=>match vs' with | .v (.int _ k) :: _=>m - k.toNat|_=>0)
  ⟨0,_,by simp [hs],Nat.zero_le _,h0⟩ ?_)
 rintro vs' L' hl ⟨k,vs,rfl,hk,hI⟩
 have hvl:vs.length=ls.length:=by simpa using hl
 -- the counter first
 refine AWp.st (ρ':=(s,ai k) :: lenv ls ks vs ρ) (L':=L') (fun w0 M A0 a w h=>st_forget h fun i=>?_) ?_
 ·by_cases hi:i=s
  ·subst hi
   refine .inr ?_
   simp only[get,if_true,lenv]
   rw[get_append,if_neg (by simp [keep,hsk])]
   simp [get]
  ·refine .inr ?_
   simp only[get,if_neg hi,lenv,List.zip_cons_cons]
   rw[get_append,get_append]
   split
   ·rfl
   ·simp [get,hi]
 have hget_s:get ((s,ai k) :: lenv ls ks vs ρ) s=ai k:=by simp [get]
 have hget_n:get ((s,ai k) :: lenv ls ks vs ρ) n=ai m:=by simp only[get,if_neg hns];exact hnl vs hvl
 refine AWp.seq (AWp.region ?_)
 simp only[aregion,astep,aop,aval,ev,hget_s,hget_n,w2,fo,aEq,aBin,thenQ,put]
 refine⟨by simp,?_⟩
 refine AWp.seq (AWp.cond (t:=decide ((k:Int)<m)) (by simp [ev,get]) (fun ht=>?_) (fun hf=>?_))
 ·have hlt:k<m:=by simpa using ht
  refine AWp.of ?_
  simp only[awp1,thenQ]
  refine AWp.st (ρ':=(s,ai k) :: lenv ls ks vs ρ) (L':=L') (fun w0 M A0 a w h=>st_forget h (dropT k vs _)) ?_
  refine AWp.seq ((round k vs L' hlt hvl hI).mono ?_)
  intro e ρ' L'' hq
  cases e with
  | normal =>
   obtain⟨g1,g2,L3,g3,g4⟩:=hq
   simp only[thenQ]
   refine AWp.region ?_
   have hi64:I64 ((k:Int)+1):=by unfold I64;omega
   simp only[aregion,astep,aop,aval,ev,g1,w2,fo,aEq,aBin,put,if_true,get]
   refine⟨⟨⟨trivial,trivial⟩,trivial,hi64⟩,trivial,?_⟩
   simp only[roundQ]
   have hks:ks.map (get ((s,ai ((k:Int)+1)) :: (t2,ai ((k:Int)+1)) :: ρ'))=ks.map (get ρ'):=List.map_congr_left fun j hj=>by
    simp only[get];rw[if_neg (by rintro rfl;exact hsk hj),if_neg (by rintro rfl;exact h2k hj)]
   have hls:ls.map (get ((s,ai ((k:Int)+1)) :: (t2,ai ((k:Int)+1)) :: ρ'))=ls.map (get ρ'):=List.map_congr_left fun j hj=>by
    simp only[get];rw[if_neg (by rintro rfl;exact hsl hj),if_neg (by rintro rfl;exact h2l hj)]
   refine⟨by rw[hks];exact g2,L3,g3,⟨k+1,_,?_,hlt,g4⟩,?_⟩
   ·rw[List.map_cons,hls]
    simp only[get,if_true]
    rfl
   ·simp only[List.map_cons,get,if_true]
    have:((k:Int)+1).toNat=k+1:=by omega
    simp only[this,Int.toNat_natCast]
    omega
  | exit id'=>simpa [thenQ,roundQ,blockQ,rangeQ] using hq
  | goto l=>exact hq
  | ret=>exact hq
  | panic c=>exact hq
  | outgrown=>exact hq
 ·have hkm:k=m:=by have:¬((k:Int)<m):=by simpa using hf
                   omega
  subst hkm
  refine AWp.st (ρ':=(s,ai k) :: lenv ls ks vs ρ) (L':=L') (fun w0 M A0 a w h=>st_forget h (dropT k vs _)) (AWp.of ?_)
  simp only[awp1,thenQ,roundQ,blockQ,if_true]
  exact done vs L' hvl hI
theorem AWp.range1' {C:Cfg}{id i1 i2 t s n t2:Nat}{ty1 ty2 ty3 ty4 r1 r2 r3:TypeId}{p1 p2 p3:String}{a1 a2 a3:Array Edge}{body:Code}{Q:AQ}{ρ:Env}{L:AHeap}
  (m:Nat) (ls ks:List Nat) (I:Nat->List AV->AHeap->Prop) (hm:m<=9223372036854775807) (hs:get ρ s=ai 0) (hn:get ρ n=ai m) (hok:rOk s n t t2 ls ks=true)
  (h0:I 0 (ls.map (get ρ)) L)
  (round:∀k vs L',k<m->vs.length=ls.length->I k vs L'->AWp C body (rangeQ id s k ls ks ρ (I (k+1)) Q) ((s,ai k) :: lenv ls ks vs ρ) L')
  (done:∀vs L',vs.length=ls.length->I m vs L'->Q .normal ((s,ai m) :: lenv ls ks vs ρ) L') :
  AWp C (.block id (.loop (.seq (.region i1 #[⟨some t,.binOp .lss ty1 (.tmp s) (.tmp n) ty2,r1,p1,a1,none⟩] false) (.seq (.cond (.tmp t) .skip (.exit id)) (.seq body
   (.region i2 #[⟨some t2,.binOp .add ty3 (.tmp s) (.const (.int .i64 1)) ty4,r2,p2,a2,none⟩,⟨some s,.move (.tmp t2),r3,p3,a3,none⟩] false)))))) Q ρ L:=by
 simp only[rOk,Bool.and_eq_true,Bool.not_eq_true',List.contains_eq_mem,decide_eq_false_iff_not,decide_eq_true_eq,bne_iff_ne,ne_eq] at hok
 obtain⟨⟨⟨⟨⟨⟨⟨h1,h2⟩,h3⟩,h4⟩,h5⟩,h6⟩,h7⟩,h8⟩:=hok
 exact AWp.range1 m ls ks I hm hs hn h1 h2 h3 h4 h5 h6 h7 h8 h0 round done
end Go.AL
end
section
namespace Go.AL
open Go Go.RowKit Proofs.Tryz
set_option maxRecDepth 4000
def relS (b4 b2 n:Nat)(rs:List (List Nat))(L:AHeap):Prop :=
 (rs=[]/\L=[(b4,.row 45 1 [.agg [anil]] 1),(b2,.row 45 1 [.agg [anil]] 1)]) \/
 ∃c cap,(¬c=b4/\¬c=b2)/\L=[(c,.row 110 2 (rs.map (aBits n)) cap),(b4,.row 45 1 [.agg [.ls c 2 0 rs.length cap]] 1),(b2,.row 45 1 [.agg [anil]] 1)]
end Go.AL
end
