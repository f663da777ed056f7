/- Texts of this claim's proof: WZ7, AlWrn, WZ5. No condition. -/
import Derived.Test.YtbegiibjiidkmaaGreatDoorM20
import Derived.Test.YtbegiibjiidkmaaGreatDoorM21
import Derived.Test.YtbegiibjiidkmaaGreatDoorM12
section
namespace Go.AL
open Go Go.RowKit Proofs.Tryz
set_option maxRecDepth 4000
def evsE (ps:List Pr)(k:Nat):List AV:=(List.range k).map fun j=>aEid (evE ps j)
theorem evsE_succ {ps:List Pr}{p i:Nat}(hp:p<ps.length)(hi:i<ps[p].evs.length):evsE ps (off ps p+(i+1))=evsE ps (off ps p+i) ++ [.agg [ai p,ai ((i:Int)+1)]]:=by
 unfold evsE
 rw[show off ps p+(i+1)=off ps p+i+1 by omega,List.range_succ,List.map_append]
 show _ ++ [aEid (evE ps (off ps p+i))]=_
 rw[evE_at hp hi];rfl
theorem causality_events (ps:List Pr)(hs:Sm ps):PC prog 45 [aTr ps] (.sl 2 (evsE ps (off ps ps.length))):=by
 have hps:=hs.procs
 refine PE 31 [.tmp 2] [1,5,26] func45 ?_;simp only[go_sem]
 refine Wk ?_
 refine AWp.range' ps.length [3] [8,9] (fun p vs L=>∃v,vs=[v]/\AppSt 53 2 (evsE ps (off ps p)) v L) (by omega) rfl rfl rfl ⟨anil,rfl,.nil⟩ ?_ ?_
 ·rintro p vs L hp - ⟨v,rfl,hA⟩
  have hg:=getD_map (f:=aPr) hp
  have hel:=hs.evs _ (List.getElem_mem hp)
  have hof:=off_succ hp
  have hos:=off_small hs (p+1) (by omega)
  have hfo:=hA.fo
  simp only[go_sem]
  refine W2 hg hfo ?_
  intros
  refine W2 hg hfo ?_
  refine AWp.range' ps[p].evs.length [3] [4,8,9,10,17] (fun i vs L=>∃v,vs=[v]/\AppSt 53 2 (evsE ps (off ps p+i)) v L) (by omega) rfl rfl rfl ⟨v,rfl,hA⟩ ?_ ?_
  ·rintro i vs L hi - ⟨v,rfl,hA⟩
   have hsu:=evsE_succ hp hi
   have hyl:(evsE ps (off ps p+i)).length=off ps p+i:=by unfold evsE;rw[List.length_map,List.length_range]
   have hwr:IntKind.i64.wrap ((i:Int)+1)=(i:Int)+1:=IntWalk.i64_in _ (by omega)
   rw[hsu]
   generalize evsE ps (off ps p+i)=ys at *
   rcases hA.inv with ⟨e1,rfl,rfl⟩|⟨bq,cq,rfl,rfl⟩
   ·simp only[go_sem]
    refine Wk ?_
    intro b' cap' g8
    exact⟨_,.refl _,_,rfl,by rw[e1];exact .row _ _ _⟩
   ·simp only[go_sem]
    refine Wk ?_
    refine Sd ?_
    intro b' cap' g8
    exact⟨_,.refl _,_,rfl,AppSt.snoc _ _ _ rfl⟩
  ·rintro vs L - ⟨v,rfl,hA⟩
   rw[<- hof] at hA
   have hfo:=hA.fo
   simp only[go_sem,hfo]
   refine W1 hfo ?_
   exact⟨_,.refl _,_,rfl,hA⟩
 ·rintro vs L - ⟨v,rfl,hA⟩
  generalize evsE ps (off ps ps.length)=ys at *
  rcases hA.inv with ⟨e3,rfl,rfl⟩|⟨bq,cap,rfl,rfl⟩
  ·simp only[go_sem]
   refine Wk ?_
   refine ret_view [] ?_;simp only[go_sem]
   rw[e3]
   exact .nil 2
  ·simp only[go_sem]
   refine Wk ?_
   refine ret_view [true] ?_;simp only[go_sem]
   exact Vw.ofLs (if_pos rfl) rfl
def latY (F:Nat->Nat->Bool)(j i q:Nat):List AV:=filR (F q) (if q<i then j+1 else j)
theorem latY_old {F:Nat->Nat->Bool}{j i q:Nat}(h:q ≠ i):latY F j (i+1) q=latY F j i q:=by
 unfold latY
 by_cases e:q<i
 ·rw[if_pos e,if_pos (by omega)]
 ·rw[if_neg e,if_neg (by omega)]
theorem latY_new {F:Nat->Nat->Bool}{j i:Nat} : latY F j (i+1) i=latY F j i i ++ if F i j=true then [ai j] else []:=by
 unfold latY
 rw[if_pos (by omega),if_neg (by omega),filR_succ]
theorem latY_end {F:Nat->Nat->Bool}{j n q:Nat}(h:q<n):latY F (j+1) 0 q=latY F j n q:=by
 unfold latY
 rw[if_neg (by omega),if_pos h]
theorem latY_zero (F:Nat->Nat->Bool)(q:Nat):latY F 0 0 q=[]:=by unfold latY;rw[if_neg (by omega)];rfl
theorem FamS.nils {tO tI:TypeId}{k n b cap:Nat}{Y:Nat->List AV}(hY:∀q,q<n->Y q=[]):FamS tO tI k n Y (.ls b 1 0 n cap) [(b,.row tO 1 (List.replicate n anil) cap)]:=by
 refine⟨[(b,.row tO 1 (List.replicate n anil) cap)],fun _=>anil,fun _=>[],by rw[fam_nil,List.append_nil],?_,fun q hq=>by rw[hY q hq];exact .nil⟩
 have e:(List.range n).map (fun _=>anil)=List.replicate n anil:=by
  rw[List.eq_replicate_iff]
  exact⟨by simp,fun b hb=>by obtain⟨_,_,rfl⟩:=List.mem_map.1 hb;rfl⟩
 rw[e]
 have h:=AppSt.row (t:=tO) (k:=1) b (List.replicate n anil) cap
 rwa [List.length_replicate] at h
theorem AWp.famViewK {C:Cfg}{c:Code}{Q:AQ}{ρ:Env}{j:Nat}{tO tI:TypeId}{k n:Nat}{Y:Nat->List AV}{v:AV}{L L1 Lk:AHeap}(h:FamS tO tI k n Y v L1)(hp:L.Perm (L1 ++ Lk))(hj:get ρ j=v)(hw:AWp C c Q ((j,.sl 1 ((List.range n).map fun q=>.sl k (Y q))) :: ρ) Lk):AWp C c Q ρ L:=by
 obtain⟨Lv,V,Ls,h1,h2,h3⟩:=h
 refine AWp.nodup fun hnd=>?_
 have hall:L.Perm ((Lv ++ famL n Ls) ++ Lk):=hp.trans (h1.append_right _)
 have hnd':((famL n Ls).map (·.1)).Nodup:=by
  have:=(hall.map (·.1)).nodup_iff.1 hnd
  rw[List.map_append,List.map_append,List.nodup_append] at this
  exact(List.nodup_append.1 this.1).2.1
 rcases h2.inv with ⟨e1,e2,e3⟩|⟨bo,cap,e2,e3⟩
 ·have h0:n=0:=by have:=congrArg List.length e1;simpa using this
  subst h0
  subst e3
  refine AWp.viewP (Lf:=[]) (Lk:=Lk) (L':=Lk) (by simpa [famL] using hall) (LVw.refl _) [(j,_)] (fun q hq=>?_) hw
  simp only[List.mem_singleton] at hq
  subst hq
  rw[hj,e2]
  exact .nil 1
 ·subst e3
  have hp2:L.Perm (famL n Ls ++ ((bo,.row tO 1 ((List.range n).map V) cap) :: Lk)):=hall.trans (by
   rw[List.append_assoc]
   exact(List.perm_append_comm_assoc _ _ _))
  refine AWp.viewP hp2 (.row (fam_views hnd' h3) (LVw.refl Lk)) [] (by simp) ?_
  refine AWp.viewP (Lf:=[(bo,.row tO 1 ((List.range n).map fun q=>.sl k (Y q)) cap)]) (Lk:=Lk) (L':=Lk) (.refl _) (LVw.refl _) [(j,_)] (fun q hq=>?_) hw
  simp only[List.mem_singleton] at hq
  subst hq
  show Vw _ (get ρ j) _
  rw[hj,e2]
  exact Vw.ofLs (t:=tO) (cap:=cap) (if_pos rfl) (by simp)
set_option maxHeartbeats 2000000 in
theorem causality_Order (ps:List Pr)(hs:Sm ps)(hv:validF ps=true):PC prog 14 [aTr ps] (.tup [aRelR (off ps ps.length) (relX ps (exF ps [])),ai 0]):=by
 have h1:PC prog 43 [aTr ps,anil] (ai 0):=PC.nilB (k:=2) (causality_checkOk ps hs hv [] (by simp) (by simp))
 have h2:=causality_knows ps hs hv
 have h3:=causality_events ps hs
 have hpt:=fun p hp i hi=>causality_past ps hs hv p hp i hi
 have hN:=valid_off hv
 have hps:=hs.procs
 have hEl:(evsE ps (off ps ps.length)).length=off ps ps.length:=by simp [evsE]
 have hEg:∀j,j<off ps ps.length->(evsE ps (off ps ps.length)).getD j .any=aEid (evE ps j):=fun j hj=>map_range_getD hj _
 have hlat:∀(F:Nat->Nat->Bool) q,(if q<off ps ps.length then off ps ps.length+1 else off ps ps.length)=off ps ps.length+(if q<off ps ps.length then 1 else 0):=fun F q=>by split <;> rfl
 clear hlat
 obtain⟨F,hF⟩:∃F:Nat->Nat->Bool,F=fun i j=>hbX ps i j:=⟨_,rfl⟩
 have hrel:relX ps (exF ps [])=(List.range (off ps ps.length)).map fun i=>wordsF (F i) (off ps ps.length) (off ps ps.length):=by
  unfold relX
  refine List.map_congr_left fun i hi=>?_
  rw[hF]
  exact words_congr fun j hj=>(hb_ord hv hj).symm
 rw[hrel]
 unfold kwV at h2 hpt
 generalize mapK (evM ps 2 (off ps ps.length))=k1 at *
 generalize mapV (evM ps 2 (off ps ps.length))=v1 at *
 generalize mapK (evM ps 3 (off ps ps.length))=k2 at *
 generalize mapV (evM ps 3 (off ps ps.length))=v2 at *
 generalize evsE ps (off ps ps.length)=ES at *
 refine PE 98 [.cell 2 45,.tmp 3] [1,5,9,12,16,68,93] func14 ?_;simp only[go_sem]
 intro b2
 refine Wk ?_
 refine Sd ?_
 refine Vu h1 ?_
 refine Wk ?_
 refine AWp.seq ?_
 refine Sq ?_
 refine AWp.mix mixed [0,1,2,3] (.step 4 (.step 5 (.step 6 .done .done) .done) .done) (by kernel_rfl) ?_;simp only[go_sem]
 refine Sd ?_
 refine Gc h2 ?_
 refine Sd ?_
 refine Gc h3 ?_
 intro b5 g5
 refine W1 hEl ?_
 intro bs gs
 have n1:¬bs=b2:=by omega
 have n2:¬b2=bs:=by omega
 refine W1 hEl ?_
 generalize hn:off ps ps.length=n at *
 refine AWp.range' n [] [2,5,6,7,31,32] (fun j vs L=>vs=[]/\∃L1,L.Perm ((b2,.row 45 1 [.agg [anil]] 1) :: L1)/\FamS 95 3 1 n (latY F j 0) (.ls bs 1 0 n n) L1) (by omega) rfl rfl rfl ⟨rfl,[(bs,.row 95 1 (List.replicate n anil) n)],List.Perm.swap _ _ _,FamS.nils fun q _=>latY_zero F q⟩ ?_ ?_
 ·rintro j vs L hj - ⟨rfl,L1,hP,hFm⟩
  obtain⟨q,b,hq,hb,hjb⟩:=num_form ps.length (Nat.le_refl _) (show j<off ps ps.length by omega)
  have hej:evE ps j=((q:Int),(b:Int)+1):=by rw[hjb];exact evE_at hq hb
  have hgj:ES.getD j .any = .agg [ai q,ai ((b:Int)+1)]:=by rw[hEg j hj,hej];rfl
  have hpq:=hpt q hq b hb
  change PC _ _ [_,.agg [ai q,ai ((b:Int)+1)]] _ at hpq
  have hptl:(ptF ps q b).length=ps.length:=(isF_iff.1 (pt_is hv hq hb)).1
  have hpg:∀p,p<ps.length->((ptF ps q b).map ai).getD p .any=ai (cAt (ptF ps q b) p):=fun p hp=>by rw[getD_map (by omega),cAt_nat (by omega)]
  have hFj:∀i p a:Nat,evE ps i=((p:Int),(a:Int)+1)->F i j=(!decide (i=j) && decide ((a:Int)+1<=cAt (ptF ps q b) p)):=fun i p a e=>by
   rw[hF]
   have e1:((b:Int)+1).toNat - 1=b:=by omega
   show hbX ps i j=_
   unfold hbX
   rw[hej,e]
   simp only[Int.toNat_natCast,e1]
  have hI:aInts (ptF ps q b) = .sl 1 ((ptF ps q b).map ai):=rfl
  have hml:((ptF ps q b).map ai).length=ps.length:=by rw[List.length_map,hptl]
  rw[hI] at hpq
  simp only[go_sem]
  refine W2 hgj hEl ?_
  intros
  refine W2 hgj hEl ?_
  refine Sd ?_
  refine Vu hpq ?_
  refine W1 hEl ?_
  refine AWp.range' n [] [2,5,6,7,8,9,10,31,32,33,41,42] (fun i vs L=>vs=[]/\∃L1,L.Perm ((b2,.row 45 1 [.agg [anil]] 1) :: L1)/\FamS 95 3 1 n (latY F j i) (.ls bs 1 0 n n) L1) (by omega) rfl rfl rfl ⟨rfl,L1,hP,hFm⟩ ?_ ?_
  ·rintro i vs L hi - ⟨rfl,L1,hP,hFm⟩
   obtain⟨p,a,hp,ha,hia⟩:=num_form ps.length (Nat.le_refl _) (show i<off ps ps.length by omega)
   have hei:evE ps i=((p:Int),(a:Int)+1):=by rw[hia];exact evE_at hp ha
   have hgi:ES.getD i .any = .agg [ai p,ai ((a:Int)+1)]:=by rw[hEg i hi,hei];rfl
   have hf:=hFj i p a hei
   have hpp:=hpg p hp
   have hij:i=j↔p=q/\a=b:=by
    constructor
    ·intro e
     have h:=hei
     rw[e,hej,Prod.mk.injEq] at h
     omega
    ·rintro⟨rfl,rfl⟩;rw[hia,hjb]
   have hne:(!decide (i=j))=decide ((p:Int)=q->¬(a:Int)+1=(b:Int)+1):=by
    rw[Bool.eq_iff_iff,Bool.not_eq_true',decide_eq_false_iff_not,decide_eq_true_iff,hij]
    constructor
    ·intro h h1 h2;exact h ⟨by omega,by omega⟩
    ·rintro h ⟨h1,h2⟩;exact h (by omega) (by omega)
   rw[hne] at hf
   simp only[go_sem]
   refine W2 hgi hEl ?_
   intros
   refine Sq ?_
   refine AWp.read mixed [0,1,2,3,4,5,6,7,8,9,10,11,12] (by kernel_rfl) ?_;simp only[go_sem,hpp,hml]
   refine Sd ?_
   rw[<- hf]
   have hold:∀q,q ≠ i->latY F j (i+1) q=latY F j i q:=fun q hq=>latY_old hq
   have hnew:=latY_new (F:=F) (j:=j) (i:=i)
   cases hc:F i j with
   | false =>
    rw[hc,if_neg (by decide),List.append_nil] at hnew
    refine Wk ?_
    exact⟨_,.refl _,L1,hP,hFm.congr fun q hq=>by
     by_cases e:q=i
     ·subst e;exact hnew
     ·exact hold q e⟩
   | true =>
    rw[hc,if_pos rfl] at hnew
    obtain⟨bo,cap,V,Ls,e,hPo,hA,hcl⟩:=hFm.open hi
    obtain⟨e1,_,_,_,e5⟩:=AV.ls.inj e
    subst e1
    subst e5
    refine AWp.perm (hP.trans ((hPo.cons _).trans (List.perm_append_comm (l₁:=[_])))) (AWp.nodup fun hnd=>?_)
    have hlr:((List.range n).map V).length=n:=by simp
    have hyl:(latY F j i i).length<=1000000:=by
     have:=filR_len (f:=F i) (j:=if i<i then j+1 else j)
     unfold latY
     rw[if_neg (by omega)] at this ⊢
     omega
    generalize latY F j (i+1)=Y' at *
    generalize latY F j i=Y at *
    have n3:=nd1 hnd
    have hperm:∀(x y z:Nat × ABlk) (A:AHeap),List.Perm (x :: y :: (A ++ [z])) (z :: y :: ([x] ++ A)):=fun x y z A =>
     (List.Perm.swap _ _ _).trans (List.perm_append_comm (l₁:=y :: x :: A) (l₂:=[z]))
    rcases hA.inv with ⟨e1,e2,e3⟩|⟨bi,cp,e2,e3⟩
    ·have hgd:((List.range n).map V).getD i .any=anil:=by rw[map_range_getD hi,e2]
     rw[e3]
     simp only[go_sem,List.nil_append,List.cons_append]
     refine W2 hgd hlr ?_
     intro b' cap' g1 g2 g3
     have nb:¬bs=b':=by omega
     simp only[go_sem,nb,hgd,hlr]
     refine Sd ?_
     exact⟨_,.refl _,_,hperm _ _ _ _,hcl Y' (.ls b' 1 0 1 cap') [(b',.row 3 1 [ai j] cap')] _ hold (by rw[hnew,e1];exact .row _ [_] _) (List.Perm.refl _)⟩
    ·have hgd:((List.range n).map V).getD i .any = .ls bi 1 0 (Y i).length cp:=by rw[map_range_getD hi,e2]
     rw[e3] at n3 ⊢
     obtain⟨n4,n5⟩:=n3 (bi,_) (List.mem_append_left _ (List.mem_append_left _ (List.mem_singleton_self _)))
     simp only[go_sem,List.nil_append,List.cons_append]
     refine W4 hgd hlr n4 n5 ?_
     refine Sd ?_
     intro b' cap' g1 g2
     simp only[go_sem,g1,n4,n5,hgd,hlr]
     intro g3
     refine Sd ?_
     exact⟨_,.refl _,_,hperm _ _ _ _,hcl Y' (.ls b' 1 0 ((Y i).length+1) cap') [(b',.row 3 1 (Y i ++ [ai j]) cap')] _ hold (by rw[hnew];exact AppSt.snoc _ _ _ rfl) (List.Perm.refl _)⟩
  ·rintro vs L - ⟨rfl,L1,hP,hFm⟩
   simp only[go_sem]
   refine Wk ?_
   exact⟨_,.refl _,L1,hP,hFm.congr fun q hq=>latY_end hq⟩
 ·rintro vs L - ⟨rfl,L1,hP,hFm⟩
  refine AWp.famViewK (j:=7) (Lk:=[(b2,.row 45 1 [.agg [anil]] 1)]) hFm (hP.trans (List.perm_append_comm (l₁:=[_]))) rfl ?_
  have hlt:∀q,latY F n 0 q=filR (F q) n:=fun q=>by unfold latY;rw[if_neg (by omega)]
  have hLg:∀q,q<n->((List.range n).map fun q=>AV.sl 1 (latY F n 0 q)).getD q .any = .sl 1 (filR (F q) n):=fun q hq=>by rw[map_range_getD hq,hlt]
  have hLl:((List.range n).map fun q=>AV.sl 1 (latY F n 0 q)).length=n:=by simp
  generalize (List.range n).map (fun q=>AV.sl 1 (latY F n 0 q))=LL at *
  have hrl:((List.range n).map fun i=>wordsF (F i) n n).length=n:=by simp
  have hst:=fun i (hi:i<n)=>show ((List.range n).map fun i=>wordsF (F i) n n).take (i+1)=((List.range n).map fun i=>wordsF (F i) n n).take i ++ [wordsF (F i) n n] by
   rw[List.take_succ_eq_append_getElem (by omega)]
   congr 2
   rw[List.getElem_map,List.getElem_range]
  generalize (List.range n).map (fun i=>wordsF (F i) n n)=RS at *
  simp only[go_sem]
  refine W1 hLl ?_
  intro b13 g13
  have n3:¬b13=b2:=by omega
  have n4:¬b2=b13:=by omega
  refine W3 hLl n3 n4 ?_
  refine AWp.range' n [] [2,6,13,73,74] (fun i vs L=>vs=[]/\relS b13 b2 n (RS.take i) L) (by omega) rfl rfl rfl ⟨rfl,.inl ⟨rfl,rfl⟩⟩ ?_ ?_
  ·rintro i vs L hi - ⟨rfl,hL⟩
   have hgi:=hLg i hi
   have hbo:PC prog 42 [ai (n:Nat),.sl 1 (filR (F i) n)] (.tup [aBits n (wordsF (F i) n n),ai 0]):=bits_Of n hN (F i)
   have hsti:=hst i hi
   have hb:aBits n (wordsF (F i) n n) = .agg [ai (n:Nat),.sl 1 ((wordsF (F i) n n).map fun w:Nat=>au64 (w:Int))]:=rfl
   rw[hb] at hbo
   rw[hsti]
   generalize wordsF (F i) n n=ws at *
   generalize filR (F i) n=ys at *
   have htl:(RS.take i).length=i:=by rw[List.length_take];omega
   generalize RS.take i=rs at *
   simp only[go_sem]
   refine W2 hgi hEl ?_
   refine Sd ?_
   refine(hbo).val.use ?_;simp only[go_sem,hEl]
   refine W1 hEl ?_
   intro b17 g17
   rcases hL with ⟨rfl,rfl⟩|⟨c,cap,⟨d1,d2⟩,rfl⟩
   ·refine W3 n3 n4 hb ?_
    intro c1 k1 h41 h21 hk1
    have d1:¬c1=b13:=by omega
    have d2:¬c1=b2:=by omega
    have d7:¬b13=c1:=by omega
    have d9:¬b2=c1:=by omega
    simp only[go_sem,d1,d2,d7,d9]
    refine W6 n3 n4 d1 d2 d7 d9 ?_
    exact⟨_,.refl _,.inr ⟨c1,k1,⟨d1,d2⟩,rfl⟩⟩
   ·have d3:¬b13=c:=fun e=>d1 e.symm
    have d4:¬b2=c:=fun e=>d2 e.symm
    have hrs:(rs.map (aBits n)).take rs.length=rs.map (aBits n):=List.take_of_length_le (by rw[List.length_map];exact Nat.le_refl _)
    repeat(first|((with_reducible refine AWp.ofC ?_ ?_);exact rfl;simp only[go_sem,n3,n4,d1,d2,d3,d4,hb,hrs])|((with_reducible refine an ?_ ?_);exact Au))
    intro c1 k1 h41 h21 hk1
    have e1:¬c1=b13:=fun e=>h41 e.symm
    have e2:¬c1=b2:=fun e=>h21 e.symm
    simp only[go_sem,e1,e2,h41,h21]
    refine W6 n3 n4 e1 e2 h41 h21 ?_
    refine⟨_,.refl _,?_⟩
    exact .inr ⟨c1,k1,⟨e1,e2⟩,by rw[List.length_append,List.map_append];rfl⟩
  ·rintro vs L - ⟨rfl,hL⟩
   rw[List.take_of_length_le (by omega)] at hL
   rcases hL with ⟨e0,rfl⟩|⟨c,cap,⟨d1,d2⟩,rfl⟩
   ·simp only[go_sem]
    refine W2 n3 n4 ?_
    refine ret_view [true,true] ?_;simp only[go_sem]
    simp only[go_sem,n3,n4]
    unfold aRelR
    rw[e0]
    exact .mkTup (Vws.cons (.mkAgg (Vws.cons (.nil 2) .nil)) (Vws.refl _))
   ·simp only[go_sem]
    have d3:¬b13=c:=fun e=>d1 e.symm
    have d4:¬b2=c:=fun e=>d2 e.symm
    refine W6 n3 n4 d1 d2 d3 d4 ?_
    refine ret_view [true,true,true] ?_;simp only[go_sem]
    simp only[go_sem,n3,n4,d1,d2,d3,d4]
    exact .mkTup (Vws.cons (.mkAgg (Vws.cons (Vw.ofLs (t:=110) (cap:=cap) (if_pos rfl) (by rw[List.length_map])) .nil)) (Vws.refl _))
end Go.AL
end
section
namespace Go.AL
open Go Go.RowKit Proofs.Tryz
def aNegW (C:Cfg)(o:Oper)(x:AV)(ρ:Env)(L:AHeap)(K:ARes):Prop :=
 match x with
 | .v (.int .u64 a)=>K (put ρ o.dst (.v (.int .u64 (IntKind.u64.wrap (-a))))) L
 | _=>False
def aopN (C:Cfg)(o:Oper)(ρ:Env)(L:AHeap)(K:ARes):Prop :=
 match o.op with
 | .unOp .neg _ x=>aNegW C o (ev ρ x) ρ L K
 | _=>aop C o ρ L K
theorem aopN_sound {C:Cfg}{o:Oper}{ρ:Env}{L:AHeap}{K:ARes}(hd:dstOk C o)(hdef:∀c,o.op ≠ .defer c)(h:aopN C o ρ L K):AOp C o ρ L K:=by
 unfold aopN at h
 split at h
 ·rename_i t x hop
  unfold aNegW at h
  split at h
  ·rename_i a hx
   refine AOp.val hd hdef (fun ac w A hρ hL=>⟨.int .u64 (IntKind.u64.wrap (-a)),?_,.v _⟩) h
   have h1:=hρ x;rw[hx] at h1;have h1:=h1.inv_v
   unfold execOp
   rw[hop]
   simp [h1,Op.unary,Op.intArith]
  ·exact h.elim
 ·exact aop_sound hd hdef h
def aregionN (C:Cfg):List Oper->Env->AHeap->ARes->Prop
 | [],ρ,L,K=>K ρ L
 | o :: rest,ρ,L,K=>o.guard=none/\aopN C o ρ L fun ρ L=>aregionN C rest ρ L K
def aregNK (C:Cfg)(rest:List Oper)(K:ARes)(ρ:Env)(L:AHeap):Prop:=aregionN C rest ρ L K
theorem aregionN_nil (C:Cfg)(ρ:Env)(L:AHeap)(K:ARes):aregionN C [] ρ L K=K ρ L:=rfl
theorem aregionN_cons (C:Cfg)(rest:List Oper)(o:Oper)(ρ:Env)(L:AHeap)(K:ARes):aregionN C (o :: rest) ρ L K=(o.guard=none/\aopN C o ρ L (aregNK C rest K)):=rfl
theorem aregionN_sound {C:Cfg}{ops:Array Oper}{K:ARes}{n:Nat}{w0:World}{M A0:Foot}{Q:Exit->Act->World->Prop}(hQ:∀a w,post w0 M A0 C.N K a w->Q .normal a w)(hok:ops.toList.all (operOk C.N)=true) :
  ∀(l:List Oper) (k:Nat),(∀j,l[j]?=ops[k+j]?)->∀(ρ:Env) (L:AHeap) (a:Act) (w:World),aregionN C l ρ L K->St w0 M A0 C.N ρ L a w->wpOpsIn (Fw C.r) n C.P ops Q (
   List.range' k l.length) a w
 | [],k,_,ρ,L,a,w,h,hs=>hQ a w ⟨ρ,L,h,hs⟩
 | o :: l,k,hl,ρ,L,a,w,h,hs=>by
  have h0:ops[k]?=some o:=by simpa using (hl 0).symm
  have ho:operOk C.N o=true:=List.all_eq_true.1 hok o (List.mem_of_getElem? (by simpa using h0))
  rw[List.length_cons,List.range'_succ,wpOpsIn_cons]
  refine wpOpIn_mono ?_ (AOp.gop h0 h.1 (aopN_sound (operOk_dst ho) (operOk_def ho) h.2) n w0 M A0 a w Q hs)
  rintro a' w' ⟨ρ',L',h1,h2⟩
  exact aregionN_sound hQ hok l (k+1) (fun j=>by have:=hl (j+1);simpa [Nat.add_assoc,Nat.add_comm 1 j] using this) ρ' L' a' w' h1 h2
theorem AWp.regionN {C:Cfg}{id:Nat}{ops:Array Oper}{Q:AQ}{ρ:Env}{L:AHeap}(h:aregionN C ops.toList ρ L (Q .normal)):AWp C (.region id ops false) Q ρ L:=fun hok n w0 M A0 a w hs=>by
 refine wpIn_region ?_
 have:=aregionN_sound (C:=C) (ops:=ops) (K:=Q .normal) (n:=n) (Q:=cq C w0 M A0 Q) (fun a w ⟨ρ',L',h1,h2⟩=>⟨ρ',L',h1,h2⟩) hok ops.toList 0 (by simp) ρ L a w h hs
 rwa [Array.length_toList,<- List.range_eq_range'] at this
attribute [go_sem] aregionN_nil aregionN_cons aregNK aopN aNegW
end Go.AL
end
section
namespace Go.AL
open Go Go.RowKit Proofs.Tryz
set_option maxRecDepth 4000
theorem ntz_len:ntzAV.length=64:=rfl
def tzN (k:Nat):Nat:=(2 ^ k * 285870213051353865) % 18446744073709551616 / 288230376151711744
theorem tz_tab:∀k:Fin 64,tzN k.val<64/\ntzL.getD (tzN k.val) 0=(k.val:Int):=by decide +kernel
theorem tz_ok (k:Nat)(hk:k<64):tzN k<64/\ntzL.getD (tzN k) 0=(k:Int):=tz_tab ⟨k,hk⟩
theorem tz_eq (k:Nat):shrK .u64 (IntKind.u64.wrap (((2 ^ k:Nat):Int) * 285870213051353865)) 58=(tzN k:Nat):=by
 unfold tzN
 generalize 2 ^ k=a
 have h:IntKind.u64.wrap ((a:Int) * 285870213051353865)=((a * 285870213051353865 % 18446744073709551616:Nat):Int):=by
  rw[IntKind.wrap_u64];omega
 rw[h]
 exact shr_nat (b:=58) (by decide)
theorem ntz_get {i:Nat}(h:i<64):ntzAV.getD i .any = .v (.int .u8 (ntzL.getD i 0)):=by
 have hl:i<ntzL.length:=h
 unfold ntzAV
 rw[List.getD_eq_getElem?_getD,List.getElem?_map,List.getElem?_eq_getElem hl,List.getD_eq_getElem?_getD,List.getElem?_eq_getElem hl];rfl
theorem tz_ops {x k:Nat}(hx:x<2 ^ 64)(hk:x.testBit k=true)(hl:∀i,i<k->x.testBit i=false):∃(x1 x2 z:Int) (y:Nat),¬((x:Nat):Int)=0/\IntKind.u64.wrap (-((x:Nat):Int))=x1/\andK .u64 (x:Nat) x1=x2/\IntKind.u64.wrap (x2 * 285870213051353865)=z/\shrK .u64 z 58=(y:Nat)/\y<64 /\
  ntzAV.getD y .any = .v (.int .u8 k)/\IntKind.i64.wrap ((k:Nat):Int)=(k:Nat):=by
 obtain⟨hk64,_⟩:=low_split hx hk hl
 have hpos:=(low_off hx hk hl).2
 obtain⟨t6,t3⟩:=tz_ok k hk64
 have hg:=ntz_get t6
 rw[t3] at hg
 refine⟨((2 ^ 64 - x:Nat):Int),((2 ^ k:Nat):Int),_,tzN k,by omega,?_,?_,rfl,tz_eq k,t6,hg,IntWalk.i64_in _ (by omega)⟩
 ·rw[IntKind.wrap_u64];omega
 ·rw[and_nat hx (by omega),low_neg hx hk hl]
theorem bits_tz {x k:Nat}(hx:x<2 ^ 64)(hk:x.testBit k=true)(hl:∀i,i<k->x.testBit i=false):PC prog 89 [au64 (x:Nat)] (ai k):=by
 obtain⟨x1,x2,z,y,h1,h2,h3,hz,hy,t6,hg,h5⟩:=tz_ops hx hk hl
 clear hx hk hl
 generalize ((x:Nat):Int)=x0 at *
 refine PE 14 [.tmp 2] [] func89 ?_;simp only[go_sem]
 refine Sd ?_
 refine AWp.of ?_;simp only[go_sem,h1]
 refine AWp.cond (t:=false) rfl (fun h=>by cases h) fun _=>?_
 refine Sd ?_
 refine Ao ?_
 refine AWp.seq (AWp.regionN ?_)
 simp only[go_sem,h2,h3,hz,hy,GV,ntz_len,hg,h5]
 refine⟨by decide,⟨by omega,by omega⟩,t6,?_⟩
 refine Wk ?_
 exact Rz
theorem low_word {f:Nat->Bool}{n w j x:Nat}(hw:w<nW n)(hj:64 * w<=j)(hx:x<n)(hxw:x / 64=w)(hjx:j<=x)(hf:f x=true)(hno:∀i,j<=i->i<x->f i=false) :
  (wordOf (fun i=>decide (j<=i) && f i) w n).testBit (x % 64)=true/\∀i,i<x % 64->(wordOf (fun i=>decide (j<=i) && f i) w n).testBit i=false:=by
 refine⟨?_,fun i hi=>?_⟩
 ·rw[bit_word (by omega),show 64 * w+x % 64=x by omega,decide_eq_true hx,decide_eq_true hjx,hf];rfl
 ·rw[bit_word (by omega)]
  by_cases h:j<=64 * w+i
  ·rw[hno _ h (by omega),Bool.and_false,Bool.and_false]
  ·rw[decide_eq_false h,Bool.false_and,Bool.and_false]
theorem next_word {f:Nat->Bool}{n w j x:Nat}(hx:x<n)(hxw:x / 64=w)(hjx:j<=x)(hf:f x=true)(hno:∀i,j<=i->i<x->f i=false)(h1:(wordOf (fun i=>decide (j<=i) && f i) w n).testBit (x % 64)=true)(h2:∀i,i<x % 64->(wordOf (fun i=>decide (j<=i) && f i) w n).testBit i=false) :
  wordOf (fun i=>decide (j<=i) && f i) w n &&& (wordOf (fun i=>decide (j<=i) && f i) w n - 1)=wordOf (fun i=>decide (x+1<=i) && f i) w n:=by
 refine word_ext (Nat.lt_of_le_of_lt Nat.and_le_left word_big) word_big fun b hb=>?_
 rw[(low_off word_big h1 h2).1,bit_word hb,bit_word hb]
 by_cases e:b=x % 64
 ·rw[decide_eq_true e,Bool.not_true,Bool.and_false,decide_eq_false (show ¬x+1<=64 * w+b by omega),Bool.false_and,Bool.and_false]
 ·rw[decide_eq_false e,Bool.not_false,Bool.and_true]
  congr 1
  by_cases h:x+1<=64 * w+b
  ·rw[decide_eq_true h,decide_eq_true (show j<=64 * w+b by omega)]
  ·rw[decide_eq_false h,Bool.false_and]
   by_cases g:j<=64 * w+b
   ·rw[hno _ g (by omega),Bool.and_false]
   ·rw[decide_eq_false g,Bool.false_and]
theorem zero_word {f:Nat->Bool}{n w j:Nat}(h:wordOf (fun i=>decide (j<=i) && f i) w n=0):∀i,i<n->i / 64=w->j<=i->f i=false:=fun i hi hw hj=>by
 have:=bit_word (f:=fun i=>decide (j<=i) && f i) (w:=w) (b:=i % 64) (by omega) (j:=n)
 rw[h,Nat.zero_testBit,show 64 * w+i % 64=i by omega,decide_eq_true hi,decide_eq_true hj] at this
 simpa using this.symm
theorem some_word {f:Nat->Bool}{n w j:Nat}(h:wordOf (fun i=>decide (j<=i) && f i) w n ≠ 0):∃x,x<n/\x / 64=w/\j<=x/\f x=true/\∀i,j<=i->i<x->i / 64=w->f i=false:=by
 have hex:∃x,x<n/\x / 64=w/\j<=x/\f x=true:=by
  apply Classical.byContradiction
  intro hn
  refine h (word_ext word_big (by decide) fun b hb=>?_)
  rw[bit_word hb,Nat.zero_testBit]
  by_cases h1:64 * w+b<n
  ·by_cases h2:j<=64 * w+b
   ·cases hf:f (64 * w+b) with
    | false=>simp
    | true=>exact absurd ⟨64 * w+b,h1,by omega,h2,hf⟩ hn
   ·rw[decide_eq_false h2];simp
  ·rw[decide_eq_false h1];rfl
 obtain⟨x,⟨h1,h2,h3,h4⟩,hmin⟩:=least hex
 refine⟨x,h1,h2,h3,h4,fun i hj hi hw=>?_⟩
 cases hf:f i with
 | false=>rfl
 | true=>have:=hmin i ⟨by omega,hw,hj,hf⟩;omega
theorem filR_skip {f:Nat->Bool}{j:Nat} : ∀ {x:Nat},j<=x->(∀i,j<=i->i<x->f i=false)->filR f x=filR f j
 | 0,h,_=>by have:j=0:=by omega
             subst this;rfl
 | x+1,h,hf=>by
  by_cases e:j=x+1
  ·subst e;rfl
  ·rw[filR_succ,hf x (by omega) (by omega),if_neg (by decide),List.append_nil]
   exact filR_skip (by omega) fun i h1 h2=>hf i h1 (by omega)
theorem bits_Members (n:Nat)(hn:n<=512)(f:Nat->Bool):PC prog 48 [aNs n f] (.tup [.sl 1 (filR f n),ai 0]):=by
 have h1:=bits_Valid n hn f
 have hln:=wds_len n f
 have hg:=fun k (hk:k<nW n)=>wds_get (n:=n) (f:=f) hk
 have hnW:nW n<=1000000:=by unfold nW;omega
 rw[aNs_eq] at *
 generalize (wordsF f n n).map (fun w:Nat=>au64 (w:Int))=W at *
 refine PE 34 [.tmp 2,.tmp 3] [1,30] func48 ?_;simp only[go_sem]
 refine Wk ?_
 refine Sd ?_
 refine Vu h1 ?_
 refine W1 hln ?_
 refine AWp.range' (nW n) [4] [11,12] (fun w vs L=>∃v,vs=[v]/\AppSt 3 1 (filR f (min n (64 * w))) v L) (by omega) rfl rfl rfl ⟨anil,rfl,by rw[show min n (64 * 0)=0 by omega];exact .nil⟩ ?_ ?_
 ·rintro w vs L hw - ⟨v,rfl,hA⟩
  have hgw:=hg w hw
  have hw0:wordOf f w n=wordOf (fun i=>decide (64 * w<=i) && f i) w n:=by
   refine word_ext word_big word_big fun b hb=>?_
   rw[bit_word hb,bit_word hb,decide_eq_true (show 64 * w<=64 * w+b by omega),Bool.true_and]
  have hmin:min n (64 * w)=64 * w:=by unfold nW at hw;omega
  rw[hw0] at hgw
  rw[hmin] at hA
  have hfo:=hA.fo
  simp only[go_sem]
  refine W2 hgw hfo ?_
  refine AWp.block (AWp.loopN [4,6] [5,11,12,13] (fun m vs L=>∃(j:Nat) (v:AV),vs=[v,au64 ((wordOf (fun i=>decide (j<=i) && f i) w n:Nat):Int)]/\64 * w<=j/\j<=min n (64 * (w+1))/\AppSt 3 1 (filR f j) v L/\m=64 * (w+1) - j) _ ⟨64 * w,v,rfl,Nat.le_refl _,by unfold nW at hw;omega,hA,rfl⟩ ?_)
  rintro m vs L - ⟨j,v,rfl,hj0,hj1,hA,rfl⟩
  by_cases hz:wordOf (fun i=>decide (j<=i) && f i) w n=0
  ·have hno:=zero_word hz
   have hsk:filR f (min n (64 * (w+1)))=filR f j:=filR_skip hj1 fun i h1 h2=>hno i (by omega) (by omega) h1
   have hfo:=hA.fo
   rw[hz]
   simp only[go_sem]
   refine W1 hfo ?_
   intro _
   exact⟨_,.refl _,_,rfl,by rw[hsk];exact hA⟩
  ·obtain⟨x,hx,hxw,hjx,hfx,hno⟩:=some_word hz
   have hno:=fun i h1 h2=>hno i h1 h2 (by omega)
   obtain⟨l1,l2⟩:=low_word hw hj0 hx hxw hjx hfx hno
   have hnx:=next_word hx hxw hjx hfx hno l1 l2
   have htz:=bits_tz word_big l1 l2
   have hsk:=filR_skip hjx hno
   have hsu:=filR_succ (f:=f) (j:=x)
   rw[hsk,if_pos hfx] at hsu
   have hwb:=word_big (f:=fun i=>decide (j<=i) && f i) (w:=w) (j:=n)
   have hne:¬((wordOf (fun i=>decide (j<=i) && f i) w n:Nat):Int)=0:=by omega
   have hsub:IntKind.u64.wrap (((wordOf (fun i=>decide (j<=i) && f i) w n:Nat):Int) - 1)=((wordOf (fun i=>decide (j<=i) && f i) w n - 1:Nat):Int):=by
    rw[IntKind.wrap_u64];omega
   have hand:=and_nat (x:=wordOf (fun i=>decide (j<=i) && f i) w n) (y:=wordOf (fun i=>decide (j<=i) && f i) w n - 1) hwb (by omega)
   rw[hnx] at hand
   have hval:((w:Nat):Int) * 64+((x % 64:Nat):Int)=((x:Nat):Int):=by omega
   have hyl:=filR_len (f:=f) (j:=j)
   have hmu:mulW (w:Int) 64=(w:Int) * 64:=IntWalk.i64_in _ (by unfold nW at hw;omega)
   have hjn:j<=512:=by omega
   have hw9:w<=9:=by unfold nW at hw;omega
   rw[<- hsub] at hand
   generalize hx0:((wordOf (fun i=>decide (j<=i) && f i) w n:Nat):Int)=x0 at *
   generalize hx1:IntKind.u64.wrap (x0 - 1)=x1 at *
   generalize hzz:((x % 64:Nat):Int)=z at *
   have hz0:0<=z:=by omega
   have hz1:z<=64:=by omega
   generalize filR f j=ys at *
   rcases hA.inv with ⟨e1,rfl,rfl⟩|⟨bq,cq,rfl,rfl⟩
   ·simp only[go_sem]
    refine W1 hne ?_
    refine Sd ?_
    refine(htz).val.use ?_;simp only[go_sem,hne]
    refine W4 hmu hval hx1 hand ?_
    refine Sd ?_
    intro b' cap' g8
    refine W4 hmu hval hx1 hand ?_
    exact⟨_,.refl _,64 * (w+1) - (x+1),by omega,x+1,_,rfl,by omega,by omega,by rw[hsu,e1];exact .row _ _ _,rfl⟩
   ·simp only[go_sem]
    refine W1 hne ?_
    refine Sd ?_
    refine(htz).val.use ?_;simp only[go_sem,hne]
    refine W4 hmu hval hx1 hand ?_
    refine Sd ?_
    intro b' cap' g8
    refine W4 hmu hval hx1 hand ?_
    exact⟨_,.refl _,64 * (w+1) - (x+1),by omega,x+1,_,rfl,by omega,by omega,by rw[hsu];exact AppSt.snoc _ _ _ rfl,rfl⟩
 ·rintro vs L - ⟨v,rfl,hA⟩
  have hmin:min n (64 * nW n)=n:=by unfold nW;omega
  rw[hmin] at hA
  generalize filR f n=ys at *
  rcases hA.inv with ⟨e3,rfl,rfl⟩|⟨bq,cap,rfl,rfl⟩
  ·simp only[go_sem]
   refine Wk ?_
   refine ret_view [] ?_;simp only[go_sem]
   rw[e3]
   exact .mkTup (Vws.cons (.nil 1) (Vws.refl _))
  ·simp only[go_sem]
   refine Wk ?_
   refine ret_view [true] ?_;simp only[go_sem]
   exact .mkTup (Vws.cons (Vw.ofLs (if_pos rfl) rfl) (Vws.refl _))
end Go.AL
end
