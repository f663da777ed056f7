/- Texts of this claim's proof: WZ7, WY28, WY29, WY18, WY10, WY17, WY30, WZ13, WVec. No condition. -/
import Derived.Test.YtbijcgljnecakaaGreatDoorM17
import Derived.Test.YtbijcgljnecakaaGreatDoorM10
import Derived.Test.YtbijcgljnecakaaGreatDoorM12
import Derived.Test.YtbijcgljnecakaaGreatDoorM16
import Derived.Test.YtbijcgljnecakaaGreatDoorM14
import Derived.Test.YtbijcgljnecakaaGreatDoorM13
import Derived.Test.YtbijcgljnecakaaGreatDoorM15
import Derived.Test.YtbijcgljnecakaaGreatDoorM7
import Derived.Test.YtbijcgljnecakaaGreatDoorM6
section
namespace Go.AL
open Go Go.RowKit
set_option maxRecDepth 4000
def evsE (ps:List Pr) (k:Nat):List AV:=(List.range k).map fun j=>aEid (evE ps j)
theorem evsE_succ {ps:List Pr} {p i:Nat} (hp:p<ps.length) (hi:i<ps[p].evs.length):evsE ps (off ps p+(i+1))=evsE ps (off ps p+i) ++ [.agg [ai p,ai ((i:Int)+1)]]:=by
 unfold evsE
 rw[show off ps p+(i+1)=off ps p+i+1 by omega,List.range_succ,List.map_append]
 show _ ++ [aEid (evE ps (off ps p+i))]=_
 rw[evE_at hp hi];rfl
theorem causality_events (ps:List Pr) (hs:Sm ps):PC Proofs.Tryz.prog 43 [aTr ps] (.sl 2 (evsE ps (off ps ps.length))):=by
 have hps:=hs.procs
 refine PC.enter 31 [.tmp 2] [1,5,26] Proofs.Tryz.func43 rfl rfl rfl rfl rfl (by simp) (AWp.of ?_);simp only[go_sem]
 refine Wk ?_
 refine AWp.range' ps.length [3] [8,9] (fun p vs L=>∃v,vs=[v]∧AppSt 54 2 (evsE ps (off ps p)) v L) (by omega) rfl rfl rfl ⟨anil,rfl,.nil⟩ ?_ ?_
 ·rintro p vs L hp - ⟨v,rfl,hA⟩
  have hg:=getD_map (f:=aPr) hp
  have hel:=hs.evs _ (List.getElem_mem hp)
  have hof:=off_succ hp
  have hos:=off_small hs (p+1) (by omega)
  have hfo:=hA.fo
  simp only[go_sem]
  refine W2 hg hfo ?_
  intros
  refine W2 hg hfo ?_
  refine AWp.range' ps[p].evs.length [3] [4,8,9,10,17] (fun i vs L=>∃v,vs=[v]∧AppSt 54 2 (evsE ps (off ps p+i)) v L) (by omega) rfl rfl rfl ⟨v,rfl,hA⟩ ?_ ?_
  ·rintro i vs L hi - ⟨v,rfl,hA⟩
   have hsu:=evsE_succ hp hi
   have hyl:(evsE ps (off ps p+i)).length=off ps p+i:=by unfold evsE;rw[List.length_map,List.length_range]
   have hwr:IntKind.i64.wrap ((i:Int)+1)=(i:Int)+1:=IntWalk.i64_in _ (by omega)
   rw[hsu]
   generalize evsE ps (off ps p+i)=ys at *
   rcases hA.inv with ⟨e1,rfl,rfl⟩|⟨bq,cq,rfl,rfl⟩
   ·simp only[go_sem]
    refine Wk ?_
    intro b' cap' g8
    exact⟨_,List.Sublist.refl _,_,rfl,by rw[e1];exact .row _ _ _⟩
   ·simp only[go_sem]
    refine Wk ?_
    refine Sd ?_
    intro b' cap' g8
    exact⟨_,List.Sublist.refl _,_,rfl,AppSt.snoc _ _ _ rfl⟩
  ·rintro vs L - ⟨v,rfl,hA⟩
   rw[← hof] at hA
   have hfo:=hA.fo
   simp only[go_sem,hfo]
   refine W1 hfo ?_
   exact⟨_,List.Sublist.refl _,_,rfl,hA⟩
 ·rintro vs L - ⟨v,rfl,hA⟩
  generalize evsE ps (off ps ps.length)=ys at *
  rcases hA.inv with ⟨e3,rfl,rfl⟩|⟨bq,cap,rfl,rfl⟩
  ·simp only[go_sem]
   refine Wk ?_
   refine ret_view [] ?_;simp only[go_sem]
   rw[e3]
   exact .nil 2
  ·simp only[go_sem]
   refine Wk ?_
   refine ret_view [true] ?_;simp only[go_sem]
   exact Vw.ofLs (if_pos rfl) rfl
def latY (F:Nat→Nat→Bool) (j i q:Nat):List AV:=filR (F q) (if q<i then j+1 else j)
theorem latY_old {F:Nat→Nat→Bool} {j i q:Nat} (h:q ≠ i):latY F j (i+1) q=latY F j i q:=by
 unfold latY
 by_cases e:q<i
 ·rw[if_pos e,if_pos (by omega)]
 ·rw[if_neg e,if_neg (by omega)]
theorem latY_new {F:Nat→Nat→Bool} {j i:Nat} : latY F j (i+1) i=latY F j i i ++ if F i j=true then [ai j] else []:=by
 unfold latY
 rw[if_pos (by omega),if_neg (by omega),filR_succ]
theorem latY_end {F:Nat→Nat→Bool} {j n q:Nat} (h:q<n):latY F (j+1) 0 q=latY F j n q:=by
 unfold latY
 rw[if_neg (by omega),if_pos h]
theorem latY_zero (F:Nat→Nat→Bool) (q:Nat):latY F 0 0 q=[]:=by unfold latY;rw[if_neg (by omega)];rfl
theorem FamS.nils {tO tI:TypeId} {k n b cap:Nat} {Y:Nat→List AV} (hY:∀q,q<n→Y q=[]):FamS tO tI k n Y (.ls b 1 0 n cap) [(b,.row tO 1 (List.replicate n anil) cap)]:=by
 refine⟨[(b,.row tO 1 (List.replicate n anil) cap)],fun _=>anil,fun _=>[],by rw[fam_nil,List.append_nil],?_,fun q hq=>by rw[hY q hq];exact .nil⟩
 have e:(List.range n).map (fun _=>anil)=List.replicate n anil:=by
  rw[List.eq_replicate_iff]
  exact⟨by simp,fun b hb=>by obtain⟨_,_,rfl⟩:=List.mem_map.1 hb;rfl⟩
 rw[e]
 have h:=AppSt.row (t:=tO) (k:=1) b (List.replicate n anil) cap
 rwa [List.length_replicate] at h
theorem AWp.famViewK {C:Cfg} {c:Code} {Q:AQ} {ρ:Env} {j:Nat} {tO tI:TypeId} {k n:Nat} {Y:Nat→List AV} {v:AV} {L L1 Lk:AHeap} (h:FamS tO tI k n Y v L1) (hp:L.Perm (L1 ++ Lk)) (hj:get ρ j=v) (hw:AWp C c Q ((j,.sl 1 ((List.range n).map fun q => .sl k (Y q))) :: ρ) Lk):AWp C c Q ρ L:=by
 obtain⟨Lv,V,Ls,h1,h2,h3⟩:=h
 refine AWp.nodup fun hnd => ?_
 have hall:L.Perm ((Lv ++ famL n Ls) ++ Lk):=hp.trans (h1.append_right _)
 have hnd':((famL n Ls).map (·.1)).Nodup:=by
  have:=(hall.map (·.1)).nodup_iff.1 hnd
  rw[List.map_append,List.map_append,List.nodup_append] at this
  exact(List.nodup_append.1 this.1).2.1
 rcases h2.inv with ⟨e1,e2,e3⟩|⟨bo,cap,e2,e3⟩
 ·have h0:n=0:=by have:=congrArg List.length e1;simpa using this
  subst h0
  subst e3
  refine AWp.viewP (Lf:=[]) (Lk:=Lk) (L':=Lk) (by simpa [famL] using hall) (LVw.refl _) [(j,_)] (fun q hq => ?_) hw
  simp only[List.mem_singleton] at hq
  subst hq
  rw[hj,e2]
  exact .nil 1
 ·subst e3
  have hp2:L.Perm (famL n Ls ++ ((bo,.row tO 1 ((List.range n).map V) cap) :: Lk)):=hall.trans (by
   rw[List.append_assoc]
   exact(List.perm_append_comm_assoc _ _ _))
  refine AWp.viewP hp2 (.row (fam_views hnd' h3) (LVw.refl Lk)) [] (by simp) ?_
  refine AWp.viewP (Lf:=[(bo,.row tO 1 ((List.range n).map fun q => .sl k (Y q)) cap)]) (Lk:=Lk) (L':=Lk) (.refl _) (LVw.refl _) [(j,_)] (fun q hq => ?_) hw
  simp only[List.mem_singleton] at hq
  subst hq
  show Vw _ (get ρ j) _
  rw[hj,e2]
  exact Vw.ofLs (t:=tO) (cap:=cap) (if_pos rfl) (by simp)
set_option maxHeartbeats 2000000 in
theorem causality_Order (ps:List Pr) (hs:Sm ps) (hv:validF ps=true):PC Proofs.Tryz.prog 8 [aTr ps] (.tup [aRelR (off ps ps.length) (relX ps (exF ps [])),ai 0]):=by
 have h1:PC Proofs.Tryz.prog 41 [aTr ps,anil] (ai 0):=PC.nilB (k:=2) (causality_checkOk ps hs hv [] (by simp) (by simp))
 have h2:=causality_knows ps hs hv
 have h3:=causality_events ps hs
 have hpt:=fun p hp i hi=>causality_past ps hs hv p hp i hi
 have hN:=valid_off hv
 have hps:=hs.procs
 have hEl:(evsE ps (off ps ps.length)).length=off ps ps.length:=by simp [evsE]
 have hEg:∀j,j<off ps ps.length→(evsE ps (off ps ps.length)).getD j .any=aEid (evE ps j):=fun j hj=>map_range_getD hj _
 have hlat:∀(F:Nat→Nat→Bool) q,(if q<off ps ps.length then off ps ps.length+1 else off ps ps.length)=off ps ps.length+(if q<off ps ps.length then 1 else 0):=fun F q=>by split <;> rfl
 clear hlat
 obtain⟨F,hF⟩:∃F:Nat→Nat→Bool,F=fun i j=>hbX ps i j:=⟨_,rfl⟩
 have hrel:relX ps (exF ps [])=(List.range (off ps ps.length)).map fun i=>wordsF (F i) (off ps ps.length) (off ps ps.length):=by
  unfold relX
  refine List.map_congr_left fun i hi => ?_
  rw[hF]
  exact words_congr fun j hj=>(hb_ord hv hj).symm
 rw[hrel]
 unfold kwV at h2 hpt
 generalize mapK (evM ps 2 (off ps ps.length))=k1 at *
 generalize mapV (evM ps 2 (off ps ps.length))=v1 at *
 generalize mapK (evM ps 3 (off ps ps.length))=k2 at *
 generalize mapV (evM ps 3 (off ps ps.length))=v2 at *
 generalize evsE ps (off ps ps.length)=ES at *
 refine PC.enter 98 [.cell 2 32,.tmp 3] [1,5,9,12,16,68,93] Proofs.Tryz.func8 rfl rfl rfl rfl rfl (by simp) (AWp.of ?_);simp only[go_sem]
 intro b2
 refine Wk ?_
 refine Sd ?_
 refine(h1).val.use ?_;simp only[go_sem]
 refine Wk ?_
 refine AWp.seq ?_
 repeat(first|(with_reducible refine AWp.seq ?_)|(with_reducible refine AWp.block ?_))
 refine AWp.mix mixed [0,1,2,3] (.step 4 (.step 5 (.step 6 .done .done) .done) .done) (by kernel_rfl) ?_;simp only[go_sem]
 refine Sd ?_
 refine Gc h2 ?_
 refine Sd ?_
 refine Gc h3 ?_
 intro b5 g5
 refine W1 hEl ?_
 intro bs gs
 have n1:¬bs=b2:=by omega
 have n2:¬b2=bs:=by omega
 refine W1 hEl ?_
 generalize hn:off ps ps.length=n at *
 refine AWp.range' n [] [2,5,6,7,31,32] (fun j vs L=>vs=[]∧∃L1,L.Perm ((b2,.row 32 1 [.agg [anil]] 1) :: L1)∧FamS 25 3 1 n (latY F j 0) (.ls bs 1 0 n n) L1) (by omega) rfl rfl rfl ⟨rfl,[(bs,.row 25 1 (List.replicate n anil) n)],List.Perm.swap _ _ _,FamS.nils fun q _=>latY_zero F q⟩ ?_ ?_
 ·rintro j vs L hj - ⟨rfl,L1,hP,hFm⟩
  obtain⟨q,b,hq,hb,hjb⟩:=num_form ps.length (Nat.le_refl _) (show j<off ps ps.length by omega)
  have hej:evE ps j=((q:Int),(b:Int)+1):=by rw[hjb];exact evE_at hq hb
  have hgj:ES.getD j .any = .agg [ai q,ai ((b:Int)+1)]:=by rw[hEg j hj,hej];rfl
  have hpq:=hpt q hq b hb
  change PC _ _ [_,.agg [ai q,ai ((b:Int)+1)]] _ at hpq
  have hptl:(ptF ps q b).length=ps.length:=(isF_iff.1 (pt_is hv hq hb)).1
  have hpg:∀p,p<ps.length→((ptF ps q b).map ai).getD p .any=ai (cAt (ptF ps q b) p):=fun p hp=>by rw[getD_map (by omega),cAt_nat (by omega)]
  have hFj:∀i p a:Nat,evE ps i=((p:Int),(a:Int)+1)→F i j=(!decide (i=j) && decide ((a:Int)+1≤cAt (ptF ps q b) p)):=fun i p a e=>by
   rw[hF]
   have e1:((b:Int)+1).toNat - 1=b:=by omega
   show hbX ps i j=_
   unfold hbX
   rw[hej,e]
   simp only[Int.toNat_natCast,e1]
  have hI:aInts (ptF ps q b) = .sl 1 ((ptF ps q b).map ai):=rfl
  have hml:((ptF ps q b).map ai).length=ps.length:=by rw[List.length_map,hptl]
  rw[hI] at hpq
  simp only[go_sem]
  refine W2 hgj hEl ?_
  intros
  refine W2 hgj hEl ?_
  refine Sd ?_
  refine(hpq).val.use ?_;simp only[go_sem]
  refine W1 hEl ?_
  refine AWp.range' n [] [2,5,6,7,8,9,10,31,32,33,41,42] (fun i vs L=>vs=[]∧∃L1,L.Perm ((b2,.row 32 1 [.agg [anil]] 1) :: L1)∧FamS 25 3 1 n (latY F j i) (.ls bs 1 0 n n) L1) (by omega) rfl rfl rfl ⟨rfl,L1,hP,hFm⟩ ?_ ?_
  ·rintro i vs L hi - ⟨rfl,L1,hP,hFm⟩
   obtain⟨p,a,hp,ha,hia⟩:=num_form ps.length (Nat.le_refl _) (show i<off ps ps.length by omega)
   have hei:evE ps i=((p:Int),(a:Int)+1):=by rw[hia];exact evE_at hp ha
   have hgi:ES.getD i .any = .agg [ai p,ai ((a:Int)+1)]:=by rw[hEg i hi,hei];rfl
   have hf:=hFj i p a hei
   have hpp:=hpg p hp
   have hij:i=j↔p=q∧a=b:=by
    constructor
    ·intro e
     have h:=hei
     rw[e,hej,Prod.mk.injEq] at h
     omega
    ·rintro⟨rfl,rfl⟩;rw[hia,hjb]
   have hne:(!decide (i=j))=decide ((p:Int)=q→¬(a:Int)+1=(b:Int)+1):=by
    rw[Bool.eq_iff_iff,Bool.not_eq_true',decide_eq_false_iff_not,decide_eq_true_iff,hij]
    constructor
    ·intro h h1 h2;exact h ⟨by omega,by omega⟩
    ·rintro h ⟨h1,h2⟩;exact h (by omega) (by omega)
   rw[hne] at hf
   simp only[go_sem]
   refine W2 hgi hEl ?_
   intros
   repeat(first|(with_reducible refine AWp.seq ?_)|(with_reducible refine AWp.block ?_))
   refine AWp.read mixed [0,1,2,3,4,5,6,7,8,9,10,11,12] (by kernel_rfl) ?_;simp only[go_sem,hpp,hml]
   refine Sd ?_
   rw[← hf]
   have hold:∀q,q ≠ i→latY F j (i+1) q=latY F j i q:=fun q hq=>latY_old hq
   have hnew:=latY_new (F:=F) (j:=j) (i:=i)
   cases hc:F i j with
   | false =>
    rw[hc,if_neg (by decide),List.append_nil] at hnew
    refine Wk ?_
    exact⟨_,List.Sublist.refl _,L1,hP,hFm.congr fun q hq=>by
     by_cases e:q=i
     ·subst e;exact hnew
     ·exact hold q e⟩
   | true =>
    rw[hc,if_pos rfl] at hnew
    obtain⟨bo,cap,V,Ls,e,hPo,hA,hcl⟩:=hFm.open hi
    obtain⟨e1,_,_,_,e5⟩:=AV.ls.inj e
    subst e1
    subst e5
    refine AWp.perm (hP.trans ((hPo.cons _).trans (List.perm_append_comm (l₁:=[_])))) (AWp.nodup fun hnd => ?_)
    have hlr:((List.range n).map V).length=n:=by simp
    have hyl:(latY F j i i).length≤1000000:=by
     have:=filR_len (f:=F i) (j:=if i<i then j+1 else j)
     unfold latY
     rw[if_neg (by omega)] at this ⊢
     omega
    generalize latY F j (i+1)=Y' at *
    generalize latY F j i=Y at *
    have n3:=nd1 hnd
    have hperm:∀(x y z:Nat × ABlk) (A:AHeap),List.Perm (x :: y :: (A ++ [z])) (z :: y :: ([x] ++ A)):=fun x y z A =>
     (List.Perm.swap _ _ _).trans (List.perm_append_comm (l₁:=y :: x :: A) (l₂:=[z]))
    rcases hA.inv with ⟨e1,e2,e3⟩|⟨bi,cp,e2,e3⟩
    ·have hgd:((List.range n).map V).getD i .any=anil:=by rw[map_range_getD hi,e2]
     rw[e3]
     simp only[go_sem,List.nil_append,List.cons_append]
     refine W2 hgd hlr ?_
     intro b' cap' g1 g2 g3
     have nb:¬bs=b':=by omega
     simp only[go_sem,nb,hgd,hlr]
     refine Sd ?_
     exact⟨_,List.Sublist.refl _,_,hperm _ _ _ _,hcl Y' (.ls b' 1 0 1 cap') [(b',.row 3 1 [ai j] cap')] _ hold (by rw[hnew,e1];exact .row _ [_] _) (List.Perm.refl _)⟩
    ·have hgd:((List.range n).map V).getD i .any = .ls bi 1 0 (Y i).length cp:=by rw[map_range_getD hi,e2]
     rw[e3] at n3 ⊢
     obtain⟨n4,n5⟩:=n3 (bi,_) (List.mem_append_left _ (List.mem_append_left _ (List.mem_singleton_self _)))
     simp only[go_sem,List.nil_append,List.cons_append]
     refine W4 hgd hlr n4 n5 ?_
     refine Sd ?_
     intro b' cap' g1 g2
     simp only[go_sem,g1,n4,n5,hgd,hlr]
     intro g3
     refine Sd ?_
     exact⟨_,List.Sublist.refl _,_,hperm _ _ _ _,hcl Y' (.ls b' 1 0 ((Y i).length+1) cap') [(b',.row 3 1 (Y i ++ [ai j]) cap')] _ hold (by rw[hnew];exact AppSt.snoc _ _ _ rfl) (List.Perm.refl _)⟩
  ·rintro vs L - ⟨rfl,L1,hP,hFm⟩
   simp only[go_sem]
   refine Wk ?_
   exact⟨_,List.Sublist.refl _,L1,hP,hFm.congr fun q hq=>latY_end hq⟩
 ·rintro vs L - ⟨rfl,L1,hP,hFm⟩
  refine AWp.famViewK (j:=7) (Lk:=[(b2,.row 32 1 [.agg [anil]] 1)]) hFm (hP.trans (List.perm_append_comm (l₁:=[_]))) rfl ?_
  have hlt:∀q,latY F n 0 q=filR (F q) n:=fun q=>by unfold latY;rw[if_neg (by omega)]
  have hLg:∀q,q<n→((List.range n).map fun q=>AV.sl 1 (latY F n 0 q)).getD q .any = .sl 1 (filR (F q) n):=fun q hq=>by rw[map_range_getD hq,hlt]
  have hLl:((List.range n).map fun q=>AV.sl 1 (latY F n 0 q)).length=n:=by simp
  generalize (List.range n).map (fun q=>AV.sl 1 (latY F n 0 q))=LL at *
  have hrl:((List.range n).map fun i=>wordsF (F i) n n).length=n:=by simp
  have hst:=fun i (hi:i<n)=>show ((List.range n).map fun i=>wordsF (F i) n n).take (i+1)=((List.range n).map fun i=>wordsF (F i) n n).take i ++ [wordsF (F i) n n] by
   rw[List.take_succ_eq_append_getElem (by omega)]
   congr 2
   rw[List.getElem_map,List.getElem_range]
  generalize (List.range n).map (fun i=>wordsF (F i) n n)=RS at *
  simp only[go_sem]
  refine W1 hLl ?_
  intro b13 g13
  have n3:¬b13=b2:=by omega
  have n4:¬b2=b13:=by omega
  refine W3 hLl n3 n4 ?_
  refine AWp.range' n [] [2,6,13,73,74] (fun i vs L=>vs=[]∧relS b13 b2 n (RS.take i) L) (by omega) rfl rfl rfl ⟨rfl,.inl ⟨rfl,rfl⟩⟩ ?_ ?_
  ·rintro i vs L hi - ⟨rfl,hL⟩
   have hgi:=hLg i hi
   have hbo:PC Proofs.Tryz.prog 45 [ai (n:Nat),.sl 1 (filR (F i) n)] (.tup [aBits n (wordsF (F i) n n),ai 0]):=bits_Of n hN (F i)
   have hsti:=hst i hi
   have hb:aBits n (wordsF (F i) n n) = .agg [ai (n:Nat),.sl 1 ((wordsF (F i) n n).map fun w:Nat=>au64 (w:Int))]:=rfl
   rw[hb] at hbo
   rw[hsti]
   generalize wordsF (F i) n n=ws at *
   generalize filR (F i) n=ys at *
   have htl:(RS.take i).length=i:=by rw[List.length_take];omega
   generalize RS.take i=rs at *
   simp only[go_sem]
   refine W2 hgi hEl ?_
   refine Sd ?_
   refine(hbo).val.use ?_;simp only[go_sem,hEl]
   refine W1 hEl ?_
   intro b17 g17
   rcases hL with ⟨rfl,rfl⟩|⟨c,cap,⟨d1,d2⟩,rfl⟩
   ·refine W3 n3 n4 hb ?_
    intro c1 k1 h41 h21 hk1
    have d1:¬c1=b13:=by omega
    have d2:¬c1=b2:=by omega
    have d7:¬b13=c1:=by omega
    have d9:¬b2=c1:=by omega
    simp only[go_sem,d1,d2,d7,d9]
    refine W6 n3 n4 d1 d2 d7 d9 ?_
    exact⟨_,List.Sublist.refl _,.inr ⟨c1,k1,⟨d1,d2⟩,rfl⟩⟩
   ·have d3:¬b13=c:=fun e=>d1 e.symm
    have d4:¬b2=c:=fun e=>d2 e.symm
    have hrs:(rs.map (aBits n)).take rs.length=rs.map (aBits n):=List.take_of_length_le (by rw[List.length_map];exact Nat.le_refl _)
    repeat(first|((with_reducible refine AWp.ofC ?_ ?_);exact rfl;simp only[go_sem,n3,n4,d1,d2,d3,d4,hb,hrs])|((with_reducible refine an ?_ ?_);exact Au))
    intro c1 k1 h41 h21 hk1
    have e1:¬c1=b13:=fun e=>h41 e.symm
    have e2:¬c1=b2:=fun e=>h21 e.symm
    simp only[go_sem,e1,e2,h41,h21]
    refine W6 n3 n4 e1 e2 h41 h21 ?_
    refine⟨_,List.Sublist.refl _,?_⟩
    exact .inr ⟨c1,k1,⟨e1,e2⟩,by rw[List.length_append,List.map_append];rfl⟩
  ·rintro vs L - ⟨rfl,hL⟩
   rw[List.take_of_length_le (by omega)] at hL
   rcases hL with ⟨e0,rfl⟩|⟨c,cap,⟨d1,d2⟩,rfl⟩
   ·simp only[go_sem]
    refine W2 n3 n4 ?_
    refine ret_view [true,true] ?_;simp only[go_sem]
    simp only[go_sem,n3,n4]
    unfold aRelR
    rw[e0]
    exact .mkTup (Vws.cons (.mkAgg (Vws.cons (.nil 2) .nil)) (Vws.refl _))
   ·simp only[go_sem]
    have d3:¬b13=c:=fun e=>d1 e.symm
    have d4:¬b2=c:=fun e=>d2 e.symm
    refine W6 n3 n4 d1 d2 d3 d4 ?_
    refine ret_view [true,true,true] ?_;simp only[go_sem]
    simp only[go_sem,n3,n4,d1,d2,d3,d4]
    exact .mkTup (Vws.cons (.mkAgg (Vws.cons (Vw.ofLs (t:=38) (cap:=cap) (if_pos rfl) (by rw[List.length_map])) .nil)) (Vws.refl _))
theorem causality_number (ps:List Pr) (hs:Sm ps) (p i:Nat) (hp:p<ps.length) (hi:i<nev ps p):PC Proofs.Tryz.prog 56 [aTr ps,aEid ((p:Int),(i:Int)+1)] (ai (off ps p+i:Nat)):=by
 have hps:=hs.procs
 have hn:=nev_get hp
 have hel:=hs.evs _ (List.getElem_mem hp)
 have e1:aEid ((p:Int),(i:Int)+1) = .agg [ai p,ai ((i:Int)+1)]:=rfl
 have e2:((p:Int)).toNat=p:=rfl
 have e3:(i:Int)+1 - 1=i:=by omega
 have e4:(ps.take p).length=p:=by rw[List.length_take];omega
 rw[e1]
 have hinit:[ai (i:Int)]=[ai ((off ps 0+i:Nat):Int)]:=by rw[show off ps 0+i=i by simp [off]]
 refine PC.enter 28 [.tmp 4] [2,3,7] Proofs.Tryz.func56 rfl rfl rfl rfl rfl (by simp) (AWp.of ?_);simp only[go_sem]
 refine W2 e3 e4 ?_
 refine AWp.range' p [5] [15,16] (fun k vs L=>L=[]∧vs=[ai ((off ps k+i:Nat):Int)]) (by omega) rfl rfl rfl ⟨rfl,hinit⟩ ?_ ?_
 ·rintro k vs L hk - ⟨rfl,rfl⟩
  have hkp:k<ps.length:=by omega
  have hg:((ps.take p).map aPr).getD k .any=aPr ps[k]:=by
   rw[getD_map (by rw[e4];exact hk),List.getElem_take]
  have hof:=off_succ hkp
  have hos:=off_small hs k (by omega)
  have hek:=hs.evs _ (List.getElem_mem hkp)
  have hip:i≤1000000:=by omega
  simp only[go_sem]
  refine W2 hg e4 ?_
  intros
  refine W2 hg e4 ?_
  exact⟨_,List.Sublist.refl _,rfl,by rw[hof,show ((off ps k+ps[k].evs.length+i:Nat):Int)=((off ps k+i:Nat):Int)+(ps[k].evs.length:Int) by omega]⟩
 ·rintro vs L - ⟨rfl,rfl⟩
  simp only[go_sem]
  refine Wk ?_
  refine ret_eq ?_;simp only[go_sem]
theorem causality_Number (ps:List Pr) (hs:Sm ps) (hv:validF ps=true) (p i:Nat) (hp:p<ps.length) (hi:i<nev ps p):PC Proofs.Tryz.prog 19 [aTr ps,aEid ((p:Int),(i:Int)+1)] (.tup [ai (off ps p+i:Nat),ai 0]):=by
 have hi':i<ps[p].evs.length:=by rw[← nev_get hp];exact hi
 have h1:=causality_checkOk ps hs hv [((p:Int),(i:Int)+1)] (by simp) (fun x hx=>by
  rw[List.mem_singleton] at hx
  subst hx
  exact eidOk_iff.2 ⟨p,hp,i,hi',rfl⟩)
 have h2:=causality_number ps hs p i hp hi
 change PC _ _ [_,.sl 2 [.agg [ai p,ai ((i:Int)+1)]]] _ at h1
 change PC _ _ [_,.agg [ai p,ai ((i:Int)+1)]] _ at h2
 change PC _ _ [_,.agg [ai p,ai ((i:Int)+1)]] _
 refine PC.enter 17 [.tmp 4,.tmp 5] [2,3,9] Proofs.Tryz.func19 rfl rfl rfl rfl rfl (by simp) (AWp.of ?_);simp only[go_sem]
 refine Wk ?_
 refine Sd ?_
 refine(h1).val.use ?_;simp only[go_sem]
 refine Wk ?_
 refine Sd ?_
 refine(h2).val.use ?_;simp only[go_sem]
 refine Wk ?_
 refine ret_eq ?_;simp only[go_sem]
theorem relX_N (ps:List Pr) (l:List Syn):aRelR (off ps ps.length) (relX ps (exF ps l))=aRelN (off ps ps.length) (ordX ps (exF ps l)):=aRelN_R _ _
theorem vector_joined (v w:List Int) (n:Nat) (hn:0<n) (hn2:n≤1000000) (hv:v.length=n) (hw:w.length=n):MCalls Proofs.Tryz.prog 102 [aInts v,aInts w] [] fun r L=>AppSt 3 1 ((joinV v w).map ai) r L:=by
 refine MCalls.enter' 28 [.tmp 4] [] Proofs.Tryz.func102 rfl rfl rfl rfl rfl (by simp) (AWp.of ?_);simp only[go_sem]
 refine Wk ?_
 refine(ints_cloneO v (by omega)).val.mono ?_
 rintro r L hA
 rcases hA.inv with ⟨e1,rfl,rfl⟩|⟨b,cap,rfl,rfl⟩
 ·have:v.length=0:=by simpa using congrArg List.length e1
  omega
 ·have hzl:(joinV v w).length=v.length:=joinV_length (by omega)
  simp only[go_sem]
  refine Wk ?_
  refine AWp.range' n [] [5,10,11] (fun j vs L=>L=[(b,.row 3 1 (((joinV v w).take j ++ v.drop j).map ai) cap)]) (by omega) rfl (by simp [get,hw]) rfl (by simp) ?_ ?_
  ·rintro j vs L' hj - rfl
   have hjw:j<w.length:=by omega
   have hjv:j<v.length:=by omega
   have hgd:(List.map ai ((joinV v w).take j ++ v.drop j)).getD j .any=ai v[j]:=by
    rw[List.getD_eq_getElem?_getD,List.getElem?_map,upd_get hzl hjv];rfl
   have hus:=upd_set hzl hjv
   have hzj:(joinV v w)[j]'(by omega)=max v[j] w[j]:=List.getElem_zipWith
   rw[hzj] at hus
   have hul:((joinV v w).take j ++ v.drop j).length=n:=by rw[List.length_append,List.length_take,List.length_drop];omega
   rw[← hus]
   generalize (joinV v w).take j ++ v.drop j=cur at *
   simp only[go_sem]
   refine Sd ?_
   refine AWp.of ?_;simp only[go_sem,getD_map hjw]
   refine W1 hgd ?_
   refine Sd ?_
   have hmx:(if v[j]<w[j] then w[j] else v[j])=max v[j] w[j]:=by split <;> omega
   refine⟨_,List.Sublist.refl _,?_⟩
   rw[List.map_set,hmx]
  ·rintro vs L' - rfl
   simp only[go_sem]
   refine Wk ?_
   rw[List.take_of_length_le (by omega),List.drop_of_length_le (by omega),List.append_nil]
   refine ret_own ?_
   simp only[go_sem]
   have e:v.length=((joinV v w).map ai).length:=by rw[List.length_map,hzl]
   rw[e];exact .row _ _ _
end Go.AL
end
