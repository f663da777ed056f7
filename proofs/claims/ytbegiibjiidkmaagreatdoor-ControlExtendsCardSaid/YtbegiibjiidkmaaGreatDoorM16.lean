/- Texts of this claim's proof: WY9, WY20. No condition. -/
import Derived.Test.YtbegiibjiidkmaaGreatDoorM12
import Derived.Test.YtbegiibjiidkmaaGreatDoorM15
import Derived.Test.YtbegiibjiidkmaaGreatDoorM14
import Derived.Test.YtbegiibjiidkmaaGreatDoorM13
section
namespace Go.AL
open Go Go.RowKit Proofs.Tryz
set_option maxRecDepth 4000
def XSt (n b5 b7 bo cap:Nat)(P:AV)(S:Nat->List (List Int))(L:AHeap):Prop :=
 ∃(V:Nat->AV) (Ls:Nat->AHeap),L.Perm ((b5,.row 107 3 [.agg [P,.ls bo 1 0 n cap,ab false]] 1) :: (b7,.row 3 1 (dnA n fun p=>(S p).length - 1) n) :: (bo,.row 33 1 ((List.range n).map V) cap) :: famL n Ls) /\
  ∀p,p<n->AppSt 95 1 ((S p).map aInts) (V p) (Ls p)
theorem XSt.perm {n b5 b7 bo cap:Nat}{P:AV}{S:Nat->List (List Int)}{L L':AHeap}(hp:L'.Perm L)(h:XSt n b5 b7 bo cap P S L):XSt n b5 b7 bo cap P S L' :=
 let ⟨V,Ls,h1,h2⟩:=h
 ⟨V,Ls,hp.trans h1,h2⟩
theorem XSt.open {n b5 b7 bo cap:Nat}{P:AV}{S:Nat->List (List Int)}{L:AHeap}(h:XSt n b5 b7 bo cap P S L){p:Nat}(hp:p<n) :
  ∃(V:Nat->AV) (Ls:Nat->AHeap),L.Perm ((b5,.row 107 3 [.agg [P,.ls bo 1 0 n cap,ab false]] 1) :: (b7,.row 3 1 (dnA n fun p=>(S p).length - 1) n) :: (bo,.row 33 1 ((List.range n).map V) cap) :: (Ls p ++ famR n p Ls)) /\
   AppSt 95 1 ((S p).map aInts) (V p) (Ls p) /\
   ∀(S':Nat->List (List Int)) (x:AV) (Lp L':AHeap),(∀q,q ≠ p->S' q=S q)->AppSt 95 1 ((S' p).map aInts) x Lp ->
    L'.Perm ((b5,.row 107 3 [.agg [P,.ls bo 1 0 n cap,ab false]] 1) :: (b7,.row 3 1 (dnA n fun p=>(S' p).length - 1) n) :: (bo,.row 33 1 (((List.range n).map V).set p x) cap) :: (Lp ++ famR n p Ls))->XSt n b5 b7 bo cap P S' L':=by
 obtain⟨V,Ls,h1,h2⟩:=h
 refine⟨V,Ls,h1.trans ((((fam_split hp Ls).cons _).cons _).cons _),h2 p hp,fun S' x Lp L' hS hA hL=>?_⟩
 refine⟨fun q=>if q=p then x else V q,fun q=>if q=p then Lp else Ls q,?_,fun q hq=>?_⟩
 ·refine hL.trans ?_
  rw[map_range_set]
  refine List.Perm.cons _ (List.Perm.cons _ (List.Perm.cons _ ?_))
  have hsp:=fam_split hp (fun q=>if q=p then Lp else Ls q)
  rw[if_pos rfl,famR_congr (Ls:=Ls) (fun q hq=>if_neg hq)] at hsp
  exact hsp.symm
 ·by_cases e:q=p
  ·subst e;dsimp only;rw[if_pos rfl,if_pos rfl];exact hA
  ·dsimp only;rw[if_neg e,if_neg e,hS q e];exact h2 q hq
set_option maxHeartbeats 8000000 in
theorem control_extended (ps:List Pr)(hs:Sm ps)(hv:validF ps=true)(l:List Syn)(hl:SynOk ps l)(hll:l.length<=1000000):PC prog 55 [aTr ps,.sl 4 (l.map aSyn)] (aOrd ps (exF ps l) (decide (lftX ps (exF ps l)=0))):=by
 obtain⟨hl1,hl8⟩:=valid_len hv
 have hcb:=control_before ps hs hv l hl hll
 obtain⟨SL,hSL⟩:∃SL,SL=l.map aSyn:=⟨_,rfl⟩
 obtain⟨DT,hDT⟩:∃DT,DT=(List.range (off ps ps.length)).map fun q=>AV.sl 2 (dirY ps l q):=⟨_,rfl⟩
 have hDa:aDir ps l = .sl 1 DT:=by rw[hDT];rfl
 rw[hDa,<- hSL] at hcb
 rw[<- hSL]
 refine PE 172 [.tmp 4] [2,10,13,14,18,46,48,154] func55 ?_;simp only[go_sem]
 refine Wk ?_
 intro b5
 refine Wk ?_
 refine Sd ?_
 refine Vu hcb ?_
 refine Wk ?_
 intro b7 h57
 refine Wk ?_
 have hz:List.replicate ps.length (AV.v (Value.int IntKind.i64 0))=dnA ps.length fun _=>0:=by
  unfold dnA
  rw[List.map_const',List.length_range];rfl
 have hzI:AV.sl 1 (List.replicate ps.length (AV.v (Value.int IntKind.i64 0)))=aInts (List.replicate ps.length 0):=by unfold aInts;rw[List.map_replicate]
 refine AWp.range' ps.length [8] [2,5,6,7,32,33] (fun k vs L=>∃v Lr,vs=[ai (off ps k:Nat)]/\L.Perm ((b5,.row 107 3 [.agg [aPrs ps,v,ab false]] 1) :: (b7,.row 3 1 (dnA ps.length fun _=>0) ps.length) :: Lr) /\
  FamS 33 95 1 k (fun _=>[aInts (List.replicate ps.length 0)]) v Lr) (by omega) rfl rfl rfl ⟨anil,[],by simp [off,get],by rw[hz];exact List.Perm.swap _ _ _,.nil _⟩ ?_ ?_
 ·rintro k vs L hk - ⟨v,Lr,rfl,hP,hF⟩
  have hg:=getD_map (f:=aPr) hk
  have hof:=off_succ hk
  have hel:=hs.evs _ (List.getElem_mem hk)
  have hos:=off_small hs k (by omega)
  simp only[go_sem]
  refine W1 hg ?_
  intros
  refine AWp.cut [2,5,6,7,8,10,32,33,34] (fun vs L'=>∃v Lr,vs=[.rp 1 [aTr ps] 0 0,.lp b5 3 0 0,.sl 1 DT,.ls b7 1 0 ps.length ps.length,ai (off ps k:Nat),.rp 3 [aPr ps[k]] 0 0,.sl 3 (ps.map aPr),ai ps.length,ai k] /\
   L'.Perm ((b5,.row 107 3 [.agg [aPrs ps,v,ab false]] 1) :: (b7,.row 3 1 (dnA ps.length fun _=>0) ps.length) :: Lr)/\FamS 33 95 1 (k+1) (fun _=>[aInts (List.replicate ps.length 0)]) v Lr) ?_ ?_
  ·obtain⟨Lv,V,Ls,hP2,hA,hFr⟩:=hF
   have hP3:=hP.trans ((hP2.cons _).cons _)
   refine AWp.perm hP3 (AWp.nodup fun hnd=>?_)
   obtain⟨n1,n2,n3⟩:=nd2 hnd
   rcases hA.inv with ⟨e1,rfl,e3⟩|⟨bo,cap,e2,e3⟩
   ·rw[e3] at n3 ⊢
    simp only[go_sem]
    refine Sq ?_
    refine AWp.mix mixed [0,1,2,3,5,6,7] (.step 4 (.step 8 (.step 9 (.step 10 (.step 11 (.step 12 (.step 13 (.step 14 .done .done) .done) .done) .done) .done) .done) .done) (.step 8 (.step 4 (.step 9 (.step 10 (.step 11 (.step 12 (.step 13 (.step 14 .done .done) .done) .done) .done) .done) .done) (.step 9 (.step 4 (.step 10 (.step 11 (.step 12 (.step 13 (.step 14 .done .done) .done) .done) .done) .done) (.step 10 (.step 4 (.step 11 (.step 12 (.step 13 (.step 14 .done .done) .done) .done) .done) .done) .done)) .done)) .done)) (by kernel_rfl) ?_;simp (maxSteps:=2000000) only [go_sem,n1,n2]
    refine Sd ?_
    repeat' (first|(with_reducible refine And.intro ?_ ?_)|intro _)
    all_goals first|omega|(simp;done)|skip
    all_goals first|(
     rename_i b _ _ _ b' cap' _ _ _ _ _
     have nb1:¬b5=b':=by omega
     have nb2:¬b5=b:=by omega
     simp only[go_sem,nb1,nb2,hzI]
     refine Sd ?_
     exact⟨_,.refl _,.ls b' 1 0 1 cap',(b',.row 33 1 [.ls b 1 0 1 1] cap') :: (b,.row 95 1 [aInts (List.replicate ps.length 0)] 1) :: famL k Ls,List.perm_append_comm_assoc [_,_] [_,_] _,FamS.snoc (n:=k) (Lx:=[(b,_)]) (Lv':=[(b',_)]) hFr (.row _ [_] _) (by rw[e1];exact .row _ [_] _) (.refl _)⟩)|(
     rename_i b _ _ _
     have nb2:¬b5=b:=by omega
     simp only[go_sem,nb2,n1,n2]
     refine Sd ?_
     intro b' cap' _ _ _ _ _
     have nb1:¬b5=b':=by omega
     simp only[go_sem,nb1,nb2,hzI]
     refine Sd ?_
     exact⟨_,.refl _,.ls b' 1 0 1 cap',(b',.row 33 1 [.ls b 1 0 1 1] cap') :: (b,.row 95 1 [aInts (List.replicate ps.length 0)] 1) :: famL k Ls,List.perm_append_comm_assoc [_,_] [_,_] _,FamS.snoc (n:=k) (Lx:=[(b,_)]) (Lv':=[(b',_)]) hFr (.row _ [_] _) (by rw[e1];exact .row _ [_] _) (.refl _)⟩)|(clear hs hv hl hcb hDT hDa hP hP2 hP3 hnd hFr hSL;trace_state;sorry)
   ·have hVl:((List.range k).map V).length=k:=by simp
    rw[hVl] at e2
    subst e2
    rw[e3] at n3 ⊢
    obtain⟨⟨n4,n5⟩,n6,n7⟩:=n3 (bo,_) (List.mem_append_left _ (List.mem_singleton_self _))
    generalize hys:(List.range k).map V=ys at *
    simp only[go_sem]
    have hyt:ys.take k=ys:=by rw[<- hVl,List.take_length]
    simp only at n4 n5 n6 n7
    refine Sq ?_
    refine AWp.mix mixed [0,1,2,3,5,6,7] (.step 4 (.step 8 (.step 9 (.step 10 (.step 11 (.step 12 (.step 13 (.step 14 .done .done) .done) .done) .done) .done) .done) .done) (.step 8 (.step 4 (.step 9 (.step 10 (.step 11 (.step 12 (.step 13 (.step 14 .done .done) .done) .done) .done) .done) .done) (.step 9 (.step 4 (.step 10 (.step 11 (.step 12 (.step 13 (.step 14 .done .done) .done) .done) .done) .done) (.step 10 (.step 4 (.step 11 (.step 12 (.step 13 (.step 14 .done .done) .done) .done) .done) .done) .done)) .done)) .done)) (by kernel_rfl) ?_;simp (maxSteps:=2000000) only [go_sem,n1,n2,n4,n5,n6,n7,hVl]
    refine Sd ?_
    repeat' (first|(with_reducible refine And.intro ?_ ?_)|intro _)
    all_goals first|omega|(simp;done)|skip
    all_goals (
     rename_i b u1 u2 u3 u4
     have nb2:¬b5=b:=by omega
     have nb3:¬b7=b:=by omega
     have nb4:¬bo=b:=by omega
     have nb5:¬b=b5:=by omega
     have nb6:¬b=b7:=by omega
     have nb7:¬b=bo:=by omega
     simp only[go_sem,nb2,nb3,nb4,nb5,nb6,nb7,hVl,n1,n2,n4,n5,n6,n7,hzI]
     refine Sd ?_
     intro b' cap' g1 g2 g3 g4 g5
     simp only[go_sem,g2,hzI,hyt]
     refine Sd ?_
     exact⟨_,.refl _,.ls b' 1 0 (k+1) cap',(b',.row 33 1 (ys ++ [.ls b 1 0 1 1]) cap') :: (b,.row 95 1 [aInts (List.replicate ps.length 0)] 1) :: famL k Ls,List.perm_append_comm_assoc [_,_] [_,_] _,FamS.snoc (n:=k) (Lx:=[(b,_)]) (Lv':=[(b',_)]) hFr (.row _ [_] _) (by rw[hys];exact AppSt.snoc _ _ _ (by rw[hVl])) (.refl _)⟩)
  ·rintro vs L' - ⟨v,Lr,rfl,hP,hF⟩
   simp only[go_sem]
   refine W1 hg ?_
   refine⟨_,.refl _,v,Lr,?_,hP,hF⟩
   rw[hof];rfl
 ·rintro vs L - ⟨v,Lr,rfl,hP,hF⟩
  obtain⟨Lv,V,Ls,hP2,hA,hFr⟩:=hF
  rcases hA.inv with ⟨e1,_,_⟩|⟨bo,cap,e2,e3⟩
  ·exfalso;have:=congrArg List.length e1;simp only[List.length_map,List.length_range,List.length_nil] at this;omega
  rw[List.length_map,List.length_range] at e2
  subst e2
  subst e3
  have hX:XSt ps.length b5 b7 bo cap (aPrs ps) (fun _=>[List.replicate ps.length 0]) L:=⟨V,Ls,hP.trans ((hP2.cons _).cons _),fun p hp=>hFr p hp⟩
  clear hP hP2 hA hFr
  rw[<- lft_init ps]
  simp only[go_sem]
  refine Wk ?_
  refine AWp.block (AWp.loopN [8,11] [2,5,6,7] (fun m vs L=>∃S g,vs=[ai (lftX ps S:Nat),ab g]/\XSt ps.length b5 b7 bo cap (aPrs ps) S L/\GenX ps l S/\(g=false->∀p,¬RdyX ps l S p)/\m=2 * lftX ps S+(if g=true then 1 else 0))
   _ ⟨_,true,rfl,hX,.init,fun h=>(by cases h),rfl⟩ ?_)
  rintro m vs L' - ⟨S0,g0,rfl,hV0,hG0,hno0,hm⟩
  simp only[go_sem]
  refine Wk ?_
  constructor<;>intro h1
  ·refine Wk ?_
   refine AWp.range' ps.length [8,11] [2,5,6,7,60,61] (fun p vs L=>∃S g,vs=[ai (lftX ps S:Nat),ab g]/\XSt ps.length b5 b7 bo cap (aPrs ps) S L/\GenX ps l S/\(g=false->S=S0/\∀q,q<p->¬RdyX ps l S q)/\(g=true->lftX ps S<lftX ps S0))
    (by omega) rfl rfl rfl ⟨S0,false,rfl,hV0,hG0,fun _=>⟨rfl,fun q hq=>by omega⟩,fun h=>by cases h⟩ ?_ ?_
   ·rintro p vs L' hp - ⟨S1,g1,rfl,hV1,hG1,hf1,ht1⟩
    have hmm:=List.getElem_mem hp
    have hel:=hs.evs _ hmm
    have hnv:=nev_get hp
    simp only[go_sem]
    refine Sd ?_
    refine AWp.of ?_;simp only[go_sem,getD_map hp]
    refine Sd ?_
    intros
    refine Ao ?_
    refine AWp.loopN [8,11] [2,5,6,7,12,13,60,61,62] (fun m vs L=>∃S g,vs=[ai (lftX ps S:Nat),ab g]/\XSt ps.length b5 b7 bo cap (aPrs ps) S L/\GenX ps l S/\(g=false->S=S0/\∀q,q<p->¬RdyX ps l S q)/\(g=true->lftX ps S<lftX ps S0)/\m=nev ps p+1 - (S p).length)
     (nev ps p+1 - (S1 p).length) ?_ ?_
    ·exact⟨S1,g1,rfl,hV1,hG1,hf1,ht1,rfl⟩
    rintro m' vs L' - ⟨S,g,rfl,hV,hG,hf,ht,hm'⟩
    obtain⟨k,hSk⟩:∃k,(S p).length=k+1:=⟨(S p).length - 1,by have:=hG.pos p;omega⟩
    have hle:=hG.top p
    have gd:(dnA ps.length fun q=>(S q).length - 1).getD p .any=ai k:=by rw[dnA_get hp,hSk];rfl
    simp only[go_sem]
    refine AWp.seq ?_
    refine AWp.cut [2,5,6,7,8,11,12,13,60,61,62,74] (fun vs L=>XSt ps.length b5 b7 bo cap (aPrs ps) S L/\vs=[.rp 1 [aTr ps] 0 0,.lp b5 3 0 0,.sl 1 DT,.ls b7 1 0 ps.length ps.length,ai (lftX ps S:Nat),ab g,ai p,.rp 3 [aPr ps[p]] 0 0,.sl 3 (ps.map aPr),ai ps.length,ai p,ab (decide ((k:Int)<ps[p].evs.length))]) ?_ ?_
    ·obtain⟨V,Ls,hP,hA,_⟩:=hV.open hp
     refine AWp.perm hP (AWp.nodup fun hnd=>?_)
     have hVN:=hV.perm hP.symm
     obtain⟨⟨n1,n2⟩,⟨n3,n4⟩,⟨n5,n6⟩,_⟩:=nd3 hnd
     refine Sq ?_
     refine AWp.read mixed [0,1,2,3,4,5,6,7] (by kernel_rfl) ?_;simp only[go_sem,gd,dnA_length,n1,n2,n3,n4,n5,n6]
     refine Sd ?_
     exact⟨_,.refl _,hVN⟩
    rintro vs L2 - ⟨hV,rfl⟩
    simp only[go_sem]
    refine Wk ?_
    constructor<;>intro h2
    ·have hk:k<nev ps p:=by omega
     have hix:=control_index ps hs p k hp hk
     have ei:aEid ((p:Int),(k:Int)+1) = .agg [ai p,ai ((k:Int)+1)]:=rfl
     rw[ei] at hix
     have hof:=evIds_get hp (show k<ps[p].evs.length by omega)
     have hoq:off ps p+k<off ps ps.length:=by
      have h1:=(List.getElem?_eq_some_iff.1 hof).1
      rw[evIds_length] at h1;exact h1
     have hos:=off_small hs ps.length (Nat.le_refl _)
     have hDg:DT.getD (off ps p+k) .any = .sl 2 ((dirX ps l p k).map aEid):=by
      rw[hDT,map_range_getD hoq]
      show AV.sl 2 ((dirK ps l (off ps p+k)).map aEid)=_
      rw[dirK_at hp (by omega)]
     have hDl:DT.length=off ps ps.length:=by rw[hDT];simp
     have hDe:=fun y hy=>dirX_ev hv hl hp hk y hy
     have hDX:∀i,i=k->dirX ps l p i=dirX ps l p k:=fun i h=>by rw[h]
     have hrdI:RdyX ps l S p↔∀y ∈ dirX ps l p k,y.2.toNat<(S y.1.toNat).length:=by
      unfold RdyX
      rw[hSk]
      exact⟨fun h=>h.2.2,fun h=>⟨hp,by omega,h⟩⟩
     have hvx:vecX ps l S p (k+1)=((dirX ps l p k).foldl (fun v y=>joinL v (nedX S y)) (List.replicate ps.length 0)).set p ((k+1:Nat):Int):=rfl
     have hDlen:(dirX ps l p k).length<=1000002:=by
      unfold dirX dirE
      rw[List.length_append,List.length_append,List.length_map]
      have h2:=List.length_filter_le (fun s:Syn=>decide (s.2=((p:Int),(k:Int)+1))) l
      split <;> split <;> simp only[List.length_cons,List.length_nil] <;> omega
     generalize dirX ps l p k=D at *
     refine AWp.block ?_
     refine AWp.cut [2,5,6,7,8,11,12,13,14,60,61,62] (fun vs L=>XSt ps.length b5 b7 bo cap (aPrs ps) S L /\
      vs=[.rp 1 [aTr ps] 0 0,.lp b5 3 0 0,.sl 1 DT,.ls b7 1 0 ps.length ps.length,ai (lftX ps S:Nat),ab g,ai p,.rp 3 [aPr ps[p]] 0 0,.rp 2 [.agg [ai p,ai ((k:Int)+1)]] 0 0,.sl 3 (ps.map aPr),ai ps.length,ai p]) ?_ ?_
     ·obtain⟨V,Ls,hP,hA,_⟩:=hV.open hp
      refine AWp.perm hP (AWp.nodup fun hnd=>?_)
      have hVN:=hV.perm hP.symm
      obtain⟨⟨n1,n2⟩,⟨n3,n4⟩,⟨n5,n6⟩,_⟩:=nd3 hnd
      repeat(first|((with_reducible refine AWp.ofC ?_ ?_);exact rfl;simp only[go_sem,gd,dnA_length,n1,n2,n3,n4,n5,n6])|((with_reducible refine an ?_ ?_);exact Au))
      intros
      exact⟨_,.refl _,hVN⟩
     rintro vs L3 - ⟨hV,rfl⟩
     simp only[go_sem]
     refine Sd ?_
     refine Ao ?_
     refine Sd ?_
     intro bv hbv
     refine Wk ?_
     refine Sd ?_
     refine(hix).val.use ?_;simp only[go_sem,hDg,hDl]
     refine W2 hDg hDl ?_
     have hzr:List.replicate ps.length (AV.v (Value.int IntKind.i64 0))=(List.replicate ps.length (0:Int)).map ai:=by rw[List.map_replicate]
     rw[hzr]
     refine AWp.range' D.length [16] [2,5,6,7,8,11,12,13,14,15,60,61,62,91,92] (fun j vs L=>∃L1 v,vs=[ab true]/\v=(D.take j).foldl (fun v y=>joinL v (nedX S y)) (List.replicate ps.length 0)/\v.length=ps.length/\L=(bv,.row 3 1 (v.map ai) ps.length) :: L1/\XSt ps.length b5 b7 bo cap (aPrs ps) S L1/\∀y ∈ D.take j,y.2.toNat<(S y.1.toNat).length) (by omega) rfl rfl rfl ⟨L3,_,rfl,by rw[List.take_zero];rfl,by simp,rfl,hV,fun y hy=>by simp at hy⟩ ?_ ?_
     ·rintro j vs L hj - ⟨L1,v,rfl,hvj,hvl,rfl,hV,hrd⟩
      have hyD:=List.getElem_mem hj
      obtain⟨d1,d2,d3,d4⟩:=hDe _ hyD
      have hge:=getD_map (f:=aEid) hj
      have htk:D.take (j+1)=D.take j ++ [D[j]]:=List.take_succ_eq_append_getElem hj
      generalize hyy:D[j]=y at *
      obtain⟨y1,y2⟩:=y
      obtain⟨q,hq1⟩:∃q:Nat,y1=q:=⟨y1.toNat,by dsimp only at d1;omega⟩
      obtain⟨i,hi1⟩:∃i:Nat,y2=i:=⟨y2.toNat,by dsimp only at d3;omega⟩
      subst hq1
      subst hi1
      dsimp only at d1 d2 d3 d4
      have hq:q<ps.length:=by omega
      rw[Int.toNat_natCast] at d4
      have hey:aEid ((q:Int),(i:Int)) = .agg [ai q,ai i]:=rfl
      rw[hey] at hge
      simp only[go_sem]
      refine W1 hge ?_
      intros
      obtain⟨V,Ls,hP,hA,_⟩:=hV.open hq
      refine AWp.perm (hP.cons _) (AWp.nodup fun hnd=>?_)
      have hVN:=hV.perm hP.symm
      obtain⟨⟨m1,m2⟩,⟨m3,m4⟩,⟨n1,n2⟩,n3⟩:=nd3 hnd
      obtain⟨_,_,n9⟩:=nd2 (List.nodup_cons.1 (List.nodup_cons.1 hnd).2).2
      obtain⟨m5,m6⟩:=(n3 (bo,_) List.mem_cons_self).1
      obtain⟨⟨n5,n6⟩,⟨n7,n8⟩⟩:=(n3 (bo,_) List.mem_cons_self).2
      have gq:(dnA ps.length fun q=>(S q).length - 1).getD q .any=ai ((S q).length - 1:Nat):=dnA_get hq _
      refine Sq ?_
      refine AWp.read mixed [0,1,2,3,4,5,6,7] (by kernel_rfl) ?_;simp only[go_sem,gq,dnA_length,m1,m2,m3,m4,m5,m6,n1,n2,n5,n6,n7,n8]
      refine Sd ?_
      repeat(first|((with_reducible refine AWp.ofC ?_ ?_);exact rfl;simp only[go_sem,m1,m2,m3,m4,m5,m6,n1,n2,n5,n6,n7,n8])|((with_reducible refine an ?_ ?_);exact Au))
      constructor<;>intro h3
      ·refine Wk ?_
       refine⟨_,List.sublist_cons_self _ _,S,g,rfl,hVN,hG,fun hg=>?_,ht⟩
       obtain⟨e1,e2⟩:=hf hg
       refine⟨e1,fun q' hq'=>?_⟩
       by_cases e:q'=p
       ·subst e
        intro hr
        have:=hrdI.1 hr _ hyD
        simp only[Int.toNat_natCast] at this
        omega
       ·exact e2 q' (by omega)
      ·have hqS:=hG.pos q
       have hiq:i<(S q).length:=by omega
       have hned:nedX S ((q:Int),(i:Int))=stOf S q i:=rfl
       have hwl:=(hG.st hv hl q i hiq).len
       have hgw:((S q).map aInts).getD i .any = .sl 1 ((stOf S q i).map ai):=by
        rw[getD_map hiq]
        unfold stOf
        rw[List.getD_eq_getElem?_getD,List.getElem?_eq_getElem hiq,Option.getD_some];rfl
       have hvj':(D.take (j+1)).foldl (fun v y=>joinL v (nedX S y)) (List.replicate ps.length 0)=joinL v (stOf S q i):=by
        rw[htk,List.foldl_append,<- hvj];rfl
       have hrd':∀y ∈ D.take (j+1),y.2.toNat<(S y.1.toNat).length:=fun y hy=>by
        rw[htk] at hy
        rcases List.mem_append.1 hy with hy|hy
        ·exact hrd y hy
        ·obtain rfl:=List.mem_singleton.1 hy
         exact hiq
       generalize stOf S q i=w at *
       rcases hA.inv with ⟨e1,_,_⟩|⟨bq,capq,e2,e3⟩
       ·have:=congrArg List.length e1
        simp only[List.length_map,List.length_nil] at this
        omega
       have hgV:((List.range ps.length).map V).getD q .any = .ls bq 1 0 (S q).length capq:=by rw[map_range_getD hq,e2,List.length_map]
       rw[e3] at hVN n3 ⊢
       obtain⟨⟨r1,r2⟩,⟨r3,r4⟩,r5,r6⟩:=n3 (bq,_) (List.mem_cons_of_mem _ (List.mem_append_left _ (List.mem_singleton_self _)))
       obtain⟨r7,r8⟩:=(n9 (bq,_) (by rw[e3];exact List.mem_append_left _ (List.mem_singleton_self _))).2
       simp only at r1 r2 r3 r4 r5 r6 r7 r8
       refine Sq ?_
       refine AWp.read mixed [0,1,2,3,4,5,6,7,8,9,10,11,12,13] (by kernel_rfl) ?_;simp only[go_sem,hgV,hgw,m1,m2,m3,m4,m5,m6,n1,n2,n5,n6,n7,n8,r1,r2,r3,r4,r5,r6,r7,r8,List.length_range]
       refine Sd ?_
       have hPQ:aPrs ps = .sl 3 (ps.map aPr):=rfl
       rw[hPQ] at hVN
       simp only[List.cons_append,List.nil_append] at hVN
       generalize (b5,ABlk.row 107 3 [.agg [.sl 3 (ps.map aPr),.ls bo 1 0 ps.length cap,ab false]] 1) :: _=LR at hVN ⊢
       have hzl:(joinL v w).length=v.length:=join_len (by omega)
       refine AWp.range' ps.length [] [2,5,6,7,8,11,12,13,14,15,16,60,61,62,91,92,93,116,117] (fun i vs L=>vs=[]/\L=(bv,.row 3 1 ((mixJ (joinL v w) v i).map ai) ps.length) :: LR) (by omega) rfl (by rw[hwl];rfl) rfl ⟨rfl,by rw[mixJ_zero]⟩ ?_ ?_
       ·rintro i' vs L hi' - ⟨rfl,rfl⟩
        have hiv:i'<v.length:=by omega
        have hml:=mixJ_len hzl (show i'<=v.length by omega)
        have hmg:=mixJ_get hzl hiv
        have hms:=mixJ_set hzl hiv
        have hgm:=getD_map (f:=ai) (l:=mixJ (joinL v w) v i') (k:=i') (by omega)
        rw[hmg] at hgm
        have hgW:=getD_map (f:=ai) (l:=w) (k:=i') (by omega)
        have hJi:(joinL v w)[i']'(by omega)=if v[i']<w[i']'(by omega) then w[i']'(by omega) else v[i']:=by unfold joinL;rw[List.getElem_zipWith]
        rw[hJi] at hms
        have hms2:((mixJ (joinL v w) v i').map ai).set i' (ai (if v[i']<w[i']'(by omega) then w[i']'(by omega) else v[i']))=(mixJ (joinL v w) v (i'+1)).map ai:=by rw[map_set_ai,hms]
        have hmml:((mixJ (joinL v w) v i').map ai).length=ps.length:=by rw[List.length_map,hml,hvl]
        generalize (mixJ (joinL v w) v (i'+1)).map ai=ys' at *
        generalize (mixJ (joinL v w) v i').map ai=ys at *
        generalize v[i']=x1 at *
        generalize w[i']'_=x2 at *
        simp only[go_sem]
        refine W3 hgm hgW hmml ?_
        exact⟨_,.refl _,by rw[hms2]⟩
       ·rintro vs L - ⟨rfl,rfl⟩
        have hmf:=mixJ_full hzl
        rw[hvl] at hmf
        rw[hmf]
        simp only[go_sem]
        refine Wk ?_
        exact⟨_,.refl _,LR,_,hvj'.symm,by omega,rfl,hVN,hrd'⟩
     ·rintro vs L - ⟨L1,v,rfl,hvj,hvl,rfl,hV,hrd⟩
      rw[List.take_length] at hvj hrd
      have hrdy:=hrdI.2 hrd
      have hgv:=getD_map (f:=ai) (l:=v) (k:=p) (by omega)
      have hvec:(v.map ai).set p (ai ((k:Int)+1))=(vecX ps l S p (k+1)).map ai:=by
       rw[hvx,<- hvj,List.map_set];rfl
      have hvecl:(vecX ps l S p (k+1)).length=ps.length:=by rw[hvx,<- hvj,List.length_set,hvl]
      have hG':=hG.step hrdy
      rw[hSk] at hG'
      have hlft:=lft_up (S:=S) hp (by omega) (vecX ps l S p (k+1))
      clear hvx
      generalize vecX ps l S p (k+1)=vec at *
      generalize v[p]'_=x0 at *
      simp only[go_sem]
      refine W1 hgv ?_
      rw[hvec]
      refine AWp.only [2,5,6,7,8,11,12,13,14,15,60,61,62] ?_
      simp only[go_sem,List.map_cons,List.map_nil,List.zip_cons_cons,List.zip_nil_right]
      refine AWp.view [true] [(15,.sl 1 (vec.map ai))] (LVw.refl _) ?_ ?_
      ·intro z hz
       simp only[List.mem_singleton] at hz
       subst hz
       show Vw _ _ (.sl 1 (vec.map ai))
       simp only[go_sem]
       exact Vw.ofLs (t:=3) (cap:=ps.length) (if_pos rfl) (by rw[List.length_map,hvecl])
      simp only[go_sem]
      obtain⟨V,Ls,hP,hA,hcl⟩:=hV.open hp
      refine AWp.perm hP (AWp.nodup fun hnd=>?_)
      obtain⟨⟨n1,n2⟩,⟨n3,n4⟩,⟨n5,n6⟩,n7⟩:=nd3 hnd
      rcases hA.inv with ⟨e1,_,_⟩|⟨b,capb,e2,e3⟩
      ·have:=congrArg List.length e1
       simp only[List.length_map,List.length_nil] at this
       omega
      have hyl:((S p).map aInts).length=k+1:=by rw[List.length_map,hSk]
      have hup:(upS S p vec p).map aInts=(S p).map aInts ++ [.sl 1 (vec.map ai)]:=by
       show (if p=p then S p ++ [vec] else S p).map aInts=_
       rw[if_pos rfl,List.map_append];rfl
      have hgV:((List.range ps.length).map V).getD p .any = .ls b 1 0 ((S p).map aInts).length capb:=by rw[map_range_getD hp,e2]
      rw[e3] at n7 ⊢
      obtain⟨⟨r1,r2⟩,⟨r3,r4⟩,r5,r6⟩:=n7 (b,_) (List.mem_append_left _ (List.mem_singleton_self _))
      have hVl:((List.range ps.length).map V).length=ps.length:=by simp
      generalize (S p).map aInts=ys at *
      generalize (List.range ps.length).map V=VR at *
      simp only at r1 r2 r3 r4 r5 r6
      refine AWp.cut [2,5,6,7,8,11,12,13,14,60,61,62] (fun vs L=>∃b' cap',¬b5=b'/\¬b7=b'/\¬bo=b'/\L=(b',.row 95 1 (ys ++ [.sl 1 (vec.map ai)]) cap') :: (b5,.row 107 3 [.agg [aPrs ps,.ls bo 1 0 ps.length cap,ab false]] 1) :: (b7,.row 3 1 (dnA ps.length fun p=>(S p).length - 1) ps.length) :: (bo,.row 33 1 (VR.set p (.ls b' 1 0 (ys.length+1) cap')) cap) :: famR ps.length p Ls/\vs=[.rp 1 [aTr ps] 0 0,.lp b5 3 0 0,.sl 1 DT,.ls b7 1 0 ps.length ps.length,ai (lftX ps S:Nat),ab g,ai p,.rp 3 [aPr ps[p]] 0 0,.rp 2 [.agg [ai p,ai ((k:Int)+1)]] 0 0,.sl 3 (ps.map aPr),ai ps.length,ai p]) ?_ ?_
      ·refine Sq ?_
       refine AWp.mix mixed [0,1,2,4,5,6,7,9,12] (.step 3 (.step 8 (.step 10 (.step 11 (.step 13 (.step 14 (.step 15 (.step 16 .done .done) .done) .done) .done) (.step 13 (.step 11 (.step 14 (.step 15 (.step 16 .done .done) .done) .done) .done) .done)) (.step 13 (.step 10 (.step 11 (.step 14 (.step 15 (.step 16 .done .done) .done) .done) .done) .done) .done)) (.step 13 (.step 8 (.step 10 (.step 11 (.step 14 (.step 15 (.step 16 .done .done) .done) .done) .done) .done) .done) .done)) (.step 8 (.step 3 (.step 10 (.step 11 (.step 13 (.step 14 (.step 15 (.step 16 .done .done) .done) .done) .done) (.step 13 (.step 11 (.step 14 (.step 15 (.step 16 .done .done) .done) .done) .done) .done)) (.step 13 (.step 10 (.step 11 (.step 14 (.step 15 (.step 16 .done .done) .done) .done) .done) .done) .done)) (.step 10 (.step 3 (.step 11 (.step 13 (.step 14 (.step 15 (.step 16 .done .done) .done) .done) .done) (.step 13 (.step 11 (.step 14 (.step 15 (.step 16 .done .done) .done) .done) .done) .done)) (.step 11 (.step 3 (.step 13 (.step 14 (.step 15 (.step 16 .done .done) .done) .done) .done) (.step 13 (.step 3 (.step 14 (.step 15 (.step 16 .done .done) .done) .done) (.step 14 (.step 3 (.step 15 (.step 16 .done .done) .done) .done) .done)) .done)) (.step 13 (.step 3 (.step 11 (.step 14 (.step 15 (.step 16 .done .done) .done) .done) .done) (.step 11 (.step 3 (.step 14 (.step 15 (.step 16 .done .done) .done) .done) (.step 14 (.step 3 (.step 15 (.step 16 .done .done) .done) .done) .done)) .done)) .done))) (.step 13 (.step 3 (.step 10 (.step 11 (.step 14 (.step 15 (.step 16 .done .done) .done) .done) .done) .done) (.step 10 (.step 3 (.step 11 (.step 14 (.step 15 (.step 16 .done .done) .done) .done) .done) (.step 11 (.step 3 (.step 14 (.step 15 (.step 16 .done .done) .done) .done) (.step 14 (.step 3 (.step 15 (.step 16 .done .done) .done) .done) .done)) .done)) .done)) .done))) (.step 13 (.step 3 (.step 8 (.step 10 (.step 11 (.step 14 (.step 15 (.step 16 .done .done) .done) .done) .done) .done) .done) (.step 8 (.step 3 (.step 10 (.step 11 (.step 14 (.step 15 (.step 16 .done .done) .done) .done) .done) .done) (.step 10 (.step 3 (.step 11 (.step 14 (.step 15 (.step 16 .done .done) .done) .done) .done) (.step 11 (.step 3 (.step 14 (.step 15 (.step 16 .done .done) .done) .done) (.step 14 (.step 3 (.step 15 (.step 16 .done .done) .done) .done) .done)) .done)) .done)) .done)) .done))) (by kernel_rfl) ?_;simp (maxSteps:=2000000) only [go_sem,hgV,hVl,n1,n2,n3,n4,n5,n6,r1,r2,r3,r4,r5,r6]
       refine Sd ?_
       repeat' (first|(with_reducible refine And.intro ?_ ?_)|intro _)
       all_goals first|omega|skip
       all_goals rename_i b' cap' g1 g2 g3 g4 g5
       all_goals simp only[go_sem,g1,g2,g3,hgV,hVl,n1,n2,n3,n4,n5,n6]
       all_goals refine Sd ?_
       all_goals exact⟨_,.refl _,b',cap',g1,g2,g3,rfl⟩
      rintro vs L - ⟨b',cap',q1,q2,q3,rfl,rfl⟩
      have q4:¬b'=b7:=fun e=>q2 e.symm
      simp only[go_sem]
      have hlb:=lft_le hG
      have hdn:(dnA ps.length fun p=>(S p).length - 1).set p (ai ((k:Int)+1))=dnA ps.length fun q=>(upS S p vec q).length - 1:=dnA_set (by rw[upS_len,if_pos rfl,hSk];omega) fun q hq=>by rw[upS_len,if_neg hq]
      have hlz:((lftX ps S:Nat):Int) - 1=(lftX ps (upS S p vec):Nat):=by omega
      have hfin:lftX ps (upS S p vec)<lftX ps S0:=by
       cases hg:g with
       | true=>have:=ht hg;omega
       | false=>have:=congrArg (lftX ps) (hf hg).1;omega
      have hul:(upS S p vec p).length=k+2:=by rw[upS_len,if_pos rfl,hSk]
      repeat(first|((with_reducible refine AWp.ofC ?_ ?_);exact rfl;simp only[go_sem,gd,dnA_length,q1,q2,q3,q4,n1,n2,n5,n6])|((with_reducible refine an ?_ ?_);exact Au))
      rw[hdn,hlz]
      refine⟨_,.refl _,nev ps p+1 - (k+2),by omega,upS S p vec,true,rfl,hcl (upS S p vec) (.ls b' 1 0 (ys.length+1) cap') [(b',_)] _ (fun q hq=>if_neg hq) (by rw[hup];exact AppSt.snoc _ _ _ rfl) ?_,hG',fun h=>(by cases h),fun _=>hfin,by rw[hul]⟩
      exact List.perm_append_comm_assoc [_] [_,_,_] _
    ·refine⟨_,.refl _,S,g,rfl,hV,hG,fun hg=>?_,ht⟩
     obtain⟨e1,e2⟩:=hf hg
     refine⟨e1,fun q hq=>?_⟩
     by_cases e:q=p
     ·subst e
      intro hr
      have:=hr.2.1
      omega
     ·exact e2 q (by omega)
   ·rintro vs L' - ⟨S,g,rfl,hV,hG,hf,ht⟩
    simp only[go_sem]
    refine⟨_,.refl _,_,?_,S,g,rfl,hV,hG,fun hg q=>?_,rfl⟩
    ·cases g with
     | true=>have:=ht rfl;rw[hm,h1];simp only[if_true];omega
     | false =>
      obtain⟨rfl,_⟩:=hf rfl
      rw[hm,h1];simp
    ·by_cases hq:q<ps.length
     ·exact(hf hg).2 q hq
     ·exact fun hr=>hq hr.1
  ·have hex:=exF_eq hG0 (hno0 h1)
   have hG:=exF_gen ps l
   obtain⟨V,Ls,hP,hA⟩:=hV0
   refine AWp.nodup fun hnd=>?_
   have hnd':=(hP.map (·.1)).nodup_iff.1 hnd
   obtain⟨⟨n1,n2⟩,⟨n3,n4⟩,⟨n5,n6⟩,n7⟩:=nd3 hnd'
   have hnd3:((famL ps.length Ls).map (·.1)).Nodup:=by
    simp only[List.map_cons,List.nodup_cons] at hnd'
    exact hnd'.2.2.2
   refine AWp.viewP (Lf:=famL ps.length Ls) (Lk:=[(b7,.row 3 1 (dnA ps.length fun p=>(S0 p).length - 1) ps.length),(b5,.row 107 3 [.agg [aPrs ps,.ls bo 1 0 ps.length cap,ab false]] 1),(bo,.row 33 1 ((List.range ps.length).map V) cap)]) (L':=[(b5,.row 107 3 [.agg [aPrs ps,.ls bo 1 0 ps.length cap,ab false]] 1),(bo,.row 33 1 ((List.range ps.length).map fun q=>.sl 1 ((S0 q).map aInts)) cap)]) (hP.trans ?_) (.drop (.same (.row (fam_views hnd3 hA) .nil))) [] (by simp) ?_
   ·refine(List.Perm.swap _ _ _).trans ?_
    exact List.perm_append_comm (l₁:=[_,_,_])
   refine AWp.viewP (Lf:=[(bo,.row 33 1 ((List.range ps.length).map fun q=>.sl 1 ((S0 q).map aInts)) cap)]) (Lk:=[(b5,.row 107 3 [.agg [aPrs ps,.ls bo 1 0 ps.length cap,ab false]] 1)]) (L':=[(b5,.row 107 3 [.agg [aPrs ps,.sl 1 ((List.range ps.length).map fun q=>.sl 1 ((S0 q).map aInts)),ab false]] 1)]) (List.Perm.swap _ _ _) (.row (Vws.cons (.mkAgg (Vws.cons (.refl _) (Vws.cons (Vw.ofLs (if_pos rfl) (by simp)) (Vws.cons (.refl _) .nil)))) .nil) .nil) [] (by simp) ?_
   simp only[go_sem]
   refine W6 n1 n2 n3 n4 n5 n6 ?_
   refine ret_view [true] ?_
   simp only[go_sem]
   have hd:decide ((lftX ps S0:Int)=0)=decide (lftX ps S0=0):=by simp
   rw[hex,hd]
   exact Vw.ofLp (if_pos rfl)
def aSyns (l:List Syn):AV:=.sl 4 (l.map aSyn)
theorem syns_indexFunc (l:List Syn)(hl:l.length<=1000000)(g:AV)(hgf:fo g=(True,g))(p:Syn->Bool)(hg:∀x ∈ l,PV prog g [aSyn x] (ab (p x))) :
  PC prog 74 [aSyns l,g] (ai (match l.findIdx? p with|some i=>(i:Int)|none=>-1)):=by
 refine PE 19 [.tmp 4] [] func74 ?_;simp only[go_sem]
 refine Sd ?_
 refine AWp.of ?_;simp only[go_sem,aSyns]
 refine AWp.range' l.length [] [0,1,7] (fun k vs L=>L=[]/\∀i (h:i<l.length),i<k->p l[i]=false) (by omega) rfl rfl rfl ⟨rfl,by omega⟩ ?_ ?_
 ·rintro k vs L' hk hvs ⟨rfl,hI⟩
  simp only[go_sem]
  refine Sd ?_
  refine Ao ?_
  have hgk:=hg l[k] (List.getElem_mem hk)
  try simp only[go_sem,aSyn] at hgk
  refine Sd ?_
  refine AWp.of ?_;simp only[go_sem,getD_map hk,hgf,aSyn]
  refine⟨⟨by omega,by omega⟩,hk,hgk.use (AWp.of ?_)⟩;simp only[go_sem]
  refine⟨fun ht=>?_,fun hf=>?_⟩
  ·refine Sd ?_
   refine Ao ?_
   refine Rq ?_
   have:l.findIdx? p=some k:=by rw[List.findIdx?_eq_some_iff_getElem];exact⟨hk,ht,fun j hj=>by simpa using hI j (by omega) hj⟩
   rw[this]
  ·refine⟨[],List.Sublist.refl _,rfl,fun i h hi=>?_⟩
   by_cases e:i=k
   ·subst e;exact hf
   ·exact hI i h (by omega)
 ·rintro vs L' hvs ⟨rfl,hI⟩
  simp only[go_sem]
  refine Sd ?_
  refine Ao ?_
  refine Sd ?_
  refine Ao ?_
  refine Rq ?_
  have:l.findIdx? p=none:=by rw[List.findIdx?_eq_none_iff];intro x hx;obtain⟨i,hi,rfl⟩:=List.getElem_of_mem hx;exact hI i hi hi
  rw[this]
theorem syns_containsFunc (l:List Syn)(hl:l.length<=1000000)(g:AV)(hgf:fo g=(True,g))(p:Syn->Bool)(hg:∀x ∈ l,PV prog g [aSyn x] (ab (p x))) :
  PC prog 35 [aSyns l,g] (ab (l.any p)):=by
 refine PE 9 [.tmp 4] [] func35 ?_;simp only[go_sem]
 refine Sd ?_
 refine AWp.of ?_;simp only[go_sem,hgf,aSyns]
 refine(syns_indexFunc l hl g hgf p hg).val.use ?_
 simp only[go_sem]
 refine Sd ?_
 refine Ao ?_
 refine Rq ?_
 congr 2;exact findIdx_any l p
def badSy (ps:List Pr)(s:Syn):Bool:=!eidOk ps s.1 || !eidOk ps s.2
theorem syn_bad {ps:List Pr}{l:List Syn} : l.any (badSy ps)=false↔SynOk ps l:=by
 have he:∀x:Eid,eidOk ps x=true↔0<=x.1/\x.1<ps.length/\1<=x.2/\x.2<=nev ps x.1.toNat:=fun x=>by
  unfold eidOk
  simp only[Bool.and_eq_true,decide_eq_true_eq]
 rw[List.any_eq_false]
 constructor
 ·intro h s hs
  have:=h s hs
  unfold badSy at this
  rw[Bool.not_eq_true,Bool.or_eq_false_iff,Bool.not_eq_false',Bool.not_eq_false'] at this
  exact⟨(he _).1 this.1,(he _).1 this.2⟩
 ·intro h s hs
  obtain⟨h1,h2⟩:=h s hs
  unfold badSy
  rw[(he _).2 h1,(he _).2 h2];simp
theorem control_check1 (ps:List Pr)(hs:Sm ps)(x:Eid):PC prog 70 [aEid x,.rp 1 [aTr ps] 0 0] (ab (eidOk ps x)):=by
 have hel:∀(p:Nat) (hp:p<ps.length),ps[p].evs.length<=1000000:=fun p hp=>hs.evs _ (List.getElem_mem hp)
 obtain⟨x1,x2⟩:=x
 have hv:eidOk ps (x1,x2)=(decide (0<=x1) && (decide (x1<ps.length) && (decide (1<=x2) && decide (x2<=nev ps x1.toNat)))):=rfl
 have haE:aEid (x1,x2) = .agg [ai x1,ai x2]:=rfl
 rw[haE]
 by_cases hp:x1.toNat<ps.length
 ·have hg:=getD_map (f:=aPr) hp
  rw[nev_get hp] at hv
  generalize ps[x1.toNat]=y at *
  refine PE 33 [.tmp 3] [2] func70 ?_;simp only[go_sem]
  refine Wk ?_
  refine AWp.seq ?_
  refine Sq ?_
  refine AWp.read mixed [0,1,2,3,4,5,6,7,8,9,10,11,12,13,14,15,16,17,18,19,20,21,22,23,24,25,26,27,28,29] (by kernel_rfl) ?_;simp only[go_sem,hg]
  refine⟨fun h1 h2 h3=>⟨⟨⟨h1,h2⟩,h3⟩,h1,h2⟩,fun h1 h2 h3=>⟨⟨⟨h1,h2⟩,h3⟩,hp⟩,?_⟩
  refine Wk ?_
  refine Rq ?_
  rw[hv,Bool.and_assoc,Bool.and_assoc]
 ·have hg:(ps.map aPr).getD x1.toNat .any = .any:=by rw[List.getD_eq_getElem?_getD,List.getElem?_eq_none (by rw[List.length_map];omega)];rfl
  have hx:¬(x1<ps.length)\/x1<0:=by omega
  refine PE 33 [.tmp 3] [2] func70 ?_;simp only[go_sem]
  refine Wk ?_
  refine AWp.seq ?_
  have hnc:¬((0<=x1/\x1<ps.length)/\1<=x2):=by omega
  refine Sq ?_
  refine AWp.read mixed [0,1,2,3,4,5,6,7,8,9,10,11,12,13,14,15,16,17,18,19,20,21,22,23,24,25,26,27,28,29] (by kernel_rfl) ?_;simp only[go_sem,hg,List.getD_nil,hnc]
  refine Wk ?_
  refine Rq ?_
  have:(decide (0<=x1) && decide (x1<ps.length) && decide (1<=x2))=false:=by
   rw[<- Bool.not_eq_true]
   simpa using hnc
  rw[hv,<- Bool.and_assoc,<- Bool.and_assoc,this];rfl
theorem control_check2 (ps:List Pr)(hs:Sm ps)(s:Syn):PC prog 72 [aSyn s,.rp 1 [.clo 70 [.rp 1 [aTr ps] 0 0]] 0 0] (ab (badSy ps s)):=by
 obtain⟨⟨a,b⟩,c,d⟩:=s
 have h1:=(control_check1 ps hs (a,b)).clo (args:=[_]) (caps:=[_])
 have h2:=(control_check1 ps hs (c,d)).clo (args:=[_]) (caps:=[_])
 have hB:badSy ps ((a,b),(c,d))=(!eidOk ps (a,b) || !eidOk ps (c,d)):=rfl
 have e1:aSyn ((a,b),(c,d)) = .agg [ai a,ai b,ai c,ai d]:=rfl
 have e2:aEid (a,b) = .agg [ai a,ai b]:=rfl
 have e3:aEid (c,d) = .agg [ai c,ai d]:=rfl
 rw[e2] at h1
 rw[e3] at h2
 rw[e1,hB]
 generalize eidOk ps (a,b)=x at *
 generalize eidOk ps (c,d)=y at *
 refine PE 16 [.tmp 3] [2] func72 ?_;simp only[go_sem]
 refine Wk ?_
 refine h1.use ?_
 simp only[go_sem]
 refine Wk ?_
 refine GCall.use (ab y) (fun _=>⟨At,h2.use ⟨rfl,rfl⟩⟩) ?_
 simp only[go_sem]
 refine Wk ?_
 exact Rz
noncomputable def syE (ps:List Pr)(l:List Syn):Int:=if 1000<l.length then 5 else if l.any (badSy ps)=true then 2 else if lftX ps (exF ps l)=0 then 0 else 10
noncomputable def aChk (ps:List Pr)(l:List Syn):AV:=if validF ps=false then .tup [.v (.pointer none),ai 1] else if syE ps l=0 then .tup [aOrd ps (exF ps l) true,ai 0] else .tup [.v (.pointer none),ai (syE ps l)]
theorem control_check_bad {ps:List Pr}(hva:PC prog 71 [aTr ps] (ab false))(l:List Syn):PC prog 33 [aTr ps,.sl 4 (l.map aSyn)] (.tup [.v (.pointer none),ai 1]):=by
 refine PE 30 [.tmp 4,.tmp 5] [2,6] func33 ?_;simp only[go_sem]
 refine Wk ?_
 intros
 refine Wk ?_
 refine Sd ?_
 refine Vu hva ?_
 refine Wk ?_
 exact Rz
theorem control_check (ps:List Pr)(hs:Sm ps)(l:List Syn)(hll:l.length<=1000000):PC prog 33 [aTr ps,.sl 4 (l.map aSyn)] (aChk ps l):=by
 have h1:=trace_Valid ps hs
 cases hv:validF ps with
 | false =>
  unfold aChk
  rw[if_pos hv]
  rw[hv] at h1
  exact control_check_bad h1 l
 | true =>
  rw[hv] at h1
  have hA:aChk ps l=if syE ps l=0 then .tup [aOrd ps (exF ps l) true,ai 0] else .tup [.v (.pointer none),ai (syE ps l)]:=by unfold aChk;rw[if_neg (by rw[hv];decide)]
  have hE:syE ps l=if 1000<l.length then 5 else if l.any (badSy ps)=true then 2 else if lftX ps (exF ps l)=0 then 0 else 10:=rfl
  have hlm:(l.map aSyn).length=l.length:=List.length_map _
  by_cases hl:1000<l.length
  ·rw[if_pos hl] at hE
   have hli:(1000:Int)<l.length:=by omega
   rw[hA,hE,if_neg (by decide)]
   refine PE 30 [.tmp 4,.tmp 5] [2,6] func33 ?_;simp only[go_sem]
   refine Wk ?_
   intros
   refine Wk ?_
   refine Sd ?_
   refine(h1).val.use ?_;simp only[go_sem,hlm,hli]
   refine W2 hlm hli ?_
   exact Rz
  ·rw[if_neg hl] at hE
   have hli:¬(1000:Int)<l.length:=by omega
   have hcf:=syns_containsFunc l hll (.clo 72 [.rp 1 [.clo 70 [.rp 1 [aTr ps] 0 0]] 0 0]) rfl (badSy ps) fun s _=>(control_check2 ps hs s).clo (args:=[_]) (caps:=[_])
   have haS:aSyns l = .sl 4 (l.map aSyn):=rfl
   rw[haS] at hcf
   by_cases hb:l.any (badSy ps)=true
   ·rw[if_pos hb] at hE
    rw[hb] at hcf
    rw[hA,hE,if_neg (by decide)]
    refine PE 30 [.tmp 4,.tmp 5] [2,6] func33 ?_;simp only[go_sem]
    refine Wk ?_
    intros
    refine Wk ?_
    refine Sd ?_
    refine(h1).val.use ?_;simp only[go_sem,hlm,hli]
    refine W2 hlm hli ?_
    refine Sd ?_
    refine Vu hcf ?_
    refine Wk ?_
    exact Rz
   ·rw[if_neg hb] at hE
    have hb':l.any (badSy ps)=false:=by simpa using hb
    have hok:=syn_bad.1 hb'
    have hx:=control_extended ps hs hv l hok hll
    rw[hb'] at hcf
    have hO:∀w,aOrd ps (exF ps l) w = .rp 3 [.agg [aPrs ps,.sl 1 ((List.range ps.length).map fun p=>.sl 1 ((exF ps l p).map aInts)),ab w]] 0 0:=fun _=>rfl
    by_cases h0:lftX ps (exF ps l)=0
    ·rw[if_pos h0] at hE
     rw[hA,hE,if_pos rfl]
     rw[decide_eq_true h0] at hx
     rw[hO] at hx ⊢
     generalize (List.range ps.length).map (fun p=>AV.sl 1 ((exF ps l p).map aInts))=TT at *
     refine PE 30 [.tmp 4,.tmp 5] [2,6] func33 ?_;simp only[go_sem]
     refine Wk ?_
     intros
     refine Wk ?_
     refine Sd ?_
     refine(h1).val.use ?_;simp only[go_sem,hlm,hli]
     refine W2 hlm hli ?_
     refine Sd ?_
     refine Vu hcf ?_
     refine Wk ?_
     refine Sd ?_
     refine Vu hx ?_
     refine Wk ?_
     exact Rz
    ·rw[if_neg h0] at hE
     rw[hA,hE,if_neg (by decide)]
     rw[decide_eq_false h0,hO] at hx
     generalize (List.range ps.length).map (fun p=>AV.sl 1 ((exF ps l p).map aInts))=TT at *
     refine PE 30 [.tmp 4,.tmp 5] [2,6] func33 ?_;simp only[go_sem]
     refine Wk ?_
     intros
     refine Wk ?_
     refine Sd ?_
     refine(h1).val.use ?_;simp only[go_sem,hlm,hli]
     refine W2 hlm hli ?_
     refine Sd ?_
     refine Vu hcf ?_
     refine Wk ?_
     refine Sd ?_
     refine Vu hx ?_
     refine Wk ?_
     exact Rz
end Go.AL
end
