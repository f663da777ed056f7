/- Texts of this claim's proof: WY13, WY14. No condition. -/
import Derived.Test.YtbegiibjiidkmaaGreatDoorM17
import Derived.Test.YtbegiibjiidkmaaGreatDoorM14
section
namespace Go.AL
open Go Go.RowKit Proofs.Tryz
set_option maxRecDepth 4000
def aCrs (n:Nat)(P:Nat->Nat->Bool):AV:=match (List.range n).find? fun i=>(List.range n).any (P i) with
 | none=>.tup [ai (-1),ai (-1)]
 | some i=>match (List.range n).find? (P i) with
  | none=>.tup [ai (-1),ai (-1)]
  | some j=>.tup [ai i,ai j]
theorem range_find {n k:Nat}{P:Nat->Bool}(hk:k<n)(h0:∀i,i<k->P i=false)(h:P k=true):(List.range n).find? P=some k:=by
 rw[List.find?_range_eq_some]
 exact⟨h,List.mem_range.2 hk,fun i hi=>by rw[h0 i hi];rfl⟩
theorem crs_hit {n:Nat}{P:Nat->Nat->Bool}{k j:Nat}(hk:k<n)(hj:j<n)(hI:∀i,i<k->∀j,j<n->P i j=false)(hJ:∀j',j'<j->P k j'=false)(h:P k j=true):aCrs n P = .tup [ai k,ai j]:=by
 unfold aCrs
 rw[range_find (P:=fun i=>(List.range n).any (P i)) hk (fun i hi=>by
  rw[List.any_eq_false];intro y hy;rw[hI i hi y (List.mem_range.1 hy)];simp) (List.any_eq_true.2 ⟨j,List.mem_range.2 hj,h⟩)]
 dsimp only
 rw[range_find hj hJ h]
theorem crs_miss {n:Nat}{P:Nat->Nat->Bool}(hI:∀i,i<n->∀j,j<n->P i j=false):aCrs n P = .tup [ai (-1),ai (-1)]:=by
 unfold aCrs
 have:(List.range n).find? (fun i=>(List.range n).any (P i))=none:=by
  rw[List.find?_eq_none]
  intro i hi h
  obtain⟨j,hj,hp⟩:=List.any_eq_true.1 h
  rw[hI i (List.mem_range.1 hi) j (List.mem_range.1 hj)] at hp;cases hp
 rw[this]
theorem crs_cases (n:Nat)(P:Nat->Nat->Bool):(∃i j,i<n/\j<n/\P i j=true/\aCrs n P = .tup [ai i,ai j])\/((∀i,i<n->∀j,j<n->P i j=false)/\aCrs n P = .tup [ai (-1),ai (-1)]):=by
 cases hf:(List.range n).find? fun i=>(List.range n).any (P i) with
 | none =>
  have hI:∀i,i<n->∀j,j<n->P i j=false:=fun i hi j hj=>by
   have:=List.find?_eq_none.1 hf i (List.mem_range.2 hi)
   cases hp:P i j with
   | false=>rfl
   | true=>exact absurd (List.any_eq_true.2 ⟨j,List.mem_range.2 hj,hp⟩) this
  exact .inr ⟨hI,crs_miss hI⟩
 | some i =>
  have h1:=List.mem_range.1 (List.mem_of_find?_eq_some hf)
  have h2:=List.find?_some hf
  cases hg:(List.range n).find? (P i) with
  | none =>
   obtain⟨j,hj,hp⟩:=List.any_eq_true.1 h2
   exact absurd hp (List.find?_eq_none.1 hg j hj)
  | some j =>
   refine .inl ⟨i,j,h1,List.mem_range.1 (List.mem_of_find?_eq_some hg),List.find?_some hg,?_⟩
   unfold aCrs
   rw[hf];dsimp only;rw[hg]
def crP (ps:List Pr)(rows:Nat->List Stp)(x:Nat->Nat)(c:List Int)(i j:Nat):Bool:=decide (i ≠ j) && (decide (cAt c i<((fSp rows i (x i)).2.1:Int)) && !bgN ps (fSp rows i (x i)) (fSp rows j (x j)))
section
variable {ps:List Pr} (hv:validF ps=true)
include hv
theorem rdy_pt {c:List Int}(hc:isF ps c=true){p:Nat}(hp:p<ps.length)(hn:cAt c p<nev ps p):rdyF ps c p=true↔∀q:Nat,q<ps.length->q ≠ p->cAt (ptF ps p (cAt c p).toNat) q<=cAt c q:=by
 obtain⟨hl,hr,_⟩:=isF_iff.1 hc
 have h0:=((inRange_iff hl).1 hr p hp).1
 constructor
 ·intro h q hq hqp
  have h1:=pt_least hv hp (i:=(cAt c p).toNat) (rdy_is h) (by rw[stpC_at hc hp,if_pos rfl];omega) q hq
  rw[stpC_at hc hq,if_neg fun e=>hqp e.symm] at h1
  exact h1
 ·intro h
  have hi:(cAt c p).toNat<nev ps p:=by omega
  have hpt:=pt_isN hv hp hi
  have hptl:=(isF_iff.1 hpt).1
  have hself:=pt_self hv hp hi
  have hj:joinL c (ptF ps p (cAt c p).toNat)=stpC c p:=by
   refine List.ext_getElem (by rw[join_len (by omega)];unfold stpC;rw[List.length_set]) fun q h1 h2=>?_
   have hq:q<ps.length:=by rw[join_len (by omega)] at h1;omega
   rw[<- cAt_nat,<- cAt_nat,join_cAt (by omega) (by omega),stpC_at hc hq]
   by_cases e:p=q
   ·subst e;rw[if_pos rfl,hself];split <;> omega
   ·rw[if_neg e,if_neg]
    have:=h q hq (fun e'=>e e'.symm)
    omega
  have hu:isF ps (joinL c (ptF ps p (cAt c p).toNat))=true:=(isF_given hv).1 (join_given ((isF_given hv).2 hc) ((isF_given hv).2 hpt))
  rw[hj] at hu
  unfold rdyF
  exact decide_eq_true ⟨hn,hu⟩
variable (hs:Sm ps)
include hs
theorem order_enabled (w:Bool){c:List Int}(hc:isF ps c=true){p:Nat}(hp:p<ps.length)(hn:cAt c p<nev ps p) :
  PC prog 101 [aOrd ps (exF ps []) w,.sl 1 (c.map ai),ai p] (ab (rdyF ps c p)):=by
 obtain⟨hl,hr,_⟩:=isF_iff.1 hc
 have h0:=((inRange_iff hl).1 hr p hp).1
 have hiff:=rdy_pt hv hc hp hn
 obtain⟨i,hi⟩:∃i:Nat,cAt c p=i:=⟨(cAt c p).toNat,by omega⟩
 have hps:=hs.procs
 have hnb:nev ps p<=1000000:=by rw[nev_get hp];exact hs.evs _ (List.getElem_mem hp)
 rw[hi] at hiff hn
 rw[Int.toNat_natCast] at hiff
 obtain⟨g1,g2,g3,g4⟩:=ord_at hv hp (show i<nev ps p by omega)
 have hTl:((List.range ps.length).map fun p=>AV.sl 1 ((exF ps [] p).map aInts)).length=ps.length:=by simp
 have g5:(c.map ai).getD p .any=ai i:=by rw[getD_map (by omega),<- cAt_nat,hi]
 have g6:((i:Int)+1).toNat=i+1:=by omega
 have hcl:(c.map ai).length=ps.length:=by rw[List.length_map,hl]
 have hcg:∀q (hq:q<ps.length),(c.map ai).getD q .any=ai (cAt c q):=fun q hq=>by rw[getD_map (by omega),<- cAt_nat]
 have hpg:∀q (hq:q<ps.length),((ptF ps p i).map ai).getD q .any=ai (cAt (ptF ps p i) q):=fun q hq=>by rw[getD_map (by omega),<- cAt_nat]
 have hpl:((ptF ps p i).map ai).length=ps.length:=by rw[List.length_map,g4]
 unfold aOrd
 generalize ((List.range ps.length).map fun p=>AV.sl 1 ((exF ps [] p).map aInts))=T at *
 generalize rdyF ps c p=E at *
 generalize (ptF ps p i).map ai=PT at *
 generalize c.map ai=CC at *
 refine PE 41 [.tmp 6] [] func101 ?_;simp only[go_sem]
 refine Wk ?_
 refine Sq ?_
 refine AWp.read mixed [0,1,2,3,4,5,6,7,8,9,10,11,12,13,14,15] (by kernel_rfl) ?_;simp only[go_sem,g1,g2,g3,g5,g6,hTl,hcl]
 refine Sd ?_
 refine AWp.range' ps.length [] [1,2,22,23] (fun k vs L=>L=[]/\vs=[]/\∀q:Nat,q<k->q ≠ p->cAt (ptF ps p i) q<=cAt c q) (by omega) rfl (by rw[hpl];rfl) rfl ⟨rfl,rfl,fun _ h=>by omega⟩ ?_ ?_
 ·rintro k vs L hk - ⟨rfl,rfl,hI⟩
  have hkp:((k:Int)=p)↔k=p:=by omega
  have e1:=hcg k hk
  have e2:=hpg k hk
  simp only[go_sem]
  refine W5 e1 e2 hcl hpl hkp ?_
  refine W5 e1 e2 hcl hpl hkp ?_
  refine⟨fun h1 h2=>?_,fun h1=>?_⟩
  ·have:E=false:=by
    cases E with
    | false=>rfl
    | true=>have:=hiff.1 rfl k hk h1;omega
   rw[this]
   refine Wk ?_
   exact Rz
  ·refine Wk ?_
   refine⟨_,.refl _,rfl,fun q hq hqp=>?_⟩
   by_cases e:q=k
   ·subst e;have:=h1 hqp;omega
   ·exact hI q (by omega) hqp
 ·rintro vs L - ⟨rfl,rfl,hI⟩
  have:E=true:=hiff.2 hI
  rw[this]
  simp only[go_sem]
  refine Wk ?_
  exact Rz
theorem order_cross (w:Bool){b:Nat->Nat->Bool}{rows:Nat->List Stp}(hR:RowsOk ps b rows)(hlen:∀p,p<ps.length->(rows p).length<=1000000){c:List Int}(hc:isF ps c=true){x:Nat->Nat}(hx:∀p,p<ps.length->x p<(rows p).length) :
  PC prog 102 [aOrd ps (exF ps []) w,.sl 1 (c.map ai),.sl 1 (rowsD ps.length rows x)] (aCrs ps.length (crP ps rows x c)):=by
 obtain⟨hl,hr,_⟩:=isF_iff.1 hc
 have hps:=hs.procs
 have hhit:=fun k j=>@crs_hit ps.length (crP ps rows x c) k j
 have hmiss:=@crs_miss ps.length (crP ps rows x c)
 have hbg:=fun a o h1 h2 h3=>order_begins hv hs w a o h1 h2 h3
 have hnb:=fun p (hp:p<ps.length)=>show nev ps p<=1000000 by rw[nev_get hp];exact hs.evs _ (List.getElem_mem hp)
 have hel:=fun p (hp:p<ps.length) i (hi:i<(rows p).length)=>(hR p hp).el _ (List.getElem_mem hi)
 have hcl:(c.map ai).length=ps.length:=by rw[List.length_map,hl]
 have hcg:∀q (hq:q<ps.length),(c.map ai).getD q .any=ai (cAt c q):=fun q hq=>by rw[getD_map (by omega),<- cAt_nat]
 have hl2:=rowsD_len ps.length rows x
 have hrg:=fun p (hp:p<ps.length)=>rowsD_get hp rows x
 have hfo:=fun p (hp:p<ps.length)=>rowsD_hd (hx p hp)
 obtain⟨O,hO⟩:∃O,O=aOrd ps (exF ps []) w:=⟨_,rfl⟩
 have hOf:fo O=(True,O):=by rw[hO];rfl
 rw[<- hO] at hbg ⊢
 generalize aCrs ps.length (crP ps rows x c)=R at *
 generalize rowsD ps.length rows x=RD at *
 generalize c.map ai=CC at *
 refine PE 58 [.tmp 6,.tmp 7] [] func102 ?_;simp only[go_sem]
 refine W2 hOf hl2 ?_
 refine AWp.range' ps.length [] [0,1,2,11] (fun k vs L=>L=[]/\vs=[]/\∀i,i<k->∀j,j<ps.length->crP ps rows x c i j=false) (by omega) rfl rfl rfl ⟨rfl,rfl,fun _ h=>by omega⟩ ?_ ?_
 ·rintro k vs L hk - ⟨rfl,rfl,hI⟩
  simp only[go_sem,hOf]
  refine W2 hOf hl2 ?_
  refine AWp.range' ps.length [] [0,1,2,8,11,12,16] (fun j vs L=>L=[]/\vs=[]/\∀j',j'<j->crP ps rows x c k j'=false) (by omega) rfl rfl rfl ⟨rfl,rfl,fun _ h=>by omega⟩ ?_ ?_
  ·rintro j vs L hj - ⟨rfl,rfl,hJ⟩
   have hkj:((k:Int)=j)↔k=j:=by omega
   have g1:=hrg k hk
   have g2:=hrg j hj
   have g3:=hcg k hk
   have q1:=hfo k hk
   have q2:=hfo j hj
   have hkl:=hel k hk (x k) (hx k hk)
   have hjl:=hel j hj (x j) (hx j hj)
   rw[<- fSp_eq] at hkl hjl
   obtain⟨c1,c2,c3,_⟩:=hkl
   obtain⟨d1,d2,d3,_⟩:=hjl
   have hb:=hbg (fSp rows k (x k)) (fSp rows j (x j)) ⟨by rw[c1];exact hk,by rw[c1];omega⟩ ⟨by rw[d1];exact hj,by rw[d1];omega⟩ (by have:=hnb k hk;omega)
   have hcr:crP ps rows x c k j=(decide (k ≠ j) && (decide (cAt c k<((fSp rows k (x k)).2.1:Int)) && !bgN ps (fSp rows k (x k)) (fSp rows j (x j)))):=rfl
   have hh:=hhit k j hk hj hI hJ
   have hJ2:crP ps rows x c k j=false->∀j',j'<j+1->crP ps rows x c k j'=false:=fun h j' hj'=>by
    by_cases e:j'=j
    ·subst e;exact h
    ·exact hJ j' (by omega)
   have hlk:=hlen k hk
   have hlj:=hlen j hj
   have hxk:=hx k hk
   have hxj:=hx j hj
   have hdk:(((rows k).drop (x k)).map aStp).length=(rows k).length - x k:=by rw[List.length_map,List.length_drop]
   have hdj:(((rows j).drop (x j)).map aStp).length=(rows j).length - x j:=by rw[List.length_map,List.length_drop]
   generalize bgN ps (fSp rows k (x k)) (fSp rows j (x j))=B at *
   have es:aStp (fSp rows k (x k)) = .agg [ai (fSp rows k (x k)).1,ai (fSp rows k (x k)).2.1,ai (fSp rows k (x k)).2.2]:=rfl
   have eu:aStp (fSp rows j (x j)) = .agg [ai (fSp rows j (x j)).1,ai (fSp rows j (x j)).2.1,ai (fSp rows j (x j)).2.2]:=rfl
   rw[es] at hb q1
   rw[eu] at hb q2
   rw[hcr] at hh hJ2
   clear hcr
   generalize ((rows k).drop (x k)).map aStp=X at *
   generalize ((rows j).drop (x j)).map aStp=Y at *
   generalize cAt c k=ck at *
   generalize (fSp rows k (x k)).2.1=fk at *
   by_cases hne:k=j
   ·subst hne
    simp only[go_sem,hOf]
    refine W1 hOf ?_
    refine Sq ?_
    refine AWp.read mixed [0,1,2,3,4,5,6,7,8,9,10,11,12,13,14,15,16,17,18,19,20,21,22,23,24,25,26,27,28,29,30,31,32,33] (by kernel_rfl) ?_;simp only[go_sem,g1,g2,g3,hl2,q1,q2,hOf,hcl]
    refine Sd ?_
    refine GCall.use (ab false) (fun h=>absurd h (by simp)) ?_
    simp only[go_sem,hOf]
    refine Sd ?_
    refine W1 hOf ?_
    exact⟨_,.refl _,rfl,hJ2 (by simp)⟩
   by_cases hlt:ck<(fk:Int)
   ·simp only[go_sem,hOf]
    refine W1 hOf ?_
    refine Sq ?_
    refine AWp.read mixed [0,1,2,3,4,5,6,7,8,9,10,11,12,13,14,15,16,17,18,19,20,21,22,23,24,25,26,27,28,29,30,31,32,33] (by kernel_rfl) ?_;simp only[go_sem,g1,g2,g3,hl2,q1,q2,hOf,hkj,hne,hcl,hlt]
    refine Sd ?_
    refine Sd ?_
    refine GCall.use (ab B) (fun _=>⟨At,(hb).val.use ⟨rfl,rfl⟩⟩) ?_;simp only[go_sem,hOf]
    refine Sd ?_
    refine W1 hOf ?_
    constructor<;>intro h3
    ·rw[hh (by simp [hne,hlt,h3])]
     refine Wk ?_
     exact Rz
    ·refine W1 hOf ?_
     exact⟨_,.refl _,rfl,hJ2 (by simp [h3])⟩
   ·simp only[go_sem,hOf]
    refine W1 hOf ?_
    refine Sq ?_
    refine AWp.read mixed [0,1,2,3,4,5,6,7,8,9,10,11,12,13,14,15,16,17,18,19,20,21,22,23,24,25,26,27,28,29,30,31,32,33] (by kernel_rfl) ?_;simp only[go_sem,g1,g2,g3,hl2,q1,q2,hOf,hkj,hne,hcl,hlt]
    refine Sd ?_
    refine GCall.use (ab false) (fun h=>absurd h (by simp [hlt])) ?_
    simp only[go_sem,hOf]
    refine Sd ?_
    refine W1 hOf ?_
    exact⟨_,.refl _,rfl,hJ2 (by simp [hlt])⟩
  ·rintro vs L - ⟨rfl,rfl,hJ⟩
   simp only[go_sem,hOf]
   refine W1 hOf ?_
   refine⟨_,.refl _,rfl,fun i hi=>?_⟩
   by_cases e:i=k
   ·subst e;exact hJ
   ·exact hI i (by omega)
 ·rintro vs L - ⟨rfl,rfl,hI⟩
  rw[hmiss hI]
  simp only[go_sem,hOf]
  refine W1 hOf ?_
  exact Rz
end
theorem evtG_app:∀ {R S:List (List Int)} {c d:List Int},(c :: R).getLast?=some d->evtG c (R ++ S)=evtG c R ++ evtG d S
 | [],S,c,d,h=>by
  have:c=d:=by simpa using h
  subst this;rfl
 | a :: R,S,c,d,h=>by
  have h':(a :: R).getLast?=some d:=by rw[List.getLast?_cons_cons] at h;exact h
  show (stepF c a,cAt a (stepF c a)) :: evtG a (R ++ S)=((stepF c a,cAt a (stepF c a)) :: evtG a R) ++ evtG d S
  rw[evtG_app h'];rfl
theorem evtG_one {ps:List Pr}{d:List Int}(hd:isF ps d=true){p:Nat}(hp:p<ps.length):evtG d [stpC d p]=[((p:Int),cAt d p+1)]:=by
 have hl:=(isF_iff.1 hd).1
 have:stepF d (stpC d p)=p:=stepF_iff.2 ⟨by omega,rfl⟩
 show [(stepF d (stpC d p),cAt (stpC d p) (stepF d (stpC d p)))]=_
 rw[this,stpC_at hd hp,if_pos rfl]
theorem chn_one {ps:List Pr}{d:List Int}(hd:isF ps d=true){p:Nat}(hp:p<ps.length)(hr:rdyF ps d p=true):chnF ps d [stpC d p]=true :=
 (chn_cons hd).2 ⟨p,hp,hr,rfl,stepF_iff.2 ⟨by rw[(isF_iff.1 hd).1];exact hp,rfl⟩,rfl⟩
def AdvL (n bc bx:Nat)(d:List Int)(E:List Eid)(L:AHeap):Prop :=
 ∃v Le,L=(bc,.row 3 1 (d.map ai) n) :: (bx,.row 102 1 [v] 1) :: Le/\AppSt 53 2 (E.map aEid) v Le/\bc ≠ bx/\∀y ∈ Le,y.1 ≠ bc/\y.1 ≠ bx
set_option maxHeartbeats 1000000 in
theorem order_advance {ps:List Pr}(hs:Sm ps)(hv:validF ps=true)(w:Bool)(bc bx:Nat){c to:List Int}(hc:isF ps c=true)(ht:isF ps to=true)(hle:leqF c to=true)(E:List Eid)(hE:E.length+(to.sum - c.sum).toNat<=1000){L:AHeap}(hL:AdvL ps.length bc bx c E L) :
  MCalls prog 100 [.sl 1 (to.map ai),.rp 1 [.ls bc 1 0 ps.length ps.length] 0 0,.rp 1 [aOrd ps (exF ps []) w] 0 0,.lp bx 1 0 0] L fun r L=>r = .tup []/\∃R,chnF ps c R=true/\(c :: R).getLast?=some to/\AdvL ps.length bc bx to (E ++ evtG c R) L:=by
 obtain⟨hcl,hcr,_⟩:=isF_iff.1 hc
 obtain⟨htl,htr,_⟩:=isF_iff.1 ht
 have hps:=hs.procs
 have hsum:=(leq_sum hle).1
 have hen:=fun d hd p hp hn=>order_enabled hv hs w (c:=d) hd (p:=p) hp hn
 obtain⟨X,hX⟩:∃X,aOrd ps (exF ps []) w = .rp 3 X 0 0:=⟨_,rfl⟩
 have hOf:fo (.rp 3 X 0 0)=(True,.rp 3 X 0 0):=rfl
 rw[hX] at hen ⊢
 have htg:∀q (hq:q<ps.length),(to.map ai).getD q .any=ai (cAt to q):=fun q hq=>by rw[getD_map (by omega),<- cAt_nat]
 have html:(to.map ai).length=ps.length:=by rw[List.length_map,htl]
 generalize to.map ai=TT at *
 refine MCalls.enter' 44 [] [41] func100 rfl rfl rfl rfl rfl (by simp) (AWp.of ?_);simp only[go_sem]
 refine AWp.block (AWp.loopN [5] [0,1,2,3] (fun m vs L=>∃(g:Bool) (d:List Int) (R:List (List Int)),vs=[ab g]/\isF ps d=true/\leqF d to=true/\chnF ps c R=true/\(c :: R).getLast?=some d/\AdvL ps.length bc bx d (E ++ evtG c R) L /\
  (g=false->d=to)/\m=2 * (to.sum - d.sum).toNat+(if g=true then 1 else 0)) (2 * (to.sum - c.sum).toNat+1) ⟨true,c,[],rfl,hc,hle,rfl,rfl,by rw[show evtG c []=[] from rfl,List.append_nil];exact hL,fun h=>(by cases h),by simp⟩ ?_)
 rintro m vs L - ⟨g0,d0,R0,rfl,hd0,hdl0,hch0,hla0,hL0,hto0,hm⟩
 simp only[go_sem,hOf]
 refine W1 hOf ?_
 constructor<;>intro h1
 ·obtain⟨v0,Le0,rfl,hA0,hne,hnl0⟩:=id hL0
  refine W1 hOf ?_
  refine AWp.range' ps.length [5] [0,1,2,3,9] (fun p vs L=>∃(g:Bool) (d:List Int) (R:List (List Int)),vs=[ab g]/\isF ps d=true/\leqF d to=true/\chnF ps c R=true/\(c :: R).getLast?=some d/\AdvL ps.length bc bx d (E ++ evtG c R) L /\
   (g=false->d=d0/\∀q:Nat,q<p->¬(cAt d q<cAt to q/\rdyF ps d q=true))/\(g=true->d0.sum<d.sum)) (by omega) rfl rfl rfl ⟨false,d0,R0,rfl,hd0,hdl0,hch0,hla0,hL0,fun _=>⟨rfl,fun q h=>by omega⟩,fun h=>by cases h⟩ ?_ ?_
  ·rintro p vs L hp - ⟨g1,d1,R1,rfl,hd1,hdl1,hch1,hla1,hL1,hf1,ht1⟩
   simp only[go_sem,hOf]
   refine W1 hOf ?_
   refine AWp.block (AWp.loopN [5] [0,1,2,3,6,9,10] (fun m vs L=>∃(g:Bool) (d:List Int) (R:List (List Int)),vs=[ab g]/\isF ps d=true/\leqF d to=true/\chnF ps c R=true/\(c :: R).getLast?=some d/\AdvL ps.length bc bx d (E ++ evtG c R) L /\
    (g=false->d=d0/\∀q:Nat,q<p->¬(cAt d q<cAt to q/\rdyF ps d q=true))/\(g=true->d0.sum<d.sum)/\m=(to.sum - d.sum).toNat) (to.sum - d1.sum).toNat ?_ ?_)
   ·exact⟨g1,d1,R1,rfl,hd1,hdl1,hch1,hla1,hL1,hf1,ht1,rfl⟩
   rintro m' vs L - ⟨g,d,R,rfl,hd,hdl,hch,hla,hL2,hf,ht3,rfl⟩
   obtain⟨v,Le,rfl,hA,-,hnl⟩:=id hL2
   obtain⟨hdll,hdr,_⟩:=isF_iff.1 hd
   have hpr:=(inRange_iff hdll).1 hdr p hp
   have htr2:=(inRange_iff htl).1 htr p hp
   have hnv:=nev_get hp
   have hnb:=hs.evs _ (List.getElem_mem hp)
   have gd:(d.map ai).getD p .any=ai (cAt d p):=by rw[getD_map (by omega),<- cAt_nat]
   have hdm:(d.map ai).length=ps.length:=by rw[List.length_map,hdll]
   have gt:=htg p hp
   have n1:¬bc=bx:=hne
   have n2:¬bx=bc:=fun e=>hne e.symm
   have hex:¬(cAt d p<cAt to p/\rdyF ps d p=true)->g=false->d=d0/\∀q:Nat,q<p+1->¬(cAt d q<cAt to q/\rdyF ps d q=true):=fun h hg=>by
    obtain⟨e1,e2⟩:=hf hg
    refine⟨e1,fun q hq=>?_⟩
    by_cases e:q=p
    ·subst e;exact h
    ·exact e2 q (by omega)
   have hdsum:=(leq_sum hdl).1
   have hcd:=chn_last hc hch hla
   have hlE:(E ++ evtG c R).length<=1000:=by rw[List.length_append,evtG_len];omega
   simp only[go_sem,hOf]
   by_cases hlt:cAt d p<cAt to p
   ·have he:=hen d hd p hp (by omega)
    have hvw:Vws ((bc,.row 3 1 (d.map ai) ps.length) :: (bx,.row 102 1 [v] 1) :: Le) [.rp 3 X 0 0,.ls bc 1 0 ps.length ps.length,ai p] [.rp 3 X 0 0,.sl 1 (d.map ai),ai p]:=Vws.cons (.refl _) (Vws.cons (Vw.ofLs (if_pos rfl) hdm.symm) (Vws.refl _))
    have hsd:=evtG_one hd hp
    have hco:=chn_one hd hp (p:=p)
    refine AWp.seq ?_
    refine Sq ?_
    refine AWp.read mixed [0,1,2,3,4,5,6,7,8,9,10,11,12,13,14] (by kernel_rfl) ?_;simp only[go_sem,gd,gt,hdm,html,n1,n2,hOf,hlt]
    refine Sd ?_
    refine GCall.use (ab (rdyF ps d p)) (fun _=>⟨At,(PC.view hvw he (Own.v _) ⟨rfl,rfl⟩).val⟩) ?_
    simp only[go_sem,hOf]
    refine Sd ?_
    generalize hre:rdyF ps d p=re at *
    refine W1 hOf ?_
    constructor<;>intro h3
    ·have hset:(d.map ai).set p (ai (cAt d p+1))=(stpC d p).map ai:=by unfold stpC;rw[List.map_set]
     have hrd:=hco h3
     have hd':isF ps (stpC d p)=true:=rdy_is (p:=p) (by rw[hre];exact h3)
     have hdl':leqF (stpC d p) to=true:=(leq_at (isF_iff.1 hd').1 htl).2 fun q hq=>by
      rw[stpC_at hd hq]
      have:=(leq_at hdll htl).1 hdl q hq
      split
      ·rename_i e;subst e;omega
      ·exact this
     have hsp:(stpC d p).sum=d.sum+1:=sum_stpC (by omega)
     have hch':=chn_app hla hch hrd
     have hla':(c :: (R ++ [stpC d p])).getLast?=some (stpC d p):=by rw[<- List.cons_append,List.getLast?_append];rfl
     have hev:E ++ evtG c (R ++ [stpC d p])=(E ++ evtG c R) ++ [((p:Int),cAt d p+1)]:=by rw[evtG_app hla,hsd,List.append_assoc]
     have hfin:d0.sum<(stpC d p).sum:=by
      cases hg:g with
      | true=>have:=ht3 hg;omega
      | false=>have:=(hf hg).1;subst this;omega
     have gd2:((stpC d p).map ai).getD p .any=ai (cAt d p+1):=by rw[getD_map (by unfold stpC;rw[List.length_set];omega),<- cAt_nat,stpC_at hd hp,if_pos rfl]
     have hdm2:((stpC d p).map ai).length=ps.length:=by rw[List.length_map];exact(isF_iff.1 hd').1
     have hmeas:(to.sum - (stpC d p).sum).toNat<(to.sum - d.sum).toNat:=by
      have:=(leq_sum hdl').1
      omega
     refine W5 gd hdm n1 n2 hOf ?_
     rw[hset]
     generalize stpC d p=d2 at *
     generalize cAt d p=z at *
     have hyl:((E ++ evtG c R).map aEid).length<=1000:=by rw[List.length_map];exact hlE
     have hmapE:(E ++ evtG c (R ++ [d2])).map aEid=(E ++ evtG c R).map aEid ++ [.agg [ai p,ai (z+1)]]:=by rw[hev,List.map_append];rfl
     generalize hys:(E ++ evtG c R).map aEid=ys at *
     refine AWp.cut [0,1,2,3,5,6,9,10] (fun vs L=>∃v' Le',L=Le' ++ [(bc,.row 3 1 (d2.map ai) ps.length),(bx,.row 102 1 [v'] 1)]/\AppSt 53 2 (ys ++ [.agg [ai p,ai (z+1)]]) v' Le'/\(∀y ∈ Le',y.1 ≠ bc/\y.1 ≠ bx) /\
      vs=[.sl 1 TT,.rp 1 [.ls bc 1 0 ps.length ps.length] 0 0,.rp 1 [.rp 3 X 0 0] 0 0,.lp bx 1 0 0,ab g,ai p,ai ps.length,ai p]) ?_ ?_
     ·rcases hA.inv with ⟨e1,rfl,rfl⟩|⟨be,cap,rfl,rfl⟩
      ·refine Sq ?_
       refine AWp.mix mixed [1,2,3,4] (.step 0 (.step 5 (.step 6 (.step 7 (.step 8 (.step 9 .done .done) .done) .done) .done) .done) (.step 5 (.step 0 (.step 6 (.step 7 (.step 8 (.step 9 .done .done) .done) .done) .done) (.step 6 (.step 0 (.step 7 (.step 8 (.step 9 .done .done) .done) .done) (.step 7 (.step 0 (.step 8 (.step 9 .done .done) .done) .done) .done)) .done)) .done)) (by kernel_rfl) ?_;simp only[go_sem,gd2,hdm2,n1,n2]
       refine Sd ?_
       repeat' (first|(with_reducible refine And.intro ?_ ?_)|intro _)
       all_goals first|omega|skip
       all_goals rename_i b' cap' g1 g2 g3
       all_goals have nb1:¬bx=b':=by omega
       all_goals have nb2:¬bc=b':=by omega
       all_goals simp only[go_sem,nb1,nb2,n1,n2]
       all_goals refine Sd ?_
       all_goals exact⟨_,.refl _,.ls b' 2 0 1 cap',[(b',.row 53 2 [.agg [ai p,ai (z+1)]] cap')],rfl,by rw[e1];exact .row _ [_] _,by intro y hy;obtain rfl:=List.mem_singleton.1 hy;exact⟨fun e=>nb2 e.symm,fun e=>nb1 e.symm⟩⟩
      ·obtain⟨n3,n4⟩:=hnl (be,_) (List.mem_singleton_self _)
       simp only at n3 n4
       have n5:¬be=bc:=n3
       have n6:¬be=bx:=n4
       have n7:¬bc=be:=fun e=>n3 e.symm
       have n8:¬bx=be:=fun e=>n4 e.symm
       refine Sq ?_
       refine AWp.mix mixed [1,2,3,4] (.step 0 (.step 5 (.step 6 (.step 7 (.step 8 (.step 9 .done .done) .done) .done) .done) .done) (.step 5 (.step 0 (.step 6 (.step 7 (.step 8 (.step 9 .done .done) .done) .done) .done) (.step 6 (.step 0 (.step 7 (.step 8 (.step 9 .done .done) .done) .done) (.step 7 (.step 0 (.step 8 (.step 9 .done .done) .done) .done) .done)) .done)) .done)) (by kernel_rfl) ?_;simp only[go_sem,gd2,hdm2,n1,n2,n5,n6,n7,n8]
       refine Sd ?_
       repeat' (first|(with_reducible refine And.intro ?_ ?_)|intro _)
       all_goals first|omega|skip
       all_goals rename_i b' cap' g1 g2 g3
       all_goals have nb1:¬bx=b':=by omega
       all_goals have nb2:¬bc=b':=by omega
       all_goals simp only[go_sem,nb1,nb2,n1,n2,n5,n6,n7,n8]
       all_goals refine Sd ?_
       all_goals exact⟨_,.refl _,.ls b' 2 0 (ys.length+1) cap',[(b',.row 53 2 (ys ++ [.agg [ai p,ai (z+1)]]) cap')],rfl,AppSt.snoc _ _ _ rfl,by intro y hy;obtain rfl:=List.mem_singleton.1 hy;exact⟨fun e=>nb2 e.symm,fun e=>nb1 e.symm⟩⟩
     ·rintro vs L - ⟨v',Le',rfl,hA',hnl',rfl⟩
      refine AWp.perm (List.perm_append_comm (l₂:=[_,_])) ?_
      simp only[go_sem,List.cons_append,List.nil_append]
      refine W1 hOf ?_
      refine⟨_,.refl _,_,hmeas,true,d2,R ++ [d2],rfl,hd',hdl',hch',hla',⟨v',Le',rfl,by rw[hmapE];exact hA',hne,hnl'⟩,fun h=>(by cases h),fun _=>hfin,rfl⟩
    ·exact⟨_,.refl _,g,d,R,rfl,hd,hdl,hch,hla,hL2,hex (fun h=>by rw[h3] at h;cases h.2),ht3⟩
   ·refine AWp.seq ?_
    refine Sq ?_
    refine AWp.read mixed [0,1,2,3,4,5,6,7,8,9,10,11,12,13,14] (by kernel_rfl) ?_;simp only[go_sem,gd,gt,hdm,html,n1,n2,hOf,hlt]
    refine Sd ?_
    refine GCall.use (ab false) (fun h=>absurd h (by simp [hlt])) ?_
    simp only[go_sem,hOf]
    refine Sd ?_
    refine W1 hOf ?_
    exact⟨_,.refl _,g,d,R,rfl,hd,hdl,hch,hla,hL2,hex (fun h=>hlt h.1),ht3⟩
  ·rintro vs L - ⟨g,d,R,rfl,hd,hdl,hch,hla,hL2,hf,ht3⟩
   simp only[go_sem,hOf]
   refine⟨_,.refl _,_,?_,g,d,R,rfl,hd,hdl,hch,hla,hL2,fun hg=>?_,rfl⟩
   ·have:=(leq_sum hdl).1
    have:=(leq_sum hdl0).1
    cases g with
    | true=>have:=ht3 rfl;rw[hm,h1];simp only[if_true];omega
    | false =>
     obtain⟨rfl,_⟩:=hf rfl
     rw[hm,h1];simp
   ·obtain⟨rfl,hno⟩:=hf hg
    by_cases e:d.sum=to.sum
    ·exact(leq_sum hdl).2 e
    ·exfalso
     have:=(leq_sum hdl).1
     obtain⟨p,h2,h3,h4,h5⟩:=first_to hv hd ht hdl (by omega)
     have h6:=firstP_some h2
     refine hno p h3 ⟨?_,h6.2.1⟩
     have h7:=(leq_at (isF_iff.1 h4).1 htl).1 h5 p h3
     rw[stpC_at hd h3,if_pos rfl] at h7
     omega
 ·obtain rfl:=hto0 h1
  refine W1 hOf ?_
  refine ret_own ?_
  simp only[go_sem]
  exact⟨R0,hch0,hla0,hL0⟩
end Go.AL
end
