/- Texts of this claim's proof: WY10, WY17, WY18, WY19, WY34, WY4, WY22. No condition. -/
import Derived.Test.YtbegiibjiidkmaaGreatDoorM21
import Derived.Test.YtbegiibjiidkmaaGreatDoorM19
import Derived.Test.YtbegiibjiidkmaaGreatDoorM27
import Derived.Test.YtbegiibjiidkmaaGreatDoorM20
import Derived.Test.YtbegiibjiidkmaaGreatDoorM17
import Derived.Test.YtbegiibjiidkmaaGreatDoorM18
import Derived.Test.YtbegiibjiidkmaaGreatDoorM13
section
namespace Go.AL
open Go Go.RowKit Proofs.Tryz
set_option maxRecDepth 4000
def psE:List Pr:=[⟨⟨#[97]⟩,[],[⟨1,0,0,0,[]⟩,⟨1,0,0,0,[]⟩]⟩,⟨⟨#[98]⟩,[],[⟨1,0,0,0,[]⟩,⟨1,0,0,0,[]⟩]⟩]
def notE (p:Int):Pd:=.mk 10 0 0 0 ByteArray.empty [.mk 3 0 p 0 ByteArray.empty [],.mk 1 1 0 0 ByteArray.empty []]
def tsE:List Pd:=[notE 0,notE 1]
theorem psE_valid:validF psE=true:=by
 unfold validF faultF
 rw[if_neg (by decide),show procFirst psE=none from rfl,show evFirst psE=none from rfl,show msgF psE=none from rfl,cycF_rank (fun x=>x.2) (by decide)]
 rfl
theorem psE_sm:Sm psE:=⟨by decide,by decide,by decide,by decide⟩
theorem lclE {p:Int}{t:Pd}(h1:formedB t=true)(h2:allB (resB psE) t=true)(h3:typedB t=true)(h4:fitB psE t=true)(h5:0<=p/\p<2)(h7:¬t.kind<=8)(h8:allB (lclB p) t=true):lclF psE p 0 t=0:=by
 have hc:checkF psE t=0:=by
  unfold checkF
  rw[psE_valid,h1,h2,h3,h4];rfl
 have hn:0<=evN psE p:=by
  unfold evN;split <;> omega
 have hl:(psE.length:Int)=2:=rfl
 unfold lclF
 rw[hc,if_neg (by decide),if_neg (by omega),if_neg h7,h8];rfl
theorem conF_E:conF psE tsE=0:=conF_zero ⟨psE_valid,rfl⟩ fun q hq=>by
 have hq:q<2:=hq
 rcases q with _|_|q
 ·exact lclE rfl rfl rfl rfl (by decide) (show ¬(_:Int)<=8 from by simp [tsE,notE,Pd.kind]) rfl
 ·exact lclE rfl rfl rfl rfl (by decide) (show ¬(_:Int)<=8 from by simp [tsE,notE,Pd.kind]) rfl
 ·omega
theorem bad_E:badX psE tsE 0 1=true/\badX psE tsE 1 1=true:=⟨rfl,rfl⟩
theorem ctl_E:ctlB psE [] (badX psE tsE)=false:=by
 cases h:ctlB psE [] (badX psE tsE) with
 | false=>rfl
 | true =>
  refine absurd ⟨fun _=>1,fun p hp=>?_,fun p hp=>?_,fun a ha i hi hd y hy=>?_⟩ (ctlB_true.1 h)
  ·have hp:p<2:=hp
   rcases p with _|_|p
   ·decide
   ·decide
   ·omega
  ·have hp:p<2:=hp
   rcases p with _|_|p
   ·exact bad_E.1
   ·exact bad_E.2
   ·omega
  ·have hi0:i=0:=by omega
   subst hi0
   have ha:a<2:=ha
   rcases a with _|_|a
   ·have:dirX psE [] 0 0=[]:=rfl
    rw[this] at hy;cases hy
   ·have:dirX psE [] 1 0=[]:=rfl
    rw[this] at hy;cases hy
   ·omega
theorem stepE {c:List Int}{R:List (List Int)}(hc:isF psE c=true)(h:chnF psE c R=true):R=[]\/∃q R',(q=0\/q=1)/\rdyF psE c q=true/\R=stpC c q :: R'/\isF psE (stpC c q)=true/\chnF psE (stpC c q) R'=true:=by
 cases R with
 | nil=>exact .inl rfl
 | cons b R =>
  obtain⟨q,q1,q2,rfl,_,q5⟩:=(chn_cons hc).1 h
  have q1:q<2:=q1
  exact .inr ⟨q,R,by omega,q2,rfl,rdy_is q2,q5⟩
theorem runs_E {R:List (List Int)}(hD:DodgeR psE (badX psE tsE) (zeroC psE :: R)):synL (evtG (zeroC psE) R)=[(((0,2):Eid),((1,1):Eid))]\/synL (evtG (zeroC psE) R)=[(((1,2):Eid),((0,1):Eid))]:=by
 obtain⟨R0,hR0,h,hl⟩:=isrun_inv hD.run
 have:R=R0:=by injection hR0
 subst this
 have hav:=hD.av
 have hbad:[(1:Int),1] ∈ zeroC psE :: R->False:=fun hm=>by
  obtain⟨p,hp,hb⟩:=hav _ hm
  have hp:p<2:=hp
  rcases p with _|_|p
  ·have:badX psE tsE 0 1=false:=hb
   rw[bad_E.1] at this;cases this
  ·have:badX psE tsE 1 1=false:=hb
   rw[bad_E.2] at this;cases this
  ·omega
 clear hD hav
 have hz:zeroC psE=[0,0]:=rfl
 have hf:fullC psE=[2,2]:=rfl
 have e0:isF psE [0,0]=true:=by rw[<- hz];exact zeroC_is psE
 rw[hz,hf] at *
 have n1:rdyF psE [2,0] 0=false:=by decide
 have n2:rdyF psE [2,1] 0=false:=by decide
 have n3:rdyF psE [2,2] 0=false:=by decide
 have n4:rdyF psE [2,2] 1=false:=by decide
 have n5:rdyF psE [0,2] 1=false:=by decide
 have n6:rdyF psE [1,2] 1=false:=by decide
 rcases stepE e0 h with rfl|⟨q,R1,hq,hr,rfl,f1,h1⟩
 ·exact absurd (Option.some.inj hl) (by decide)
 rcases hq with rfl|rfl
 ·skip
  rcases stepE f1 h1 with rfl|⟨q,R2,hq,hr,rfl,f2,h2⟩
  ·exact absurd (Option.some.inj hl) (by decide)
  rcases hq with rfl|rfl
  ·skip
   rcases stepE f2 h2 with rfl|⟨q,R3,hq,hr,rfl,f3,h3⟩
   ·exact absurd (Option.some.inj hl) (by decide)
   rcases hq with rfl|rfl
   ·exact absurd (n1.symm.trans hr) (by decide)
   ·skip
    rcases stepE f3 h3 with rfl|⟨q,R4,hq,hr,rfl,f4,h4⟩
    ·exact absurd (Option.some.inj hl) (by decide)
    rcases hq with rfl|rfl
    ·exact absurd (n2.symm.trans hr) (by decide)
    ·skip
     rcases stepE f4 h4 with rfl|⟨q,R5,hq,hr,rfl,_,_⟩
     ·exact .inl rfl
     ·rcases hq with rfl|rfl
      ·exact absurd (n3.symm.trans hr) (by decide)
      ·exact absurd (n4.symm.trans hr) (by decide)
  ·exact(hbad (List.mem_cons_of_mem _ (List.mem_cons_of_mem _ List.mem_cons_self))).elim
 ·skip
  rcases stepE f1 h1 with rfl|⟨q,R2,hq,hr,rfl,f2,h2⟩
  ·exact absurd (Option.some.inj hl) (by decide)
  rcases hq with rfl|rfl
  ·exact(hbad (List.mem_cons_of_mem _ (List.mem_cons_of_mem _ List.mem_cons_self))).elim
  ·skip
   rcases stepE f2 h2 with rfl|⟨q,R3,hq,hr,rfl,f3,h3⟩
   ·exact absurd (Option.some.inj hl) (by decide)
   rcases hq with rfl|rfl
   ·skip
    rcases stepE f3 h3 with rfl|⟨q,R4,hq,hr,rfl,f4,h4⟩
    ·exact absurd (Option.some.inj hl) (by decide)
    rcases hq with rfl|rfl
    ·skip
     rcases stepE f4 h4 with rfl|⟨q,R5,hq,hr,rfl,_,_⟩
     ·exact .inr rfl
     ·rcases hq with rfl|rfl
      ·exact absurd (n3.symm.trans hr) (by decide)
      ·exact absurd (n4.symm.trans hr) (by decide)
    ·exact absurd (n6.symm.trans hr) (by decide)
   ·exact absurd (n5.symm.trans hr) (by decide)
theorem one_E {R:List (List Int)}{l:List Syn}(hD:DodgeR psE (badX psE tsE) (zeroC psE :: R))(hs:l.Sublist (synL (evtG (zeroC psE) R)))(hc:ctlB psE l (badX psE tsE)=true):l=[(((0,2):Eid),((1,1):Eid))]\/l=[(((1,2):Eid),((0,1):Eid))]:=by
 have hne:l ≠ []:=fun e=>by rw[e,ctl_E] at hc;cases hc
 rcases runs_E hD with e|e
 ·rw[e] at hs
  left
  cases hs with
  | cons _ h=>cases h;exact absurd rfl hne
  | cons_cons _ h=>cases h;rfl
 ·rw[e] at hs
  right
  cases hs with
  | cons _ h=>cases h;exact absurd rfl hne
  | cons_cons _ h=>cases h;rfl
noncomputable def aRfs (ps:List Pr)(ts:List Pd):AV:=if conF ps ts=0 then (match tgtO ps (rowsX ps ts) with
 | some a=>.tup [.sl 3 ((chcL ps.length (rowsX ps ts) a).map aStp),ai 0]
 | none=>.tup [.sl 3 [],ai 7]) else .tup [.sl 3 [],ai (conF ps ts)]
theorem aRfs_some {ps:List Pr}{ts:List Pd}(h0:conF ps ts=0){a:Nat->Nat}(h:LeastS ps (rowsX ps ts) a):aRfs ps ts = .tup [.sl 3 ((chcL ps.length (rowsX ps ts) a).map aStp),ai 0]:=by
 obtain⟨a',h1,h2⟩:=tgtO_some h
 unfold aRfs
 rw[if_pos h0,h1];dsimp only;rw[chcL_congr h2]
theorem aRfs_none {ps:List Pr}{ts:List Pd}(h0:conF ps ts=0)(h:¬ ∃t,TgtS ps (rowsX ps ts) t):aRfs ps ts = .tup [.sl 3 [],ai 7]:=by
 unfold aRfs;rw[if_pos h0,tgtO_none h]
theorem control_Refuse (ps:List Pr)(hs:Sm ps)(ts:List Pd)(hz:∀t ∈ ts,szF t<=1000000)(htl:ts.length<=1000000):PC prog 22 [aTr ps,.sl 6 (ts.map aPd)] (aRfs ps ts):=by
 have h1:=control_False ps hs ts hz htl
 by_cases hC:conF ps ts=0
 ·rw[if_pos hC] at h1
  obtain⟨hv,hlen,_⟩:=conF_inv hC
  have hR:=rowsX_ok ps ts
  have hRl:=rowsX_len ps hs hv ts
  have hti:=order_tight ps hs hv (decide (lftX ps (exF ps [])=0)) hR hRl
  have hex0:=control_extended ps hs hv [] (synOk_nil ps) (by simp)
  have hss:aStss ((List.range ps.length).map (rowsX ps ts))=aRowsX ps ts:=by unfold aStss aRowsX;rw[List.map_map];rfl
  rw[hss] at hti
  obtain⟨X,hX⟩:∃X,aOrd ps (exF ps []) (decide (lftX ps (exF ps [])=0)) = .rp 3 X 0 0:=⟨_,rfl⟩
  rw[hX] at hti hex0
  unfold aRowsX at h1 hti
  have hex1:PC prog 55 [aTr ps,anil] (.rp 3 X 0 0):=PC.nilB (k:=4) hex0
  generalize (List.range ps.length).map (fun p=>AV.sl 3 ((rowsX ps ts p).map aStp))=RW at *
  by_cases hT:∃t,TgtS ps (rowsX ps ts) t
  ·obtain⟨a,ha⟩:=least_ex hR hT
   rw[aTgt_some ha] at hti
   rw[aRfs_some hC ha]
   refine PE 29 [.tmp 4,.tmp 5] [2] func22 ?_;simp only[go_sem]
   refine Wk ?_
   refine Sd ?_
   refine Vu h1 ?_
   refine Wk ?_
   refine Sd ?_
   refine Vu hex1 ?_
   refine Sd ?_
   refine Vu hti ?_
   refine Wk ?_
   exact Rz
  ·rw[aTgt_none hT] at hti
   rw[aRfs_none hC hT]
   refine PE 29 [.tmp 4,.tmp 5] [2] func22 ?_;simp only[go_sem]
   refine Wk ?_
   refine Sd ?_
   refine Vu h1 ?_
   refine Wk ?_
   refine Sd ?_
   refine Vu hex1 ?_
   refine Sd ?_
   refine Vu hti ?_
   refine Wk ?_
   refine ret_view [] ?_;simp only[go_sem]
   exact .mkTup (Vws.cons (.nil 3) (Vws.refl _))
 ·rw[if_neg hC] at h1
  unfold aRfs
  rw[if_neg hC]
  generalize conF ps ts=C at *
  refine PE 29 [.tmp 4,.tmp 5] [2] func22 ?_;simp only[go_sem]
  refine Wk ?_
  refine Sd ?_
  refine Vu h1 ?_
  refine W1 hC ?_
  refine ret_view [] ?_;simp only[go_sem]
  exact .mkTup (Vws.cons (.nil 3) (Vws.refl _))
theorem none_E:¬ ∃t,TgtS psE (rowsX psE tsE) t:=fun ⟨t,h1,h2⟩=>by
 have a0:=h1 0 (by decide)
 have a1:=h1 1 (by decide)
 have e0:lenSp (rowsX psE tsE) 0=1:=rfl
 have e1:lenSp (rowsX psE tsE) 1=1:=rfl
 have z0:t 0=0:=by omega
 have z1:t 1=0:=by omega
 have h3:=h2 0 1 (by decide) (by decide) (by decide)
 rw[z0,z1] at h3
 have f0:fSp (rowsX psE tsE) 0 0=(0,1,1):=rfl
 have f1:fSp (rowsX psE tsE) 1 0=(1,1,1):=rfl
 rw[f0,f1] at h3
 revert h3
 decide
theorem law44_part (p:Int):PC prog 19 [ai p] (aPd (notE p)):=by
 have hP:aPd (notE p) = .agg [ai 10,ai 0,ai 0,ai 0,astr ByteArray.empty,.sl 6 [.agg [ai 3,ai 0,ai p,ai 0,astr ByteArray.empty,.sl 6 []],.agg [ai 1,ai 1,ai 0,ai 0,astr ByteArray.empty,.sl 6 []]]]:=by
  unfold notE
  rw[aPd_mk,List.map_cons,List.map_cons,List.map_nil,aPd_mk,aPd_mk];rfl
 rw[hP]
 refine PE 8 [.cell 2 27] [6] func19 ?_;simp only[go_sem]
 refine Wk ?_
 intro b4
 refine Wk ?_
 refine ret_view [] ?_;simp only[go_sem]
 refine .mkAgg ?_
 refine Vws.cons (.refl _) (Vws.cons (.refl _) (Vws.cons (.refl _) (Vws.cons (.refl _) (Vws.cons (.refl _) (Vws.cons (Vw.mkSl ?_) .nil)))))
 refine Vws.cons (.mkAgg ?_) (Vws.cons (.mkAgg ?_) .nil)
 ·exact Vws.cons (.refl _) (Vws.cons (.refl _) (Vws.cons (.refl _) (Vws.cons (.refl _) (Vws.cons (.refl _) (Vws.cons (.nil 6) .nil)))))
 ·exact Vws.cons (.refl _) (Vws.cons (.refl _) (Vws.cons (.refl _) (Vws.cons (.refl _) (Vws.cons (.refl _) (Vws.cons (.nil 6) .nil)))))
set_option maxHeartbeats 1000000 in
theorem law44_awake:PC prog 5 [] (ab true):=by
 have hzS:∀t ∈ tsE,szF t<=1000000:=fun t ht=>by
  simp only[tsE,List.mem_cons,List.not_mem_nil,or_false] at ht
  rcases ht with rfl|rfl <;> decide
 have h1:MCalls prog 20 [aTr psE,.sl 6 (tsE.map aPd)] [] fun r L=>L=[]/\∃a b c d:Int,((a=0/\b=2/\c=1/\d=1)\/(a=1/\b=2/\c=0/\d=1))/\r = .tup [.sl 4 [.agg [ai a,ai b,ai c,ai d]],ai 0] :=
  (control_Control psE psE_sm tsE hzS (by decide)).mono fun r L ⟨e,h⟩=>⟨e,by
   rcases h with ⟨h,_⟩|⟨_,h,_⟩|⟨_,_,R,l,hD,hs,hc,_,rfl⟩
   ·exact absurd conF_E h
   ·exact absurd h none_E
   ·rcases one_E hD hs hc with rfl|rfl
    ·exact⟨0,2,1,1,.inl ⟨rfl,rfl,rfl,rfl⟩,rfl⟩
    ·exact⟨1,2,0,1,.inr ⟨rfl,rfl,rfl,rfl⟩,rfl⟩⟩
 have h2:=control_False psE psE_sm tsE hzS (by decide)
 have h3:=control_Refuse psE psE_sm tsE hzS (by decide)
 rw[if_pos conF_E] at h2
 rw[aRfs_none conF_E none_E] at h3
 have hrw:aRowsX psE tsE = .sl 1 [.sl 3 [.agg [ai 0,ai 1,ai 1]],.sl 3 [.agg [ai 1,ai 1,ai 1]]]:=rfl
 rw[hrw] at h2
 have h4:=spans_equal [(1,1,1)] [(1,1,1)] (by decide)
 rw[decide_eq_true rfl] at h4
 have haS:aSps [(1,1,1)] = .sl 3 [.agg [ai 1,ai 1,ai 1]]:=rfl
 rw[haS] at h4
 have p0:=law44_part 0
 have p1:=law44_part 1
 obtain⟨l0,hk0⟩:∃l,aPd (notE 0) = .agg [ai 10,ai 0,ai 0,ai 0,astr ByteArray.empty,.sl 6 l]:=⟨_,aPd_mk _ _ _ _ _ _⟩
 obtain⟨l1,hk1⟩:∃l,aPd (notE 1) = .agg [ai 10,ai 0,ai 0,ai 0,astr ByteArray.empty,.sl 6 l]:=⟨_,aPd_mk _ _ _ _ _ _⟩
 have hS:tsE.map aPd=[aPd (notE 0),aPd (notE 1)]:=rfl
 rw[hS] at h1 h2 h3
 rw[hk0] at p0 h1 h2 h3
 rw[hk1] at p1 h1 h2 h3
 have hT:aTr psE = .agg [.sl 3 [.agg [astr ⟨#[97]⟩,.sl 2 [],.sl 5 [.agg [ai 1,ai 0,ai 0,ai 0,.sl 2 []],.agg [ai 1,ai 0,ai 0,ai 0,.sl 2 []]]],.agg [astr ⟨#[98]⟩,.sl 2 [],.sl 5 [.agg [ai 1,ai 0,ai 0,ai 0,.sl 2 []],.agg [ai 1,ai 0,ai 0,ai 0,.sl 2 []]]]]]:=rfl
 rw[hT] at h1 h2 h3
 refine PE 97 [.tmp 0] [2,7,8,9,10,17,22,28,90] func5 ?_;simp only[go_sem]
 refine Wk ?_
 intros
 refine Wk ?_
 intros
 refine Wk ?_
 intros
 refine Wk ?_
 refine Sd ?_
 refine Vu p0 ?_
 refine Wk ?_
 refine Sd ?_
 refine Vu p1 ?_
 refine Wk ?_
 intros
 refine Wk ?_
 have ve:Vw [] (.agg [ai 1,ai 0,ai 0,ai 0,anil]) (.agg [ai 1,ai 0,ai 0,ai 0,.sl 2 []]):=.mkAgg (Vws.cons (.refl _) (Vws.cons (.refl _) (Vws.cons (.refl _) (Vws.cons (.refl _) (Vws.cons (.nil 2) .nil)))))
 have vE:Vw [] (.sl 5 [.agg [ai 1,ai 0,ai 0,ai 0,anil],.agg [ai 1,ai 0,ai 0,ai 0,anil]]) (.sl 5 [.agg [ai 1,ai 0,ai 0,ai 0,.sl 2 []],.agg [ai 1,ai 0,ai 0,ai 0,.sl 2 []]]):=.mkSl (Vws.cons ve (Vws.cons ve .nil))
 have vP:=fun s:AV=>show Vw [] (.agg [s,anil,.sl 5 [.agg [ai 1,ai 0,ai 0,ai 0,anil],.agg [ai 1,ai 0,ai 0,ai 0,anil]]]) (.agg [s,.sl 2 [],.sl 5 [.agg [ai 1,ai 0,ai 0,ai 0,.sl 2 []],.agg [ai 1,ai 0,ai 0,ai 0,.sl 2 []]]]) from .mkAgg (Vws.cons (.refl _) (Vws.cons (.nil 2) (Vws.cons vE .nil)))
 have vT:=Vw.mkAgg (L:=[]) (Vws.cons (Vw.mkSl (k:=3) (Vws.cons (vP (astr ⟨#[97]⟩)) (Vws.cons (vP (astr ⟨#[98]⟩)) .nil))) .nil)
 clear ve vE vP
 refine MVal.pass (Lf:=[]) (Li:=[]) (Lr:=[]) (by simp) (Vws.cons vT (Vws.refl _)) h1.val ?_
 rintro r L1 ⟨rfl,a,b,c,d,habcd,rfl⟩
 refine⟨[],.refl _,?_⟩
 simp only[go_sem]
 refine Wk ?_
 intro bA
 refine Wk ?_
 intro bB hAB
 have nA:¬bA=bB:=by omega
 have nB:¬bB=bA:=by omega
 simp only[go_sem,nA,nB]
 refine Sd ?_
 refine Wk ?_
 intro bC
 refine Wk ?_
 intro bD hCD
 have nC:¬bC=bD:=by omega
 have nD:¬bD=bC:=by omega
 simp only[go_sem,nC,nD]
 refine Sd ?_
 refine Wk ?_
 refine MVal.pass (Lf:=[]) (Li:=[]) (Lr:=[]) (by simp) (Vws.cons vT (Vws.refl _)) h2.val ?_
 rintro r L1 ⟨rfl,rfl⟩
 refine⟨[],.refl _,?_⟩
 simp only[go_sem]
 refine Wk ?_
 refine MVal.pass (Lf:=[]) (Li:=[]) (Lr:=[]) (by simp) (Vws.cons vT (Vws.refl _)) h3.val ?_
 rintro r L1 ⟨rfl,rfl⟩
 refine⟨[],.refl _,?_⟩
 simp only[go_sem]
 refine Wk ?_
 have c1:((1:Nat):Int)=1:=rfl
 have c2:((2:Nat):Int)=2:=rfl
 rcases habcd with ⟨rfl,rfl,rfl,rfl⟩|⟨rfl,rfl,rfl,rfl⟩
 ·refine Sq ?_
  refine AWp.mix mixed [0,1,2,3,4,5,6,7,8,9,10,11,12,13,14,15,16,17,18,19,20,21,22,23,24,25,26,27,28,29,30,31,32,33,34,35,36,37,38,39,40,41,42,43,44,45,46] .done (by kernel_rfl) ?_;simp only[go_sem,c1,c2]
  refine Sd ?_
  refine Sd ?_
  refine GCall.use (ab true) (fun _=>⟨At,(h4).val.use ⟨rfl,rfl⟩⟩) ?_;simp only[go_sem,c1,c2]
  refine Sd ?_
  refine Wk ?_
  exact Rz
 ·refine Sq ?_
  refine AWp.mix mixed [0,1,2,3,4,5,6,7,8,9,10,11,12,13,14,15,16,17,18,19,20,21,22,23,24,25,26,27,28,29,30,31,32,33,34,35,36,37,38,39,40,41,42,43,44,45,46] .done (by kernel_rfl) ?_;simp only[go_sem,c1,c2]
  refine Sd ?_
  refine Sd ?_
  refine GCall.use (ab true) (fun _=>⟨At,(h4).val.use ⟨rfl,rfl⟩⟩) ?_;simp only[go_sem,c1,c2]
  refine Sd ?_
  refine Wk ?_
  exact Rz
def szW (ps:List Pr):Int:=if 10<ps.length then 1000 else if ps.all smP=true then smW ps ps.length else 1000
theorem szW_sm {ps:List Pr}{m:Int}(hm:m<1000)(h:szW ps<=m):smF ps m=true:=by
 unfold szW at h
 unfold smF
 split at h
 ·omega
 ·split at h
  ·rename_i h1 h2
   rw[h2,decide_eq_true (by omega),decide_eq_true h];rfl
  ·omega
theorem law44_size1 (e:Ev):PC prog 25 [aEv e] (ab (asg12 e)):=by
 refine PE 7 [.tmp 2] [1] func25 ?_;simp only[go_sem]
 refine Wk ?_
 refine Rq ?_
 rfl
theorem law44_size (ps:List Pr)(hpl:ps.length<=9223372036854775807)(hl:∀p ∈ ps,p.evs.length<=9223372036854775807):PC prog 6 [aTr ps] (ai (szW ps)):=by
 by_cases h10:ps.length<=10
 ·have h10i:¬(10:Int)<(ps.length:Int):=by omega
  have hsf:szW ps=if ps.all smP=true then smW ps ps.length else 1000:=by unfold szW;rw[if_neg (by omega)]
  refine PE 33 [.tmp 2] [1,5] func6 ?_;simp only[go_sem]
  repeat(first|((with_reducible refine AWp.ofC ?_ ?_);exact rfl;simp only[go_sem,h10i])|((with_reducible refine an ?_ ?_);exact Au))
  refine AWp.range1' ps.length [3] [11,12] (fun k vs L=>L=[]/\vs=[ai (smW ps k)]/\∀(j:Nat) (hj:j<ps.length),j<k->smP ps[j]=true) (by omega) rfl rfl rfl ⟨rfl,rfl,fun _ _ h=>by omega⟩ ?_ ?_
  ·rintro k vs L hk - ⟨rfl,rfl,hI⟩
   have hgp:=getD_map (f:=aPr) hk
   have hfp:smP ps[k] = !(decide (12<(ps[k].vars.length:Int)) || ps[k].evs.any asg12):=rfl
   have hsw:smW ps (k+1)=addW (smW ps k) ps[k].evs.length:=by rw[<- nev_get hk];rfl
   have hin:=smW_in ps k
   have hel:=hl _ (List.getElem_mem hk)
   have hall:smP ps[k]=false->szW ps=1000:=fun h=>by
    rw[hsf,if_neg]
    rw[Bool.not_eq_true]
    exact List.all_eq_false.2 ⟨_,List.getElem_mem hk,by rw[h];decide⟩
   have hI':smP ps[k]=true->∀(j:Nat) (hj:j<ps.length),j<k+1->smP ps[j]=true:=fun h j hj hjk=>by
    by_cases e:j=k
    ·subst e;exact h
    ·exact hI j hj (by omega)
   have hcf:=events_containsFuncB ps[k].evs hel (.v (.func (.func 25) #[] #[])) rfl asg12 fun e _=>(law44_size1 e).val
   clear hI
   generalize szW ps=Z at *
   generalize ps[k]=x at *
   simp only[go_sem]
   refine Sd ?_
   refine AWp.of ?_;simp only[go_sem,hgp]
   refine Sd ?_
   intros
   refine AWp.seq (AWp.regionW ?_)
   simp only[go_sem]
   rw[<- hsw]
   generalize smW ps (k+1)=z' at *
   generalize smW ps k=z at *
   refine Wk ?_
   refine Sd ?_
   refine Gc hcf ?_
   refine Wk ?_
   refine⟨fun h=>?_,fun h1 h2=>?_⟩
   ·have hx:smP x=false:=by
     rw[hfp,Bool.not_eq_false']
     simpa using h
    rw[hall hx]
    refine Wk ?_
    exact Rz
   ·have hx:smP x=true:=by
     rw[hfp,h2]
     simp
     omega
    refine Wk ?_
    exact⟨_,.refl _,rfl,hI' hx⟩
  ·rintro vs L - ⟨rfl,rfl,hI⟩
   have hz:szW ps=smW ps ps.length:=by
    rw[hsf,if_pos]
    rw[List.all_eq_true]
    intro x hx
    obtain⟨j,hj,rfl⟩:=List.getElem_of_mem hx
    exact hI j hj hj
   rw[hz]
   simp only[go_sem]
   refine Wk ?_
   exact Rz
 ·have h10i:(10:Int)<(ps.length:Int):=by omega
  have hz:szW ps=1000:=by unfold szW;rw[if_pos (by omega)]
  rw[hz]
  refine PE 33 [.tmp 2] [1,5] func6 ?_;simp only[go_sem]
  repeat(first|((with_reducible refine AWp.ofC ?_ ?_);exact rfl;simp only[go_sem,h10i])|((with_reducible refine an ?_ ?_);exact Au))
  exact Rz
def scanB {σ:Type}(step:σ->Pd->Bool × σ):List Pd->σ->Bool × σ
 | [],s=>(false,s)
 | x :: r,s=>if (step s x).1=true then (true,(step s x).2) else scanB step r (step s x).2
theorem preds_indexFuncM (l:List Pd)(g:AV)(hgf:fo g=(True,g)){σ:Type}(Lh:σ->AHeap)(I:σ->Prop)(step:σ->Pd->Bool × σ)
  (hg:∀x ∈ l,∀s,I s->(MVal prog g [aPd x] (Lh s) fun r L=>r=ab (step s x).1/\L=Lh (step s x).2)/\((step s x).1=false->I (step s x).2)) (s0:σ) (h0:I s0) :
  MCalls prog 60 [.sl 6 (l.map aPd),g] (Lh s0) fun r L=>(∃z:Int,r=ai z /\ -1<=z/\(0<=z↔(scanB step l s0).1=true))/\L=Lh (scanB step l s0).2:=by
 refine MCalls.enter' 19 [.tmp 4] [] func60 rfl rfl rfl rfl rfl (by simp) (AWp.of ?_);simp only[go_sem]
 refine AWp.slLen (j:=0) (k:=6) (xs:=l.map aPd) rfl fun hlen=>?_
 rw[List.length_map] at hlen
 refine W1 hgf ?_
 refine AWp.range1' l.length [] [0,1,7] (fun k vs L=>vs=[]/\∃s,L=Lh s/\I s/\scanB step (l.drop k) s=scanB step l s0) (by omega) rfl rfl rfl ⟨rfl,s0,rfl,h0,by rw[List.drop_zero]⟩ ?_ ?_
 ·rintro k vs L hk - ⟨rfl,s,rfl,hI,hS⟩
  have hge:=getD_map (f:=aPd) hk
  obtain⟨h1,h2⟩:=hg l[k] (List.getElem_mem hk) s hI
  have hS2:scanB step (l.drop k) s=if (step s l[k]).1=true then (true,(step s l[k]).2) else scanB step (l.drop (k+1)) (step s l[k]).2:=by
   rw[<- List.getElem_cons_drop hk];rfl
  rw[hS2] at hS
  clear hS2
  generalize l[k]=x at *
  obtain⟨k2,n2,p2,q2,s2,l2⟩:=x
  generalize hst:step s (.mk k2 n2 p2 q2 s2 l2)=st at *
  rw[aPd_mk] at hge h1
  simp only[go_sem,hgf]
  refine W2 hge hgf ?_
  refine h1.mono ?_
  rintro r L ⟨rfl,rfl⟩
  simp only[go_sem,hgf]
  refine W1 hgf ?_
  constructor<;>intro h3
  ·rw[if_pos (by simpa using h3)] at hS
   refine Wk ?_
   refine ret_own ?_
   simp only[go_sem]
   rw[<- hS]
   exact⟨⟨k,rfl,by omega,by simp⟩,rfl⟩
  ·rw[if_neg (by simpa using h3)] at hS
   refine W1 hgf ?_
   exact⟨_,.refl _,st.2,rfl,h2 (by simpa using h3),hS⟩
 ·rintro vs L - ⟨rfl,s,rfl,hI,hS⟩
  rw[List.drop_length] at hS
  rw[<- hS]
  simp only[go_sem,hgf]
  refine W1 hgf ?_
  refine ret_own ?_
  simp only[go_sem]
  exact⟨⟨-1,rfl,by omega,by simp [scanB]⟩,rfl⟩
theorem preds_containsFuncM (l:List Pd)(g:AV)(hgf:fo g=(True,g)){σ:Type}(Lh:σ->AHeap)(I:σ->Prop)(step:σ->Pd->Bool × σ)
  (hg:∀x ∈ l,∀s,I s->(MVal prog g [aPd x] (Lh s) fun r L=>r=ab (step s x).1/\L=Lh (step s x).2)/\((step s x).1=false->I (step s x).2)) (s0:σ) (h0:I s0) :
  MCalls prog 26 [.sl 6 (l.map aPd),g] (Lh s0) fun r L=>r=ab (scanB step l s0).1/\L=Lh (scanB step l s0).2:=by
 have h1:=preds_indexFuncM l g hgf Lh I step hg s0 h0
 refine MCalls.enter' 9 [.tmp 4] [] func26 rfl rfl rfl rfl rfl (by simp) (AWp.of ?_);simp only[go_sem]
 refine W1 hgf ?_
 refine h1.val.mono ?_
 rintro r L ⟨⟨z,rfl,h2,h3⟩,rfl⟩
 have h4:(scanB step l s0).1=decide (0<=z):=by
  by_cases h:0<=z
  ·rw[decide_eq_true h];exact h3.1 h
  ·rw[decide_eq_false h]
   cases hb:(scanB step l s0).1 with
   | false=>rfl
   | true=>exact absurd (h3.2 hb) h
 rw[h4]
 simp only[go_sem]
 refine Wk ?_
 refine ret_own ?_
 simp only[go_sem]
mutual
def ftF:Pd->Int->Int->Bool × Int
 | .mk _ _ _ _ s l,n,d=>if 0<=n - 1/\d<=60/\(s.size:Int)<=100 then (!(ftL l (n - 1) (d+1)).1,(ftL l (n - 1) (d+1)).2) else (false,n - 1)
def ftL:List Pd->Int->Int->Bool × Int
 | [],n,_=>(false,n)
 | x :: r,n,d=>if (ftF x n d).1=true then ftL r (ftF x n d).2 d else (true,(ftF x n d).2)
end
def ftS (d:Int)(n:Int)(x:Pd):Bool × Int:=(!(ftF x n d).1,(ftF x n d).2)
theorem ftL_scan (d:Int):∀(l:List Pd) (n:Int),ftL l n d=scanB (ftS d) l n
 | [],n=>by rw[ftL];rfl
 | x :: r,n=>by
  rw[ftL]
  show _=if (!(ftF x n d).1)=true then (true,(ftF x n d).2) else scanB (ftS d) r (ftF x n d).2
  rw[<- ftL_scan d r]
  cases (ftF x n d).1 <;> simp
theorem ft_spec (t:Pd):∀n d:Int,0<=n->((ftF t n d).1=true->(ftF t n d).2=n - szF t/\0<=(ftF t n d).2) /\ -1<=(ftF t n d).2/\(ftF t n d).2<=n:=by
 induction t using Pd.ind with
 | _ k n p q s l ih =>
 intro m d hm
 rw[ftF,szF]
 have hl:∀l':List Pd,(∀x ∈ l',x ∈ l)->∀n d:Int,0<=n->((ftL l' n d).1=false->(ftL l' n d).2=n - szL l'/\0<=(ftL l' n d).2) /\ -1<=(ftL l' n d).2/\(ftL l' n d).2<=n:=by
  intro l'
  induction l' with
  | nil=>intro _ n d h0;rw[ftL,szL];exact⟨fun _=>⟨by simp,h0⟩,by simp;omega,Int.le_refl _⟩
  | cons x r ihr =>
   intro hmm n d h0
   obtain⟨a1,a2,a3⟩:=ih x (hmm x List.mem_cons_self) n d h0
   rw[ftL,szL]
   generalize ftF x n d=y at *
   by_cases hc:y.1=true
   ·rw[if_pos hc]
    obtain⟨b1,b2⟩:=a1 hc
    obtain⟨c1,c2,c3⟩:=ihr (fun z hz=>hmm z (List.mem_cons_of_mem _ hz)) y.2 d b2
    exact⟨fun h=>by have:=c1 h;omega,c2,by omega⟩
   ·rw[if_neg hc]
    exact⟨fun h=>(by cases h),a2,a3⟩
 split
 ·rename_i hc
  obtain⟨b1,b2,b3⟩:=hl l (fun x hx=>hx) (m - 1) (d+1) hc.1
  refine⟨fun h=>?_,b2,by show _<=m;omega⟩
  have:=b1 (by simpa using h)
  show (ftL l (m - 1) (d+1)).2=_/\0<=(ftL l (m - 1) (d+1)).2
  omega
 ·exact⟨fun h=>(by cases h),by show -1<=m - 1;omega,by show m - 1<=m;omega⟩
abbrev FitC (x:Pd):Prop:=∀n d:Int,0<=n->n<=300->0<=d->d<=61->∀b,MCalls prog 28 [aPd x,.lp b 1 0 0,ai d] [(b,.row 3 1 [ai n] 1)] fun r L=>r=ab (ftF x n d).1/\L=[(b,.row 3 1 [ai (ftF x n d).2] 1)]
theorem law44_fits1 {x:Pd}(hx:FitC x)(n d:Int)(h0:0<=n)(h3:n<=300)(d0:0<=d)(d6:d<=60)(b:Nat):MCalls prog 61 [aPd x,.rp 1 [.lp b 1 0 0] 0 0,.rp 1 [ai d] 0 0] [(b,.row 3 1 [ai n] 1)] fun r L=>r=ab (ftS (d+1) n x).1/\L=[(b,.row 3 1 [ai (ftS (d+1) n x).2] 1)]:=by
 have h1:=hx n (d+1) h0 h3 (by omega) (by omega) b
 have e1:(ftS (d+1) n x).1 = !(ftF x n (d+1)).1:=rfl
 have e2:(ftS (d+1) n x).2=(ftF x n (d+1)).2:=rfl
 rw[e1,e2]
 generalize ftF x n (d+1)=y at *
 obtain⟨k2,n2,p2,q2,s2,l2⟩:=x
 rw[aPd_mk] at *
 refine MCalls.enter' 11 [.tmp 4] [3] func61 rfl rfl rfl rfl rfl (by simp) (AWp.of ?_);simp only[go_sem]
 refine Wk ?_
 refine h1.val.mono ?_
 rintro r L ⟨rfl,rfl⟩
 simp only[go_sem]
 refine Wk ?_
 refine ret_own ?_
 simp only[go_sem]
theorem law44_fits (t:Pd):FitC t:=by
 induction t using Pd.ind with
 | _ k n p q s l ih =>
 intro m d m0 m3 d0 d6 b
 have hF:ftF (.mk k n p q s l) m d=if 0<=m - 1/\d<=60/\(s.size:Int)<=100 then (!(ftL l (m - 1) (d+1)).1,(ftL l (m - 1) (d+1)).2) else (false,m - 1):=by rw[ftF]
 generalize ftF (.mk k n p q s l) m d=F at *
 rw[aPd_mk]
 by_cases c1:0<=m - 1
 ·by_cases c2:d<=60
  ·by_cases c3:(s.size:Int)<=100
   ·rw[if_pos ⟨c1,c2,c3⟩] at hF
    subst hF
    rw[ftL_scan]
    have hcf:=preds_containsFuncM l (.clo 61 [.rp 1 [.lp b 1 0 0] 0 0,.rp 1 [ai d] 0 0]) rfl (fun n:Int=>[(b,.row 3 1 [ai n] 1)]) (fun n=>0<=n/\n<=300) (ftS (d+1)) (fun x hx n hn=>⟨MCalls.clo (args:=[_]) (caps:=[_,_]) (law44_fits1 (ih x hx) n d hn.1 hn.2 d0 c2 b),fun h=>by
     have h1:=ft_spec x n (d+1) hn.1
     have h2:=h1.1 (by
      have:(!(ftF x n (d+1)).1)=false:=h
      simpa using this)
     exact⟨h2.2,Int.le_trans h1.2.2 hn.2⟩⟩) (m - 1) ⟨c1,by omega⟩
    generalize scanB (ftS (d+1)) l (m - 1)=sc at *
    refine MCalls.enter' 33 [.tmp 6] [3,4,5] func28 rfl rfl rfl rfl rfl (by simp) (AWp.of ?_);simp only[go_sem]
    refine Sd ?_
    refine Ao ?_
    refine⟨by omega,AWp.seq (AWp.regionF ?_)⟩
    simp only[go_sem,c1,c2,c3]
    refine hcf.val.mono ?_
    rintro r L ⟨rfl,rfl⟩
    simp only[go_sem]
    refine Wk ?_
    refine ret_own ?_
    simp only[go_sem]
   ·rw[if_neg fun h=>c3 h.2.2] at hF
    subst hF
    refine MCalls.enter' 33 [.tmp 6] [3,4,5] func28 rfl rfl rfl rfl rfl (by simp) (AWp.of ?_);simp only[go_sem]
    refine Wk ?_
    refine GCall.use (ab false) (fun g=>absurd g.2 c3) ?_
    simp only[go_sem,c1,c2,c3]
    refine Wk ?_
    refine ret_own ?_
    simp only[go_sem]
  ·rw[if_neg fun h=>c2 h.2.1] at hF
   subst hF
   refine MCalls.enter' 33 [.tmp 6] [3,4,5] func28 rfl rfl rfl rfl rfl (by simp) (AWp.of ?_);simp only[go_sem]
   refine Wk ?_
   refine GCall.use (ab false) (fun g=>absurd g.1.2 c2) ?_
   simp only[go_sem,c1,c2]
   refine Wk ?_
   refine ret_own ?_
   simp only[go_sem]
 ·rw[if_neg fun h=>c1 h.1] at hF
  subst hF
  refine MCalls.enter' 33 [.tmp 6] [3,4,5] func28 rfl rfl rfl rfl rfl (by simp) (AWp.of ?_);simp only[go_sem]
  refine Wk ?_
  refine GCall.use (ab false) (fun g=>absurd g.1.1 c1) ?_
  simp only[go_sem,c1]
  refine Wk ?_
  refine ret_own ?_
  simp only[go_sem]
def fwT (ts:List Pd):Bool:=decide ((ts.length:Int)<=12) && !(scanB (ftS 0) ts 300).1
theorem ftL_spec (l:List Pd):∀n d:Int,0<=n->(ftL l n d).1=false->(ftL l n d).2=n - szL l/\0<=(ftL l n d).2:=by
 induction l with
 | nil=>intro n d h0 _;rw[ftL,szL];exact⟨by simp,h0⟩
 | cons x r ih =>
  intro n d h0 h
  obtain⟨a1,a2,a3⟩:=ft_spec x n d h0
  rw[ftL] at h ⊢
  rw[szL]
  by_cases hc:(ftF x n d).1=true
  ·rw[if_pos hc] at h ⊢
   obtain⟨b1,b2⟩:=a1 hc
   obtain⟨c1,c2⟩:=ih _ _ b2 h
   omega
  ·rw[if_neg hc] at h;cases h
theorem fwT_spec {ts:List Pd}(h:fwT ts=true):ts.length<=12/\∀t ∈ ts,szF t<=300:=by
 unfold fwT at h
 rw[Bool.and_eq_true,decide_eq_true_eq,Bool.not_eq_true',<- ftL_scan] at h
 obtain⟨h1,h2⟩:=ftL_spec ts 300 0 (by decide) h.2
 exact⟨by omega,fun t ht=>by have:=szL_mem ht;omega⟩
theorem law44_few1 (x:Pd)(n:Int)(h0:0<=n)(h3:n<=300)(b:Nat):MCalls prog 27 [aPd x,.lp b 1 0 0] [(b,.row 3 1 [ai n] 1)] fun r L=>r=ab (ftS 0 n x).1/\L=[(b,.row 3 1 [ai (ftS 0 n x).2] 1)]:=by
 have h1:=law44_fits x n 0 h0 h3 (by decide) (by decide) b
 have e1:(ftS 0 n x).1 = !(ftF x n 0).1:=rfl
 have e2:(ftS 0 n x).2=(ftF x n 0).2:=rfl
 rw[e1,e2]
 generalize ftF x n 0=y at *
 obtain⟨k2,n2,p2,q2,s2,l2⟩:=x
 rw[aPd_mk] at *
 refine MCalls.enter' 7 [.tmp 3] [2] func27 rfl rfl rfl rfl rfl (by simp) (AWp.of ?_);simp only[go_sem]
 refine Wk ?_
 refine h1.val.mono ?_
 rintro r L ⟨rfl,rfl⟩
 simp only[go_sem]
 refine Wk ?_
 refine ret_own ?_
 simp only[go_sem]
theorem law44_few (ts:List Pd):PC prog 7 [.sl 6 (ts.map aPd)] (ab (fwT ts)):=by
 have hcf:=fun b=>preds_containsFuncM ts (.clo 27 [.lp b 1 0 0]) rfl (fun n:Int=>[(b,.row 3 1 [ai n] 1)]) (fun n=>0<=n/\n<=300) (ftS 0) (fun x hx n hn=>⟨MCalls.clo (args:=[_]) (caps:=[_]) (law44_few1 x n hn.1 hn.2 b),fun h=>by
  have h1:=ft_spec x n 0 hn.1
  have h2:=h1.1 (by
   have:(!(ftF x n 0).1)=false:=h
   simpa using this)
  exact⟨h2.2,Int.le_trans h1.2.2 hn.2⟩⟩) 300 ⟨by decide,by decide⟩
 unfold fwT
 generalize scanB (ftS 0) ts 300=sc at *
 have hlm:(ts.map aPd).length=ts.length:=List.length_map _
 by_cases c1:(ts.length:Int)<=12
 ·rw[decide_eq_true c1,Bool.true_and]
  refine PE 13 [.tmp 2] [] func7 ?_;simp only[go_sem]
  refine Sd ?_
  refine Ao ?_
  intro b
  refine AWp.seq (AWp.regionF ?_)
  simp only[go_sem,c1,hlm]
  refine(hcf b).val.mono ?_
  rintro r L ⟨rfl,rfl⟩
  simp only[go_sem]
  refine Wk ?_
  exact Rz
 ·rw[decide_eq_false c1,Bool.false_and]
  refine PE 13 [.tmp 2] [] func7 ?_;simp only[go_sem]
  refine Sd ?_
  refine Ao ?_
  intro b
  refine AWp.seq (AWp.regionF ?_)
  simp only[go_sem,c1,hlm]
  refine Wk ?_
  exact Rz
section
variable {ps:List Pr} (hva:PC prog 71 [aTr ps] (ab false))
include hva
end
def wstep (k:Nat)(f:Nat->Nat->Bool):Nat->Nat->Bool:=fun i j=>f i j || (f i k && f k j)
theorem wstep_col (k:Nat)(f:Nat->Nat->Bool)(i:Nat):wstep k f i k=f i k:=by unfold wstep;cases f i k <;> simp
theorem wstep_row (k:Nat)(f:Nat->Nat->Bool)(j:Nat):wstep k f k j=f k j:=by unfold wstep;cases f k j <;> simp
def warF:Nat->(Nat->Nat->Bool)->Nat->Nat->Bool
 | 0,f=>f
 | k+1,f=>wstep k (warF k f)
inductive PthK (f:Nat->Nat->Bool)(k:Nat):Nat->Nat->Prop
 | one {i j:Nat} : f i j=true->PthK f k i j
 | cons {i m j:Nat} : f i m=true->m<k->PthK f k m j->PthK f k i j
theorem PthK.mono {f:Nat->Nat->Bool}{k k':Nat}(h:k<=k'){i j:Nat}(p:PthK f k i j):PthK f k' i j:=by
 induction p with
 | one h1=>exact .one h1
 | cons h1 h2 _ ih=>exact .cons h1 (by omega) ih
theorem PthK.app {f:Nat->Nat->Bool}{k i m j:Nat}(p:PthK f k i m)(hm:m<k)(q:PthK f k m j):PthK f k i j:=by
 induction p with
 | one h1=>exact .cons h1 hm q
 | cons h1 h2 _ ih=>exact .cons h1 h2 (ih hm q)
theorem war_iff {f:Nat->Nat->Bool} : ∀ {k i j:Nat},warF k f i j=true↔PthK f k i j
 | 0,i,j=>by
  constructor
  ·exact .one
  ·intro p
   cases p with
   | one h=>exact h
   | cons _ h _=>omega
 | k+1,i,j=>by
  show (warF k f i j || (warF k f i k && warF k f k j))=true↔_
  rw[Bool.or_eq_true,Bool.and_eq_true,war_iff,war_iff,war_iff]
  constructor
  ·rintro(h|⟨h1,h2⟩)
   ·exact h.mono (Nat.le_succ k)
   ·exact(h1.mono (Nat.le_succ k)).app (Nat.lt_succ_self k) (h2.mono (Nat.le_succ k))
  ·intro p
   induction p with
   | one h=>exact .inl (.one h)
   | @cons i m j h1 h2 _ ih =>
    by_cases e:m=k
    ·subst e
     rcases ih with h|⟨_,h⟩
     ·exact .inr ⟨.one h1,h⟩
     ·exact .inr ⟨.one h1,h⟩
    ·have hm:m<k:=by omega
     rcases ih with h|⟨g1,g2⟩
     ·exact .inl (.cons h1 hm h)
     ·exact .inr ⟨.cons h1 hm g1,g2⟩
theorem war_trans {f:Nat->Nat->Bool}{n:Nat}(hf:∀i j,f i j=true->i<n/\j<n){i j:Nat} : warF n f i j=true↔Relation.TransGen (fun a b=>f a b=true) i j:=by
 rw[war_iff]
 constructor
 ·intro p
  induction p with
  | one h=>exact .single h
  | cons h1 _ _ ih=>exact Relation.TransGen.trans (.single h1) ih
 ·intro t
  induction t with
  | single h=>exact .one h
  | tail _ h ih=>exact ih.app (hf _ _ h).1 (.one h)
end Go.AL
end
