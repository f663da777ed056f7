/- Texts of this claim's proof: WV18, WV9, WV14, WXr, WV20, WV21, WV22, WV23, WV24, WU9, WU10, WU12, WU13, WQe, WXg, WU14. No condition. -/
import Derived.Test.YtaomlpmcimjfgaaGreatDoorM23
import Derived.Test.YtaomlpmcimjfgaaGreatDoorM14
import Derived.Test.YtaomlpmcimjfgaaGreatDoorM20
import Derived.Test.YtaomlpmcimjfgaaGreatDoorM7
import Derived.Test.YtaomlpmcimjfgaaGreatDoorM22
import Derived.Test.YtaomlpmcimjfgaaGreatDoorM15
import Derived.Test.YtaomlpmcimjfgaaGreatDoorM18
import Derived.Test.YtaomlpmcimjfgaaGreatDoorM16
section
namespace Go.AL
open Go Go.RowKit
set_option maxRecDepth 4000
def psS:List Pr:=[⟨⟨#[97]⟩,[(⟨#[120]⟩,1)],[⟨1,0,0,0,[(0,0)]⟩]⟩,⟨⟨#[98]⟩,[(⟨#[121]⟩,0)],[⟨1,0,0,0,[(0,1)]⟩]⟩]
def tsS:List Pd:=[oneT 0 ⟨#[120]⟩,oneT 1 ⟨#[121]⟩]
def tsU:List Pd:=[oneT 0 ⟨#[120]⟩,.mk 13 0 0 0 ByteArray.empty []]
theorem psS_valid:validF psS=true:=by
 unfold validF faultF
 rw[if_neg (by decide),show procFirst psS=none from rfl,show evFirst psS=none from rfl,show msgF psS=none from rfl,cycF_rank (fun x=>x.1) (by decide)]
 rfl
theorem psS_sm:Sm psS:=⟨by decide,by decide,by decide,by decide⟩
theorem lclS {p:Int} {t:Pd} (h1:formedB t=true) (h2:allB (resB psS) t=true) (h3:typedB t=true) (h4:fitB psS t=true) (h5:0≤p∧p<2) (h7:¬t.kind≤8) (h8:allB (lclB p) t=true):lclF psS p 0 t=0:=by
 have hc:checkF psS t=0:=by
  unfold checkF
  rw[psS_valid,h1,h2,h3,h4];rfl
 have hn:0≤evN psS p:=by
  unfold evN;split <;> omega
 have hl:(psS.length:Int)=2:=rfl
 unfold lclF
 rw[hc,if_neg (by decide),if_neg (by omega),if_neg h7,h8];rfl
theorem conF_S:conF psS tsS=0:=conF_zero ⟨psS_valid,rfl⟩ fun q hq=>by
 have hq:q<2:=hq
 rcases q with _|_|q
 ·exact lclS rfl rfl rfl rfl (by decide) (show ¬(_:Int)≤8 from by simp [tsS,oneT,Pd.kind]) rfl
 ·exact lclS rfl rfl rfl rfl (by decide) (show ¬(_:Int)≤8 from by simp [tsS,oneT,Pd.kind]) rfl
 ·omega
theorem conF_U:conF psS tsU=0:=conF_zero ⟨psS_valid,rfl⟩ fun q hq=>by
 have hq:q<2:=hq
 rcases q with _|_|q
 ·exact lclS rfl rfl rfl rfl (by decide) (show ¬(_:Int)≤8 from by simp [tsU,oneT,Pd.kind]) rfl
 ·exact lclS rfl rfl rfl rfl (by decide) (show ¬(_:Int)≤8 from by simp [tsU,oneT,Pd.kind]) rfl
 ·omega
theorem none_S:¬ ∃t,TgtS psS (rowsOf psS tsS) t:=fun ⟨t,h1,h2⟩=>by
 have a0:t 0<1:=h1 0 (by decide)
 have a1:t 1<1:=h1 1 (by decide)
 have h3:=h2 1 0 (by decide) (by decide) (by decide)
 have e0:t 0=0:=by omega
 have e1:t 1=0:=by omega
 rw[e0,e1] at h3
 have:bgN psS (fSp (rowsOf psS tsS) 1 0) (fSp (rowsOf psS tsS) 0 0)=false:=by
  show bgN psS (1,1,1) (0,0,0)=false
  decide
 rw[this] at h3;cases h3
theorem least_U:LeastS psS (rowsOf psS tsU) fun _=>0:=by
 refine⟨⟨fun p hp => ?_,fun p q hp hq hpq => ?_⟩,fun _ _ _ _=>Nat.zero_le _⟩
 ·have hp:p<2:=hp
  rcases p with _|_|p
  ·exact Nat.zero_lt_one
  ·exact Nat.zero_lt_one
  ·omega
 ·have hp:p<2:=hp
  rcases p with _|_|p
  ·rfl
  ·rfl
  ·omega
theorem chc_U {a:Nat→Nat} (h:LeastS psS (rowsOf psS tsU) a):chcL 2 (rowsOf psS tsU) a=[(0,0,0),(1,0,1)]:=by
 have h2:=chcL_congr (n:=2) (rows:=rowsOf psS tsU) (a:=a) (b:=fun _=>0) fun p hp=>least_unique h least_U hp
 rw[h2];rfl
theorem law38_is (p:Int) (s:ByteArray):PC Proofs.Tryz.prog 30 [ai p,astr s] (aPd (oneT p s)):=by
 have hP:aPd (oneT p s) = .agg [ai 9,ai 0,ai 0,ai 0,astr ByteArray.empty,.sl 6 [.agg [ai 2,ai 0,ai p,ai 0,astr s,.sl 6 []],.agg [ai 1,ai 1,ai 0,ai 0,astr ByteArray.empty,.sl 6 []]]]:=by
  unfold oneT
  rw[aPd_mk,List.map_cons,List.map_cons,List.map_nil,aPd_mk,aPd_mk];rfl
 rw[hP]
 refine PC.enter 11 [.cell 4 61] [9] Proofs.Tryz.func30 rfl rfl rfl rfl rfl (by simp) (AWp.of ?_);simp only[go_sem]
 intro b4
 refine Wk ?_
 refine ret_view [] ?_;simp only[go_sem]
 refine .mkAgg ?_
 refine Vws.cons (.refl _) (Vws.cons (.refl _) (Vws.cons (.refl _) (Vws.cons (.refl _) (Vws.cons (.refl _) (Vws.cons (Vw.mkSl ?_) .nil)))))
 refine Vws.cons (.mkAgg ?_) (Vws.cons (.mkAgg ?_) .nil)
 ·exact Vws.cons (.refl _) (Vws.cons (.refl _) (Vws.cons (.refl _) (Vws.cons (.refl _) (Vws.cons (.refl _) (Vws.cons (.nil 6) .nil)))))
 ·exact Vws.cons (.refl _) (Vws.cons (.refl _) (Vws.cons (.refl _) (Vws.cons (.refl _) (Vws.cons (.refl _) (Vws.cons (.nil 6) .nil)))))
set_option maxHeartbeats 4000000 in
theorem law38_example:PC Proofs.Tryz.prog 29 [] (aTr psS):=by
 refine PC.enter 17 [.cell 0 24] [2,4,6,9,11,13,15] Proofs.Tryz.func29 rfl rfl rfl rfl rfl (by simp) (AWp.of ?_);simp only[go_sem]
 intro b0
 refine AWp.of ?_
 simp (config:={ maxSteps:=3000000 }) only [go_sem]
 refine Wk ?_
 refine ret_eq ?_
 simp only[go_sem]
 rfl
theorem spans_equal (a b:List Spn3) (ha:a.length≤1000000):PC Proofs.Tryz.prog 31 [aSps a,aSps b] (ab (decide (a=b))):=by
 have haE:∀l:List Spn3,aSps l = .sl 3 (l.map aSp):=fun _=>rfl
 rw[haE,haE]
 refine PC.enter 26 [.tmp 4] [] Proofs.Tryz.func31 rfl rfl rfl rfl rfl (by simp) (AWp.of ?_);simp only[go_sem]
 refine Wk ?_
 refine⟨fun h1 => ?_,fun h1 => ?_⟩
 ·refine Wk ?_
  refine ret_eq ?_;simp only[go_sem]
  congr 2;symm;apply decide_eq_false;rintro rfl;exact h1 rfl
 ·have hab:a.length=b.length:=by omega
  refine Sd ?_
  refine AWp.of ?_;simp only[go_sem]
  refine AWp.range' a.length [] [0,1,12] (fun k vs L=>L=[]∧∀(i:Nat) (hi:i<a.length),i<k→a[i]=b[i]) (by omega) rfl rfl rfl ⟨rfl,by omega⟩ ?_ ?_
  ·rintro k vs L' hk - ⟨rfl,hI⟩
   have hkb:k<b.length:=by omega
   have ga:=getD_map (f:=aSp) hk
   have gb:=getD_map (f:=aSp) hkb
   obtain⟨x1,x2,x3,hx⟩:∃x1 x2 x3,a[k]=(x1,x2,x3):=⟨_,_,_,rfl⟩
   obtain⟨y1,y2,y3,hy⟩:∃y1 y2 y3,b[k]=(y1,y2,y3):=⟨_,_,_,rfl⟩
   rw[hx] at ga
   rw[hy] at gb
   change _=AV.agg [ai x1,ai x2,ai x3] at ga
   change _=AV.agg [ai y1,ai y2,ai y3] at gb
   have hxy:a[k]=b[k]↔(x1=y1∧x2=y2)∧x3=y3:=by rw[hx,hy];exact⟨fun h=>by cases h;exact⟨⟨rfl,rfl⟩,rfl⟩,fun h=>by rw[h.1.1,h.1.2,h.2]⟩
   simp only[go_sem]
   refine Wk ?_
   repeat(first|(with_reducible refine AWp.seq ?_)|(with_reducible refine AWp.block ?_))
   refine AWp.read mixed [0,1,2,3,4,5,6,7,8] (by kernel_rfl) ?_;simp only[go_sem,ga,gb]
   refine Sd ?_
   by_cases he:(x1=y1∧x2=y2)∧x3=y3
   ·have hst:∀(i:Nat) (hi:i<a.length),i<k+1→a[i]=b[i]:=fun i hi hik=>by
     by_cases e:i=k
     ·subst e;exact hxy.2 he
     ·exact hI i hi (by omega)
    obtain⟨⟨rfl,rfl⟩,rfl⟩:=he
    refine Wk ?_
    exact⟨_,List.Sublist.refl _,rfl,hst⟩
   ·have hne:¬a=b:=fun e=>he (hxy.1 (by subst e;rfl))
    rw[decide_eq_false hne]
    have hd:(decide (x1=y1) && (decide (x2=y2) && decide (x3=y3)))=false:=by rw[← Bool.decide_and,← Bool.decide_and];exact decide_eq_false fun h=>he ⟨⟨h.1,h.2.1⟩,h.2.2⟩
    rw[hd]
    refine Wk ?_
    refine ret_eq ?_;simp only[go_sem]
  ·rintro vs L' - ⟨rfl,hI⟩
   simp only[go_sem]
   refine Wk ?_
   refine ret_eq ?_;simp only[go_sem]
   congr 2;symm;apply decide_eq_true
   exact List.ext_getElem hab fun i hi _=>hI i hi hi
theorem law38_awake:PC Proofs.Tryz.prog 7 [] (ab true):=by
 have hzS:∀ts:List Pd,ts=tsS∨ts=tsU→∀t ∈ ts,szF t≤1000000:=fun ts h t ht=>by
  rcases h with rfl|rfl <;> simp only[tsS,tsU,List.mem_cons,List.not_mem_nil,or_false] at ht <;> rcases ht with rfl|rfl <;> decide
 have h1:MCalls Proofs.Tryz.prog 10 [aTr psS,.sl 6 (tsS.map aPd)] [] fun r L=>L=[]∧∃O,(DodgeR psS (elimOf psS tsS).ok O∧O.length≤513)∧r = .tup [aAns ⟨2,false,3,[],[],O,[],0⟩,ai 0] :=
  (strong_Definitely psS psS_sm tsS (hzS _ (.inl rfl)) (by decide)).mono fun r L ⟨e,h⟩=>⟨e,by
   rcases h with ⟨h,_⟩|⟨_,a,ha,_⟩|⟨_,_,O,h1,h2,h3⟩
   ·exact absurd conF_S h
   ·exact absurd ⟨a,ha.1⟩ none_S
   ·exact⟨O,⟨h1,h2⟩,h3⟩⟩
 have h2:MCalls Proofs.Tryz.prog 10 [aTr psS,.sl 6 (tsU.map aPd)] [] fun r L=>L=[]∧r = .tup [aAns ⟨2,true,4,[],[],[],[(0,0,0),(1,0,1)],0⟩,ai 0] :=
  (strong_Definitely psS psS_sm tsU (hzS _ (.inr rfl)) (by decide)).mono fun r L ⟨e,h⟩=>⟨e,by
   rcases h with ⟨h,_⟩|⟨_,a,ha,h3⟩|⟨_,hn,_⟩
   ·exact absurd conF_U h
   ·rw[h3,show psS.length=2 from rfl,chc_U ha];rfl
   ·exact absurd ⟨_,least_U.1⟩ hn⟩
 have h3:∀O,(DodgeR psS (elimOf psS tsS).ok O∧O.length≤513)→PC Proofs.Tryz.prog 17 [aTr psS,.sl 6 (tsS.map aPd),aRows O] (ab true):=fun O ⟨hO,hl⟩=>by
  have:=ref38_Avoids psS psS_sm tsS (hzS _ (.inl rfl)) (by decide) conF_S O (by omega) (dodge_row psS_valid hO)
  rw[dodge_avd psS_valid hO] at this
  exact this
 have h4:=spans_equal [(0,0,0),(1,0,1)] [(0,0,0),(1,0,1)] (by decide)
 rw[decide_eq_true rfl] at h4
 have hx:=law38_example
 have p0:=law38_is 0 ⟨#[120]⟩
 have p1:=law38_is 1 ⟨#[121]⟩
 have hT:aTr psS = .agg [.sl 3 (psS.map aPr)]:=rfl
 have hS:tsS.map aPd=[aPd (oneT 0 ⟨#[120]⟩),aPd (oneT 1 ⟨#[121]⟩)]:=rfl
 have hU:tsU.map aPd=[aPd (oneT 0 ⟨#[120]⟩),.agg [ai 13,ai 0,ai 0,ai 0,astr ByteArray.empty,.sl 6 []]]:=by
  show [aPd (oneT 0 ⟨#[120]⟩),aPd (.mk 13 0 0 0 ByteArray.empty [])]=_
  rw[aPd_mk];rfl
 obtain⟨l0,hk0⟩:∃l,aPd (oneT 0 ⟨#[120]⟩) = .agg [ai 9,ai 0,ai 0,ai 0,astr ByteArray.empty,.sl 6 l]:=⟨_,aPd_mk _ _ _ _ _ _⟩
 obtain⟨l1,hk1⟩:∃l,aPd (oneT 1 ⟨#[121]⟩) = .agg [ai 9,ai 0,ai 0,ai 0,astr ByteArray.empty,.sl 6 l]:=⟨_,aPd_mk _ _ _ _ _ _⟩
 rw[hS,hT] at h1
 rw[hU,hT] at h2
 simp only[hS,hT] at h3
 rw[hT] at hx
 rw[hk0] at p0 h1 h2
 rw[hk1] at p1 h1
 simp only[hk0,hk1] at h3
 clear hS hU hk0 hk1 hT
 generalize psS.map aPr=T at *
 have haA:∀O:List (List Int),aAns ⟨2,false,3,[],[],O,[],0⟩ = .agg [ai 2,ab false,ai 3,.sl 1 [],.sl 1 [],.sl 1 (O.map aInts),.sl 3 [],ai 0]:=fun _=>rfl
 have haB:aAns ⟨2,true,4,[],[],[],[(0,0,0),(1,0,1)],0⟩ = .agg [ai 2,ab true,ai 4,.sl 1 [],.sl 1 [],.sl 1 [],.sl 3 [.agg [ai 0,ai 0,ai 0],.agg [ai 1,ai 0,ai 1]],ai 0]:=rfl
 have haS:aSps [(0,0,0),(1,0,1)] = .sl 3 [.agg [ai 0,ai 0,ai 0],.agg [ai 1,ai 0,ai 1]]:=rfl
 have haR:∀O:List (List Int),aRows O = .sl 1 (O.map aInts):=fun _=>rfl
 simp only[haA] at h1
 rw[haB] at h2
 rw[haS] at h4
 simp only[haR] at h3
 clear haA haB haS haR
 refine PC.enter 53 [.tmp 0] [1,3,9,17,32,50] Proofs.Tryz.func7 rfl rfl rfl rfl rfl (by simp) (AWp.of ?_);simp only[go_sem]
 refine Wk ?_
 refine Sd ?_
 refine(hx).val.use ?_;simp only[go_sem]
 refine Sd ?_
 refine(p0).val.use ?_;simp only[go_sem]
 refine Sd ?_
 refine(p1).val.use ?_;simp only[go_sem]
 refine Wk ?_
 refine h1.val.mono ?_
 rintro r L ⟨rfl,O,hO,rfl⟩
 have h3:=h3 O hO
 generalize O.map aInts=OM at *
 simp only[go_sem]
 intros
 refine Wk ?_
 refine Sd ?_
 refine(hx).val.use ?_;simp only[go_sem]
 refine Sd ?_
 refine(p0).val.use ?_;simp only[go_sem]
 refine Wk ?_
 refine MVal.pass (Lf:=[]) (Li:=[]) (Lr:=[]) (by simp) (Vws.cons (.refl _) (Vws.cons (.mkSl (Vws.cons (.refl _) (Vws.cons (.mkAgg (Vws.cons (.refl _) (Vws.cons (.refl _) (Vws.cons (.refl _) (Vws.cons (.refl _) (Vws.cons (.refl _) (Vws.cons (.nil 6) .nil))))))) .nil))) .nil)) h2.val ?_
 rintro r L1 ⟨rfl,rfl⟩
 refine⟨[],.refl _,?_⟩
 simp only[go_sem]
 intros
 refine Wk ?_
 repeat(first|(with_reducible refine AWp.seq ?_)|(with_reducible refine AWp.block ?_))
 refine AWp.mix mixed [0,1,2,3,4,5,6,7,8,9,10,11,12,13,14,15,16,17,18,19,20,21,22,23,24,25,26,27,28,29,30,31,32] .done (by kernel_rfl) ?_;simp only[go_sem]
 refine Sd ?_
 refine Gc hx ?_
 refine Sd ?_
 refine Gc p0 ?_
 refine Sd ?_
 refine Gc p1 ?_
 refine Sd ?_
 refine Sd ?_
 refine Gc h3 ?_
 refine Sd ?_
 refine Sd ?_
 refine Gc h4 ?_
 refine Sd ?_
 refine Wk ?_
 refine ret_eq ?_;simp only[go_sem]
theorem dup_no {l:List Spn3} {i:Nat} (hi:i<l.length) (h:∀k (hk:k<i),l[i].1 ≠ (l[k]'(by omega)).1):dupSp l i=false:=by
 unfold dupSp
 rw[List.any_eq_false]
 intro x hx
 obtain⟨k,hk,rfl⟩:=List.mem_take_iff_getElem.1 hx
 rw[decide_eq_true_eq,List.getD_eq_getElem?_getD,List.getElem?_eq_getElem hi,Option.getD_some]
 exact fun e=>h k (by omega) e.symm
theorem ref37_Fault_bad {ps:List Pr} (hrv:PC Proofs.Tryz.prog 42 [aTr ps] (ab false)) (ts:List Pd) (_htl:ts.length≤9223372036854775807):PC Proofs.Tryz.prog 12 [aTr ps,.sl 6 (ts.map aPd)] (ai 1):=by
 refine PC.enter 34 [.tmp 4] [2] Proofs.Tryz.func12 rfl rfl rfl rfl rfl (by simp) (AWp.of ?_);simp only[go_sem]
 refine Wk ?_
 refine Sd ?_
 refine(hrv).val.use ?_;simp only[go_sem]
 refine Wk ?_
 refine ret_eq ?_;simp only[go_sem]
theorem def_tight {ps:List Pr} (hs:Sm ps) (ts:List Pd) (hz:∀t ∈ ts,szF t≤1000000) (htl:ts.length≤1000000) (hC:conF ps ts=0) {a:Nat→Nat} (ha:LeastS ps (rowsOf ps ts) a) :
  PC Proofs.Tryz.prog 10 [aTr ps,.sl 6 (ts.map aPd)] (.tup [aAns ⟨2,true,4,[],[],[],(chcL ps.length (rowsOf ps ts) a).map stpI,0⟩,ai 0])∧PC Proofs.Tryz.prog 11 [aTr ps,.sl 6 (ts.map aPd)] (.tup [aRows [],ai 7]):=by
 refine⟨(strong_Definitely ps hs ts hz htl).mono fun r L ⟨e,h⟩=>⟨?_,e⟩,(strong_Dodge ps hs ts hz htl).mono fun r L ⟨e,h⟩=>⟨?_,e⟩⟩
 ·rcases h with ⟨h,_⟩|⟨_,a',h1,h2⟩|⟨_,h,_⟩
  ·exact absurd hC h
  ·rw[h2,chcL_congr fun p hp=>least_unique h1 ha hp]
  ·exact absurd ⟨a,ha.1⟩ h
 ·rcases h with ⟨h,_⟩|⟨_,_,h2⟩|⟨_,h,_⟩
  ·exact absurd hC h
  ·exact h2
  ·exact absurd ⟨a,ha.1⟩ h
theorem def_none {ps:List Pr} (hs:Sm ps) (ts:List Pd) (hz:∀t ∈ ts,szF t≤1000000) (htl:ts.length≤1000000) (hC:conF ps ts=0) (hT:¬ ∃t,TgtS ps (rowsOf ps ts) t) :
  MCalls Proofs.Tryz.prog 10 [aTr ps,.sl 6 (ts.map aPd)] [] (fun r L=>L=[]∧∃O,(DodgeR ps (elimOf ps ts).ok O∧O.length≤513)∧r = .tup [aAns ⟨2,false,3,[],[],O,[],0⟩,ai 0]) ∧
  MCalls Proofs.Tryz.prog 11 [aTr ps,.sl 6 (ts.map aPd)] [] (fun r L=>L=[]∧∃O,(DodgeR ps (elimOf ps ts).ok O∧O.length≤513)∧r = .tup [aRows O,ai 0]):=by
 refine⟨(strong_Definitely ps hs ts hz htl).mono fun r L ⟨e,h⟩=>⟨e,?_⟩,(strong_Dodge ps hs ts hz htl).mono fun r L ⟨e,h⟩=>⟨e,?_⟩⟩
 ·rcases h with ⟨h,_⟩|⟨_,a',h1,_⟩|⟨_,_,O,h1,h2,h3⟩
  ·exact absurd hC h
  ·exact absurd ⟨a',h1.1⟩ hT
  ·exact⟨O,⟨h1,h2⟩,h3⟩
 ·rcases h with ⟨h,_⟩|⟨_,h1,_⟩|⟨_,_,O,h1,h2,h3⟩
  ·exact absurd hC h
  ·exact absurd h1 hT
  ·exact⟨O,⟨h1,h2⟩,h3⟩
theorem bools_index (bs:List Bool) (hl:bs.length≤1000001):PC Proofs.Tryz.prog 97 [.sl 1 (bs.map ab),ab false] (ai (match bs.findIdx? (fun x => !x) with|some i=>(i:Int)|none => -1)):=by
 refine PC.enter 19 [.tmp 4] [] Proofs.Tryz.func97 rfl rfl rfl rfl rfl (by simp) (AWp.of ?_);simp only[go_sem]
 refine Wk ?_
 refine(AWp.range' bs.length [] [0,1,7] (fun k vs L=>L=[]∧∀i (h:i<bs.length),i<k→bs[i]=true) (by omega) rfl rfl rfl ⟨rfl,fun _ _ h=>by omega⟩ ?_ ?_)
 ·rintro k vs L hk - ⟨rfl,hI⟩
  have hg:=getD_map (f:=ab) hk
  have hx:bs[k]=false→bs.findIdx? (fun x => !x)=some k:=fun h=>by
   rw[List.findIdx?_eq_some_iff_getElem];exact⟨hk,by rw[h];rfl,fun j hj=>by rw[hI j (by omega) hj];decide⟩
  have hI2:bs[k]=true→∀i (h:i<bs.length),i<k+1→bs[i]=true:=fun h i hi hik=>by
   by_cases e:i=k
   ·subst e;exact h
   ·exact hI i hi (by omega)
  generalize bs[k]=B at *
  simp only[go_sem]
  cases B with
  | true =>
   refine W1 hg ?_
   exact⟨_,List.Sublist.refl _,rfl,hI2 rfl⟩
  | false =>
   rw[hx rfl]
   refine W1 hg ?_
   refine ret_eq ?_;simp only[go_sem]
 ·rintro vs L - ⟨rfl,hI⟩
  have:bs.findIdx? (fun x => !x)=none:=by rw[List.findIdx?_eq_none_iff];intro x hx;obtain⟨i,hi,rfl⟩:=List.getElem_of_mem hx;rw[hI i hi hi];rfl
  rw[this]
  simp only[go_sem]
  refine Wk ?_
  refine ret_eq ?_;simp only[go_sem]
theorem bools_contains (bs:List Bool) (hl:bs.length≤1000001):PC Proofs.Tryz.prog 59 [.sl 1 (bs.map ab),ab false] (ab (bs.any fun x => !x)):=by
 have h1:=bools_index bs hl
 refine PC.enter 9 [.tmp 4] [] Proofs.Tryz.func59 rfl rfl rfl rfl rfl (by simp) (AWp.of ?_);simp only[go_sem]
 refine Wk ?_
 refine Sd ?_
 refine(h1).val.use ?_;simp only[go_sem]
 refine Wk ?_
 refine ret_eq ?_;simp only[go_sem]
 congr 2;exact findIdx_any bs fun x => !x
theorem strong_ascending (ps:List Pr) (hps:ps.length≤1000000) (l:List Spn3) (_hl:l.length≤9223372036854775806):PC Proofs.Tryz.prog 56 [aTr ps,aSps l] (ab (eachB ps l)):=by
 have hR:aSps l = .sl 3 (l.map aSp):=rfl
 have hE:eachB ps l=(decide (l.length=ps.length) && (List.range l.length).all fun i=>decide ((l.getD i (0,0,0)).1=i)):=rfl
 rw[hR]
 generalize eachB ps l=E at *
 by_cases hlp:l.length=ps.length
 ·have hli:(l.length:Int)=ps.length:=by omega
  rw[decide_eq_true hlp,Bool.true_and] at hE
  refine PC.enter 25 [.tmp 4] [2,6] Proofs.Tryz.func56 rfl rfl rfl rfl rfl (by simp) (AWp.of ?_);simp only[go_sem]
  refine W1 hli ?_
  refine(AWp.range' ps.length [] [13,14] (fun k vs L=>L=[]∧∀j,j<k→(l.getD j (0,0,0)).1=j) (by omega) rfl rfl rfl ⟨rfl,fun _ h=>by omega⟩ ?_ ?_)
  ·rintro k vs L hk - ⟨rfl,hI⟩
   have hkl2:k<l.length:=by omega
   have hg:=getD_map (f:=aSp) hkl2
   have hg2:l.getD k (0,0,0)=l[k]:=by rw[List.getD_eq_getElem?_getD,List.getElem?_eq_getElem hkl2,Option.getD_some]
   have ei:aSp l[k] = .agg [ai l[k].1,ai l[k].2.1,ai l[k].2.2]:=rfl
   rw[ei] at hg
   simp only[go_sem]
   by_cases he:l[k].1=(k:Int)
   ·refine W3 hli hg he ?_
    intros
    refine W3 hli hg he ?_
    refine⟨_,List.Sublist.refl _,rfl,fun j hj => ?_⟩
    by_cases e:j=k
    ·subst e;rw[hg2];exact he
    ·exact hI j (by omega)
   ·have:E=false:=by
     rw[hE,List.all_eq_false]
     exact⟨k,List.mem_range.2 hkl2,by rw[hg2,decide_eq_true_eq];exact he⟩
    rw[this]
    refine W3 hli hg he ?_
    intros
    refine W3 hli hg he ?_
    refine ret_eq ?_;simp only[go_sem]
  ·rintro vs L - ⟨rfl,hI⟩
   have:E=true:=by
    rw[hE,List.all_eq_true]
    intro j hj
    exact decide_eq_true (hI j (by have:=List.mem_range.1 hj;omega))
   rw[this]
   simp only[go_sem]
   refine W1 hli ?_
   refine ret_eq ?_;simp only[go_sem]
 ·have hli:¬(l.length:Int)=ps.length:=by omega
  rw[decide_eq_false hlp,Bool.false_and] at hE
  rw[hE]
  refine PC.enter 25 [.tmp 4] [2,6] Proofs.Tryz.func56 rfl rfl rfl rfl rfl (by simp) (AWp.of ?_);simp only[go_sem]
  refine W1 hli ?_
  refine ret_eq ?_;simp only[go_sem]
def spT (E:Elim) (s:Stp):Bool:=(List.range (s.2.2+1 - s.2.1)).all fun j=>E.ok s.1 (s.2.1+j)
def okB (E:Elim) (p:Nat):List Bool:=(List.range (E.top p+1)).map (E.ok p)
theorem okB_map (E:Elim) (p:Nat):(okB E p).map ab=okL E p:=by unfold okB okL;rw[List.map_map];rfl
theorem okB_part (E:Elim) (s:Stp) (h1:s.2.1≤s.2.2) (h2:s.2.2≤E.top s.1):(((okB E s.1).take (s.2.2+1)).drop s.2.1).any (fun x => !x) = !spT E s:=by
 have e:((okB E s.1).take (s.2.2+1)).drop s.2.1=(List.range (s.2.2+1 - s.2.1)).map fun j=>E.ok s.1 (s.2.1+j):=by
  unfold okB
  apply List.ext_getElem
  ·simp;omega
  ·intro i g1 g2
   simp
 rw[e]
 unfold spT
 rw[Bool.eq_iff_iff,List.any_eq_true]
 constructor
 ·rintro⟨x,hx,h⟩
  obtain⟨j,hj,rfl⟩:=List.mem_map.1 hx
  rw[Bool.not_eq_true',List.all_eq_false]
  exact⟨j,hj,by simpa using h⟩
 ·intro h
  rw[Bool.not_eq_true',List.all_eq_false] at h
  obtain⟨j,hj,h⟩:=h
  exact⟨_,List.mem_map.2 ⟨j,hj,rfl⟩,by simpa using h⟩
theorem strong_Check1 (E:Elim) (hE:SmE E) (s:Stp) (hp:s.1<E.n) (h1:s.2.1≤s.2.2) (h2:s.2.2≤E.top s.1):PC Proofs.Tryz.prog 58 [aStp s,.rp 1 [.sl 1 (okM E)] 0 0] (ab (!spT E s)):=by
 have ht:=hE.top s.1
 have hg:=okM_get (E:=E) hp
 rw[← okB_map] at hg
 have hml:=okM_len E
 have hbl:((okB E s.1).map ab).length=E.top s.1+1:=by rw[List.length_map];simp [okB]
 have hn:=hE.n
 have hb2:(okB E s.1).length=E.top s.1+1:=by simp [okB]
 have hc:=bools_contains (((okB E s.1).take (s.2.2+1)).drop s.2.1) (by rw[List.length_drop,List.length_take,hb2];omega)
 rw[okB_part E s h1 h2,List.map_drop,List.map_take] at hc
 have hR:aStp s = .agg [ai s.1,ai s.2.1,ai s.2.2]:=rfl
 have e1:((s.2.2:Int)+1).toNat=s.2.2+1:=by omega
 rw[hR]
 generalize spT E s=B at *
 generalize (okB E s.1).map ab=BS at *
 generalize okM E=M at *
 generalize s.1=p at *
 generalize s.2.1=f at *
 generalize s.2.2=t at *
 refine PC.enter 16 [.tmp 3] [2] Proofs.Tryz.func58 rfl rfl rfl rfl rfl (by simp) (AWp.of ?_);simp only[go_sem]
 refine Wk ?_
 repeat(first|(with_reducible refine AWp.seq ?_)|(with_reducible refine AWp.block ?_))
 refine AWp.read mixed [0,1,2,3,4,5,6,7,8,9,10,11,12] (by kernel_rfl) ?_;simp only[go_sem,hg,hml,hbl,e1]
 refine Sd ?_
 refine Sd ?_
 refine Gc hc ?_
 refine Sd ?_
 refine Wk ?_
 refine ret_eq ?_;simp only[go_sem]
theorem strong_Check2 (ps:List Pr) (hs:Sm ps) (E:Elim) (_hE:SmE E) (hn:E.n=ps.length) (ht:∀p,p<ps.length→E.top p=nev ps p) (c:List Int) (hc:isF ps c=true):PC Proofs.Tryz.prog 61 [aInts c,.rp 1 [.sl 1 (okM E)] 0 0] (ab (satG ps E c)):=by
 obtain⟨hl,hr,_⟩:=isF_iff.1 hc
 have hr:=(inRange_iff hl).1 hr
 have hml:=okM_len E
 have hps:=hs.procs
 have hS:satG ps E c=((List.range c.length).all fun p=>E.ok p (cAt c p).toNat):=by unfold satG;rw[hc,Bool.true_and]
 have hrow:=fun p (hp:p<E.n)=>okM_get (E:=E) hp
 generalize satG ps E c=S at *
 generalize okM E=M at *
 refine PC.enter 22 [.tmp 3] [] Proofs.Tryz.func61 rfl rfl rfl rfl rfl (by simp) (AWp.of ?_);simp only[go_sem]
 refine Wk ?_
 refine(AWp.range' c.length [] [1,6,7] (fun k vs L=>L=[]∧∀j,j<k→E.ok j (cAt c j).toNat=true) (by omega) rfl rfl rfl ⟨rfl,fun _ h=>by omega⟩ ?_ ?_)
 ·rintro k vs L hk - ⟨rfl,hI⟩
  have hkp:k<ps.length:=by omega
  have hg:=getD_map (f:=ai) hk
  rw[← cAt_nat hk] at hg
  have hro:=hrow k (by omega)
  have hck:=hr k hkp
  have htk:=ht k hkp
  rw[← nev_get hkp] at hck
  have hgo:(okL E k).getD (cAt c k).toNat .any=ab (E.ok k (cAt c k).toNat):=map_range_getD (show (cAt c k).toNat<E.top k+1 by omega) _
  have hol:=okL_len E k
  have hI2:E.ok k (cAt c k).toNat=true→∀j,j<k+1→E.ok j (cAt c j).toNat=true:=fun h j hj=>by
   by_cases e:j=k
   ·subst e;exact h
   ·exact hI j (by omega)
  have hno:E.ok k (cAt c k).toNat=false→S=false:=fun h=>by
   rw[hS,List.all_eq_false]
   exact⟨k,List.mem_range.2 hk,by rw[h];decide⟩
  generalize E.ok k (cAt c k).toNat=B at *
  generalize okL E k=O at *
  generalize cAt c k=z at *
  simp only[go_sem]
  cases B with
  | true =>
   refine W5 hg hro hgo hml hol ?_
   exact⟨_,List.Sublist.refl _,rfl,hI2 rfl⟩
  | false =>
   rw[hno rfl]
   refine W5 hg hro hgo hml hol ?_
   refine ret_eq ?_;simp only[go_sem]
 ·rintro vs L - ⟨rfl,hI⟩
  have:S=true:=by
   rw[hS,List.all_eq_true]
   exact fun j hj=>hI j (List.mem_range.1 hj)
  rw[this]
  simp only[go_sem]
  refine Wk ?_
  refine ret_eq ?_;simp only[go_sem]
noncomputable def chk38 (ps:List Pr) (ts:List Pd) (a:Ans):Bool :=
 if conF ps ts=0 then (if a.holds=true then (bareB a 4 && eachB ps a.spans) && ((decide (gvnE ps a.spans=0) && ovF ps (a.spans.map spN)) && (a.spans.map spN).all (spT (elimOf ps ts))) else bareB a 3 && avdB ps ts a.run) else false
set_option maxHeartbeats 1000000 in
theorem strong_Check (ps:List Pr) (hs:Sm ps) (ts:List Pd) (hz:∀t ∈ ts,szF t≤1000000) (htl:ts.length≤1000000) (hC:conF ps ts=0) (a:Ans) (hsp:a.spans.length≤1000000) (hrl:a.run.length≤1000000) (hrx:∀x ∈ a.run,x.length≤1000000) :
  PC Proofs.Tryz.prog 21 [aTr ps,.sl 6 (ts.map aPd),aAns a] (ab (chk38 ps ts a)):=by
 obtain⟨hv,hl,hlc⟩:=conF_inv hC
 obtain⟨hn1,hn8⟩:=valid_len hv
 have hE:=elim_sm hs ts
 have h1:=strong_truths ps hs ts hz htl
 have htr:∀p (hp:p<ts.length),PC Proofs.Tryz.prog 55 [aTr ps,ai p,aPd ts[p]] (.tup [.sl 1 (okL (elimOf ps ts) p),ai 0]):=fun p hp=>by
  have h:=evaluate_Truths ps hs p ts[p] (hz _ (List.getElem_mem hp))
  unfold aTruths at h
  rw[if_pos (hlc p hp),Int.toNat_natCast,truths_row hp (by omega)] at h
  exact h
 have hEn:(elimOf ps ts).n=ps.length:=rfl
 unfold aTruR at h1
 rw[if_pos hC] at h1
 have hR:aRowsS ps ps.length (rowsOf ps ts) = .sl 1 (rowsK ps (rowsOf ps ts) ps.length):=rfl
 rw[hR] at h1
 generalize rowsK ps (rowsOf ps ts) ps.length=RW at *
 obtain⟨m,h,kd,c,cs,r,sp,v⟩:=a
 have hA:aAns ⟨m,h,kd,c,cs,r,sp,v⟩ = .agg [ai m,ab h,ai kd,.sl 1 (c.map ai),.sl 1 (cs.map aInts),.sl 1 (r.map aInts),.sl 3 (sp.map aSp),ai v]:=rfl
 rw[hA]
 have hck:chk38 ps ts ⟨m,h,kd,c,cs,r,sp,v⟩=(if h=true then (bareB ⟨m,h,kd,c,cs,r,sp,v⟩ 4 && eachB ps sp) && ((decide (gvnE ps sp=0) && ovF ps (sp.map spN)) && (sp.map spN).all (spT (elimOf ps ts))) else bareB ⟨m,h,kd,c,cs,r,sp,v⟩ 3 && avdB ps ts r):=by
  unfold chk38;rw[if_pos hC]
 by_cases hz0:m=2∧c=[]∧cs=[]∧v=0
 ·obtain⟨rfl,rfl,rfl,rfl⟩:=hz0
  have hEk:∀p,okK (elimOf ps ts) (p+1)=okK (elimOf ps ts) p ++ [.sl 1 (okL (elimOf ps ts) p)]:=okK_succ _
  have hfin:okK (elimOf ps ts) ts.length=okM (elimOf ps ts):=by unfold okK okM;rw[hEn,hl]
  refine PC.enter 122 [.tmp 6] [3,5,11,62] Proofs.Tryz.func21 rfl rfl rfl rfl rfl (by simp) (AWp.of ?_);simp only[go_sem]
  refine Wk ?_
  have z0:¬(0:Int)<((0:Nat):Int):=by decide
  refine Sd ?_
  refine(h1).val.use ?_;simp only[go_sem]
  refine W1 z0 ?_
  intro b9
  refine Wk ?_
  refine(AWp.range' ts.length [] [3,5,9,46,47] (fun p vs L=>∃w Lq,L=Lq ++ [(b9,.row 102 1 [w] 1)]∧AppSt 103 1 (okK (elimOf ps ts) p) w Lq∧∀x ∈ Lq,x.1 ≠ b9) (by omega) rfl rfl rfl ⟨anil,[],rfl,.nil,by simp⟩ ?_ ?_)
  ·rintro p vs L hp - ⟨w,Lq,rfl,hAp,hq⟩
   have hg:=getD_map (f:=aPd) hp
   have ht:=htr p hp
   have hyl:=okK_len (elimOf ps ts) p
   rw[hEk]
   have hfo:=hAp.fo
   generalize okL (elimOf ps ts) p=ol at *
   generalize okK (elimOf ps ts) p=ys at *
   generalize ts[p]=t at *
   obtain⟨k0,n,pp,q0,s,l⟩:=t
   simp only[aPd_mk] at hg ht
   rcases hAp.inv with ⟨e1,rfl,rfl⟩|⟨bq,cap,rfl,rfl⟩
   ·simp only[go_sem,List.nil_append]
    refine W1 hg ?_
    intros
    refine Wk ?_
    refine Sd ?_
    refine(ht).val.use ?_;simp only[go_sem]
    refine Wk ?_
    intro b' cap' g8 g9
    have n3:¬b'=b9:=by omega
    have n4:¬b9=b':=by omega
    simp only[go_sem,n4]
    refine⟨_,List.Sublist.refl _,.ls b' 1 0 1 cap',[(b',.row 103 1 (ys ++ [.sl 1 ol]) cap')],?_,?_,?_⟩
    ·rw[e1];rfl
    ·rw[e1];exact .row _ _ _
    ·intro y hy;simp only[List.mem_singleton] at hy;subst hy;exact n3
   ·have nq:=hq (bq,.row 103 1 ys cap) (by simp)
    simp only at nq
    have nq1:¬b9=bq:=fun e=>nq e.symm
    simp only[go_sem,List.cons_append,List.nil_append]
    refine W3 hg nq nq1 ?_
    intros
    refine W2 nq nq1 ?_
    refine Sd ?_
    refine(ht).val.use ?_;simp only[go_sem]
    refine W2 nq nq1 ?_
    intro b' cap' g8 g9
    have n3:¬b'=b9:=by omega
    have n4:¬b9=b':=by omega
    simp only[go_sem,n4]
    refine⟨_,List.Sublist.refl _,.ls b' 1 0 (ys.length+1) cap',[(b',.row 103 1 (ys ++ [.sl 1 ol]) cap')],rfl,?_,?_⟩
    ·exact AppSt.snoc b' cap' _ rfl
    ·intro y hy;simp only[List.mem_singleton] at hy;subst hy;exact n3
  ·rintro vs L - ⟨w,Lq,rfl,hAp,hq⟩
   rw[hfin] at hAp
   have hfo:=hAp.fo
   have hml:=okM_len (elimOf ps ts)
   rcases hAp.inv with ⟨e1,rfl,rfl⟩|⟨bq,cap,rfl,rfl⟩
   ·rw[e1] at hml
    have:0=ps.length:=hml
    omega
   have nq:=hq (bq,.row 103 1 (okM (elimOf ps ts)) cap) (by simp)
   simp only at nq
   have nq1:¬b9=bq:=fun e=>nq e.symm
   have hvw:Vw [(bq,.row 103 1 (okM (elimOf ps ts)) cap),(b9,.row 102 1 [.ls bq 1 0 (okM (elimOf ps ts)).length cap] 1)] (.lp b9 1 0 0) (.rp 1 [.sl 1 (okM (elimOf ps ts))] 0 0):=by
    generalize hL0:[(bq,ABlk.row 103 1 (okM (elimOf ps ts)) cap),(b9,ABlk.row 102 1 [.ls bq 1 0 (okM (elimOf ps ts)).length cap] 1)]=L0
    have q1:lk L0 b9=some (.row 102 1 [.ls bq 1 0 (okM (elimOf ps ts)).length cap] 1):=by rw[← hL0];simp only[lk,nq1,if_false,if_true]
    have q2:lk L0 bq=some (.row 103 1 (okM (elimOf ps ts)) cap):=by rw[← hL0];simp only[lk,if_true]
    exact .lp q1 rfl (Vws.cons (Vw.ofLs q2 rfl) .nil).2
   simp only[go_sem,List.cons_append,List.nil_append]
   refine AWp.viewP (Lf:=[(bq,.row 103 1 (okM (elimOf ps ts)) cap),(b9,.row 102 1 [.ls bq 1 0 (okM (elimOf ps ts)).length cap] 1)]) (Lk:=[]) (L':=[]) (List.Perm.refl _) .nil [(9,.rp 1 [.sl 1 (okM (elimOf ps ts))] 0 0)] (fun z hz => ?_) ?_
   ·obtain rfl:=List.mem_singleton.1 hz
    exact hvw
   clear hvw hfo hAp hq nq nq1 hfin hEk h1 htr
   simp only[go_sem]
   have hSm:SmE (elimOf ps ts):=hE
   have hlt:(okM (elimOf ps ts)).length=ps.length:=hml
   cases h with
   | true =>
    have hb4:bareB ⟨2,true,kd,[],[],r,sp,0⟩ 4=(decide (kd=4) && decide (r=[])):=by simp [bareB]
    rw[hb4,if_pos rfl] at hck
    have hasc:=strong_ascending ps hs.procs sp (by have:sp.length≤1000000:=hsp;omega)
    have hov:=strong_Overlap ps hs sp (by have:sp.length≤1000000:=hsp;omega)
    have hgz:=fun hgz=>gvn_zero (ps:=ps) (l:=sp) hgz
    have hR:aSps sp = .sl 3 (sp.map aSp):=rfl
    have hcf:gvnE ps sp=0→PC Proofs.Tryz.prog 57 [.sl 3 (sp.map aSp),.clo 58 [.rp 1 [.sl 1 (okM (elimOf ps ts))] 0 0]] (ab (sp.any fun s => !spT (elimOf ps ts) (spN s))):=fun h=>by
     have hbd:=(hgz h).2.2.1
     exact spans_containsFuncB sp (by have:sp.length≤1000000:=hsp;omega) _ rfl (fun s => !spT (elimOf ps ts) (spN s)) fun s hs'=>by
      obtain⟨b1,b2,_⟩:=bad_not (hbd s hs')
      rw[b2]
      exact(strong_Check1 (elimOf ps ts) hSm (spN s) b1.1 b1.2.1 b1.2.2).clo
    have hall:(!sp.any fun s => !spT (elimOf ps ts) (spN s))=(sp.map spN).all (spT (elimOf ps ts)):=by
     rw[List.all_map,List.not_any_eq_all_not]
     congr 1;funext s
     simp
    rw[hR] at hasc hov
    rw[← hall] at hck
    clear hall hgz
    generalize sp.any (fun s => !spT (elimOf ps ts) (spN s))=AN at *
    generalize eachB ps sp=EA at *
    generalize ovF ps (sp.map spN)=OV at *
    generalize gvnE ps sp=G at *
    generalize chk38 ps ts ⟨2,true,kd,[],[],r,sp,0⟩=CK at *
    refine Wk ?_
    refine Sd ?_
    refine Gc hasc ?_
    refine Sd ?_
    refine Wk ?_
    refine⟨fun g => ?_,fun g1 g2 g3 => ?_⟩
    ·have:CK=false:=by
      rw[hck]
      rcases g with (g|g)|g
      ·rw[decide_eq_false g];rfl
      ·have:r ≠ []:=fun e=>by subst e;simp at g
       rw[decide_eq_false this];simp
      ·rw[g];simp
     rw[this]
     refine Wk ?_
     refine ret_eq ?_;simp only[go_sem]
    ·have hr0:r=[]:=by
      cases r with
      | nil=>rfl
      | cons x y=>simp at g2
     subst hr0
     rw[g1,g3] at hck
     refine Wk ?_
     refine Sd ?_
     refine(hov).val.use ?_;simp only[go_sem]
     refine Wk ?_
     refine⟨fun q => ?_,fun q1 q2 q3 => ?_⟩
     ·have:CK=false:=by
       rw[hck]
       by_cases hG:G=0
       ·rcases q with q|q
        ·exact absurd hG q
        ·rw[q hG];simp
       ·rw[decide_eq_false hG];rfl
      rw[this]
      refine Wk ?_
      refine ret_eq ?_;simp only[go_sem]
     ·have hcf:=hcf q1
      rw[q1,q3] at hck
      have:CK = !AN:=by rw[hck];simp
      rw[this]
      refine Wk ?_
      refine Sd ?_
      refine(hcf).val.use ?_;simp only[go_sem]
      refine Wk ?_
      refine ret_eq ?_;simp only[go_sem]
   | false =>
    have hb3:bareB ⟨2,false,kd,[],[],r,sp,0⟩ 3=(decide (kd=3) && decide (sp=[])):=by simp [bareB]
    rw[hb3,if_neg (by decide)] at hck
    have hri:=run_Is ps hs r hrl hrx
    have hR:aRows r = .sl 1 (r.map aInts):=rfl
    have hAv:avdB ps ts r=(isR ps r && r.all fun c => !satG ps (elimOf ps ts) c):=rfl
    have hcf:isR ps r=true→PC Proofs.Tryz.prog 24 [.sl 1 (r.map aInts),.clo 61 [.rp 1 [.sl 1 (okM (elimOf ps ts))] 0 0]] (ab (r.any (satG ps (elimOf ps ts)))):=fun h=>by
     have hru:isRunF ps r=true:=by unfold isR at h;rw[hv,Bool.true_and] at h;exact h
     refine rows_containsFunc r hrl _ rfl (satG ps (elimOf ps ts)) fun c hc=>(strong_Check2 ps hs (elimOf ps ts) hSm rfl (fun _ _=>rfl) c ?_).clo
     obtain⟨R,rfl,hch,_⟩:=isrun_inv hru
     rcases List.mem_cons.1 hc with rfl|hc
     ·exact zeroC_is ps
     ·obtain⟨j,hj,rfl⟩:=List.getElem_of_mem hc
      exact(chn_iff.1 hch j hj).1
    have hall:(r.all fun c => !satG ps (elimOf ps ts) c) = !r.any (satG ps (elimOf ps ts)):=(List.not_any_eq_all_not ..).symm
    rw[hAv,hall] at hck
    rw[hR] at hri
    clear hall hAv
    generalize r.any (satG ps (elimOf ps ts))=AN at *
    generalize isR ps r=IR at *
    generalize chk38 ps ts ⟨2,false,kd,[],[],r,sp,0⟩=CK at *
    refine Wk ?_
    refine Sd ?_
    refine Gc hri ?_
    refine Sd ?_
    refine Wk ?_
    refine⟨fun g => ?_,fun g1 g2 g3 => ?_⟩
    ·have:CK=false:=by
      rw[hck]
      rcases g with (g|g)|g
      ·rw[decide_eq_false g];rfl
      ·have:sp ≠ []:=fun e=>by subst e;simp at g
       rw[decide_eq_false this];simp
      ·rw[g];simp
     rw[this]
     refine Wk ?_
     refine ret_eq ?_;simp only[go_sem]
    ·have hs0:sp=[]:=by
      cases sp with
      | nil=>rfl
      | cons x y=>simp at g2
     have hcf:=hcf g3
     rw[g1,g3,hs0] at hck
     have:CK = !AN:=by rw[hck];simp
     rw[this]
     refine Wk ?_
     refine Sd ?_
     refine(hcf).val.use ?_;simp only[go_sem]
     refine Wk ?_
     refine ret_eq ?_;simp only[go_sem]
 ·have hb:∀k,bareB ⟨m,h,kd,c,cs,r,sp,v⟩ k=false:=fun k=>by
   cases hb:bareB ⟨m,h,kd,c,cs,r,sp,v⟩ k with
   | false=>rfl
   | true =>
    exfalso
    apply hz0
    unfold bareB at hb
    simp only[Bool.and_eq_true,decide_eq_true_eq] at hb
    exact⟨hb.1,hb.2.2.1,hb.2.2.2.1,hb.2.2.2.2.1⟩
  have hf:chk38 ps ts ⟨m,h,kd,c,cs,r,sp,v⟩=false:=by rw[hck,hb,hb];cases h <;> rfl
  rw[hf]
  refine PC.enter 122 [.tmp 6] [3,5,11,62] Proofs.Tryz.func21 rfl rfl rfl rfl rfl (by simp) (AWp.of ?_);simp only[go_sem]
  refine Wk ?_
  refine Sd ?_
  refine(h1).val.use ?_;simp only[go_sem]
  refine Wk ?_
  refine⟨fun g => ?_,fun g1 g2 g3 g4 => ?_⟩
  ·refine Wk ?_
   refine ret_eq ?_;simp only[go_sem]
  ·exfalso
   refine hz0 ⟨g1,?_,?_,?_⟩
   ·cases c with
    | nil=>rfl
    | cons x y=>simp at g2
   ·cases cs with
    | nil=>rfl
    | cons x y=>simp at g3
   ·simpa using g4
theorem tmod_nat {x:Int} {n:Nat} (h:0≤x):x.tmod (n:Int)=((x.toNat % n:Nat):Int):=by
 obtain⟨k,rfl⟩:=Int.eq_ofNat_of_zero_le h
 rfl
theorem MCalls.pc {P:Program} {f:FuncId} {args:List AV} {K:AV→AHeap→Prop} {r0:AV} (h:MCalls P f args [] K) (hk:∀r L,K r L→Vw L r r0):PC P f args r0 :=
 ⟨h.1,fun n w A vs h1 h2=>(h.2 n w A vs h1 h2).mono fun e w' hp=>by
  obtain⟨v,r,L',A',e1,hK,hf,hA,hL,hkk,hr⟩:=hp
  refine⟨v,r0,[],fun b=>A' b∨keysOf L' b,e1,⟨rfl,rfl⟩,hf,fun b hb => ?_,hL.viewed (Lf:=L') (Lk:=[]) (by simp) .nil,fun x hx=>absurd hx (by simp),hL.view (Lf:=L') (Lk:=[]) (by simp) (hk r L' hK) hr⟩
  rcases hb with hb|⟨x,hx,rfl⟩
  ·exact hA b hb
  ·rcases hkk x hx with h|h
   ·exact .inr (.inl h)
   ·exact .inr (.inr h)⟩
theorem rows_concatP (ls:List (List (List Int))) (hl:ls.length≤100000000) (hf:ls.flatten.length≤1000000):PC Proofs.Tryz.prog 27 [.sl 1 (ls.map aRows)] (aRows ls.flatten):=by
 refine(rows_concat ls hl hf).pc fun r L h => ?_
 have haR:aRows ls.flatten = .sl 1 (ls.flatten.map aInts):=rfl
 rw[haR]
 rcases h with ⟨h1,rfl,rfl⟩|⟨b,cap,xs,rfl,rfl,h1,h2⟩
 ·rw[h1];exact .nil 1
 ·rw[List.take_length] at h1 h2 ⊢
  refine .ls (if_pos rfl) (by omega) ?_ ?_
  ·rw[List.drop_zero,h2]
  ·rw[List.drop_zero,h2]
   intro i x y hx hy
   rw[hx] at hy;cases hy;exact .refl _
end Go.AL
end
