/- Texts of this claim's proof: WV18, WV9, WV14, WXr, WV20, WV21. No condition. -/
import Derived.Test.YtaomlpmcimjfgaaGreatDoorM22
import Derived.Test.YtaomlpmcimjfgaaGreatDoorM13
import Derived.Test.YtaomlpmcimjfgaaGreatDoorM19
import Derived.Test.YtaomlpmcimjfgaaGreatDoorM7
import Derived.Test.YtaomlpmcimjfgaaGreatDoorM21
section
namespace Go.AL
open Go Go.RowKit
set_option maxRecDepth 4000
def psS:List Pr:=[⟨⟨#[97]⟩,[(⟨#[120]⟩,1)],[⟨1,0,0,0,[(0,0)]⟩]⟩,⟨⟨#[98]⟩,[(⟨#[121]⟩,0)],[⟨1,0,0,0,[(0,1)]⟩]⟩]
def tsS:List Pd:=[oneT 0 ⟨#[120]⟩,oneT 1 ⟨#[121]⟩]
def tsU:List Pd:=[oneT 0 ⟨#[120]⟩,.mk 13 0 0 0 ByteArray.empty []]
theorem psS_valid:validF psS=true:=by
 unfold validF faultF
 rw[if_neg (by decide),show procFirst psS=none from rfl,show evFirst psS=none from rfl,show msgF psS=none from rfl,cycF_rank (fun x=>x.1) (by decide)]
 rfl
theorem psS_sm:Sm psS:=⟨by decide,by decide,by decide,by decide⟩
theorem lclS {p:Int} {t:Pd} (h1:formedB t=true) (h2:allB (resB psS) t=true) (h3:typedB t=true) (h4:fitB psS t=true) (h5:0≤p∧p<2) (h7:¬t.kind≤8) (h8:allB (lclB p) t=true):lclF psS p 0 t=0:=by
 have hc:checkF psS t=0:=by
  unfold checkF
  rw[psS_valid,h1,h2,h3,h4];rfl
 have hn:0≤evN psS p:=by
  unfold evN;split <;> omega
 have hl:(psS.length:Int)=2:=rfl
 unfold lclF
 rw[hc,if_neg (by decide),if_neg (by omega),if_neg h7,h8];rfl
theorem conF_S:conF psS tsS=0:=conF_zero ⟨psS_valid,rfl⟩ fun q hq=>by
 have hq:q<2:=hq
 rcases q with _|_|q
 ·exact lclS rfl rfl rfl rfl (by decide) (show ¬(_:Int)≤8 from by simp [tsS,oneT,Pd.kind]) rfl
 ·exact lclS rfl rfl rfl rfl (by decide) (show ¬(_:Int)≤8 from by simp [tsS,oneT,Pd.kind]) rfl
 ·omega
theorem conF_U:conF psS tsU=0:=conF_zero ⟨psS_valid,rfl⟩ fun q hq=>by
 have hq:q<2:=hq
 rcases q with _|_|q
 ·exact lclS rfl rfl rfl rfl (by decide) (show ¬(_:Int)≤8 from by simp [tsU,oneT,Pd.kind]) rfl
 ·exact lclS rfl rfl rfl rfl (by decide) (show ¬(_:Int)≤8 from by simp [tsU,oneT,Pd.kind]) rfl
 ·omega
theorem none_S:¬ ∃t,TgtS psS (rowsOf psS tsS) t:=fun ⟨t,h1,h2⟩=>by
 have a0:t 0<1:=h1 0 (by decide)
 have a1:t 1<1:=h1 1 (by decide)
 have h3:=h2 1 0 (by decide) (by decide) (by decide)
 have e0:t 0=0:=by omega
 have e1:t 1=0:=by omega
 rw[e0,e1] at h3
 have:bgN psS (fSp (rowsOf psS tsS) 1 0) (fSp (rowsOf psS tsS) 0 0)=false:=by
  show bgN psS (1,1,1) (0,0,0)=false
  decide
 rw[this] at h3;cases h3
theorem least_U:LeastS psS (rowsOf psS tsU) fun _=>0:=by
 refine⟨⟨fun p hp => ?_,fun p q hp hq hpq => ?_⟩,fun _ _ _ _=>Nat.zero_le _⟩
 ·have hp:p<2:=hp
  rcases p with _|_|p
  ·exact Nat.zero_lt_one
  ·exact Nat.zero_lt_one
  ·omega
 ·have hp:p<2:=hp
  rcases p with _|_|p
  ·rfl
  ·rfl
  ·omega
theorem chc_U {a:Nat→Nat} (h:LeastS psS (rowsOf psS tsU) a):chcL 2 (rowsOf psS tsU) a=[(0,0,0),(1,0,1)]:=by
 have h2:=chcL_congr (n:=2) (rows:=rowsOf psS tsU) (a:=a) (b:=fun _=>0) fun p hp=>least_unique h least_U hp
 rw[h2];rfl
theorem law38_is (p:Int) (s:ByteArray):PC Proofs.Tryz.prog 30 [ai p,astr s] (aPd (oneT p s)):=by
 have hP:aPd (oneT p s) = .agg [ai 9,ai 0,ai 0,ai 0,astr ByteArray.empty,.sl 6 [.agg [ai 2,ai 0,ai p,ai 0,astr s,.sl 6 []],.agg [ai 1,ai 1,ai 0,ai 0,astr ByteArray.empty,.sl 6 []]]]:=by
  unfold oneT
  rw[aPd_mk,List.map_cons,List.map_cons,List.map_nil,aPd_mk,aPd_mk];rfl
 rw[hP]
 refine PC.enter 11 [.cell 4 61] [9] Proofs.Tryz.func30 rfl rfl rfl rfl rfl (by simp) (AWp.of ?_);simp only[go_sem]
 intro b4
 refine Wk ?_
 refine ret_view [] ?_;simp only[go_sem]
 refine .mkAgg ?_
 refine Vws.cons (.refl _) (Vws.cons (.refl _) (Vws.cons (.refl _) (Vws.cons (.refl _) (Vws.cons (.refl _) (Vws.cons (Vw.mkSl ?_) .nil)))))
 refine Vws.cons (.mkAgg ?_) (Vws.cons (.mkAgg ?_) .nil)
 ·exact Vws.cons (.refl _) (Vws.cons (.refl _) (Vws.cons (.refl _) (Vws.cons (.refl _) (Vws.cons (.refl _) (Vws.cons (.nil 6) .nil)))))
 ·exact Vws.cons (.refl _) (Vws.cons (.refl _) (Vws.cons (.refl _) (Vws.cons (.refl _) (Vws.cons (.refl _) (Vws.cons (.nil 6) .nil)))))
set_option maxHeartbeats 4000000 in
theorem law38_example:PC Proofs.Tryz.prog 29 [] (aTr psS):=by
 refine PC.enter 17 [.cell 0 24] [2,4,6,9,11,13,15] Proofs.Tryz.func29 rfl rfl rfl rfl rfl (by simp) (AWp.of ?_);simp only[go_sem]
 intro b0
 refine AWp.of ?_
 simp (config:={ maxSteps:=3000000 }) only [go_sem]
 refine Wk ?_
 refine ret_eq ?_
 simp only[go_sem]
 rfl
theorem spans_equal (a b:List Spn3) (ha:a.length≤1000000):PC Proofs.Tryz.prog 31 [aSps a,aSps b] (ab (decide (a=b))):=by
 have haE:∀l:List Spn3,aSps l = .sl 3 (l.map aSp):=fun _=>rfl
 rw[haE,haE]
 refine PC.enter 26 [.tmp 4] [] Proofs.Tryz.func31 rfl rfl rfl rfl rfl (by simp) (AWp.of ?_);simp only[go_sem]
 refine Wk ?_
 refine⟨fun h1 => ?_,fun h1 => ?_⟩
 ·refine Wk ?_
  refine ret_eq ?_;simp only[go_sem]
  congr 2;symm;apply decide_eq_false;rintro rfl;exact h1 rfl
 ·have hab:a.length=b.length:=by omega
  refine Sd ?_
  refine AWp.of ?_;simp only[go_sem]
  refine AWp.range' a.length [] [0,1,12] (fun k vs L=>L=[]∧∀(i:Nat) (hi:i<a.length),i<k→a[i]=b[i]) (by omega) rfl rfl rfl ⟨rfl,by omega⟩ ?_ ?_
  ·rintro k vs L' hk - ⟨rfl,hI⟩
   have hkb:k<b.length:=by omega
   have ga:=getD_map (f:=aSp) hk
   have gb:=getD_map (f:=aSp) hkb
   obtain⟨x1,x2,x3,hx⟩:∃x1 x2 x3,a[k]=(x1,x2,x3):=⟨_,_,_,rfl⟩
   obtain⟨y1,y2,y3,hy⟩:∃y1 y2 y3,b[k]=(y1,y2,y3):=⟨_,_,_,rfl⟩
   rw[hx] at ga
   rw[hy] at gb
   change _=AV.agg [ai x1,ai x2,ai x3] at ga
   change _=AV.agg [ai y1,ai y2,ai y3] at gb
   have hxy:a[k]=b[k]↔(x1=y1∧x2=y2)∧x3=y3:=by rw[hx,hy];exact⟨fun h=>by cases h;exact⟨⟨rfl,rfl⟩,rfl⟩,fun h=>by rw[h.1.1,h.1.2,h.2]⟩
   simp only[go_sem]
   refine Wk ?_
   repeat(first|(with_reducible refine AWp.seq ?_)|(with_reducible refine AWp.block ?_))
   refine AWp.read mixed [0,1,2,3,4,5,6,7,8] (by kernel_rfl) ?_;simp only[go_sem,ga,gb]
   refine Sd ?_
   by_cases he:(x1=y1∧x2=y2)∧x3=y3
   ·have hst:∀(i:Nat) (hi:i<a.length),i<k+1→a[i]=b[i]:=fun i hi hik=>by
     by_cases e:i=k
     ·subst e;exact hxy.2 he
     ·exact hI i hi (by omega)
    obtain⟨⟨rfl,rfl⟩,rfl⟩:=he
    refine Wk ?_
    exact⟨_,List.Sublist.refl _,rfl,hst⟩
   ·have hne:¬a=b:=fun e=>he (hxy.1 (by subst e;rfl))
    rw[decide_eq_false hne]
    have hd:(decide (x1=y1) && (decide (x2=y2) && decide (x3=y3)))=false:=by rw[← Bool.decide_and,← Bool.decide_and];exact decide_eq_false fun h=>he ⟨⟨h.1,h.2.1⟩,h.2.2⟩
    rw[hd]
    refine Wk ?_
    refine ret_eq ?_;simp only[go_sem]
  ·rintro vs L' - ⟨rfl,hI⟩
   simp only[go_sem]
   refine Wk ?_
   refine ret_eq ?_;simp only[go_sem]
   congr 2;symm;apply decide_eq_true
   exact List.ext_getElem hab fun i hi _=>hI i hi hi
theorem law38_awake:PC Proofs.Tryz.prog 7 [] (ab true):=by
 have hzS:∀ts:List Pd,ts=tsS∨ts=tsU→∀t ∈ ts,szF t≤1000000:=fun ts h t ht=>by
  rcases h with rfl|rfl <;> simp only[tsS,tsU,List.mem_cons,List.not_mem_nil,or_false] at ht <;> rcases ht with rfl|rfl <;> decide
 have h1:MCalls Proofs.Tryz.prog 10 [aTr psS,.sl 6 (tsS.map aPd)] [] fun r L=>L=[]∧∃O,(DodgeR psS (elimOf psS tsS).ok O∧O.length≤513)∧r = .tup [aAns ⟨2,false,3,[],[],O,[],0⟩,ai 0] :=
  (strong_Definitely psS psS_sm tsS (hzS _ (.inl rfl)) (by decide)).mono fun r L ⟨e,h⟩=>⟨e,by
   rcases h with ⟨h,_⟩|⟨_,a,ha,_⟩|⟨_,_,O,h1,h2,h3⟩
   ·exact absurd conF_S h
   ·exact absurd ⟨a,ha.1⟩ none_S
   ·exact⟨O,⟨h1,h2⟩,h3⟩⟩
 have h2:MCalls Proofs.Tryz.prog 10 [aTr psS,.sl 6 (tsU.map aPd)] [] fun r L=>L=[]∧r = .tup [aAns ⟨2,true,4,[],[],[],[(0,0,0),(1,0,1)],0⟩,ai 0] :=
  (strong_Definitely psS psS_sm tsU (hzS _ (.inr rfl)) (by decide)).mono fun r L ⟨e,h⟩=>⟨e,by
   rcases h with ⟨h,_⟩|⟨_,a,ha,h3⟩|⟨_,hn,_⟩
   ·exact absurd conF_U h
   ·rw[h3,show psS.length=2 from rfl,chc_U ha];rfl
   ·exact absurd ⟨_,least_U.1⟩ hn⟩
 have h3:∀O,(DodgeR psS (elimOf psS tsS).ok O∧O.length≤513)→PC Proofs.Tryz.prog 17 [aTr psS,.sl 6 (tsS.map aPd),aRows O] (ab true):=fun O ⟨hO,hl⟩=>by
  have:=ref38_Avoids psS psS_sm tsS (hzS _ (.inl rfl)) (by decide) conF_S O (by omega) (dodge_row psS_valid hO)
  rw[dodge_avd psS_valid hO] at this
  exact this
 have h4:=spans_equal [(0,0,0),(1,0,1)] [(0,0,0),(1,0,1)] (by decide)
 rw[decide_eq_true rfl] at h4
 have hx:=law38_example
 have p0:=law38_is 0 ⟨#[120]⟩
 have p1:=law38_is 1 ⟨#[121]⟩
 have hT:aTr psS = .agg [.sl 3 (psS.map aPr)]:=rfl
 have hS:tsS.map aPd=[aPd (oneT 0 ⟨#[120]⟩),aPd (oneT 1 ⟨#[121]⟩)]:=rfl
 have hU:tsU.map aPd=[aPd (oneT 0 ⟨#[120]⟩),.agg [ai 13,ai 0,ai 0,ai 0,astr ByteArray.empty,.sl 6 []]]:=by
  show [aPd (oneT 0 ⟨#[120]⟩),aPd (.mk 13 0 0 0 ByteArray.empty [])]=_
  rw[aPd_mk];rfl
 obtain⟨l0,hk0⟩:∃l,aPd (oneT 0 ⟨#[120]⟩) = .agg [ai 9,ai 0,ai 0,ai 0,astr ByteArray.empty,.sl 6 l]:=⟨_,aPd_mk _ _ _ _ _ _⟩
 obtain⟨l1,hk1⟩:∃l,aPd (oneT 1 ⟨#[121]⟩) = .agg [ai 9,ai 0,ai 0,ai 0,astr ByteArray.empty,.sl 6 l]:=⟨_,aPd_mk _ _ _ _ _ _⟩
 rw[hS,hT] at h1
 rw[hU,hT] at h2
 simp only[hS,hT] at h3
 rw[hT] at hx
 rw[hk0] at p0 h1 h2
 rw[hk1] at p1 h1
 simp only[hk0,hk1] at h3
 clear hS hU hk0 hk1 hT
 generalize psS.map aPr=T at *
 have haA:∀O:List (List Int),aAns ⟨2,false,3,[],[],O,[],0⟩ = .agg [ai 2,ab false,ai 3,.sl 1 [],.sl 1 [],.sl 1 (O.map aInts),.sl 3 [],ai 0]:=fun _=>rfl
 have haB:aAns ⟨2,true,4,[],[],[],[(0,0,0),(1,0,1)],0⟩ = .agg [ai 2,ab true,ai 4,.sl 1 [],.sl 1 [],.sl 1 [],.sl 3 [.agg [ai 0,ai 0,ai 0],.agg [ai 1,ai 0,ai 1]],ai 0]:=rfl
 have haS:aSps [(0,0,0),(1,0,1)] = .sl 3 [.agg [ai 0,ai 0,ai 0],.agg [ai 1,ai 0,ai 1]]:=rfl
 have haR:∀O:List (List Int),aRows O = .sl 1 (O.map aInts):=fun _=>rfl
 simp only[haA] at h1
 rw[haB] at h2
 rw[haS] at h4
 simp only[haR] at h3
 clear haA haB haS haR
 refine PC.enter 53 [.tmp 0] [1,3,9,17,32,50] Proofs.Tryz.func7 rfl rfl rfl rfl rfl (by simp) (AWp.of ?_);simp only[go_sem]
 refine Wk ?_
 refine Sd ?_
 refine(hx).val.use ?_;simp only[go_sem]
 refine Sd ?_
 refine(p0).val.use ?_;simp only[go_sem]
 refine Sd ?_
 refine(p1).val.use ?_;simp only[go_sem]
 refine Wk ?_
 refine h1.val.mono ?_
 rintro r L ⟨rfl,O,hO,rfl⟩
 have h3:=h3 O hO
 generalize O.map aInts=OM at *
 simp only[go_sem]
 intros
 refine Wk ?_
 refine Sd ?_
 refine(hx).val.use ?_;simp only[go_sem]
 refine Sd ?_
 refine(p0).val.use ?_;simp only[go_sem]
 refine Wk ?_
 refine MVal.pass (Lf:=[]) (Li:=[]) (Lr:=[]) (by simp) (Vws.cons (.refl _) (Vws.cons (.mkSl (Vws.cons (.refl _) (Vws.cons (.mkAgg (Vws.cons (.refl _) (Vws.cons (.refl _) (Vws.cons (.refl _) (Vws.cons (.refl _) (Vws.cons (.refl _) (Vws.cons (.nil 6) .nil))))))) .nil))) .nil)) h2.val ?_
 rintro r L1 ⟨rfl,rfl⟩
 refine⟨[],.refl _,?_⟩
 simp only[go_sem]
 intros
 refine Wk ?_
 repeat(first|(with_reducible refine AWp.seq ?_)|(with_reducible refine AWp.block ?_))
 refine AWp.mix mixed [0,1,2,3,4,5,6,7,8,9,10,11,12,13,14,15,16,17,18,19,20,21,22,23,24,25,26,27,28,29,30,31,32] .done (by kernel_rfl) ?_;simp only[go_sem]
 refine Sd ?_
 refine GCall.use (.agg [.sl 3 T]) (fun _=>⟨At,(hx).val.use ⟨rfl,rfl⟩⟩) ?_;simp only[go_sem]
 refine Sd ?_
 refine GCall.use (.agg [ai 9,ai 0,ai 0,ai 0,astr ByteArray.empty,.sl 6 l0]) (fun _=>⟨At,(p0).val.use ⟨rfl,rfl⟩⟩) ?_;simp only[go_sem]
 refine Sd ?_
 refine GCall.use (.agg [ai 9,ai 0,ai 0,ai 0,astr ByteArray.empty,.sl 6 l1]) (fun _=>⟨At,(p1).val.use ⟨rfl,rfl⟩⟩) ?_;simp only[go_sem]
 refine Sd ?_
 refine Sd ?_
 refine GCall.use (ab true) (fun _=>⟨At,(h3).val.use ⟨rfl,rfl⟩⟩) ?_;simp only[go_sem]
 refine Sd ?_
 refine Sd ?_
 refine GCall.use (ab true) (fun _=>⟨At,(h4).val.use ⟨rfl,rfl⟩⟩) ?_;simp only[go_sem]
 refine Sd ?_
 refine Wk ?_
 refine ret_eq ?_;simp only[go_sem]
theorem ref38_Stretch (ps:List Pr) (hs:Sm ps) (s:Spn3):PC Proofs.Tryz.prog 52 [aTr ps,aSp s] (ab (!badSp ps s)):=by
 have hpl:=hs.procs
 obtain⟨p,f,t⟩:=s
 have hB:badSp ps (p,f,t)=(decide (p<0) || (decide ((ps.length:Int)≤p) || (decide (f<0) || (decide (t<f) || decide ((nev ps p.toNat:Int)<t))))):=rfl
 have hA:aSp (p,f,t) = .agg [ai p,ai f,ai t]:=rfl
 rw[hA]
 by_cases hp:p.toNat<ps.length
 ·have hgp:=getD_map (f:=aPr) hp
  have hn:=nev_get hp
  have hel:=hs.evs _ (List.getElem_mem hp)
  rw[hn] at hB
  generalize ps[p.toNat]=X at *
  refine PC.enter 41 [.tmp 4] [2,3] Proofs.Tryz.func52 rfl rfl rfl rfl rfl (by simp) (AWp.of ?_);simp only[go_sem]
  refine Wk ?_
  repeat(first|(with_reducible refine AWp.seq ?_)|(with_reducible refine AWp.block ?_))
  refine AWp.read mixed [0,1,2,3,4,5,6,7,8,9,10,11,12,13,14,15,16,17,18,19,20,21,22,23,24,25,26,27,28,29,30,31,32,33,34,35,36] (by kernel_rfl) ?_;simp only[go_sem,hgp]
  refine Sd ?_
  refine Wk ?_
  refine ret_eq ?_;simp only[go_sem]
  rw[hB]
  congr 2
  rw[Bool.eq_iff_iff]
  simp
  omega
 ·have hgp:(ps.map aPr).getD p.toNat .any = .any:=by rw[List.getD_eq_getElem?_getD,List.getElem?_eq_none (by simp;omega)];rfl
  have hbt:badSp ps (p,f,t)=true:=by rw[hB];simp;omega
  rw[hbt]
  by_cases h0:0≤p
  ·have hpn:¬p<(ps.length:Int):=by omega
   refine PC.enter 41 [.tmp 4] [2,3] Proofs.Tryz.func52 rfl rfl rfl rfl rfl (by simp) (AWp.of ?_);simp only[go_sem]
   refine Wk ?_
   repeat(first|(with_reducible refine AWp.seq ?_)|(with_reducible refine AWp.block ?_))
   refine AWp.read mixed [0,1,2,3,4,5,6,7,8,9,10,11,12,13,14,15,16,17,18,19,20,21,22,23,24,25,26,27,28,29,30,31,32,33,34,35,36] (by kernel_rfl) ?_;simp only[go_sem,hgp,List.getD_nil,hpn,decide_false,Bool.and_false]
   refine Sd ?_
   repeat(first|((with_reducible refine AWp.ofC ?_ ?_);exact rfl;simp only[go_sem])|((with_reducible refine an ?_ ?_);exact Au))
   refine ret_eq ?_;simp only[go_sem]
  ·refine PC.enter 41 [.tmp 4] [2,3] Proofs.Tryz.func52 rfl rfl rfl rfl rfl (by simp) (AWp.of ?_);simp only[go_sem]
   refine Wk ?_
   repeat(first|(with_reducible refine AWp.seq ?_)|(with_reducible refine AWp.block ?_))
   refine AWp.read mixed [0,1,2,3,4,5,6,7,8,9,10,11,12,13,14,15,16,17,18,19,20,21,22,23,24,25,26,27,28,29,30,31,32,33,34,35,36] (by kernel_rfl) ?_;simp only[go_sem,hgp,List.getD_nil,h0,decide_false]
   refine Sd ?_
   repeat(first|((with_reducible refine AWp.ofC ?_ ?_);exact rfl;simp only[go_sem])|((with_reducible refine an ?_ ?_);exact Au))
   refine ret_eq ?_;simp only[go_sem]
open Classical in
theorem ref38_Begins (ps:List Pr) (hs:Sm ps) (hv:validF ps=true) (a o:Stp) (ha:SpIn ps a) (ho:SpIn ps o) (hao:a.1 ≠ o.1):PC Proofs.Tryz.prog 45 [aTr ps,aStp a,aStp o] (ab (bgN ps a o)):=by
 obtain⟨p,f,t⟩:=a
 obtain⟨q,f',t'⟩:=o
 obtain⟨h1,h2,h3⟩:=ha
 obtain⟨k1,k2,k3⟩:=ho
 have h1:p<ps.length:=h1
 have h2:f≤t:=h2
 have h3:t≤nev ps p:=h3
 have k1:q<ps.length:=k1
 have k3:t'≤nev ps q:=k3
 have hao:p ≠ q:=hao
 have hb:bgN ps (p,f,t) (q,f',t')=(decide (f=0) || (decide (t'=nev ps q) || decide ((f:Int)≤cAt (ptF ps q t') p))):=rfl
 have hA:aStp (p,f,t) = .agg [ai p,ai f,ai t]:=rfl
 have hO:aStp (q,f',t') = .agg [ai q,ai f',ai t']:=rfl
 rw[hA,hO]
 have hgq:=getD_map (f:=aPr) k1
 have hnq:=nev_get k1
 have hnp:=nev_get h1
 have hpl:=hs.procs
 have helq:=hs.evs _ (List.getElem_mem k1)
 by_cases hc:f=0∨t'=nev ps q
 ·have hbt:bgN ps (p,f,t) (q,f',t')=true:=by
   rw[hb]
   rcases hc with hc|hc
   ·rw[decide_eq_true hc];rfl
   ·rw[decide_eq_true hc];simp
  rw[hbt]
  rw[hnq] at hc k3
  generalize ps[q]=X at *
  refine PC.enter 39 [.tmp 6] [3,4,5] Proofs.Tryz.func45 rfl rfl rfl rfl rfl (by simp) (AWp.of ?_);simp only[go_sem]
  refine Wk ?_
  repeat(first|(with_reducible refine AWp.seq ?_)|(with_reducible refine AWp.block ?_))
  refine AWp.read mixed [0,1,2,3,4,5,6,7,8,9,10,11,12,13,14,15] (by kernel_rfl) ?_;simp only[go_sem,hgq]
  refine Sd ?_
  refine Wk ?_
  refine⟨fun h => ?_,fun h4 h5 => ?_⟩
  ·refine Wk ?_
   refine ret_eq ?_;simp only[go_sem]
  ·omega
 ·have hf0:f ≠ 0:=fun e=>hc (.inl e)
  have htn:t'<ps[q].evs.length:=by
   have:t' ≠ nev ps q:=fun e=>hc (.inr e)
   omega
  obtain⟨j,rfl⟩:∃j,f=j+1:=⟨f - 1,by omega⟩
  have hj:j<ps[p].evs.length:=by omega
  rw[decide_eq_false hf0,Bool.false_or,decide_eq_false (by omega),Bool.false_or] at hb
  have hm:=(valid_parts hv).2.2
  have hl1:=(valid_len hv).1
  have hpa:=ref12_Past ps hs hm hl1 q k1 t' htn
  rw[pastA_eq] at hpa
  have hrr:=pastR_get ((q:Int),(t':Int)+1) h1 hj
  have hre:=reach_pt hv h1 k1 hao htn hj
  have hbb:decide (Reach ps ((p:Int),(j:Int)+1) ((q:Int),(t':Int)+1))=bgN ps (p,j+1,t) (q,f',t'):=by
   rw[hb,decide_eq_decide];exact hre
  have hRr:(pastR ps ((q:Int),(t':Int)+1) p).getD (j+1) .any=ab (bgN ps (p,j+1,t) (q,f',t')):=by
   have e:((j:Int)+1).toNat=j+1:=by omega
   rw[e] at hrr
   rw[hrr,hbb]
  have hRl:(pastR ps ((q:Int),(t':Int)+1) p).length=nev ps p+1:=by unfold pastR;simp
  have hMl:((List.range ps.length).map fun p=>AV.sl 1 (pastR ps ((q:Int),(t':Int)+1) p)).length=ps.length:=by simp
  have hMg:((List.range ps.length).map fun p=>AV.sl 1 (pastR ps ((q:Int),(t':Int)+1) p)).getD p .any = .sl 1 (pastR ps ((q:Int),(t':Int)+1) p):=map_range_getD h1 _
  generalize (List.range ps.length).map (fun p=>AV.sl 1 (pastR ps ((q:Int),(t':Int)+1) p))=M at *
  generalize pastR ps ((q:Int),(t':Int)+1) p=Rw at *
  generalize bgN ps (p,j+1,t) (q,f',t')=B at *
  have hj1:¬((j+1:Nat):Int)=0:=by omega
  have hjt:(((j+1:Nat):Int)).toNat=j+1:=by omega
  have htt:¬(t':Int)=(ps[q].evs.length:Int):=by omega
  change PC _ _ [_,.agg [ai q,ai ((t':Int)+1)]] _ at hpa
  generalize ps[q]=X at *
  refine PC.enter 39 [.tmp 6] [3,4,5] Proofs.Tryz.func45 rfl rfl rfl rfl rfl (by simp) (AWp.of ?_);simp only[go_sem]
  refine Wk ?_
  repeat(first|(with_reducible refine AWp.seq ?_)|(with_reducible refine AWp.block ?_))
  refine AWp.read mixed [0,1,2,3,4,5,6,7,8,9,10,11,12,13,14,15] (by kernel_rfl) ?_;simp only[go_sem,hgq]
  refine Sd ?_
  refine Wk ?_
  intro h4 h5
  repeat(first|(with_reducible refine AWp.seq ?_)|(with_reducible refine AWp.block ?_))
  refine AWp.read mixed [0,1,2,3,4,5,6,7,8,9,10,11,12,13,14,15,16] (by kernel_rfl) ?_;simp only[go_sem]
  refine Sd ?_
  refine GCall.use (.sl 1 M) (fun _=>⟨At,(hpa).val.use ⟨rfl,rfl⟩⟩) ?_;simp only[go_sem,hMg,hRr,hjt]
  refine Sd ?_
  refine Wk ?_
  refine ret_eq ?_;simp only[go_sem]
end Go.AL
end
section
namespace Go.AL
open Go Go.RowKit
set_option maxRecDepth 4000
theorem ref38_Overlap_bad {ps:List Pr} (hva:PC Proofs.Tryz.prog 42 [aTr ps] (ab false)) (l:List Spn3):PC Proofs.Tryz.prog 19 [aTr ps,aSps l] (.tup [ab false,ai 1]):=by
 have hR:aSps l = .sl 3 (l.map aSp):=rfl
 rw[hR]
 refine PC.enter 80 [.tmp 4,.tmp 5] [2] Proofs.Tryz.func19 rfl rfl rfl rfl rfl (by simp) (AWp.of ?_);simp only[go_sem]
 refine Wk ?_
 refine Sd ?_
 refine(hva).val.use ?_;simp only[go_sem]
 refine Wk ?_
 refine ret_eq ?_;simp only[go_sem]
theorem dup_at {l:List Spn3} {i k:Nat} (hi:i<l.length) (hk:k<i) (h:l[i].1=(l[k]'(by omega)).1):dupSp l i=true:=by
 unfold dupSp
 refine List.any_eq_true.2 ⟨l[k]'(by omega),List.mem_take_iff_getElem.2 ⟨k,by omega,rfl⟩,decide_eq_true ?_⟩
 rw[List.getD_eq_getElem?_getD,List.getElem?_eq_getElem hi,Option.getD_some,h]
theorem dup_no {l:List Spn3} {i:Nat} (hi:i<l.length) (h:∀k (hk:k<i),l[i].1 ≠ (l[k]'(by omega)).1):dupSp l i=false:=by
 unfold dupSp
 rw[List.any_eq_false]
 intro x hx
 obtain⟨k,hk,rfl⟩:=List.mem_take_iff_getElem.1 hx
 rw[decide_eq_true_eq,List.getD_eq_getElem?_getD,List.getElem?_eq_getElem hi,Option.getD_some]
 exact fun e=>h k (by omega) e.symm
set_option maxHeartbeats 1000000 in
theorem ref38_Overlap (ps:List Pr) (hs:Sm ps) (l:List Spn3) (hl:l.length≤9223372036854775806):PC Proofs.Tryz.prog 19 [aTr ps,aSps l] (.tup [ab (decide (gvnE ps l=0) && ovF ps (l.map spN)),ai (gvnE ps l)]):=by
 have h1:=ref12_Valid ps hs
 have hR:aSps l = .sl 3 (l.map aSp):=rfl
 cases hv:validF ps with
 | false =>
  have hE:gvnE ps l=1:=by unfold gvnE;rw[hv];rfl
  rw[hv] at h1
  rw[hE]
  exact ref38_Overlap_bad h1 l
 | true =>
  rw[hv] at h1
  have hE0:gvnE ps l=if 1000<l.length then 5 else if l.any (badSp ps)=true then 2 else if (List.range l.length).any (dupSp l)=true then 8 else 0:=by unfold gvnE;rw[hv,if_pos rfl]
  rw[hR]
  by_cases hlen:1000<l.length
  ·have hli:(1000:Int)<(l.length:Int):=by omega
   rw[hE0,if_pos hlen]
   refine PC.enter 80 [.tmp 4,.tmp 5] [2] Proofs.Tryz.func19 rfl rfl rfl rfl rfl (by simp) (AWp.of ?_);simp only[go_sem]
   refine Wk ?_
   refine Sd ?_
   refine(h1).val.use ?_;simp only[go_sem]
   repeat(first|((with_reducible refine AWp.ofC ?_ ?_);exact rfl;simp only[go_sem,hli])|((with_reducible refine an ?_ ?_);exact Au))
   refine ret_eq ?_;simp only[go_sem]
   rfl
  ·have hli:¬(1000:Int)<(l.length:Int):=by omega
   rw[if_neg hlen] at hE0
   have hovI:=ov_iff (ps:=ps) (l:=l.map spN)
   generalize hov:ovF ps (l.map spN)=OV at *
   generalize gvnE ps l=E at *
   refine PC.enter 80 [.tmp 4,.tmp 5] [2] Proofs.Tryz.func19 rfl rfl rfl rfl rfl (by simp) (AWp.of ?_);simp only[go_sem]
   refine Wk ?_
   refine Sd ?_
   refine(h1).val.use ?_;simp only[go_sem]
   repeat(first|((with_reducible refine AWp.ofC ?_ ?_);exact rfl;simp only[go_sem,hli])|((with_reducible refine an ?_ ?_);exact Au))
   refine(AWp.block (AWp.count 6 l.length [] [1,2] (fun i vs L=>L=[]∧∀j (hj:j<l.length),j<i→badSp ps l[j]=false) rfl rfl ⟨rfl,fun _ _ h=>by omega⟩ ?_))
   rintro i vs L hil - ⟨rfl,hI⟩
   simp only[go_sem]
   by_cases hi:i<l.length
   ·have hii:(i:Int)<l.length:=by omega
    have hgi:=getD_map (f:=aSp) hi
    have hst:=ref38_Stretch ps hs l[i]
    have hbad:badSp ps l[i]=true→E=2:=fun h=>by
     rw[hE0,if_pos (List.any_eq_true.2 ⟨_,List.getElem_mem hi,h⟩)]
    have hI2:badSp ps l[i]=false→∀j (hj:j<l.length),j<i+1→badSp ps l[j]=false:=fun h j hj hji=>by
     by_cases e:j=i
     ·subst e;exact h
     ·exact hI j hj (by omega)
    clear hI
    generalize badSp ps l[i]=B at *
    generalize l[i]=s at *
    obtain⟨p,f,t⟩:=s
    have hgi:(l.map aSp).getD i .any = .agg [ai p,ai f,ai t]:=hgi
    change PC _ _ [_,.agg [ai p,ai f,ai t]] _ at hst
    repeat(first|((with_reducible refine AWp.ofC ?_ ?_);exact rfl;simp only[go_sem,hii])|((with_reducible refine an ?_ ?_);exact Au))
    repeat(first|(with_reducible refine AWp.seq ?_)|(with_reducible refine AWp.block ?_))
    refine AWp.read mixed [0,1,2,3,4,5,6] (by kernel_rfl) ?_;simp only[go_sem,hgi,hii]
    refine Sd ?_
    refine GCall.use (ab (!B)) (fun _=>⟨At,(hst).val.use ⟨rfl,rfl⟩⟩) ?_;simp only[go_sem]
    refine Sd ?_
    cases B with
    | true =>
     rw[hbad rfl]
     refine Wk ?_
     refine ret_eq ?_;simp only[go_sem]
     rfl
    | false =>
     refine Wk ?_
     exact⟨_,List.Sublist.refl _,rfl,hI2 rfl⟩
   ·have hii:¬(i:Int)<l.length:=by omega
    have hall:∀s ∈ l,badSp ps s=false:=fun s hs=>by
     obtain⟨j,hj,rfl⟩:=List.getElem_of_mem hs
     exact hI j hj (by omega)
    have hnb:¬l.any (badSp ps)=true:=by
     rw[Bool.not_eq_true,List.any_eq_false]
     intro x hx
     rw[hall x hx];decide
    rw[if_neg hnb] at hE0
    clear hI hnb
    repeat(first|((with_reducible refine AWp.ofC ?_ ?_);exact rfl;simp only[go_sem,hii])|((with_reducible refine an ?_ ?_);exact Au))
    refine(AWp.block (AWp.count 7 l.length [] [1,2] (fun i vs L=>L=[]∧∀j,j<i→dupSp l j=false) rfl rfl ⟨rfl,fun _ h=>by omega⟩ ?_))
    rintro i vs L hil - ⟨rfl,hJ⟩
    simp only[go_sem]
    by_cases hi:i<l.length
    ·have hii:(i:Int)<l.length:=by omega
     have htw:dupSp l i=true→E=8:=fun h=>by
      rw[hE0,if_pos (List.any_eq_true.2 ⟨i,List.mem_range.2 hi,h⟩)]
     have hJ2:dupSp l i=false→∀j,j<i+1→dupSp l j=false:=fun h j hji=>by
      by_cases e:j=i
      ·subst e;exact h
      ·exact hJ j (by omega)
     have hda:=fun k hk h=>dup_at (l:=l) (i:=i) (k:=k) hi hk h
     have hdn:=dup_no (l:=l) hi
     clear hJ
     repeat(first|((with_reducible refine AWp.ofC ?_ ?_);exact rfl;simp only[go_sem,hii])|((with_reducible refine an ?_ ?_);exact Au))
     refine(AWp.block (AWp.count 8 i [] [1,2,7] (fun k vs L=>L=[]∧∀k' (hk:k'<i),k'<k→l[i].1 ≠ (l[k']'(by omega)).1) rfl rfl ⟨rfl,fun _ _ h=>by omega⟩ ?_))
     rintro k vs L hki - ⟨rfl,hK⟩
     simp only[go_sem]
     by_cases hk:k<i
     ·have hkk:(k:Int)<(i:Int):=by omega
      have hgi:=getD_map (f:=aSp) hi
      have hgk:=getD_map (f:=aSp) (l:=l) (k:=k) (by omega)
      have hd:=hda k hk
      have hK2:l[i].1 ≠ (l[k]'(by omega)).1→∀k' (hk:k'<i),k'<k+1→l[i].1 ≠ (l[k']'(by omega)).1:=fun h k' hk' h'=>by
       by_cases e:k'=k
       ·subst e;exact h
       ·exact hK k' hk' (by omega)
      have ei:aSp l[i] = .agg [ai l[i].1,ai l[i].2.1,ai l[i].2.2]:=rfl
      have ek:aSp (l[k]'(by omega)) = .agg [ai (l[k]'(by omega)).1,ai (l[k]'(by omega)).2.1,ai (l[k]'(by omega)).2.2]:=rfl
      rw[ei] at hgi
      rw[ek] at hgk
      repeat(first|((with_reducible refine AWp.ofC ?_ ?_);exact rfl;simp only[go_sem,hkk])|((with_reducible refine an ?_ ?_);exact Au))
      repeat(first|(with_reducible refine AWp.seq ?_)|(with_reducible refine AWp.block ?_))
      refine AWp.read mixed [0,1,2,3,4,5,6,7,8,9,10] (by kernel_rfl) ?_;simp only[go_sem,hgi,hgk]
      refine Sd ?_
      repeat(first|((with_reducible refine AWp.ofC ?_ ?_);exact rfl;simp only[go_sem])|((with_reducible refine an ?_ ?_);exact Au))
      refine⟨fun h => ?_,fun h => ?_⟩
      ·rw[htw (hd h)]
       refine Wk ?_
       refine ret_eq ?_;simp only[go_sem]
       rfl
      ·refine Wk ?_
       exact⟨_,List.Sublist.refl _,rfl,hK2 h⟩
     ·have hkk:¬(k:Int)<(i:Int):=by omega
      have hdf:=hdn fun k' hk'=>hK k' hk' (by omega)
      repeat(first|((with_reducible refine AWp.ofC ?_ ?_);exact rfl;simp only[go_sem,hkk])|((with_reducible refine an ?_ ?_);exact Au))
      exact⟨_,List.Sublist.refl _,rfl,hJ2 hdf⟩
    ·have hii:¬(i:Int)<l.length:=by omega
     have hnd:¬(List.range l.length).any (dupSp l)=true:=by
      rw[Bool.not_eq_true,List.any_eq_false]
      intro x hx
      rw[hJ x (by have:=List.mem_range.1 hx;omega)];decide
     have hdist:∀i k (hi:i<l.length) (hk:k<l.length),i ≠ k→l[i].1 ≠ l[k].1:=fun a c ha hc hac e=>by
      rcases Nat.lt_or_gt_of_ne hac with h|h
      ·have:=dup_at (l:=l) (i:=c) (k:=a) hc h e.symm
       rw[hJ c (by omega)] at this;cases this
      ·have:=dup_at (l:=l) (i:=a) (k:=c) ha h e
       rw[hJ a (by omega)] at this;cases this
     rw[if_neg hnd] at hE0
     subst hE0
     rw[decide_eq_true rfl,Bool.true_and]
     clear hJ hnd
     obtain⟨_,hin⟩:=sps_stp hall
     have hel:∀i (hi:i<l.length),SpIn ps (spN l[i])∧aSp l[i]=aStp (spN l[i])∧(spN l[i]).1=l[i].1:=fun i hi=>by
      obtain⟨a1,a2,a3⟩:=bad_not (hall l[i] (List.getElem_mem hi))
      exact⟨a1,a2,by rw[congrArg Prod.fst a3];rfl⟩
     have hnl:(l.map spN).length=l.length:=List.length_map _
     have hov1:(∀i k (hi:i<l.length) (hk:k<l.length),i ≠ k→bgN ps (spN l[i]) (spN l[k])=true)→OV=true:=fun h=>by
      rw[hovI]
      intro i k hi hk hik
      rw[List.getElem_map,List.getElem_map]
      exact h i k (by omega) (by omega) hik
     have hov0:∀i k (hi:i<l.length) (hk:k<l.length),i ≠ k→bgN ps (spN l[i]) (spN l[k])=false→OV=false:=fun i k hi hk hik h=>by
      cases hO:OV with
      | false=>rfl
      | true =>
       have:=hovI.1 hO i k (by omega) (by omega) hik
       rw[List.getElem_map,List.getElem_map,h] at this;cases this
     have hbg:∀i k (hi:i<l.length) (hk:k<l.length),i ≠ k→PC Proofs.Tryz.prog 45 [aTr ps,aSp l[i],aSp l[k]] (ab (bgN ps (spN l[i]) (spN l[k]))):=fun i k hi hk hik=>by
      obtain⟨a1,a2,a3⟩:=hel i hi
      obtain⟨c1,c2,c3⟩:=hel k hk
      rw[a2,c2]
      exact ref38_Begins ps hs hv _ _ a1 c1 fun e=>hdist i k hi hk hik (by rw[← a3,← c3,e])
     clear hovI hov hin hall hdist hel
     repeat(first|((with_reducible refine AWp.ofC ?_ ?_);exact rfl;simp only[go_sem,hii])|((with_reducible refine an ?_ ?_);exact Au))
     refine(AWp.block (AWp.count 9 l.length [] [1,2] (fun i vs L=>L=[]∧∀a c (ha:a<l.length) (hc:c<l.length),a<i→a ≠ c→bgN ps (spN l[a]) (spN l[c])=true) rfl rfl ⟨rfl,fun _ _ _ _ h=>by omega⟩ ?_))
     rintro i vs L hil - ⟨rfl,hA⟩
     simp only[go_sem]
     by_cases hi:i<l.length
     ·have hii:(i:Int)<l.length:=by omega
      have hA2:(∀c (hc:c<l.length),i ≠ c→bgN ps (spN l[i]) (spN l[c])=true)→∀a c (ha:a<l.length) (hc:c<l.length),a<i+1→a ≠ c→bgN ps (spN l[a]) (spN l[c])=true:=fun h a c ha hc hai hac=>by
       by_cases e:a=i
       ·subst e;exact h c hc hac
       ·exact hA a c ha hc (by omega) hac
      clear hA
      repeat(first|((with_reducible refine AWp.ofC ?_ ?_);exact rfl;simp only[go_sem,hii])|((with_reducible refine an ?_ ?_);exact Au))
      refine(AWp.block (AWp.count 10 l.length [] [1,2,9] (fun k vs L=>L=[]∧∀c (hc:c<l.length),c<k→i ≠ c→bgN ps (spN l[i]) (spN l[c])=true) rfl rfl ⟨rfl,fun _ _ h=>by omega⟩ ?_))
      rintro k vs L hkl - ⟨rfl,hB⟩
      simp only[go_sem]
      by_cases hk:k<l.length
      ·have hkk:(k:Int)<l.length:=by omega
       have hgi:=getD_map (f:=aSp) hi
       have hgk:=getD_map (f:=aSp) hk
       have hb:=hbg i k hi hk
       have h0:=hov0 i k hi hk
       have hB2:(i ≠ k→bgN ps (spN l[i]) (spN l[k])=true)→∀c (hc:c<l.length),c<k+1→i ≠ c→bgN ps (spN l[i]) (spN l[c])=true:=fun h c hc hck hic=>by
        by_cases e:c=k
        ·subst e;exact h hic
        ·exact hB c hc (by omega) hic
       have ei:aSp l[i] = .agg [ai l[i].1,ai l[i].2.1,ai l[i].2.2]:=rfl
       have ek:aSp l[k] = .agg [ai l[k].1,ai l[k].2.1,ai l[k].2.2]:=rfl
       rw[ei] at hgi hb
       rw[ek] at hgk hb
       clear hB hbg hov0
       generalize bgN ps (spN l[i]) (spN l[k])=BB at *
       repeat(first|((with_reducible refine AWp.ofC ?_ ?_);exact rfl;simp only[go_sem,hkk])|((with_reducible refine an ?_ ?_);exact Au))
       by_cases hik:i=k
       ·have hki:(i:Int)=(k:Int):=by omega
        repeat(first|(with_reducible refine AWp.seq ?_)|(with_reducible refine AWp.block ?_))
        refine AWp.read mixed [0,1,2,3,4,5,6,7,8,9,10,11,12,13,14,15] (by kernel_rfl) ?_;simp only[go_sem,hgk,hkk,hki]
        refine Sd ?_
        refine GCall.use .any (fun h=>absurd h (by simp)) ?_
        simp only[go_sem]
        repeat(first|((with_reducible refine AWp.ofC ?_ ?_);exact rfl;simp only[go_sem])|((with_reducible refine an ?_ ?_);exact Au))
        exact⟨_,List.Sublist.refl _,rfl,hB2 fun h=>absurd hik h⟩
       ·have hki:¬(i:Int)=(k:Int):=by omega
        have hb:=hb hik
        repeat(first|(with_reducible refine AWp.seq ?_)|(with_reducible refine AWp.block ?_))
        refine AWp.read mixed [0,1,2,3,4,5,6,7,8,9,10,11,12,13,14,15] (by kernel_rfl) ?_;simp only[go_sem,hgi,hgk,hkk,hki]
        refine Sd ?_
        refine Sd ?_
        refine GCall.use (ab BB) (fun _=>⟨At,(hb).val.use ⟨rfl,rfl⟩⟩) ?_;simp only[go_sem]
        refine Sd ?_
        cases BB with
        | true =>
         repeat(first|((with_reducible refine AWp.ofC ?_ ?_);exact rfl;simp only[go_sem])|((with_reducible refine an ?_ ?_);exact Au))
         exact⟨_,List.Sublist.refl _,rfl,hB2 fun _=>rfl⟩
        | false =>
         rw[h0 hik rfl]
         repeat(first|((with_reducible refine AWp.ofC ?_ ?_);exact rfl;simp only[go_sem])|((with_reducible refine an ?_ ?_);exact Au))
         refine ret_eq ?_;simp only[go_sem]
      ·have hkk:¬(k:Int)<l.length:=by omega
       have hA3:=hA2 fun c hc hic=>hB c hc (by omega) hic
       repeat(first|((with_reducible refine AWp.ofC ?_ ?_);exact rfl;simp only[go_sem,hkk])|((with_reducible refine an ?_ ?_);exact Au))
       exact⟨_,List.Sublist.refl _,rfl,hA3⟩
     ·have hii:¬(i:Int)<l.length:=by omega
      rw[hov1 fun a c ha hc hac=>hA a c ha hc (by omega) hac]
      repeat(first|((with_reducible refine AWp.ofC ?_ ?_);exact rfl;simp only[go_sem,hii])|((with_reducible refine an ?_ ?_);exact Au))
      refine ret_eq ?_;simp only[go_sem]
def dropK (rows:Nat→List Stp) (a:Nat→Nat) (n:Nat):List AV:=(List.range n).map fun p => .sl 3 (((rows p).drop (a p)).map aStp)
noncomputable def aLeast (ps:List Pr) (rows:Nat→List Stp):AV:=match tgtO ps rows with
 | some a => .tup [.sl 3 ((chcL ps.length rows a).map aStp),ab true]
 | none => .tup [.sl 3 [],ab false]
def totA (rows:Nat→List Stp) (n:Nat) (a:Nat→Nat):Nat:=totS n fun p=>(rows p).length - a p
structure ElA (ps:List Pr) (rows:Nat→List Stp) (a:Nat→Nat):Prop where
 lt:∀p,p<ps.length→a p<(rows p).length
 low:∀t,TgtS ps rows t→∀p,p<ps.length→a p≤t p
theorem ElA.step {ps:List Pr} {b:Nat→Nat→Bool} {rows:Nat→List Stp} (hR:RowsOk ps b rows) {a:Nat→Nat} (h:ElA ps rows a) {p q:Nat} (hp:p<ps.length) (hq:q<ps.length) (hpq:p ≠ q) (hb:bgN ps (fSp rows p (a p)) (fSp rows q (a q))=false) :
  (a q+1=(rows q).length→¬ ∃t,TgtS ps rows t)∧(a q+1 ≠ (rows q).length→ElA ps rows (updN a q (a q+1))∧totA rows ps.length (updN a q (a q+1))<totA rows ps.length a):=by
 have hs:=tgt_step (mon_rows hR) h.low hp hq hpq hb
 have hlq:=h.lt q hq
 have e:∀r,updN a q (a q+1) r=if r=q then a q+1 else a r:=fun r=>rfl
 refine⟨fun h1=>tgt_none hs hq (by show (rows q).length≤if q=q then a q+1 else a q;rw[if_pos rfl];omega),fun h1=>⟨⟨fun r hr => ?_,fun t ht r hr=>by rw[e];exact hs t ht r hr⟩,?_⟩⟩
 ·by_cases e2:r=q
  ·subst e2;rw[updN_self];omega
  ·rw[updN_ne e2];exact h.lt r hr
 ·unfold totA
  refine totS_lt2 ps.length (p:=q) (fun r _ => ?_) hq ?_
  ·by_cases e2:r=q
   ·subst e2;rw[updN_self];omega
   ·rw[updN_ne e2];exact Nat.le_refl _
  ·rw[updN_self];omega
structure RndA (ps:List Pr) (rows:Nat→List Stp) (a0 a:Nat→Nat) (ch:Bool) (p q:Nat):Prop where
 el:ElA ps rows a
 no:ch=false→a=a0∧∀p' q',p'<ps.length→q'<ps.length→(p'<p∨(p'=p∧q'<q))→p' ≠ q'→bgN ps (fSp rows p' (a p')) (fSp rows q' (a q'))=true
 yes:ch=true→totA rows ps.length a<totA rows ps.length a0
theorem ref37_Fault_bad {ps:List Pr} (hrv:PC Proofs.Tryz.prog 42 [aTr ps] (ab false)) (ts:List Pd) (_htl:ts.length≤9223372036854775807):PC Proofs.Tryz.prog 12 [aTr ps,.sl 6 (ts.map aPd)] (ai 1):=by
 refine PC.enter 34 [.tmp 4] [2] Proofs.Tryz.func12 rfl rfl rfl rfl rfl (by simp) (AWp.of ?_);simp only[go_sem]
 refine Wk ?_
 refine Sd ?_
 refine(hrv).val.use ?_;simp only[go_sem]
 refine Wk ?_
 refine ret_eq ?_;simp only[go_sem]
structure ErrA (ps:List Pr) (ts:List Pd) (e:Int):Prop where
 ne:e ≠ 0
 df:PC Proofs.Tryz.prog 10 [aTr ps,.sl 6 (ts.map aPd)] (.tup [aAns noAns,ai e])
 dg:PC Proofs.Tryz.prog 11 [aTr ps,.sl 6 (ts.map aPd)] (.tup [aRows [],ai e])
 ft:PC Proofs.Tryz.prog 12 [aTr ps,.sl 6 (ts.map aPd)] (ai e)
theorem ErrA.bad {ps:List Pr} (hvd:Vd ps) (hv:validF ps=false) (ts:List Pd) (htl:ts.length≤1000000):ErrA ps ts 1:=by
 have hva:=hvd.val
 have hrv:=hvd.rval
 rw[hv] at hva hrv
 exact⟨by decide,strong_Definitely_bad hva ts (by omega),strong_Dodge_bad hva ts (by omega),ref37_Fault_bad hrv ts (by omega)⟩
theorem ErrA.of {ps:List Pr} (hs:Sm ps) (ts:List Pd) (hz:∀t ∈ ts,szF t≤1000000) (htl:ts.length≤1000000) (hC:conF ps ts ≠ 0):ErrA ps ts (conF ps ts):=by
 refine⟨hC,(strong_Definitely ps hs ts hz htl).mono fun r L ⟨e,h⟩=>⟨?_,e⟩,(strong_Dodge ps hs ts hz htl).mono fun r L ⟨e,h⟩=>⟨?_,e⟩,ref37_Fault ps hs ts hz htl⟩
 ·rcases h with ⟨_,h⟩|⟨h,_⟩|⟨h,_⟩
  ·exact h
  ·exact absurd h hC
  ·exact absurd h hC
 ·rcases h with ⟨_,h⟩|⟨h,_⟩|⟨h,_⟩
  ·exact h
  ·exact absurd h hC
  ·exact absurd h hC
end Go.AL
end
