/- Texts of this claim's proof: WV18, WV9, WV14, WXr. No condition. -/
import Derived.Test.YtaomlpmcimjfgaaGreatDoorM20
import Derived.Test.YtaomlpmcimjfgaaGreatDoorM13
import Derived.Test.YtaomlpmcimjfgaaGreatDoorM17
import Derived.Test.YtaomlpmcimjfgaaGreatDoorM7
section
namespace Go.AL
open Go Go.RowKit
set_option maxRecDepth 4000
def psS:List Pr:=[⟨⟨#[97]⟩,[(⟨#[120]⟩,1)],[⟨1,0,0,0,[(0,0)]⟩]⟩,⟨⟨#[98]⟩,[(⟨#[121]⟩,0)],[⟨1,0,0,0,[(0,1)]⟩]⟩]
def tsS:List Pd:=[oneT 0 ⟨#[120]⟩,oneT 1 ⟨#[121]⟩]
def tsU:List Pd:=[oneT 0 ⟨#[120]⟩,.mk 13 0 0 0 ByteArray.empty []]
theorem psS_valid:validF psS=true:=by
 unfold validF faultF
 rw[if_neg (by decide),show procFirst psS=none from rfl,show evFirst psS=none from rfl,show msgF psS=none from rfl,cycF_rank (fun x=>x.1) (by decide)]
 rfl
theorem psS_sm:Sm psS:=⟨by decide,by decide,by decide,by decide⟩
theorem lclS {p:Int} {t:Pd} (h1:formedB t=true) (h2:allB (resB psS) t=true) (h3:typedB t=true) (h4:fitB psS t=true) (h5:0≤p∧p<2) (h7:¬t.kind≤8) (h8:allB (lclB p) t=true):lclF psS p 0 t=0:=by
 have hc:checkF psS t=0:=by
  unfold checkF
  rw[psS_valid,h1,h2,h3,h4];rfl
 have hn:0≤evN psS p:=by
  unfold evN;split <;> omega
 have hl:(psS.length:Int)=2:=rfl
 unfold lclF
 rw[hc,if_neg (by decide),if_neg (by omega),if_neg h7,h8];rfl
theorem conF_S:conF psS tsS=0:=conF_zero ⟨psS_valid,rfl⟩ fun q hq=>by
 have hq:q<2:=hq
 rcases q with _|_|q
 ·exact lclS rfl rfl rfl rfl (by decide) (show ¬(_:Int)≤8 from by simp [tsS,oneT,Pd.kind]) rfl
 ·exact lclS rfl rfl rfl rfl (by decide) (show ¬(_:Int)≤8 from by simp [tsS,oneT,Pd.kind]) rfl
 ·omega
theorem conF_U:conF psS tsU=0:=conF_zero ⟨psS_valid,rfl⟩ fun q hq=>by
 have hq:q<2:=hq
 rcases q with _|_|q
 ·exact lclS rfl rfl rfl rfl (by decide) (show ¬(_:Int)≤8 from by simp [tsU,oneT,Pd.kind]) rfl
 ·exact lclS rfl rfl rfl rfl (by decide) (show ¬(_:Int)≤8 from by simp [tsU,oneT,Pd.kind]) rfl
 ·omega
theorem none_S:¬ ∃t,TgtS psS (rowsOf psS tsS) t:=fun ⟨t,h1,h2⟩=>by
 have a0:t 0<1:=h1 0 (by decide)
 have a1:t 1<1:=h1 1 (by decide)
 have h3:=h2 1 0 (by decide) (by decide) (by decide)
 have e0:t 0=0:=by omega
 have e1:t 1=0:=by omega
 rw[e0,e1] at h3
 have:bgN psS (fSp (rowsOf psS tsS) 1 0) (fSp (rowsOf psS tsS) 0 0)=false:=by
  show bgN psS (1,1,1) (0,0,0)=false
  decide
 rw[this] at h3;cases h3
theorem least_U:LeastS psS (rowsOf psS tsU) fun _=>0:=by
 refine⟨⟨fun p hp => ?_,fun p q hp hq hpq => ?_⟩,fun _ _ _ _=>Nat.zero_le _⟩
 ·have hp:p<2:=hp
  rcases p with _|_|p
  ·exact Nat.zero_lt_one
  ·exact Nat.zero_lt_one
  ·omega
 ·have hp:p<2:=hp
  rcases p with _|_|p
  ·rfl
  ·rfl
  ·omega
theorem chc_U {a:Nat→Nat} (h:LeastS psS (rowsOf psS tsU) a):chcL 2 (rowsOf psS tsU) a=[(0,0,0),(1,0,1)]:=by
 have h2:=chcL_congr (n:=2) (rows:=rowsOf psS tsU) (a:=a) (b:=fun _=>0) fun p hp=>least_unique h least_U hp
 rw[h2];rfl
theorem law38_is (p:Int) (s:ByteArray):PC Proofs.Tryz.prog 30 [ai p,astr s] (aPd (oneT p s)):=by
 have hP:aPd (oneT p s) = .agg [ai 9,ai 0,ai 0,ai 0,astr ByteArray.empty,.sl 6 [.agg [ai 2,ai 0,ai p,ai 0,astr s,.sl 6 []],.agg [ai 1,ai 1,ai 0,ai 0,astr ByteArray.empty,.sl 6 []]]]:=by
  unfold oneT
  rw[aPd_mk,List.map_cons,List.map_cons,List.map_nil,aPd_mk,aPd_mk];rfl
 rw[hP]
 refine PC.enter 11 [.cell 4 61] [9] Proofs.Tryz.func30 rfl rfl rfl rfl rfl (by simp) (AWp.of ?_);simp only[go_sem]
 intro b4
 repeat(first|((with_reducible refine AWp.ofC ?_ ?_);exact rfl;simp only[go_sem])|((with_reducible refine an ?_ ?_);exact Au))
 refine ret_view [] ?_;simp only[go_sem]
 refine .mkAgg ?_
 refine Vws.cons (.refl _) (Vws.cons (.refl _) (Vws.cons (.refl _) (Vws.cons (.refl _) (Vws.cons (.refl _) (Vws.cons (Vw.mkSl ?_) .nil)))))
 refine Vws.cons (.mkAgg ?_) (Vws.cons (.mkAgg ?_) .nil)
 ·exact Vws.cons (.refl _) (Vws.cons (.refl _) (Vws.cons (.refl _) (Vws.cons (.refl _) (Vws.cons (.refl _) (Vws.cons (.nil 6) .nil)))))
 ·exact Vws.cons (.refl _) (Vws.cons (.refl _) (Vws.cons (.refl _) (Vws.cons (.refl _) (Vws.cons (.refl _) (Vws.cons (.nil 6) .nil)))))
set_option maxHeartbeats 4000000 in
theorem law38_example:PC Proofs.Tryz.prog 29 [] (aTr psS):=by
 refine PC.enter 17 [.cell 0 24] [2,4,6,9,11,13,15] Proofs.Tryz.func29 rfl rfl rfl rfl rfl (by simp) (AWp.of ?_);simp only[go_sem]
 intro b0
 refine AWp.of ?_
 simp (config:={ maxSteps:=3000000 }) only [go_sem]
 repeat(first|((with_reducible refine AWp.ofC ?_ ?_);exact rfl;simp only[go_sem])|((with_reducible refine an ?_ ?_);exact Au))
 refine ret_eq ?_
 simp only[go_sem]
 rfl
theorem spans_equal (a b:List Spn3) (ha:a.length≤1000000):PC Proofs.Tryz.prog 31 [aSps a,aSps b] (ab (decide (a=b))):=by
 have haE:∀l:List Spn3,aSps l = .sl 3 (l.map aSp):=fun _=>rfl
 rw[haE,haE]
 refine PC.enter 26 [.tmp 4] [] Proofs.Tryz.func31 rfl rfl rfl rfl rfl (by simp) (AWp.of ?_);simp only[go_sem]
 repeat(first|((with_reducible refine AWp.ofC ?_ ?_);exact rfl;simp only[go_sem])|((with_reducible refine an ?_ ?_);exact Au))
 refine⟨fun h1 => ?_,fun h1 => ?_⟩
 ·repeat(first|((with_reducible refine AWp.ofC ?_ ?_);exact rfl;simp only[go_sem])|((with_reducible refine an ?_ ?_);exact Au))
  refine ret_eq ?_;simp only[go_sem]
  congr 2;symm;apply decide_eq_false;rintro rfl;exact h1 rfl
 ·have hab:a.length=b.length:=by omega
  repeat((with_reducible refine an ?_ ?_);exact As)
  refine AWp.of ?_;simp only[go_sem]
  refine AWp.range' a.length [] [0,1,12] (fun k vs L=>L=[]∧∀(i:Nat) (hi:i<a.length),i<k→a[i]=b[i]) (by omega) rfl rfl rfl ⟨rfl,by omega⟩ ?_ ?_
  ·rintro k vs L' hk - ⟨rfl,hI⟩
   have hkb:k<b.length:=by omega
   have ga:=getD_map (f:=aSp) hk
   have gb:=getD_map (f:=aSp) hkb
   obtain⟨x1,x2,x3,hx⟩:∃x1 x2 x3,a[k]=(x1,x2,x3):=⟨_,_,_,rfl⟩
   obtain⟨y1,y2,y3,hy⟩:∃y1 y2 y3,b[k]=(y1,y2,y3):=⟨_,_,_,rfl⟩
   rw[hx] at ga
   rw[hy] at gb
   change _=AV.agg [ai x1,ai x2,ai x3] at ga
   change _=AV.agg [ai y1,ai y2,ai y3] at gb
   have hxy:a[k]=b[k]↔(x1=y1∧x2=y2)∧x3=y3:=by rw[hx,hy];exact⟨fun h=>by cases h;exact⟨⟨rfl,rfl⟩,rfl⟩,fun h=>by rw[h.1.1,h.1.2,h.2]⟩
   simp only[go_sem]
   repeat(first|((with_reducible refine AWp.ofC ?_ ?_);exact rfl;simp only[go_sem])|((with_reducible refine an ?_ ?_);exact Au))
   repeat(first|(with_reducible refine AWp.seq ?_)|(with_reducible refine AWp.block ?_))
   refine AWp.read mixed [0,1,2,3,4,5,6,7,8] (by kernel_rfl) ?_;simp only[go_sem,ga,gb]
   repeat((with_reducible refine an ?_ ?_);exact As)
   by_cases he:(x1=y1∧x2=y2)∧x3=y3
   ·have hst:∀(i:Nat) (hi:i<a.length),i<k+1→a[i]=b[i]:=fun i hi hik=>by
     by_cases e:i=k
     ·subst e;exact hxy.2 he
     ·exact hI i hi (by omega)
    obtain⟨⟨rfl,rfl⟩,rfl⟩:=he
    repeat(first|((with_reducible refine AWp.ofC ?_ ?_);exact rfl;simp only[go_sem])|((with_reducible refine an ?_ ?_);exact Au))
    exact⟨_,List.Sublist.refl _,rfl,hst⟩
   ·have hne:¬a=b:=fun e=>he (hxy.1 (by subst e;rfl))
    rw[decide_eq_false hne]
    have hd:(decide (x1=y1) && (decide (x2=y2) && decide (x3=y3)))=false:=by rw[← Bool.decide_and,← Bool.decide_and];exact decide_eq_false fun h=>he ⟨⟨h.1,h.2.1⟩,h.2.2⟩
    rw[hd]
    repeat(first|((with_reducible refine AWp.ofC ?_ ?_);exact rfl;simp only[go_sem])|((with_reducible refine an ?_ ?_);exact Au))
    refine ret_eq ?_;simp only[go_sem]
  ·rintro vs L' - ⟨rfl,hI⟩
   simp only[go_sem]
   repeat(first|((with_reducible refine AWp.ofC ?_ ?_);exact rfl;simp only[go_sem])|((with_reducible refine an ?_ ?_);exact Au))
   refine ret_eq ?_;simp only[go_sem]
   congr 2;symm;apply decide_eq_true
   exact List.ext_getElem hab fun i hi _=>hI i hi hi
theorem law38_awake:PC Proofs.Tryz.prog 7 [] (ab true):=by
 have hzS:∀ts:List Pd,ts=tsS∨ts=tsU→∀t ∈ ts,szF t≤1000000:=fun ts h t ht=>by
  rcases h with rfl|rfl <;> simp only[tsS,tsU,List.mem_cons,List.not_mem_nil,or_false] at ht <;> rcases ht with rfl|rfl <;> decide
 have h1:MCalls Proofs.Tryz.prog 10 [aTr psS,.sl 6 (tsS.map aPd)] [] fun r L=>L=[]∧∃O,(DodgeR psS (elimOf psS tsS).ok O∧O.length≤513)∧r = .tup [aAns ⟨2,false,3,[],[],O,[],0⟩,ai 0] :=
  (strong_Definitely psS psS_sm tsS (hzS _ (.inl rfl)) (by decide)).mono fun r L ⟨e,h⟩=>⟨e,by
   rcases h with ⟨h,_⟩|⟨_,a,ha,_⟩|⟨_,_,O,h1,h2,h3⟩
   ·exact absurd conF_S h
   ·exact absurd ⟨a,ha.1⟩ none_S
   ·exact⟨O,⟨h1,h2⟩,h3⟩⟩
 have h2:MCalls Proofs.Tryz.prog 10 [aTr psS,.sl 6 (tsU.map aPd)] [] fun r L=>L=[]∧r = .tup [aAns ⟨2,true,4,[],[],[],[(0,0,0),(1,0,1)],0⟩,ai 0] :=
  (strong_Definitely psS psS_sm tsU (hzS _ (.inr rfl)) (by decide)).mono fun r L ⟨e,h⟩=>⟨e,by
   rcases h with ⟨h,_⟩|⟨_,a,ha,h3⟩|⟨_,hn,_⟩
   ·exact absurd conF_U h
   ·rw[h3,show psS.length=2 from rfl,chc_U ha];rfl
   ·exact absurd ⟨_,least_U.1⟩ hn⟩
 have h3:∀O,(DodgeR psS (elimOf psS tsS).ok O∧O.length≤513)→PC Proofs.Tryz.prog 17 [aTr psS,.sl 6 (tsS.map aPd),aRows O] (ab true):=fun O ⟨hO,hl⟩=>by
  have:=ref38_Avoids psS psS_sm tsS (hzS _ (.inl rfl)) (by decide) conF_S O (by omega) (dodge_row psS_valid hO)
  rw[dodge_avd psS_valid hO] at this
  exact this
 have h4:=spans_equal [(0,0,0),(1,0,1)] [(0,0,0),(1,0,1)] (by decide)
 rw[decide_eq_true rfl] at h4
 have hx:=law38_example
 have p0:=law38_is 0 ⟨#[120]⟩
 have p1:=law38_is 1 ⟨#[121]⟩
 have hT:aTr psS = .agg [.sl 3 (psS.map aPr)]:=rfl
 have hS:tsS.map aPd=[aPd (oneT 0 ⟨#[120]⟩),aPd (oneT 1 ⟨#[121]⟩)]:=rfl
 have hU:tsU.map aPd=[aPd (oneT 0 ⟨#[120]⟩),.agg [ai 13,ai 0,ai 0,ai 0,astr ByteArray.empty,.sl 6 []]]:=by
  show [aPd (oneT 0 ⟨#[120]⟩),aPd (.mk 13 0 0 0 ByteArray.empty [])]=_
  rw[aPd_mk];rfl
 obtain⟨l0,hk0⟩:∃l,aPd (oneT 0 ⟨#[120]⟩) = .agg [ai 9,ai 0,ai 0,ai 0,astr ByteArray.empty,.sl 6 l]:=⟨_,aPd_mk _ _ _ _ _ _⟩
 obtain⟨l1,hk1⟩:∃l,aPd (oneT 1 ⟨#[121]⟩) = .agg [ai 9,ai 0,ai 0,ai 0,astr ByteArray.empty,.sl 6 l]:=⟨_,aPd_mk _ _ _ _ _ _⟩
 rw[hS,hT] at h1
 rw[hU,hT] at h2
 simp only[hS,hT] at h3
 rw[hT] at hx
 rw[hk0] at p0 h1 h2
 rw[hk1] at p1 h1
 simp only[hk0,hk1] at h3
 clear hS hU hk0 hk1 hT
 generalize psS.map aPr=T at *
 have haA:∀O:List (List Int),aAns ⟨2,false,3,[],[],O,[],0⟩ = .agg [ai 2,ab false,ai 3,.sl 1 [],.sl 1 [],.sl 1 (O.map aInts),.sl 3 [],ai 0]:=fun _=>rfl
 have haB:aAns ⟨2,true,4,[],[],[],[(0,0,0),(1,0,1)],0⟩ = .agg [ai 2,ab true,ai 4,.sl 1 [],.sl 1 [],.sl 1 [],.sl 3 [.agg [ai 0,ai 0,ai 0],.agg [ai 1,ai 0,ai 1]],ai 0]:=rfl
 have haS:aSps [(0,0,0),(1,0,1)] = .sl 3 [.agg [ai 0,ai 0,ai 0],.agg [ai 1,ai 0,ai 1]]:=rfl
 have haR:∀O:List (List Int),aRows O = .sl 1 (O.map aInts):=fun _=>rfl
 simp only[haA] at h1
 rw[haB] at h2
 rw[haS] at h4
 simp only[haR] at h3
 clear haA haB haS haR
 refine PC.enter 53 [.tmp 0] [1,3,9,17,32,50] Proofs.Tryz.func7 rfl rfl rfl rfl rfl (by simp) (AWp.of ?_);simp only[go_sem]
 repeat(first|((with_reducible refine AWp.ofC ?_ ?_);exact rfl;simp only[go_sem])|((with_reducible refine an ?_ ?_);exact Au))
 repeat((with_reducible refine an ?_ ?_);exact As)
 refine(hx).val.use ?_;simp only[go_sem]
 repeat((with_reducible refine an ?_ ?_);exact As)
 refine(p0).val.use ?_;simp only[go_sem]
 repeat((with_reducible refine an ?_ ?_);exact As)
 refine(p1).val.use ?_;simp only[go_sem]
 repeat(first|((with_reducible refine AWp.ofC ?_ ?_);exact rfl;simp only[go_sem])|((with_reducible refine an ?_ ?_);exact Au))
 refine h1.val.mono ?_
 rintro r L ⟨rfl,O,hO,rfl⟩
 have h3:=h3 O hO
 generalize O.map aInts=OM at *
 simp only[go_sem]
 intros
 repeat(first|((with_reducible refine AWp.ofC ?_ ?_);exact rfl;simp only[go_sem])|((with_reducible refine an ?_ ?_);exact Au))
 repeat((with_reducible refine an ?_ ?_);exact As)
 refine(hx).val.use ?_;simp only[go_sem]
 repeat((with_reducible refine an ?_ ?_);exact As)
 refine(p0).val.use ?_;simp only[go_sem]
 repeat(first|((with_reducible refine AWp.ofC ?_ ?_);exact rfl;simp only[go_sem])|((with_reducible refine an ?_ ?_);exact Au))
 refine MVal.pass (Lf:=[]) (Li:=[]) (Lr:=[]) (by simp) (Vws.cons (.refl _) (Vws.cons (.mkSl (Vws.cons (.refl _) (Vws.cons (.mkAgg (Vws.cons (.refl _) (Vws.cons (.refl _) (Vws.cons (.refl _) (Vws.cons (.refl _) (Vws.cons (.refl _) (Vws.cons (.nil 6) .nil))))))) .nil))) .nil)) h2.val ?_
 rintro r L1 ⟨rfl,rfl⟩
 refine⟨[],.refl _,?_⟩
 simp only[go_sem]
 intros
 repeat(first|((with_reducible refine AWp.ofC ?_ ?_);exact rfl;simp only[go_sem])|((with_reducible refine an ?_ ?_);exact Au))
 repeat(first|(with_reducible refine AWp.seq ?_)|(with_reducible refine AWp.block ?_))
 refine AWp.mix mixed [0,1,2,3,4,5,6,7,8,9,10,11,12,13,14,15,16,17,18,19,20,21,22,23,24,25,26,27,28,29,30,31,32] .done (by kernel_rfl) ?_;simp only[go_sem]
 repeat((with_reducible refine an ?_ ?_);exact As)
 refine GCall.use (.agg [.sl 3 T]) (fun _=>⟨At,(hx).val.use ⟨rfl,rfl⟩⟩) ?_;simp only[go_sem]
 repeat((with_reducible refine an ?_ ?_);exact As)
 refine GCall.use (.agg [ai 9,ai 0,ai 0,ai 0,astr ByteArray.empty,.sl 6 l0]) (fun _=>⟨At,(p0).val.use ⟨rfl,rfl⟩⟩) ?_;simp only[go_sem]
 repeat((with_reducible refine an ?_ ?_);exact As)
 refine GCall.use (.agg [ai 9,ai 0,ai 0,ai 0,astr ByteArray.empty,.sl 6 l1]) (fun _=>⟨At,(p1).val.use ⟨rfl,rfl⟩⟩) ?_;simp only[go_sem]
 repeat((with_reducible refine an ?_ ?_);exact As)
 repeat((with_reducible refine an ?_ ?_);exact As)
 refine GCall.use (ab true) (fun _=>⟨At,(h3).val.use ⟨rfl,rfl⟩⟩) ?_;simp only[go_sem]
 repeat((with_reducible refine an ?_ ?_);exact As)
 repeat((with_reducible refine an ?_ ?_);exact As)
 refine GCall.use (ab true) (fun _=>⟨At,(h4).val.use ⟨rfl,rfl⟩⟩) ?_;simp only[go_sem]
 repeat((with_reducible refine an ?_ ?_);exact As)
 repeat(first|((with_reducible refine AWp.ofC ?_ ?_);exact rfl;simp only[go_sem])|((with_reducible refine an ?_ ?_);exact Au))
 refine ret_eq ?_;simp only[go_sem]
end Go.AL
end
section
namespace Go.AL
open Go Go.RowKit
set_option maxRecDepth 4000
open Classical in
theorem ref38_Begins (ps:List Pr) (hs:Sm ps) (hv:validF ps=true) (a o:Stp) (ha:SpIn ps a) (ho:SpIn ps o) (hao:a.1 ≠ o.1):PC Proofs.Tryz.prog 45 [aTr ps,aStp a,aStp o] (ab (bgN ps a o)):=by
 obtain⟨p,f,t⟩:=a
 obtain⟨q,f',t'⟩:=o
 obtain⟨h1,h2,h3⟩:=ha
 obtain⟨k1,k2,k3⟩:=ho
 have h1:p<ps.length:=h1
 have h2:f≤t:=h2
 have h3:t≤nev ps p:=h3
 have k1:q<ps.length:=k1
 have k3:t'≤nev ps q:=k3
 have hao:p ≠ q:=hao
 have hb:bgN ps (p,f,t) (q,f',t')=(decide (f=0) || (decide (t'=nev ps q) || decide ((f:Int)≤cAt (ptF ps q t') p))):=rfl
 have hA:aStp (p,f,t) = .agg [ai p,ai f,ai t]:=rfl
 have hO:aStp (q,f',t') = .agg [ai q,ai f',ai t']:=rfl
 rw[hA,hO]
 have hgq:=getD_map (f:=aPr) k1
 have hnq:=nev_get k1
 have hnp:=nev_get h1
 have hpl:=hs.procs
 have helq:=hs.evs _ (List.getElem_mem k1)
 by_cases hc:f=0∨t'=nev ps q
 ·have hbt:bgN ps (p,f,t) (q,f',t')=true:=by
   rw[hb]
   rcases hc with hc|hc
   ·rw[decide_eq_true hc];rfl
   ·rw[decide_eq_true hc];simp
  rw[hbt]
  rw[hnq] at hc k3
  generalize ps[q]=X at *
  refine PC.enter 39 [.tmp 6] [3,4,5] Proofs.Tryz.func45 rfl rfl rfl rfl rfl (by simp) (AWp.of ?_);simp only[go_sem]
  repeat(first|((with_reducible refine AWp.ofC ?_ ?_);exact rfl;simp only[go_sem])|((with_reducible refine an ?_ ?_);exact Au))
  repeat(first|(with_reducible refine AWp.seq ?_)|(with_reducible refine AWp.block ?_))
  refine AWp.read mixed [0,1,2,3,4,5,6,7,8,9,10,11,12,13,14,15] (by kernel_rfl) ?_;simp only[go_sem,hgq]
  repeat((with_reducible refine an ?_ ?_);exact As)
  repeat(first|((with_reducible refine AWp.ofC ?_ ?_);exact rfl;simp only[go_sem])|((with_reducible refine an ?_ ?_);exact Au))
  refine⟨fun h => ?_,fun h4 h5 => ?_⟩
  ·repeat(first|((with_reducible refine AWp.ofC ?_ ?_);exact rfl;simp only[go_sem])|((with_reducible refine an ?_ ?_);exact Au))
   refine ret_eq ?_;simp only[go_sem]
  ·omega
 ·have hf0:f ≠ 0:=fun e=>hc (.inl e)
  have htn:t'<ps[q].evs.length:=by
   have:t' ≠ nev ps q:=fun e=>hc (.inr e)
   omega
  obtain⟨j,rfl⟩:∃j,f=j+1:=⟨f - 1,by omega⟩
  have hj:j<ps[p].evs.length:=by omega
  rw[decide_eq_false hf0,Bool.false_or,decide_eq_false (by omega),Bool.false_or] at hb
  have hm:=(valid_parts hv).2.2
  have hl1:=(valid_len hv).1
  have hpa:=ref12_Past ps hs hm hl1 q k1 t' htn
  rw[pastA_eq] at hpa
  have hrr:=pastR_get ((q:Int),(t':Int)+1) h1 hj
  have hre:=reach_pt hv h1 k1 hao htn hj
  have hbb:decide (Reach ps ((p:Int),(j:Int)+1) ((q:Int),(t':Int)+1))=bgN ps (p,j+1,t) (q,f',t'):=by
   rw[hb,decide_eq_decide];exact hre
  have hRr:(pastR ps ((q:Int),(t':Int)+1) p).getD (j+1) .any=ab (bgN ps (p,j+1,t) (q,f',t')):=by
   have e:((j:Int)+1).toNat=j+1:=by omega
   rw[e] at hrr
   rw[hrr,hbb]
  have hRl:(pastR ps ((q:Int),(t':Int)+1) p).length=nev ps p+1:=by unfold pastR;simp
  have hMl:((List.range ps.length).map fun p=>AV.sl 1 (pastR ps ((q:Int),(t':Int)+1) p)).length=ps.length:=by simp
  have hMg:((List.range ps.length).map fun p=>AV.sl 1 (pastR ps ((q:Int),(t':Int)+1) p)).getD p .any = .sl 1 (pastR ps ((q:Int),(t':Int)+1) p):=map_range_getD h1 _
  generalize (List.range ps.length).map (fun p=>AV.sl 1 (pastR ps ((q:Int),(t':Int)+1) p))=M at *
  generalize pastR ps ((q:Int),(t':Int)+1) p=Rw at *
  generalize bgN ps (p,j+1,t) (q,f',t')=B at *
  have hj1:¬((j+1:Nat):Int)=0:=by omega
  have hjt:(((j+1:Nat):Int)).toNat=j+1:=by omega
  have htt:¬(t':Int)=(ps[q].evs.length:Int):=by omega
  change PC _ _ [_,.agg [ai q,ai ((t':Int)+1)]] _ at hpa
  generalize ps[q]=X at *
  refine PC.enter 39 [.tmp 6] [3,4,5] Proofs.Tryz.func45 rfl rfl rfl rfl rfl (by simp) (AWp.of ?_);simp only[go_sem]
  repeat(first|((with_reducible refine AWp.ofC ?_ ?_);exact rfl;simp only[go_sem])|((with_reducible refine an ?_ ?_);exact Au))
  repeat(first|(with_reducible refine AWp.seq ?_)|(with_reducible refine AWp.block ?_))
  refine AWp.read mixed [0,1,2,3,4,5,6,7,8,9,10,11,12,13,14,15] (by kernel_rfl) ?_;simp only[go_sem,hgq]
  repeat((with_reducible refine an ?_ ?_);exact As)
  repeat(first|((with_reducible refine AWp.ofC ?_ ?_);exact rfl;simp only[go_sem])|((with_reducible refine an ?_ ?_);exact Au))
  intro h4 h5
  repeat(first|(with_reducible refine AWp.seq ?_)|(with_reducible refine AWp.block ?_))
  refine AWp.read mixed [0,1,2,3,4,5,6,7,8,9,10,11,12,13,14,15,16] (by kernel_rfl) ?_;simp only[go_sem]
  repeat((with_reducible refine an ?_ ?_);exact As)
  refine GCall.use (.sl 1 M) (fun _=>⟨At,(hpa).val.use ⟨rfl,rfl⟩⟩) ?_;simp only[go_sem,hMg,hRr,hjt]
  repeat((with_reducible refine an ?_ ?_);exact As)
  repeat(first|((with_reducible refine AWp.ofC ?_ ?_);exact rfl;simp only[go_sem])|((with_reducible refine an ?_ ?_);exact Au))
  refine ret_eq ?_;simp only[go_sem]
end Go.AL
end
section
namespace Go.AL
open Go Go.RowKit
set_option maxRecDepth 4000
end Go.AL
end
section
namespace Go.AL
open Go Go.RowKit
set_option maxRecDepth 4000
theorem ref29_Truths (ps:List Pr) (hs:Sm ps) (p:Nat) (t:Pd) (hz:szF t≤1000000) (he:lclF ps p 0 t=0):PC Proofs.Tryz.prog 84 [aTr ps,ai p,aPd t] (.sl 1 ((truthsF ps p t).map ab)):=by
 have hl:=hs.procs
 obtain⟨hc,hp,_,_,h9,hlc⟩:=lcl_ok he
 have hel:=hs.evs _ (List.getElem_mem hp)
 have hgp:=getD_map (f:=aPr) hp
 have hst:=fun (k:Nat) hk=>ref29_Local ps hs p k hp hk t hz hc h9 hlc
 rw[truthsF_nat hp,List.map_map]
 have hy:∀k,((List.range k).map fun (k:Nat)=>ab (lclT ps p t k)).length=k:=fun k=>by simp
 have hys:∀k,((List.range (k+1)).map fun (k:Nat)=>ab (lclT ps p t k))=((List.range k).map fun (k:Nat)=>ab (lclT ps p t k)) ++ [ab (lclT ps p t k)]:=fun k=>by rw[List.range_succ,List.map_append];rfl
 have hfin:(List.range (ps[p].evs.length+1)).map (ab ∘ fun (k:Nat)=>lclT ps p t k)=(List.range (ps[p].evs.length+1)).map fun (k:Nat)=>ab (lclT ps p t k):=rfl
 rw[hfin]
 obtain⟨k0,n,pp,q,s,l⟩:=t
 simp only[aPd_mk] at *
 generalize hY:(fun k:Nat=>(List.range k).map fun (j:Nat)=>ab (lclT ps p (.mk k0 n pp q s l) j))=Y at *
 have hYk:∀k,((List.range k).map fun (j:Nat)=>ab (lclT ps p (.mk k0 n pp q s l) j))=Y k:=fun k=>by rw[← hY]
 simp only[hYk] at hy hys ⊢
 refine PC.enter 29 [.tmp 6] [3,5,26] Proofs.Tryz.func84 rfl rfl rfl rfl rfl (by simp) (AWp.of ?_);simp only[go_sem]
 repeat(first|((with_reducible refine AWp.ofC ?_ ?_);exact rfl;simp only[go_sem])|((with_reducible refine an ?_ ?_);exact Au))
 refine AWp.block (AWp.count 8 (ps[p].evs.length+1) [7] [1,3,5] (fun k vs L=>∃v,vs=[v]∧AppSt 4 1 (Y k) v L) rfl rfl ⟨anil,rfl,by rw[← hY];exact .nil⟩ ?_)
 rintro k vs L' hk - ⟨v,rfl,hA⟩
 have hyl:=hy k
 have hfo:=hA.fo
 have hys:=hys k
 have hfin:=hy (ps[p].evs.length+1)
 by_cases hke:k=ps[p].evs.length+1
 ·have hn:¬(k:Int)≤ps[p].evs.length:=by omega
  rw[← hke] at *
  generalize Y k=ys at *
  rcases hA.inv with ⟨e1,rfl,rfl⟩|⟨b',cap,rfl,rfl⟩
  ·rw[e1] at hyl;simp at hyl;omega
  ·simp only[go_sem]
   repeat(first|((with_reducible refine AWp.ofC ?_ ?_);exact rfl;simp only[go_sem,hgp,hn])|((with_reducible refine an ?_ ?_);exact Au))
   refine ret_view [true] ?_;simp only[go_sem]
   exact Vw.ofLs (if_pos rfl) rfl
 ·have hst:=hst k (by omega)
  have hn:(k:Int)≤ps[p].evs.length:=by omega
  generalize Y k=ys at *
  generalize lclT ps p (.mk k0 n pp q s l) k=b at *
  rcases hA.inv with ⟨e1,rfl,rfl⟩|⟨b',cap,rfl,rfl⟩
  ·simp only[go_sem]
   repeat(first|((with_reducible refine AWp.ofC ?_ ?_);exact rfl;simp only[go_sem,hgp,hn])|((with_reducible refine an ?_ ?_);exact Au))
   repeat((with_reducible refine an ?_ ?_);exact As)
   refine(hst).val.use ?_;simp only[go_sem]
   repeat((with_reducible refine an ?_ ?_);exact As)
   intro b' cap' _
   repeat(first|((with_reducible refine AWp.ofC ?_ ?_);exact rfl;simp only[go_sem])|((with_reducible refine an ?_ ?_);exact Au))
   refine⟨_,List.Sublist.refl _,_,rfl,?_⟩
   rw[hys,e1]
   exact .row _ _ _
  ·simp only[go_sem]
   repeat(first|((with_reducible refine AWp.ofC ?_ ?_);exact rfl;simp only[go_sem,hgp,hn])|((with_reducible refine an ?_ ?_);exact Au))
   repeat((with_reducible refine an ?_ ?_);exact As)
   refine(hst).val.use ?_;simp only[go_sem]
   repeat((with_reducible refine an ?_ ?_);exact As)
   intro b' cap' _
   repeat(first|((with_reducible refine AWp.ofC ?_ ?_);exact rfl;simp only[go_sem])|((with_reducible refine an ?_ ?_);exact Au))
   refine⟨_,List.Sublist.refl _,_,rfl,?_⟩
   rw[hys]
   have:=AppSt.row (t:=4) (k:=1) b' (ys ++ [ab b]) cap'
   simpa using this
theorem ref37_Spans (ps:List Pr) (hs:Sm ps) (i:Nat) (t:Pd) (hz:szF t≤1000000) (he:lclF ps i 0 t=0):PC Proofs.Tryz.prog 44 [aTr ps,ai i,aPd t] (.sl 3 ((spansF ps i t).map aStp)):=by
 have h1:=ref29_Truths ps hs i t hz he
 have hl:=hs.procs
 obtain⟨_,hp,_,_,_,_⟩:=lcl_ok he
 have hel:=hs.evs _ (List.getElem_mem hp)
 unfold spansF
 rw[nev_get hp]
 rw[truthsF_nat hp,List.map_map] at h1
 obtain⟨b,hbd⟩:∃b:Nat→Bool,b=fun k:Nat=>lclT ps i t k:=⟨_,rfl⟩
 have hT:∀k,k<ps[i].evs.length+1→((List.range (ps[i].evs.length+1)).map (ab ∘ fun (k:Nat)=>lclT ps i t k)).getD k .any=ab (b k):=fun k hk=>by rw[hbd];exact map_range_getD hk _
 have hTl:((List.range (ps[i].evs.length+1)).map (ab ∘ fun (k:Nat)=>lclT ps i t k)).length=ps[i].evs.length+1:=by simp
 generalize (List.range (ps[i].evs.length+1)).map (ab ∘ fun (k:Nat)=>lclT ps i t k)=T at *
 rw[← hbd]
 clear hbd
 obtain⟨k0,n,pp,q,s,l⟩:=t
 simp only[aPd_mk] at *
 have hR:spL b i (ps[i].evs.length+1)=spL b i T.length:=by rw[hTl]
 rw[hR]
 clear hR
 refine PC.enter 49 [.tmp 6] [3,5,46] Proofs.Tryz.func44 rfl rfl rfl rfl rfl (by simp) (AWp.of ?_);simp only[go_sem]
 repeat(first|((with_reducible refine AWp.ofC ?_ ?_);exact rfl;simp only[go_sem])|((with_reducible refine an ?_ ?_);exact Au))
 repeat((with_reducible refine an ?_ ?_);exact As)
 refine(h1).val.use ?_;simp only[go_sem]
 repeat(first|((with_reducible refine AWp.ofC ?_ ?_);exact rfl;simp only[go_sem])|((with_reducible refine an ?_ ?_);exact Au))
 refine AWp.block (AWp.count 9 T.length [8] [1,7] (fun k vs L=>∃v,vs=[v]∧AppSt 57 3 ((spL b i k).map aStp) v L) rfl rfl ⟨anil,rfl,.nil⟩ ?_)
 rintro k vs L' hk - ⟨v,rfl,hA⟩
 have hfo:=hA.fo
 by_cases hke:k=T.length
 ·have hn:¬(k:Int)<T.length:=by omega
  rw[← hke]
  rcases hA.inv with ⟨e3,rfl,rfl⟩|⟨bq,cap,rfl,rfl⟩
  ·simp only[go_sem]
   repeat(first|((with_reducible refine AWp.ofC ?_ ?_);exact rfl;simp only[go_sem,hn])|((with_reducible refine an ?_ ?_);exact Au))
   refine ret_view [] ?_;simp only[go_sem]
   rw[e3]
   exact .nil 3
  ·simp only[go_sem]
   repeat(first|((with_reducible refine AWp.ofC ?_ ?_);exact rfl;simp only[go_sem,hn])|((with_reducible refine an ?_ ?_);exact Au))
   refine ret_view [true] ?_;simp only[go_sem]
   exact Vw.ofLs (if_pos rfl) (List.length_map _).symm
 ·have hn:(k:Int)<T.length:=by omega
  have g0:=hT k (by omega)
  have g1:=hT (k - 1) (by omega)
  have gk:((k:Int) - 1).toNat=k - 1:=by omega
  have hyk:=spL_len (b:=b) (p:=i) k
  cases hbk:b k with
  | false =>
   rw[hbk] at g0
   have hno:=spL_no (b:=b) (p:=i) hbk
   simp only[go_sem]
   repeat(first|((with_reducible refine AWp.ofC ?_ ?_);exact rfl;simp only[go_sem,g0,hn])|((with_reducible refine an ?_ ?_);exact Au))
   refine⟨_,List.Sublist.refl _,v,rfl,?_⟩
   rw[hno]
   exact hA
  | true =>
   rw[hbk] at g0
   simp only[go_sem]
   repeat(first|((with_reducible refine AWp.ofC ?_ ?_);exact rfl;simp only[go_sem,g0,g1,gk,hn,hfo])|((with_reducible refine an ?_ ?_);exact Au))
   refine⟨fun h2 h3 => ?_,fun h2 => ?_⟩
   ·obtain⟨d,f,e1,e2⟩:=spL_on (b:=b) (p:=i) (k:=k) hbk (by rw[decide_eq_true (by omega),h3];rfl)
    rw[e1] at hA
    have gl:((d ++ [(i,f,k - 1)]).map aStp).getD (((d ++ [(i,f,k - 1)]).map aStp).length - 1) .any = .agg [ai i,ai f,ai ((k - 1:Nat):Int)]:=last_get d (i,f,k - 1)
    have gs:((d ++ [(i,f,k - 1)]).map aStp).set (((d ++ [(i,f,k - 1)]).map aStp).length - 1) (.agg [ai i,ai f,ai k])=(d ++ [(i,f,k)]).map aStp:=last_set d (i,f,k - 1) (i,f,k)
    have hyl:1≤((d ++ [(i,f,k - 1)]).map aStp).length:=by simp
    rw[e1,← List.length_map (f:=aStp)] at hyk
    have hll:((d ++ [(i,f,k)]).map aStp).length=((d ++ [(i,f,k - 1)]).map aStp).length:=by simp
    generalize ((d ++ [(i,f,k - 1)]).map aStp)=ys at *
    have gn:((ys.length:Int) - 1).toNat=ys.length - 1:=by omega
    rcases hA.inv with ⟨e3,_,_⟩|⟨bq,cap,rfl,rfl⟩
    ·rw[e3] at hyl;simp at hyl
    ·repeat(first|((with_reducible refine AWp.ofC ?_ ?_);exact rfl;simp only[go_sem])|((with_reducible refine an ?_ ?_);exact Au))
     simp only[go_sem,gl,gn,gs]
     repeat((with_reducible refine an ?_ ?_);exact As)
     repeat(first|((with_reducible refine AWp.ofC ?_ ?_);exact rfl;simp only[go_sem])|((with_reducible refine an ?_ ?_);exact Au))
     refine⟨_,List.Sublist.refl _,_,rfl,?_⟩
     rw[e2,← hll]
     exact .row _ _ _
   ·have e0:(decide (0<k) && b (k - 1))=false:=by
     by_cases h3:0<k
     ·rw[decide_eq_true h3,Bool.true_and];simpa using h2 (by omega)
     ·rw[decide_eq_false h3];rfl
    have hne:=spL_new (b:=b) (p:=i) hbk e0
    have ea:[(i,k,k)].map aStp=[.agg [ai i,ai k,ai k]]:=rfl
    rw[← List.length_map (f:=aStp)] at hyk
    generalize hys:(spL b i k).map aStp=ys at *
    rcases hA.inv with ⟨e3,rfl,rfl⟩|⟨bq,cap,rfl,rfl⟩
    ·subst e3
     repeat(first|((with_reducible refine AWp.ofC ?_ ?_);exact rfl;simp only[go_sem])|((with_reducible refine an ?_ ?_);exact Au))
     simp only[go_sem]
     repeat((with_reducible refine an ?_ ?_);exact As)
     intro b' cap' _
     repeat(first|((with_reducible refine AWp.ofC ?_ ?_);exact rfl;simp only[go_sem])|((with_reducible refine an ?_ ?_);exact Au))
     refine⟨_,List.Sublist.refl _,_,rfl,?_⟩
     rw[hne,List.map_append,hys,ea]
     exact .row _ _ _
    ·repeat(first|((with_reducible refine AWp.ofC ?_ ?_);exact rfl;simp only[go_sem])|((with_reducible refine an ?_ ?_);exact Au))
     simp only[go_sem]
     repeat((with_reducible refine an ?_ ?_);exact As)
     intro b' cap' _
     repeat(first|((with_reducible refine AWp.ofC ?_ ?_);exact rfl;simp only[go_sem])|((with_reducible refine an ?_ ?_);exact Au))
     refine⟨_,List.Sublist.refl _,_,rfl,?_⟩
     rw[hne,List.map_append,hys,ea]
     have:=AppSt.row (t:=57) (k:=3) b' (ys ++ [.agg [ai i,ai k,ai k]]) cap'
     simpa using this
end Go.AL
end
