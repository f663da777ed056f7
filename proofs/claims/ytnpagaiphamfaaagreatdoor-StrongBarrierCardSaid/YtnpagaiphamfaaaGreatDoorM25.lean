/- Texts of this claim's proof: WV17, WXm, WXs, WV18, WV9, WV14, WXr, WV20, WV21, WV22, WV23, WV24, WU9, WU10, WU12, WU13, WQe, WXg, WU14, WV25, WV27. No condition. -/
import Derived.Test.YtnpagaiphamfaaaGreatDoorM24
import Derived.Test.YtnpagaiphamfaaaGreatDoorM18
import Derived.Test.YtnpagaiphamfaaaGreatDoorM15
import Derived.Test.YtnpagaiphamfaaaGreatDoorM14
import Derived.Test.YtnpagaiphamfaaaGreatDoorM21
import Derived.Test.YtnpagaiphamfaaaGreatDoorM7
import Derived.Test.YtnpagaiphamfaaaGreatDoorM23
import Derived.Test.YtnpagaiphamfaaaGreatDoorM17
section
namespace Go.AL
open Go Go.RowKit
set_option maxRecDepth 4000
theorem AWp.slLen {C:Cfg} {Q:AQ} {ρ:Env} {L:AHeap} {c:Code} {k j:Nat} {xs:List AV} (hj:get ρ j = .sl k xs) (h:xs.length≤9223372036854775807→AWp C c Q ρ L):AWp C c Q ρ L:=fun hok n w0 M A0 a w hs=>by
 obtain⟨A,ds,hs'⟩:=st_iff.1 hs
 have hr:=hs'.env j
 rw[hj] at hr
 have hle:xs.length≤9223372036854775807:=by
  have hm:maxLen=9223372036854775807:=rfl
  rcases hr.inv_sl with ⟨rfl,_⟩|⟨b,off,cap,_,_,h1,h2,_⟩
  ·exact Nat.zero_le _
  ·omega
 exact h hle hok n w0 M A0 a w hs
def nm40 (v:ByteArray × Int):Bool:=decide (40<(v.1.size:Int))
def fwP (x:Pr):Bool:=decide (12<(x.vars.length:Int)) || (decide (40<(x.name.size:Int)) || (x.evs.any asg12 || x.vars.any nm40))
def fwQ (ps:List Pr) (m:Int) (k:Nat):Bool:=decide (m<smW ps (k+1)) || fwP (ps.getD k ⟨ByteArray.empty,[],[]⟩)
def fw38 (ps:List Pr) (m:Int):Bool:=!((List.range ps.length).any (fwQ ps m)) && decide (ps.length≤10)
theorem fw38_cases {ps:List Pr} {m:Int} (h:fw38 ps m=true):Sm ps∨(Smh ps∧∃p,p<ps.length∧procF ps p ≠ 0):=by
 unfold fw38 at h
 rw[Bool.and_eq_true,Bool.not_eq_true',List.any_eq_false,decide_eq_true_eq] at h
 obtain⟨h2,h1⟩:=h
 have h3:∀p ∈ ps,p.vars.length≤12∧∀e ∈ p.evs,e.asg.length≤12:=fun p hp=>by
  obtain⟨i,hi,rfl⟩:=List.getElem_of_mem hp
  have:=h2 i (List.mem_range.2 hi)
  unfold fwQ fwP at this
  rw[List.getD_eq_getElem?_getD,List.getElem?_eq_getElem hi,Option.getD_some,Bool.not_eq_true,Bool.or_eq_false_iff,Bool.or_eq_false_iff,Bool.or_eq_false_iff,Bool.or_eq_false_iff,decide_eq_false_iff_not,decide_eq_false_iff_not,List.any_eq_false] at this
  obtain⟨_,a1,_,a2,_⟩:=this
  refine⟨by omega,fun e he => ?_⟩
  have:=a2 e he
  unfold asg12 at this
  simp at this
  omega
 by_cases hb:∃p,∃h:p<ps.length,64<ps[p].evs.length
 ·obtain⟨p,hp,hb⟩:=hb
  exact .inr ⟨⟨by omega,fun p hp=>by have:=(h3 p hp).1;omega⟩,p,hp,procF_evs hp hb⟩
 ·refine .inl ⟨by omega,fun p hp => ?_,fun p hp=>by have:=(h3 p hp).1;omega,fun p hp e he=>by have:=(h3 p hp).2 e he;omega⟩
  obtain⟨i,hi,rfl⟩:=List.getElem_of_mem hp
  apply Classical.byContradiction
  intro h4
  exact hb ⟨i,hi,by omega⟩
theorem vd38 {ps:List Pr} {m:Int} (h:fw38 ps m=true):Vd ps:=by
 rcases fw38_cases h with h|⟨h,hb⟩
 ·exact⟨trace_Valid ps h,ref12_Valid ps h,fun _=>h,.inl h⟩
 ·exact⟨trace_ValidB ps h hb,ref12_ValidB ps h hb,fun hv=>absurd hv (by rw[valid_bad hb];simp),.inr (valid_bad hb)⟩
theorem law38_few1 (e:Ev):PC Proofs.Tryz.prog 29 [aEv e] (ab (asg12 e)):=by
 refine PC.enter 7 [.tmp 2] [1] Proofs.Tryz.func29 rfl rfl rfl rfl rfl (by simp) (AWp.of ?_);simp only[go_sem]
 refine Wk ?_
 refine ret_eq ?_;simp only[go_sem]
 rfl
theorem law38_few2 (v:ByteArray × Int):PC Proofs.Tryz.prog 31 [aVar v] (ab (nm40 v)):=by
 obtain⟨s,z⟩:=v
 have hA:aVar (s,z) = .agg [astr s,ai z]:=rfl
 have hB:nm40 (s,z)=decide (40<(s.size:Int)):=rfl
 rw[hA,hB]
 refine PC.enter 7 [.tmp 2] [1] Proofs.Tryz.func31 rfl rfl rfl rfl rfl (by simp) (AWp.of ?_);simp only[go_sem]
 refine Wk ?_
 refine ret_eq ?_;simp only[go_sem]
theorem law38_few (ps:List Pr) (hpl:ps.length≤9223372036854775807) (hl:∀p ∈ ps,p.evs.length≤9223372036854775807) (m:Int):PC Proofs.Tryz.prog 7 [aTr ps,ai m] (ab (fw38 ps m)):=by
 have hF:fw38 ps m=(!((List.range ps.length).any (fwQ ps m)) && decide (ps.length≤10)):=rfl
 generalize fw38 ps m=F at *
 refine PC.enter 50 [.tmp 4] [2,7] Proofs.Tryz.func7 rfl rfl rfl rfl rfl (by simp) (AWp.of ?_);simp only[go_sem]
 refine Wk ?_
 refine(AWp.range1' ps.length [5] [1,2,9,10] (fun k vs L=>L=[]∧vs=[ai (smW ps k)]∧∀j,j<k→fwQ ps m j=false) (by omega) rfl rfl rfl ⟨rfl,rfl,fun _ h=>by omega⟩ ?_ ?_)
 ·rintro k vs L hk - ⟨rfl,rfl,hI⟩
  have hgp:=getD_map (f:=aPr) hk
  have hQ:fwQ ps m k=(decide (m<smW ps (k+1)) || (decide (12<(ps[k].vars.length:Int)) || (decide (40<(ps[k].name.size:Int)) || (ps[k].evs.any asg12 || ps[k].vars.any nm40)))):=by
   unfold fwQ fwP;rw[List.getD_eq_getElem?_getD,List.getElem?_eq_getElem hk,Option.getD_some]
  have hsw:smW ps (k+1)=addW (smW ps k) ps[k].evs.length:=by rw[← nev_get hk];rfl
  have hin:=smW_in ps k
  have hin2:=smW_in ps (k+1)
  have hel:=hl _ (List.getElem_mem hk)
  have hall:fwQ ps m k=true→F=false:=fun h=>by
   rw[hF,List.any_eq_true.2 ⟨k,List.mem_range.2 hk,h⟩];rfl
  have hI':fwQ ps m k=false→∀j,j<k+1→fwQ ps m j=false:=fun h j hjk=>by
   by_cases e:j=k
   ·subst e;exact h
   ·exact hI j (by omega)
  have hcf:=events_containsFuncB ps[k].evs hel (.v (.func (.func 29) #[] #[])) rfl asg12 fun e _=>(law38_few1 e).val
  have hcv:=fun (h:ps[k].vars.length≤12)=>vars_containsFunc ps[k].vars (by omega) (.v (.func (.func 31) #[] #[])) rfl nm40 fun v _=>(law38_few2 v).val
  clear hI
  generalize ps[k]=x at *
  simp only[go_sem]
  refine Sd ?_
  refine AWp.of ?_;simp only[go_sem,hgp]
  refine Sd ?_
  intros
  refine AWp.seq (AWp.regionW ?_)
  simp only[go_sem]
  rw[← hsw]
  generalize smW ps (k+1)=z' at *
  generalize smW ps k=z at *
  generalize fwQ ps m k=FQ at *
  have hv1:decide (12<(x.vars.length:Int))=false→x.vars.length≤12:=fun h=>by
   have:=of_decide_eq_false h;omega
  generalize x.evs.any asg12=EA at *
  generalize hVA:x.vars.any nm40=VA at *
  refine Wk ?_
  refine Sd ?_
  refine Gc hcf ?_
  refine Sd ?_
  refine GCall.use (ab VA) (fun hg=>⟨At,(hcv (by simp at hg;omega)).val.use ⟨rfl,rfl⟩⟩) ?_
  simp only[go_sem]
  refine Wk ?_
  refine⟨fun h => ?_,fun h1 h2 h3 h4 h5 => ?_⟩
  ·have hx:FQ=true:=by
    rw[hQ]
    simp only[Bool.or_eq_true,decide_eq_true_eq]
    rcases h with (((h|h)|h)|h)|h
    ·exact .inl h
    ·exact .inr (.inl h)
    ·exact .inr (.inr (.inl h))
    ·exact .inr (.inr (.inr (.inl h)))
    ·exact .inr (.inr (.inr (.inr h)))
   rw[hall hx]
   refine Wk ?_
   refine ret_eq ?_;simp only[go_sem]
  ·have hx:FQ=false:=by
    rw[hQ,h4,h5]
    simp
    omega
   refine Wk ?_
   exact⟨_,List.Sublist.refl _,rfl,hI' hx⟩
 ·rintro vs L - ⟨rfl,rfl,hI⟩
  have hall:(List.range ps.length).any (fwQ ps m)=false:=List.any_eq_false.2 fun j hj=>by rw[hI j (List.mem_range.1 hj)];decide
  rw[hF,hall]
  simp only[go_sem]
  refine Wk ?_
  refine ret_eq ?_;simp only[go_sem]
  congr 2
  show decide _=decide _
  rw[decide_eq_decide];omega
mutual
def nodF:Pd→Int→Int→Int
 | .mk _ _ _ _ _ l,m,d=>if 40<d then m else nodL l m d 1
def nodL:List Pd→Int→Int→Int→Int
 | [],_,_,n=>n
 | x :: r,m,d,n=>if m≤n+nodF x (m - n) (d+1) then m else nodL r m d (n+nodF x (m - n) (d+1))
end
theorem nodL_nil (m d n:Int):nodL [] m d n=n:=by rw[nodL]
theorem nodL_cons (x:Pd) (r:List Pd) (m d n:Int):nodL (x :: r) m d n=if m≤n+nodF x (m - n) (d+1) then m else nodL r m d (n+nodF x (m - n) (d+1)):=by rw[nodL]
theorem nod_spec (t:Pd):∀m d:Int,(min m 1≤nodF t m d∧nodF t m d≤max m 1)∧(nodF t m d<m→(szF t:Int)=nodF t m d):=by
 induction t using Pd.ind with
 | _ k n p q s l ih =>
 intro m d
 rw[nodF,szF]
 have hl:∀l':List Pd,(∀x ∈ l',x ∈ l)→∀n:Int,1≤n→(n<m∨n=1)→(min m 1≤nodL l' m d n∧nodL l' m d n≤max m 1)∧(nodL l' m d n<m→n+(szL l':Int)=nodL l' m d n):=by
  intro l'
  induction l' with
  | nil=>intro _ n h0 h1;rw[nodL_nil,szL];exact⟨by omega,fun _=>by omega⟩
  | cons x r ihr =>
   intro hm n h0 h1
   obtain⟨⟨a1,a2⟩,a3⟩:=ih x (hm x List.mem_cons_self) (m - n) (d+1)
   rw[nodL_cons,szL]
   generalize nodF x (m - n) (d+1)=y at *
   by_cases hc:m≤n+y
   ·rw[if_pos hc]
    exact⟨by omega,fun h=>by omega⟩
   ·rw[if_neg hc]
    obtain⟨b1,b2⟩:=ihr (fun z hz=>hm z (List.mem_cons_of_mem _ hz)) (n+y) (by omega) (by omega)
    refine⟨b1,fun h => ?_⟩
    have:=b2 h
    have:=a3 (by omega)
    omega
 by_cases hd:40<d
 ·rw[if_pos hd]
  exact⟨by omega,fun h=>by omega⟩
 ·rw[if_neg hd]
  obtain⟨b1,b2⟩:=hl l (fun x hx=>hx) 1 (by omega) (.inr rfl)
  exact⟨b1,fun h=>by have:=b2 h;omega⟩
theorem law38_nodes (t:Pd):∀m d:Int,1 - d≤m→m≤60→0≤d→d≤41→PC Proofs.Tryz.prog 48 [aPd t,ai m,ai d] (ai (nodF t m d)):=by
 induction t using Pd.ind with
 | _ k n p q s l ih =>
 intro m d m0 m1 d0 d1
 have hF:nodF (.mk k n p q s l) m d=if 40<d then m else nodL l m d 1:=by rw[nodF]
 generalize nodF (.mk k n p q s l) m d=F at *
 rw[aPd_mk]
 by_cases hd:40<d
 ·rw[if_pos hd] at hF
  subst hF
  refine PC.enter 35 [.tmp 6] [3,9] Proofs.Tryz.func48 rfl rfl rfl rfl rfl (by simp) (AWp.of ?_);simp only[go_sem]
  refine W1 hd ?_
  refine ret_eq ?_;simp only[go_sem]
 ·rw[if_neg hd] at hF
  refine PC.enter 35 [.tmp 6] [3,9] Proofs.Tryz.func48 rfl rfl rfl rfl rfl (by simp) (AWp.of ?_);simp only[go_sem]
  refine W1 hd ?_
  refine AWp.slLen (j:=14) (k:=6) (xs:=l.map aPd) rfl fun hlen => ?_
  rw[List.length_map] at hlen
  refine(AWp.range1' l.length [7] [1,2,14,15] (fun i vs L=>L=[]∧∃c:Int,vs=[ai c]∧nodL (l.drop i) m d c=F∧1≤c∧(c<m∨c=1)) (by omega) rfl rfl rfl ⟨rfl,1,rfl,hF.symm,by omega,.inr rfl⟩ ?_ ?_)
  ·rintro i vs L hi - ⟨rfl,c,rfl,hN,c1,c2⟩
   have hg:=getD_map (f:=aPd) hi
   rw[← List.getElem_cons_drop hi,nodL_cons] at hN
   obtain⟨⟨a1,a2⟩,_⟩:=nod_spec l[i] (m - c) (d+1)
   have hch:=ih l[i] (List.getElem_mem hi) (m - c) (d+1) (by omega) (by omega) (by omega) (by omega)
   generalize nodF l[i] (m - c) (d+1)=y at *
   generalize l[i]=x at *
   obtain⟨k2,n2,p2,q2,s2,l2⟩:=x
   rw[aPd_mk] at hg hch
   simp only[go_sem]
   refine W1 hg ?_
   intros
   refine Wk ?_
   refine Sd ?_
   refine(hch).val.use ?_;simp only[go_sem]
   refine Sd ?_
   refine Wk ?_
   refine⟨fun h => ?_,fun h => ?_⟩
   ·rw[if_pos h] at hN
    refine Wk ?_
    refine ret_eq ?_;simp only[go_sem]
    rw[hN]
   ·rw[if_neg h] at hN
    exact⟨_,List.Sublist.refl _,rfl,c+y,rfl,hN,by omega,by omega⟩
  ·rintro vs L - ⟨rfl,c,rfl,hN,c1,c2⟩
   rw[List.drop_length,nodL_nil] at hN
   subst hN
   simp only[go_sem]
   refine Wk ?_
   refine ret_eq ?_;simp only[go_sem]
def bigT (t:Pd):Bool:=decide (60≤nodF t 60 1)
theorem law38_small1 (t:Pd):PC Proofs.Tryz.prog 47 [aPd t] (ab (bigT t)):=by
 have h1:=law38_nodes t 60 1 (by omega) (by omega) (by omega) (by omega)
 have hB:bigT t=decide (60≤nodF t 60 1):=rfl
 rw[hB]
 generalize nodF t 60 1=y at *
 obtain⟨k,n,p,q,s,l⟩:=t
 rw[aPd_mk] at *
 refine PC.enter 6 [.tmp 2] [1] Proofs.Tryz.func47 rfl rfl rfl rfl rfl (by simp) (AWp.of ?_);simp only[go_sem]
 refine Wk ?_
 refine Sd ?_
 refine(h1).val.use ?_;simp only[go_sem]
 refine Wk ?_
 refine ret_eq ?_;simp only[go_sem]
def sm38 (ts:List Pd):Bool:=decide ((ts.length:Int)≤12) && !ts.any bigT
theorem law38_small (ts:List Pd):PC Proofs.Tryz.prog 14 [.sl 6 (ts.map aPd)] (ab (sm38 ts)):=by
 unfold sm38
 refine PC.enter 11 [.tmp 2] [] Proofs.Tryz.func14 rfl rfl rfl rfl rfl (by simp) (AWp.of ?_);simp only[go_sem]
 refine Wk ?_
 refine GCall.use (ab (ts.any bigT)) (fun hg=>⟨At,(preds_containsFunc ts (by omega) _ rfl bigT fun t _=>(law38_small1 t).val).val.use ⟨rfl,rfl⟩⟩) ?_
 simp only[go_sem]
 refine Wk ?_
 refine ret_eq ?_;simp only[go_sem]
theorem sm38_spec {ts:List Pd} (h:sm38 ts=true):ts.length≤12∧∀t ∈ ts,szF t≤1000000:=by
 unfold sm38 at h
 rw[Bool.and_eq_true,decide_eq_true_eq,Bool.not_eq_true',List.any_eq_false] at h
 refine⟨by omega,fun t ht => ?_⟩
 have h1:=h.2 t ht
 unfold bigT at h1
 rw[decide_eq_true_eq] at h1
 have h2:=(nod_spec t 60 1).2 (by omega)
 omega
def psS:List Pr:=[⟨⟨#[97]⟩,[(⟨#[120]⟩,1)],[⟨1,0,0,0,[(0,0)]⟩]⟩,⟨⟨#[98]⟩,[(⟨#[121]⟩,0)],[⟨1,0,0,0,[(0,1)]⟩]⟩]
def tsS:List Pd:=[oneT 0 ⟨#[120]⟩,oneT 1 ⟨#[121]⟩]
def tsU:List Pd:=[oneT 0 ⟨#[120]⟩,.mk 13 0 0 0 ByteArray.empty []]
theorem psS_valid:validF psS=true:=by
 unfold validF faultF
 rw[if_neg (by decide),show procFirst psS=none from rfl,show evFirst psS=none from rfl,show msgF psS=none from rfl,cycF_rank (fun x=>x.1) (by decide)]
 rfl
theorem psS_sm:Sm psS:=⟨by decide,by decide,by decide,by decide⟩
theorem lclS {p:Int} {t:Pd} (h1:formedB t=true) (h2:allB (resB psS) t=true) (h3:typedB t=true) (h4:fitB psS t=true) (h5:0≤p∧p<2) (h7:¬t.kind≤8) (h8:allB (lclB p) t=true):lclF psS p 0 t=0:=by
 have hc:checkF psS t=0:=by
  unfold checkF
  rw[psS_valid,h1,h2,h3,h4];rfl
 have hn:0≤evN psS p:=by
  unfold evN;split <;> omega
 have hl:(psS.length:Int)=2:=rfl
 unfold lclF
 rw[hc,if_neg (by decide),if_neg (by omega),if_neg h7,h8];rfl
theorem conF_S:conF psS tsS=0:=conF_zero ⟨psS_valid,rfl⟩ fun q hq=>by
 have hq:q<2:=hq
 rcases q with _|_|q
 ·exact lclS rfl rfl rfl rfl (by decide) (show ¬(_:Int)≤8 from by simp [tsS,oneT,Pd.kind]) rfl
 ·exact lclS rfl rfl rfl rfl (by decide) (show ¬(_:Int)≤8 from by simp [tsS,oneT,Pd.kind]) rfl
 ·omega
theorem conF_U:conF psS tsU=0:=conF_zero ⟨psS_valid,rfl⟩ fun q hq=>by
 have hq:q<2:=hq
 rcases q with _|_|q
 ·exact lclS rfl rfl rfl rfl (by decide) (show ¬(_:Int)≤8 from by simp [tsU,oneT,Pd.kind]) rfl
 ·exact lclS rfl rfl rfl rfl (by decide) (show ¬(_:Int)≤8 from by simp [tsU,oneT,Pd.kind]) rfl
 ·omega
theorem none_S:¬ ∃t,TgtS psS (rowsOf psS tsS) t:=fun ⟨t,h1,h2⟩=>by
 have a0:t 0<1:=h1 0 (by decide)
 have a1:t 1<1:=h1 1 (by decide)
 have h3:=h2 1 0 (by decide) (by decide) (by decide)
 have e0:t 0=0:=by omega
 have e1:t 1=0:=by omega
 rw[e0,e1] at h3
 have:bgN psS (fSp (rowsOf psS tsS) 1 0) (fSp (rowsOf psS tsS) 0 0)=false:=by
  show bgN psS (1,1,1) (0,0,0)=false
  decide
 rw[this] at h3;cases h3
theorem least_U:LeastS psS (rowsOf psS tsU) fun _=>0:=by
 refine⟨⟨fun p hp => ?_,fun p q hp hq hpq => ?_⟩,fun _ _ _ _=>Nat.zero_le _⟩
 ·have hp:p<2:=hp
  rcases p with _|_|p
  ·exact Nat.zero_lt_one
  ·exact Nat.zero_lt_one
  ·omega
 ·have hp:p<2:=hp
  rcases p with _|_|p
  ·rfl
  ·rfl
  ·omega
theorem chc_U {a:Nat→Nat} (h:LeastS psS (rowsOf psS tsU) a):chcL 2 (rowsOf psS tsU) a=[(0,0,0),(1,0,1)]:=by
 have h2:=chcL_congr (n:=2) (rows:=rowsOf psS tsU) (a:=a) (b:=fun _=>0) fun p hp=>least_unique h least_U hp
 rw[h2];rfl
theorem law38_is (p:Int) (s:ByteArray):PC Proofs.Tryz.prog 25 [ai p,astr s] (aPd (oneT p s)):=by
 have hP:aPd (oneT p s) = .agg [ai 9,ai 0,ai 0,ai 0,astr ByteArray.empty,.sl 6 [.agg [ai 2,ai 0,ai p,ai 0,astr s,.sl 6 []],.agg [ai 1,ai 1,ai 0,ai 0,astr ByteArray.empty,.sl 6 []]]]:=by
  unfold oneT
  rw[aPd_mk,List.map_cons,List.map_cons,List.map_nil,aPd_mk,aPd_mk];rfl
 rw[hP]
 refine PC.enter 11 [.cell 4 59] [9] Proofs.Tryz.func25 rfl rfl rfl rfl rfl (by simp) (AWp.of ?_);simp only[go_sem]
 intro b4
 refine Wk ?_
 refine ret_view [] ?_;simp only[go_sem]
 refine .mkAgg ?_
 refine Vws.cons (.refl _) (Vws.cons (.refl _) (Vws.cons (.refl _) (Vws.cons (.refl _) (Vws.cons (.refl _) (Vws.cons (Vw.mkSl ?_) .nil)))))
 refine Vws.cons (.mkAgg ?_) (Vws.cons (.mkAgg ?_) .nil)
 ·exact Vws.cons (.refl _) (Vws.cons (.refl _) (Vws.cons (.refl _) (Vws.cons (.refl _) (Vws.cons (.refl _) (Vws.cons (.nil 6) .nil)))))
 ·exact Vws.cons (.refl _) (Vws.cons (.refl _) (Vws.cons (.refl _) (Vws.cons (.refl _) (Vws.cons (.refl _) (Vws.cons (.nil 6) .nil)))))
set_option maxHeartbeats 4000000 in
theorem law38_example:PC Proofs.Tryz.prog 24 [] (aTr psS):=by
 refine PC.enter 17 [.cell 0 24] [2,4,6,9,11,13,15] Proofs.Tryz.func24 rfl rfl rfl rfl rfl (by simp) (AWp.of ?_);simp only[go_sem]
 intro b0
 refine AWp.of ?_
 simp (config:={ maxSteps:=3000000 }) only [go_sem]
 refine Wk ?_
 refine ret_eq ?_
 simp only[go_sem]
 rfl
theorem spans_equal (a b:List Spn3) (ha:a.length≤1000000):PC Proofs.Tryz.prog 27 [aSps a,aSps b] (ab (decide (a=b))):=by
 have haE:∀l:List Spn3,aSps l = .sl 3 (l.map aSp):=fun _=>rfl
 rw[haE,haE]
 refine PC.enter 26 [.tmp 4] [] Proofs.Tryz.func27 rfl rfl rfl rfl rfl (by simp) (AWp.of ?_);simp only[go_sem]
 refine Wk ?_
 refine⟨fun h1 => ?_,fun h1 => ?_⟩
 ·refine Wk ?_
  refine ret_eq ?_;simp only[go_sem]
  congr 2;symm;apply decide_eq_false;rintro rfl;exact h1 rfl
 ·have hab:a.length=b.length:=by omega
  refine Sd ?_
  refine AWp.of ?_;simp only[go_sem]
  refine AWp.range' a.length [] [0,1,12] (fun k vs L=>L=[]∧∀(i:Nat) (hi:i<a.length),i<k→a[i]=b[i]) (by omega) rfl rfl rfl ⟨rfl,by omega⟩ ?_ ?_
  ·rintro k vs L' hk - ⟨rfl,hI⟩
   have hkb:k<b.length:=by omega
   have ga:=getD_map (f:=aSp) hk
   have gb:=getD_map (f:=aSp) hkb
   obtain⟨x1,x2,x3,hx⟩:∃x1 x2 x3,a[k]=(x1,x2,x3):=⟨_,_,_,rfl⟩
   obtain⟨y1,y2,y3,hy⟩:∃y1 y2 y3,b[k]=(y1,y2,y3):=⟨_,_,_,rfl⟩
   rw[hx] at ga
   rw[hy] at gb
   change _=AV.agg [ai x1,ai x2,ai x3] at ga
   change _=AV.agg [ai y1,ai y2,ai y3] at gb
   have hxy:a[k]=b[k]↔(x1=y1∧x2=y2)∧x3=y3:=by rw[hx,hy];exact⟨fun h=>by cases h;exact⟨⟨rfl,rfl⟩,rfl⟩,fun h=>by rw[h.1.1,h.1.2,h.2]⟩
   simp only[go_sem]
   refine Wk ?_
   repeat(first|(with_reducible refine AWp.seq ?_)|(with_reducible refine AWp.block ?_))
   refine AWp.read mixed [0,1,2,3,4,5,6,7,8] (by kernel_rfl) ?_;simp only[go_sem,ga,gb]
   refine Sd ?_
   by_cases he:(x1=y1∧x2=y2)∧x3=y3
   ·have hst:∀(i:Nat) (hi:i<a.length),i<k+1→a[i]=b[i]:=fun i hi hik=>by
     by_cases e:i=k
     ·subst e;exact hxy.2 he
     ·exact hI i hi (by omega)
    obtain⟨⟨rfl,rfl⟩,rfl⟩:=he
    refine Wk ?_
    exact⟨_,List.Sublist.refl _,rfl,hst⟩
   ·have hne:¬a=b:=fun e=>he (hxy.1 (by subst e;rfl))
    rw[decide_eq_false hne]
    have hd:(decide (x1=y1) && (decide (x2=y2) && decide (x3=y3)))=false:=by rw[← Bool.decide_and,← Bool.decide_and];exact decide_eq_false fun h=>he ⟨⟨h.1,h.2.1⟩,h.2.2⟩
    rw[hd]
    refine Wk ?_
    refine ret_eq ?_;simp only[go_sem]
  ·rintro vs L' - ⟨rfl,hI⟩
   simp only[go_sem]
   refine Wk ?_
   refine ret_eq ?_;simp only[go_sem]
   congr 2;symm;apply decide_eq_true
   exact List.ext_getElem hab fun i hi _=>hI i hi hi
theorem law38_awake:PC Proofs.Tryz.prog 6 [] (ab true):=by
 have hzS:∀ts:List Pd,ts=tsS∨ts=tsU→∀t ∈ ts,szF t≤1000000:=fun ts h t ht=>by
  rcases h with rfl|rfl <;> simp only[tsS,tsU,List.mem_cons,List.not_mem_nil,or_false] at ht <;> rcases ht with rfl|rfl <;> decide
 have h1:MCalls Proofs.Tryz.prog 16 [aTr psS,.sl 6 (tsS.map aPd)] [] fun r L=>L=[]∧∃O,(DodgeR psS (elimOf psS tsS).ok O∧O.length≤513)∧r = .tup [aAns ⟨2,false,3,[],[],O,[],0⟩,ai 0] :=
  (strong_Definitely psS psS_sm tsS (hzS _ (.inl rfl)) (by decide)).mono fun r L ⟨e,h⟩=>⟨e,by
   rcases h with ⟨h,_⟩|⟨_,a,ha,_⟩|⟨_,_,O,h1,h2,h3⟩
   ·exact absurd conF_S h
   ·exact absurd ⟨a,ha.1⟩ none_S
   ·exact⟨O,⟨h1,h2⟩,h3⟩⟩
 have h2:MCalls Proofs.Tryz.prog 16 [aTr psS,.sl 6 (tsU.map aPd)] [] fun r L=>L=[]∧r = .tup [aAns ⟨2,true,4,[],[],[],[(0,0,0),(1,0,1)],0⟩,ai 0] :=
  (strong_Definitely psS psS_sm tsU (hzS _ (.inr rfl)) (by decide)).mono fun r L ⟨e,h⟩=>⟨e,by
   rcases h with ⟨h,_⟩|⟨_,a,ha,h3⟩|⟨_,hn,_⟩
   ·exact absurd conF_U h
   ·rw[h3,show psS.length=2 from rfl,chc_U ha];rfl
   ·exact absurd ⟨_,least_U.1⟩ hn⟩
 have h3:∀O,(DodgeR psS (elimOf psS tsS).ok O∧O.length≤513)→PC Proofs.Tryz.prog 26 [aTr psS,.sl 6 (tsS.map aPd),aRows O] (ab true):=fun O ⟨hO,hl⟩=>by
  have:=ref38_Avoids psS psS_sm tsS (hzS _ (.inl rfl)) (by decide) conF_S O (by omega) (dodge_row psS_valid hO)
  rw[dodge_avd psS_valid hO] at this
  exact this
 have h4:=spans_equal [(0,0,0),(1,0,1)] [(0,0,0),(1,0,1)] (by decide)
 rw[decide_eq_true rfl] at h4
 have hx:=law38_example
 have p0:=law38_is 0 ⟨#[120]⟩
 have p1:=law38_is 1 ⟨#[121]⟩
 have hT:aTr psS = .agg [.sl 3 (psS.map aPr)]:=rfl
 have hS:tsS.map aPd=[aPd (oneT 0 ⟨#[120]⟩),aPd (oneT 1 ⟨#[121]⟩)]:=rfl
 have hU:tsU.map aPd=[aPd (oneT 0 ⟨#[120]⟩),.agg [ai 13,ai 0,ai 0,ai 0,astr ByteArray.empty,.sl 6 []]]:=by
  show [aPd (oneT 0 ⟨#[120]⟩),aPd (.mk 13 0 0 0 ByteArray.empty [])]=_
  rw[aPd_mk];rfl
 obtain⟨l0,hk0⟩:∃l,aPd (oneT 0 ⟨#[120]⟩) = .agg [ai 9,ai 0,ai 0,ai 0,astr ByteArray.empty,.sl 6 l]:=⟨_,aPd_mk _ _ _ _ _ _⟩
 obtain⟨l1,hk1⟩:∃l,aPd (oneT 1 ⟨#[121]⟩) = .agg [ai 9,ai 0,ai 0,ai 0,astr ByteArray.empty,.sl 6 l]:=⟨_,aPd_mk _ _ _ _ _ _⟩
 rw[hS,hT] at h1
 rw[hU,hT] at h2
 simp only[hS,hT] at h3
 rw[hT] at hx
 rw[hk0] at p0 h1 h2
 rw[hk1] at p1 h1
 simp only[hk0,hk1] at h3
 clear hS hU hk0 hk1 hT
 generalize psS.map aPr=T at *
 have haA:∀O:List (List Int),aAns ⟨2,false,3,[],[],O,[],0⟩ = .agg [ai 2,ab false,ai 3,.sl 1 [],.sl 1 [],.sl 1 (O.map aInts),.sl 3 [],ai 0]:=fun _=>rfl
 have haB:aAns ⟨2,true,4,[],[],[],[(0,0,0),(1,0,1)],0⟩ = .agg [ai 2,ab true,ai 4,.sl 1 [],.sl 1 [],.sl 1 [],.sl 3 [.agg [ai 0,ai 0,ai 0],.agg [ai 1,ai 0,ai 1]],ai 0]:=rfl
 have haS:aSps [(0,0,0),(1,0,1)] = .sl 3 [.agg [ai 0,ai 0,ai 0],.agg [ai 1,ai 0,ai 1]]:=rfl
 have haR:∀O:List (List Int),aRows O = .sl 1 (O.map aInts):=fun _=>rfl
 simp only[haA] at h1
 rw[haB] at h2
 rw[haS] at h4
 simp only[haR] at h3
 clear haA haB haS haR
 refine PC.enter 53 [.tmp 0] [1,3,9,17,32,50] Proofs.Tryz.func6 rfl rfl rfl rfl rfl (by simp) (AWp.of ?_);simp only[go_sem]
 refine Wk ?_
 refine Sd ?_
 refine(hx).val.use ?_;simp only[go_sem]
 refine Sd ?_
 refine(p0).val.use ?_;simp only[go_sem]
 refine Sd ?_
 refine(p1).val.use ?_;simp only[go_sem]
 refine Wk ?_
 refine h1.val.mono ?_
 rintro r L ⟨rfl,O,hO,rfl⟩
 have h3:=h3 O hO
 generalize O.map aInts=OM at *
 simp only[go_sem]
 intros
 refine Wk ?_
 refine Sd ?_
 refine(hx).val.use ?_;simp only[go_sem]
 refine Sd ?_
 refine(p0).val.use ?_;simp only[go_sem]
 refine Wk ?_
 refine MVal.pass (Lf:=[]) (Li:=[]) (Lr:=[]) (by simp) (Vws.cons (.refl _) (Vws.cons (.mkSl (Vws.cons (.refl _) (Vws.cons (.mkAgg (Vws.cons (.refl _) (Vws.cons (.refl _) (Vws.cons (.refl _) (Vws.cons (.refl _) (Vws.cons (.refl _) (Vws.cons (.nil 6) .nil))))))) .nil))) .nil)) h2.val ?_
 rintro r L1 ⟨rfl,rfl⟩
 refine⟨[],.refl _,?_⟩
 simp only[go_sem]
 intros
 refine Wk ?_
 repeat(first|(with_reducible refine AWp.seq ?_)|(with_reducible refine AWp.block ?_))
 refine AWp.mix mixed [0,1,2,3,4,5,6,7,8,9,10,11,12,13,14,15,16,17,18,19,20,21,22,23,24,25,26,27,28,29,30,31,32] .done (by kernel_rfl) ?_;simp only[go_sem]
 refine Sd ?_
 refine Gc hx ?_
 refine Sd ?_
 refine Gc p0 ?_
 refine Sd ?_
 refine Gc p1 ?_
 refine Sd ?_
 refine Sd ?_
 refine Gc h3 ?_
 refine Sd ?_
 refine Sd ?_
 refine Gc h4 ?_
 refine Sd ?_
 refine Wk ?_
 refine ret_eq ?_;simp only[go_sem]
theorem dup_no {l:List Spn3} {i:Nat} (hi:i<l.length) (h:∀k (hk:k<i),l[i].1 ≠ (l[k]'(by omega)).1):dupSp l i=false:=by
 unfold dupSp
 rw[List.any_eq_false]
 intro x hx
 obtain⟨k,hk,rfl⟩:=List.mem_take_iff_getElem.1 hx
 rw[decide_eq_true_eq,List.getD_eq_getElem?_getD,List.getElem?_eq_getElem hi,Option.getD_some]
 exact fun e=>h k (by omega) e.symm
theorem ref37_Fault_bad {ps:List Pr} (hrv:PC Proofs.Tryz.prog 39 [aTr ps] (ab false)) (ts:List Pd) (_htl:ts.length≤9223372036854775807):PC Proofs.Tryz.prog 15 [aTr ps,.sl 6 (ts.map aPd)] (ai 1):=by
 refine PC.enter 34 [.tmp 4] [2] Proofs.Tryz.func15 rfl rfl rfl rfl rfl (by simp) (AWp.of ?_);simp only[go_sem]
 refine Wk ?_
 refine Sd ?_
 refine(hrv).val.use ?_;simp only[go_sem]
 refine Wk ?_
 refine ret_eq ?_;simp only[go_sem]
theorem strong_ascending (ps:List Pr) (hps:ps.length≤1000000) (l:List Spn3) (_hl:l.length≤9223372036854775806):PC Proofs.Tryz.prog 33 [aTr ps,aSps l] (ab (eachB ps l)):=by
 have hR:aSps l = .sl 3 (l.map aSp):=rfl
 have hE:eachB ps l=(decide (l.length=ps.length) && (List.range l.length).all fun i=>decide ((l.getD i (0,0,0)).1=i)):=rfl
 rw[hR]
 generalize eachB ps l=E at *
 by_cases hlp:l.length=ps.length
 ·have hli:(l.length:Int)=ps.length:=by omega
  rw[decide_eq_true hlp,Bool.true_and] at hE
  refine PC.enter 25 [.tmp 4] [2,6] Proofs.Tryz.func33 rfl rfl rfl rfl rfl (by simp) (AWp.of ?_);simp only[go_sem]
  refine W1 hli ?_
  refine(AWp.range' ps.length [] [13,14] (fun k vs L=>L=[]∧∀j,j<k→(l.getD j (0,0,0)).1=j) (by omega) rfl rfl rfl ⟨rfl,fun _ h=>by omega⟩ ?_ ?_)
  ·rintro k vs L hk - ⟨rfl,hI⟩
   have hkl2:k<l.length:=by omega
   have hg:=getD_map (f:=aSp) hkl2
   have hg2:l.getD k (0,0,0)=l[k]:=by rw[List.getD_eq_getElem?_getD,List.getElem?_eq_getElem hkl2,Option.getD_some]
   have ei:aSp l[k] = .agg [ai l[k].1,ai l[k].2.1,ai l[k].2.2]:=rfl
   rw[ei] at hg
   simp only[go_sem]
   by_cases he:l[k].1=(k:Int)
   ·refine W3 hli hg he ?_
    intros
    refine W3 hli hg he ?_
    refine⟨_,List.Sublist.refl _,rfl,fun j hj => ?_⟩
    by_cases e:j=k
    ·subst e;rw[hg2];exact he
    ·exact hI j (by omega)
   ·have:E=false:=by
     rw[hE,List.all_eq_false]
     exact⟨k,List.mem_range.2 hkl2,by rw[hg2,decide_eq_true_eq];exact he⟩
    rw[this]
    refine W3 hli hg he ?_
    intros
    refine W3 hli hg he ?_
    refine ret_eq ?_;simp only[go_sem]
  ·rintro vs L - ⟨rfl,hI⟩
   have:E=true:=by
    rw[hE,List.all_eq_true]
    intro j hj
    exact decide_eq_true (hI j (by have:=List.mem_range.1 hj;omega))
   rw[this]
   simp only[go_sem]
   refine W1 hli ?_
   refine ret_eq ?_;simp only[go_sem]
 ·have hli:¬(l.length:Int)=ps.length:=by omega
  rw[decide_eq_false hlp,Bool.false_and] at hE
  rw[hE]
  refine PC.enter 25 [.tmp 4] [2,6] Proofs.Tryz.func33 rfl rfl rfl rfl rfl (by simp) (AWp.of ?_);simp only[go_sem]
  refine W1 hli ?_
  refine ret_eq ?_;simp only[go_sem]
def spT (E:Elim) (s:Stp):Bool:=(List.range (s.2.2+1 - s.2.1)).all fun j=>E.ok s.1 (s.2.1+j)
noncomputable def chk38 (ps:List Pr) (ts:List Pd) (a:Ans):Bool :=
 if conF ps ts=0 then (if a.holds=true then (bareB a 4 && eachB ps a.spans) && ((decide (gvnE ps a.spans=0) && ovF ps (a.spans.map spN)) && (a.spans.map spN).all (spT (elimOf ps ts))) else bareB a 3 && avdB ps ts a.run) else false
theorem run_len {ps:List Pr} {R:List (List Int)} (h:isRunF ps R=true):R.length=off ps ps.length+1:=by
 obtain⟨S,rfl,hch,hl⟩:=isrun_inv h
 obtain⟨_,h2⟩:=chn_last (zeroC_is ps) hch hl
 have h0:(zeroC ps).sum=0:=by unfold zeroC;simp
 rw[fullC_sum,h0] at h2
 rw[List.length_cons];omega
section
variable {b:Nat→Bool} {p K:Nat} {l:List Stp}
end
theorem spN_I (s:Stp):spN (stpI s)=s:=by
 obtain⟨a,b,c⟩:=s
 show (((a:Int)).toNat,((b:Int)).toNat,((c:Int)).toNat)=(a,b,c)
 simp
section
variable {ps:List Pr} {ts:List Pd} (hC:conF ps ts=0)
include hC
theorem chc_el {a:Nat→Nat} (ha:LeastS ps (rowsOf ps ts) a) {i:Nat} (hi:i<ps.length):∃h:a i<(rowsOf ps ts i).length,fSp (rowsOf ps ts) i (a i)=(rowsOf ps ts i)[a i]∧SpOk ((elimOf ps ts).ok i) i (nev ps i+1) (rowsOf ps ts i) :=
 ⟨ha.1.1 i hi,fSp_eq (ha.1.1 i hi),rowsOf_ok (conF_inv hC).2.1 i hi⟩
theorem chk_tight {a:Nat→Nat} (ha:LeastS ps (rowsOf ps ts) a):chk38 ps ts ⟨2,true,4,[],[],[],(chcL ps.length (rowsOf ps ts) a).map stpI,0⟩=true:=by
 obtain⟨hv,hl,_⟩:=conF_inv hC
 have hn8:=(valid_len hv).2
 have hcl:=chcL_len ps.length (rowsOf ps ts) a
 have hsp:((chcL ps.length (rowsOf ps ts) a).map stpI).map spN=chcL ps.length (rowsOf ps ts) a:=by
  rw[List.map_map]
  have:(spN ∘ stpI)=id:=by funext s;exact spN_I s
  rw[this,List.map_id]
 have hg:∀i (hi:i<((chcL ps.length (rowsOf ps ts) a).map stpI).length),((chcL ps.length (rowsOf ps ts) a).map stpI)[i]=stpI (fSp (rowsOf ps ts) i (a i)):=fun i hi=>by
  rw[List.getElem_map,chcL_get]
 have hf1:∀i,i<ps.length→(fSp (rowsOf ps ts) i (a i)).1=i∧SpIn ps (fSp (rowsOf ps ts) i (a i))∧spT (elimOf ps ts) (fSp (rowsOf ps ts) i (a i))=true:=fun i hi=>by
  obtain⟨h1,h2,h3⟩:=chc_el hC ha hi
  obtain⟨e1,e2,e3,e4⟩:=h3.el _ (List.getElem_mem h1)
  rw[h2]
  refine⟨e1,⟨by rw[e1];exact hi,e2,by rw[e1];omega⟩,?_⟩
  unfold spT
  rw[List.all_eq_true,e1]
  intro j hj
  have:=List.mem_range.1 hj
  exact e4 _ (by omega) (by omega)
 have hbad:((chcL ps.length (rowsOf ps ts) a).map stpI).any (badSp ps)=false:=by
  rw[List.any_eq_false]
  intro x hx
  obtain⟨i,hi,rfl⟩:=List.getElem_of_mem hx
  rw[hg i hi]
  rw[List.length_map,hcl] at hi
  obtain⟨q1,⟨q2,q3,q4⟩,_⟩:=hf1 i hi
  unfold badSp stpI
  simp only[Bool.or_eq_true,decide_eq_true_eq,Int.toNat_natCast]
  omega
 have hdup:(List.range ((chcL ps.length (rowsOf ps ts) a).map stpI).length).any (dupSp ((chcL ps.length (rowsOf ps ts) a).map stpI))=false:=by
  rw[List.any_eq_false]
  intro i hi
  have hi:=List.mem_range.1 hi
  rw[dup_no hi fun k hk e => ?_]
  ·decide
  rw[hg i hi,hg k (by omega)] at e
  rw[List.length_map,hcl] at hi
  have e1:((fSp (rowsOf ps ts) i (a i)).1:Int)=((fSp (rowsOf ps ts) k (a k)).1:Int):=e
  rw[(hf1 i hi).1,(hf1 k (by omega)).1] at e1
  omega
 have hgv:gvnE ps ((chcL ps.length (rowsOf ps ts) a).map stpI)=0:=by
  unfold gvnE
  rw[hv,if_pos rfl,if_neg (by rw[List.length_map,hcl];omega),hbad,if_neg (by decide),hdup,if_neg (by decide)]
 have hov:ovF ps (chcL ps.length (rowsOf ps ts) a)=true:=ov_iff.2 fun i k hi hk hik=>by
  rw[chcL_get,chcL_get]
  rw[hcl] at hi hk
  exact ha.1.2 i k hi hk hik
 have hall:(chcL ps.length (rowsOf ps ts) a).all (spT (elimOf ps ts))=true:=by
  rw[List.all_eq_true]
  intro x hx
  obtain⟨i,hi,rfl⟩:=List.getElem_of_mem hx
  rw[chcL_get]
  rw[hcl] at hi
  exact(hf1 i hi).2.2
 have hea:eachB ps ((chcL ps.length (rowsOf ps ts) a).map stpI)=true:=by
  unfold eachB
  rw[decide_eq_true (by rw[List.length_map,hcl]),Bool.true_and,List.all_eq_true]
  intro i hi
  have hi:=List.mem_range.1 hi
  rw[decide_eq_true_eq,List.getD_eq_getElem?_getD,List.getElem?_eq_getElem hi,Option.getD_some,hg i hi]
  rw[List.length_map,hcl] at hi
  show ((fSp (rowsOf ps ts) i (a i)).1:Int)=i
  rw[(hf1 i hi).1]
 unfold chk38
 rw[if_pos hC,if_pos rfl]
 simp only[hsp,hgv,hov,hall,hea]
 simp [bareB]
end
def InB (ps:List Pr) (s:Nat→Stp) (c:List Int):Prop:=∀p,p<ps.length→((s p).2.1:Int)≤cAt c p∧cAt c p≤((s p).2.2:Int)
structure TgB (ps:List Pr) (s:Nat→Stp):Prop where
 el:∀p,p<ps.length→(s p).2.1≤(s p).2.2∧(s p).2.2≤nev ps p∧(s p).1=p
 bg:∀p q,p<ps.length→q<ps.length→p ≠ q→bgN ps (s p) (s q)=true
theorem cut_at {ps:List Pr} {c:List Int} (hc:isF ps c=true) {p:Nat} (hp:p<ps.length):0≤cAt c p∧cAt c p≤nev ps p:=by
 rw[nev_get hp]
 exact(inRange_iff (isF_iff.1 hc).1).1 (isF_iff.1 hc).2.1 p hp
section
variable {ps:List Pr} (hv:validF ps=true) {s:Nat→Stp} (hT:TgB ps s)
include hv hT
theorem tgb_low {c:List Int} (hc:isF ps c=true) {j:Nat} (hj:j<ps.length) (h:((s j).2.2:Int)<cAt c j):∀i,i<ps.length→((s i).2.1:Int)≤cAt c i:=fun i hi=>by
 have h1:=hT.el j hj
 have h2:=cut_at hc hi
 have h3:=cut_at hc hj
 by_cases e:i=j
 ·subst e;omega
 ·have hb:=hT.bg i j hi hj e
  unfold bgN at hb
  rw[Bool.or_eq_true,Bool.or_eq_true,decide_eq_true_eq,decide_eq_true_eq,decide_eq_true_eq,(hT.el i hi).2.2,h1.2.2] at hb
  rcases hb with hb|hb|hb
  ·omega
  ·omega
  ·have:=pt_least hv hj (i:=(s j).2.2) hc (by omega) i hi
   omega
theorem tgb_opn {bad:List Int→Bool} (hb:∀c,isF ps c=true→InB ps s c→bad c=true):∀(m:Nat) {c:List Int},isF ps c=true→c.sum+m=off ps ps.length→(InB ps s c∨∃i,i<ps.length∧cAt c i<((s i).2.1:Int))→opnV ps bad c=false:=fun m=>by
 induction m with
 | zero =>
  intro c hc hs hI
  rw[opnV_full (by omega)]
  rcases hI with hI|⟨i,hi,hlt⟩
  ·rw[hb c hc hI];rfl
  ·have hf:=(full_of_sum hc).2 (by omega)
   have h1:=fullC_at hi
   have h2:=hT.el i hi
   rw[nev_get hi] at h2
   rw[← hf] at h1
   omega
 | succ m ih =>
  intro c hc hs hI
  rw[opnV_stp hc (by omega)]
  rcases hI with hI|⟨i,hi,hlt⟩
  ·rw[hb c hc hI];rfl
  ·have hl:=(isF_iff.1 hc).1
   rw[Bool.and_eq_false_iff]
   right
   rw[List.any_eq_false]
   intro p hp
   obtain⟨q1,q2⟩:=mem_enF.1 hp
   have hd:=rdy_is q2
   have hsum:=sum_stpC q1
   rw[Bool.not_eq_true]
   refine ih hd (by omega) ?_
   by_cases hx:∃i,i<ps.length∧cAt (stpC c p) i<((s i).2.1:Int)
   ·exact .inr hx
   ·refine .inl fun j hj => ?_
    have hge:∀j,j<ps.length→((s j).2.1:Int)≤cAt (stpC c p) j:=fun j hj=>by
     refine Int.not_lt.1 fun h=>hx ⟨j,hj,h⟩
    refine⟨hge j hj,?_⟩
    have h1:=hge i hi
    rw[cAt_stp (by omega)] at h1
    have hpi:p=i:=by
     by_cases e:p=i
     ·exact e
     ·rw[if_neg e] at h1;omega
    subst hpi
    rw[if_pos rfl] at h1
    rw[cAt_stp (by omega)]
    have h2:=hT.el j hj
    split
    ·rename_i e;subst e;omega
    ·refine Int.not_lt.1 fun h => ?_
     have:=tgb_low hv hT hc hj h p hi
     omega
theorem tgb_blocks {bad:List Int→Bool} (hb:∀c,isF ps c=true→InB ps s c→bad c=true):opnV ps bad (zeroC ps)=false:=by
 have hz:=zeroC_is ps
 have hzs:(zeroC ps).sum=0:=by unfold zeroC;simp
 have hza:∀i,i<ps.length→cAt (zeroC ps) i=0:=fun i hi=>by
  unfold zeroC;rw[cAt_nat (by simpa using hi)];simp
 refine tgb_opn hv hT hb (off ps ps.length) hz (by omega) ?_
 by_cases hx:∃i,i<ps.length∧cAt (zeroC ps) i<((s i).2.1:Int)
 ·exact .inr hx
 ·refine .inl fun j hj=>⟨Int.not_lt.1 fun h=>hx ⟨j,hj,h⟩,?_⟩
  rw[hza j hj];omega
end
end Go.AL
end
