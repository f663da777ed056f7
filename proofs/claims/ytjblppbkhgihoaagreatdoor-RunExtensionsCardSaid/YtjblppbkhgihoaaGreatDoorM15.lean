/- Texts of this claim's proof: WU7, WU8, WPw3, WV17, WXm, WXs, WV18, WV9, WV14, WXr, WV20, WV21, WV22, WV23, WV24, WU9, WU10, WU12, WU13, WQe, WXg, WU14, WV25, WV27, WY3, WY6, WY8, WY5, WY11, WY9, WY20, WY21, WY12. No condition. -/
import Derived.Test.YtjblppbkhgihoaaGreatDoorM14
import Derived.Test.YtjblppbkhgihoaaGreatDoorM12
import Derived.Test.YtjblppbkhgihoaaGreatDoorM8
import Derived.Test.YtjblppbkhgihoaaGreatDoorM10
import Derived.Test.YtjblppbkhgihoaaGreatDoorM9
import Derived.Test.YtjblppbkhgihoaaGreatDoorM13
import Derived.Test.YtjblppbkhgihoaaGreatDoorM11
import Derived.Test.YtjblppbkhgihoaaGreatDoorM6
import Derived.Test.YtjblppbkhgihoaaGreatDoorM7
section
namespace Go.AL
open Go Go.RowKit
set_option maxRecDepth 4000
def psR:List Pr:=[⟨⟨#[97]⟩,[],[⟨1,0,0,0,[]⟩]⟩,⟨⟨#[98]⟩,[],[⟨1,0,0,0,[]⟩]⟩]
theorem psR_valid:validF psR=true:=by
 unfold validF faultF
 rw[if_neg (by decide),show procFirst psR=none from rfl,show evFirst psR=none from rfl,show msgF psR=none from rfl,cycF_rank (fun x=>x.1) (by decide)]
 rfl
theorem psR_sm:Sm psR:=⟨by decide,by decide,by decide,by decide⟩
theorem psR_cuts:cutsF psR=[[0,0],[0,1],[1,0],[1,1]]:=by rfl
theorem psR_zero:lstE psR=0:=lst_zero.2 ⟨psR_valid,by rw[psR_cuts];decide⟩
theorem psR_way:wayV psR (zeroC psR)=2:=by rfl
theorem psR_av1:avE psR [[1,0]]=0:=by
 unfold avE
 rw[psR_valid,if_pos rfl,if_neg (by decide),show (([[1,0]]:List (List Int)).any fun c => !isF psR c)=false from rfl,if_neg (by decide),psR_zero]
theorem psR_av2:avE psR [[1,0],[0,1]]=0:=by
 unfold avE
 rw[psR_valid,if_pos rfl,if_neg (by decide),show (([[1,0],[0,1]]:List (List Int)).any fun c => !isF psR c)=false from rfl,if_neg (by decide),psR_zero]
theorem psR_o1:opnV psR (badB [[1,0]]) (zeroC psR)=true:=by decide
theorem psR_o2:opnV psR (badB [[1,0],[0,1]]) (zeroC psR)=false:=by decide
theorem psR_w:wlkF psR (opnV psR (badB [[1,0]]))=[[0,0],[0,1],[1,1]]:=by decide
theorem law24_awake:PC Proofs.Tryz.prog 4 [] (ab true):=by
 have h1:=run_Count psR psR_sm
 have h2:=run_Avoid psR psR_sm [[1,0]]
 have h3:=run_Blocked psR psR_sm [[1,0],[0,1]]
 have h4:=ref24_Same [[0,0],[0,1],[1,1]] [[0,0],[0,1],[1,1]] (by decide) (by decide)
 rw[decide_eq_true rfl] at h4
 have e1:cnE psR=0:=by unfold cnE;rw[psR_zero,if_neg (by decide),psR_way,if_neg (by decide)]
 have e2:cnN psR=2:=by unfold cnN;rw[e1,if_pos rfl,psR_way];rfl
 have e3:avdE psR [[1,0]]=0:=by unfold avdE;rw[psR_av1,if_pos rfl,psR_o1,if_pos rfl]
 have e4:avdF psR [[1,0]]=[[0,0],[0,1],[1,1]]:=by unfold avdF;rw[e3,if_pos rfl,psR_w]
 have e5:blkB psR [[1,0],[0,1]]=true:=by unfold blkB;rw[psR_av2,psR_o2];rfl
 rw[e1,e2] at h1
 rw[e3,e4] at h2
 rw[e5,psR_av2] at h3
 refine PC.enter 62 [.tmp 0] [2,10,15,24,25,31,32,33,45,46,47,48] Proofs.Tryz.func4 rfl rfl rfl rfl rfl (by simp) (AWp.of ?_);simp only[go_sem]
 refine Wk ?_
 intro b2
 have hvw:Vw [] (.rp 1 [.agg [.sl 3 [.agg [.v (.string ⟨#[97]⟩),anil,.sl 5 [.agg [ai 1,ai 0,ai 0,ai 0,anil]]],.agg [.v (.string ⟨#[98]⟩),anil,.sl 5 [.agg [ai 1,ai 0,ai 0,ai 0,anil]]]]]] 0 0) (.rp 1 [aTr psR] 0 0):=by
  have h5:Vw [] (.agg [ai 1,ai 0,ai 0,ai 0,anil]) (aEv ⟨1,0,0,0,[]⟩):=.mkAgg (Vws.cons (.refl _) (Vws.cons (.refl _) (Vws.cons (.refl _) (Vws.cons (.refl _) (Vws.cons (.nil 2) .nil)))))
  have h6:∀s:ByteArray,Vw [] (.agg [.v (.string s),anil,.sl 5 [.agg [ai 1,ai 0,ai 0,ai 0,anil]]]) (aPr ⟨s,[],[⟨1,0,0,0,[]⟩]⟩):=fun s => .mkAgg (Vws.cons (.refl _) (Vws.cons (.nil 2) (Vws.cons (.mkSl (Vws.cons h5 .nil)) .nil)))
  have h7:Vw [] (.agg [.sl 3 [.agg [.v (.string ⟨#[97]⟩),anil,.sl 5 [.agg [ai 1,ai 0,ai 0,ai 0,anil]]],.agg [.v (.string ⟨#[98]⟩),anil,.sl 5 [.agg [ai 1,ai 0,ai 0,ai 0,anil]]]]]) (aTr psR):=.mkAgg (Vws.cons (.mkSl (Vws.cons (h6 _) (Vws.cons (h6 _) .nil))) .nil)
  have h8:=Vws.cons h7 .nil
  exact .rp h8.1 h8.2
 refine AWp.view [] [(2,.rp 1 [aTr psR] 0 0)] (LVw.none _) (fun p hp=>by
  rw[List.mem_singleton] at hp;subst hp;exact hvw) ?_
 simp only[go_sem]
 refine Wk ?_
 refine Sd ?_
 refine(h1).val.use ?_;simp only[go_sem]
 refine Wk ?_
 refine Sd ?_
 refine(h2).val.use ?_;simp only[go_sem]
 refine Wk ?_
 refine Sd ?_
 refine(h3).val.use ?_;simp only[go_sem]
 refine Wk ?_
 refine Sd ?_
 refine Gc h4 ?_
 refine Wk ?_
 refine ret_eq ?_;simp only[go_sem]
def asg12 (e:Ev):Bool:=decide (12<(e.asg.length:Int))
def smP (x:Pr):Bool:=!(decide (12<(x.vars.length:Int)) || x.evs.any asg12)
def smW (ps:List Pr):Nat→Int
 | 0=>0
 | k+1=>addW (smW ps k) (nev ps k)
def smF (ps:List Pr) (m:Int):Bool:=decide (ps.length≤10) && (ps.all smP && decide (smW ps ps.length≤m))
theorem smF_cases {ps:List Pr} {m:Int} (h:smF ps m=true):Sm ps∨(Smh ps∧∃p,p<ps.length∧procF ps p ≠ 0):=by
 unfold smF at h
 rw[Bool.and_eq_true,Bool.and_eq_true,decide_eq_true_eq,List.all_eq_true] at h
 obtain⟨h1,h2,_⟩:=h
 have h3:∀p ∈ ps,p.vars.length≤12∧∀e ∈ p.evs,e.asg.length≤12:=fun p hp=>by
  have:=h2 p hp
  unfold smP at this
  rw[Bool.not_eq_true',Bool.or_eq_false_iff,decide_eq_false_iff_not,List.any_eq_false] at this
  refine⟨by omega,fun e he => ?_⟩
  have:=this.2 e he
  unfold asg12 at this
  simp at this
  omega
 by_cases hb:∃p,∃h:p<ps.length,64<ps[p].evs.length
 ·obtain⟨p,hp,hb⟩:=hb
  exact .inr ⟨⟨by omega,fun p hp=>by have:=(h3 p hp).1;omega⟩,p,hp,procF_evs hp hb⟩
 ·refine .inl ⟨by omega,fun p hp => ?_,fun p hp=>by have:=(h3 p hp).1;omega,fun p hp e he=>by have:=(h3 p hp).2 e he;omega⟩
  obtain⟨i,hi,rfl⟩:=List.getElem_of_mem hp
  apply Classical.byContradiction
  intro h4
  exact hb ⟨i,hi,by omega⟩
theorem law24_small1 (e:Ev):PC Proofs.Tryz.prog 14 [aEv e] (ab (asg12 e)):=by
 refine PC.enter 7 [.tmp 2] [1] Proofs.Tryz.func14 rfl rfl rfl rfl rfl (by simp) (AWp.of ?_);simp only[go_sem]
 refine Wk ?_
 refine ret_eq ?_;simp only[go_sem]
 rfl
theorem smW_in (ps:List Pr):∀k,-9223372036854775808≤smW ps k∧smW ps k≤9223372036854775807
 | 0=>by show -9223372036854775808≤(0:Int)∧(0:Int)≤9223372036854775807;omega
 | k+1=>by
  show -9223372036854775808≤addW (smW ps k) (nev ps k)∧addW (smW ps k) (nev ps k)≤9223372036854775807
  unfold addW
  rw[IntKind.wrap_i64]
  omega
theorem law24_small (ps:List Pr) (hl:∀p ∈ ps,p.evs.length≤9223372036854775807) (m:Int):PC Proofs.Tryz.prog 5 [aTr ps,ai m] (ab (smF ps m)):=by
 by_cases h10:ps.length≤10
 ·have h10i:¬(10:Int)<(ps.length:Int):=by omega
  have hsf:smF ps m=(ps.all smP && decide (smW ps ps.length≤m)):=by unfold smF;rw[decide_eq_true h10];rfl
  refine PC.enter 37 [.tmp 4] [2,7] Proofs.Tryz.func5 rfl rfl rfl rfl rfl (by simp) (AWp.of ?_);simp only[go_sem]
  repeat(first|((with_reducible refine AWp.ofC ?_ ?_);exact rfl;simp only[go_sem,h10i])|((with_reducible refine an ?_ ?_);exact Au))
  refine AWp.range1' ps.length [5] [1,13,14] (fun k vs L=>L=[]∧vs=[ai (smW ps k)]∧∀(j:Nat) (hj:j<ps.length),j<k→smP ps[j]=true) (by omega) rfl rfl rfl ⟨rfl,rfl,fun _ _ h=>by omega⟩ ?_ ?_
  ·rintro k vs L hk - ⟨rfl,rfl,hI⟩
   have hgp:=getD_map (f:=aPr) hk
   have hfp:smP ps[k] = !(decide (12<(ps[k].vars.length:Int)) || ps[k].evs.any asg12):=rfl
   have hsw:smW ps (k+1)=addW (smW ps k) ps[k].evs.length:=by rw[← nev_get hk];rfl
   have hin:=smW_in ps k
   have hel:=hl _ (List.getElem_mem hk)
   have hall:smP ps[k]=false→smF ps m=false:=fun h=>by
    rw[hsf,Bool.and_eq_false_iff]
    exact .inl (List.all_eq_false.2 ⟨_,List.getElem_mem hk,by rw[h];decide⟩)
   have hI':smP ps[k]=true→∀(j:Nat) (hj:j<ps.length),j<k+1→smP ps[j]=true:=fun h j hj hjk=>by
    by_cases e:j=k
    ·subst e;exact h
    ·exact hI j hj (by omega)
   have hcf:=events_containsFuncB ps[k].evs hel (.v (.func (.func 14) #[] #[])) rfl asg12 fun e _=>(law24_small1 e).val
   clear hI
   generalize ps[k]=x at *
   simp only[go_sem]
   refine Sd ?_
   refine AWp.of ?_;simp only[go_sem,hgp]
   refine Sd ?_
   intros
   refine AWp.seq (AWp.regionW ?_)
   simp only[go_sem]
   rw[← hsw]
   generalize smW ps (k+1)=z' at *
   generalize smW ps k=z at *
   refine Wk ?_
   refine Sd ?_
   refine Gc hcf ?_
   refine Wk ?_
   refine⟨fun h => ?_,fun h1 h2 => ?_⟩
   ·have hx:smP x=false:=by
     rw[hfp,Bool.not_eq_false']
     simpa using h
    rw[hall hx]
    refine Wk ?_
    refine ret_eq ?_;simp only[go_sem]
   ·have hx:smP x=true:=by
     rw[hfp]
     simp [h2]
     omega
    refine Wk ?_
    exact⟨_,List.Sublist.refl _,rfl,hI' hx⟩
  ·rintro vs L - ⟨rfl,rfl,hI⟩
   have hall:ps.all smP=true:=List.all_eq_true.2 fun x hx=>by
    obtain⟨j,hj,rfl⟩:=List.getElem_of_mem hx
    exact hI j hj hj
   rw[hsf,hall]
   simp only[go_sem]
   refine Wk ?_
   refine ret_eq ?_;simp only[go_sem]
 ·have h10i:(10:Int)<(ps.length:Int):=by omega
  have hsf:smF ps m=false:=by unfold smF;rw[decide_eq_false h10];rfl
  rw[hsf]
  refine PC.enter 37 [.tmp 4] [2,7] Proofs.Tryz.func5 rfl rfl rfl rfl rfl (by simp) (AWp.of ?_);simp only[go_sem]
  repeat(first|((with_reducible refine AWp.ofC ?_ ?_);exact rfl;simp only[go_sem,h10i])|((with_reducible refine an ?_ ?_);exact Au))
  refine ret_eq ?_;simp only[go_sem]
section
variable {ps:List Pr} (hva:PC Proofs.Tryz.prog 16 [aTr ps] (ab false))
include hva
end
structure Vd (ps:List Pr):Prop where
 val:PC Proofs.Tryz.prog 16 [aTr ps] (ab (validF ps))
 rval:PC Proofs.Tryz.prog 6 [aTr ps] (ab (validF ps))
 sm:validF ps=true→Sm ps
 big:Sm ps∨validF ps=false
theorem vd_of {ps:List Pr} {m:Int} (h:smF ps m=true):Vd ps:=by
 rcases smF_cases h with h|⟨h,hb⟩
 ·exact⟨trace_Valid ps h,ref12_Valid ps h,fun _=>h,.inl h⟩
 ·exact⟨trace_ValidB ps h hb,ref12_ValidB ps h hb,fun hv=>absurd hv (by rw[valid_bad hb];simp),.inr (valid_bad hb)⟩
mutual
def hugeF:Pd→Int→Int→Int
 | .mk _ _ _ _ _ l,d,c=>hugeL l (d+1) (if 40<d then 1000 else c+1)
def hugeL:List Pd→Int→Int→Int
 | [],_,c=>c
 | x :: r,d,c=>if c≤300 then hugeL r d (hugeF x d c) else c
end
mutual
def nodF:Pd→Int→Int→Int
 | .mk _ _ _ _ _ l,m,d=>if 40<d then m else nodL l m d 1
def nodL:List Pd→Int→Int→Int→Int
 | [],_,_,n=>n
 | x :: r,m,d,n=>if m≤n+nodF x (m - n) (d+1) then m else nodL r m d (n+nodF x (m - n) (d+1))
end
def totA (rows:Nat→List Stp) (n:Nat) (a:Nat→Nat):Nat:=totS n fun p=>(rows p).length - a p
structure ElA (ps:List Pr) (rows:Nat→List Stp) (a:Nat→Nat):Prop where
 lt:∀p,p<ps.length→a p<(rows p).length
 low:∀t,TgtS ps rows t→∀p,p<ps.length→a p≤t p
theorem ElA.step {ps:List Pr} {b:Nat→Nat→Bool} {rows:Nat→List Stp} (hR:RowsOk ps b rows) {a:Nat→Nat} (h:ElA ps rows a) {p q:Nat} (hp:p<ps.length) (hq:q<ps.length) (hpq:p ≠ q) (hb:bgN ps (fSp rows p (a p)) (fSp rows q (a q))=false) :
  (a q+1=(rows q).length→¬ ∃t,TgtS ps rows t)∧(a q+1 ≠ (rows q).length→ElA ps rows (updN a q (a q+1))∧totA rows ps.length (updN a q (a q+1))<totA rows ps.length a):=by
 have hs:=tgt_step (mon_rows hR) h.low hp hq hpq hb
 have hlq:=h.lt q hq
 have e:∀r,updN a q (a q+1) r=if r=q then a q+1 else a r:=fun r=>rfl
 refine⟨fun h1=>tgt_none hs hq (by show (rows q).length≤if q=q then a q+1 else a q;rw[if_pos rfl];omega),fun h1=>⟨⟨fun r hr => ?_,fun t ht r hr=>by rw[e];exact hs t ht r hr⟩,?_⟩⟩
 ·by_cases e2:r=q
  ·subst e2;rw[updN_self];omega
  ·rw[updN_ne e2];exact h.lt r hr
 ·unfold totA
  refine totS_lt2 ps.length (p:=q) (fun r _ => ?_) hq ?_
  ·by_cases e2:r=q
   ·subst e2;rw[updN_self];omega
   ·rw[updN_ne e2];exact Nat.le_refl _
  ·rw[updN_self];omega
theorem level_nodup {ps:List Pr} (hv:validF ps=true) (k:Nat):(levF ps k).Nodup:=by
 have:=asc_lev hv k
 unfold Asc at this
 exact this.imp fun {a b} h e=>by subst e;rw[cmpL_irr] at h;omega
theorem MCalls.pc {P:Program} {f:FuncId} {args:List AV} {K:AV→AHeap→Prop} {r0:AV} (h:MCalls P f args [] K) (hk:∀r L,K r L→Vw L r r0):PC P f args r0 :=
 ⟨h.1,fun n w A vs h1 h2=>(h.2 n w A vs h1 h2).mono fun e w' hp=>by
  obtain⟨v,r,L',A',e1,hK,hf,hA,hL,hkk,hr⟩:=hp
  refine⟨v,r0,[],fun b=>A' b∨keysOf L' b,e1,⟨rfl,rfl⟩,hf,fun b hb => ?_,hL.viewed (Lf:=L') (Lk:=[]) (by simp) .nil,fun x hx=>absurd hx (by simp),hL.view (Lf:=L') (Lk:=[]) (by simp) (hk r L' hK) hr⟩
  rcases hb with hb|⟨x,hx,rfl⟩
  ·exact hA b hb
  ·rcases hkk x hx with h|h
   ·exact .inr (.inl h)
   ·exact .inr (.inr h)⟩
section
variable {b:Nat→Bool} {p K:Nat} {l:List Stp}
theorem SpOk.after (h:SpOk b p K l) {i:Nat} (hi:i<l.length) (h0:l[i].2.2+1<K):b (l[i].2.2+1)=false:=by
 cases hb:b (l[i].2.2+1) with
 | false=>rfl
 | true =>
  obtain⟨_,g2,g3,_⟩:=h.el l[i] (List.getElem_mem hi)
  obtain⟨s,hs,k1,k2⟩:=h.cov _ h0 hb
  obtain⟨m,hm,rfl⟩:=List.getElem_of_mem hs
  rcases Nat.lt_trichotomy m i with e|e|e
  ·have:=h.lt hi e;omega
  ·subst e;omega
  ·have:=h.lt hm e;omega
end
section
variable {ps:List Pr} {ts:List Pd} (hC:conF ps ts=0)
include hC
end
structure TgB (ps:List Pr) (s:Nat→Stp):Prop where
 el:∀p,p<ps.length→(s p).2.1≤(s p).2.2∧(s p).2.2≤nev ps p∧(s p).1=p
 bg:∀p q,p<ps.length→q<ps.length→p ≠ q→bgN ps (s p) (s q)=true
theorem cut_at {ps:List Pr} {c:List Int} (hc:isF ps c=true) {p:Nat} (hp:p<ps.length):0≤cAt c p∧cAt c p≤nev ps p:=by
 rw[nev_get hp]
 exact(inRange_iff (isF_iff.1 hc).1).1 (isF_iff.1 hc).2.1 p hp
section
variable {ps:List Pr} (hv:validF ps=true) {s:Nat→Stp} (hT:TgB ps s)
include hv hT
end
def synL:List Eid→List Syn
 | x :: y :: r=>(if x.1 ≠ y.1 then [(x,y)] else []) ++ synL (y :: r)
 | _=>[]
theorem synL_mem {s:Syn} : ∀ {es:List Eid},s ∈ synL es↔s.1.1 ≠ s.2.1∧∃(j:Nat) (h:j+1<es.length),s=(es[j],es[j+1])
 | []=>by
  constructor
  ·intro h;cases h
  ·rintro⟨_,j,h,_⟩;simp at h
 | [x]=>by
  constructor
  ·intro h;cases h
  ·rintro⟨_,j,h,_⟩;simp at h
 | x :: y :: r=>by
  have e:synL (x :: y :: r)=(if x.1 ≠ y.1 then [(x,y)] else []) ++ synL (y :: r):=rfl
  rw[e,List.mem_append,synL_mem]
  constructor
  ·rintro(h|⟨h1,j,hj,h2⟩)
   ·split at h
    ·rename_i hne
     rw[List.mem_singleton] at h
     subst h
     exact⟨hne,0,by simp,rfl⟩
    ·cases h
   ·exact⟨h1,j+1,by simp at hj ⊢;omega,h2⟩
  ·rintro⟨h1,j,hj,h2⟩
   cases j with
   | zero =>
    left
    subst h2
    have h1:x.1 ≠ y.1:=h1
    rw[if_pos h1]
    exact List.mem_singleton.2 rfl
   | succ j=>exact .inr ⟨h1,j,by simp at hj ⊢;omega,h2⟩
def hasB (c:List Int) (y:Eid):Bool:=decide (y.2≤cAt c y.1)
def rkO (O:List (List Int)) (y:Eid):Nat:=(O.filter fun c => !hasB c y).length
theorem filter_lt {α:Type} {p q:α→Bool} : ∀ {l:List α},(∀x ∈ l,p x=true→q x=true)→(∃x ∈ l,p x=false∧q x=true)→(l.filter p).length<(l.filter q).length
 | [],_,⟨_,h,_⟩=>nomatch h
 | a :: l,h,⟨x,hx,h1,h2⟩=>by
  have hle:(l.filter p).length≤(l.filter q).length:=by
   have:∀ {l:List α},(∀x ∈ l,p x=true→q x=true)→(l.filter p).length≤(l.filter q).length:=fun {l} => by
    induction l with
    | nil=>intro _;simp
    | cons b l ih =>
     intro h
     have ih:=ih fun x hx=>h x (List.mem_cons_of_mem _ hx)
     have hb:=h b (by simp)
     rw[List.filter_cons,List.filter_cons]
     cases hp:p b with
     | true=>rw[hb hp];simp;exact ih
     | false=>cases q b <;> simp <;> omega
   exact this fun x hx=>h x (List.mem_cons_of_mem _ hx)
  rw[List.filter_cons,List.filter_cons]
  rcases List.mem_cons.1 hx with rfl|hx
  ·rw[h1,h2];simp;omega
  ·have ih:=filter_lt (l:=l) (fun x hx=>h x (List.mem_cons_of_mem _ hx)) ⟨x,hx,h1,h2⟩
   have ha:=h a (by simp)
   cases hp:p a with
   | true=>rw[ha hp];simp;exact ih
   | false=>cases q a <;> simp <;> omega
section
variable {ps:List Pr}
theorem stpC_at {c:List Int} (hc:isF ps c=true) {q p:Nat} (hp:p<ps.length):cAt (stpC c q) p=if q=p then cAt c q+1 else cAt c p:=by
 have:=(isF_iff.1 hc).1
 rw[cAt_stp (by omega)]
 split
 ·rename_i e;subst e;rfl
 ·rfl
theorem chn_gain {y:Eid} (hy:0≤y.1∧y.1<ps.length):∀ {R:List (List Int)} {c:List Int},isF ps c=true→chnF ps c R=true→hasB c y=false→(∃d ∈ R,hasB d y=true) →
  ∃a b,a ∈ c :: R∧b ∈ R∧isF ps a=true∧hasB a y=false∧(∃q,q<ps.length∧b=stpC a q∧y=((q:Int),cAt a q+1))
 | [],c,_,_,_,⟨d,hd,_⟩=>nomatch hd
 | b :: R,c,hc,h,h0,⟨d,hd,h1⟩=>by
  obtain⟨q,q1,q2,rfl,_,q5⟩:=(chn_cons hc).1 h
  cases hb:hasB (stpC c q) y with
  | false =>
   have hd':∃d ∈ R,hasB d y=true:=by
    rcases List.mem_cons.1 hd with rfl|hd
    ·rw[hb] at h1;cases h1
    ·exact⟨d,hd,h1⟩
   obtain⟨a,b,g1,g2,g3⟩:=chn_gain hy (rdy_is q2) q5 hb hd'
   exact⟨a,b,List.mem_cons_of_mem _ g1,List.mem_cons_of_mem _ g2,g3⟩
  | true =>
   refine⟨c,_,by simp,by simp,hc,h0,q,q1,rfl,?_⟩
   obtain⟨a,k⟩:=y
   have hy:0≤a∧a<ps.length:=hy
   unfold hasB at h0 hb
   simp only[decide_eq_false_iff_not,decide_eq_true_eq] at h0 hb
   obtain⟨a',rfl⟩:=Int.eq_ofNat_of_zero_le hy.1
   rw[stpC_at hc (by omega)] at hb
   split at hb
   ·rename_i e;subst e
    rw[Prod.mk.injEq];omega
   ·omega
theorem rk_lt {R:List (List Int)} (h:chnF ps (zeroC ps) R=true) (hlast:(zeroC ps :: R).getLast?=some (fullC ps)) {y x:Eid} (hy:0≤y.1∧y.1<ps.length∧1≤y.2∧y.2≤nev ps y.1.toNat) (hx0:0≤x.1) (hne:y ≠ x)
  (hx:∀c ∈ zeroC ps :: R,hasB c x=true→hasB c y=true):rkO (zeroC ps :: R) y<rkO (zeroC ps :: R) x:=by
 obtain⟨y1,y2,y3,y4⟩:=hy
 have hz:hasB (zeroC ps) y=false:=by
  unfold hasB
  refine decide_eq_false ?_
  unfold zeroC cAt
  rw[getD_zeros];omega
 have hf:hasB (fullC ps) y=true:=by
  unfold hasB
  refine decide_eq_true ?_
  obtain⟨p,hp⟩:=Int.eq_ofNat_of_zero_le y1
  rw[hp] at y2 y4 ⊢
  rw[Int.toNat_natCast] at y4
  rw[fullC_at (by omega),← nev_get (by omega)]
  exact y4
 have hR:∃d ∈ R,hasB d y=true:=by
  have hm:=List.mem_of_getLast? hlast
  rcases List.mem_cons.1 hm with e|hm
  ·rw[e,hz] at hf;cases hf
  ·exact⟨_,hm,hf⟩
 obtain⟨a,b,g1,g2,g3,g4,q,q1,rfl,q3⟩:=chn_gain ⟨y1,y2⟩ (zeroC_is ps) h hz hR
 refine filter_lt (fun c hc hn => ?_) ⟨stpC a q,List.mem_cons_of_mem _ g2,?_,?_⟩
 ·cases hh:hasB c x with
  | false=>rfl
  | true=>rw[hx c hc hh] at hn;cases hn
 ·have:hasB (stpC a q) y=true:=by
   unfold hasB
   refine decide_eq_true ?_
   rw[q3]
   show cAt a q+1≤cAt (stpC a q) q
   rw[stpC_at g3 q1,if_pos rfl];exact Int.le_refl _
  rw[this];rfl
 ·cases hh:hasB (stpC a q) x with
  | false=>rfl
  | true =>
   exfalso
   have ha:hasB a x=false:=by
    cases h2:hasB a x with
    | false=>rfl
    | true=>rw[hx a g1 h2] at g4;cases g4
   refine hne ?_
   obtain⟨u,k⟩:=x
   unfold hasB at hh ha
   simp only[decide_eq_false_iff_not,decide_eq_true_eq] at hh ha
   have hal:=(isF_iff.1 g3).1
   have hu:u.toNat=q:=by
    refine Classical.byContradiction fun hne => ?_
    unfold cAt at hh ha
    unfold stpC at hh
    rw[List.getD_eq_getElem?_getD,List.getElem?_set,if_neg (fun e=>hne e.symm),← List.getD_eq_getElem?_getD] at hh
    exact ha hh
   have e1:cAt (stpC a q) u=cAt a u+1:=by
    unfold cAt stpC
    rw[hu,List.getD_eq_getElem?_getD,List.getElem?_set,if_pos rfl,if_pos (by omega),Option.getD_some]
    unfold cAt;rfl
   have e2:cAt a u=cAt a q:=by unfold cAt;rw[hu,Int.toNat_natCast]
   have hx0:0≤u:=hx0
   rw[q3,Prod.mk.injEq]
   omega
theorem evt_get:∀ {R:List (List Int)} {c:List Int} (_:isF ps c=true) (_:chnF ps c R=true) {j:Nat} (hj:j<(evtG c R).length),∃a,isF ps a=true∧(c :: R)[j]?=some a∧∃q,q<ps.length∧(c :: R)[j+1]?=some (stpC a q)∧(evtG c R)[j]=((q:Int),cAt a q+1)∧rdyF ps a q=true
 | [],_,_,_,j,hj=>by simp [evtG] at hj
 | b :: R,c,hc,h,j,hj=>by
  obtain⟨q,q1,q2,rfl,q4,q5⟩:=(chn_cons hc).1 h
  have e:evtG c (stpC c q :: R)=(stepF c (stpC c q),cAt (stpC c q) (stepF c (stpC c q))) :: evtG (stpC c q) R:=rfl
  cases j with
  | zero =>
   refine⟨c,hc,rfl,q,q1,rfl,?_,q2⟩
   simp only[e,List.getElem_cons_zero]
   rw[q4,stpC_at hc q1,if_pos rfl]
  | succ j =>
   have hj2:j<(evtG (stpC c q) R).length:=by rw[e,List.length_cons] at hj;omega
   obtain⟨a,a1,a2,q',a3,a4,a5,a6⟩:=evt_get (rdy_is q2) q5 hj2
   exact⟨a,a1,a2,q',a3,a4,by simp only[e,List.getElem_cons_succ];exact a5,a6⟩
theorem syn_ok {R:List (List Int)} (h:chnF ps (zeroC ps) R=true):SynOk ps (synL (evtG (zeroC ps) R)):=fun s hs=>by
 obtain⟨_,j,hj,rfl⟩:=synL_mem.1 hs
 have key:∀i (hi:i<(evtG (zeroC ps) R).length),0≤((evtG (zeroC ps) R)[i]).1∧((evtG (zeroC ps) R)[i]).1<ps.length∧1≤((evtG (zeroC ps) R)[i]).2∧((evtG (zeroC ps) R)[i]).2≤nev ps ((evtG (zeroC ps) R)[i]).1.toNat:=fun i hi=>by
  obtain⟨a,a1,_,q,a3,_,a5,a6⟩:=evt_get (zeroC_is ps) h hi
  rw[a5]
  simp only[Int.toNat_natCast]
  have h1:=cut_at (rdy_is a6) a3
  have h2:=cut_at a1 a3
  rw[stpC_at a1 a3,if_pos rfl] at h1
  omega
 exact⟨key j (by omega),key (j+1) hj⟩
theorem evt_lack:∀ {R:List (List Int)} {c:List Int} (_:isF ps c=true) (_:chnF ps c R=true) {j:Nat} (hj:j<(evtG c R).length),∀m,m≤j→∀a,(c :: R)[m]?=some a→hasB a (evtG c R)[j]=false
 | [],_,_,_,j,hj=>by simp [evtG] at hj
 | b :: R,c,hc,h,j,hj=>by
  intro m hm a ha
  obtain⟨q,q1,q2,rfl,q4,q5⟩:=(chn_cons hc).1 h
  have e:evtG c (stpC c q :: R)=(stepF c (stpC c q),cAt (stpC c q) (stepF c (stpC c q))) :: evtG (stpC c q) R:=rfl
  have hself:hasB c ((q:Int),cAt c q+1)=false:=decide_eq_false (by show ¬cAt c q+1≤cAt c q;omega)
  cases j with
  | zero =>
   have:m=0:=by omega
   subst this
   have:c=a:=Option.some.inj ha
   subst this
   simp only[e,List.getElem_cons_zero]
   rw[q4,stpC_at hc q1,if_pos rfl]
   exact hself
  | succ j =>
   have hj2:j<(evtG (stpC c q) R).length:=by rw[e,List.length_cons] at hj;omega
   simp only[e,List.getElem_cons_succ]
   cases m with
   | succ m=>exact evt_lack (rdy_is q2) q5 hj2 m (by omega) a ha
   | zero =>
    have:c=a:=Option.some.inj ha
    subst this
    have h1:=evt_lack (rdy_is q2) q5 hj2 0 (Nat.zero_le _) (stpC c q) rfl
    obtain⟨a',a1,_,q',a3,_,a5,_⟩:=evt_get (rdy_is q2) q5 hj2
    rw[a5] at h1 ⊢
    unfold hasB at h1 ⊢
    simp only[decide_eq_false_iff_not] at h1 ⊢
    rw[stpC_at hc a3] at h1
    split at h1
    ·rename_i e;subst e;omega
    ·omega
theorem chn_sum_le:∀ {R:List (List Int)} {c:List Int},isF ps c=true→chnF ps c R=true→∀d ∈ c :: R,∀y:Eid,hasB c y=true→hasB d y=true
 | [],c,_,_,d,hd,y,h=>by
  rw[List.mem_singleton] at hd
  subst hd;exact h
 | b :: R,c,hc,h,d,hd,y,hy=>by
  obtain⟨q,q1,q2,rfl,q4,q5⟩:=(chn_cons hc).1 h
  rcases List.mem_cons.1 hd with rfl|hd
  ·exact hy
  ·refine chn_sum_le (rdy_is q2) q5 d hd y ?_
   unfold hasB cAt stpC at *
   simp only[decide_eq_true_eq] at hy ⊢
   have hl:=(isF_iff.1 hc).1
   rw[List.getD_eq_getElem?_getD,List.getElem?_set]
   split
   ·rename_i e
    rw[if_pos (by omega),Option.getD_some,e]
    unfold cAt
    rw[Int.toNat_natCast]
    have:(c.getD y.1.toNat 0)=c.getD y.1.toNat 0:=rfl
    omega
   ·rw[← List.getD_eq_getElem?_getD];exact hy
theorem evt_have:∀ {R:List (List Int)} {c:List Int} (_:isF ps c=true) (_:chnF ps c R=true) {j:Nat} (hj:j<(evtG c R).length),∀m,j<m→∀a,(c :: R)[m]?=some a→hasB a (evtG c R)[j]=true
 | [],_,_,_,j,hj=>by simp [evtG] at hj
 | b :: R,c,hc,h,j,hj=>by
  intro m hm a ha
  obtain⟨q,q1,q2,rfl,q4,q5⟩:=(chn_cons hc).1 h
  have e:evtG c (stpC c q :: R)=(stepF c (stpC c q),cAt (stpC c q) (stepF c (stpC c q))) :: evtG (stpC c q) R:=rfl
  cases m with
  | zero=>omega
  | succ m =>
   have ha:(stpC c q :: R)[m]?=some a:=ha
   cases j with
   | zero =>
    simp only[e,List.getElem_cons_zero]
    refine chn_sum_le (rdy_is q2) q5 a (List.mem_of_getElem? ha) _ ?_
    rw[q4]
    unfold hasB
    exact decide_eq_true (Int.le_refl _)
   | succ j =>
    have hj2:j<(evtG (stpC c q) R).length:=by rw[e,List.length_cons] at hj;omega
    simp only[e,List.getElem_cons_succ]
    exact evt_have (rdy_is q2) q5 hj2 m (by omega) a ha
theorem syn_rnk (hv:validF ps=true) {R:List (List Int)} (h:chnF ps (zeroC ps) R=true) (hl:(zeroC ps :: R).getLast?=some (fullC ps)):RnkX ps (synL (evtG (zeroC ps) R)) (rkO (zeroC ps :: R)):=fun p hp i hi y hy=>by
 have hok:=syn_ok h
 have hev:=dirX_ev hv hok hp hi y hy
 have hR:∀c ∈ zeroC ps :: R,isF ps c=true:=fun c hc=>by
  rcases List.mem_cons.1 hc with rfl|hc
  ·exact zeroC_is ps
  ·obtain⟨j,hj,rfl⟩:=List.getElem_of_mem hc
   exact(chn_iff.1 h j hj).1
 have hy':=hy
 unfold dirX dirE at hy
 rw[List.mem_append,List.mem_append] at hy
 rcases hy with (hy|hy)|hy
 ·split at hy
  ·rw[List.mem_singleton] at hy
   subst hy
   refine rk_lt h hl hev (by show (0:Int)≤(p:Int);omega) (by intro e;rw[Prod.mk.injEq] at e;omega) fun c _ hc => ?_
   unfold hasB at *
   simp only[decide_eq_true_eq] at *
   omega
  ·cases hy
 ·split at hy
  ·rename_i hk
   rw[List.mem_singleton] at hy
   subst hy
   have hn:=nev_get hp
   rw[evq_get hp (by omega)] at hk hev ⊢
   obtain⟨_,_,m3⟩:=valid_parts hv
   refine rk_lt h hl hev (by show (0:Int)≤(p:Int);omega) ?_ fun c hc hx => ?_
   ·intro e
    obtain⟨hq,j,hj,hsd,g1,g2⟩:=recv_peer m3 hp (by omega) hk
    have hne:=peer_ne hv hp (by omega) hk
    have e1:=congrArg Prod.fst e
    rw[hsd] at e1
    have e1:((ps[p].evs[i].peer.toNat:Nat):Int)=p:=e1
    omega
   ·obtain⟨c1,c2,c3⟩:=isF_iff.1 (hR c hc)
    unfold hasB at hx ⊢
    simp only[decide_eq_true_eq] at hx ⊢
    exact closed_iff.1 c3 p hp i (by omega) hk hx
  ·cases hy
 ·obtain⟨s,h1,rfl⟩:=List.mem_map.1 hy
  obtain⟨h2,h3⟩:=List.mem_filter.1 h1
  have h3:=of_decide_eq_true h3
  obtain⟨hne,j,hj,rfl⟩:=synL_mem.1 h2
  have h3:(evtG (zeroC ps) R)[j+1]=((p:Int),(i:Int)+1):=h3
  rw[← h3]
  refine rk_lt h hl hev (by rw[h3];show (0:Int)≤(p:Int);omega) (fun e=>hne (congrArg Prod.fst e)) fun c hc hx => ?_
  obtain⟨m,hm,rfl⟩:=List.getElem_of_mem hc
  have hmg:(zeroC ps :: R)[m]?=some (zeroC ps :: R)[m]:=List.getElem?_eq_getElem hm
  by_cases hmj:m≤j+1
  ·rw[evt_lack (zeroC_is ps) h hj m hmj _ hmg] at hx;cases hx
  ·exact evt_have (zeroC_is ps) h (by omega) m (by omega) _ hmg
end
def excB (n:Nat) (S:Nat→List (List Int)) (c:Nat→Nat) (p:Nat):Bool:=(List.range n).any fun q=>decide (q ≠ p) && decide ((c p:Int)<(stOf S q (c q)).getD p 0)
theorem excB_iff {n:Nat} {S:Nat→List (List Int)} {c:Nat→Nat} {p:Nat} : excB n S c p=true↔∃q,q<n∧q ≠ p∧(c p:Int)<(stOf S q (c q)).getD p 0:=by
 unfold excB
 rw[List.any_eq_true]
 constructor
 ·rintro⟨q,h1,h2⟩
  rw[Bool.and_eq_true,decide_eq_true_eq,decide_eq_true_eq] at h2
  exact⟨q,List.mem_range.1 h1,h2.1,h2.2⟩
 ·rintro⟨q,h1,h2,h3⟩
  exact⟨q,List.mem_range.2 h1,by rw[decide_eq_true h2,decide_eq_true h3];rfl⟩
def UpX (ps:List Pr) (l:List Syn) (bad:Nat→Nat→Bool) (c:Nat→Nat):Prop:=∀d,HoldX ps l bad d→∀p,p<ps.length→c p≤d p
theorem UpX.stop {ps:List Pr} {l:List Syn} {bad:Nat→Nat→Bool} {S:Nat→List (List Int)} (hv:validF ps=true) (hl:SynOk ps l) (hG:GenX ps l S) (hW:WhlX ps S) {c:Nat→Nat} (hr:∀p,p<ps.length→c p≤nev ps p)
  (h:∀p,p<ps.length→bad p (c p)=true∧excB ps.length S c p=false):ctlB ps l bad=false:=by
 cases hc:ctlB ps l bad with
 | false=>rfl
 | true =>
  refine absurd ⟨c,ctl_stop hv hl hG hW hr (fun p hp=>(h p hp).1) fun p q hp hq hne => ?_⟩ (ctlB_true.1 hc)
  refine Int.not_lt.1 fun hlt => ?_
  have:=(h p hp).2
  rw[excB_iff.2 ⟨q,hq,hne,hlt⟩] at this;cases this
def EvX (ps:List Pr) (y:Eid):Prop:=0≤y.1∧y.1<ps.length∧1≤y.2∧y.2≤nev ps y.1.toNat
def DirR (ps:List Pr) (l:List Syn) (x y:Eid):Prop:=EvX ps y∧x ∈ dirX ps l y.1.toNat (y.2.toNat - 1)
abbrev RchX (ps:List Pr) (l:List Syn):Eid→Eid→Prop:=Relation.TransGen (DirR ps l)
theorem evx_form {ps:List Pr} {y:Eid} (h:EvX ps y):∃p i:Nat,p<ps.length∧i<nev ps p∧y=((p:Int),(i:Int)+1):=by
 obtain⟨a,b⟩:=y
 obtain⟨h1,h2,h3,h4⟩:=h
 refine⟨a.toNat,b.toNat - 1,?_,?_,?_⟩
 ·have h2:a<ps.length:=h2
  have h1:0≤a:=h1
  omega
 ·have h4:b≤nev ps a.toNat:=h4
  have h3:1≤b:=h3
  omega
 ·have h1:0≤a:=h1
  have h3:1≤b:=h3
  rw[Prod.mk.injEq];omega
theorem dir_mk {ps:List Pr} {l:List Syn} {p i:Nat} (hp:p<ps.length) (hi:i<nev ps p) {x:Eid} (hx:x ∈ dirX ps l p i):DirR ps l x ((p:Int),(i:Int)+1):=by
 have e:((i:Int)+1).toNat - 1=i:=by omega
 refine⟨⟨by show (0:Int)≤(p:Int);omega,by show (p:Int)<_;omega,by show (1:Int)≤(i:Int)+1;omega,by show (i:Int)+1≤nev ps ((p:Int)).toNat;rw[Int.toNat_natCast];omega⟩,?_⟩
 show x ∈ dirX ps l ((p:Int)).toNat (((i:Int)+1).toNat - 1)
 rw[Int.toNat_natCast,e];exact hx
theorem dir_iff {ps:List Pr} {l:List Syn} {p i:Nat} {x:Eid} (h:DirR ps l x ((p:Int),(i:Int)+1)):p<ps.length∧i<nev ps p∧x ∈ dirX ps l p i:=by
 obtain⟨⟨_,h2,_,h4⟩,h5⟩:=h
 have e:((i:Int)+1).toNat - 1=i:=by omega
 have h2:(p:Int)<ps.length:=h2
 have h4:(i:Int)+1≤nev ps ((p:Int)).toNat:=h4
 have h5:x ∈ dirX ps l ((p:Int)).toNat (((i:Int)+1).toNat - 1):=h5
 rw[Int.toNat_natCast] at h4 h5
 rw[e] at h5
 exact⟨by omega,by omega,h5⟩
theorem clo_dir {ps:List Pr} {l:List Syn} {d:Nat→Int} (h:CloX ps l d) {x y:Eid} (hd:DirR ps l x y) (hy:y.2≤d y.1.toNat):x.2≤d x.1.toNat:=by
 obtain⟨p,i,hp,hi,rfl⟩:=evx_form hd.1
 obtain⟨_,_,hx⟩:=dir_iff hd
 exact h p hp i hi (by simpa using hy) x hx
theorem clo_rch {ps:List Pr} {l:List Syn} {d:Nat→Int} (h:CloX ps l d) {x y:Eid} (hr:RchX ps l x y):y.2≤d y.1.toNat→x.2≤d x.1.toNat:=by
 induction hr with
 | single hd=>exact clo_dir h hd
 | tail _ hd ih=>exact fun hy=>ih (clo_dir h hd hy)
section
variable {ps:List Pr} {l:List Syn} {S:Nat→List (List Int)} (hv:validF ps=true) (hl:SynOk ps l) (hG:GenX ps l S)
include hv hl hG
theorem rch_entry {x:Eid} {p k:Nat} (hp:p<ps.length) (hk:k<(S p).length) (hr:RchX ps l x ((p:Int),(k:Int))):x.2≤(stOf S p k).getD x.1.toNat 0:=by
 have hst:=hG.st hv hl p k hk
 refine clo_rch hst.clo hr ?_
 show (k:Int)≤(stOf S p k).getD ((p:Int)).toNat 0
 rw[Int.toNat_natCast,hst.own hp];exact Int.le_refl _
open Classical in
theorem entry_rch {x:Eid} (hx:EvX ps x) {p i:Nat} (hp:p<ps.length) (hi:i<nev ps p) (hk:i+1<(S p).length) (h:x.2≤(stOf S p (i+1)).getD x.1.toNat 0):x=((p:Int),(i:Int)+1)∨RchX ps l x ((p:Int),(i:Int)+1):=by
 let y:Eid:=((p:Int),(i:Int)+1)
 let RE:Eid→Prop:=fun z=>z=y∨RchX ps l z y
 have hRE:∀z w,DirR ps l z w→RE w→RE z:=fun z w hd hw=>by
  rcases hw with rfl|hw
  ·exact .inr (.single hd)
  ·exact .inr (Relation.TransGen.trans (.single hd) hw)
 let P:Nat→Nat→Bool:=fun q j=>decide (RE ((q:Int),(j:Int)+1))
 have hdown:∀q,∀i j,i≤j→j<(if q<ps.length then nev ps q else 0)→P q j=true→P q i=true:=fun q i j hij=>by
  induction j with
  | zero=>intro _ h;have:i=0:=by omega
          subst this;exact h
  | succ j ih =>
   intro hj h
   by_cases e:i=j+1
   ·subst e;exact h
   ·refine ih (by omega) (by omega) ?_
    split at hj
    ·rename_i hq
     refine decide_eq_true (hRE _ _ (dir_mk (l:=l) hq hj ?_) (of_decide_eq_true h))
     unfold dirX dirE
     rw[if_pos (by omega)]
     simp
    ·omega
 let d:Nat→Int:=fun q=>(((List.range (if q<ps.length then nev ps q else 0)).filter (P q)).length:Nat)
 have hcnt:=fun q=>(down_count (P:=P q) (if q<ps.length then nev ps q else 0) (hdown q)).2
 have hle:=fun q=>(down_count (P:=P q) (if q<ps.length then nev ps q else 0) (hdown q)).1
 have hd:CloX ps l d:=fun a ha j hj hdj z hz=>by
  have hPa:P a j=true:=(hcnt a j (by rw[if_pos ha];exact hj)).1 (by have hdj:(j:Int)+1≤(((List.range (if a<ps.length then nev ps a else 0)).filter (P a)).length:Nat):=hdj;omega)
  have hRz:=hRE _ _ (dir_mk (l:=l) ha hj hz) (of_decide_eq_true hPa)
  obtain⟨z1,z2,z3,z4⟩:=dirX_ev hv hl ha hj z hz
  obtain⟨u,w,hu,hw,rfl⟩:=evx_form ⟨z1,z2,z3,z4⟩
  have:=(hcnt u w (by rw[if_pos hu];exact hw)).2 (decide_eq_true hRz)
  show (w:Int)+1≤d ((u:Int)).toNat
  rw[Int.toNat_natCast]
  show (w:Int)+1≤(((List.range (if u<ps.length then nev ps u else 0)).filter (P u)).length:Nat)
  omega
 have hst:=hG.st hv hl p (i+1) hk
 have hself:=(hcnt p i (by rw[if_pos hp];exact hi)).2 (decide_eq_true (.inl rfl))
 have h2:=hst.least d hd (fun j=>Int.natCast_nonneg _) (by
  show ((i+1:Nat):Int)≤(((List.range (if p<ps.length then nev ps p else 0)).filter (P p)).length:Nat)
  omega) x.1.toNat
 obtain⟨u,w,hu,hw,rfl⟩:=evx_form hx
 have h3:(w:Int)+1≤d u:=by
  have h:(w:Int)+1≤(stOf S p (i+1)).getD ((u:Int)).toNat 0:=h
  have h2:(stOf S p (i+1)).getD ((u:Int)).toNat 0≤d ((u:Int)).toNat:=h2
  rw[Int.toNat_natCast] at h h2
  exact Int.le_trans h h2
 have h3:(w:Int)+1≤(((List.range (if u<ps.length then nev ps u else 0)).filter (P u)).length:Nat):=h3
 have:=(hcnt u w (by rw[if_pos hu];exact hw)).1 (by omega)
 exact of_decide_eq_true this
theorem entry_less:∀p k,1≤k→k<(S p).length→∀y ∈ dirX ps l p (k - 1),(nedX S y).getD p 0<(k:Int):=by
 induction hG with
 | init=>intro p k h1 h2;simp at h2;omega
 | @step S r h hr ih =>
  intro p k h1 h2 y hy
  by_cases hold:k<(S p).length
  ·obtain⟨_,_,h3,_⟩:=h.entry p k h1 hold
   have e:nedX (upS S r (vecX ps l S r (S r).length)) y=nedX S y:=upS_old (h3 y hy)
   rw[e]
   exact ih p k h1 hold y hy
  ·rw[upS_len] at h2
   by_cases e:p=r
   ·subst e
    rw[if_pos rfl] at h2
    have hke:k=(S p).length:=by omega
    subst hke
    have e:nedX (upS S p (vecX ps l S p (S p).length)) y=nedX S y:=upS_old (hr.2.2 y hy)
    rw[e]
    exact(h.st hv hl y.1.toNat y.2.toNat (hr.2.2 y hy)).le p
   ·rw[if_neg e] at h2;omega
theorem whl_acyc (hW:WhlX ps S) {x:Eid} (h:RchX ps l x x):False:=by
 have key:∀ {x y:Eid},RchX ps l x y→∃z,DirR ps l z y∧(x=z∨RchX ps l x z):=fun {x y} h=>by
  cases h with
  | single h=>exact⟨x,h,.inl rfl⟩
  | tail h1 h2=>exact⟨_,h2,.inr h1⟩
 obtain⟨z,hz,h1⟩:=key h
 obtain⟨p,i,hp,hi,rfl⟩:=evx_form hz.1
 obtain⟨_,_,hm⟩:=dir_iff hz
 have hlen:=hW p hp
 have h2:=entry_less hv hl hG p (i+1) (by omega) (by omega) z (by rw[Nat.add_sub_cancel];exact hm)
 obtain⟨z1,z2,z3,z4⟩:=dirX_ev hv hl hp hi z hm
 obtain⟨u,w,hu,hw,rfl⟩:=evx_form ⟨z1,z2,z3,z4⟩
 have hlu:=hW u hu
 have e:nedX S ((u:Int),(w:Int)+1)=stOf S u (w+1):=by
  unfold nedX
  rw[Int.toNat_natCast]
  congr 1
 rw[e] at h2
 have h3:(i:Int)+1≤(stOf S u (w+1)).getD p 0:=by
  rcases h1 with h1|h1
  ·rw[Prod.mk.injEq] at h1
   have:p=u:=by omega
   subst this
   rw[(hG.st hv hl p (w+1) (by omega)).own hp]
   omega
  ·have:=rch_entry hv hl hG hu (k:=w+1) (by omega) (x:=((p:Int),(i:Int)+1)) (by rw[show ((w+1:Nat):Int)=(w:Int)+1 by omega];exact h1)
   simpa using this
 omega
end
def lftX (ps:List Pr) (S:Nat→List (List Int)):Nat:=totS ps.length fun p=>nev ps p+1 - (S p).length
theorem lft_up {ps:List Pr} {S:Nat→List (List Int)} {p:Nat} (hp:p<ps.length) (h:(S p).length≤nev ps p) (v:List Int):lftX ps S=lftX ps (upS S p v)+1:=by
 unfold lftX
 rw[totS_bump (c:=fun q=>nev ps q+1 - (upS S p v q).length) (p:=p) (fun q=>by
  simp only[upS_len]
  by_cases e:q=p
  ·subst e;simp;omega
  ·simp [e]) ps.length,if_pos hp]
theorem ex_ex (ps:List Pr) (l:List Syn):∃S,GenX ps l S∧∀p,¬RdyX ps l S p:=by
 suffices h:∀n S,GenX ps l S→lftX ps S≤n→∃S,GenX ps l S∧∀p,¬RdyX ps l S p from h _ _ .init (Nat.le_refl _)
 intro n
 induction n with
 | zero =>
  intro S hG h
  refine⟨S,hG,fun p hr => ?_⟩
  have:=lft_up hr.1 hr.2.1 (vecX ps l S p (S p).length)
  omega
 | succ n ih =>
  intro S hG h
  by_cases hx:∃p,RdyX ps l S p
  ·obtain⟨p,hr⟩:=hx
   have:=lft_up hr.1 hr.2.1 (vecX ps l S p (S p).length)
   exact ih _ (hG.step hr) (by omega)
  ·exact⟨S,hG,fun p hr=>hx ⟨p,hr⟩⟩
theorem exF_gen (ps:List Pr) (l:List Syn):GenX ps l (exF ps l):=by
 obtain⟨S,h1,h2⟩:=ex_ex ps l
 rw[exF_eq h1 h2];exact h1
theorem exF_stop (ps:List Pr) (l:List Syn):∀p,¬RdyX ps l (exF ps l) p:=by
 obtain⟨S,h1,h2⟩:=ex_ex ps l
 rw[exF_eq h1 h2];exact h2
theorem rnk_sub {ps:List Pr} {l l':List Syn} (h:∀s ∈ l',s ∈ l) {r:Eid→Nat} (hr:RnkX ps l r):RnkX ps l' r:=fun p hp i hi y hy=>by
 refine hr p hp i hi y ?_
 unfold dirX at hy ⊢
 rcases List.mem_append.1 hy with hy|hy
 ·exact List.mem_append_left _ hy
 ·obtain⟨s,h1,rfl⟩:=List.mem_map.1 hy
  obtain⟨h2,h3⟩:=List.mem_filter.1 h1
  exact List.mem_append_right _ (List.mem_map.2 ⟨s,List.mem_filter.2 ⟨h s h2,h3⟩,rfl⟩)
theorem synOk_nil (ps:List Pr):SynOk ps []:=fun s hs=>nomatch hs
theorem ex_nil_pt {ps:List Pr} (hv:validF ps=true) (hW:WhlX ps (exF ps [])) {p:Nat} (hp:p<ps.length) {i:Nat} (hi:i<nev ps p):stOf (exF ps []) p (i+1)=ptF ps p i:=by
 have hi':i<ps[p].evs.length:=by rw[nev_get hp] at hi;exact hi
 have hG:=exF_gen ps []
 have hst:=hG.st hv (synOk_nil ps) p (i+1) (by rw[hW p hp];omega)
 have hown:=hst.own hp
 have hpt:=pt_isN hv hp hi
 have hptl:(ptF ps p i).length=ps.length:=(isF_iff.1 hpt).1
 have hin:isF ps (stOf (exF ps []) p (i+1))=true:=by
  refine isF_of_CloX hst.len ((inRange_iff hst.len).2 fun q hq => ?_) hst.clo
  have h1:=hst.le q
  have h2:=hG.top q
  have h3:=hst.nn q
  have h4:=nev_get hq
  unfold cAt
  rw[Int.toNat_natCast]
  omega
 refine List.ext_getElem (by rw[hst.len,hptl]) fun q h1 h2 => ?_
 have hq:q<ps.length:=by rw[hst.len] at h1;exact h1
 have a1:=hst.least (fun j=>(ptF ps p i).getD j 0) (CloX.of_isF hv hpt) (fun j=>by
  by_cases hj:j<ps.length
  ·have:=((inRange_iff hptl).1 (isF_iff.1 hpt).2.1 j hj).1
   unfold cAt at this;rwa [Int.toNat_natCast] at this
  ·rw[List.getD_eq_getElem?_getD,List.getElem?_eq_none (by omega)];exact Int.le_refl _) (by
  have:=pt_has (ps:=ps) (p:=p) (i:=i) hv hp hi'
  unfold cAt at this;rw[Int.toNat_natCast] at this;omega) q
 have a2:=pt_least hv hp hin (show (i:Int)+1≤cAt _ p by unfold cAt;rw[Int.toNat_natCast,hown];omega) q hq
 unfold cAt at a2
 rw[Int.toNat_natCast] at a2
 have e1:(stOf (exF ps []) p (i+1)).getD q 0=(stOf (exF ps []) p (i+1))[q]:=by rw[List.getD_eq_getElem?_getD,List.getElem?_eq_getElem h1,Option.getD_some]
 have e2:(ptF ps p i).getD q 0=(ptF ps p i)[q]:=by rw[List.getD_eq_getElem?_getD,List.getElem?_eq_getElem h2,Option.getD_some]
 rw[e1,e2] at a1 a2
 exact Int.le_antisymm a1 a2
theorem nil_whl {ps:List Pr} (hv:validF ps=true):WhlX ps (exF ps []):=by
 obtain⟨R,h1,h2,h3⟩:=wlk_go hv (zeroC_is ps) (fullC_is hv) ((leq_at (isF_iff.1 (zeroC_is ps)).1 (isF_iff.1 (fullC_is hv)).1).2 fun q hq=>by rw[fullC_at hq];unfold zeroC cAt;rw[getD_zeros];omega)
 exact whl_of hv (synOk_nil ps) (rnk_sub (l':=[]) (fun s (hs:s ∈ [])=>absurd hs (List.not_mem_nil)) (syn_rnk hv h2 h3.1)) (exF_gen ps []) (exF_stop ps [])
section
variable {ps:List Pr} (hv:validF ps=true)
include hv
variable (hs:Sm ps)
include hs
end
end Go.AL
end
