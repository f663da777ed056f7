/- Texts of this claim's proof: WV28, WV29, WV30, WV26, WV34, WV32, WV35. No condition. -/
import Derived.Test.YtnpagaiphamfaaaGreatDoorM25
import Derived.Test.YtnpagaiphamfaaaGreatDoorM15
import Derived.Test.YtnpagaiphamfaaaGreatDoorM24
import Derived.Test.YtnpagaiphamfaaaGreatDoorM16
import Derived.Test.YtnpagaiphamfaaaGreatDoorM12
section
namespace Go.AL
open Go Go.RowKit
set_option maxRecDepth 4000
section
variable {ps:List Pr} (hv:validF ps=true) {s:Nat→Stp} (hT:TgB ps s)
include hv hT
theorem low_at {q:Nat} (hq:q<ps.length) (h0:0<(s q).2.1):∀j,j<ps.length→cAt (ptF ps q ((s q).2.1 - 1)) j≤((s j).2.2:Int):=fun j hj=>by
 have h1:=hT.el q hq
 have h2:=hT.el j hj
 have hi:(s q).2.1 - 1<nev ps q:=by omega
 have hci:=pt_isN hv hq hi
 have hcj:=cut_at hci hj
 by_cases e:q=j
 ·subst e
  rw[pt_self hv hq hi];omega
 ·refine Int.not_lt.1 fun hlt => ?_
  have hjn:(s j).2.2<nev ps j:=by omega
  have hb:=hT.bg q j hq hj e
  unfold bgN at hb
  rw[Bool.or_eq_true,Bool.or_eq_true,decide_eq_true_eq,decide_eq_true_eq,decide_eq_true_eq,h1.2.2,h2.2.2] at hb
  have hb:((s q).2.1:Int)≤cAt (ptF ps j (s j).2.2) q:=by
   rcases hb with hb|hb|hb
   ·omega
   ·omega
   ·exact hb
  have g1:=pt_trans hv hq hj (i:=(s q).2.1 - 1) hjn (by omega)
  have g2:=pt_trans hv hj hq (i:=(s j).2.2) hi (by omega)
  have l1:=(isF_iff.1 hci).1
  have l2:=(isF_iff.1 (pt_isN hv hj hjn)).1
  obtain⟨a1,a2⟩:=leq_sum ((leq_at l1 l2).2 g1)
  obtain⟨b1,_⟩:=leq_sum ((leq_at l2 l1).2 g2)
  have heq:=a2 (by omega)
  have hr:=(irr_pt hv hj (i:=(s j).2.2) (by rw[nev_get hj] at hjn;exact hjn)).2.2
  rw[← heq] at hr
  exact e (rem_pt hv hq (by rw[nev_get hq] at hi;exact hi) hj hr).1.symm
theorem low_ex:∃d,isF ps d=true∧InB ps s d:=by
 have key:∀k,k≤ps.length→∃d,isF ps d=true∧(∀p,p<k→((s p).2.1:Int)≤cAt d p)∧∀p,p<ps.length→cAt d p≤((s p).2.2:Int):=fun k=>by
  induction k with
  | zero=>exact fun _=>⟨zeroC ps,zeroC_is ps,fun p hp=>absurd hp (Nat.not_lt_zero p),fun p hp=>by unfold zeroC;rw[cAt_nat (by simpa using hp)];simp⟩
  | succ k ih =>
   intro hk
   obtain⟨d,h1,h2,h3⟩:=ih (by omega)
   by_cases h0:(s k).2.1=0
   ·refine⟨d,h1,fun p hp => ?_,h3⟩
    by_cases e:p=k
    ·subst e;have:=cut_at h1 (p:=p) (by omega);omega
    ·exact h2 p (by omega)
   ·have hel:=hT.el k (by omega)
    have hx:=pt_isN hv (show k<ps.length by omega) (show (s k).2.1 - 1<nev ps k by omega)
    have hlo:=low_at hv hT (show k<ps.length by omega) (by omega)
    have hse:=pt_self hv (show k<ps.length by omega) (show (s k).2.1 - 1<nev ps k by omega)
    have l1:=(isF_iff.1 h1).1
    have l2:=(isF_iff.1 hx).1
    generalize ptF ps k ((s k).2.1 - 1)=x at *
    refine⟨joinL d x,(isF_given hv).1 (join_given ((isF_given hv).2 h1) ((isF_given hv).2 hx)),fun p hp => ?_,fun p hp => ?_⟩
    ·rw[join_cAt (by omega) (by omega)]
     by_cases e:p=k
     ·subst e;split <;> omega
     ·have:=h2 p (by omega)
      split <;> omega
    ·rw[join_cAt (by omega) (by omega)]
     have:=h3 p hp
     have:=hlo p hp
     split <;> omega
 obtain⟨d,h1,h2,h3⟩:=key ps.length (Nat.le_refl _)
 exact⟨d,h1,fun p hp=>⟨h2 p hp,h3 p hp⟩⟩
end
def frmL (n:Nat) (s:Nat→Stp):List Int:=(List.range n).map fun p=>((s p).2.1:Int)
theorem frm_len (n:Nat) (s:Nat→Stp):(frmL n s).length=n:=by simp [frmL]
theorem frm_at {n:Nat} {s:Nat→Stp} {p:Nat} (hp:p<n):cAt (frmL n s) p=(s p).2.1:=by
 rw[cAt_nat (by rw[frm_len];exact hp)];simp [frmL]
theorem frm_in {ps:List Pr} {s:Nat→Stp} (h:∀p,p<ps.length→(s p).2.1≤nev ps p):inRangeF ps (frmL ps.length s)=true:=by
 refine(inRange_iff (frm_len _ _)).2 fun p hp => ?_
 have:=h p hp
 rw[nev_get hp] at this
 rw[frm_at hp];omega
theorem close_is {ps:List Pr} (hv:validF ps=true) {c:List Int} (hc:c.length=ps.length) (hr:inRangeF ps c=true):isF ps (closeF ps c)=true :=
 isF_iff.2 ⟨(closeF_ok hv hc hr).1,(closeF_ok hv hc hr).2.1,closeF_closed hv hc hr⟩
theorem low_close {ps:List Pr} (hv:validF ps=true) {s:Nat→Stp} (hf:∀p,p<ps.length→(s p).2.1≤nev ps p) {d:List Int} (hd:isF ps d=true) (hI:InB ps s d) :
  (isF ps (closeF ps (frmL ps.length s))=true∧InB ps s (closeF ps (frmL ps.length s)))∧∀p,p<ps.length→cAt (closeF ps (frmL ps.length s)) p≤cAt d p:=by
 have hr:=frm_in hf
 have hl:=frm_len ps.length s
 have h1:=closeF_ge hv hl hr
 have h2:=closeF_least hv (isF_iff.1 hd).1 (isF_iff.1 hd).2.2 hl hr fun p hp=>by rw[frm_at hp];exact(hI p hp).1
 refine⟨⟨close_is hv hl hr,fun p hp=>⟨?_,Int.le_trans (h2 p hp) (hI p hp).2⟩⟩,h2⟩
 have:=h1 p hp
 rw[frm_at hp] at this
 exact this
theorem ord_head {l:List (List Int)} (ho:l.Pairwise ordL) {x:List Int} (hx:x ∈ l) (hle:∀y ∈ l,leqF x y=true):l.head?=some x:=by
 cases l with
 | nil=>cases hx
 | cons a l =>
  rw[List.head?_cons]
  rcases List.mem_cons.1 hx with h|h
  ·rw[h]
  ·exfalso
   have h1:=List.rel_of_pairwise_cons ho h
   obtain⟨g1,g2⟩:=leq_sum (hle a (by simp))
   rcases h1 with h1|⟨h1,h2⟩
   ·omega
   ·have:=g2 h1.symm
    subst this
    exact ordL_irr (.inr ⟨h1,h2⟩)
theorem box_sat {ps:List Pr} {ts:List Pd} (hC:conF ps ts=0) {a:Nat→Nat} (ha:TgtS ps (rowsOf ps ts) a) {d:List Int} (hd:isF ps d=true) (hI:InB ps (fun p=>fSp (rowsOf ps ts) p (a p)) d):satG ps (elimOf ps ts) d=true:=by
 have hok:=rowsOf_ok (ps:=ps) (ts:=ts) (conF_inv hC).2.1
 refine satG_iff.2 ⟨(isF_iff.1 hd).1,(isF_iff.1 hd).2.1,(isF_iff.1 hd).2.2,fun p hp => ?_⟩
 have h1:a p<(rowsOf ps ts p).length:=ha.1 p hp
 have h2:((fSp (rowsOf ps ts) p (a p)).2.1:Int)≤cAt d p∧cAt d p≤((fSp (rowsOf ps ts) p (a p)).2.2:Int):=hI p hp
 rw[fSp_eq h1] at h2
 obtain⟨_,_,_,e4⟩:=(hok p hp).el _ (List.getElem_mem h1)
 exact e4 _ (by omega) (by omega)
def outB (l:List Spn3) (c:List Int):Bool:=l.any fun s=>decide (cAt c s.1<s.2.1) || decide (s.2.2<cAt c s.1)
def inBx (l:List Spn3) (c:List Int):Bool:=(List.range c.length).all fun p => !(decide (cAt c p<(l.getD p (0,0,0)).2.1) || decide ((l.getD p (0,0,0)).2.2<cAt c p))
noncomputable def boxF (ps:List Pr) (l:List Spn3):List (List Int):=(cutsF ps).filter (inBx l)
theorem each_at {ps:List Pr} {l:List Spn3} (he:eachB ps l=true):l.length=ps.length∧∀i (hi:i<l.length),l[i].1=i:=by
 unfold eachB at he
 rw[Bool.and_eq_true,decide_eq_true_eq,List.all_eq_true] at he
 refine⟨he.1,fun i hi => ?_⟩
 have:=of_decide_eq_true (he.2 i (List.mem_range.2 hi))
 rw[List.getD_eq_getElem?_getD,List.getElem?_eq_getElem hi,Option.getD_some] at this
 exact this
theorem getD_sp {l:List Spn3} {i:Nat} (hi:i<l.length):l.getD i (0,0,0)=l[i]:=by
 rw[List.getD_eq_getElem?_getD,List.getElem?_eq_getElem hi,Option.getD_some]
theorem out_in {ps:List Pr} {l:List Spn3} (he:eachB ps l=true) {c:List Int} (hc:c.length=ps.length):outB l c = !inBx l c:=by
 obtain⟨h1,h2⟩:=each_at he
 cases h:inBx l c with
 | true =>
  unfold inBx at h
  rw[List.all_eq_true] at h
  show outB l c=false
  unfold outB
  rw[List.any_eq_false]
  intro s hs
  obtain⟨i,hi,rfl⟩:=List.mem_iff_getElem.1 hs
  have:=h i (List.mem_range.2 (by omega))
  rw[getD_sp hi] at this
  rw[h2 i hi]
  simpa using this
 | false =>
  show outB l c=true
  unfold inBx at h
  rw[List.all_eq_false] at h
  obtain⟨i,hi,h⟩:=h
  have hi:=List.mem_range.1 hi
  have hil:i<l.length:=by omega
  unfold outB
  rw[List.any_eq_true]
  refine⟨l[i],List.getElem_mem hil,?_⟩
  rw[getD_sp hil] at h
  rw[h2 i hil]
  cases hx:decide (cAt c (i:Int)<l[i].2.1) || decide (l[i].2.2<cAt c (i:Int)) with
  | true=>rfl
  | false=>rw[hx] at h;exact absurd rfl h
section
variable {ps:List Pr} {l:List Spn3} (hg:gvnE ps l=0) (he:eachB ps l=true)
include hg he
theorem sp_at {p:Nat} (hp:p<ps.length):((spN (l.getD p (0,0,0))).2.1:Int)=(l.getD p (0,0,0)).2.1∧((spN (l.getD p (0,0,0))).2.2:Int)=(l.getD p (0,0,0)).2.2 ∧
  (spN (l.getD p (0,0,0))).2.1≤(spN (l.getD p (0,0,0))).2.2∧(spN (l.getD p (0,0,0))).2.2≤nev ps p∧(spN (l.getD p (0,0,0))).1=p:=by
 obtain⟨h1,h2⟩:=each_at he
 obtain⟨_,_,hb,_⟩:=gvn_zero hg
 have hpl:p<l.length:=by omega
 rw[getD_sp hpl]
 have hb:=hb _ (List.getElem_mem hpl)
 have h2:=h2 p hpl
 generalize l[p]=s at *
 obtain⟨a,f,t⟩:=s
 have h2:a=p:=h2
 subst h2
 unfold badSp at hb
 simp only[Bool.or_eq_false_iff,decide_eq_false_iff_not,Int.toNat_natCast] at hb
 obtain⟨g1,g2,g3,g4,g5⟩:=hb
 show ((f.toNat:Nat):Int)=f∧((t.toNat:Nat):Int)=t∧f.toNat≤t.toNat∧t.toNat≤nev ps p∧((p:Int)).toNat=p
 omega
theorem in_box {c:List Int} (hc:c.length=ps.length):inBx l c=true↔InB ps (fun p=>spN (l.getD p (0,0,0))) c:=by
 unfold inBx InB
 rw[List.all_eq_true]
 constructor
 ·intro h p hp
  obtain⟨e1,e2,_⟩:=sp_at hg he hp
  have:=h p (List.mem_range.2 (by omega))
  rw[Bool.not_eq_true',Bool.or_eq_false_iff,decide_eq_false_iff_not,decide_eq_false_iff_not] at this
  rw[e1,e2];omega
 ·intro h p hp
  have hp:p<ps.length:=by rw[List.mem_range] at hp;omega
  obtain⟨e1,e2,_⟩:=sp_at hg he hp
  have:=h p hp
  rw[e1,e2] at this
  rw[Bool.not_eq_true',Bool.or_eq_false_iff,decide_eq_false_iff_not,decide_eq_false_iff_not];omega
theorem tgb_spans (ho:ovF ps (l.map spN)=true):TgB ps fun p=>spN (l.getD p (0,0,0)):=by
 obtain⟨h1,h2⟩:=each_at he
 refine⟨fun p hp=>(sp_at hg he hp).2.2,fun p q hp hq hpq => ?_⟩
 unfold ovF at ho
 have hn:clI ps (fun _=>true) (l.map spN)=none:=by simpa using ho
 have:=clI_none hn p q (by rw[List.length_map];omega) (by rw[List.length_map];omega) hpq rfl
 rw[List.getElem_map,List.getElem_map] at this
 show bgN ps (spN (l.getD p _)) (spN (l.getD q _))=true
 rw[getD_sp (by omega),getD_sp (by omega)]
 exact this
theorem box_head (ho:ovF ps (l.map spN)=true):(boxF ps l).head?=some (closeF ps (frmL ps.length fun p=>spN (l.getD p (0,0,0)))):=by
 have hv:=(gvn_zero hg).1
 have hT:=tgb_spans hg he ho
 obtain⟨d,hd,hI⟩:=low_ex hv hT
 have hfr:∀p,p<ps.length→(spN (l.getD p (0,0,0))).2.1≤nev ps p:=fun p hp=>by have:=hT.el p hp;omega
 obtain⟨⟨a1,a2⟩,_⟩:=low_close hv hfr hd hI
 have hl:=(isF_iff.1 a1).1
 refine ord_head ((cuts_ord hv).sublist List.filter_sublist) ?_ fun y hy => ?_
 ·exact List.mem_filter.2 ⟨(mem_cutsF hv).2 a1,(in_box hg he hl).2 a2⟩
 ·obtain⟨y1,y2⟩:=List.mem_filter.1 hy
  have y1:=(mem_cutsF hv).1 y1
  have yl:=(isF_iff.1 y1).1
  exact(leq_at hl yl).2 (low_close hv hfr y1 ((in_box hg he yl).1 y2)).2
end
theorem chc_given {ps:List Pr} {ts:List Pd} (hC:conF ps ts=0) {a:Nat→Nat} (ha:LeastS ps (rowsOf ps ts) a) :
  gvnE ps ((chcL ps.length (rowsOf ps ts) a).map stpI)=0∧eachB ps ((chcL ps.length (rowsOf ps ts) a).map stpI)=true∧ovF ps (((chcL ps.length (rowsOf ps ts) a).map stpI).map spN)=true:=by
 have hv:=(conF_inv hC).1
 have h:=chk_tight hC ha
 unfold chk38 at h
 rw[if_pos hC,if_pos rfl,Bool.and_eq_true,Bool.and_eq_true,Bool.and_eq_true,Bool.and_eq_true,decide_eq_true_eq] at h
 exact⟨h.2.1.1,h.1.2,h.2.1.2⟩
theorem barrier38 {ps:List Pr} {ts:List Pd} (hC:conF ps ts=0) {l:List Spn3} (hg:gvnE ps l=0) (he:eachB ps l=true) (ho:ovF ps (l.map spN)=true):opnV ps (badB (boxF ps l)) (zeroC ps)=false:=by
 have hv:=(conF_inv hC).1
 refine tgb_blocks hv (tgb_spans hg he ho) fun c hc hI => ?_
 exact decide_eq_true (List.mem_filter.2 ⟨(mem_cutsF hv).2 hc,(in_box hg he (isF_iff.1 hc).1).2 hI⟩)
theorem box_is {ps:List Pr} {l:List Spn3} (hv:validF ps=true):∀c ∈ boxF ps l,isF ps c=true:=fun _ hc=>(mem_cutsF hv).1 (List.mem_filter.1 hc).1
theorem box_good {ps:List Pr} {ts:List Pd} (hC:conF ps ts=0) {a:Nat→Nat} (ha:LeastS ps (rowsOf ps ts) a):∀c ∈ boxF ps ((chcL ps.length (rowsOf ps ts) a).map stpI),satG ps (elimOf ps ts) c=true:=fun c hc=>by
 have hv:=(conF_inv hC).1
 obtain⟨g1,g2,_⟩:=chc_given hC ha
 have hci:=box_is hv c hc
 have hI:=(in_box g1 g2 (isF_iff.1 hci).1).1 (List.mem_filter.1 hc).2
 refine box_sat hC ha.1 hci fun p hp => ?_
 have h:=hI p hp
 have hx:spN (((chcL ps.length (rowsOf ps ts) a).map stpI).getD p (0,0,0))=fSp (rowsOf ps ts) p (a p):=by
  rw[getD_sp (by rw[List.length_map,chcL_len];exact hp),List.getElem_map,chcL_get,spN_I]
 have h:((spN (((chcL ps.length (rowsOf ps ts) a).map stpI).getD p (0,0,0))).2.1:Int)≤cAt c p∧cAt c p≤((spN (((chcL ps.length (rowsOf ps ts) a).map stpI).getD p (0,0,0))).2.2:Int):=h
 rw[hx] at h
 exact h
theorem guardN {ps:List Pr} {ts:List Pd} {m:Int} (hf:fw38 ps m=true) (hsb:sm38 ts=true):∃e:Int,PC Proofs.Tryz.prog 15 [aTr ps,.sl 6 (ts.map aPd)] (ai e)∧(e=0→Sm ps∧conF ps ts=0):=by
 have hvd:=vd38 hf
 obtain⟨htl12,hz⟩:=sm38_spec hsb
 cases hv:validF ps with
 | false =>
  have hrv:=hvd.rval
  rw[hv] at hrv
  exact⟨1,ref37_Fault_bad hrv ts (by omega),fun h=>by cases h⟩
 | true=>exact⟨_,ref37_Fault ps (hvd.sm hv) ts hz (by omega),fun h=>⟨hvd.sm hv,h⟩⟩
theorem dfn_tight {ps:List Pr} (hs:Sm ps) (ts:List Pd) (hz:∀t ∈ ts,szF t≤1000000) (htl:ts.length≤1000000) (hC:conF ps ts=0) {a:Nat→Nat} (ha:LeastS ps (rowsOf ps ts) a) :
  PC Proofs.Tryz.prog 16 [aTr ps,.sl 6 (ts.map aPd)] (.tup [aAns ⟨2,true,4,[],[],[],(chcL ps.length (rowsOf ps ts) a).map stpI,0⟩,ai 0]):=by
 refine(strong_Definitely ps hs ts hz htl).mono fun r L ⟨e,h⟩=>⟨?_,e⟩
 rcases h with ⟨h,_⟩|⟨_,a',h1,h2⟩|⟨_,h,_⟩
 ·exact absurd hC h
 ·rw[h2,chcL_congr fun p hp=>least_unique h1 ha hp]
 ·exact absurd ⟨a,ha.1⟩ h
theorem dfn_none {ps:List Pr} (hs:Sm ps) (ts:List Pd) (hz:∀t ∈ ts,szF t≤1000000) (htl:ts.length≤1000000) (hC:conF ps ts=0) (hT:¬ ∃t,TgtS ps (rowsOf ps ts) t) :
  MCalls Proofs.Tryz.prog 16 [aTr ps,.sl 6 (ts.map aPd)] [] (fun r L=>L=[]∧∃O,(DodgeR ps (elimOf ps ts).ok O∧O.length≤513)∧r = .tup [aAns ⟨2,false,3,[],[],O,[],0⟩,ai 0]):=by
 refine(strong_Definitely ps hs ts hz htl).mono fun r L ⟨e,h⟩=>⟨e,?_⟩
 rcases h with ⟨h,_⟩|⟨_,a',h1,_⟩|⟨_,_,O,h1,h2,h3⟩
 ·exact absurd hC h
 ·exact absurd ⟨a',h1.1⟩ hT
 ·exact⟨O,⟨h1,h2⟩,h3⟩
theorem strong_Box11 (c:List Int) (s:Spn3) (h0:0≤s.1) (h1:s.1<c.length):PC Proofs.Tryz.prog 38 [aSp s,.rp 1 [aInts c] 0 0] (ab (decide (cAt c s.1<s.2.1) || decide (s.2.2<cAt c s.1))):=by
 obtain⟨p,f,t⟩:=s
 have h0:0≤p:=h0
 have h1:p<c.length:=h1
 have hg:=getD_cAt (c:=c) h0 h1
 have e1:aSp (p,f,t) = .agg [ai p,ai f,ai t]:=rfl
 have e2:aInts c = .sl 1 (c.map ai):=rfl
 show PC _ _ _ (ab (decide (cAt c p<f) || decide (t<cAt c p)))
 rw[e1,e2]
 generalize cAt c p=x at *
 refine PC.enter 22 [.tmp 3] [2] Proofs.Tryz.func38 rfl rfl rfl rfl rfl (by simp) (AWp.of ?_);simp only[go_sem]
 refine Wk ?_
 repeat(first|(with_reducible refine AWp.seq ?_)|(with_reducible refine AWp.block ?_))
 refine AWp.read mixed [0,1,2,3,4,5,6,7,8,9,10,11,12,13,14,15,16,17,18] (by kernel_rfl) ?_;simp only[go_sem,hg]
 refine Sd ?_
 refine Wk ?_
 refine ret_eq ?_;simp only[go_sem]
theorem strong_Box1 (ps:List Pr) (hps:ps.length≤1000000) (l:List Spn3) (he:eachB ps l=true) (c:List Int) (hc:c.length=ps.length):PC Proofs.Tryz.prog 36 [aInts c,.rp 1 [aSps l] 0 0] (ab (outB l c)):=by
 obtain⟨h1,h2⟩:=each_at he
 have h:=spans_containsFuncB l (by omega) (.clo 38 [.rp 1 [aInts c] 0 0]) rfl (fun s=>decide (cAt c s.1<s.2.1) || decide (s.2.2<cAt c s.1)) fun s hs=>by
  obtain⟨i,hi,rfl⟩:=List.mem_iff_getElem.1 hs
  have:=h2 i hi
  exact(strong_Box11 c l[i] (by omega) (by omega)).clo
 have e:(l.any fun s=>decide (cAt c s.1<s.2.1) || decide (s.2.2<cAt c s.1))=outB l c:=rfl
 rw[e] at h
 have hR:aSps l = .sl 3 (l.map aSp):=rfl
 rw[hR] at *
 generalize outB l c=o at *
 refine PC.enter 7 [.tmp 3] [2] Proofs.Tryz.func36 rfl rfl rfl rfl rfl (by simp) (AWp.of ?_);simp only[go_sem]
 refine Wk ?_
 refine Sd ?_
 refine(h).val.use ?_;simp only[go_sem]
 refine Wk ?_
 refine ret_eq ?_;simp only[go_sem]
noncomputable def boxE (ps:List Pr) (l:List Spn3):Int:=if gvnE ps l ≠ 0 then gvnE ps l else if eachB ps l=true then (if ovF ps (l.map spN)=true then lstE ps else 7) else 3
noncomputable def aBx38 (ps:List Pr) (l:List Spn3):AV:=.tup [aRows (if boxE ps l=0 then boxF ps l else []),ai (boxE ps l)]
theorem box_zero {ps:List Pr} {l:List Spn3} : boxE ps l=0↔gvnE ps l=0∧eachB ps l=true∧ovF ps (l.map spN)=true∧lstE ps=0:=by
 unfold boxE
 by_cases h:gvnE ps l=0
 ·rw[if_neg (by simpa using h)]
  cases h2:eachB ps l with
  | false=>simp
  | true =>
   cases h3:ovF ps (l.map spN) with
   | false=>simp
   | true=>simp [h]
 ·rw[if_pos h]
  exact⟨fun g=>absurd g h,fun g=>absurd g.1 h⟩
theorem strong_Box (ps:List Pr) (hs:Sm ps) (l:List Spn3) (hl:l.length≤9223372036854775806):PC Proofs.Tryz.prog 8 [aTr ps,aSps l] (aBx38 ps l):=by
 have h1:=strong_Overlap ps hs l hl
 have h2:=strong_ascending ps hs.procs l hl
 have hR:aSps l = .sl 3 (l.map aSp):=rfl
 have haR:∀x:List (List Int),aRows x = .sl 1 (x.map aInts):=fun _=>rfl
 have hB:aBx38 ps l = .tup [aRows (if boxE ps l=0 then boxF ps l else []),ai (boxE ps l)]:=rfl
 have hE:boxE ps l=if gvnE ps l ≠ 0 then gvnE ps l else if eachB ps l=true then (if ovF ps (l.map spN)=true then lstE ps else 7) else 3:=rfl
 rw[hB]
 by_cases hg:gvnE ps l=0
 ·rw[if_neg (by simpa using hg)] at hE
  rw[hg,decide_eq_true rfl,Bool.true_and] at h1
  cases he:eachB ps l with
  | false =>
   rw[he] at h2 hE
   rw[if_neg (by decide)] at hE
   rw[hE,if_neg (by decide)]
   generalize ovF ps (l.map spN)=O at *
   rw[hR] at *
   refine PC.enter 38 [.tmp 4,.tmp 5] [2,3] Proofs.Tryz.func8 rfl rfl rfl rfl rfl (by simp) (AWp.of ?_);simp only[go_sem]
   refine Wk ?_
   refine Sd ?_
   refine(h1).val.use ?_;simp only[go_sem]
   repeat(first|((with_reducible refine AWp.ofC ?_ ?_);exact rfl;simp only[go_sem])|((with_reducible refine an ?_ ?_);exact Au))
   refine Sd ?_
   refine(h2).val.use ?_;simp only[go_sem]
   refine Wk ?_
   refine ret_view [] ?_;simp only[go_sem]
   exact .mkTup (Vws.cons (.nil 1) (Vws.refl _))
  | true =>
   rw[he] at h2 hE
   rw[if_pos rfl] at hE
   cases ho:ovF ps (l.map spN) with
   | false =>
    rw[ho] at h1 hE
    rw[if_neg (by decide)] at hE
    rw[hE,if_neg (by decide)]
    rw[hR] at *
    refine PC.enter 38 [.tmp 4,.tmp 5] [2,3] Proofs.Tryz.func8 rfl rfl rfl rfl rfl (by simp) (AWp.of ?_);simp only[go_sem]
    refine Wk ?_
    refine Sd ?_
    refine(h1).val.use ?_;simp only[go_sem]
    repeat(first|((with_reducible refine AWp.ofC ?_ ?_);exact rfl;simp only[go_sem])|((with_reducible refine an ?_ ?_);exact Au))
    refine Sd ?_
    refine(h2).val.use ?_;simp only[go_sem]
    refine Wk ?_
    refine ret_view [] ?_;simp only[go_sem]
    exact .mkTup (Vws.cons (.nil 1) (Vws.refl _))
   | true =>
    rw[ho] at h1 hE
    rw[if_pos rfl] at hE
    by_cases hz:lstE ps=0
    ·obtain⟨hv,h5⟩:=lst_zero.1 hz
     have h3:=cuts_listO ps hs
     have hL:lstF ps=cutsF ps:=by unfold lstF;rw[if_pos hz]
     rw[hL,hz] at h3
     rw[hE,if_pos hz,hz]
     have hgc:∀c ∈ cutsF ps,PV Proofs.Tryz.prog (.clo 36 [.rp 1 [aSps l] 0 0]) [aInts c] (ab (outB l c)):=fun c hc=>(strong_Box1 ps hs.procs l he c (isF_iff.1 ((mem_cutsF hv).1 hc)).1).clo
     have hfl:(cutsF ps).filter (fun c => !outB l c)=boxF ps l:=by
      unfold boxF
      refine List.filter_congr fun c hc => ?_
      rw[out_in he (isF_iff.1 ((mem_cutsF hv).1 hc)).1,Bool.not_not]
     have hdel:=fun (bb cap:Nat) (ws:List AV)=>rows_delete bb cap (cutsF ps) ws (by omega) _ rfl (outB l) hgc
     rw[hfl] at hdel
     have hdn:=rows_delete_nil (.clo 36 [.rp 1 [aSps l] 0 0]) rfl
     have hfn:cutsF ps=[]→boxF ps l=[]:=fun h=>by unfold boxF;rw[h];rfl
     have h3':MCalls Proofs.Tryz.prog 34 [aTr ps] [] fun r L=>∃v,r = .tup [v,ai 0]∧OwnS (cutsF ps) v L:=by
      refine MCalls.enter' 8 [.tmp 2,.tmp 3] [1] Proofs.Tryz.func34 rfl rfl rfl rfl rfl (by simp) (AWp.of ?_);simp only[go_sem]
      refine Wk ?_
      refine h3.val.mono ?_
      rintro r L ⟨v,rfl,hO⟩
      have hfo:=hO.fo
      simp only[go_sem,hfo]
      refine W1 hfo ?_
      refine ret_own ?_
      simp only[go_sem]
      exact⟨v,rfl,hO⟩
     clear hgc hfl h3
     generalize boxF ps l=fs at *
     generalize cutsF ps=cs at *
     rw[hR] at *
     refine PC.enter 38 [.tmp 4,.tmp 5] [2,3] Proofs.Tryz.func8 rfl rfl rfl rfl rfl (by simp) (AWp.of ?_);simp only[go_sem]
     refine Wk ?_
     refine Sd ?_
     refine(h1).val.use ?_;simp only[go_sem]
     repeat(first|((with_reducible refine AWp.ofC ?_ ?_);exact rfl;simp only[go_sem])|((with_reducible refine an ?_ ?_);exact Au))
     refine Sd ?_
     refine(h2).val.use ?_;simp only[go_sem]
     refine Wk ?_
     refine h3'.val.mono ?_
     rintro r L ⟨v,rfl,hO⟩
     rcases hO with ⟨e0,rfl,rfl⟩|⟨bb,cap,ws,rfl,rfl⟩
     ·rw[hfn e0]
      simp only[go_sem]
      repeat(first|((with_reducible refine AWp.ofC ?_ ?_);exact rfl;simp only[go_sem])|((with_reducible refine an ?_ ?_);exact Au))
      refine Sd ?_
      refine(hdn).val.use ?_;simp only[go_sem]
      refine Wk ?_
      refine ret_view [] ?_;simp only[go_sem]
      exact .mkTup (Vws.cons (.nil 1) (Vws.refl _))
     ·simp only[go_sem]
      repeat(first|((with_reducible refine AWp.ofC ?_ ?_);exact rfl;simp only[go_sem])|((with_reducible refine an ?_ ?_);exact Au))
      refine(hdel bb cap ws).val.mono ?_
      rintro r L hO
      rcases hO with ⟨e0,rfl,rfl⟩|⟨bb,cap,ws,rfl,rfl⟩
      ·simp only[go_sem]
       refine Wk ?_
       refine ret_view [] ?_;simp only[go_sem]
       rw[e0]
       exact .mkTup (Vws.cons (.nil 1) (Vws.refl _))
      ·simp only[go_sem]
       refine Wk ?_
       refine ret_view [true] ?_;simp only[go_sem]
       exact .mkTup (Vws.cons (Vw.front (if_pos rfl) (by rw[List.length_map])) (Vws.refl _))
    ·rw[hE,if_neg hz]
     have h3:=cuts_List ps hs
     unfold aLst at h3
     generalize lstE ps=e at *
     generalize lstF ps=cs at *
     rw[haR] at h3
     rw[hR] at *
     refine PC.enter 38 [.tmp 4,.tmp 5] [2,3] Proofs.Tryz.func8 rfl rfl rfl rfl rfl (by simp) (AWp.of ?_);simp only[go_sem]
     refine Wk ?_
     refine Sd ?_
     refine(h1).val.use ?_;simp only[go_sem]
     repeat(first|((with_reducible refine AWp.ofC ?_ ?_);exact rfl;simp only[go_sem])|((with_reducible refine an ?_ ?_);exact Au))
     refine Sd ?_
     refine(h2).val.use ?_;simp only[go_sem]
     refine Wk ?_
     refine Sd ?_
     refine(h3).val.use ?_;simp only[go_sem]
     refine W1 hz ?_
     refine ret_view [] ?_;simp only[go_sem]
     exact .mkTup (Vws.cons (.nil 1) (Vws.refl _))
 ·rw[if_pos hg] at hE
  rw[hE,if_neg hg]
  rw[decide_eq_false hg,Bool.false_and] at h1
  generalize gvnE ps l=e at *
  rw[hR] at *
  refine PC.enter 38 [.tmp 4,.tmp 5] [2,3] Proofs.Tryz.func8 rfl rfl rfl rfl rfl (by simp) (AWp.of ?_);simp only[go_sem]
  refine Wk ?_
  refine Sd ?_
  refine(h1).val.use ?_;simp only[go_sem]
  refine W1 hg ?_
  refine ret_view [] ?_;simp only[go_sem]
  exact .mkTup (Vws.cons (.nil 1) (Vws.refl _))
theorem from_frm {ps:List Pr} {l:List Spn3} (hg:gvnE ps l=0) (he:eachB ps l=true):l.map (fun s=>s.2.1)=frmL ps.length fun p=>spN (l.getD p (0,0,0)):=by
 obtain⟨h1,h2⟩:=each_at he
 refine List.ext_getElem (by rw[List.length_map,frm_len];exact h1) fun i hi hj => ?_
 rw[List.length_map] at hi
 have hp:i<ps.length:=by omega
 have h3:=(sp_at hg he hp).1
 have h4:=frm_at (s:=fun p=>spN (l.getD p (0,0,0))) hp
 rw[cAt_nat hj] at h4
 rw[h4,h3,List.getElem_map,getD_sp hi]
structure BarS (ps:List Pr) (ts:List Pd) (l:List Spn3) (bx:List (List Int)) (low:List Int):Prop where
 len:l.length=ps.length
 ne:0<bx.length
 le:bx.length≤5000
 box:PC Proofs.Tryz.prog 8 [aTr ps,aSps l] (.tup [aRows bx,ai 0])
 cons:∀c ∈ bx,PC Proofs.Tryz.prog 18 [aTr ps,aInts c] (ab true)
 sat:∀c ∈ bx,PC Proofs.Tryz.prog 19 [aTr ps,.sl 6 (ts.map aPd),aInts c] (ab true)
 close:PC Proofs.Tryz.prog 20 [aTr ps,aInts (l.map fun s=>s.2.1)] (.tup [aInts low,ai 0])
 blk:PC Proofs.Tryz.prog 21 [aTr ps,aRows bx] (.tup [ab true,ai 0])
 first:∀h:0<bx.length,PC Proofs.Tryz.prog 22 [aInts bx[0],aInts low] (ab true)
theorem barS_of {ps:List Pr} (hs:Sm ps) (ts:List Pd) (hz:∀t ∈ ts,szF t≤1000000) (htl:ts.length≤1000000) (hC:conF ps ts=0) {a:Nat→Nat} (ha:LeastS ps (rowsOf ps ts) a) (h0:lstE ps=0) :
  ∃bx low,BarS ps ts ((chcL ps.length (rowsOf ps ts) a).map stpI) bx low:=by
 have hv:=(conF_inv hC).1
 have h8:=(valid_len hv).2
 obtain⟨g1,g2,g3⟩:=chc_given hC ha
 have hgood:=box_good hC ha
 have hlen:=(each_at g2).1
 generalize (chcL ps.length (rowsOf ps ts) a).map stpI=l at *
 have hB:=strong_Box ps hs l (by omega)
 have hE:=box_zero.2 ⟨g1,g2,g3,h0⟩
 unfold aBx38 at hB
 rw[hE,if_pos rfl] at hB
 have hle:(boxF ps l).length≤5000:=by
  have:(boxF ps l).length≤(cutsF ps).length:=List.length_filter_le _ _
  have:=(lst_zero.1 h0).2
  omega
 have hhd:=box_head g1 g2 g3
 have hbi:=box_is (ps:=ps) (l:=l) hv
 have hbar:=barrier38 hC g1 g2 g3
 have hne:0<(boxF ps l).length:=by
  cases hx:boxF ps l with
  | nil=>rw[hx] at hhd;cases hhd
  | cons _ _=>simp
 refine⟨boxF ps l,closeF ps (frmL ps.length fun p=>spN (l.getD p (0,0,0))),hlen,hne,hle,hB,fun c hc => ?_,fun c hc => ?_,?_,?_,fun h => ?_⟩
 ·have:=cut_Consistent ps hs c
  rwa [decide_eq_true ((isF_given hv).2 (hbi c hc))] at this
 ·have:=ref37_Satisfies ps hs ts hz htl hC c
  rwa [hgood c hc] at this
 ·rw[from_frm g1 g2]
  refine cut_Close ps hs hv _ (frm_len _ _) (frm_in fun p hp => ?_)
  have:=(sp_at g1 g2 hp).2.2
  omega
 ·have h:=run_Blocked ps hs (boxF ps l)
  have e1:avE ps (boxF ps l)=0:=by
   unfold avE
   rw[hv,if_pos rfl,if_neg (by omega),if_neg,h0]
   rw[Bool.not_eq_true,List.any_eq_false]
   intro c hc
   rw[hbi c hc];simp
  have e2:blkB ps (boxF ps l)=true:=by unfold blkB;rw[decide_eq_true e1,hbar];rfl
  rwa [e1,e2] at h
 ·have e:(boxF ps l)[0]=closeF ps (frmL ps.length fun p=>spN (l.getD p (0,0,0))):=by
   rw[List.head?_eq_getElem?,List.getElem?_eq_getElem h] at hhd
   exact Option.some.inj hhd
  have h:=ints_equal (boxF ps l)[0] (closeF ps (frmL ps.length fun p=>spN (l.getD p (0,0,0)))) (by have:=(isF_iff.1 (hbi _ (List.getElem_mem h))).1;omega)
  rwa [decide_eq_true e] at h
set_option maxHeartbeats 1000000 in
theorem law38_BarrierT (ps:List Pr) (ts:List Pd) (hs:Sm ps) (hz:∀t ∈ ts,szF t≤1000000) (htl:ts.length≤1000000) (hC:conF ps ts=0) (hfew:PC Proofs.Tryz.prog 7 [aTr ps,ai 14] (ab true)) (hsm:PC Proofs.Tryz.prog 14 [.sl 6 (ts.map aPd)] (ab true))
  (hft:PC Proofs.Tryz.prog 15 [aTr ps,.sl 6 (ts.map aPd)] (ai 0)) {a:Nat→Nat} (ha:LeastS ps (rowsOf ps ts) a):PC Proofs.Tryz.prog 4 [aTr ps,.sl 6 (ts.map aPd)] (ab true):=by
 have haw:=law38_awake
 have hv:=(conF_inv hC).1
 have h8:=(valid_len hv).2
 have h1:=dfn_tight hs ts hz htl hC ha
 have hA:∀sp:List Spn3,aAns ⟨2,true,4,[],[],[],sp,0⟩ = .agg [ai 2,ab true,ai 4,.sl 1 [],.sl 1 [],.sl 1 [],.sl 3 (sp.map aSp),ai 0]:=fun _=>rfl
 have haR:∀x:List (List Int),aRows x = .sl 1 (x.map aInts):=fun _=>rfl
 have haS:∀x:List Spn3,aSps x = .sl 3 (x.map aSp):=fun _=>rfl
 have haI:∀x:List Int,aInts x = .sl 1 (x.map ai):=fun _=>rfl
 rw[hA] at h1
 clear hA
 by_cases h0:lstE ps=0
 ·obtain⟨bx,low,hb⟩:=barS_of hs ts hz htl hC ha h0
  obtain⟨k1,k2,k3,k4,k5,k6,k7,k8,k9⟩:=hb
  generalize (chcL ps.length (rowsOf ps ts) a).map stpI=l at *
  have k9:=k9 k2
  have hb0:=getD_map (f:=aInts) k2
  rw[haR,haS] at k4
  rw[haR] at k8
  have i0:¬((bx.length:Nat):Int)=0:=by omega
  have i2:(0:Int)<bx.length:=by omega
  have i3:((l.length:Nat):Int)=ps.length:=by omega
  refine PC.enter 142 [.tmp 4] [2,5,13,111] Proofs.Tryz.func4 rfl rfl rfl rfl rfl (by simp) (AWp.of ?_);simp only[go_sem]
  refine Wk ?_
  refine Sd ?_
  refine(haw).val.use ?_;simp only[go_sem]
  refine Sd ?_
  refine Gc hfew ?_
  refine Sd ?_
  refine Sd ?_
  refine Gc hsm ?_
  refine Sd ?_
  refine Sd ?_
  refine Gc hft ?_
  refine Sd ?_
  refine Wk ?_
  refine Sd ?_
  refine(h1).val.use ?_;simp only[go_sem]
  intros
  refine Wk ?_
  refine Sd ?_
  refine(k4).val.use ?_;simp only[go_sem]
  repeat(first|((with_reducible refine AWp.ofC ?_ ?_);exact rfl;simp only[go_sem,i0,i3,Int.reduceEq])|((with_reducible refine an ?_ ?_);exact Au))
  refine AWp.range' bx.length [] [1,2,5,7,83,84] (fun k vs L=>L=[]∧vs=[]) (by omega) rfl rfl rfl ⟨rfl,rfl⟩ ?_ ?_
  ·rintro q vs L hq - ⟨rfl,rfl⟩
   have hgq:=getD_map (f:=aInts) hq
   have k5:=k5 _ (List.getElem_mem hq)
   have k6:=k6 _ (List.getElem_mem hq)
   generalize bx[q]=c at *
   simp only[go_sem]
   refine W1 hgq ?_
   refine Sd ?_
   refine(k5).val.use ?_;simp only[go_sem]
   refine Sd ?_
   refine Gc k6 ?_
   refine Sd ?_
   refine Wk ?_
   exact⟨_,List.Sublist.refl _,rfl⟩
  ·rintro vs L - ⟨rfl,rfl⟩
   simp only[go_sem]
   refine Wk ?_
   refine AWp.range' l.length [11] [2,7,102,103] (fun k vs L=>∃v,vs=[v]∧AppSt 3 1 (((l.take k).map fun s=>s.2.1).map ai) v L) (by omega) rfl rfl rfl ⟨anil,rfl,.nil⟩ ?_ ?_
   ·rintro k vs L hk - ⟨v,rfl,hA⟩
    have hg:=getD_map (f:=aSp) hk
    have el:aSp l[k] = .agg [ai l[k].1,ai l[k].2.1,ai l[k].2.2]:=rfl
    rw[el] at hg
    have hst:(((l.take (k+1)).map fun s=>s.2.1).map ai)=((l.take k).map fun s=>s.2.1).map ai ++ [ai l[k].2.1]:=by
     rw[List.take_succ_eq_append_getElem hk,List.map_append,List.map_append];rfl
    rw[hst]
    clear hst el
    have hyl:(((l.take k).map fun s=>s.2.1).map ai).length=k:=by rw[List.length_map,List.length_map,List.length_take];omega
    generalize ((l.take k).map fun s=>s.2.1).map ai=ys at *
    rcases hA.inv with ⟨e1,rfl,rfl⟩|⟨bq,cap,rfl,rfl⟩
    ·simp only[go_sem]
     refine W1 hg ?_
     intros
     refine W1 hg ?_
     intro b' cap' g8
     exact⟨_,List.Sublist.refl _,_,rfl,by rw[e1];exact .row _ _ _⟩
    ·simp only[go_sem]
     refine W1 hg ?_
     intros
     refine W1 hg ?_
     refine Sd ?_
     intro b' cap' g8
     exact⟨_,List.Sublist.refl _,_,rfl,AppSt.snoc _ _ _ rfl⟩
   ·rintro vs L - ⟨v,rfl,hA⟩
    rw[List.take_length] at hA
    refine AWp.viewA (j:=11) (L:=[]) hA rfl ?_
    clear hA
    rw[haI] at k7
    simp only[haI] at k9 hb0
    generalize (l.map fun s=>s.2.1).map ai=fr at *
    simp only[go_sem]
    refine Wk ?_
    refine Sd ?_
    refine(k7).val.use ?_;simp only[go_sem]
    refine Wk ?_
    refine Sd ?_
    refine(k8).val.use ?_;simp only[go_sem]
    refine W2 hb0 i2 ?_
    refine Sd ?_
    refine GCall.use (ab true) (fun _=>⟨At,(k9).val.use ⟨rfl,rfl⟩⟩) ?_;simp only[go_sem]
    refine Sd ?_
    refine Wk ?_
    refine ret_eq ?_;simp only[go_sem]
 ·obtain⟨g1,g2,g3⟩:=chc_given hC ha
  have h5:lstE ps=16:=by
   unfold lstE at h0 ⊢
   rw[hv,if_pos rfl] at h0 ⊢
   split
   ·rename_i h;rw[if_pos h] at h0;exact absurd rfl h0
   ·rfl
  have hlen:=(each_at g2).1
  have hB:=strong_Box ps hs _ (show ((chcL ps.length (rowsOf ps ts) a).map stpI).length≤9223372036854775806 by omega)
  generalize (chcL ps.length (rowsOf ps ts) a).map stpI=l at *
  have hE:boxE ps l=if gvnE ps l ≠ 0 then gvnE ps l else if eachB ps l=true then (if ovF ps (l.map spN)=true then lstE ps else 7) else 3:=rfl
  rw[if_neg (by simpa using g1),if_pos g2,if_pos g3,h5] at hE
  unfold aBx38 at hB
  rw[hE,if_neg (by decide),haR,haS] at hB
  refine PC.enter 142 [.tmp 4] [2,5,13,111] Proofs.Tryz.func4 rfl rfl rfl rfl rfl (by simp) (AWp.of ?_);simp only[go_sem]
  refine Wk ?_
  refine Sd ?_
  refine(haw).val.use ?_;simp only[go_sem]
  refine Sd ?_
  refine Gc hfew ?_
  refine Sd ?_
  refine Sd ?_
  refine Gc hsm ?_
  refine Sd ?_
  refine Sd ?_
  refine Gc hft ?_
  refine Sd ?_
  refine Wk ?_
  refine Sd ?_
  refine(h1).val.use ?_;simp only[go_sem]
  intros
  refine Wk ?_
  refine Sd ?_
  refine(hB).val.use ?_;simp only[go_sem]
  repeat(first|((with_reducible refine AWp.ofC ?_ ?_);exact rfl;simp only[go_sem])|((with_reducible refine an ?_ ?_);exact Au))
  refine ret_eq ?_;simp only[go_sem]
  all_goals rfl
theorem law38_BarrierN (ps:List Pr) (ts:List Pd) (hs:Sm ps) (hz:∀t ∈ ts,szF t≤1000000) (htl:ts.length≤1000000) (hC:conF ps ts=0) (hfew:PC Proofs.Tryz.prog 7 [aTr ps,ai 14] (ab true)) (hsm:PC Proofs.Tryz.prog 14 [.sl 6 (ts.map aPd)] (ab true))
  (hft:PC Proofs.Tryz.prog 15 [aTr ps,.sl 6 (ts.map aPd)] (ai 0)) (hT:¬ ∃t,TgtS ps (rowsOf ps ts) t):PC Proofs.Tryz.prog 4 [aTr ps,.sl 6 (ts.map aPd)] (ab true):=by
 have haw:=law38_awake
 have hv:=(conF_inv hC).1
 have hof:=valid_off hv
 have h1:=dfn_none hs ts hz htl hC hT
 have h2:=ref12_Count ps hs hv
 refine PC.enter 142 [.tmp 4] [2,5,13,111] Proofs.Tryz.func4 rfl rfl rfl rfl rfl (by simp) (AWp.of ?_);simp only[go_sem]
 refine Wk ?_
 refine Sd ?_
 refine(haw).val.use ?_;simp only[go_sem]
 refine Sd ?_
 refine Gc hfew ?_
 refine Sd ?_
 refine Sd ?_
 refine Gc hsm ?_
 refine Sd ?_
 refine Sd ?_
 refine Gc hft ?_
 refine Sd ?_
 refine Wk ?_
 refine MVal.mono h1.val ?_
 rintro r L ⟨rfl,O,⟨hO,hOl⟩,rfl⟩
 have hrl:=run_len hO.run
 have hA:aAns ⟨2,false,3,[],[],O,[],0⟩ = .agg [ai 2,ab false,ai 3,.sl 1 [],.sl 1 [],.sl 1 (O.map aInts),.sl 3 [],ai 0]:=rfl
 rw[hA]
 have hri:((O.length:Nat):Int)=(off ps ps.length:Nat)+1:=by omega
 simp only[go_sem]
 intros
 refine Wk ?_
 repeat(first|(with_reducible refine AWp.seq ?_)|(with_reducible refine AWp.block ?_))
 refine AWp.read mixed [0,1,2,3,4,5,6,7] (by kernel_rfl) ?_;simp only[go_sem,hri]
 refine Sd ?_
 refine GCall.use (ai (off ps ps.length:Nat)) (fun _=>⟨At,(h2).val.use ⟨rfl,rfl⟩⟩) ?_;simp only[go_sem]
 refine W1 hri ?_
 refine ret_eq ?_;simp only[go_sem]
theorem law38_StrongBarrier (ps:List Pr) (ts:List Pd) (hpl:ps.length≤9223372036854775807) (hev:∀p ∈ ps,p.evs.length≤9223372036854775807):PC Proofs.Tryz.prog 4 [aTr ps,.sl 6 (ts.map aPd)] (ab true):=by
 have haw:=law38_awake
 have hfew:=law38_few ps hpl hev 14
 have hsm:=law38_small ts
 have main:fw38 ps 14=true→sm38 ts=true→∃e:Int,PC Proofs.Tryz.prog 15 [aTr ps,.sl 6 (ts.map aPd)] (ai e)∧(e=0→PC Proofs.Tryz.prog 4 [aTr ps,.sl 6 (ts.map aPd)] (ab true)):=fun hf hsb=>by
  rw[hf] at hfew
  rw[hsb] at hsm
  obtain⟨e,h1,h2⟩:=guardN hf hsb
  refine⟨e,h1,fun h0 => ?_⟩
  subst h0
  obtain⟨hs,hC⟩:=h2 rfl
  obtain⟨htl12,hz⟩:=sm38_spec hsb
  by_cases hT:∃t,TgtS ps (rowsOf ps ts) t
  ·obtain⟨a,ha⟩:=least_ex (rowsOf_ok (ps:=ps) (ts:=ts) (conF_inv hC).2.1) hT
   exact law38_BarrierT ps ts hs hz (by omega) hC hfew hsm h1 ha
  ·exact law38_BarrierN ps ts hs hz (by omega) hC hfew hsm h1 hT
 generalize fw38 ps 14=F at *
 generalize sm38 ts=S at *
 by_cases hall:F=true∧S=true
 ·obtain⟨rfl,rfl⟩:=hall
  obtain⟨e,h1,h2⟩:=main rfl rfl
  by_cases h0:e=0
  ·exact h2 h0
  ·refine PC.enter 142 [.tmp 4] [2,5,13,111] Proofs.Tryz.func4 rfl rfl rfl rfl rfl (by simp) (AWp.of ?_);simp only[go_sem]
   refine Wk ?_
   refine Sd ?_
   refine(haw).val.use ?_;simp only[go_sem]
   refine Sd ?_
   refine Gc hfew ?_
   refine Sd ?_
   refine Sd ?_
   refine Gc hsm ?_
   refine Sd ?_
   refine Sd ?_
   refine Gc h1 ?_
   refine Sd ?_
   refine Wk ?_
   refine⟨fun q => ?_,fun q => ?_⟩
   ·refine Wk ?_
    refine Sd ?_
    refine(haw).val.use ?_;simp only[go_sem]
    refine Wk ?_
    refine ret_eq ?_;simp only[go_sem]
   ·exact absurd q h0
 ·refine PC.enter 142 [.tmp 4] [2,5,13,111] Proofs.Tryz.func4 rfl rfl rfl rfl rfl (by simp) (AWp.of ?_);simp only[go_sem]
  refine Wk ?_
  refine Sd ?_
  refine(haw).val.use ?_;simp only[go_sem]
  refine Sd ?_
  refine Gc hfew ?_
  refine Sd ?_
  refine Sd ?_
  refine Gc hsm ?_
  refine Sd ?_
  refine GCall.use (ai 1) (fun hg=>absurd (by simpa using hg) hall) ?_
  simp only[go_sem]
  refine Wk ?_
  refine⟨fun q => ?_,fun q1 q2 q3 => ?_⟩
  ·refine Wk ?_
   refine Sd ?_
   refine(haw).val.use ?_;simp only[go_sem]
   refine Wk ?_
   refine ret_eq ?_;simp only[go_sem]
  ·exact absurd ⟨q1,q2⟩ hall
end Go.AL
end
