/- Texts of this claim's proof: WV25, WV26, WRt, WRt7, WRt2, WRt4, WRt6. No condition. -/
import Derived.Test.YtaomlpmcimjfgaaGreatDoorM24
import Derived.Test.YtaomlpmcimjfgaaGreatDoorM10
import Derived.Test.YtaomlpmcimjfgaaGreatDoorM4
import Derived.Test.YtaomlpmcimjfgaaGreatDoorM8
section
namespace Go.AL
open Go Go.RowKit
set_option maxRecDepth 4000
theorem run_len {ps:List Pr} {R:List (List Int)} (h:isRunF ps R=true):R.length=off ps ps.length+1:=by
 obtain⟨S,rfl,hch,hl⟩:=isrun_inv h
 obtain⟨_,h2⟩:=chn_last (zeroC_is ps) hch hl
 have h0:(zeroC ps).sum=0:=by unfold zeroC;simp
 rw[fullC_sum,h0] at h2
 rw[List.length_cons];omega
theorem smW_off {ps:List Pr} (hv:validF ps=true):∀k,k≤ps.length→smW ps k=off ps k∧off ps k≤64 * k
 | 0,_=>⟨by simp [smW,off],by simp [off]⟩
 | k+1,hk=>by
  obtain⟨h1,h2⟩:=smW_off hv k (by omega)
  have h3:=off_succ (show k<ps.length by omega)
  have h4:=valid_nev hv (show k<ps.length by omega)
  have h5:=nev_get (show k<ps.length by omega)
  have h8:=(valid_len hv).2
  refine⟨?_,by omega⟩
  show addW (smW ps k) (nev ps k)=_
  unfold addW
  rw[IntKind.wrap_i64,h1,h3]
  omega
theorem off_few {ps:List Pr} {m:Int} (hv:validF ps=true) (h:fw38 ps m=true):(off ps ps.length:Int)≤m:=by
 have hn:=(valid_len hv).1
 have h1:=(smW_off hv ps.length (Nat.le_refl _)).1
 unfold fw38 at h
 rw[Bool.and_eq_true,Bool.not_eq_true',List.any_eq_false] at h
 have h2:=h.1 (ps.length - 1) (List.mem_range.2 (by omega))
 unfold fwQ at h2
 rw[Bool.not_eq_true,Bool.or_eq_false_iff,decide_eq_false_iff_not,show ps.length - 1+1=ps.length by omega] at h2
 omega
section
variable {b:Nat→Bool} {p K:Nat} {l:List Stp}
theorem SpOk.before (h:SpOk b p K l) {i:Nat} (hi:i<l.length) (h0:0<l[i].2.1):b (l[i].2.1 - 1)=false:=by
 cases hb:b (l[i].2.1 - 1) with
 | false=>rfl
 | true =>
  obtain⟨_,g2,g3,_⟩:=h.el l[i] (List.getElem_mem hi)
  obtain⟨s,hs,k1,k2⟩:=h.cov _ (by omega) hb
  obtain⟨m,hm,rfl⟩:=List.getElem_of_mem hs
  rcases Nat.lt_trichotomy m i with e|e|e
  ·have:=h.lt hi e;omega
  ·subst e;omega
  ·have:=h.lt hm e;omega
theorem SpOk.after (h:SpOk b p K l) {i:Nat} (hi:i<l.length) (h0:l[i].2.2+1<K):b (l[i].2.2+1)=false:=by
 cases hb:b (l[i].2.2+1) with
 | false=>rfl
 | true =>
  obtain⟨_,g2,g3,_⟩:=h.el l[i] (List.getElem_mem hi)
  obtain⟨s,hs,k1,k2⟩:=h.cov _ h0 hb
  obtain⟨m,hm,rfl⟩:=List.getElem_of_mem hs
  rcases Nat.lt_trichotomy m i with e|e|e
  ·have:=h.lt hi e;omega
  ·subst e;omega
  ·have:=h.lt hm e;omega
end
theorem spN_I (s:Stp):spN (stpI s)=s:=by
 obtain⟨a,b,c⟩:=s
 show (((a:Int)).toNat,((b:Int)).toNat,((c:Int)).toNat)=(a,b,c)
 simp
section
variable {ps:List Pr} {ts:List Pd} (hC:conF ps ts=0)
include hC
theorem chc_el {a:Nat→Nat} (ha:LeastS ps (rowsOf ps ts) a) {i:Nat} (hi:i<ps.length):∃h:a i<(rowsOf ps ts i).length,fSp (rowsOf ps ts) i (a i)=(rowsOf ps ts i)[a i]∧SpOk ((elimOf ps ts).ok i) i (nev ps i+1) (rowsOf ps ts i) :=
 ⟨ha.1.1 i hi,fSp_eq (ha.1.1 i hi),rowsOf_ok (conF_inv hC).2.1 i hi⟩
theorem chk_tight {a:Nat→Nat} (ha:LeastS ps (rowsOf ps ts) a):chk38 ps ts ⟨2,true,4,[],[],[],(chcL ps.length (rowsOf ps ts) a).map stpI,0⟩=true:=by
 obtain⟨hv,hl,_⟩:=conF_inv hC
 have hn8:=(valid_len hv).2
 have hcl:=chcL_len ps.length (rowsOf ps ts) a
 have hsp:((chcL ps.length (rowsOf ps ts) a).map stpI).map spN=chcL ps.length (rowsOf ps ts) a:=by
  rw[List.map_map]
  have:(spN ∘ stpI)=id:=by funext s;exact spN_I s
  rw[this,List.map_id]
 have hg:∀i (hi:i<((chcL ps.length (rowsOf ps ts) a).map stpI).length),((chcL ps.length (rowsOf ps ts) a).map stpI)[i]=stpI (fSp (rowsOf ps ts) i (a i)):=fun i hi=>by
  rw[List.getElem_map,chcL_get]
 have hf1:∀i,i<ps.length→(fSp (rowsOf ps ts) i (a i)).1=i∧SpIn ps (fSp (rowsOf ps ts) i (a i))∧spT (elimOf ps ts) (fSp (rowsOf ps ts) i (a i))=true:=fun i hi=>by
  obtain⟨h1,h2,h3⟩:=chc_el hC ha hi
  obtain⟨e1,e2,e3,e4⟩:=h3.el _ (List.getElem_mem h1)
  rw[h2]
  refine⟨e1,⟨by rw[e1];exact hi,e2,by rw[e1];omega⟩,?_⟩
  unfold spT
  rw[List.all_eq_true,e1]
  intro j hj
  have:=List.mem_range.1 hj
  exact e4 _ (by omega) (by omega)
 have hbad:((chcL ps.length (rowsOf ps ts) a).map stpI).any (badSp ps)=false:=by
  rw[List.any_eq_false]
  intro x hx
  obtain⟨i,hi,rfl⟩:=List.getElem_of_mem hx
  rw[hg i hi]
  rw[List.length_map,hcl] at hi
  obtain⟨q1,⟨q2,q3,q4⟩,_⟩:=hf1 i hi
  unfold badSp stpI
  simp only[Bool.or_eq_true,decide_eq_true_eq,Int.toNat_natCast]
  omega
 have hdup:(List.range ((chcL ps.length (rowsOf ps ts) a).map stpI).length).any (dupSp ((chcL ps.length (rowsOf ps ts) a).map stpI))=false:=by
  rw[List.any_eq_false]
  intro i hi
  have hi:=List.mem_range.1 hi
  rw[dup_no hi fun k hk e => ?_]
  ·decide
  rw[hg i hi,hg k (by omega)] at e
  rw[List.length_map,hcl] at hi
  have e1:((fSp (rowsOf ps ts) i (a i)).1:Int)=((fSp (rowsOf ps ts) k (a k)).1:Int):=e
  rw[(hf1 i hi).1,(hf1 k (by omega)).1] at e1
  omega
 have hgv:gvnE ps ((chcL ps.length (rowsOf ps ts) a).map stpI)=0:=by
  unfold gvnE
  rw[hv,if_pos rfl,if_neg (by rw[List.length_map,hcl];omega),hbad,if_neg (by decide),hdup,if_neg (by decide)]
 have hov:ovF ps (chcL ps.length (rowsOf ps ts) a)=true:=ov_iff.2 fun i k hi hk hik=>by
  rw[chcL_get,chcL_get]
  rw[hcl] at hi hk
  exact ha.1.2 i k hi hk hik
 have hall:(chcL ps.length (rowsOf ps ts) a).all (spT (elimOf ps ts))=true:=by
  rw[List.all_eq_true]
  intro x hx
  obtain⟨i,hi,rfl⟩:=List.getElem_of_mem hx
  rw[chcL_get]
  rw[hcl] at hi
  exact(hf1 i hi).2.2
 have hea:eachB ps ((chcL ps.length (rowsOf ps ts) a).map stpI)=true:=by
  unfold eachB
  rw[decide_eq_true (by rw[List.length_map,hcl]),Bool.true_and,List.all_eq_true]
  intro i hi
  have hi:=List.mem_range.1 hi
  rw[decide_eq_true_eq,List.getD_eq_getElem?_getD,List.getElem?_eq_getElem hi,Option.getD_some,hg i hi]
  rw[List.length_map,hcl] at hi
  show ((fSp (rowsOf ps ts) i (a i)).1:Int)=i
  rw[(hf1 i hi).1]
 unfold chk38
 rw[if_pos hC,if_pos rfl]
 simp only[hsp,hgv,hov,hall,hea]
 simp [bareB]
theorem chk_longer {a:Nat→Nat} (ha:LeastS ps (rowsOf ps ts) a) {i:Nat} (hi:i<ps.length) {s:Spn3} (h1:s.1=((fSp (rowsOf ps ts) i (a i)).1:Int))
  (h2:(s.2.1=((fSp (rowsOf ps ts) i (a i)).2.1:Int) - 1∧s.2.2=((fSp (rowsOf ps ts) i (a i)).2.2:Int))∨(s.2.1=((fSp (rowsOf ps ts) i (a i)).2.1:Int)∧s.2.2=((fSp (rowsOf ps ts) i (a i)).2.2:Int)+1)) :
  chk38 ps ts ⟨2,true,4,[],[],[],((chcL ps.length (rowsOf ps ts) a).map stpI).set i s,0⟩=false:=by
 obtain⟨g1,g2,g3⟩:=chc_el hC ha hi
 obtain⟨e1,e2,e3,e4⟩:=g3.el _ (List.getElem_mem g1)
 have hb:=g3.before g1
 have hf:=g3.after g1
 have hcl:((chcL ps.length (rowsOf ps ts) a).map stpI).length=ps.length:=by rw[List.length_map,chcL_len]
 have hmem:s ∈ ((chcL ps.length (rowsOf ps ts) a).map stpI).set i s:=List.mem_set (by rw[hcl];exact hi) s
 rw[g2] at h1 h2
 rw[e1] at h1
 cases hc:chk38 ps ts ⟨2,true,4,[],[],[],((chcL ps.length (rowsOf ps ts) a).map stpI).set i s,0⟩ with
 | false=>rfl
 | true =>
  exfalso
  unfold chk38 at hc
  rw[if_pos hC,if_pos rfl] at hc
  simp only[Bool.and_eq_true,decide_eq_true_eq] at hc
  obtain⟨_,⟨hgv,_⟩,hall⟩:=hc
  have hbd:=(gvn_zero hgv).2.2.1 s hmem
  have hsT:=List.all_eq_true.1 hall _ (List.mem_map_of_mem hmem)
  obtain⟨p,f,t⟩:=s
  simp only at h1 h2
  unfold badSp at hbd
  simp only[Bool.or_eq_false_iff,decide_eq_false_iff_not] at hbd
  unfold spT spN at hsT
  simp only[List.all_eq_true,List.mem_range] at hsT
  have hpi:p.toNat=i:=by omega
  rw[hpi] at hsT hbd
  rcases h2 with ⟨h2,h3⟩|⟨h2,h3⟩
  ·have h4:=hb (by omega)
   have h5:=hsT 0 (by omega)
   rw[show f.toNat+0=(rowsOf ps ts i)[a i].2.1 - 1 by omega,h4] at h5
   cases h5
  ·have h4:=hf (by omega)
   have h5:=hsT (t.toNat - f.toNat) (by omega)
   rw[show f.toNat+(t.toNat - f.toNat)=(rowsOf ps ts i)[a i].2.2+1 by omega,h4] at h5
   cases h5
theorem chk_dodge {O:List (List Int)} (hO:DodgeR ps (elimOf ps ts).ok O):chk38 ps ts ⟨2,false,3,[],[],O,[],0⟩=true:=by
 have hv:=(conF_inv hC).1
 unfold chk38
 rw[if_pos hC,if_neg (show ¬(false=true) by decide)]
 simp only[dodge_avd hv hO]
 simp [bareB]
theorem chk_cut {O O':List (List Int)} (hO:DodgeR ps (elimOf ps ts).ok O) (hl:O'.length+1=O.length):chk38 ps ts ⟨2,false,3,[],[],O',[],0⟩=false:=by
 have hv:=(conF_inv hC).1
 have h1:=run_len hO.run
 have hi:isR ps O'=false:=by
  unfold isR
  cases h:isRunF ps O' with
  | false=>simp
  | true=>have:=run_len h;omega
 unfold chk38
 rw[if_pos hC,if_neg (show ¬(false=true) by decide)]
 unfold avdB
 rw[hi];simp
end
theorem chk_mode {ps:List Pr} {ts:List Pd} {a:Ans} (h:a.mode ≠ 2):chk38 ps ts a=false:=by
 unfold chk38
 split
 ·have hb:∀k,bareB a k=false:=fun k=>by unfold bareB;rw[decide_eq_false h];rfl
  split
  ·rw[hb];rfl
  ·rw[hb];rfl
 ·rfl
theorem chk_other {ps:List Pr} {ts:List Pd} {a:Ans} (h:(a.holds=true∧a.kind ≠ 4)∨(a.holds=false∧a.kind ≠ 3)):chk38 ps ts a=false:=by
 unfold chk38
 split
 ·rcases h with ⟨h1,h2⟩|⟨h1,h2⟩
  ·rw[h1,if_pos rfl]
   have:bareB a 4=false:=by unfold bareB;rw[decide_eq_false h2];simp
   rw[this];rfl
  ·rw[h1,if_neg (by decide)]
   have:bareB a 3=false:=by unfold bareB;rw[decide_eq_false h2];simp
   rw[this];rfl
 ·rfl
theorem spans_cloneO (l:List Spn3) (hl:l.length≤1000000):MCalls Proofs.Tryz.prog 28 [.sl 3 (l.map aSp)] [] fun r L=>AppSt 57 3 (l.map aSp) r L:=by
 refine MCalls.enter' 8 [.tmp 2] [] Proofs.Tryz.func28 rfl rfl rfl rfl rfl (by simp) (AWp.of ?_);simp only[go_sem]
 refine Wk ?_
 intro b hb
 refine Wk ?_
 refine⟨fun ht => ?_,fun hf => ?_⟩
 ·have:l=[]:=by
   by_cases h:l=[]
   ·exact h
   ·rw[hb (by simpa using h)] at ht;cases ht
  subst this
  refine Wk ?_
  refine ret_own ?_
  simp only[go_sem]
  exact .nil
 ·refine Wk ?_
  intros
  refine Sd ?_
  intros
  refine Wk ?_
  refine ret_own ?_
  simp only[go_sem]
  have e:l.length=(l.map aSp).length:=by simp
  rw[e];exact .row _ _ _
theorem law38_Proofs1 (m kd v:Int) (h:Bool) (c d:List Int) (cs r sp:List AV) (hd:d.length≤1000000):PC Proofs.Tryz.prog 25 [aInts d,.rp 8 [.agg [ai m,ab h,ai kd,.sl 1 (c.map ai),.sl 1 cs,.sl 1 r,.sl 3 sp,ai v]] 0 0] (ab (decide (d=c))):=by
 have h1:=ints_equal d c hd
 have haI:∀l:List Int,aInts l = .sl 1 (l.map ai):=fun _=>rfl
 rw[haI,haI] at h1
 rw[haI]
 refine PC.enter 8 [.tmp 3] [] Proofs.Tryz.func25 rfl rfl rfl rfl rfl (by simp) (AWp.of ?_);simp only[go_sem]
 refine Wk ?_
 refine Sd ?_
 refine(h1).val.use ?_;simp only[go_sem]
 refine Wk ?_
 refine ret_eq ?_;simp only[go_sem]
theorem poss38 {ps:List Pr} (hs:Sm ps) (ts:List Pd) (hz:∀t ∈ ts,szF t≤1000000) (htl:ts.length≤1000000) (hC:conF ps ts=0):∃(h:Bool) (kd:Int) (c:List Int) (sp:List AV),
  PC Proofs.Tryz.prog 23 [aTr ps,.sl 6 (ts.map aPd)] (.tup [.agg [ai 1,ab h,ai kd,.sl 1 (c.map ai),.sl 1 [],.sl 1 [],.sl 3 sp,ai 0],ai 0])∧(h=true→SatD ps (elimOf ps ts) c):=by
 have h1:=conj_Possibly ps hs ts hz htl
 unfold aPossR ansOf at h1
 rw[if_pos hC] at h1
 have hv:=(conF_inv hC).1
 cases hl:lostF (elimOf ps ts) with
 | true =>
  rw[hl,if_pos rfl] at h1
  exact⟨false,4,[],_,h1,fun h=>by cases h⟩
 | false =>
  rw[hl,if_neg (by decide)] at h1
  exact⟨true,1,_,[],h1,fun _=>(fin_least hv (elim_need ps ts) hl).1⟩
theorem guard38 {ps:List Pr} {ts:List Pd} (hf:fw38 ps 60=true) (hsb:sm38 ts=true):∃e:Int,PC Proofs.Tryz.prog 12 [aTr ps,.sl 6 (ts.map aPd)] (ai e)∧(e=0→Sm ps∧conF ps ts=0):=by
 have hvd:=vd38 hf
 obtain⟨htl12,hz⟩:=sm38_spec hsb
 cases hv:validF ps with
 | false =>
  have hrv:=hvd.rval
  rw[hv] at hrv
  exact⟨1,ref37_Fault_bad hrv ts (by omega),fun h=>by cases h⟩
 | true=>exact⟨_,ref37_Fault ps (hvd.sm hv) ts hz (by omega),fun h=>⟨hvd.sm hv,h⟩⟩
set_option maxHeartbeats 2000000 in
theorem law38_ProofsT (ps:List Pr) (ts:List Pd) (x:Int) (hx:0≤x∧x≤255) (hs:Sm ps) (hz:∀t ∈ ts,szF t≤1000000) (htl:ts.length≤1000000) (hC:conF ps ts=0) (hfew:PC Proofs.Tryz.prog 8 [aTr ps,ai 60] (ab true)) (hsm:PC Proofs.Tryz.prog 9 [.sl 6 (ts.map aPd)] (ab true))
  (hft:PC Proofs.Tryz.prog 12 [aTr ps,.sl 6 (ts.map aPd)] (ai 0)) {a:Nat→Nat} (ha:LeastS ps (rowsOf ps ts) a):PC Proofs.Tryz.prog 6 [aTr ps,.sl 6 (ts.map aPd),.v (.int .u8 x)] (ab true):=by
 have haw:=law38_awake
 have hv:=(conF_inv hC).1
 obtain⟨hn1,hn8⟩:=valid_len hv
 have h1:=(def_tight hs ts hz htl hC ha).1
 have hcl:((chcL ps.length (rowsOf ps ts) a).map stpI).length=ps.length:=by rw[List.length_map,chcL_len]
 have hspl:∀y,(((chcL ps.length (rowsOf ps ts) a).map stpI).set y (0,0,0)).length≤1000000:=fun y=>by rw[List.length_set,hcl];omega
 have hchk:=fun (an:Ans) (h1:an.spans.length≤1000000) (h2:an.run=[])=>strong_Check ps hs ts hz htl hC an h1 (by rw[h2];simp) (by rw[h2];intro x hx;cases hx)
 have k1:=hchk ⟨2,true,4,[],[],[],(chcL ps.length (rowsOf ps ts) a).map stpI,0⟩ (by show List.length _≤_;rw[hcl];omega) rfl
 rw[chk_tight hC ha] at k1
 have k2:=hchk ⟨2,false,4,[],[],[],(chcL ps.length (rowsOf ps ts) a).map stpI,0⟩ (by show List.length _≤_;rw[hcl];omega) rfl
 rw[chk_other (.inr ⟨rfl,show (4:Int) ≠ 3 by decide⟩)] at k2
 have k3:=hchk ⟨1,true,4,[],[],[],(chcL ps.length (rowsOf ps ts) a).map stpI,0⟩ (by show List.length _≤_;rw[hcl];omega) rfl
 rw[chk_mode (show (1:Int) ≠ 2 by decide)] at k3
 have k4:∀i (hi:i<ps.length) (s:Spn3),s.1=((fSp (rowsOf ps ts) i (a i)).1:Int)→((s.2.1=((fSp (rowsOf ps ts) i (a i)).2.1:Int) - 1∧s.2.2=((fSp (rowsOf ps ts) i (a i)).2.2:Int))∨(s.2.1=((fSp (rowsOf ps ts) i (a i)).2.1:Int)∧s.2.2=((fSp (rowsOf ps ts) i (a i)).2.2:Int)+1)) →
   PC Proofs.Tryz.prog 21 [aTr ps,.sl 6 (ts.map aPd),aAns ⟨2,true,4,[],[],[],((chcL ps.length (rowsOf ps ts) a).map stpI).set i s,0⟩] (ab false):=fun i hi s e1 e2=>by
  have:=hchk ⟨2,true,4,[],[],[],((chcL ps.length (rowsOf ps ts) a).map stpI).set i s,0⟩ (by show List.length _≤_;rw[List.length_set,hcl];omega) rfl
  rw[chk_longer hC ha hi e1 e2] at this
  exact this
 have hli:=law38_light ⟨2,true,4,[],[],[],(chcL ps.length (rowsOf ps ts) a).map stpI,0⟩
 have hlt:lightB ⟨2,true,4,[],[],[],(chcL ps.length (rowsOf ps ts) a).map stpI,0⟩=true:=by
  unfold lightB
  simp only[hcl]
  rw[decide_eq_true (p:=((ps.length:Nat):Int)≤30) (by omega)]
  rfl
 rw[hlt] at hli
 obtain⟨bh,bk,bc,bsp,hpo,_⟩:=poss38 hs ts hz htl hC
 have hcf:=rows_containsFunc [] (by decide) (.clo 25 [.rp 8 [.agg [ai 1,ab bh,ai bk,.sl 1 (bc.map ai),.sl 1 [],.sl 1 [],.sl 3 bsp,ai 0]] 0 0]) rfl (fun d=>decide (d=bc)) (fun d hd=>by cases hd)
 have hclo:=spans_cloneO ((chcL ps.length (rowsOf ps ts) a).map stpI) (by rw[hcl];omega)
 have hA:∀(m:Int) (h:Bool) (sp:List Spn3),aAns ⟨m,h,4,[],[],[],sp,0⟩ = .agg [ai m,ab h,ai 4,.sl 1 [],.sl 1 [],.sl 1 [],.sl 3 (sp.map aSp),ai 0]:=fun _ _ _=>rfl
 rw[hA] at h1 k1 k2 k3 hli
 simp only[hA] at k4
 have htx:=tmod_nat (x:=x) (n:=ps.length) hx.1
 have hwx:IntKind.i64.wrap x=x:=IntWalk.i64_in x (by omega)
 have hn0:¬((ps.length:Nat):Int)=0:=by omega
 have hjn:x.toNat % ps.length<ps.length:=Nat.mod_lt _ (by omega)
 generalize x.toNat % ps.length=j at *
 have hgj:((chcL ps.length (rowsOf ps ts) a).map stpI)[j]'(by rw[hcl];exact hjn)=stpI (fSp (rowsOf ps ts) j (a j)):=by rw[List.getElem_map,chcL_get]
 have hge:=getD_map (f:=aSp) (l:=(chcL ps.length (rowsOf ps ts) a).map stpI) (k:=j) (by rw[hcl];exact hjn)
 rw[hgj] at hge
 have k4:=k4 j hjn
 have hbnd:(fSp (rowsOf ps ts) j (a j)).2.1≤64∧(fSp (rowsOf ps ts) j (a j)).2.2≤64:=by
  obtain⟨g1,g2,g3⟩:=chc_el hC ha hjn
  obtain⟨_,e2,e3,_⟩:=g3.el _ (List.getElem_mem g1)
  have:=valid_nev hv hjn
  rw[g2];omega
 have hset:∀s:Spn3,((((chcL ps.length (rowsOf ps ts) a).map stpI)).map aSp).set j (aSp s)=(((chcL ps.length (rowsOf ps ts) a).map stpI).set j s).map aSp:=fun s=>by rw[List.map_set]
 have hcl2:(((chcL ps.length (rowsOf ps ts) a).map stpI).map aSp).length=ps.length:=by rw[List.length_map,hcl]
 have es:aSp (stpI (fSp (rowsOf ps ts) j (a j))) = .agg [ai (fSp (rowsOf ps ts) j (a j)).1,ai (fSp (rowsOf ps ts) j (a j)).2.1,ai (fSp (rowsOf ps ts) j (a j)).2.2]:=rfl
 rw[es] at hge
 have hlset:∀s,(((chcL ps.length (rowsOf ps ts) a).map stpI).set j s).length=ps.length:=fun s=>by rw[List.length_set,hcl]
 clear hchk hgj hspl hlt es
 generalize (chcL ps.length (rowsOf ps ts) a).map stpI=SL at *
 rw[← hcl] at htx
 generalize (fSp (rowsOf ps ts) j (a j)).1=s0 at *
 generalize (fSp (rowsOf ps ts) j (a j)).2.1=s1 at *
 generalize (fSp (rowsOf ps ts) j (a j)).2.2=s2 at *
 have haR0:aRows [] = .sl 1 []:=rfl
 rw[haR0] at hcf
 refine PC.enter 161 [.tmp 6] [3,11,111] Proofs.Tryz.func6 rfl rfl rfl rfl rfl (by simp) (AWp.of ?_);simp only[go_sem]
 refine Wk ?_
 refine Sd ?_
 refine(haw).val.use ?_;simp only[go_sem]
 refine Sd ?_
 refine Gc hfew ?_
 refine Sd ?_
 refine Sd ?_
 refine Gc hsm ?_
 refine Sd ?_
 refine Sd ?_
 refine Gc hft ?_
 refine Sd ?_
 refine Wk ?_
 refine Sd ?_
 refine(h1).val.use ?_;simp only[go_sem]
 intro b7
 refine Wk ?_
 refine Sd ?_
 refine Gc k1 ?_
 refine Sd ?_
 refine Sd ?_
 refine Gc hli ?_
 refine Sd ?_
 refine Wk ?_
 intro b9 g1
 have n1:¬b7=b9:=by omega
 have n2:¬b9=b7:=by omega
 refine W2 n1 n2 ?_
 intro b10 g2 g3
 have n3:¬b9=b10:=by omega
 have n4:¬b10=b9:=by omega
 have n5:¬b7=b10:=by omega
 have n6:¬b10=b7:=by omega
 refine W6 n1 n2 n3 n4 n5 n6 ?_
 refine Sd ?_
 refine(k2).val.use ?_;simp only[go_sem,n4,n6]
 refine Sd ?_
 refine GCall.use (ab false) (fun _=>⟨At,(k3).val.use ⟨rfl,rfl⟩⟩) ?_;simp only[go_sem]
 refine Sd ?_
 refine W6 n1 n2 n3 n4 n5 n6 ?_
 refine Sd ?_
 refine(hpo).val.use ?_;simp only[go_sem]
 intros
 refine W6 n1 n2 n3 n4 n5 n6 ?_
 refine Sd ?_
 refine GCall.use (ab false) (fun _=>⟨At,(hcf).val.use ⟨rfl,rfl⟩⟩) ?_;simp only[go_sem]
 refine Sd ?_
 refine W6 n1 n2 n3 n4 n5 n6 ?_
 intro _
 rw[hcl]
 repeat(first|((with_reducible refine AWp.ofC ?_ ?_);exact rfl;simp only[go_sem,n1,n5,hwx,htx])|((with_reducible refine an ?_ ?_);exact Au))
 refine(MVal.nd (MVal.frame (Lm:=[]) (Lr:=_) hclo.val)).mono ?_
 rintro r L ⟨hnd,L1,rfl,hC⟩
 have hSL0:SL.map aSp ≠ []:=fun e=>by rw[e] at hcl2;simp at hcl2;omega
 rcases hC.inv with ⟨e1,_,_⟩|⟨bs,cap,rfl,rfl⟩
 ·exact absurd e1 hSL0
 ·simp only[List.length_map,List.cons_append,List.nil_append] at hnd ⊢
  obtain⟨⟨m1,m2⟩,⟨m3,m4⟩,_,hnr⟩:=nd3 hnd
  obtain⟨⟨m5,m6⟩,_⟩:=hnr _ List.mem_cons_self
  clear hnr hnd
  have hvw:∀(s:Spn3) (Lq:AHeap),Vws ((bs,.row 57 3 ((SL.map aSp).set j (aSp s)) cap) :: Lq) [aTr ps,.sl 6 (ts.map aPd),.agg [ai 2,ab true,ai 4,.sl 1 [],.sl 1 [],.sl 1 [],.ls bs 3 0 SL.length cap,ai 0]] [aTr ps,.sl 6 (ts.map aPd),.agg [ai 2,ab true,ai 4,.sl 1 [],.sl 1 [],.sl 1 [],.sl 3 ((SL.set j s).map aSp),ai 0]]:=fun s Lq=>by
   rw[← hset]
   refine Vws.cons (.refl _) (Vws.cons (.refl _) (Vws.cons (.mkAgg ?_) .nil))
   refine Vws.cons (.refl _) (Vws.cons (.refl _) (Vws.cons (.refl _) (Vws.cons (.refl _) (Vws.cons (.refl _) (Vws.cons (.refl _) (Vws.cons ?_ (Vws.refl _)))))))
   exact Vw.ofLs (t:=57) (cap:=cap) (if_pos rfl) (by rw[List.length_set,List.length_map])
  simp only[go_sem,m6,n1,n5]
  refine Sd ?_
  repeat(first|((with_reducible refine AWp.ofC ?_ ?_);exact rfl;simp only[go_sem,hge,m1,m3,m5,m6,n1,n5])|((with_reducible refine an ?_ ?_);exact Au))
  refine⟨fun hxb => ?_,fun hxb => ?_⟩
  ·refine Sd ?_
   repeat(first|((with_reducible refine AWp.ofC ?_ ?_);exact rfl;simp only[go_sem,m6,n1,n5])|((with_reducible refine an ?_ ?_);exact Au))
   refine(PC.view (hvw ((s0:Int),(s1:Int) - 1,(s2:Int)) _) (k4 _ rfl (.inl ⟨rfl,rfl⟩)) (Own.v _) ?_).val
   simp only[go_sem]
   repeat(first|((with_reducible refine AWp.ofC ?_ ?_);exact rfl;simp only[go_sem])|((with_reducible refine an ?_ ?_);exact Au))
   refine ret_sub [] (List.nil_sublist _) ?_
   simp only[go_sem]
   exact⟨rfl,rfl⟩
  ·refine Sd ?_
   repeat(first|((with_reducible refine AWp.ofC ?_ ?_);exact rfl;simp only[go_sem,m6,n1,n5])|((with_reducible refine an ?_ ?_);exact Au))
   refine(PC.view (hvw ((s0:Int),(s1:Int),(s2:Int)+1) _) (k4 _ rfl (.inr ⟨rfl,rfl⟩)) (Own.v _) ?_).val
   simp only[go_sem]
   repeat(first|((with_reducible refine AWp.ofC ?_ ?_);exact rfl;simp only[go_sem])|((with_reducible refine an ?_ ?_);exact Au))
   refine ret_sub [] (List.nil_sublist _) ?_
   simp only[go_sem]
   exact⟨rfl,rfl⟩
theorem run_isF {ps:List Pr} {O:List (List Int)} (h:isRunF ps O=true):∀d ∈ O,isF ps d=true:=by
 obtain⟨R,rfl,hc,_⟩:=isrun_inv h
 intro d hd
 rw[List.mem_cons] at hd
 rcases hd with rfl|hd
 ·exact zeroC_is ps
 ·obtain⟨j,hj,rfl⟩:=List.mem_iff_getElem.1 hd
  exact(chn_iff.1 hc j hj).1
set_option maxHeartbeats 2000000 in
theorem law38_ProofsN (ps:List Pr) (ts:List Pd) (x:Int) (hx:0≤x∧x≤255) (hs:Sm ps) (hz:∀t ∈ ts,szF t≤1000000) (htl:ts.length≤1000000) (hC:conF ps ts=0) (hfew:PC Proofs.Tryz.prog 8 [aTr ps,ai 60] (ab true)) (hsm:PC Proofs.Tryz.prog 9 [.sl 6 (ts.map aPd)] (ab true))
  (hft:PC Proofs.Tryz.prog 12 [aTr ps,.sl 6 (ts.map aPd)] (ai 0)) (hfw:fw38 ps 60=true) (hT:¬ ∃t,TgtS ps (rowsOf ps ts) t):PC Proofs.Tryz.prog 6 [aTr ps,.sl 6 (ts.map aPd),.v (.int .u8 x)] (ab true):=by
 have haw:=law38_awake
 have hv:=(conF_inv hC).1
 obtain⟨hn1,hn8⟩:=valid_len hv
 have h1:=(def_none hs ts hz htl hC hT).1
 have hof:=off_few hv hfw
 obtain⟨bh,bk,bc,bsp,hpo,hsat⟩:=poss38 hs ts hz htl hC
 have hwx:IntKind.i64.wrap x=x:=IntWalk.i64_in x (by omega)
 have haR:∀l:List (List Int),aRows l = .sl 1 (l.map aInts):=fun _=>rfl
 have hA:∀(m:Int) (h:Bool) (O:List (List Int)),aAns ⟨m,h,3,[],[],O,[],0⟩ = .agg [ai m,ab h,ai 3,.sl 1 [],.sl 1 [],.sl 1 (O.map aInts),.sl 3 [],ai 0]:=fun _ _ _=>rfl
 have hchk:=fun (an:Ans) (h0:an.spans=[]) (h1:an.run.length≤1000000) (h2:∀x ∈ an.run,x.length≤1000000)=>strong_Check ps hs ts hz htl hC an (by rw[h0];decide) h1 h2
 have hall:∀O:List (List Int),DodgeR ps (elimOf ps ts).ok O→(O.length=off ps ps.length+1∧∀d ∈ O,d.length=ps.length)∧lightB ⟨2,false,3,[],[],O,[],0⟩=true∧(bh=true→(O.any fun d=>decide (d=bc))=false):=fun O hO=>by
  have hrl:=run_len hO.run
  have hdl:∀d ∈ O,d.length=ps.length:=fun d hd=>(isF_iff.1 (run_isF hO.run d hd)).1
  refine⟨⟨hrl,hdl⟩,?_,fun hb => ?_⟩
  ·have hl2:lngR O=false:=by
    unfold lngR
    rw[Bool.or_eq_false_iff]
    refine⟨decide_eq_false (by omega),?_⟩
    rw[List.any_eq_false]
    intro d hd
    unfold lng12
    have:=hdl d hd
    simp only[decide_eq_true_eq];omega
   unfold lightB
   rw[hl2];rfl
  ·rw[List.any_eq_false]
   intro d hd h
   have h:=of_decide_eq_true h
   subst h
   have h1:=sat_avoid (hO.av d hd)
   rw[satG_iff.2 (hsat hb)] at h1
   cases h1
 refine PC.enter 161 [.tmp 6] [3,11,111] Proofs.Tryz.func6 rfl rfl rfl rfl rfl (by simp) (AWp.of ?_);simp only[go_sem]
 refine Wk ?_
 refine Sd ?_
 refine(haw).val.use ?_;simp only[go_sem]
 refine Sd ?_
 refine Gc hfew ?_
 refine Sd ?_
 refine Sd ?_
 refine Gc hsm ?_
 refine Sd ?_
 refine Sd ?_
 refine Gc hft ?_
 refine Sd ?_
 refine Wk ?_
 refine MVal.mono h1.val ?_
 rintro r L ⟨rfl,O,⟨hO,hOl⟩,rfl⟩
 obtain⟨⟨hrl,hdl⟩,hlt,hany⟩:=hall O hO
 have hdl1:∀d ∈ O,d.length≤1000000:=fun d hd=>by have:=hdl d hd;omega
 have k1:=hchk ⟨2,false,3,[],[],O,[],0⟩ rfl (by show O.length≤_;omega) hdl1
 rw[chk_dodge hC hO,hA] at k1
 have k2:=hchk ⟨2,true,3,[],[],O,[],0⟩ rfl (by show O.length≤_;omega) hdl1
 rw[chk_other (.inl ⟨rfl,show (3:Int) ≠ 4 by decide⟩),hA] at k2
 have k3:=hchk ⟨1,false,3,[],[],O,[],0⟩ rfl (by show O.length≤_;omega) hdl1
 rw[chk_mode (show (1:Int) ≠ 2 by decide),hA] at k3
 have hli:=law38_light ⟨2,false,3,[],[],O,[],0⟩
 rw[hlt,hA] at hli
 have hcf:=fun hb:bh=true=>rows_containsFunc O (by omega) (.clo 25 [.rp 8 [.agg [ai 1,ab bh,ai bk,.sl 1 (bc.map ai),.sl 1 [],.sl 1 [],.sl 3 bsp,ai 0]] 0 0]) rfl (fun d=>decide (d=bc)) (fun d hd=>(law38_Proofs1 1 bk 0 bh bc d [] [] bsp (hdl1 d hd)).clo)
 rw[hA]
 simp only[go_sem]
 intro b7
 refine Wk ?_
 refine Sd ?_
 refine Gc k1 ?_
 refine Sd ?_
 refine Sd ?_
 refine Gc hli ?_
 refine Sd ?_
 refine Wk ?_
 intro b9 g1
 have n1:¬b7=b9:=by omega
 have n2:¬b9=b7:=by omega
 refine W2 n1 n2 ?_
 intro b10 g2 g3
 have n3:¬b9=b10:=by omega
 have n4:¬b10=b9:=by omega
 have n5:¬b7=b10:=by omega
 have n6:¬b10=b7:=by omega
 refine W6 n1 n2 n3 n4 n5 n6 ?_
 refine Sd ?_
 refine(k2).val.use ?_;simp only[go_sem,n4,n6]
 refine Sd ?_
 refine GCall.use (ab false) (fun _=>⟨At,(k3).val.use ⟨rfl,rfl⟩⟩) ?_;simp only[go_sem]
 refine Sd ?_
 refine W6 n1 n2 n3 n4 n5 n6 ?_
 refine Sd ?_
 refine(hpo).val.use ?_;simp only[go_sem]
 intros
 refine W6 n1 n2 n3 n4 n5 n6 ?_
 refine GCall.use (ab false) (fun hg=>⟨At,?_⟩) ?_
 ·have hb:bh=true:=by simpa using hg
  have:=hcf hb
  rw[hany hb] at this
  exact this.val.use ⟨rfl,rfl⟩
 simp only[go_sem]
 refine Sd ?_
 have htx:=tmod_nat (x:=x) (n:=O.length) hx.1
 have hjn:x.toNat % O.length<O.length:=Nat.mod_lt _ (by omega)
 have hcc:=rows_concatP [O.take (x.toNat % O.length),O.drop (x.toNat % O.length+1)] (by simp) (by simp;omega)
 rw[show [O.take (x.toNat % O.length),O.drop (x.toNat % O.length+1)].flatten=O.take (x.toNat % O.length) ++ O.drop (x.toNat % O.length+1) by simp,haR] at hcc
 have hk5:=hchk ⟨2,false,3,[],[],O.take (x.toNat % O.length) ++ O.drop (x.toNat % O.length+1),[],0⟩ rfl (by show List.length _≤_;simp;omega) (fun d hd=>by
  rcases List.mem_append.1 hd with hd|hd
  ·exact hdl1 d (List.mem_of_mem_take hd)
  ·exact hdl1 d (List.mem_of_mem_drop hd))
 rw[chk_cut hC hO (by simp;omega),hA] at hk5
 have hn0:¬((O.length:Nat):Int)=0:=by omega
 generalize x.toNat % O.length=j at *
 have hj1:((j:Int)+1).toNat=j+1:=by omega
 refine W6 n1 n2 n3 n4 n5 n6 ?_
 refine⟨fun hl2 => ?_,fun hl2 => ?_⟩
 ·refine W6 n1 n2 n3 n4 n5 n6 ?_
  refine ret_sub [] (List.nil_sublist _) ?_
  simp only[go_sem]
  exact⟨rfl,rfl⟩
 ·repeat(first|((with_reducible refine AWp.ofC ?_ ?_);exact rfl;simp only[go_sem,n1,n5,hwx,htx,hn0])|((with_reducible refine an ?_ ?_);exact Au))
  repeat(first|(with_reducible refine AWp.seq ?_)|(with_reducible refine AWp.block ?_))
  refine AWp.mix mixed [0,2,4,6,7] (.step 1 (.step 3 (.step 5 (.step 8 (.step 9 (.step 10 (.step 11 (.step 12 .done .done) .done) .done) .done) .done) .done) (.step 5 (.step 3 (.step 8 (.step 9 (.step 10 (.step 11 (.step 12 .done .done) .done) .done) .done) .done) (.step 8 (.step 3 (.step 9 (.step 10 (.step 11 (.step 12 .done .done) .done) .done) .done) .done) .done)) .done)) (.step 5 (.step 1 (.step 3 (.step 8 (.step 9 (.step 10 (.step 11 (.step 12 .done .done) .done) .done) .done) .done) (.step 8 (.step 3 (.step 9 (.step 10 (.step 11 (.step 12 .done .done) .done) .done) .done) .done) .done)) (.step 8 (.step 1 (.step 3 (.step 9 (.step 10 (.step 11 (.step 12 .done .done) .done) .done) .done) .done) .done) .done)) .done)) (by kernel_rfl) ?_;simp only[go_sem,n1,n5,hj1]
  repeat' apply And.intro
  all_goals first
   | omega
   | skip
  all_goals
   refine(hcc).val.use ?_
   simp only[go_sem,n1,n5]
  all_goals
   refine W6 n1 n2 n3 n4 n5 n6 ?_
   refine Sd ?_
   refine(hk5).val.use ?_;simp only[go_sem]
   refine W6 n1 n2 n3 n4 n5 n6 ?_
   refine ret_sub [] (List.nil_sublist _) ?_
   simp only[go_sem]
   exact⟨rfl,rfl⟩
theorem law38_StrongProofs (ps:List Pr) (ts:List Pd) (x:Int) (hx:0≤x∧x≤255) (hpl:ps.length≤9223372036854775807) (hev:∀p ∈ ps,p.evs.length≤9223372036854775807):PC Proofs.Tryz.prog 6 [aTr ps,.sl 6 (ts.map aPd),.v (.int .u8 x)] (ab true):=by
 have haw:=law38_awake
 have hfew:=law38_few ps hpl hev 60
 have hsm:=law38_small ts
 have main:fw38 ps 60=true→sm38 ts=true→∃e:Int,PC Proofs.Tryz.prog 12 [aTr ps,.sl 6 (ts.map aPd)] (ai e)∧(e=0→PC Proofs.Tryz.prog 6 [aTr ps,.sl 6 (ts.map aPd),.v (.int .u8 x)] (ab true)):=fun hf hsb=>by
  rw[hf] at hfew
  rw[hsb] at hsm
  obtain⟨e,h1,h2⟩:=guard38 hf hsb
  refine⟨e,h1,fun h0 => ?_⟩
  subst h0
  obtain⟨hs,hC⟩:=h2 rfl
  obtain⟨htl12,hz⟩:=sm38_spec hsb
  by_cases hT:∃t,TgtS ps (rowsOf ps ts) t
  ·obtain⟨a,ha⟩:=least_ex (rowsOf_ok (ps:=ps) (ts:=ts) (conF_inv hC).2.1) hT
   exact law38_ProofsT ps ts x hx hs hz (by omega) hC hfew hsm h1 ha
  ·exact law38_ProofsN ps ts x hx hs hz (by omega) hC hfew hsm h1 hf hT
 generalize fw38 ps 60=F at *
 generalize sm38 ts=S at *
 by_cases hall:F=true∧S=true
 ·obtain⟨rfl,rfl⟩:=hall
  obtain⟨e,h1,h2⟩:=main rfl rfl
  by_cases h0:e=0
  ·exact h2 h0
  ·refine PC.enter 161 [.tmp 6] [3,11,111] Proofs.Tryz.func6 rfl rfl rfl rfl rfl (by simp) (AWp.of ?_);simp only[go_sem]
   refine Wk ?_
   refine Sd ?_
   refine(haw).val.use ?_;simp only[go_sem]
   refine Sd ?_
   refine Gc hfew ?_
   refine Sd ?_
   refine Sd ?_
   refine Gc hsm ?_
   refine Sd ?_
   refine Sd ?_
   refine Gc h1 ?_
   refine Sd ?_
   refine Wk ?_
   refine⟨fun q => ?_,fun q => ?_⟩
   ·refine Wk ?_
    refine Sd ?_
    refine(haw).val.use ?_;simp only[go_sem]
    refine Wk ?_
    refine ret_eq ?_;simp only[go_sem]
   ·exact absurd q h0
 ·refine PC.enter 161 [.tmp 6] [3,11,111] Proofs.Tryz.func6 rfl rfl rfl rfl rfl (by simp) (AWp.of ?_);simp only[go_sem]
  refine Wk ?_
  refine Sd ?_
  refine(haw).val.use ?_;simp only[go_sem]
  refine Sd ?_
  refine Gc hfew ?_
  refine Sd ?_
  refine Sd ?_
  refine Gc hsm ?_
  refine Sd ?_
  refine GCall.use (ai 1) (fun hg=>absurd (by simpa using hg) hall) ?_
  simp only[go_sem]
  refine Wk ?_
  refine⟨fun q => ?_,fun q1 q2 q3 => ?_⟩
  ·refine Wk ?_
   refine Sd ?_
   refine(haw).val.use ?_;simp only[go_sem]
   refine Wk ?_
   refine ret_eq ?_;simp only[go_sem]
  ·exact absurd ⟨q1,q2⟩ hall
end Go.AL
end
section
namespace Go.AL
open Go Go.RowKit
set_option maxRecDepth 100000
section
variable {H:Type} {enc:TypeId × Value→H} {W:World}
theorem rdAsg:Rd enc Proofs.Tryz.prog W 120 2 aAsg (fun _=>True) :=
 (Rd.struct (ts:=[3,3]) Proofs.Tryz.underlying120 rfl rfl (by kernel_rfl) (by kernel_rfl)
  (.cons (Rd.int Proofs.Tryz.underlying3) (fun _=>⟨rfl,rfl⟩) (.cons (Rd.int Proofs.Tryz.underlying3) (fun _=>⟨rfl,rfl⟩) .nil))).map (fun (y:Int × Int × Unit)=>(y.1,y.2.1)) (fun _=>rfl) (fun _ _=>trivial)
theorem rdAsgs:Rd enc Proofs.Tryz.prog W 68 1 aAsgs (fun _=>True) :=
 (Rd.slice Proofs.Tryz.underlying68 (by kernel_rfl:Program.cellsOf Proofs.Tryz.prog 120=2) (by decide) rdAsg).map id (fun _=>rfl) (fun _ _=>trivial)
theorem rdVar:Rd enc Proofs.Tryz.prog W 74 2 aVar (fun _=>True) :=
 (Rd.struct (ts:=[9,3]) Proofs.Tryz.underlying74 rfl rfl (by kernel_rfl) (by kernel_rfl)
  (.cons (Rd.str Proofs.Tryz.underlying9) (fun _=>⟨rfl,rfl⟩) (.cons (Rd.int Proofs.Tryz.underlying3) (fun _=>⟨rfl,rfl⟩) .nil))).map (fun (y:ByteArray × Int × Unit)=>(y.1,y.2.1)) (fun _=>rfl) (fun _ _=>trivial)
theorem rdVars:Rd enc Proofs.Tryz.prog W 63 1 aVars (fun _=>True) :=
 (Rd.slice Proofs.Tryz.underlying63 (by kernel_rfl:Program.cellsOf Proofs.Tryz.prog 74=2) (by decide) rdVar).map id (fun _=>rfl) (fun _ _=>trivial)
theorem rdEv:Rd enc Proofs.Tryz.prog W 70 5 aEv (fun _=>True) :=
 (Rd.struct (ts:=[3,3,3,3,68]) Proofs.Tryz.underlying70 rfl rfl (by kernel_rfl) (by kernel_rfl)
  (.cons (Rd.int Proofs.Tryz.underlying3) (fun _=>⟨rfl,rfl⟩) (.cons (Rd.int Proofs.Tryz.underlying3) (fun _=>⟨rfl,rfl⟩) (.cons (Rd.int Proofs.Tryz.underlying3) (fun _=>⟨rfl,rfl⟩)
   (.cons (Rd.int Proofs.Tryz.underlying3) (fun _=>⟨rfl,rfl⟩) (.cons rdAsgs (fun _=>⟨rfl,rfl⟩) .nil)))))).map (fun (y:Int × Int × Int × Int × List (Int × Int) × Unit)=>⟨y.1,y.2.1,y.2.2.1,y.2.2.2.1,y.2.2.2.2.1⟩) (fun _=>rfl) (fun _ _=>trivial)
end
end Go.AL
end
section
namespace Go.AL
open Go Go.RowKit
set_option maxRecDepth 100000
section
variable {H:Type} {enc:TypeId × Value→H} {W:World}
theorem rdEvsM:Rd enc Proofs.Tryz.prog W 64 1 aEvs (fun l=>l.length≤maxLen) :=
 (Rd.slice Proofs.Tryz.underlying64 (by kernel_rfl:Program.cellsOf Proofs.Tryz.prog 70=5) (by decide) rdEv).map id (fun _=>rfl) (fun _ h=>h.1)
theorem rdPrM:Rd enc Proofs.Tryz.prog W 66 3 aPr (fun p=>p.evs.length≤maxLen) :=
 (Rd.struct (ts:=[9,63,64]) Proofs.Tryz.underlying66 rfl rfl (by kernel_rfl) (by kernel_rfl)
  (.cons (Rd.str Proofs.Tryz.underlying9) (fun _=>⟨rfl,rfl⟩) (.cons rdVars (fun _=>⟨rfl,rfl⟩) (.cons rdEvsM (fun _=>⟨rfl,rfl⟩) .nil)))).map (fun (y:ByteArray × List (ByteArray × Int) × List Ev × Unit)=>⟨y.1,y.2.1,y.2.2.1⟩) (fun _=>rfl) (fun _ h=>h.2.2.1)
theorem rdPrsM:Rd enc Proofs.Tryz.prog W 22 1 aPrs (fun l=>l.length≤maxLen∧∀p ∈ l,p.evs.length≤9223372036854775807) :=
 (Rd.slice Proofs.Tryz.underlying22 (by kernel_rfl:Program.cellsOf Proofs.Tryz.prog 66=3) (by decide) rdPrM).map id (fun _=>rfl) (fun _ h=>h)
theorem rdTrM:Rd enc Proofs.Tryz.prog W 24 1 aTr (fun l=>l.length≤maxLen∧∀p ∈ l,p.evs.length≤9223372036854775807) :=
 (Rd.struct (ts:=[22]) Proofs.Tryz.underlying24 rfl rfl (by kernel_rfl) (by kernel_rfl) (.cons rdPrsM (fun _=>⟨rfl,rfl⟩) .nil)).map (fun (y:List Pr × Unit)=>y.1) (fun _=>rfl) (fun _ h=>h.1)
end
end Go.AL
end
section
namespace Go.AL
open Go Go.RowKit
set_option maxRecDepth 100000
section
variable {H:Type} {enc:TypeId × Value→H} {W:World}
theorem rdPredN:∀N,RdF enc Proofs.Tryz.prog W N 61 6 aPd (fun _=>True)
 | 0 => .zero
 | N+1 =>
  (RdF.struct (ts:=[3,3,3,3,9,25]) Proofs.Tryz.underlying61 rfl rfl (by kernel_rfl) (by kernel_rfl)
   (.cons ((Rd.int Proofs.Tryz.underlying3).bounded N) (fun _=>⟨rfl,rfl⟩) (.cons ((Rd.int Proofs.Tryz.underlying3).bounded N) (fun _=>⟨rfl,rfl⟩) (.cons ((Rd.int Proofs.Tryz.underlying3).bounded N) (fun _=>⟨rfl,rfl⟩)
    (.cons ((Rd.int Proofs.Tryz.underlying3).bounded N) (fun _=>⟨rfl,rfl⟩) (.cons ((Rd.str Proofs.Tryz.underlying9).bounded N) (fun _=>⟨rfl,rfl⟩)
     (.cons ((RdF.slice Proofs.Tryz.underlying25 (by kernel_rfl:Program.cellsOf Proofs.Tryz.prog 61=6) (by decide) (rdPredN N)).mono (Nat.le_succ N)) (fun _=>⟨rfl,rfl⟩) .nil))))))).map
   (fun (y:Int × Int × Int × Int × ByteArray × List Pd × Unit)=>Pd.mk y.1 y.2.1 y.2.2.1 y.2.2.2.1 y.2.2.2.2.1 y.2.2.2.2.2.1) (fun _=>(aPd_mk _ _ _ _ _ _).symm) (fun _ _=>trivial)
theorem rdPreds:Rd enc Proofs.Tryz.prog W 25 1 (fun l:List Pd => .sl 6 (l.map aPd)) (fun l=>l.length≤maxLen) :=
 (Rd.slice Proofs.Tryz.underlying25 (by kernel_rfl:Program.cellsOf Proofs.Tryz.prog 61=6) (by decide) (RdF.all rdPredN)).map id (fun _=>rfl) (fun _ h=>h.1)
end
end Go.AL
end
section
namespace Go.AL
open Go Go.RowKit
set_option maxRecDepth 100000
section
variable {H:Type} {enc:TypeId × Value→H} {W:World}
end
end Go.AL
end
section
namespace Go.AL
open Go Go.RowKit
set_option maxRecDepth 100000
section
variable {H:Type} {enc:TypeId × Value→H} {W:World}
theorem Rd.u8 {P:Program} {t:TypeId} (ht:P.underlying t=some (.int .u8)):Rd enc P W t 1 (fun n:Int => .v (.int .u8 n)) (fun n=>0≤n∧n≤255):=by
 intro fuel cs x h
 obtain⟨n,rfl,_,hw⟩:=DataW.trod_int ht h
 have hb:IntKind.u8.min≤n∧n≤IntKind.u8.max:=by
  unfold Lit.wf at hw
  rwa [Bool.and_eq_true,decide_eq_true_eq,decide_eq_true_eq] at hw
 refine⟨n,⟨Int.le_trans (by decide) hb.1,Int.le_trans hb.2 (by decide)⟩,⟨rfl,rfl⟩,rfl,fun i c u h1 h2 => ?_⟩
 cases i with
 | zero=>cases h1;cases h2;exact .v _
 | succ i=>cases h2
theorem rdU8:Rd enc Proofs.Tryz.prog W 5 1 (fun n:Int => .v (.int .u8 n)) (fun n=>0≤n∧n≤255):=Rd.u8 Proofs.Tryz.underlying5
end
end Go.AL
end
