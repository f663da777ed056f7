/- Texts of this claim's proof: WK9, WK10, WK11, AlArr. No condition. -/
import Derived.Test.YtpcmoecaaphjmaaGreatDoorM24
import Derived.Test.YtpcmoecaaphjmaaGreatDoorM13
import Derived.Test.YtpcmoecaaphjmaaGreatDoorM18
import Derived.Test.YtpcmoecaaphjmaaGreatDoorM15
import Derived.Laws.Slices
section
namespace Go.AL
open Go Go.RowKit
set_option maxRecDepth 4000
def aSr (ps:List Pr) (ts:List Pd):AV:=.agg [aPrs ps,aPts ts]
def aOpt:Option (List Int)→AV
 | some c=>aInts c
 | none=>anil
def AllP' (ps:List Pr) (ts:List Pd) (c:List Int):Prop:=∀t ∈ ts,truF (obC ps c) t=true
theorem bool_part (ps:List Pr) (hs:Sm ps) (t:Pd) (h:PartOk ps t) (c:List Int) (hc:isF ps c=true):PC Proofs.Tryz.prog 90 [aTr ps,aInts c,aPd t] (.tup [ab (truF (obC ps c) t),ai 0]):=by
 have hv:=(checkF_zero h.ck).1
 have h8:=(valid_len hv).2
 have hcl:=(isF_iff.1 hc).1
 refine evaluate_BoolC ps hs c (by omega) t h.sz ?_
 unfold atE
 rw[if_neg (by omega),h.ck,if_neg (by decide),(isF_given hv).2 hc,if_neg (by decide),res_of_bool h.ok.2.2,if_neg (by decide),h.ntm]
 rfl
structure FrmI (ps:List Pr) (ts:List Pd) (c0 c:List Int) (i:Nat):Prop where
 is:isF ps c=true
 ge:leC c0 c
 low:∀e,isF ps e=true→leC c0 e→AllP' ps ts e→leC c e
 tru:∀j (hj:j<ts.length),j<i→truF (obC ps c) ts[j]=true
 le:i≤ts.length
def frmM (ps:List Pr) (ts:List Pd) (c:List Int) (i:Nat):Nat:=(off ps ps.length - totC c) * (ts.length+1)+(ts.length - i)
set_option maxHeartbeats 4000000 in
theorem irr_from (ps:List Pr) (hs:Sm ps) (hv:validF ps=true) (ts:List Pd) (hl:ts.length≤1000000) (hp:∀t ∈ ts,PartOk ps t) (c0:List Int) (hc0:isF ps c0=true) :
  PC Proofs.Tryz.prog 50 [aSr ps ts,aInts c0] (aOpt (lstQ ps (AllP' ps ts) c0)):=by
 have hbool:=fun i (hi:i<ts.length) c hc=>bool_part ps hs ts[i] (hp _ (List.getElem_mem hi)) c hc
 have hforb:=fun i (hi:i<ts.length) c hc=>irr_forbidden ps hs ts[i] (hp _ (List.getElem_mem hi)) c hc
 have hspec:=fun i (hi:i<ts.length) c d => @fb_spec ps hv ts[i] (hp _ (List.getElem_mem hi)) c d
 have hrng:=fun i (hi:i<ts.length) c=>fb_rng hv (hp _ (List.getElem_mem hi)) c
 have hend:∀c,FrmI ps ts c0 c ts.length→lstQ ps (AllP' ps ts) c0=some c:=fun c h=>lsq_eq ⟨h.is,h.ge,fun t ht=>by
  obtain⟨j,hj,rfl⟩:=List.getElem_of_mem ht
  exact h.tru j hj hj,h.low⟩
 have hnone:(∀e,isF ps e=true→leC c0 e→¬AllP' ps ts e)→lstQ ps (AllP' ps ts) c0=none:=lsq_none
 generalize lstQ ps (AllP' ps ts) c0=R at *
 have h8:=(valid_len hv).2
 have hS:aSr ps ts = .agg [.sl 3 (ps.map aPr),.sl 7 (ts.map aPt)]:=rfl
 rw[hS]
 refine PC.enter 72 [.tmp 4] [2] Proofs.Tryz.func50 rfl rfl rfl rfl rfl (by simp) (AWp.of ?_);simp only[go_sem]
 refine Wk ?_
 refine AWp.block (AWp.loopN [1,5] [2] (fun m vs L=>∃(c:List Int) (i:Nat),m=frmM ps ts c i∧vs=[.sl 1 (c.map ai),ai i]∧L=[]∧FrmI ps ts c0 c i) (frmM ps ts c0 0) ⟨c0,0,rfl,rfl,rfl,hc0,.refl _,fun e _ h _=>h,fun j _ h=>by omega,by omega⟩ ?_)
 rintro m vs L - ⟨c,i,rfl,rfl,rfl,hI⟩
 have hcl:=(isF_iff.1 hI.is).1
 by_cases hi:i<ts.length
 rotate_left
 ·obtain rfl:i=ts.length:=by have:=hI.le;omega
  have hR:=hend c hI
  have hii:¬(ts.length:Int)<ts.length:=by omega
  simp only[go_sem]
  refine W1 hii ?_
  refine ret_eq ?_;simp only[go_sem]
  rw[hR]
  rfl
 have hgi:=getD_map (f:=aPt) hi
 have hb:=hbool i hi c hI.is
 have hf:=hforb i hi c hI.is
 have hsp:=fun d => @hspec i hi c d
 have hrg:=hrng i hi c
 have hii:(i:Int)<ts.length:=by omega
 have htr:truF (obC ps c) ts[i]=true→FrmI ps ts c0 c (i+1):=fun h=>⟨hI.is,hI.ge,hI.low,fun j hj hji=>by
  by_cases e:j=i
  ·subst e;exact h
  ·exact hI.tru j hj (by omega),by omega⟩
 have hms:frmM ps ts c (i+1)<frmM ps ts c i:=by unfold frmM;omega
 have hT:aTr ps = .agg [.sl 3 (ps.map aPr)]:=rfl
 have hC:aInts c = .sl 1 (c.map ai):=rfl
 obtain⟨k,n,p,q,s,X,e1,e2⟩:=aPt_shape ts[i]
 rw[e1,hT,hC] at hb
 rw[e2,hT,hC] at hf
 rw[e2] at hgi
 clear hbool hforb hspec hrng hT hC
 cases htb:truF (obC ps c) ts[i] with
 | true =>
  have hI':=htr htb
  rw[htb] at hb
  simp only[go_sem]
  refine W1 hii ?_
  repeat(first|(with_reducible refine AWp.seq ?_)|(with_reducible refine AWp.block ?_))
  refine AWp.mix mixed [0,1,2,3,4,5,6,7,8,9,10,11,12,13,14] .done (by kernel_rfl) ?_;simp only[go_sem,hgi]
  refine Sd ?_
  refine Gc hb ?_
  refine Sd ?_
  refine W1 hii ?_
  exact⟨_,List.Sublist.refl _,_,hms,c,i+1,rfl,rfl,rfl,hI'⟩
 | false =>
  rw[htb] at hb
  simp only[go_sem]
  refine W1 hii ?_
  repeat(first|(with_reducible refine AWp.seq ?_)|(with_reducible refine AWp.block ?_))
  refine AWp.mix mixed [0,1,2,3,4,5,6,7,8,9,10,11,12,13,14] .done (by kernel_rfl) ?_;simp only[go_sem,hgi]
  refine Sd ?_
  refine Gc hb ?_
  refine Sd ?_
  refine W1 hii ?_
  repeat(first|(with_reducible refine AWp.seq ?_)|(with_reducible refine AWp.block ?_))
  refine AWp.mix mixed [0,1,2,3,4,5,6,7,8,9] .done (by kernel_rfl) ?_;simp only[go_sem,hgi]
  refine Sd ?_
  refine Gc hf ?_
  refine Sd ?_
  refine W1 hii ?_
  have hno:(∀d:Nat,fbF ps c ts[i]=d→∀hd:d<ps.length,ps[d].evs.length≤c.getD d 0)→R=none:=fun h=>hnone fun e h1 h2 h3=>by
   obtain⟨d,f1,f2,f3⟩:=hsp e (hI.low e h1 h2 h3) htb (h3 _ (List.getElem_mem hi))
   have:=h d f1 f2
   obtain⟨b1,b2⟩:=inRangeF_get (isF_iff.1 h1).2.1 (isF_iff.1 h1).1 f2
   rw[List.getD_eq_getElem?_getD (l:=e),List.getElem?_eq_getElem (by have:=(isF_iff.1 h1).1;omega)] at f3
   have f3:c.getD d 0<e[d]'(by have:=(isF_iff.1 h1).1;omega):=f3
   omega
  have hlow:∀e,isF ps e=true→leC c0 e→AllP' ps ts e→∀d:Nat,fbF ps c ts[i]=d→leC c e∧c.getD d 0<e.getD d 0:=fun e h1 h2 h3 d hd=>by
   obtain⟨d',f1,f2,f3⟩:=hsp e (hI.low e h1 h2 h3) htb (h3 _ (List.getElem_mem hi))
   have:d'=d:=by omega
   subst this
   exact⟨hI.low e h1 h2 h3,f3⟩
  clear hsp htr hms hb hf hend hnone
  generalize fbF ps c ts[i]=F at *
  rcases hrg with rfl|⟨j,rfl,hj⟩
  ·have hR:=hno fun d e=>by omega
   have h0:=(valid_len hv).1
   have hT0:Int.toNat (-1)=0:=rfl
   have hgp:=getD_map (f:=aPr) (show 0<ps.length by omega)
   have hgc:=getD_map (f:=ai) (show 0<c.length by omega)
   have hnj:(-1:Int)<0:=by omega
   repeat(first|(with_reducible refine AWp.seq ?_)|(with_reducible refine AWp.block ?_))
   refine AWp.mix mixed [0,1,2,3,4,5,6,7,8,9,10,11,12,13,14,15,16] .done (by kernel_rfl) ?_;simp only[go_sem,hT0,hgc,hgp,hnj]
   refine Wk ?_
   refine ret_eq ?_;simp only[go_sem]
   rw[hR];rfl
  have hgc:(c.map ai).getD j .any=ai (c.getD j 0):=by
   rw[getD_map (f:=ai) (show j<c.length by omega),List.getD_eq_getElem?_getD,List.getElem?_eq_getElem (show j<c.length by omega)];rfl
  have hgp:=getD_map (f:=aPr) hj
  have hjc:(j:Int)<c.length:=by omega
  have hjp:(j:Int)<ps.length:=by omega
  have hnj:¬(j:Int)<0:=by omega
  by_cases hlt:c.getD j 0<ps[j].evs.length
  rotate_left
  ·have hR:=hno fun d e hd=>by
    have:d=j:=by omega
    subst this;omega
   generalize c.getD j 0=cj at *
   have hge:(ps[j].evs.length:Int)≤cj:=by omega
   repeat(first|(with_reducible refine AWp.seq ?_)|(with_reducible refine AWp.block ?_))
   refine AWp.mix mixed [0,1,2,3,4,5,6,7,8,9,10,11,12,13,14,15,16] .done (by kernel_rfl) ?_;simp only[go_sem,hgc,hgp,hnj]
   refine Sd ?_
   refine W1 hge ?_
   refine ret_eq ?_;simp only[go_sem]
   rw[hR];rfl
  ·have hjl:j<c.length:=by omega
   have hbd:c.getD j 0=c[j]'hjl:=by rw[List.getD_eq_getElem?_getD,List.getElem?_eq_getElem hjl];rfl
   have hb8:=inRangeF_get (isF_iff.1 hI.is).2.1 hcl hj
   have hb9:=hs.evs _ (List.getElem_mem hj)
   rw[← hbd] at hb8
   have hst:=close_step hv hI.is hj hlt
   obtain⟨s1,s2,s3,s4,s5,s6⟩:=hst
   have hI':FrmI ps ts c0 (closeF ps (c.set j (c.getD j 0+1))) 0:=⟨s3,hI.ge.trans s4,fun e h1 h2 h3=>by
    obtain⟨q1,q2⟩:=hlow e h1 h2 h3 j rfl
    exact s6 e h1 q1 q2,fun j _ h=>by omega,by omega⟩
   have hms:frmM ps ts (closeF ps (c.set j (c.getD j 0+1))) 0<frmM ps ts c i:=by
    have t1:=totC_ltC hI.is s3 s4 ⟨j,hj,s5⟩
    have t2:=totC_le (isF_iff.1 s3).1 (isF_iff.1 s3).2.1
    unfold frmM
    have t3:=Nat.mul_le_mul_right (ts.length+1) (show off ps ps.length - totC (closeF ps (c.set j (c.getD j 0+1)))+1≤off ps ps.length - totC c by omega)
    rw[Nat.add_mul] at t3
    omega
   have hcc:=cut_Close ps hs hv _ s1 s2
   have hco:=ints_cloneO c (by omega)
   have hT:aTr ps = .agg [.sl 3 (ps.map aPr)]:=rfl
   have hC:∀c:List Int,aInts c = .sl 1 (c.map ai):=fun _=>rfl
   rw[hT,hC,hC,List.map_set] at hcc
   rw[hC] at hco
   have hset:=List.map_set (f:=ai) (l:=c) (i:=j) (a:=c.getD j 0+1)
   have hne:c.map ai ≠ []:=by
    intro e
    have:c=[]:=by simpa using e
    rw[this] at hjl
    exact absurd hjl (by simp)
   clear s1 s2 s3 s4 s5 s6 hlow hno hI hbd
   generalize closeF ps (c.set j (c.getD j 0+1))=D at *
   generalize c.getD j 0=cj at *
   have hge:¬(ps[j].evs.length:Int)≤cj:=by omega
   repeat(first|(with_reducible refine AWp.seq ?_)|(with_reducible refine AWp.block ?_))
   refine AWp.mix mixed [0,1,2,3,4,5,6,7,8,9,10,11,12,13,14,15,16] .done (by kernel_rfl) ?_;simp only[go_sem,hgc,hgp,hnj]
   refine Sd ?_
   refine W1 hge ?_
   refine(MVal.frame (Lm:=[]) (Lr:=_) hco.val).mono ?_
   rintro r L ⟨L1,rfl,hA⟩
   rcases hA.inv with ⟨e,_,_⟩|⟨b,cap,rfl,rfl⟩
   ·exact absurd e hne
   simp only[go_sem]
   refine Sd ?_
   refine AWp.of ?_;simp only[go_sem,hgc]
   refine Sd ?_
   refine AWp.viewP (Lf:=[(b,.row 3 1 ((c.map ai).set j (ai (cj+1))) cap)]) (Lk:=[]) (L':=[]) (List.Perm.refl _) (LVw.refl _) [(1,.sl 1 ((c.map ai).set j (ai (cj+1))))] (fun z hz => ?_) ?_
   ·obtain rfl:=List.mem_singleton.1 hz
    exact Vw.ofLs (if_pos rfl) (by simp)
   simp only[go_sem]
   refine Wk ?_
   refine Sd ?_
   refine(hcc).val.use ?_;simp only[go_sem]
   refine Wk ?_
   exact⟨_,List.Sublist.refl _,_,hms,D,0,rfl,rfl,rfl,hI'⟩
theorem classify_ClassE (ps:List Pr) (hs:Sm ps) (t:Pd) (hz:szF t≤1000000) (hck:checkF ps t=0) (hp:¬prdF t=0):PC Proofs.Tryz.prog 87 [aTr ps,aPd t] (.tup [.agg [ai 0,anil,anil,ai 0,ai 0],ai (prdF t)]):=by
 have h1:=predtype_Check ps hs t hz
 rw[hck] at h1
 have h2:=classify_Normal t hz
 unfold nrmF at h2
 rw[if_neg hp,aPd_pd0] at h2
 generalize prdF t=e at *
 obtain⟨k,n,p,q,s,X,hT⟩:=aPd_shape t
 have hTr:aTr ps = .agg [.sl 3 (ps.map aPr)]:=rfl
 rw[hT,hTr] at h1
 rw[hT] at h2
 rw[hT,hTr]
 have h3:PC Proofs.Tryz.prog 133 [.agg [.sl 3 (ps.map aPr)],.agg [ai k,ai n,ai p,ai q,astr s,.sl 6 X]] (.tup [.agg [ai 0,ai 0,ai 0,ai 0,astr ByteArray.empty,.sl 6 []],ai e]):=by
  refine PC.enter 18 [.cell 4 27,.tmp 5] [2,3] Proofs.Tryz.func133 rfl rfl rfl rfl rfl (by simp) (AWp.of ?_);simp only[go_sem]
  intro b4
  refine Wk ?_
  refine Sd ?_
  refine(h1).val.use ?_;simp only[go_sem]
  refine Wk ?_
  refine Sd ?_
  refine(h2).val.use ?_;simp only[go_sem]
  refine Wk ?_
  refine ret_eq ?_;simp only[go_sem]
 refine PC.enter 113 [.cell 4 133,.tmp 5] [2,3,6] Proofs.Tryz.func87 rfl rfl rfl rfl rfl (by simp) (AWp.of ?_);simp only[go_sem]
 intro b4
 refine Wk ?_
 refine Sd ?_
 refine(h3).val.use ?_;simp only[go_sem]
 refine Wk ?_
 intro b6 g6
 have n1:¬b4=b6:=by omega
 have n2:¬b6=b4:=by omega
 try simp only[go_sem,n1,n2]
 refine Sd ?_
 refine W3 n1 n2 hp ?_
 refine ret_eq ?_;simp only[go_sem]
def clsB (t:Pd) (cl:Int):Bool:=if cl=8 then lnrF (normF t false) else lnrF (normF t false) && plnF (normF t false)
def madE (t:Pd) (cl:Int):Int:=if ¬prdF t=0 then prdF t else if clsB t cl=true∧allB ntmB t=true then 0 else 15
theorem ntm_normB (t:Pd) (h:PredOk t):∀b,allB ntmB (normF t b)=allB ntmB t:=by
 refine PredOk.ind (P:=fun t=>∀b,allB ntmB (normF t b)=allB ntmB t) ?_ ?_ ?_ ?_ ?_ t h
 ·intro k hk b
  rw[norm_leaf k hk,nd_allB,nd_allB,ntm_nd,ntm_nd]
  rcases hk with rfl|rfl <;> (cases b <;> decide)
 ·intro k x y hk _ _ b
  have e:(!decide (18≤(if b then oppF k else k)∧(if b then oppF k else k)≤21))=true:=by rcases hk with rfl|rfl|rfl|rfl <;> (cases b <;> decide)
  have e2:(!decide (18≤k∧k≤21))=true:=by rcases hk with rfl|rfl|rfl|rfl <;> decide
  rw[norm_cmp k hk,nd_allB,nd_allB,ntm_nd,ntm_nd,e,e2]
  split <;> simp [Bool.and_comm]
 ·intro x _ ih b
  rw[norm_not,ih,nd_allB,ntm_nd]
  simp
 ·intro k x y hk _ _ ih1 ih2 b
  have e:(!decide (18≤(if b then oppF k else k)∧(if b then oppF k else k)≤21))=true:=by rcases hk with rfl|rfl <;> (cases b <;> decide)
  have e2:(!decide (18≤k∧k≤21))=true:=by rcases hk with rfl|rfl <;> decide
  rw[norm_bin k hk,nd_allB,nd_allB,ntm_nd,ntm_nd,e,e2]
  simp [ih1 b,ih2 b]
 ·intro k x hk _ ih b
  have e:(!decide (18≤(if b then oppF k else k)∧(if b then oppF k else k)≤21))=false:=by rcases hk with rfl|rfl|rfl|rfl <;> (cases b <;> decide)
  have e2:(!decide (18≤k∧k≤21))=false:=by rcases hk with rfl|rfl|rfl|rfl <;> decide
  rw[norm_tmp k hk,nd_allB,nd_allB,ntm_nd,ntm_nd,e,e2]
  rfl
theorem ntm_norm {t:Pd} (h:PredOk t):allB ntmB (normF t false)=allB ntmB t:=ntm_normB t h false
set_option maxHeartbeats 2000000 in
theorem irr_made (ps:List Pr) (hs:Sm ps) (t:Pd) (hz:szF t≤1000000) (hck:checkF ps t=0) (cl:Int) (hcl:cl=8∨cl=32) :
  PC Proofs.Tryz.prog 49 [aTr ps,aPd t,ai cl] (.tup [if madE t cl=0 then aSr ps (cjF (normF t false)) else .agg [.sl 3 [],.sl 7 []],ai (madE t cl)]):=by
 have hTr:aTr ps = .agg [.sl 3 (ps.map aPr)]:=rfl
 by_cases hp:prdF t=0
 rotate_left
 ·have h1:=classify_ClassE ps hs t hz hck hp
  have e:madE t cl=prdF t:=by unfold madE;rw[if_pos hp]
  rw[e,if_neg hp]
  generalize prdF t=e at *
  obtain⟨k,n,p,q,s,X,hT⟩:=aPd_shape t
  rw[hT,hTr] at h1 ⊢
  refine PC.enter 47 [.cell 6 93,.tmp 7] [3,4,8,10] Proofs.Tryz.func49 rfl rfl rfl rfl rfl (by simp) (AWp.of ?_);simp only[go_sem]
  intro b6
  refine Wk ?_
  refine Sd ?_
  refine(h1).val.use ?_;simp only[go_sem]
  refine Wk ?_
  intro b8 g8
  have n1:¬b6=b8:=by omega
  have n2:¬b8=b6:=by omega
  refine Sd ?_
  refine W3 n1 n2 hp ?_
  refine ret_view [true] ?_;simp only[go_sem]
  exact .mkTup (Vws.cons (.mkAgg (Vws.cons (.nil 3) (Vws.cons (.nil 7) .nil))) (Vws.refl _))
 have hnf:=nf_of hck hp
 have hC:=classify_Class ps hs t hz hck hp
 have hN:=classify_Normal t hz
 unfold nrmF at hN
 rw[if_pos hp,hp] at hN
 have hP:=irr_partsP ps hs (normF t false) hnf
 have b8:=bits_8 (normF t false)
 have b32:=bits_32 (normF t false)
 have b512:=bits_512 (normF t false)
 rw[ntm_norm (prd_ok hp)] at b512
 have e:madE t cl=if clsB t cl=true∧allB ntmB t=true then 0 else 15:=by unfold madE;rw[if_neg (fun h=>h hp)]
 have hbit:∀s,andK .i64 (bitsF (normF t false) s) cl=0↔clsB t cl=false:=fun s=>by
  unfold clsB
  rcases hcl with rfl|rfl
  ·exact b8 s
  ·exact b32 s
 have hbt:∀s,¬andK .i64 (bitsF (normF t false) s) 512=0↔allB ntmB t=false:=fun s=>by
  rw[b512 s];simp
 generalize bitsF (normF t false)=BF at *
 have hPs:aPts (cjF (normF t false)) = .sl 7 ((cjF (normF t false)).map aPt):=rfl
 have hSr:aSr ps (cjF (normF t false)) = .agg [.sl 3 (ps.map aPr),.sl 7 ((cjF (normF t false)).map aPt)]:=rfl
 rw[hPs] at hP
 rw[hSr]
 generalize (cjF (normF t false)).map aPt=PP at *
 obtain⟨k,n,p,q,s,X,hT⟩:=aPd_shape t
 obtain⟨k2,n2,p2,q2,s2,X2,hNN⟩:=aPd_shape (normF t false)
 rw[hT,hTr] at hC
 rw[hT,hNN] at hN
 rw[hNN,hTr] at hP
 rw[hT,hTr]
 generalize ps.map aPr=T at *
 clear hPs hSr hT hNN b8 b32 b512 hnf hs hTr
 cases hb:clsB t cl with
 | false =>
  have e:madE t cl=15:=by rw[e,hb];simp
  rw[hb] at hbit
  rw[e,if_neg (by decide)]
  refine PC.enter 47 [.cell 6 93,.tmp 7] [3,4,8,10] Proofs.Tryz.func49 rfl rfl rfl rfl rfl (by simp) (AWp.of ?_);simp only[go_sem]
  intro b6
  refine Wk ?_
  refine(MVal.frame (Lm:=[]) (Lr:=_) hC.val).mono ?_
  rintro r L ⟨L1,rfl,rfl,s',X',Y',o',b',rfl⟩
  have h0:=(hbit s').2 rfl
  generalize BF s'=B at *
  simp only[go_sem]
  intro b8 g8
  have n1:¬b6=b8:=by omega
  have n2:¬b8=b6:=by omega
  refine Sd ?_
  refine W3 n1 n2 h0 ?_
  refine ret_view [true] ?_;simp only[go_sem]
  exact .mkTup (Vws.cons (.mkAgg (Vws.cons (.nil 3) (Vws.cons (.nil 7) .nil))) (Vws.refl _))
 | true =>
  rw[hb] at hbit
  cases ht:allB ntmB t with
  | false =>
   have e:madE t cl=15:=by rw[e,ht];simp
   rw[ht] at hbt
   rw[e,if_neg (by decide)]
   refine PC.enter 47 [.cell 6 93,.tmp 7] [3,4,8,10] Proofs.Tryz.func49 rfl rfl rfl rfl rfl (by simp) (AWp.of ?_);simp only[go_sem]
   intro b6
   refine Wk ?_
   refine(MVal.frame (Lm:=[]) (Lr:=_) hC.val).mono ?_
   rintro r L ⟨L1,rfl,rfl,s',X',Y',o',b',rfl⟩
   have h0:¬andK .i64 (BF s') cl=0:=fun h=>absurd ((hbit s').1 h) (by decide)
   have h1:=(hbt s').2 rfl
   generalize BF s'=B at *
   simp only[go_sem]
   intro b8 g8
   have n1:¬b6=b8:=by omega
   have n2:¬b8=b6:=by omega
   refine Sd ?_
   refine W4 n1 n2 h0 h1 ?_
   refine ret_view [true] ?_;simp only[go_sem]
   exact .mkTup (Vws.cons (.mkAgg (Vws.cons (.nil 3) (Vws.cons (.nil 7) .nil))) (Vws.refl _))
  | true =>
   have e:madE t cl=0:=by rw[e,hb,ht];simp
   rw[ht] at hbt
   rw[e,if_pos rfl]
   refine PC.enter 47 [.cell 6 93,.tmp 7] [3,4,8,10] Proofs.Tryz.func49 rfl rfl rfl rfl rfl (by simp) (AWp.of ?_);simp only[go_sem]
   intro b6
   refine Wk ?_
   refine(MVal.frame (Lm:=[]) (Lr:=_) hC.val).mono ?_
   rintro r L ⟨L1,rfl,rfl,s',X',Y',o',b',rfl⟩
   have h0:¬andK .i64 (BF s') cl=0:=fun h=>absurd ((hbit s').1 h) (by decide)
   have h1:andK .i64 (BF s') 512=0:=Decidable.byContradiction fun h=>absurd ((hbt s').1 h) (by decide)
   generalize BF s'=B at *
   simp only[go_sem]
   intro b8 g8
   have n1:¬b6=b8:=by omega
   have n2:¬b8=b6:=by omega
   refine Sd ?_
   refine W4 n1 n2 h0 h1 ?_
   refine Sd ?_
   refine(hN).val.use ?_;simp only[go_sem]
   refine W2 n1 n2 ?_
   intro b10 g10
   have n3:¬b6=b10:=by omega
   have n4:¬b10=b6:=by omega
   refine Sd ?_
   refine W4 n1 n2 n3 n4 ?_
   repeat(first|(with_reducible refine AWp.seq ?_)|(with_reducible refine AWp.block ?_))
   refine AWp.mix mixed [0,1,2,3,4,6] (.step 5 .done .done) (by kernel_rfl) ?_;simp only[go_sem,n1,n2,n3,n4]
   refine Sd ?_
   refine GCall.use (.sl 7 PP) (fun _=>⟨At,(hP).val.use ⟨rfl,rfl⟩⟩) ?_;simp only[go_sem,n1,n2,n3,n4]
   refine Sd ?_
   refine W4 n1 n2 n3 n4 ?_
   refine ret_eq ?_;simp only[go_sem]
theorem mad_zero {t:Pd} {cl:Int} (h:madE t cl=0):prdF t=0∧clsB t cl=true∧allB ntmB t=true:=by
 unfold madE at h
 split at h
 ·rename_i h1;exact absurd h h1
 ·rename_i h1
  split at h
  ·rename_i h2;exact⟨Decidable.byContradiction h1,h2⟩
  ·cases h
theorem cls_lin {t:Pd} {cl:Int} (h:clsB t cl=true):lnrF (normF t false)=true:=by
 unfold clsB at h
 split at h
 ·exact h
 ·rw[Bool.and_eq_true] at h;exact h.1
theorem all_tru {ps:List Pr} {t:Pd} (hck:checkF ps t=0) (hp:prdF t=0) (ht:allB ntmB t=true):AllP' ps (cjF (normF t false))=TruP ps t:=by
 funext c
 have h1:=pt_tru (obC ps c) _ (nf_of hck hp)
 have h2:=norm_tru (obC ps c) t (prd_ok hp) ht false
 rw[h2] at h1
 have h3:truF (obC ps c) t=(cjF (normF t false)).all (truF (obC ps c)):=by rw[← h1];simp
 unfold AllP' TruP
 rw[h3,List.all_eq_true]
theorem from_tru (ps:List Pr) (hs:Sm ps) (t:Pd) (hck:checkF ps t=0) {cl:Int} (hm:madE t cl=0) (c:List Int) (hc:isF ps c=true):PC Proofs.Tryz.prog 50 [aSr ps (cjF (normF t false)),aInts c] (aOpt (lstQ ps (TruP ps t) c)):=by
 obtain⟨h1,h2,h3⟩:=mad_zero hm
 have hnf:=nf_of hck h1
 have h4:=irr_from ps hs (checkF_zero hck).1 (cjF (normF t false)) (Nat.le_trans (pt_len _ hnf) (nf_sz hnf)) (pt_ok _ hnf (cls_lin h2) (by rw[ntm_norm (prd_ok h1)];exact h3)) c hc
 rwa [all_tru hck h1 h3] at h4
noncomputable def lesE (ps:List Pr) (t:Pd) (x:Eid):Int:=if checkF ps t ≠ 0 then checkF ps t else if pstE ps x ≠ 0 then pstE ps x else if madE t 8 ≠ 0 then madE t 8 else if (lstQ ps (TruP ps t) (pstF ps x)).isSome then 0 else 7
noncomputable def lesF (ps:List Pr) (t:Pd) (x:Eid):Option (List Int):=if lesE ps t x=0 then lstQ ps (TruP ps t) (pstF ps x) else none
set_option maxHeartbeats 2000000 in
theorem irr_Least (ps:List Pr) (hs:Sm ps) (t:Pd) (hz:szF t≤1000000) (x:Eid):PC Proofs.Tryz.prog 9 [aTr ps,aPd t,aEid x] (.tup [aOpt (lesF ps t x),ai (lesE ps t x)]):=by
 have h1:=predtype_Check ps hs t hz
 have hTr:aTr ps = .agg [.sl 3 (ps.map aPr)]:=rfl
 have hX:aEid x = .agg [ai x.1,ai x.2]:=rfl
 by_cases hck:checkF ps t=0
 rotate_left
 ·have e:lesE ps t x=checkF ps t:=by unfold lesE;rw[if_pos hck]
  have e2:lesF ps t x=none:=by unfold lesF;rw[e,if_neg hck]
  rw[e,e2]
  generalize checkF ps t=E at *
  obtain⟨k,n,p,q,s,X,hT⟩:=aPd_shape t
  rw[hT,hTr] at h1 ⊢
  rw[hX]
  refine PC.enter 45 [.tmp 6,.tmp 7] [3,4,5,11] Proofs.Tryz.func9 rfl rfl rfl rfl rfl (by simp) (AWp.of ?_);simp only[go_sem]
  refine Wk ?_
  refine Sd ?_
  refine(h1).val.use ?_;simp only[go_sem]
  refine W1 hck ?_
  refine ret_eq ?_;simp only[go_sem]
  rfl
 rw[hck] at h1
 have h2:=causality_Past ps hs x
 by_cases hp:pstE ps x=0
 rotate_left
 ·have e:lesE ps t x=pstE ps x:=by unfold lesE;rw[if_neg (fun h=>h hck),if_pos hp]
  have e2:lesF ps t x=none:=by unfold lesF;rw[e,if_neg hp]
  rw[e,e2]
  have hI:aInts (pstF ps x) = .sl 1 ((pstF ps x).map ai):=rfl
  generalize pstE ps x=E at *
  obtain⟨k,n,p,q,s,X,hT⟩:=aPd_shape t
  rw[hT,hTr] at h1
  rw[hTr,hX,hI] at h2
  rw[hT,hTr,hX]
  refine PC.enter 45 [.tmp 6,.tmp 7] [3,4,5,11] Proofs.Tryz.func9 rfl rfl rfl rfl rfl (by simp) (AWp.of ?_);simp only[go_sem]
  refine Wk ?_
  refine Sd ?_
  refine(h1).val.use ?_;simp only[go_sem]
  refine Wk ?_
  refine Sd ?_
  refine(h2).val.use ?_;simp only[go_sem]
  refine W1 hp ?_
  refine ret_eq ?_;simp only[go_sem]
  rfl
 rw[hp] at h2
 have h3:=irr_made ps hs t hz hck 8 (.inl rfl)
 by_cases hm:madE t 8=0
 rotate_left
 ·have e:lesE ps t x=madE t 8:=by unfold lesE;rw[if_neg (fun h=>h hck),if_neg (fun h=>h hp),if_pos hm]
  have e2:lesF ps t x=none:=by unfold lesF;rw[e,if_neg hm]
  rw[e,e2]
  rw[if_neg hm] at h3
  have hI:aInts (pstF ps x) = .sl 1 ((pstF ps x).map ai):=rfl
  generalize madE t 8=E at *
  obtain⟨k,n,p,q,s,X,hT⟩:=aPd_shape t
  rw[hT,hTr] at h1 h3
  rw[hTr,hX,hI] at h2
  rw[hT,hTr,hX]
  refine PC.enter 45 [.tmp 6,.tmp 7] [3,4,5,11] Proofs.Tryz.func9 rfl rfl rfl rfl rfl (by simp) (AWp.of ?_);simp only[go_sem]
  refine Wk ?_
  refine Sd ?_
  refine(h1).val.use ?_;simp only[go_sem]
  refine Wk ?_
  refine Sd ?_
  refine(h2).val.use ?_;simp only[go_sem]
  refine Wk ?_
  refine Sd ?_
  refine(h3).val.use ?_;simp only[go_sem]
  refine Wk ?_
  intro b11
  refine Sd ?_
  refine W1 hm ?_
  refine ret_eq ?_;simp only[go_sem]
  rfl
 rw[hm,if_pos rfl] at h3
 obtain⟨hv,p,hpl,i,hi,rfl,hF⟩:=pst_zero hp
 have hc0:=pt_is hv hpl hi
 have h4:=from_tru ps hs t hck hm _ hc0
 have eE:lesE ps t ((p:Int),(i:Int)+1)=if (lstQ ps (TruP ps t) (ptF ps p i)).isSome then 0 else 7:=by unfold lesE;rw[if_neg (fun h=>h hck),if_neg (fun h=>h hp),if_neg (fun h=>h hm),hF]
 have eF:lesF ps t ((p:Int),(i:Int)+1)=lstQ ps (TruP ps t) (ptF ps p i):=by
  unfold lesF
  rw[eE,hF]
  cases lstQ ps (TruP ps t) (ptF ps p i) with
  | none=>rfl
  | some c=>rfl
 rw[eE,eF]
 rw[hF] at h2
 have hlen:∀c,lstQ ps (TruP ps t) (ptF ps p i)=some c→c.length=ps.length:=fun c h=>(isF_iff.1 (lsq_some h).is).1
 have h8:=valid_len hv
 generalize lstQ ps (TruP ps t) (ptF ps p i)=R at *
 have hI:aInts (ptF ps p i) = .sl 1 ((ptF ps p i).map ai):=rfl
 have hSr:aSr ps (cjF (normF t false)) = .agg [.sl 3 (ps.map aPr),.sl 7 ((cjF (normF t false)).map aPt)]:=rfl
 obtain⟨k,n,q1,q2,s,X,hT⟩:=aPd_shape t
 rw[hT,hTr] at h1
 rw[hTr,hX,hI] at h2
 rw[hT,hTr,hSr] at h3
 rw[hSr,hI] at h4
 rw[hT,hTr,hX]
 generalize (ptF ps p i).map ai=PT at *
 cases R with
 | none =>
  refine PC.enter 45 [.tmp 6,.tmp 7] [3,4,5,11] Proofs.Tryz.func9 rfl rfl rfl rfl rfl (by simp) (AWp.of ?_);simp only[go_sem]
  refine Wk ?_
  refine Sd ?_
  refine(h1).val.use ?_;simp only[go_sem]
  refine Wk ?_
  refine Sd ?_
  refine(h2).val.use ?_;simp only[go_sem]
  refine Wk ?_
  refine Sd ?_
  refine(h3).val.use ?_;simp only[go_sem]
  refine Wk ?_
  intro b11
  refine Sd ?_
  refine Wk ?_
  refine Sd ?_
  refine(h4).val.use ?_;simp only[go_sem]
  have h00:((0:Nat):Int)=0:=rfl
  simp only[aOpt]
  refine W1 h00 ?_
  refine ret_eq ?_;simp only[go_sem]
  rfl
 | some c =>
  have hcl:=hlen c rfl
  have h5:=ints_clone c (by omega)
  have hC:aInts c = .sl 1 (c.map ai):=rfl
  rw[hC] at h5
  have hne:¬((c.length:Int)=0):=by omega
  have h4:PC _ _ _ (.sl 1 (c.map ai)):=h4
  refine PC.enter 45 [.tmp 6,.tmp 7] [3,4,5,11] Proofs.Tryz.func9 rfl rfl rfl rfl rfl (by simp) (AWp.of ?_);simp only[go_sem]
  refine Wk ?_
  refine Sd ?_
  refine(h1).val.use ?_;simp only[go_sem]
  refine Wk ?_
  refine Sd ?_
  refine(h2).val.use ?_;simp only[go_sem]
  refine Wk ?_
  refine Sd ?_
  refine(h3).val.use ?_;simp only[go_sem]
  refine Wk ?_
  intro b11
  refine Sd ?_
  refine Wk ?_
  refine Sd ?_
  refine(h4).val.use ?_;simp only[go_sem]
  refine W1 hne ?_
  refine Sd ?_
  refine(h5).val.use ?_;simp only[go_sem]
  refine Wk ?_
  refine ret_eq ?_;simp only[go_sem]
  rfl
theorem clone_nil:PC Proofs.Tryz.prog 51 [anil] anil:=by
 refine PC.enter 8 [.tmp 2] [] Proofs.Tryz.func51 rfl rfl rfl rfl rfl (by simp) (AWp.of ?_);simp only[go_sem]
 refine Wk ?_
 refine ret_eq ?_;simp only[go_sem]
theorem clone_opt (o:Option (List Int)) (h:∀c,o=some c→c.length≤1000000):PC Proofs.Tryz.prog 51 [aOpt o] (aOpt o):=by
 cases o with
 | none=>exact clone_nil
 | some c=>exact ints_clone c (h c rfl)
noncomputable def rowY (ps:List Pr) (T:List Int→Prop) (q m:Nat):List AV:=(List.range m).map fun i=>aOpt (lstQ ps T (ptF ps q i))
noncomputable def tabY (ps:List Pr) (T:List Int→Prop) (p m q:Nat):List AV:=rowY ps T q (if q<p then nev ps q else if q=p then m else 0)
noncomputable def aLct (ps:List Pr) (T:List Int→Prop):AV:=.sl 1 ((List.range ps.length).map fun q => .sl 1 (rowY ps T q (nev ps q)))
theorem rowY_succ (ps:List Pr) (T:List Int→Prop) (q m:Nat):rowY ps T q (m+1)=rowY ps T q m ++ [aOpt (lstQ ps T (ptF ps q m))]:=by
 unfold rowY
 rw[List.range_succ,List.map_append];rfl
theorem rowY_len (ps:List Pr) (T:List Int→Prop) (q m:Nat):(rowY ps T q m).length=m:=by unfold rowY;simp
theorem aOpt_one (o:Option (List Int)):one (aOpt o)=true∧fo (aOpt o)=(True,aOpt o):=by cases o <;> exact⟨rfl,rfl⟩
set_option maxHeartbeats 4000000 in
theorem irr_table (ps:List Pr) (hs:Sm ps) (hv:validF ps=true) (T:List Int→Prop) (ts:List Pd) (hfr:∀c,isF ps c=true→PC Proofs.Tryz.prog 50 [aSr ps ts,aInts c] (aOpt (lstQ ps T c))) :
  PC Proofs.Tryz.prog 52 [aSr ps ts] (aLct ps T):=by
 have h8:=valid_len hv
 have hpast:=fun x=>causality_Past ps hs x
 have hS:aSr ps ts = .agg [.sl 3 (ps.map aPr),.sl 7 (ts.map aPt)]:=rfl
 have hfin:aLct ps T = .sl 1 ((List.range ps.length).map fun q => .sl 1 (tabY ps T ps.length 0 q)):=by
  unfold aLct tabY
  congr 1
  refine List.map_congr_left fun q hq => ?_
  rw[if_pos (List.mem_range.1 hq)]
 rw[hfin]
 rw[hS] at hfr ⊢
 generalize ts.map aPt=PP at *
 refine PC.enter 55 [.tmp 2] [1,5,49] Proofs.Tryz.func52 rfl rfl rfl rfl rfl (by simp) (AWp.of ?_);simp only[go_sem]
 refine Wk ?_
 intro b
 refine Sd ?_
 refine Wk ?_
 have hF0:FamS 42 33 1 ps.length (tabY ps T 0 0) (.ls b 1 0 ps.length ps.length) [(b,.row 42 1 (List.replicate ps.length anil) ps.length)]:=by
  refine⟨[(b,.row 42 1 (List.replicate ps.length anil) ps.length)],fun _=>anil,fun _=>[],?_,?_,fun q hq => ?_⟩
  ·have e0:famL ps.length (fun _=>[])=[]:=by unfold famL;exact List.flatMap_eq_nil_iff.2 fun _ _=>rfl
   rw[e0,List.append_nil]
  ·have e:(List.range ps.length).map (fun _=>anil)=List.replicate ps.length anil:=by rw[List.map_const',List.length_range]
   rw[e]
   have:=AppSt.row (t:=42) (k:=1) b (List.replicate ps.length anil) ps.length
   rwa [List.length_replicate] at this
  ·have e:tabY ps T 0 0 q=[]:=by unfold tabY rowY;simp
   rw[e];exact .nil
 have hvo:fo (.ls b 1 0 ps.length ps.length)=(True,.ls b 1 0 ps.length ps.length):=rfl
 generalize hvv:AV.ls b 1 0 ps.length ps.length=v at *
 refine AWp.range' ps.length [] [1,3,16,17] (fun p vs L=>vs=[]∧FamS 42 33 1 ps.length (tabY ps T p 0) v L) (by omega) rfl rfl rfl ⟨rfl,hF0⟩ ?_ ?_
 ·rintro p vs L hp - ⟨rfl,hF⟩
  have hg:=getD_map (f:=aPr) hp
  have hel:=hs.evs _ (List.getElem_mem hp)
  have hnv:=nev_get hp
  simp only[go_sem]
  refine W2 hg hvo ?_
  intros
  refine Sd ?_
  refine W2 hg hvo ?_
  refine AWp.range' ps[p].evs.length [] [1,3,4,16,17,18,25] (fun i vs L=>vs=[]∧FamS 42 33 1 ps.length (tabY ps T p i) v L) (by omega) rfl rfl rfl ⟨rfl,hF⟩ ?_ ?_
  ·rintro i vs L hi - ⟨rfl,hF⟩
   obtain⟨h1,h2⟩:pstF ps ((p:Int),(i:Int)+1)=ptF ps p i∧pstE ps ((p:Int),(i:Int)+1)=0:=by
    have e:pstE ps ((p:Int),(i:Int)+1)=0:=by unfold pstE;rw[if_pos hv,if_pos (eidOk_iff.2 ⟨p,hp,i,hi,rfl⟩)]
    obtain⟨_,p',hp',i',hi',e1,e2⟩:=pst_zero e
    rw[Prod.mk.injEq] at e1
    have:p'=p:=by omega
    subst this
    have:i'=i:=by omega
    subst this
    exact⟨e2,e⟩
   have hpa:=hpast ((p:Int),(i:Int)+1)
   rw[h1,h2] at hpa
   have hptf:=pt_is hv hp hi
   have hfr:=hfr _ hptf
   have hcl:=clone_opt (lstQ ps T (ptF ps p i)) fun c h=>by have:=(isF_iff.1 (lsq_some h).is).1;omega
   obtain⟨ho1,ho2⟩:=aOpt_one (lstQ ps T (ptF ps p i))
   have ho3:elOk 1 (aOpt (lstQ ps T (ptF ps p i))):=by cases lstQ ps T (ptF ps p i) <;> exact⟨rfl,rfl⟩
   have hsu:=rowY_succ ps T p i
   have hnew:tabY ps T p (i+1) p=tabY ps T p i p ++ [aOpt (lstQ ps T (ptF ps p i))]:=by unfold tabY;rw[if_neg (by omega),if_pos rfl,if_neg (by omega),if_pos rfl,hsu]
   have hold:∀q,q ≠ p→tabY ps T p (i+1) q=tabY ps T p i q:=fun q hq=>by unfold tabY;rw[if_neg hq,if_neg hq]
   have hyl:(tabY ps T p i p).length≤1000000:=by unfold tabY;rw[if_neg (by omega),if_pos rfl,rowY_len];omega
   have hTr:aTr ps = .agg [.sl 3 (ps.map aPr)]:=rfl
   have hX:aEid ((p:Int),(i:Int)+1) = .agg [ai p,ai ((i:Int)+1)]:=rfl
   have hI:aInts (ptF ps p i) = .sl 1 ((ptF ps p i).map ai):=rfl
   rw[hTr,hX,hI] at hpa
   rw[hI] at hfr
   generalize (ptF ps p i).map ai=PI at *
   generalize aOpt (lstQ ps T (ptF ps p i))=O at *
   obtain⟨bo,cap,V,Ls,e,hP,hA,hcl'⟩:=hF.open hp
   refine AWp.perm hP (AWp.nodup fun hnd => ?_)
   have n3:=nd1 hnd
   have hlr:((List.range ps.length).map V).length=ps.length:=by simp
   clear hF hpast hsu hF0 hvv h1 h2 hptf hTr hX hI
   generalize tabY ps T p (i+1)=Y' at *
   generalize tabY ps T p i=Y at *
   subst e
   simp only[go_sem] at ho1 ho3
   obtain⟨ho4,ho5⟩:=ho3
   rcases hA.inv with ⟨e1,e2,e3⟩|⟨bi,cp,e2,e3⟩
   ·have hgd:((List.range ps.length).map V).getD p .any=anil:=by rw[map_range_getD hp,e2]
    rw[e3]
    simp only[go_sem]
    refine Wk ?_
    refine Sd ?_
    refine(hpa).val.use ?_;simp only[go_sem]
    refine Wk ?_
    repeat(first|(with_reducible refine AWp.seq ?_)|(with_reducible refine AWp.block ?_))
    refine AWp.mix mixed [0,1,2,3,4,6,7,8,9] (.step 5 (.step 10 (.step 11 (.step 12 (.step 13 .done .done) .done) .done) .done) (.step 10 (.step 5 (.step 11 (.step 12 (.step 13 .done .done) .done) .done) .done) .done)) (by kernel_rfl) ?_;simp only[go_sem,hgd,hlr,ho1]
    refine Sd ?_
    refine Sd ?_
    refine GCall.use (O) (fun _=>⟨At,(hfr).val.use ⟨rfl,rfl⟩⟩) ?_;simp only[go_sem,hgd,hlr,ho1,ho2]
    refine Sd ?_
    refine Sd ?_
    refine GCall.use (O) (fun _=>⟨At,(hcl).val.use ⟨rfl,rfl⟩⟩) ?_;simp only[go_sem,hgd,hlr,ho1,ho2]
    refine⟨⟨hp,⟨ho4,ho5⟩,?_⟩,⟨ho4,ho5⟩,hp,?_⟩
    all_goals
     intro b' cap' g1 g2 g3
     have nb:¬bo=b':=by omega
     simp only[go_sem,nb,hgd,hlr,ho1,ho2]
     refine Sd ?_
     refine⟨_,List.Sublist.refl _,hcl' Y' (.ls b' 1 0 1 cap') [(b',.row 33 1 [O] cap')] _ hold (by rw[hnew,e1];exact .row _ [_] _) ?_⟩
     exact List.Perm.swap _ _ _
   ·have hgd:((List.range ps.length).map V).getD p .any = .ls bi 1 0 (Y p).length cp:=by rw[map_range_getD hp,e2]
    rw[e3] at n3 ⊢
    obtain⟨n4,n5⟩:=n3 (bi,_) (List.mem_append_left _ (List.mem_singleton_self _))
    simp only[go_sem]
    refine Wk ?_
    refine Sd ?_
    refine(hpa).val.use ?_;simp only[go_sem]
    refine Wk ?_
    repeat(first|(with_reducible refine AWp.seq ?_)|(with_reducible refine AWp.block ?_))
    refine AWp.mix mixed [0,1,2,3,4,6,7,8,9] (.step 5 (.step 10 (.step 11 (.step 12 (.step 13 .done .done) .done) .done) .done) (.step 10 (.step 5 (.step 11 (.step 12 (.step 13 .done .done) .done) .done) .done) .done)) (by kernel_rfl) ?_;simp only[go_sem,hgd,hlr,ho1,n4,n5]
    refine Sd ?_
    refine Sd ?_
    refine GCall.use (O) (fun _=>⟨At,(hfr).val.use ⟨rfl,rfl⟩⟩) ?_;simp only[go_sem,hgd,hlr,ho1,ho2,n4,n5]
    refine Sd ?_
    refine Sd ?_
    refine GCall.use (O) (fun _=>⟨At,(hcl).val.use ⟨rfl,rfl⟩⟩) ?_;simp only[go_sem,hgd,hlr,ho1,ho2,n4,n5]
    refine⟨⟨hp,⟨ho4,ho5⟩,by omega,?_⟩,⟨ho4,ho5⟩,hp,by omega,?_⟩
    all_goals
     intro b' cap' g1 g2 g3
     simp only[go_sem,g1,hgd,hlr,ho1,ho2]
     refine Sd ?_
     refine⟨_,List.Sublist.refl _,hcl' Y' (.ls b' 1 0 ((Y p).length+1) cap') [(b',.row 33 1 (Y p ++ [O]) cap')] _ hold (by rw[hnew];exact AppSt.snoc _ _ _ rfl) ?_⟩
     exact List.Perm.swap _ _ _
  ·rintro vs L - ⟨rfl,hF⟩
   simp only[go_sem]
   refine W1 hvo ?_
   refine⟨_,List.Sublist.refl _,hF.congr fun q hq => ?_⟩
   unfold tabY
   by_cases e:q=p
   ·subst e
    rw[if_pos (by omega),if_neg (by omega),if_pos rfl,hnv]
   ·by_cases e2:q<p
    ·rw[if_pos (by omega),if_pos e2]
    ·rw[if_neg (by omega),if_neg e2,if_neg e]
     split <;> rfl
 ·rintro vs L - ⟨rfl,hF⟩
  refine AWp.famView (j:=3) hF rfl ?_
  simp only[go_sem]
  refine Wk ?_
  refine ret_eq ?_;simp only[go_sem]
end Go.AL
end
section
namespace Go.AL
open Go Go.RowKit
theorem BlkRel.fold {w:World} {A:Foot} {b:Nat} {t:TypeId} {n:Nat} {cs:List AV} (hl:cs.length=n) (hk:cs.all one=true) (h:BlkRel w A b (.row t 1 cs n)):BlkRel w A b (.row t n [.agg cs] 1):=by
 obtain⟨c,h1,h2,h3,h4,h5,h6⟩:=h
 have hone:∀x ∈ cs,x.cells=[x]:=fun x hx=>by
  have:=List.all_eq_true.1 hk x hx
  cases x <;> first|rfl|(simp [one] at this)
 refine⟨c,h1,by omega,by simp,by unfold maxLen;omega,fun x hx => ?_,fun i x j y u hx hy hu => ?_⟩
 ·obtain rfl:=List.mem_singleton.1 hx
  exact⟨hl,hk⟩
 ·cases i with
  | zero =>
   have hx:AV.agg cs=x:=by simpa using hx
   subst hx
   have hy:cs[j]?=some y:=hy
   have hc:=hone y (List.mem_of_getElem? hy)
   exact h6 j y 0 y u hy (by rw[hc];rfl) (by simpa using hu)
  | succ i=>simp at hx
theorem AWp.foldArr {C:Cfg} {c:Code} {Q:AQ} {ρ:Env} {L:AHeap} {b j:Nat} {t:TypeId} {n:Nat} {cs:List AV} (hj:get ρ j = .lp b 1 0 0) (hb:lk L b=some (.row t 1 cs n)) (hl:cs.length=n) (hk:cs.all one=true)
  (h:AWp C c Q ((j,.lp b n 0 0) :: ρ) (upd L b (.row t n [.agg cs] 1))):AWp C c Q ρ L:=by
 refine AWp.st (fun w0 M A0 a w hst => ?_) h
 obtain⟨A,ds,hs⟩:=st_iff.1 hst
 have h1:=hs.set hb (w':=w) (fun _ _=>rfl) rfl rfl rfl rfl rfl ((hs.l.lk hb).fold hl hk)
 refine st_iff.2 ⟨A,ds,{ h1 with env:=fun i => ?_ }⟩
 have h2:=h1.env i
 simp only[get]
 by_cases e:i=j
 ·rw[if_pos e]
  subst e
  rw[hj] at h2
  generalize a.tmps.getD i undef=u at *
  cases h2
  have:=Rel.lp (w:=w) (A:=A) b n 0 0
  simpa using this
 ·rw[if_neg e];exact h2
section
variable {C:Cfg} {o:Oper} {ρ:Env} {L:AHeap} {K:ARes}
theorem AOp.sliceArr {t e rt:TypeId} {n s bt be:Nat} {z ze:AV} {ke} {x:Operand} {b:Nat} {cs:List AV} (ho:o.op = .slice t x none none none) (ht:tinfo C.P t=some ⟨.arr n e,s,bt,z⟩) (he:tinfo C.P e=some ⟨ke,1,be,ze⟩) (hd:dstOk C o)
  (hx:fo (ev ρ x)=(True,.lp b 1 0 0)) (hb:lk L b=some (.row rt 1 cs n)) (hm:n≤maxLen) (h:K (put ρ o.dst (.ls b 1 0 n n)) L):AOp C o ρ L K :=
 AOp.of_run (by rw[ho];intro c e;cases e) fun w0 M A0 a w A ds hs=>by
  have rx:=fo_ok (hs.ev x) (by rw[hx];trivial)
  rw[hx] at rx
  generalize hxe:a.eval x=u at rx
  cases rx
  have hu:=tinfo_arr ht
  have hlen:C.P.arrayLen t=n:=by simp [Program.arrayLen,hu]
  have hel:C.P.elem t=e:=by simp [Program.elem,hu]
  obtain⟨d,inf,z',hd',hinf,hz',e0⟩:=tinfo_inv he
  simp only[TI.mk.injEq] at e0
  refine⟨.value (.slice (some ⟨b,0,none⟩) n n),w,?_,.inl ⟨_,rfl,?_⟩⟩
  ·unfold execOp;rw[ho]
   have hsz:inf.size=1:=e0.2.1.symm
   simp [hxe,hlen,hel,Instr.sliceAt,Instr.sureAddr,run_underlying hu,Instr.sliceBounds,run_sizeOf w hinf,hsz,Addr.add]
  ·exact post_mk (hs.put hd (.ls b 1 0 n n 0 (Nat.le_refl _) hm (.inl (by simp)))) h
end
end Go.AL
end
