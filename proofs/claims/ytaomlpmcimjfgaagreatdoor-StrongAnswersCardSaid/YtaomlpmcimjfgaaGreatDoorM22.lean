/- Texts of this claim's proof: WV20, WV21, WRt, WRt7, WRt2. No condition. -/
import Derived.Test.YtaomlpmcimjfgaaGreatDoorM21
import Derived.Test.YtaomlpmcimjfgaaGreatDoorM19
import Derived.Test.YtaomlpmcimjfgaaGreatDoorM13
import Derived.Test.YtaomlpmcimjfgaaGreatDoorM10
import Derived.Test.YtaomlpmcimjfgaaGreatDoorM4
import Derived.Test.YtaomlpmcimjfgaaGreatDoorM8
section
namespace Go.AL
open Go Go.RowKit
set_option maxRecDepth 4000
def dropK (rows:Nat→List Stp) (a:Nat→Nat) (n:Nat):List AV:=(List.range n).map fun p => .sl 3 (((rows p).drop (a p)).map aStp)
theorem dropK_len (rows:Nat→List Stp) (a:Nat→Nat) (n:Nat):(dropK rows a n).length=n:=by simp [dropK]
theorem dropK_succ (rows:Nat→List Stp) (a:Nat→Nat) (n:Nat):dropK rows a (n+1)=dropK rows a n ++ [.sl 3 (((rows n).drop (a n)).map aStp)]:=by unfold dropK;rw[List.range_succ,List.map_append];rfl
theorem dropK_get {rows:Nat→List Stp} {a:Nat→Nat} {n p:Nat} (hp:p<n):(dropK rows a n).getD p .any = .sl 3 (((rows p).drop (a p)).map aStp):=map_range_getD hp _
theorem dropK_set {rows:Nat→List Stp} {a:Nat→Nat} {n q:Nat} : (dropK rows a n).set q (.sl 3 (((rows q).drop (a q+1)).map aStp))=dropK rows (updN a q (a q+1)) n:=by
 unfold dropK
 rw[map_range_set]
 congr 1;funext p
 by_cases e:p=q
 ·subst e;rw[if_pos rfl,updN_self]
 ·rw[if_neg e,updN_ne e]
noncomputable def aLeast (ps:List Pr) (rows:Nat→List Stp):AV:=match tgtO ps rows with
 | some a => .tup [.sl 3 ((chcL ps.length rows a).map aStp),ab true]
 | none => .tup [.sl 3 [],ab false]
theorem aLeast_some {ps:List Pr} {rows:Nat→List Stp} {a:Nat→Nat} (h:LeastS ps rows a):aLeast ps rows = .tup [.sl 3 ((chcL ps.length rows a).map aStp),ab true]:=by
 obtain⟨a',h1,h2⟩:=tgtO_some h
 unfold aLeast
 rw[h1];dsimp only;rw[chcL_congr h2]
theorem aLeast_none {ps:List Pr} {rows:Nat→List Stp} (h:¬ ∃t,TgtS ps rows t):aLeast ps rows = .tup [.sl 3 [],ab false]:=by
 unfold aLeast;rw[tgtO_none h]
def totA (rows:Nat→List Stp) (n:Nat) (a:Nat→Nat):Nat:=totS n fun p=>(rows p).length - a p
structure ElA (ps:List Pr) (rows:Nat→List Stp) (a:Nat→Nat):Prop where
 lt:∀p,p<ps.length→a p<(rows p).length
 low:∀t,TgtS ps rows t→∀p,p<ps.length→a p≤t p
theorem ElA.step {ps:List Pr} {b:Nat→Nat→Bool} {rows:Nat→List Stp} (hR:RowsOk ps b rows) {a:Nat→Nat} (h:ElA ps rows a) {p q:Nat} (hp:p<ps.length) (hq:q<ps.length) (hpq:p ≠ q) (hb:bgN ps (fSp rows p (a p)) (fSp rows q (a q))=false) :
  (a q+1=(rows q).length→¬ ∃t,TgtS ps rows t)∧(a q+1 ≠ (rows q).length→ElA ps rows (updN a q (a q+1))∧totA rows ps.length (updN a q (a q+1))<totA rows ps.length a):=by
 have hs:=tgt_step (mon_rows hR) h.low hp hq hpq hb
 have hlq:=h.lt q hq
 have e:∀r,updN a q (a q+1) r=if r=q then a q+1 else a r:=fun r=>rfl
 refine⟨fun h1=>tgt_none hs hq (by show (rows q).length≤if q=q then a q+1 else a q;rw[if_pos rfl];omega),fun h1=>⟨⟨fun r hr => ?_,fun t ht r hr=>by rw[e];exact hs t ht r hr⟩,?_⟩⟩
 ·by_cases e2:r=q
  ·subst e2;rw[updN_self];omega
  ·rw[updN_ne e2];exact h.lt r hr
 ·unfold totA
  refine totS_lt2 ps.length (p:=q) (fun r _ => ?_) hq ?_
  ·by_cases e2:r=q
   ·subst e2;rw[updN_self];omega
   ·rw[updN_ne e2];exact Nat.le_refl _
  ·rw[updN_self];omega
structure RndA (ps:List Pr) (rows:Nat→List Stp) (a0 a:Nat→Nat) (ch:Bool) (p q:Nat):Prop where
 el:ElA ps rows a
 no:ch=false→a=a0∧∀p' q',p'<ps.length→q'<ps.length→(p'<p∨(p'=p∧q'<q))→p' ≠ q'→bgN ps (fSp rows p' (a p')) (fSp rows q' (a q'))=true
 yes:ch=true→totA rows ps.length a<totA rows ps.length a0
set_option maxHeartbeats 2000000 in
theorem ref38_Least (ps:List Pr) (hs:Sm ps) (ts:List Pd) (hz:∀t ∈ ts,szF t≤1000000) (htl:ts.length≤1000000) (hf:conF ps ts=0):PC Proofs.Tryz.prog 14 [aTr ps,.sl 6 (ts.map aPd)] (aLeast ps (rowsOf ps ts)):=by
 obtain⟨hv,hl,hlc⟩:=conF_inv hf
 obtain⟨hn1,hn8⟩:=valid_len hv
 have hok:=rowsOf_ok (ps:=ps) (ts:=ts) hl
 have hlen:∀p,p<ps.length→(rowsOf ps ts p).length≤65:=rowsOf_len hv ts
 have hsp:∀p (hp:p<ts.length),PC Proofs.Tryz.prog 44 [aTr ps,ai p,aPd ts[p]] (.sl 3 ((rowsOf ps ts p).map aStp)):=fun p hp=>by
  rw[rowsOf_get hp]
  exact ref37_Spans ps hs p ts[p] (hz _ (List.getElem_mem hp)) (hlc p hp)
 have hA1:=fun a h=>aLeast_some (ps:=ps) (rows:=rowsOf ps ts) (a:=a) h
 have hA2:=fun h=>aLeast_none (ps:=ps) (rows:=rowsOf ps ts) h
 have hin:=fun p hp=>rows_in hok (p:=p) hp
 generalize rowsOf ps ts=rows at *
 have hbg:∀(a:Nat→Nat),(∀p,p<ps.length→a p<(rows p).length)→∀p q,p<ps.length→q<ps.length→p ≠ q→PC Proofs.Tryz.prog 45 [aTr ps,aStp (fSp rows p (a p)),aStp (fSp rows q (a q))] (ab (bgN ps (fSp rows p (a p)) (fSp rows q (a q)))):=fun a ha p q hp hq hpq=>by
  have e1:=fSp_eq (ha p hp)
  have e2:=fSp_eq (ha q hq)
  refine ref38_Begins ps hs hv _ _ ?_ ?_ ?_
  ·rw[e1];exact hin p hp _ (List.getElem_mem _)
  ·rw[e2];exact hin q hq _ (List.getElem_mem _)
  ·rw[e1,e2,((hok p hp).el _ (List.getElem_mem _)).1,((hok q hq).el _ (List.getElem_mem _)).1];exact hpq
 generalize aLeast ps rows=R at *
 refine PC.enter 96 [.tmp 4,.tmp 5] [2,35,93] Proofs.Tryz.func14 rfl rfl rfl rfl rfl (by simp) (AWp.of ?_);simp only[go_sem]
 repeat(first|((with_reducible refine AWp.ofC ?_ ?_);exact rfl;simp only[go_sem])|((with_reducible refine an ?_ ?_);exact Au))
 refine(AWp.block (AWp.count 8 ps.length [7] [1,2,6] (fun k vs L=>∃v,vs=[v]∧AppSt 31 1 (dropK rows (fun _=>0) k) v L∧∀p,p<k→0<(rows p).length) rfl rfl ⟨anil,rfl,.nil,fun _ h=>by omega⟩ ?_))
 rintro k vs L hkl - ⟨v,rfl,hAp,hpos⟩
 have hfo:=hAp.fo
 have hyl:=dropK_len rows (fun _=>0) k
 simp only[go_sem]
 by_cases hk:k<ps.length
 ·have hkk:(k:Int)<ps.length:=by omega
  have hkt:k<ts.length:=by omega
  have hg:=getD_map (f:=aPd) hkt
  have hs1:=hsp k hkt
  have hsu:=dropK_succ rows (fun _=>0) k
  rw[List.drop_zero] at hsu
  have hlk:=hlen k hk
  generalize ts[k]=t at *
  obtain⟨k0,n,pp,q0,s,l⟩:=t
  simp only[aPd_mk] at hg hs1
  generalize hys:dropK rows (fun _=>0) k=ys at *
  by_cases h0:(rows k).length=0
  ·have h0i:((rows k).length:Int)=0:=by omega
   rw[hA2 (tgt_none (a:=fun _=>0) (fun _ _ _ _=>Nat.zero_le _) hk (by show (rows k).length≤0;omega))]
   rcases hAp.inv with ⟨e1,rfl,rfl⟩|⟨bq,cap,rfl,rfl⟩
   ·repeat(first|((with_reducible refine AWp.ofC ?_ ?_);exact rfl;simp only[go_sem,hkk])|((with_reducible refine an ?_ ?_);exact Au))
    repeat(first|(with_reducible refine AWp.seq ?_)|(with_reducible refine AWp.block ?_))
    refine AWp.read mixed [0,1,2,3,4,5,6,7] (by kernel_rfl) ?_;simp only[go_sem,hg]
    repeat((with_reducible refine an ?_ ?_);exact As)
    refine GCall.use (.sl 3 ((rows k).map aStp)) (fun _=>⟨At,(hs1).val.use ⟨rfl,rfl⟩⟩) ?_;simp only[go_sem]
    repeat((with_reducible refine an ?_ ?_);exact As)
    repeat(first|((with_reducible refine AWp.ofC ?_ ?_);exact rfl;simp only[go_sem,h0i])|((with_reducible refine an ?_ ?_);exact Au))
    refine ret_view [] ?_;simp only[go_sem]
    exact .mkTup (Vws.cons (.nil 3) (Vws.refl _))
   ·repeat(first|((with_reducible refine AWp.ofC ?_ ?_);exact rfl;simp only[go_sem,hkk])|((with_reducible refine an ?_ ?_);exact Au))
    repeat(first|(with_reducible refine AWp.seq ?_)|(with_reducible refine AWp.block ?_))
    refine AWp.read mixed [0,1,2,3,4,5,6,7] (by kernel_rfl) ?_;simp only[go_sem,hg]
    repeat((with_reducible refine an ?_ ?_);exact As)
    refine GCall.use (.sl 3 ((rows k).map aStp)) (fun _=>⟨At,(hs1).val.use ⟨rfl,rfl⟩⟩) ?_;simp only[go_sem]
    repeat((with_reducible refine an ?_ ?_);exact As)
    repeat(first|((with_reducible refine AWp.ofC ?_ ?_);exact rfl;simp only[go_sem,h0i])|((with_reducible refine an ?_ ?_);exact Au))
    refine ret_view [] ?_;simp only[go_sem]
    exact .mkTup (Vws.cons (.nil 3) (Vws.refl _))
  ·have h0i:¬((rows k).length:Int)=0:=by omega
   have hpos2:∀p,p<k+1→0<(rows p).length:=fun p hp=>by
    by_cases e:p=k
    ·subst e;omega
    ·exact hpos p (by omega)
   rcases hAp.inv with ⟨e1,rfl,rfl⟩|⟨bq,cap,rfl,rfl⟩
   ·repeat(first|((with_reducible refine AWp.ofC ?_ ?_);exact rfl;simp only[go_sem,hkk])|((with_reducible refine an ?_ ?_);exact Au))
    repeat(first|(with_reducible refine AWp.seq ?_)|(with_reducible refine AWp.block ?_))
    refine AWp.read mixed [0,1,2,3,4,5,6,7] (by kernel_rfl) ?_;simp only[go_sem,hg]
    repeat((with_reducible refine an ?_ ?_);exact As)
    refine GCall.use (.sl 3 ((rows k).map aStp)) (fun _=>⟨At,(hs1).val.use ⟨rfl,rfl⟩⟩) ?_;simp only[go_sem]
    repeat((with_reducible refine an ?_ ?_);exact As)
    repeat(first|((with_reducible refine AWp.ofC ?_ ?_);exact rfl;simp only[go_sem,h0i])|((with_reducible refine an ?_ ?_);exact Au))
    intro b' cap' g8
    repeat(first|((with_reducible refine AWp.ofC ?_ ?_);exact rfl;simp only[go_sem])|((with_reducible refine an ?_ ?_);exact Au))
    exact⟨_,List.Sublist.refl _,_,rfl,by rw[hsu,e1];exact .row _ _ _,hpos2⟩
   ·repeat(first|((with_reducible refine AWp.ofC ?_ ?_);exact rfl;simp only[go_sem,hkk])|((with_reducible refine an ?_ ?_);exact Au))
    repeat(first|(with_reducible refine AWp.seq ?_)|(with_reducible refine AWp.block ?_))
    refine AWp.read mixed [0,1,2,3,4,5,6,7] (by kernel_rfl) ?_;simp only[go_sem,hg]
    repeat((with_reducible refine an ?_ ?_);exact As)
    refine GCall.use (.sl 3 ((rows k).map aStp)) (fun _=>⟨At,(hs1).val.use ⟨rfl,rfl⟩⟩) ?_;simp only[go_sem]
    repeat((with_reducible refine an ?_ ?_);exact As)
    repeat(first|((with_reducible refine AWp.ofC ?_ ?_);exact rfl;simp only[go_sem,h0i])|((with_reducible refine an ?_ ?_);exact Au))
    intro b' cap' g8
    repeat(first|((with_reducible refine AWp.ofC ?_ ?_);exact rfl;simp only[go_sem])|((with_reducible refine an ?_ ?_);exact Au))
    exact⟨_,List.Sublist.refl _,_,rfl,by rw[hsu];exact AppSt.snoc b' cap' _ rfl,hpos2⟩
 ·have hkk:¬(k:Int)<ps.length:=by omega
  have hkn:k=ps.length:=by omega
  subst hkn
  rcases hAp.inv with ⟨e1,rfl,rfl⟩|⟨b7,cap,rfl,rfl⟩
  ·rw[e1] at hyl;simp at hyl;omega
  clear hfo hAp
  repeat(first|((with_reducible refine AWp.ofC ?_ ?_);exact rfl;simp only[go_sem,hkk,hyl])|((with_reducible refine an ?_ ?_);exact Au))
  refine(AWp.block (AWp.loopN [10] [2,6,7] (fun m vs L=>∃a ch,vs=[ab ch]∧L=[(b7,.row 31 1 (dropK rows a ps.length) cap)]∧ElA ps rows a∧(ch=false→TgtS ps rows a)∧m=2 * totA rows ps.length a+(if ch=true then 1 else 0)) (2 * totA rows ps.length (fun _=>0)+1) ?_ ?_))
  ·exact⟨fun _=>0,true,rfl,rfl,⟨hpos,fun _ _ _ _=>Nat.zero_le _⟩,fun h=>by (cases h),rfl⟩
  rintro m vs L - ⟨a,ch,rfl,rfl,hel,htg,rfl⟩
  simp only[go_sem]
  cases ch with
  | false =>
   have hT:=htg rfl
   rw[hA1 a ⟨hT,hel.low⟩]
   have hdl:=dropK_len rows a ps.length
   have hlt:=hel.lt
   repeat(first|((with_reducible refine AWp.ofC ?_ ?_);exact rfl;simp only[go_sem])|((with_reducible refine an ?_ ?_);exact Au))
   refine(AWp.block (AWp.count 14 ps.length [13] [6,7] (fun k vs L=>∃v Lq,vs=[v]∧L=Lq ++ [(b7,.row 31 1 (dropK rows a ps.length) cap)]∧AppSt 57 3 ((chcL k rows a).map aStp) v Lq∧∀x ∈ Lq,x.1 ≠ b7) rfl rfl ⟨anil,[],rfl,rfl,.nil,by simp⟩ ?_))
   rintro k vs L hkl - ⟨v,Lq,rfl,rfl,hAp,hq⟩
   have hfo:=hAp.fo
   have hyl:((chcL k rows a).map aStp).length=k:=by rw[List.length_map,chcL_len]
   simp only[go_sem]
   by_cases hk:k<ps.length
   ·have hkk:(k:Int)<ps.length:=by omega
    have hgd:=dropK_get (rows:=rows) (a:=a) hk
    have hsu:=congrArg (List.map aStp) (chcL_succ k rows a)
    rw[List.map_append] at hsu
    have hak:=hlt k hk
    have hlk:=hlen k hk
    rw[← List.getElem_cons_drop hak,List.map_cons,← fSp_eq hak] at hgd
    have es:[fSp rows k (a k)].map aStp=[.agg [ai (fSp rows k (a k)).1,ai (fSp rows k (a k)).2.1,ai (fSp rows k (a k)).2.2]]:=rfl
    have eg:aStp (fSp rows k (a k)) = .agg [ai (fSp rows k (a k)).1,ai (fSp rows k (a k)).2.1,ai (fSp rows k (a k)).2.2]:=rfl
    rw[es] at hsu
    rw[eg] at hgd
    have hdr:(((rows k).drop (a k+1)).map aStp).length+1≤65:=by rw[List.length_map,List.length_drop];omega
    generalize ((rows k).drop (a k+1)).map aStp=dr at *
    generalize hys:(chcL k rows a).map aStp=ys at *
    generalize fSp rows k (a k)=s at *
    rcases hAp.inv with ⟨e1,rfl,rfl⟩|⟨bq,capq,rfl,rfl⟩
    ·rw[e1] at hsu
     simp only[go_sem,List.nil_append]
     repeat(first|((with_reducible refine AWp.ofC ?_ ?_);exact rfl;simp only[go_sem,hkk,hgd,hdl,List.length_cons,List.getD_cons_zero])|((with_reducible refine an ?_ ?_);exact Au))
     intro b' cap' g8 g9
     have n3:¬b'=b7:=by omega
     have n4:¬b7=b':=by omega
     repeat(first|((with_reducible refine AWp.ofC ?_ ?_);exact rfl;simp only[go_sem])|((with_reducible refine an ?_ ?_);exact Au))
     refine⟨_,List.Sublist.refl _,.ls b' 3 0 1 cap',[(b',.row 57 3 ((chcL (k+1) rows a).map aStp) cap')],rfl,?_,?_,?_⟩
     ·rw[hsu];rfl
     ·rw[hsu];exact .row _ _ _
     ·intro y hy;simp only[List.mem_singleton] at hy;subst hy;exact n3
    ·have nq:=hq (bq,.row 57 3 ys capq) (by simp)
     simp only at nq
     have nq1:¬b7=bq:=fun e=>nq e.symm
     simp only[go_sem,List.cons_append,List.nil_append]
     repeat(first|((with_reducible refine AWp.ofC ?_ ?_);exact rfl;simp only[go_sem,hkk,hgd,hdl,List.length_cons,List.getD_cons_zero,nq,nq1])|((with_reducible refine an ?_ ?_);exact Au))
     intro b' cap' g8 g9
     have n3:¬b'=b7:=by omega
     have n4:¬b7=b':=by omega
     repeat(first|((with_reducible refine AWp.ofC ?_ ?_);exact rfl;simp only[go_sem])|((with_reducible refine an ?_ ?_);exact Au))
     refine⟨_,List.Sublist.refl _,.ls b' 3 0 (ys.length+1) cap',[(b',.row 57 3 ((chcL (k+1) rows a).map aStp) cap')],rfl,?_,?_,?_⟩
     ·rw[hsu];rfl
     ·rw[hsu];exact AppSt.snoc b' cap' _ rfl
     ·intro y hy;simp only[List.mem_singleton] at hy;subst hy;exact n3
   ·have hkk:¬(k:Int)<ps.length:=by omega
    have hkn:k=ps.length:=by omega
    subst hkn
    rcases hAp.inv with ⟨e1,rfl,rfl⟩|⟨bq,capq,rfl,rfl⟩
    ·rw[e1] at hyl;simp at hyl;omega
    ·have nq:=hq (bq,.row 57 3 ((chcL ps.length rows a).map aStp) capq) (by simp)
     simp only at nq
     have nq1:¬b7=bq:=fun e=>nq e.symm
     simp only[go_sem,List.cons_append,List.nil_append]
     repeat(first|((with_reducible refine AWp.ofC ?_ ?_);exact rfl;simp only[go_sem,hkk])|((with_reducible refine an ?_ ?_);exact Au))
     refine ret_view [true,false] ?_;simp only[go_sem]
     exact .mkTup (Vws.cons (Vw.ofLs (if_pos rfl) (List.length_map _).symm) (Vws.refl _))
  | true =>
   repeat(first|((with_reducible refine AWp.ofC ?_ ?_);exact rfl;simp only[go_sem])|((with_reducible refine an ?_ ?_);exact Au))
   refine(AWp.block (AWp.count 11 ps.length [10] [2,6,7] (fun p vs L=>∃a1 c1,vs=[ab c1]∧L=[(b7,.row 31 1 (dropK rows a1 ps.length) cap)]∧RndA ps rows a a1 c1 p 0) rfl rfl ⟨a,false,rfl,rfl,hel,fun _=>⟨rfl,fun p' q' _ _ h=>by omega⟩,fun h=>by (cases h)⟩ ?_))
   rintro p vs L hpl - ⟨a1,c1,rfl,rfl,hrd⟩
   simp only[go_sem]
   by_cases hp:p<ps.length
   ·have hpi:(p:Int)<ps.length:=by omega
    repeat(first|((with_reducible refine AWp.ofC ?_ ?_);exact rfl;simp only[go_sem,hpi])|((with_reducible refine an ?_ ?_);exact Au))
    refine(AWp.block (AWp.count 12 ps.length [10] [2,6,7,11] (fun q vs L=>∃a2 c2,vs=[ab c2]∧L=[(b7,.row 31 1 (dropK rows a2 ps.length) cap)]∧RndA ps rows a a2 c2 p q) rfl rfl ⟨a1,c1,rfl,rfl,hrd⟩ ?_))
    rintro q vs L hql - ⟨a2,c2,rfl,rfl,hr2⟩
    simp only[go_sem]
    by_cases hq:q<ps.length
    ·have hqi:(q:Int)<ps.length:=by omega
     have hdl:=dropK_len rows a2 ps.length
     have hlt:=hr2.el.lt
     have hkeep:(p ≠ q→bgN ps (fSp rows p (a2 p)) (fSp rows q (a2 q))=true)→RndA ps rows a a2 c2 p (q+1):=fun h=>⟨hr2.el,fun hc=>by
      obtain⟨g1,g2⟩:=hr2.no hc
      refine⟨g1,fun p' q' h1 h2 h3 h4 => ?_⟩
      by_cases e:p'=p∧q'=q
      ·obtain⟨rfl,rfl⟩:=e
       exact h h4
      ·exact g2 p' q' h1 h2 (by omega) h4,hr2.yes⟩
     have hgp:=dropK_get (rows:=rows) (a:=a2) hp
     have hgq:=dropK_get (rows:=rows) (a:=a2) hq
     have hap:=hlt p hp
     have haq:=hlt q hq
     rw[← List.getElem_cons_drop hap,List.map_cons,← fSp_eq hap] at hgp
     rw[← List.getElem_cons_drop haq,List.map_cons,← fSp_eq haq] at hgq
     have ep:aStp (fSp rows p (a2 p)) = .agg [ai (fSp rows p (a2 p)).1,ai (fSp rows p (a2 p)).2.1,ai (fSp rows p (a2 p)).2.2]:=rfl
     have eq':aStp (fSp rows q (a2 q)) = .agg [ai (fSp rows q (a2 q)).1,ai (fSp rows q (a2 q)).2.1,ai (fSp rows q (a2 q)).2.2]:=rfl
     rw[ep] at hgp
     rw[eq'] at hgq
     by_cases hpq:p=q
     ·subst hpq
      repeat(first|((with_reducible refine AWp.ofC ?_ ?_);exact rfl;simp only[go_sem,hqi])|((with_reducible refine an ?_ ?_);exact Au))
      repeat(first|(with_reducible refine AWp.seq ?_)|(with_reducible refine AWp.block ?_))
      refine AWp.read mixed [0,1,2,3,4,5,6,7,8,9,10,11,12,13,14,15,16,17,18] (by kernel_rfl) ?_;simp only[go_sem,hgp,hdl,hqi,List.length_cons,List.getD_cons_zero]
      repeat((with_reducible refine an ?_ ?_);exact As)
      refine GCall.use .any (fun h=>absurd h (by simp)) ?_
      simp only[go_sem]
      repeat(first|((with_reducible refine AWp.ofC ?_ ?_);exact rfl;simp only[go_sem])|((with_reducible refine an ?_ ?_);exact Au))
      exact⟨_,List.Sublist.refl _,a2,c2,rfl,rfl,hkeep fun h=>absurd rfl h⟩
     ·have hpqi:¬(p:Int)=(q:Int):=by omega
      have hb:=hbg a2 hlt p q hp hq hpq
      rw[ep,eq'] at hb
      have hst:=fun hbf=>ElA.step hok hr2.el hp hq hpq hbf
      have hdr:(((rows q).drop (a2 q+1)).map aStp).length=(rows q).length - (a2 q+1):=by rw[List.length_map,List.length_drop]
      have hset:=dropK_set (rows:=rows) (a:=a2) (n:=ps.length) (q:=q)
      have hlq:=hlen q hq
      generalize bgN ps (fSp rows p (a2 p)) (fSp rows q (a2 q))=BB at *
      generalize ((rows q).drop (a2 q+1)).map aStp=dq at *
      generalize ((rows p).drop (a2 p+1)).map aStp=dp at *
      repeat(first|((with_reducible refine AWp.ofC ?_ ?_);exact rfl;simp only[go_sem,hqi])|((with_reducible refine an ?_ ?_);exact Au))
      repeat(first|(with_reducible refine AWp.seq ?_)|(with_reducible refine AWp.block ?_))
      refine AWp.read mixed [0,1,2,3,4,5,6,7,8,9,10,11,12,13,14,15,16,17,18] (by kernel_rfl) ?_;simp only[go_sem,hgp,hgq,hdl,hqi,hpqi,List.length_cons,List.getD_cons_zero]
      repeat((with_reducible refine an ?_ ?_);exact As)
      repeat((with_reducible refine an ?_ ?_);exact As)
      refine GCall.use (ab BB) (fun _=>⟨At,(hb).val.use ⟨rfl,rfl⟩⟩) ?_;simp only[go_sem]
      repeat((with_reducible refine an ?_ ?_);exact As)
      cases BB with
      | true =>
       repeat(first|((with_reducible refine AWp.ofC ?_ ?_);exact rfl;simp only[go_sem])|((with_reducible refine an ?_ ?_);exact Au))
       exact⟨_,List.Sublist.refl _,a2,c2,rfl,rfl,hkeep fun _=>rfl⟩
      | false =>
       obtain⟨s1,s2⟩:=hst rfl
       by_cases h1:a2 q+1=(rows q).length
       ·have h1i:(dq.length:Int)+1=1:=by omega
        rw[hA2 (s1 h1)]
        repeat(first|((with_reducible refine AWp.ofC ?_ ?_);exact rfl;simp only[go_sem,hgq,hdl,List.length_cons,Int.natCast_add,Int.cast_ofNat_Int,h1i])|((with_reducible refine an ?_ ?_);exact Au))
        refine ret_view [] ?_;simp only[go_sem]
        exact .mkTup (Vws.cons (.nil 3) (Vws.refl _))
       ·have h1i:¬(dq.length:Int)+1=1:=by omega
        obtain⟨s3,s4⟩:=s2 h1
        repeat(first|((with_reducible refine AWp.ofC ?_ ?_);exact rfl;simp only[go_sem,hgq,hdl,List.length_cons,Int.natCast_add,Int.cast_ofNat_Int,h1i])|((with_reducible refine an ?_ ?_);exact Au))
        have et:((dq.length:Int)+1).toNat=dq.length+1:=by omega
        rw[et,List.take_succ_cons,List.take_length,List.drop_succ_cons,List.drop_zero,hset]
        refine⟨_,List.Sublist.refl _,_,true,rfl,rfl,s3,fun h=>(by cases h),fun _ => ?_⟩
        cases c2 with
        | true=>have:=hr2.yes rfl;omega
        | false =>
         have e:=(hr2.no rfl).1
         subst e
         exact s4
    ·have hqi:¬(q:Int)<ps.length:=by omega
     repeat(first|((with_reducible refine AWp.ofC ?_ ?_);exact rfl;simp only[go_sem,hqi])|((with_reducible refine an ?_ ?_);exact Au))
     refine⟨_,List.Sublist.refl _,a2,c2,rfl,rfl,hr2.el,fun h => ?_,hr2.yes⟩
     obtain⟨g1,g2⟩:=hr2.no h
     exact⟨g1,fun p' q' h1 h2 h3 h4=>g2 p' q' h1 h2 (by omega) h4⟩
   ·have hpi:¬(p:Int)<ps.length:=by omega
    repeat(first|((with_reducible refine AWp.ofC ?_ ?_);exact rfl;simp only[go_sem,hpi])|((with_reducible refine an ?_ ?_);exact Au))
    refine⟨_,List.Sublist.refl _,2 * totA rows ps.length a1+(if c1=true then 1 else 0),?_,a1,c1,rfl,rfl,hrd.el,fun h => ?_,rfl⟩
    ·cases c1 with
     | true=>have:=hrd.yes rfl;simp;omega
     | false=>rw[(hrd.no rfl).1];simp
    ·obtain⟨g1,g2⟩:=hrd.no h
     exact⟨hrd.el.lt,fun p' q' h1 h2 h3=>g2 p' q' h1 h2 (by omega) h3⟩
end Go.AL
end
section
namespace Go.AL
open Go Go.RowKit
set_option maxRecDepth 4000
theorem ref37_Fault_bad {ps:List Pr} (hrv:PC Proofs.Tryz.prog 42 [aTr ps] (ab false)) (ts:List Pd) (_htl:ts.length≤9223372036854775807):PC Proofs.Tryz.prog 12 [aTr ps,.sl 6 (ts.map aPd)] (ai 1):=by
 refine PC.enter 34 [.tmp 4] [2] Proofs.Tryz.func12 rfl rfl rfl rfl rfl (by simp) (AWp.of ?_);simp only[go_sem]
 repeat(first|((with_reducible refine AWp.ofC ?_ ?_);exact rfl;simp only[go_sem])|((with_reducible refine an ?_ ?_);exact Au))
 repeat((with_reducible refine an ?_ ?_);exact As)
 refine(hrv).val.use ?_;simp only[go_sem]
 repeat(first|((with_reducible refine AWp.ofC ?_ ?_);exact rfl;simp only[go_sem])|((with_reducible refine an ?_ ?_);exact Au))
 refine ret_eq ?_;simp only[go_sem]
theorem same_st38 (l:List Stp) (hl:l.length≤1000000):PC Proofs.Tryz.prog 16 [.sl 3 (l.map aStp),.sl 3 (l.map aStp)] (ab true):=by
 have:=ref37_SameSpans (l.map stpI) (l.map stpI) (by rw[List.length_map];omega) (by rw[List.length_map];omega)
 rw[decide_eq_true rfl,← aStp_I] at this
 exact this
structure ErrA (ps:List Pr) (ts:List Pd) (e:Int):Prop where
 ne:e ≠ 0
 df:PC Proofs.Tryz.prog 10 [aTr ps,.sl 6 (ts.map aPd)] (.tup [aAns noAns,ai e])
 dg:PC Proofs.Tryz.prog 11 [aTr ps,.sl 6 (ts.map aPd)] (.tup [aRows [],ai e])
 ft:PC Proofs.Tryz.prog 12 [aTr ps,.sl 6 (ts.map aPd)] (ai e)
theorem ErrA.bad {ps:List Pr} (hvd:Vd ps) (hv:validF ps=false) (ts:List Pd) (htl:ts.length≤1000000):ErrA ps ts 1:=by
 have hva:=hvd.val
 have hrv:=hvd.rval
 rw[hv] at hva hrv
 exact⟨by decide,strong_Definitely_bad hva ts (by omega),strong_Dodge_bad hva ts (by omega),ref37_Fault_bad hrv ts (by omega)⟩
theorem ErrA.of {ps:List Pr} (hs:Sm ps) (ts:List Pd) (hz:∀t ∈ ts,szF t≤1000000) (htl:ts.length≤1000000) (hC:conF ps ts ≠ 0):ErrA ps ts (conF ps ts):=by
 refine⟨hC,(strong_Definitely ps hs ts hz htl).mono fun r L ⟨e,h⟩=>⟨?_,e⟩,(strong_Dodge ps hs ts hz htl).mono fun r L ⟨e,h⟩=>⟨?_,e⟩,ref37_Fault ps hs ts hz htl⟩
 ·rcases h with ⟨_,h⟩|⟨h,_⟩|⟨h,_⟩
  ·exact h
  ·exact absurd h hC
  ·exact absurd h hC
 ·rcases h with ⟨_,h⟩|⟨h,_⟩|⟨h,_⟩
  ·exact h
  ·exact absurd h hC
  ·exact absurd h hC
theorem def_tight {ps:List Pr} (hs:Sm ps) (ts:List Pd) (hz:∀t ∈ ts,szF t≤1000000) (htl:ts.length≤1000000) (hC:conF ps ts=0) {a:Nat→Nat} (ha:LeastS ps (rowsOf ps ts) a) :
  PC Proofs.Tryz.prog 10 [aTr ps,.sl 6 (ts.map aPd)] (.tup [aAns ⟨2,true,4,[],[],[],(chcL ps.length (rowsOf ps ts) a).map stpI,0⟩,ai 0])∧PC Proofs.Tryz.prog 11 [aTr ps,.sl 6 (ts.map aPd)] (.tup [aRows [],ai 7]):=by
 refine⟨(strong_Definitely ps hs ts hz htl).mono fun r L ⟨e,h⟩=>⟨?_,e⟩,(strong_Dodge ps hs ts hz htl).mono fun r L ⟨e,h⟩=>⟨?_,e⟩⟩
 ·rcases h with ⟨h,_⟩|⟨_,a',h1,h2⟩|⟨_,h,_⟩
  ·exact absurd hC h
  ·rw[h2,chcL_congr fun p hp=>least_unique h1 ha hp]
  ·exact absurd ⟨a,ha.1⟩ h
 ·rcases h with ⟨h,_⟩|⟨_,_,h2⟩|⟨_,h,_⟩
  ·exact absurd hC h
  ·exact h2
  ·exact absurd ⟨a,ha.1⟩ h
theorem def_none {ps:List Pr} (hs:Sm ps) (ts:List Pd) (hz:∀t ∈ ts,szF t≤1000000) (htl:ts.length≤1000000) (hC:conF ps ts=0) (hT:¬ ∃t,TgtS ps (rowsOf ps ts) t) :
  MCalls Proofs.Tryz.prog 10 [aTr ps,.sl 6 (ts.map aPd)] [] (fun r L=>L=[]∧∃O,(DodgeR ps (elimOf ps ts).ok O∧O.length≤513)∧r = .tup [aAns ⟨2,false,3,[],[],O,[],0⟩,ai 0]) ∧
  MCalls Proofs.Tryz.prog 11 [aTr ps,.sl 6 (ts.map aPd)] [] (fun r L=>L=[]∧∃O,(DodgeR ps (elimOf ps ts).ok O∧O.length≤513)∧r = .tup [aRows O,ai 0]):=by
 refine⟨(strong_Definitely ps hs ts hz htl).mono fun r L ⟨e,h⟩=>⟨e,?_⟩,(strong_Dodge ps hs ts hz htl).mono fun r L ⟨e,h⟩=>⟨e,?_⟩⟩
 ·rcases h with ⟨h,_⟩|⟨_,a',h1,_⟩|⟨_,_,O,h1,h2,h3⟩
  ·exact absurd hC h
  ·exact absurd ⟨a',h1.1⟩ hT
  ·exact⟨O,⟨h1,h2⟩,h3⟩
 ·rcases h with ⟨h,_⟩|⟨_,h1,_⟩|⟨_,_,O,h1,h2,h3⟩
  ·exact absurd hC h
  ·exact absurd h1 hT
  ·exact⟨O,⟨h1,h2⟩,h3⟩
theorem avd_true {ps:List Pr} (hs:Sm ps) (ts:List Pd) (hz:∀t ∈ ts,szF t≤1000000) (htl:ts.length≤1000000) (hC:conF ps ts=0) (O:List (List Int)) (hO:DodgeR ps (elimOf ps ts).ok O∧O.length≤513) :
  PC Proofs.Tryz.prog 17 [aTr ps,.sl 6 (ts.map aPd),aRows O] (ab true):=by
 have hv:=(conF_inv hC).1
 have:=ref38_Avoids ps hs ts hz htl hC O (by have:=hO.2;omega) (dodge_row hv hO.1)
 rw[dodge_avd hv hO.1] at this
 exact this
theorem law38_StrongAnswers (ps:List Pr) (ts:List Pd) (hpl:ps.length≤9223372036854775807) (hev:∀p ∈ ps,p.evs.length≤9223372036854775807):PC Proofs.Tryz.prog 3 [aTr ps,.sl 6 (ts.map aPd)] (ab true):=by
 have haw:=law38_awake
 have hfew:=law38_few ps hpl hev 60
 have hsm:=law38_small ts
 cases hf:fw38 ps 60 with
 | false =>
  rw[hf] at hfew
  generalize sm38 ts=sb at *
  refine PC.enter 110 [.tmp 4] [2,5] Proofs.Tryz.func3 rfl rfl rfl rfl rfl (by simp) (AWp.of ?_);simp only[go_sem]
  repeat(first|((with_reducible refine AWp.ofC ?_ ?_);exact rfl;simp only[go_sem])|((with_reducible refine an ?_ ?_);exact Au))
  repeat((with_reducible refine an ?_ ?_);exact As)
  refine(haw).val.use ?_;simp only[go_sem]
  repeat((with_reducible refine an ?_ ?_);exact As)
  refine GCall.use (ab false) (fun _=>⟨At,(hfew).val.use ⟨rfl,rfl⟩⟩) ?_;simp only[go_sem]
  repeat((with_reducible refine an ?_ ?_);exact As)
  repeat((with_reducible refine an ?_ ?_);exact As)
  refine GCall.use (ab sb) (fun _=>⟨At,(hsm).val.use ⟨rfl,rfl⟩⟩) ?_;simp only[go_sem]
  repeat((with_reducible refine an ?_ ?_);exact As)
  repeat(first|((with_reducible refine AWp.ofC ?_ ?_);exact rfl;simp only[go_sem])|((with_reducible refine an ?_ ?_);exact Au))
  repeat((with_reducible refine an ?_ ?_);exact As)
  refine(haw).val.use ?_;simp only[go_sem]
  repeat(first|((with_reducible refine AWp.ofC ?_ ?_);exact rfl;simp only[go_sem])|((with_reducible refine an ?_ ?_);exact Au))
  refine ret_eq ?_;simp only[go_sem]
 | true =>
  rw[hf] at hfew
  cases hsb:sm38 ts with
  | false =>
   rw[hsb] at hsm
   refine PC.enter 110 [.tmp 4] [2,5] Proofs.Tryz.func3 rfl rfl rfl rfl rfl (by simp) (AWp.of ?_);simp only[go_sem]
   repeat(first|((with_reducible refine AWp.ofC ?_ ?_);exact rfl;simp only[go_sem])|((with_reducible refine an ?_ ?_);exact Au))
   repeat((with_reducible refine an ?_ ?_);exact As)
   refine(haw).val.use ?_;simp only[go_sem]
   repeat((with_reducible refine an ?_ ?_);exact As)
   refine GCall.use (ab true) (fun _=>⟨At,(hfew).val.use ⟨rfl,rfl⟩⟩) ?_;simp only[go_sem]
   repeat((with_reducible refine an ?_ ?_);exact As)
   repeat((with_reducible refine an ?_ ?_);exact As)
   refine GCall.use (ab false) (fun _=>⟨At,(hsm).val.use ⟨rfl,rfl⟩⟩) ?_;simp only[go_sem]
   repeat((with_reducible refine an ?_ ?_);exact As)
   repeat(first|((with_reducible refine AWp.ofC ?_ ?_);exact rfl;simp only[go_sem])|((with_reducible refine an ?_ ?_);exact Au))
   repeat((with_reducible refine an ?_ ?_);exact As)
   refine(haw).val.use ?_;simp only[go_sem]
   repeat(first|((with_reducible refine AWp.ofC ?_ ?_);exact rfl;simp only[go_sem])|((with_reducible refine an ?_ ?_);exact Au))
   refine ret_eq ?_;simp only[go_sem]
  | true =>
   rw[hsb] at hsm
   have hvd:=vd38 hf
   obtain⟨htl12,hz⟩:=sm38_spec hsb
   have htl:ts.length≤1000000:=by omega
   by_cases hE:∃e,ErrA ps ts e
   ·obtain⟨e,he,h1,h2,h3⟩:=hE
    have hn:=law38_none0
    have hA:aAns noAns = .agg [ai 0,ab false,ai 0,.sl 1 [],.sl 1 [],.sl 1 [],.sl 3 [],ai 0]:=rfl
    rw[hA] at h1 hn
    refine PC.enter 110 [.tmp 4] [2,5] Proofs.Tryz.func3 rfl rfl rfl rfl rfl (by simp) (AWp.of ?_);simp only[go_sem]
    repeat(first|((with_reducible refine AWp.ofC ?_ ?_);exact rfl;simp only[go_sem])|((with_reducible refine an ?_ ?_);exact Au))
    repeat((with_reducible refine an ?_ ?_);exact As)
    refine(haw).val.use ?_;simp only[go_sem]
    repeat((with_reducible refine an ?_ ?_);exact As)
    refine GCall.use (ab true) (fun _=>⟨At,(hfew).val.use ⟨rfl,rfl⟩⟩) ?_;simp only[go_sem]
    repeat((with_reducible refine an ?_ ?_);exact As)
    repeat((with_reducible refine an ?_ ?_);exact As)
    refine GCall.use (ab true) (fun _=>⟨At,(hsm).val.use ⟨rfl,rfl⟩⟩) ?_;simp only[go_sem]
    repeat((with_reducible refine an ?_ ?_);exact As)
    repeat(first|((with_reducible refine AWp.ofC ?_ ?_);exact rfl;simp only[go_sem])|((with_reducible refine an ?_ ?_);exact Au))
    repeat((with_reducible refine an ?_ ?_);exact As)
    refine(h1).val.use ?_;simp only[go_sem]
    intros
    repeat(first|((with_reducible refine AWp.ofC ?_ ?_);exact rfl;simp only[go_sem])|((with_reducible refine an ?_ ?_);exact Au))
    repeat((with_reducible refine an ?_ ?_);exact As)
    refine(h2).val.use ?_;simp only[go_sem]
    repeat(first|((with_reducible refine AWp.ofC ?_ ?_);exact rfl;simp only[go_sem])|((with_reducible refine an ?_ ?_);exact Au))
    repeat((with_reducible refine an ?_ ?_);exact As)
    refine(h3).val.use ?_;simp only[go_sem]
    repeat(first|((with_reducible refine AWp.ofC ?_ ?_);exact rfl;simp only[go_sem,he])|((with_reducible refine an ?_ ?_);exact Au))
    repeat((with_reducible refine an ?_ ?_);exact As)
    refine(hn).val.use ?_;simp only[go_sem]
    repeat(first|((with_reducible refine AWp.ofC ?_ ?_);exact rfl;simp only[go_sem])|((with_reducible refine an ?_ ?_);exact Au))
    refine ret_eq ?_;simp only[go_sem]
    rfl
   ·have hv:validF ps=true:=by
     cases h:validF ps with
     | true=>rfl
     | false=>exact absurd ⟨1,ErrA.bad hvd h ts htl⟩ hE
    have hs:=hvd.sm hv
    have hC:conF ps ts=0:=Classical.byContradiction fun h=>hE ⟨_,ErrA.of hs ts hz htl h⟩
    have hft:=ref37_Fault ps hs ts hz htl
    have hle:=ref38_Least ps hs ts hz htl hC
    rw[hC] at hft
    by_cases hT:∃t,TgtS ps (rowsOf ps ts) t
    ·obtain⟨a,ha⟩:=least_ex (rowsOf_ok (ps:=ps) (ts:=ts) (conF_inv hC).2.1) hT
     obtain⟨h1,h2⟩:=def_tight hs ts hz htl hC ha
     rw[aLeast_some ha] at hle
     have hba:=ref38_Bare ⟨2,true,4,[],[],[],(chcL ps.length (rowsOf ps ts) a).map stpI,0⟩ 4
     have hbt:bareB ⟨2,true,4,[],[],[],(chcL ps.length (rowsOf ps ts) a).map stpI,0⟩ 4=true:=rfl
     rw[hbt] at hba
     have hsa:=same_st38 (chcL ps.length (rowsOf ps ts) a) (by rw[chcL_len];exact hs.procs)
     have hA:aAns ⟨2,true,4,[],[],[],(chcL ps.length (rowsOf ps ts) a).map stpI,0⟩ = .agg [ai 2,ab true,ai 4,.sl 1 [],.sl 1 [],.sl 1 [],.sl 3 ((chcL ps.length (rowsOf ps ts) a).map aStp),ai 0]:=by
      rw[aStp_I];rfl
     rw[hA] at h1 hba
     clear hbt hA
     generalize (chcL ps.length (rowsOf ps ts) a).map aStp=SP at *
     refine PC.enter 110 [.tmp 4] [2,5] Proofs.Tryz.func3 rfl rfl rfl rfl rfl (by simp) (AWp.of ?_);simp only[go_sem]
     repeat(first|((with_reducible refine AWp.ofC ?_ ?_);exact rfl;simp only[go_sem])|((with_reducible refine an ?_ ?_);exact Au))
     repeat((with_reducible refine an ?_ ?_);exact As)
     refine(haw).val.use ?_;simp only[go_sem]
     repeat((with_reducible refine an ?_ ?_);exact As)
     refine GCall.use (ab true) (fun _=>⟨At,(hfew).val.use ⟨rfl,rfl⟩⟩) ?_;simp only[go_sem]
     repeat((with_reducible refine an ?_ ?_);exact As)
     repeat((with_reducible refine an ?_ ?_);exact As)
     refine GCall.use (ab true) (fun _=>⟨At,(hsm).val.use ⟨rfl,rfl⟩⟩) ?_;simp only[go_sem]
     repeat((with_reducible refine an ?_ ?_);exact As)
     repeat(first|((with_reducible refine AWp.ofC ?_ ?_);exact rfl;simp only[go_sem])|((with_reducible refine an ?_ ?_);exact Au))
     repeat((with_reducible refine an ?_ ?_);exact As)
     refine(h1).val.use ?_;simp only[go_sem]
     intros
     repeat(first|((with_reducible refine AWp.ofC ?_ ?_);exact rfl;simp only[go_sem])|((with_reducible refine an ?_ ?_);exact Au))
     repeat((with_reducible refine an ?_ ?_);exact As)
     refine(h2).val.use ?_;simp only[go_sem]
     repeat(first|((with_reducible refine AWp.ofC ?_ ?_);exact rfl;simp only[go_sem])|((with_reducible refine an ?_ ?_);exact Au))
     repeat((with_reducible refine an ?_ ?_);exact As)
     refine(hft).val.use ?_;simp only[go_sem]
     repeat(first|((with_reducible refine AWp.ofC ?_ ?_);exact rfl;simp only[go_sem])|((with_reducible refine an ?_ ?_);exact Au))
     repeat((with_reducible refine an ?_ ?_);exact As)
     refine(hle).val.use ?_;simp only[go_sem]
     repeat(first|((with_reducible refine AWp.ofC ?_ ?_);exact rfl;simp only[go_sem])|((with_reducible refine an ?_ ?_);exact Au))
     repeat((with_reducible refine an ?_ ?_);exact As)
     refine(hba).val.use ?_;simp only[go_sem]
     repeat((with_reducible refine an ?_ ?_);exact As)
     refine GCall.use (ab true) (fun _=>⟨At,(hsa).val.use ⟨rfl,rfl⟩⟩) ?_;simp only[go_sem]
     repeat((with_reducible refine an ?_ ?_);exact As)
     repeat(first|((with_reducible refine AWp.ofC ?_ ?_);exact rfl;simp only[go_sem])|((with_reducible refine an ?_ ?_);exact Au))
     refine ret_eq ?_;simp only[go_sem]
     rfl
    ·obtain⟨h1,h2⟩:=def_none hs ts hz htl hC hT
     rw[aLeast_none hT] at hle
     have h3:=avd_true hs ts hz htl hC
     have hba:∀O:List (List Int),PC Proofs.Tryz.prog 15 [.agg [ai 2,ab false,ai 3,.sl 1 [],.sl 1 [],.sl 1 (O.map aInts),.sl 3 [],ai 0],ai 3] (ab true):=fun O=>ref38_Bare ⟨2,false,3,[],[],O,[],0⟩ 3
     refine PC.enter 110 [.tmp 4] [2,5] Proofs.Tryz.func3 rfl rfl rfl rfl rfl (by simp) (AWp.of ?_);simp only[go_sem]
     repeat(first|((with_reducible refine AWp.ofC ?_ ?_);exact rfl;simp only[go_sem])|((with_reducible refine an ?_ ?_);exact Au))
     repeat((with_reducible refine an ?_ ?_);exact As)
     refine(haw).val.use ?_;simp only[go_sem]
     repeat((with_reducible refine an ?_ ?_);exact As)
     refine GCall.use (ab true) (fun _=>⟨At,(hfew).val.use ⟨rfl,rfl⟩⟩) ?_;simp only[go_sem]
     repeat((with_reducible refine an ?_ ?_);exact As)
     repeat((with_reducible refine an ?_ ?_);exact As)
     refine GCall.use (ab true) (fun _=>⟨At,(hsm).val.use ⟨rfl,rfl⟩⟩) ?_;simp only[go_sem]
     repeat((with_reducible refine an ?_ ?_);exact As)
     repeat(first|((with_reducible refine AWp.ofC ?_ ?_);exact rfl;simp only[go_sem])|((with_reducible refine an ?_ ?_);exact Au))
     refine h1.val.mono ?_
     rintro r L ⟨rfl,O,hO,rfl⟩
     have hO1:=h3 O hO
     have hb1:=hba O
     have hA1:aAns ⟨2,false,3,[],[],O,[],0⟩ = .agg [ai 2,ab false,ai 3,.sl 1 [],.sl 1 [],.sl 1 (O.map aInts),.sl 3 [],ai 0]:=rfl
     have hA2:aRows O = .sl 1 (O.map aInts):=rfl
     rw[hA1]
     rw[hA2] at hO1
     clear hA1 hA2
     generalize O.map aInts=OM at *
     simp only[go_sem]
     intros
     repeat(first|((with_reducible refine AWp.ofC ?_ ?_);exact rfl;simp only[go_sem])|((with_reducible refine an ?_ ?_);exact Au))
     refine h2.val.mono ?_
     rintro r L ⟨rfl,O2,hO2,rfl⟩
     have hO3:=h3 O2 hO2
     have hA2:aRows O2 = .sl 1 (O2.map aInts):=rfl
     rw[hA2] at hO3 ⊢
     clear hA2 h3 hba
     generalize O2.map aInts=ON at *
     simp only[go_sem]
     repeat(first|((with_reducible refine AWp.ofC ?_ ?_);exact rfl;simp only[go_sem])|((with_reducible refine an ?_ ?_);exact Au))
     repeat((with_reducible refine an ?_ ?_);exact As)
     refine(hft).val.use ?_;simp only[go_sem]
     repeat(first|((with_reducible refine AWp.ofC ?_ ?_);exact rfl;simp only[go_sem])|((with_reducible refine an ?_ ?_);exact Au))
     repeat((with_reducible refine an ?_ ?_);exact As)
     refine(hle).val.use ?_;simp only[go_sem]
     repeat(first|((with_reducible refine AWp.ofC ?_ ?_);exact rfl;simp only[go_sem])|((with_reducible refine an ?_ ?_);exact Au))
     repeat((with_reducible refine an ?_ ?_);exact As)
     refine(hb1).val.use ?_;simp only[go_sem]
     repeat((with_reducible refine an ?_ ?_);exact As)
     refine GCall.use (ab true) (fun _=>⟨At,(hO1).val.use ⟨rfl,rfl⟩⟩) ?_;simp only[go_sem]
     repeat((with_reducible refine an ?_ ?_);exact As)
     repeat((with_reducible refine an ?_ ?_);exact As)
     refine GCall.use (ab true) (fun _=>⟨At,(hO3).val.use ⟨rfl,rfl⟩⟩) ?_;simp only[go_sem]
     repeat((with_reducible refine an ?_ ?_);exact As)
     repeat(first|((with_reducible refine AWp.ofC ?_ ?_);exact rfl;simp only[go_sem])|((with_reducible refine an ?_ ?_);exact Au))
     refine ret_eq ?_;simp only[go_sem]
end Go.AL
end
section
namespace Go.AL
open Go Go.RowKit
set_option maxRecDepth 100000
section
variable {H:Type} {enc:TypeId × Value→H} {W:World}
theorem rdAsg:Rd enc Proofs.Tryz.prog W 120 2 aAsg (fun _=>True) :=
 (Rd.struct (ts:=[3,3]) Proofs.Tryz.underlying120 rfl rfl (by kernel_rfl) (by kernel_rfl)
  (.cons (Rd.int Proofs.Tryz.underlying3) (fun _=>⟨rfl,rfl⟩) (.cons (Rd.int Proofs.Tryz.underlying3) (fun _=>⟨rfl,rfl⟩) .nil))).map (fun (y:Int × Int × Unit)=>(y.1,y.2.1)) (fun _=>rfl) (fun _ _=>trivial)
theorem rdAsgs:Rd enc Proofs.Tryz.prog W 68 1 aAsgs (fun _=>True) :=
 (Rd.slice Proofs.Tryz.underlying68 (by kernel_rfl:Program.cellsOf Proofs.Tryz.prog 120=2) (by decide) rdAsg).map id (fun _=>rfl) (fun _ _=>trivial)
theorem rdVar:Rd enc Proofs.Tryz.prog W 74 2 aVar (fun _=>True) :=
 (Rd.struct (ts:=[9,3]) Proofs.Tryz.underlying74 rfl rfl (by kernel_rfl) (by kernel_rfl)
  (.cons (Rd.str Proofs.Tryz.underlying9) (fun _=>⟨rfl,rfl⟩) (.cons (Rd.int Proofs.Tryz.underlying3) (fun _=>⟨rfl,rfl⟩) .nil))).map (fun (y:ByteArray × Int × Unit)=>(y.1,y.2.1)) (fun _=>rfl) (fun _ _=>trivial)
theorem rdVars:Rd enc Proofs.Tryz.prog W 63 1 aVars (fun _=>True) :=
 (Rd.slice Proofs.Tryz.underlying63 (by kernel_rfl:Program.cellsOf Proofs.Tryz.prog 74=2) (by decide) rdVar).map id (fun _=>rfl) (fun _ _=>trivial)
theorem rdEv:Rd enc Proofs.Tryz.prog W 70 5 aEv (fun _=>True) :=
 (Rd.struct (ts:=[3,3,3,3,68]) Proofs.Tryz.underlying70 rfl rfl (by kernel_rfl) (by kernel_rfl)
  (.cons (Rd.int Proofs.Tryz.underlying3) (fun _=>⟨rfl,rfl⟩) (.cons (Rd.int Proofs.Tryz.underlying3) (fun _=>⟨rfl,rfl⟩) (.cons (Rd.int Proofs.Tryz.underlying3) (fun _=>⟨rfl,rfl⟩)
   (.cons (Rd.int Proofs.Tryz.underlying3) (fun _=>⟨rfl,rfl⟩) (.cons rdAsgs (fun _=>⟨rfl,rfl⟩) .nil)))))).map (fun (y:Int × Int × Int × Int × List (Int × Int) × Unit)=>⟨y.1,y.2.1,y.2.2.1,y.2.2.2.1,y.2.2.2.2.1⟩) (fun _=>rfl) (fun _ _=>trivial)
end
end Go.AL
end
section
namespace Go.AL
open Go Go.RowKit
set_option maxRecDepth 100000
section
variable {H:Type} {enc:TypeId × Value→H} {W:World}
theorem rdEvsM:Rd enc Proofs.Tryz.prog W 64 1 aEvs (fun l=>l.length≤maxLen) :=
 (Rd.slice Proofs.Tryz.underlying64 (by kernel_rfl:Program.cellsOf Proofs.Tryz.prog 70=5) (by decide) rdEv).map id (fun _=>rfl) (fun _ h=>h.1)
theorem rdPrM:Rd enc Proofs.Tryz.prog W 66 3 aPr (fun p=>p.evs.length≤maxLen) :=
 (Rd.struct (ts:=[9,63,64]) Proofs.Tryz.underlying66 rfl rfl (by kernel_rfl) (by kernel_rfl)
  (.cons (Rd.str Proofs.Tryz.underlying9) (fun _=>⟨rfl,rfl⟩) (.cons rdVars (fun _=>⟨rfl,rfl⟩) (.cons rdEvsM (fun _=>⟨rfl,rfl⟩) .nil)))).map (fun (y:ByteArray × List (ByteArray × Int) × List Ev × Unit)=>⟨y.1,y.2.1,y.2.2.1⟩) (fun _=>rfl) (fun _ h=>h.2.2.1)
theorem rdPrsM:Rd enc Proofs.Tryz.prog W 22 1 aPrs (fun l=>l.length≤maxLen∧∀p ∈ l,p.evs.length≤9223372036854775807) :=
 (Rd.slice Proofs.Tryz.underlying22 (by kernel_rfl:Program.cellsOf Proofs.Tryz.prog 66=3) (by decide) rdPrM).map id (fun _=>rfl) (fun _ h=>h)
theorem rdTrM:Rd enc Proofs.Tryz.prog W 24 1 aTr (fun l=>l.length≤maxLen∧∀p ∈ l,p.evs.length≤9223372036854775807) :=
 (Rd.struct (ts:=[22]) Proofs.Tryz.underlying24 rfl rfl (by kernel_rfl) (by kernel_rfl) (.cons rdPrsM (fun _=>⟨rfl,rfl⟩) .nil)).map (fun (y:List Pr × Unit)=>y.1) (fun _=>rfl) (fun _ h=>h.1)
end
end Go.AL
end
section
namespace Go.AL
open Go Go.RowKit
set_option maxRecDepth 100000
def aPdC:Pd→List AV | .mk k n p q s l=>[ai k,ai n,ai p,ai q,astr s,.sl 6 (l.map aPd)]
section
variable {H:Type} {enc:TypeId × Value→H} {W:World}
theorem rdPredN:∀N,RdF enc Proofs.Tryz.prog W N 61 6 aPd (fun _=>True)
 | 0 => .zero
 | N+1 =>
  (RdF.struct (ts:=[3,3,3,3,9,25]) Proofs.Tryz.underlying61 rfl rfl (by kernel_rfl) (by kernel_rfl)
   (.cons ((Rd.int Proofs.Tryz.underlying3).bounded N) (fun _=>⟨rfl,rfl⟩) (.cons ((Rd.int Proofs.Tryz.underlying3).bounded N) (fun _=>⟨rfl,rfl⟩) (.cons ((Rd.int Proofs.Tryz.underlying3).bounded N) (fun _=>⟨rfl,rfl⟩)
    (.cons ((Rd.int Proofs.Tryz.underlying3).bounded N) (fun _=>⟨rfl,rfl⟩) (.cons ((Rd.str Proofs.Tryz.underlying9).bounded N) (fun _=>⟨rfl,rfl⟩)
     (.cons ((RdF.slice Proofs.Tryz.underlying25 (by kernel_rfl:Program.cellsOf Proofs.Tryz.prog 61=6) (by decide) (rdPredN N)).mono (Nat.le_succ N)) (fun _=>⟨rfl,rfl⟩) .nil))))))).map
   (fun (y:Int × Int × Int × Int × ByteArray × List Pd × Unit)=>Pd.mk y.1 y.2.1 y.2.2.1 y.2.2.2.1 y.2.2.2.2.1 y.2.2.2.2.2.1) (fun _=>(aPd_mk _ _ _ _ _ _).symm) (fun _ _=>trivial)
theorem rdPreds:Rd enc Proofs.Tryz.prog W 25 1 (fun l:List Pd => .sl 6 (l.map aPd)) (fun l=>l.length≤maxLen) :=
 (Rd.slice Proofs.Tryz.underlying25 (by kernel_rfl:Program.cellsOf Proofs.Tryz.prog 61=6) (by decide) (RdF.all rdPredN)).map id (fun _=>rfl) (fun _ h=>h.1)
end
end Go.AL
end
