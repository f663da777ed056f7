/- Texts of this claim's proof: WXr, WV20, WV21, WV22, WV23, WV24, WU9, WU10, WU12, WU13, WQe, WXg, WU14, WV25, WV27. No condition. -/
import Derived.Test.YtplamfpmmogbeaaGreatDoorM16
import Derived.Test.YtplamfpmmogbeaaGreatDoorM17
import Derived.Test.YtplamfpmmogbeaaGreatDoorM14
section
namespace Go.AL
open Go Go.RowKit
set_option maxRecDepth 4000
theorem ref29_TruthsG (ps:List Pr) (hs:Sm ps) (p:Nat) (hp:p<ps.length) (t:Pd) (f:Nat→Bool) (hst:∀k:Nat,k≤ps[p].evs.length→PC Proofs.Tryz.prog 86 [aTr ps,ai p,ai k,aPd t] (ab (f k))) :
  PC Proofs.Tryz.prog 53 [aTr ps,ai p,aPd t] (.sl 1 ((List.range (ps[p].evs.length+1)).map fun k:Nat=>ab (f k))):=by
 have hl:=hs.procs
 have hel:=hs.evs _ (List.getElem_mem hp)
 have hgp:=getD_map (f:=aPr) hp
 have hy:∀k,((List.range k).map fun (k:Nat)=>ab (f k)).length=k:=fun k=>by simp
 have hys:∀k,((List.range (k+1)).map fun (k:Nat)=>ab (f k))=((List.range k).map fun (k:Nat)=>ab (f k)) ++ [ab (f k)]:=fun k=>by rw[List.range_succ,List.map_append];rfl
 obtain⟨k0,n,pp,q,s,l⟩:=t
 simp only[aPd_mk] at *
 generalize hY:(fun k:Nat=>(List.range k).map fun (j:Nat)=>ab (f j))=Y at *
 have hYk:∀k,((List.range k).map fun (j:Nat)=>ab (f j))=Y k:=fun k=>by rw[← hY]
 simp only[hYk] at hy hys ⊢
 refine PC.enter 29 [.tmp 6] [3,5,26] Proofs.Tryz.func53 rfl rfl rfl rfl rfl (by simp) (AWp.of ?_);simp only[go_sem]
 refine Wk ?_
 refine AWp.block (AWp.count 8 (ps[p].evs.length+1) [7] [1,3,5] (fun k vs L=>∃v,vs=[v]∧AppSt 4 1 (Y k) v L) rfl rfl ⟨anil,rfl,by rw[← hY];exact .nil⟩ ?_)
 rintro k vs L' hk - ⟨v,rfl,hA⟩
 have hyl:=hy k
 have hfo:=hA.fo
 have hys:=hys k
 have hfin:=hy (ps[p].evs.length+1)
 by_cases hke:k=ps[p].evs.length+1
 ·have hn:¬(k:Int)≤ps[p].evs.length:=by omega
  rw[← hke] at *
  generalize Y k=ys at *
  rcases hA.inv with ⟨e1,rfl,rfl⟩|⟨b',cap,rfl,rfl⟩
  ·rw[e1] at hyl;simp at hyl;omega
  ·simp only[go_sem]
   refine W2 hgp hn ?_
   refine ret_view [true] ?_;simp only[go_sem]
   exact Vw.ofLs (if_pos rfl) rfl
 ·have hst:=hst k (by omega)
  have hn:(k:Int)≤ps[p].evs.length:=by omega
  generalize Y k=ys at *
  generalize f k=b at *
  rcases hA.inv with ⟨e1,rfl,rfl⟩|⟨b',cap,rfl,rfl⟩
  ·simp only[go_sem]
   refine W2 hgp hn ?_
   refine Sd ?_
   refine(hst).val.use ?_;simp only[go_sem]
   refine Sd ?_
   intro b' cap' _
   refine Wk ?_
   refine⟨_,List.Sublist.refl _,_,rfl,?_⟩
   rw[hys,e1]
   exact .row _ _ _
  ·simp only[go_sem]
   refine W2 hgp hn ?_
   refine Sd ?_
   refine(hst).val.use ?_;simp only[go_sem]
   refine Sd ?_
   intro b' cap' _
   refine Wk ?_
   refine⟨_,List.Sublist.refl _,_,rfl,?_⟩
   rw[hys]
   have:=AppSt.row (t:=4) (k:=1) b' (ys ++ [ab b]) cap'
   simpa using this
theorem ref37_SpansG (ps:List Pr) (hs:Sm ps) (i:Nat) (hp:i<ps.length) (t:Pd) (b:Nat→Bool) (hst:∀k:Nat,k≤ps[i].evs.length→PC Proofs.Tryz.prog 86 [aTr ps,ai i,ai k,aPd t] (ab (b k))) :
  PC Proofs.Tryz.prog 57 [aTr ps,ai i,aPd t] (.sl 3 ((spL b i (ps[i].evs.length+1)).map aStp)):=by
 have h1:=ref29_TruthsG ps hs i hp t b hst
 have hl:=hs.procs
 have hel:=hs.evs _ (List.getElem_mem hp)
 clear hst
 have hT:∀k,k<ps[i].evs.length+1→((List.range (ps[i].evs.length+1)).map fun k:Nat=>ab (b k)).getD k .any=ab (b k):=fun k hk=>map_range_getD hk _
 have hTl:((List.range (ps[i].evs.length+1)).map fun k:Nat=>ab (b k)).length=ps[i].evs.length+1:=by simp
 generalize (List.range (ps[i].evs.length+1)).map (fun k:Nat=>ab (b k))=T at *
 obtain⟨k0,n,pp,q,s,l⟩:=t
 simp only[aPd_mk] at *
 have hR:spL b i (ps[i].evs.length+1)=spL b i T.length:=by rw[hTl]
 rw[hR]
 clear hR
 refine PC.enter 49 [.tmp 6] [3,5,46] Proofs.Tryz.func57 rfl rfl rfl rfl rfl (by simp) (AWp.of ?_);simp only[go_sem]
 refine Wk ?_
 refine Sd ?_
 refine(h1).val.use ?_;simp only[go_sem]
 refine Wk ?_
 refine AWp.block (AWp.count 9 T.length [8] [1,7] (fun k vs L=>∃v,vs=[v]∧AppSt 62 3 ((spL b i k).map aStp) v L) rfl rfl ⟨anil,rfl,.nil⟩ ?_)
 rintro k vs L' hk - ⟨v,rfl,hA⟩
 have hfo:=hA.fo
 by_cases hke:k=T.length
 ·have hn:¬(k:Int)<T.length:=by omega
  rw[← hke]
  rcases hA.inv with ⟨e3,rfl,rfl⟩|⟨bq,cap,rfl,rfl⟩
  ·simp only[go_sem]
   refine W1 hn ?_
   refine ret_view [] ?_;simp only[go_sem]
   rw[e3]
   exact .nil 3
  ·simp only[go_sem]
   refine W1 hn ?_
   refine ret_view [true] ?_;simp only[go_sem]
   exact Vw.ofLs (if_pos rfl) (List.length_map _).symm
 ·have hn:(k:Int)<T.length:=by omega
  have g0:=hT k (by omega)
  have g1:=hT (k - 1) (by omega)
  have gk:((k:Int) - 1).toNat=k - 1:=by omega
  have hyk:=spL_len (b:=b) (p:=i) k
  cases hbk:b k with
  | false =>
   rw[hbk] at g0
   have hno:=spL_no (b:=b) (p:=i) hbk
   simp only[go_sem]
   refine W3 g0 hn hfo ?_
   refine⟨_,List.Sublist.refl _,v,rfl,?_⟩
   rw[hno]
   exact hA
  | true =>
   rw[hbk] at g0
   simp only[go_sem]
   refine W5 g0 g1 gk hn hfo ?_
   refine⟨fun h2 h3 => ?_,fun h2 => ?_⟩
   ·obtain⟨d,f,e1,e2⟩:=spL_on (b:=b) (p:=i) (k:=k) hbk (by rw[decide_eq_true (by omega),h3];rfl)
    rw[e1] at hA
    have gl:((d ++ [(i,f,k - 1)]).map aStp).getD (((d ++ [(i,f,k - 1)]).map aStp).length - 1) .any = .agg [ai i,ai f,ai ((k - 1:Nat):Int)]:=last_get d (i,f,k - 1)
    have gs:((d ++ [(i,f,k - 1)]).map aStp).set (((d ++ [(i,f,k - 1)]).map aStp).length - 1) (.agg [ai i,ai f,ai k])=(d ++ [(i,f,k)]).map aStp:=last_set d (i,f,k - 1) (i,f,k)
    have hyl:1≤((d ++ [(i,f,k - 1)]).map aStp).length:=by simp
    rw[e1,← List.length_map (f:=aStp)] at hyk
    have hll:((d ++ [(i,f,k)]).map aStp).length=((d ++ [(i,f,k - 1)]).map aStp).length:=by simp
    generalize ((d ++ [(i,f,k - 1)]).map aStp)=ys at *
    have gn:((ys.length:Int) - 1).toNat=ys.length - 1:=by omega
    rcases hA.inv with ⟨e3,_,_⟩|⟨bq,cap,rfl,rfl⟩
    ·rw[e3] at hyl;simp at hyl
    ·refine Wk ?_
     simp only[go_sem,gl,gn,gs]
     refine Sd ?_
     refine Wk ?_
     refine⟨_,List.Sublist.refl _,_,rfl,?_⟩
     rw[e2,← hll]
     exact .row _ _ _
   ·have e0:(decide (0<k) && b (k - 1))=false:=by
     by_cases h3:0<k
     ·rw[decide_eq_true h3,Bool.true_and];simpa using h2 (by omega)
     ·rw[decide_eq_false h3];rfl
    have hne:=spL_new (b:=b) (p:=i) hbk e0
    have ea:[(i,k,k)].map aStp=[.agg [ai i,ai k,ai k]]:=rfl
    rw[← List.length_map (f:=aStp)] at hyk
    generalize hys:(spL b i k).map aStp=ys at *
    rcases hA.inv with ⟨e3,rfl,rfl⟩|⟨bq,cap,rfl,rfl⟩
    ·subst e3
     refine Wk ?_
     simp only[go_sem]
     refine Sd ?_
     intro b' cap' _
     refine Wk ?_
     refine⟨_,List.Sublist.refl _,_,rfl,?_⟩
     rw[hne,List.map_append,hys,ea]
     exact .row _ _ _
    ·refine Wk ?_
     simp only[go_sem]
     refine Sd ?_
     intro b' cap' _
     refine Wk ?_
     refine⟨_,List.Sublist.refl _,_,rfl,?_⟩
     rw[hne,List.map_append,hys,ea]
     have:=AppSt.row (t:=62) (k:=3) b' (ys ++ [.agg [ai i,ai k,ai k]]) cap'
     simpa using this
def dropK (rows:Nat→List Stp) (a:Nat→Nat) (n:Nat):List AV:=(List.range n).map fun p => .sl 3 (((rows p).drop (a p)).map aStp)
theorem dropK_len (rows:Nat→List Stp) (a:Nat→Nat) (n:Nat):(dropK rows a n).length=n:=by simp [dropK]
theorem dropK_succ (rows:Nat→List Stp) (a:Nat→Nat) (n:Nat):dropK rows a (n+1)=dropK rows a n ++ [.sl 3 (((rows n).drop (a n)).map aStp)]:=by unfold dropK;rw[List.range_succ,List.map_append];rfl
theorem dropK_get {rows:Nat→List Stp} {a:Nat→Nat} {n p:Nat} (hp:p<n):(dropK rows a n).getD p .any = .sl 3 (((rows p).drop (a p)).map aStp):=map_range_getD hp _
theorem dropK_set {rows:Nat→List Stp} {a:Nat→Nat} {n q:Nat} : (dropK rows a n).set q (.sl 3 (((rows q).drop (a q+1)).map aStp))=dropK rows (updN a q (a q+1)) n:=by
 unfold dropK
 rw[map_range_set]
 congr 1;funext p
 by_cases e:p=q
 ·subst e;rw[if_pos rfl,updN_self]
 ·rw[if_neg e,updN_ne e]
noncomputable def aLeast (ps:List Pr) (rows:Nat→List Stp):AV:=match tgtO ps rows with
 | some a => .tup [.sl 3 ((chcL ps.length rows a).map aStp),ab true]
 | none => .tup [.sl 3 [],ab false]
theorem aLeast_some {ps:List Pr} {rows:Nat→List Stp} {a:Nat→Nat} (h:LeastS ps rows a):aLeast ps rows = .tup [.sl 3 ((chcL ps.length rows a).map aStp),ab true]:=by
 obtain⟨a',h1,h2⟩:=tgtO_some h
 unfold aLeast
 rw[h1];dsimp only;rw[chcL_congr h2]
theorem aLeast_none {ps:List Pr} {rows:Nat→List Stp} (h:¬ ∃t,TgtS ps rows t):aLeast ps rows = .tup [.sl 3 [],ab false]:=by
 unfold aLeast;rw[tgtO_none h]
def totA (rows:Nat→List Stp) (n:Nat) (a:Nat→Nat):Nat:=totS n fun p=>(rows p).length - a p
structure ElA (ps:List Pr) (rows:Nat→List Stp) (a:Nat→Nat):Prop where
 lt:∀p,p<ps.length→a p<(rows p).length
 low:∀t,TgtS ps rows t→∀p,p<ps.length→a p≤t p
theorem ElA.step {ps:List Pr} {b:Nat→Nat→Bool} {rows:Nat→List Stp} (hR:RowsOk ps b rows) {a:Nat→Nat} (h:ElA ps rows a) {p q:Nat} (hp:p<ps.length) (hq:q<ps.length) (hpq:p ≠ q) (hb:bgN ps (fSp rows p (a p)) (fSp rows q (a q))=false) :
  (a q+1=(rows q).length→¬ ∃t,TgtS ps rows t)∧(a q+1 ≠ (rows q).length→ElA ps rows (updN a q (a q+1))∧totA rows ps.length (updN a q (a q+1))<totA rows ps.length a):=by
 have hs:=tgt_step (mon_rows hR) h.low hp hq hpq hb
 have hlq:=h.lt q hq
 have e:∀r,updN a q (a q+1) r=if r=q then a q+1 else a r:=fun r=>rfl
 refine⟨fun h1=>tgt_none hs hq (by show (rows q).length≤if q=q then a q+1 else a q;rw[if_pos rfl];omega),fun h1=>⟨⟨fun r hr => ?_,fun t ht r hr=>by rw[e];exact hs t ht r hr⟩,?_⟩⟩
 ·by_cases e2:r=q
  ·subst e2;rw[updN_self];omega
  ·rw[updN_ne e2];exact h.lt r hr
 ·unfold totA
  refine totS_lt2 ps.length (p:=q) (fun r _ => ?_) hq ?_
  ·by_cases e2:r=q
   ·subst e2;rw[updN_self];omega
   ·rw[updN_ne e2];exact Nat.le_refl _
  ·rw[updN_self];omega
structure RndA (ps:List Pr) (rows:Nat→List Stp) (a0 a:Nat→Nat) (ch:Bool) (p q:Nat):Prop where
 el:ElA ps rows a
 no:ch=false→a=a0∧∀p' q',p'<ps.length→q'<ps.length→(p'<p∨(p'=p∧q'<q))→p' ≠ q'→bgN ps (fSp rows p' (a p')) (fSp rows q' (a q'))=true
 yes:ch=true→totA rows ps.length a<totA rows ps.length a0
set_option maxHeartbeats 2000000 in
theorem ref38_LeastG (ps:List Pr) (hs:Sm ps) (hv:validF ps=true) (ts:List Pd) (htl:ts.length≤1000000) (hl:ts.length=ps.length) {b:Nat→Nat→Bool} {rows:Nat→List Stp} (hok:RowsOk ps b rows) (hlen:∀p,p<ps.length→(rows p).length≤65)
  (hsp:∀p (hp:p<ts.length),PC Proofs.Tryz.prog 57 [aTr ps,ai p,aPd ts[p]] (.sl 3 ((rows p).map aStp))):PC Proofs.Tryz.prog 40 [aTr ps,.sl 6 (ts.map aPd)] (aLeast ps rows):=by
 obtain⟨hn1,hn8⟩:=valid_len hv
 have hA1:=fun a h=>aLeast_some (ps:=ps) (rows:=rows) (a:=a) h
 have hA2:=fun h=>aLeast_none (ps:=ps) (rows:=rows) h
 have hin:=fun p hp=>rows_in hok (p:=p) hp
 have hbg:∀(a:Nat→Nat),(∀p,p<ps.length→a p<(rows p).length)→∀p q,p<ps.length→q<ps.length→p ≠ q→PC Proofs.Tryz.prog 80 [aTr ps,aStp (fSp rows p (a p)),aStp (fSp rows q (a q))] (ab (bgN ps (fSp rows p (a p)) (fSp rows q (a q)))):=fun a ha p q hp hq hpq=>by
  have e1:=fSp_eq (ha p hp)
  have e2:=fSp_eq (ha q hq)
  refine ref38_Begins ps hs hv _ _ ?_ ?_ ?_
  ·rw[e1];exact hin p hp _ (List.getElem_mem _)
  ·rw[e2];exact hin q hq _ (List.getElem_mem _)
  ·rw[e1,e2,((hok p hp).el _ (List.getElem_mem _)).1,((hok q hq).el _ (List.getElem_mem _)).1];exact hpq
 generalize aLeast ps rows=R at *
 refine PC.enter 96 [.tmp 4,.tmp 5] [2,35,93] Proofs.Tryz.func40 rfl rfl rfl rfl rfl (by simp) (AWp.of ?_);simp only[go_sem]
 refine Wk ?_
 refine(AWp.block (AWp.count 8 ps.length [7] [1,2,6] (fun k vs L=>∃v,vs=[v]∧AppSt 37 1 (dropK rows (fun _=>0) k) v L∧∀p,p<k→0<(rows p).length) rfl rfl ⟨anil,rfl,.nil,fun _ h=>by omega⟩ ?_))
 rintro k vs L hkl - ⟨v,rfl,hAp,hpos⟩
 have hfo:=hAp.fo
 have hyl:=dropK_len rows (fun _=>0) k
 simp only[go_sem]
 by_cases hk:k<ps.length
 ·have hkk:(k:Int)<ps.length:=by omega
  have hkt:k<ts.length:=by omega
  have hg:=getD_map (f:=aPd) hkt
  have hs1:=hsp k hkt
  have hsu:=dropK_succ rows (fun _=>0) k
  rw[List.drop_zero] at hsu
  have hlk:=hlen k hk
  generalize ts[k]=t at *
  obtain⟨k0,n,pp,q0,s,l⟩:=t
  simp only[aPd_mk] at hg hs1
  generalize hys:dropK rows (fun _=>0) k=ys at *
  by_cases h0:(rows k).length=0
  ·have h0i:((rows k).length:Int)=0:=by omega
   rw[hA2 (tgt_none (a:=fun _=>0) (fun _ _ _ _=>Nat.zero_le _) hk (by show (rows k).length≤0;omega))]
   rcases hAp.inv with ⟨e1,rfl,rfl⟩|⟨bq,cap,rfl,rfl⟩
   ·refine W1 hkk ?_
    repeat(first|(with_reducible refine AWp.seq ?_)|(with_reducible refine AWp.block ?_))
    refine AWp.read mixed [0,1,2,3,4,5,6,7] (by kernel_rfl) ?_;simp only[go_sem,hg]
    refine Sd ?_
    refine GCall.use (.sl 3 ((rows k).map aStp)) (fun _=>⟨At,(hs1).val.use ⟨rfl,rfl⟩⟩) ?_;simp only[go_sem]
    refine Sd ?_
    repeat(first|((with_reducible refine AWp.ofC ?_ ?_);exact rfl;simp only[go_sem,h0i])|((with_reducible refine an ?_ ?_);exact Au))
    refine ret_view [] ?_;simp only[go_sem]
    exact .mkTup (Vws.cons (.nil 3) (Vws.refl _))
   ·refine W1 hkk ?_
    repeat(first|(with_reducible refine AWp.seq ?_)|(with_reducible refine AWp.block ?_))
    refine AWp.read mixed [0,1,2,3,4,5,6,7] (by kernel_rfl) ?_;simp only[go_sem,hg]
    refine Sd ?_
    refine GCall.use (.sl 3 ((rows k).map aStp)) (fun _=>⟨At,(hs1).val.use ⟨rfl,rfl⟩⟩) ?_;simp only[go_sem]
    refine Sd ?_
    repeat(first|((with_reducible refine AWp.ofC ?_ ?_);exact rfl;simp only[go_sem,h0i])|((with_reducible refine an ?_ ?_);exact Au))
    refine ret_view [] ?_;simp only[go_sem]
    exact .mkTup (Vws.cons (.nil 3) (Vws.refl _))
  ·have h0i:¬((rows k).length:Int)=0:=by omega
   have hpos2:∀p,p<k+1→0<(rows p).length:=fun p hp=>by
    by_cases e:p=k
    ·subst e;omega
    ·exact hpos p (by omega)
   rcases hAp.inv with ⟨e1,rfl,rfl⟩|⟨bq,cap,rfl,rfl⟩
   ·refine W1 hkk ?_
    repeat(first|(with_reducible refine AWp.seq ?_)|(with_reducible refine AWp.block ?_))
    refine AWp.read mixed [0,1,2,3,4,5,6,7] (by kernel_rfl) ?_;simp only[go_sem,hg]
    refine Sd ?_
    refine GCall.use (.sl 3 ((rows k).map aStp)) (fun _=>⟨At,(hs1).val.use ⟨rfl,rfl⟩⟩) ?_;simp only[go_sem]
    refine Sd ?_
    repeat(first|((with_reducible refine AWp.ofC ?_ ?_);exact rfl;simp only[go_sem,h0i])|((with_reducible refine an ?_ ?_);exact Au))
    intro b' cap' g8
    refine Wk ?_
    exact⟨_,List.Sublist.refl _,_,rfl,by rw[hsu,e1];exact .row _ _ _,hpos2⟩
   ·refine W1 hkk ?_
    repeat(first|(with_reducible refine AWp.seq ?_)|(with_reducible refine AWp.block ?_))
    refine AWp.read mixed [0,1,2,3,4,5,6,7] (by kernel_rfl) ?_;simp only[go_sem,hg]
    refine Sd ?_
    refine GCall.use (.sl 3 ((rows k).map aStp)) (fun _=>⟨At,(hs1).val.use ⟨rfl,rfl⟩⟩) ?_;simp only[go_sem]
    refine Sd ?_
    repeat(first|((with_reducible refine AWp.ofC ?_ ?_);exact rfl;simp only[go_sem,h0i])|((with_reducible refine an ?_ ?_);exact Au))
    intro b' cap' g8
    refine Wk ?_
    exact⟨_,List.Sublist.refl _,_,rfl,by rw[hsu];exact AppSt.snoc b' cap' _ rfl,hpos2⟩
 ·have hkk:¬(k:Int)<ps.length:=by omega
  have hkn:k=ps.length:=by omega
  subst hkn
  rcases hAp.inv with ⟨e1,rfl,rfl⟩|⟨b7,cap,rfl,rfl⟩
  ·rw[e1] at hyl;simp at hyl;omega
  clear hfo hAp
  refine W2 hkk hyl ?_
  refine(AWp.block (AWp.loopN [10] [2,6,7] (fun m vs L=>∃a ch,vs=[ab ch]∧L=[(b7,.row 37 1 (dropK rows a ps.length) cap)]∧ElA ps rows a∧(ch=false→TgtS ps rows a)∧m=2 * totA rows ps.length a+(if ch=true then 1 else 0)) (2 * totA rows ps.length (fun _=>0)+1) ?_ ?_))
  ·exact⟨fun _=>0,true,rfl,rfl,⟨hpos,fun _ _ _ _=>Nat.zero_le _⟩,fun h=>by (cases h),rfl⟩
  rintro m vs L - ⟨a,ch,rfl,rfl,hel,htg,rfl⟩
  simp only[go_sem]
  cases ch with
  | false =>
   have hT:=htg rfl
   rw[hA1 a ⟨hT,hel.low⟩]
   have hdl:=dropK_len rows a ps.length
   have hlt:=hel.lt
   refine W1 hdl ?_
   refine(AWp.block (AWp.count 14 ps.length [13] [6,7] (fun k vs L=>∃v Lq,vs=[v]∧L=Lq ++ [(b7,.row 37 1 (dropK rows a ps.length) cap)]∧AppSt 62 3 ((chcL k rows a).map aStp) v Lq∧∀x ∈ Lq,x.1 ≠ b7) rfl rfl ⟨anil,[],rfl,rfl,.nil,by simp⟩ ?_))
   rintro k vs L hkl - ⟨v,Lq,rfl,rfl,hAp,hq⟩
   have hfo:=hAp.fo
   have hyl:((chcL k rows a).map aStp).length=k:=by rw[List.length_map,chcL_len]
   simp only[go_sem]
   by_cases hk:k<ps.length
   ·have hkk:(k:Int)<ps.length:=by omega
    have hgd:=dropK_get (rows:=rows) (a:=a) hk
    have hsu:=congrArg (List.map aStp) (chcL_succ k rows a)
    rw[List.map_append] at hsu
    have hak:=hlt k hk
    have hlk:=hlen k hk
    rw[← List.getElem_cons_drop hak,List.map_cons,← fSp_eq hak] at hgd
    have es:[fSp rows k (a k)].map aStp=[.agg [ai (fSp rows k (a k)).1,ai (fSp rows k (a k)).2.1,ai (fSp rows k (a k)).2.2]]:=rfl
    have eg:aStp (fSp rows k (a k)) = .agg [ai (fSp rows k (a k)).1,ai (fSp rows k (a k)).2.1,ai (fSp rows k (a k)).2.2]:=rfl
    rw[es] at hsu
    rw[eg] at hgd
    have hdr:(((rows k).drop (a k+1)).map aStp).length+1≤65:=by rw[List.length_map,List.length_drop];omega
    generalize ((rows k).drop (a k+1)).map aStp=dr at *
    generalize hys:(chcL k rows a).map aStp=ys at *
    generalize fSp rows k (a k)=s at *
    rcases hAp.inv with ⟨e1,rfl,rfl⟩|⟨bq,capq,rfl,rfl⟩
    ·rw[e1] at hsu
     simp only[go_sem,List.nil_append]
     repeat(first|((with_reducible refine AWp.ofC ?_ ?_);exact rfl;simp only[go_sem,hkk,hgd,hdl,List.length_cons,List.getD_cons_zero])|((with_reducible refine an ?_ ?_);exact Au))
     intro b' cap' g8 g9
     have n3:¬b'=b7:=by omega
     have n4:¬b7=b':=by omega
     refine W2 n3 n4 ?_
     refine⟨_,List.Sublist.refl _,.ls b' 3 0 1 cap',[(b',.row 62 3 ((chcL (k+1) rows a).map aStp) cap')],rfl,?_,?_,?_⟩
     ·rw[hsu];rfl
     ·rw[hsu];exact .row _ _ _
     ·intro y hy;simp only[List.mem_singleton] at hy;subst hy;exact n3
    ·have nq:=hq (bq,.row 62 3 ys capq) (by simp)
     simp only at nq
     have nq1:¬b7=bq:=fun e=>nq e.symm
     simp only[go_sem,List.cons_append,List.nil_append]
     repeat(first|((with_reducible refine AWp.ofC ?_ ?_);exact rfl;simp only[go_sem,hkk,hgd,hdl,List.length_cons,List.getD_cons_zero,nq,nq1])|((with_reducible refine an ?_ ?_);exact Au))
     intro b' cap' g8 g9
     have n3:¬b'=b7:=by omega
     have n4:¬b7=b':=by omega
     refine W2 n3 n4 ?_
     refine⟨_,List.Sublist.refl _,.ls b' 3 0 (ys.length+1) cap',[(b',.row 62 3 ((chcL (k+1) rows a).map aStp) cap')],rfl,?_,?_,?_⟩
     ·rw[hsu];rfl
     ·rw[hsu];exact AppSt.snoc b' cap' _ rfl
     ·intro y hy;simp only[List.mem_singleton] at hy;subst hy;exact n3
   ·have hkk:¬(k:Int)<ps.length:=by omega
    have hkn:k=ps.length:=by omega
    subst hkn
    rcases hAp.inv with ⟨e1,rfl,rfl⟩|⟨bq,capq,rfl,rfl⟩
    ·rw[e1] at hyl;simp at hyl;omega
    ·have nq:=hq (bq,.row 62 3 ((chcL ps.length rows a).map aStp) capq) (by simp)
     simp only at nq
     have nq1:¬b7=bq:=fun e=>nq e.symm
     simp only[go_sem,List.cons_append,List.nil_append]
     refine W3 hkk nq nq1 ?_
     refine ret_view [true,false] ?_;simp only[go_sem]
     exact .mkTup (Vws.cons (Vw.ofLs (if_pos rfl) (List.length_map _).symm) (Vws.refl _))
  | true =>
   refine Wk ?_
   refine(AWp.block (AWp.count 11 ps.length [10] [2,6,7] (fun p vs L=>∃a1 c1,vs=[ab c1]∧L=[(b7,.row 37 1 (dropK rows a1 ps.length) cap)]∧RndA ps rows a a1 c1 p 0) rfl rfl ⟨a,false,rfl,rfl,hel,fun _=>⟨rfl,fun p' q' _ _ h=>by omega⟩,fun h=>by (cases h)⟩ ?_))
   rintro p vs L hpl - ⟨a1,c1,rfl,rfl,hrd⟩
   simp only[go_sem]
   by_cases hp:p<ps.length
   ·have hpi:(p:Int)<ps.length:=by omega
    refine W1 hpi ?_
    refine(AWp.block (AWp.count 12 ps.length [10] [2,6,7,11] (fun q vs L=>∃a2 c2,vs=[ab c2]∧L=[(b7,.row 37 1 (dropK rows a2 ps.length) cap)]∧RndA ps rows a a2 c2 p q) rfl rfl ⟨a1,c1,rfl,rfl,hrd⟩ ?_))
    rintro q vs L hql - ⟨a2,c2,rfl,rfl,hr2⟩
    simp only[go_sem]
    by_cases hq:q<ps.length
    ·have hqi:(q:Int)<ps.length:=by omega
     have hdl:=dropK_len rows a2 ps.length
     have hlt:=hr2.el.lt
     have hkeep:(p ≠ q→bgN ps (fSp rows p (a2 p)) (fSp rows q (a2 q))=true)→RndA ps rows a a2 c2 p (q+1):=fun h=>⟨hr2.el,fun hc=>by
      obtain⟨g1,g2⟩:=hr2.no hc
      refine⟨g1,fun p' q' h1 h2 h3 h4 => ?_⟩
      by_cases e:p'=p∧q'=q
      ·obtain⟨rfl,rfl⟩:=e
       exact h h4
      ·exact g2 p' q' h1 h2 (by omega) h4,hr2.yes⟩
     have hgp:=dropK_get (rows:=rows) (a:=a2) hp
     have hgq:=dropK_get (rows:=rows) (a:=a2) hq
     have hap:=hlt p hp
     have haq:=hlt q hq
     rw[← List.getElem_cons_drop hap,List.map_cons,← fSp_eq hap] at hgp
     rw[← List.getElem_cons_drop haq,List.map_cons,← fSp_eq haq] at hgq
     have ep:aStp (fSp rows p (a2 p)) = .agg [ai (fSp rows p (a2 p)).1,ai (fSp rows p (a2 p)).2.1,ai (fSp rows p (a2 p)).2.2]:=rfl
     have eq':aStp (fSp rows q (a2 q)) = .agg [ai (fSp rows q (a2 q)).1,ai (fSp rows q (a2 q)).2.1,ai (fSp rows q (a2 q)).2.2]:=rfl
     rw[ep] at hgp
     rw[eq'] at hgq
     by_cases hpq:p=q
     ·subst hpq
      refine W1 hqi ?_
      repeat(first|(with_reducible refine AWp.seq ?_)|(with_reducible refine AWp.block ?_))
      refine AWp.read mixed [0,1,2,3,4,5,6,7,8,9,10,11,12,13,14,15,16,17,18] (by kernel_rfl) ?_;simp only[go_sem,hgp,hdl,hqi,List.length_cons,List.getD_cons_zero]
      refine Sd ?_
      refine GCall.use .any (fun h=>absurd h (by simp)) ?_
      simp only[go_sem]
      refine Wk ?_
      exact⟨_,List.Sublist.refl _,a2,c2,rfl,rfl,hkeep fun h=>absurd rfl h⟩
     ·have hpqi:¬(p:Int)=(q:Int):=by omega
      have hb:=hbg a2 hlt p q hp hq hpq
      rw[ep,eq'] at hb
      have hst:=fun hbf=>ElA.step hok hr2.el hp hq hpq hbf
      have hdr:(((rows q).drop (a2 q+1)).map aStp).length=(rows q).length - (a2 q+1):=by rw[List.length_map,List.length_drop]
      have hset:=dropK_set (rows:=rows) (a:=a2) (n:=ps.length) (q:=q)
      have hlq:=hlen q hq
      generalize bgN ps (fSp rows p (a2 p)) (fSp rows q (a2 q))=BB at *
      generalize ((rows q).drop (a2 q+1)).map aStp=dq at *
      generalize ((rows p).drop (a2 p+1)).map aStp=dp at *
      refine W1 hqi ?_
      repeat(first|(with_reducible refine AWp.seq ?_)|(with_reducible refine AWp.block ?_))
      refine AWp.read mixed [0,1,2,3,4,5,6,7,8,9,10,11,12,13,14,15,16,17,18] (by kernel_rfl) ?_;simp only[go_sem,hgp,hgq,hdl,hqi,hpqi,List.length_cons,List.getD_cons_zero]
      refine Sd ?_
      refine Sd ?_
      refine GCall.use (ab BB) (fun _=>⟨At,(hb).val.use ⟨rfl,rfl⟩⟩) ?_;simp only[go_sem]
      refine Sd ?_
      cases BB with
      | true =>
       refine W1 hpqi ?_
       exact⟨_,List.Sublist.refl _,a2,c2,rfl,rfl,hkeep fun _=>rfl⟩
      | false =>
       obtain⟨s1,s2⟩:=hst rfl
       by_cases h1:a2 q+1=(rows q).length
       ·have h1i:(dq.length:Int)+1=1:=by omega
        rw[hA2 (s1 h1)]
        repeat(first|((with_reducible refine AWp.ofC ?_ ?_);exact rfl;simp only[go_sem,hgq,hdl,List.length_cons,Int.natCast_add,Int.cast_ofNat_Int,h1i])|((with_reducible refine an ?_ ?_);exact Au))
        refine ret_view [] ?_;simp only[go_sem]
        exact .mkTup (Vws.cons (.nil 3) (Vws.refl _))
       ·have h1i:¬(dq.length:Int)+1=1:=by omega
        obtain⟨s3,s4⟩:=s2 h1
        repeat(first|((with_reducible refine AWp.ofC ?_ ?_);exact rfl;simp only[go_sem,hgq,hdl,List.length_cons,Int.natCast_add,Int.cast_ofNat_Int,h1i])|((with_reducible refine an ?_ ?_);exact Au))
        have et:((dq.length:Int)+1).toNat=dq.length+1:=by omega
        rw[et,List.take_succ_cons,List.take_length,List.drop_succ_cons,List.drop_zero,hset]
        refine⟨_,List.Sublist.refl _,_,true,rfl,rfl,s3,fun h=>(by cases h),fun _ => ?_⟩
        cases c2 with
        | true=>have:=hr2.yes rfl;omega
        | false =>
         have e:=(hr2.no rfl).1
         subst e
         exact s4
    ·have hqi:¬(q:Int)<ps.length:=by omega
     refine W1 hqi ?_
     refine⟨_,List.Sublist.refl _,a2,c2,rfl,rfl,hr2.el,fun h => ?_,hr2.yes⟩
     obtain⟨g1,g2⟩:=hr2.no h
     exact⟨g1,fun p' q' h1 h2 h3 h4=>g2 p' q' h1 h2 (by omega) h4⟩
   ·have hpi:¬(p:Int)<ps.length:=by omega
    refine W1 hpi ?_
    refine⟨_,List.Sublist.refl _,2 * totA rows ps.length a1+(if c1=true then 1 else 0),?_,a1,c1,rfl,rfl,hrd.el,fun h => ?_,rfl⟩
    ·cases c1 with
     | true=>have:=hrd.yes rfl;simp;omega
     | false=>rw[(hrd.no rfl).1];simp
    ·obtain⟨g1,g2⟩:=hrd.no h
     exact⟨hrd.el.lt,fun p' q' h1 h2 h3=>g2 p' q' h1 h2 (by omega) h3⟩
theorem ref37_Fault_bad {ps:List Pr} (hrv:PC Proofs.Tryz.prog 37 [aTr ps] (ab false)) (ts:List Pd) (_htl:ts.length≤9223372036854775807):PC Proofs.Tryz.prog 10 [aTr ps,.sl 6 (ts.map aPd)] (ai 1):=by
 refine PC.enter 34 [.tmp 4] [2] Proofs.Tryz.func10 rfl rfl rfl rfl rfl (by simp) (AWp.of ?_);simp only[go_sem]
 refine Wk ?_
 refine Sd ?_
 refine(hrv).val.use ?_;simp only[go_sem]
 refine Wk ?_
 refine ret_eq ?_;simp only[go_sem]
theorem ref29_ok (ps:List Pr) (hs:Sm ps) (ts:List Pd) (hz:∀t ∈ ts,szF t≤1000000) (hf:conF ps ts=0) (p:Nat) (hp:p<ps.length) (hpt:p<ts.length) (k:Nat) (hk:k≤ps[p].evs.length):PC Proofs.Tryz.prog 86 [aTr ps,ai p,ai (k:Nat),aPd ts[p]] (ab ((elimOf ps ts).ok p k)):=by
 obtain⟨hv,htn,hlc⟩:=conF_inv hf
 obtain⟨c1,_,_,_,c5,c6⟩:=lcl_ok (hlc p hpt)
 have h:=ref29_Local ps hs p k hp hk ts[p] (hz _ (List.getElem_mem hpt)) c1 c5 c6
 have hok:(elimOf ps ts).ok p k=lclT ps p ts[p] k:=by show (match ts[p]? with|some t=>lclT ps p t k|none=>true)=_;rw[List.getElem?_eq_getElem hpt]
 rw[hok];exact h
theorem evtG_len:∀(R:List (List Int)) (c:List Int),(evtG c R).length=R.length
 | [],_=>rfl
 | b :: R,c=>by
  show (evtG b R).length+1=_
  rw[evtG_len R b];rfl
section
variable {b:Nat→Bool} {p K:Nat} {l:List Stp}
end
section
variable {ps:List Pr} {ts:List Pd} (hC:conF ps ts=0)
include hC
end
structure TgB (ps:List Pr) (s:Nat→Stp):Prop where
 el:∀p,p<ps.length→(s p).2.1≤(s p).2.2∧(s p).2.2≤nev ps p∧(s p).1=p
 bg:∀p q,p<ps.length→q<ps.length→p ≠ q→bgN ps (s p) (s q)=true
theorem cut_at {ps:List Pr} {c:List Int} (hc:isF ps c=true) {p:Nat} (hp:p<ps.length):0≤cAt c p∧cAt c p≤nev ps p:=by
 rw[nev_get hp]
 exact(inRange_iff (isF_iff.1 hc).1).1 (isF_iff.1 hc).2.1 p hp
section
variable {ps:List Pr} (hv:validF ps=true) {s:Nat→Stp} (hT:TgB ps s)
include hv hT
end
end Go.AL
end
