/- Texts of this claim's proof: WV32, WV33, WRt, WRt7, WRt2, WRt3. No condition. -/
import Derived.Test.YtnpagaiphamfaaaGreatDoorM22
import Derived.Test.YtnpagaiphamfaaaGreatDoorM14
import Derived.Test.YtnpagaiphamfaaaGreatDoorM21
import Derived.Test.YtnpagaiphamfaaaGreatDoorM13
import Derived.Test.YtnpagaiphamfaaaGreatDoorM9
import Derived.Test.YtnpagaiphamfaaaGreatDoorM4
import Derived.Test.YtnpagaiphamfaaaGreatDoorM8
import Derived.Test.YtnpagaiphamfaaaGreatDoorM11
section
namespace Go.AL
open Go Go.RowKit
set_option maxRecDepth 4000
theorem strong_Box11 (c:List Int) (s:Spn3) (h0:0≤s.1) (h1:s.1<c.length):PC Proofs.Tryz.prog 38 [aSp s,.rp 1 [aInts c] 0 0] (ab (decide (cAt c s.1<s.2.1) || decide (s.2.2<cAt c s.1))):=by
 obtain⟨p,f,t⟩:=s
 have h0:0≤p:=h0
 have h1:p<c.length:=h1
 have hg:=getD_cAt (c:=c) h0 h1
 have e1:aSp (p,f,t) = .agg [ai p,ai f,ai t]:=rfl
 have e2:aInts c = .sl 1 (c.map ai):=rfl
 show PC _ _ _ (ab (decide (cAt c p<f) || decide (t<cAt c p)))
 rw[e1,e2]
 generalize cAt c p=x at *
 refine PC.enter 22 [.tmp 3] [2] Proofs.Tryz.func38 rfl rfl rfl rfl rfl (by simp) (AWp.of ?_);simp only[go_sem]
 refine Wk ?_
 repeat(first|(with_reducible refine AWp.seq ?_)|(with_reducible refine AWp.block ?_))
 refine AWp.read mixed [0,1,2,3,4,5,6,7,8,9,10,11,12,13,14,15,16,17,18] (by kernel_rfl) ?_;simp only[go_sem,hg]
 refine Sd ?_
 refine Wk ?_
 refine ret_eq ?_;simp only[go_sem]
theorem strong_Box1 (ps:List Pr) (hps:ps.length≤1000000) (l:List Spn3) (he:eachB ps l=true) (c:List Int) (hc:c.length=ps.length):PC Proofs.Tryz.prog 36 [aInts c,.rp 1 [aSps l] 0 0] (ab (outB l c)):=by
 obtain⟨h1,h2⟩:=each_at he
 have h:=spans_containsFuncB l (by omega) (.clo 38 [.rp 1 [aInts c] 0 0]) rfl (fun s=>decide (cAt c s.1<s.2.1) || decide (s.2.2<cAt c s.1)) fun s hs=>by
  obtain⟨i,hi,rfl⟩:=List.mem_iff_getElem.1 hs
  have:=h2 i hi
  exact(strong_Box11 c l[i] (by omega) (by omega)).clo
 have e:(l.any fun s=>decide (cAt c s.1<s.2.1) || decide (s.2.2<cAt c s.1))=outB l c:=rfl
 rw[e] at h
 have hR:aSps l = .sl 3 (l.map aSp):=rfl
 rw[hR] at *
 generalize outB l c=o at *
 refine PC.enter 7 [.tmp 3] [2] Proofs.Tryz.func36 rfl rfl rfl rfl rfl (by simp) (AWp.of ?_);simp only[go_sem]
 refine Wk ?_
 refine Sd ?_
 refine(h).val.use ?_;simp only[go_sem]
 refine Wk ?_
 refine ret_eq ?_;simp only[go_sem]
noncomputable def boxE (ps:List Pr) (l:List Spn3):Int:=if gvnE ps l ≠ 0 then gvnE ps l else if eachB ps l=true then (if ovF ps (l.map spN)=true then lstE ps else 7) else 3
noncomputable def aBx38 (ps:List Pr) (l:List Spn3):AV:=.tup [aRows (if boxE ps l=0 then boxF ps l else []),ai (boxE ps l)]
theorem strong_Box_bad {ps:List Pr} (hva:PC Proofs.Tryz.prog 85 [aTr ps] (ab false)) (l:List Spn3):PC Proofs.Tryz.prog 8 [aTr ps,aSps l] (.tup [aRows [],ai 1]):=by
 have h:=strong_Overlap_bad hva l
 have hR:aSps l = .sl 3 (l.map aSp):=rfl
 rw[hR] at *
 refine PC.enter 38 [.tmp 4,.tmp 5] [2,3] Proofs.Tryz.func8 rfl rfl rfl rfl rfl (by simp) (AWp.of ?_);simp only[go_sem]
 refine Wk ?_
 refine Sd ?_
 refine(h).val.use ?_;simp only[go_sem]
 repeat(first|((with_reducible refine AWp.ofC ?_ ?_);exact rfl;simp only[go_sem,Int.reduceEq])|((with_reducible refine an ?_ ?_);exact Au))
 refine ret_view [] ?_;simp only[go_sem]
 exact .mkTup (Vws.cons (.nil 1) (Vws.refl _))
theorem strong_Box (ps:List Pr) (hs:Sm ps) (l:List Spn3) (hl:l.length≤9223372036854775806):PC Proofs.Tryz.prog 8 [aTr ps,aSps l] (aBx38 ps l):=by
 have h1:=strong_Overlap ps hs l hl
 have h2:=strong_ascending ps hs.procs l hl
 have hR:aSps l = .sl 3 (l.map aSp):=rfl
 have haR:∀x:List (List Int),aRows x = .sl 1 (x.map aInts):=fun _=>rfl
 have hB:aBx38 ps l = .tup [aRows (if boxE ps l=0 then boxF ps l else []),ai (boxE ps l)]:=rfl
 have hE:boxE ps l=if gvnE ps l ≠ 0 then gvnE ps l else if eachB ps l=true then (if ovF ps (l.map spN)=true then lstE ps else 7) else 3:=rfl
 rw[hB]
 by_cases hg:gvnE ps l=0
 ·rw[if_neg (by simpa using hg)] at hE
  rw[hg,decide_eq_true rfl,Bool.true_and] at h1
  cases he:eachB ps l with
  | false =>
   rw[he] at h2 hE
   rw[if_neg (by decide)] at hE
   rw[hE,if_neg (by decide)]
   generalize ovF ps (l.map spN)=O at *
   rw[hR] at *
   refine PC.enter 38 [.tmp 4,.tmp 5] [2,3] Proofs.Tryz.func8 rfl rfl rfl rfl rfl (by simp) (AWp.of ?_);simp only[go_sem]
   refine Wk ?_
   refine Sd ?_
   refine(h1).val.use ?_;simp only[go_sem]
   repeat(first|((with_reducible refine AWp.ofC ?_ ?_);exact rfl;simp only[go_sem])|((with_reducible refine an ?_ ?_);exact Au))
   refine Sd ?_
   refine(h2).val.use ?_;simp only[go_sem]
   refine Wk ?_
   refine ret_view [] ?_;simp only[go_sem]
   exact .mkTup (Vws.cons (.nil 1) (Vws.refl _))
  | true =>
   rw[he] at h2 hE
   rw[if_pos rfl] at hE
   cases ho:ovF ps (l.map spN) with
   | false =>
    rw[ho] at h1 hE
    rw[if_neg (by decide)] at hE
    rw[hE,if_neg (by decide)]
    rw[hR] at *
    refine PC.enter 38 [.tmp 4,.tmp 5] [2,3] Proofs.Tryz.func8 rfl rfl rfl rfl rfl (by simp) (AWp.of ?_);simp only[go_sem]
    refine Wk ?_
    refine Sd ?_
    refine(h1).val.use ?_;simp only[go_sem]
    repeat(first|((with_reducible refine AWp.ofC ?_ ?_);exact rfl;simp only[go_sem])|((with_reducible refine an ?_ ?_);exact Au))
    refine Sd ?_
    refine(h2).val.use ?_;simp only[go_sem]
    refine Wk ?_
    refine ret_view [] ?_;simp only[go_sem]
    exact .mkTup (Vws.cons (.nil 1) (Vws.refl _))
   | true =>
    rw[ho] at h1 hE
    rw[if_pos rfl] at hE
    by_cases hz:lstE ps=0
    ·obtain⟨hv,h5⟩:=lst_zero.1 hz
     have h3:=cuts_listO ps hs
     have hL:lstF ps=cutsF ps:=by unfold lstF;rw[if_pos hz]
     rw[hL,hz] at h3
     rw[hE,if_pos hz,hz]
     have hgc:∀c ∈ cutsF ps,PV Proofs.Tryz.prog (.clo 36 [.rp 1 [aSps l] 0 0]) [aInts c] (ab (outB l c)):=fun c hc=>(strong_Box1 ps hs.procs l he c (isF_iff.1 ((mem_cutsF hv).1 hc)).1).clo
     have hfl:(cutsF ps).filter (fun c => !outB l c)=boxF ps l:=by
      unfold boxF
      refine List.filter_congr fun c hc => ?_
      rw[out_in he (isF_iff.1 ((mem_cutsF hv).1 hc)).1,Bool.not_not]
     have hdel:=fun (bb cap:Nat) (ws:List AV)=>rows_delete bb cap (cutsF ps) ws (by omega) _ rfl (outB l) hgc
     rw[hfl] at hdel
     have hdn:=rows_delete_nil (.clo 36 [.rp 1 [aSps l] 0 0]) rfl
     have hfn:cutsF ps=[]→boxF ps l=[]:=fun h=>by unfold boxF;rw[h];rfl
     have h3':MCalls Proofs.Tryz.prog 34 [aTr ps] [] fun r L=>∃v,r = .tup [v,ai 0]∧OwnS (cutsF ps) v L:=by
      refine MCalls.enter' 8 [.tmp 2,.tmp 3] [1] Proofs.Tryz.func34 rfl rfl rfl rfl rfl (by simp) (AWp.of ?_);simp only[go_sem]
      refine Wk ?_
      refine h3.val.mono ?_
      rintro r L ⟨v,rfl,hO⟩
      have hfo:=hO.fo
      simp only[go_sem,hfo]
      refine W1 hfo ?_
      refine ret_own ?_
      simp only[go_sem]
      exact⟨v,rfl,hO⟩
     clear hgc hfl h3
     generalize boxF ps l=fs at *
     generalize cutsF ps=cs at *
     rw[hR] at *
     refine PC.enter 38 [.tmp 4,.tmp 5] [2,3] Proofs.Tryz.func8 rfl rfl rfl rfl rfl (by simp) (AWp.of ?_);simp only[go_sem]
     refine Wk ?_
     refine Sd ?_
     refine(h1).val.use ?_;simp only[go_sem]
     repeat(first|((with_reducible refine AWp.ofC ?_ ?_);exact rfl;simp only[go_sem])|((with_reducible refine an ?_ ?_);exact Au))
     refine Sd ?_
     refine(h2).val.use ?_;simp only[go_sem]
     refine Wk ?_
     refine h3'.val.mono ?_
     rintro r L ⟨v,rfl,hO⟩
     rcases hO with ⟨e0,rfl,rfl⟩|⟨bb,cap,ws,rfl,rfl⟩
     ·rw[hfn e0]
      simp only[go_sem]
      repeat(first|((with_reducible refine AWp.ofC ?_ ?_);exact rfl;simp only[go_sem])|((with_reducible refine an ?_ ?_);exact Au))
      refine Sd ?_
      refine(hdn).val.use ?_;simp only[go_sem]
      refine Wk ?_
      refine ret_view [] ?_;simp only[go_sem]
      exact .mkTup (Vws.cons (.nil 1) (Vws.refl _))
     ·simp only[go_sem]
      repeat(first|((with_reducible refine AWp.ofC ?_ ?_);exact rfl;simp only[go_sem])|((with_reducible refine an ?_ ?_);exact Au))
      refine(hdel bb cap ws).val.mono ?_
      rintro r L hO
      rcases hO with ⟨e0,rfl,rfl⟩|⟨bb,cap,ws,rfl,rfl⟩
      ·simp only[go_sem]
       refine Wk ?_
       refine ret_view [] ?_;simp only[go_sem]
       rw[e0]
       exact .mkTup (Vws.cons (.nil 1) (Vws.refl _))
      ·simp only[go_sem]
       refine Wk ?_
       refine ret_view [true] ?_;simp only[go_sem]
       exact .mkTup (Vws.cons (Vw.front (if_pos rfl) (by rw[List.length_map])) (Vws.refl _))
    ·rw[hE,if_neg hz]
     have h3:=cuts_List ps hs
     unfold aLst at h3
     generalize lstE ps=e at *
     generalize lstF ps=cs at *
     rw[haR] at h3
     rw[hR] at *
     refine PC.enter 38 [.tmp 4,.tmp 5] [2,3] Proofs.Tryz.func8 rfl rfl rfl rfl rfl (by simp) (AWp.of ?_);simp only[go_sem]
     refine Wk ?_
     refine Sd ?_
     refine(h1).val.use ?_;simp only[go_sem]
     repeat(first|((with_reducible refine AWp.ofC ?_ ?_);exact rfl;simp only[go_sem])|((with_reducible refine an ?_ ?_);exact Au))
     refine Sd ?_
     refine(h2).val.use ?_;simp only[go_sem]
     refine Wk ?_
     refine Sd ?_
     refine(h3).val.use ?_;simp only[go_sem]
     refine W1 hz ?_
     refine ret_view [] ?_;simp only[go_sem]
     exact .mkTup (Vws.cons (.nil 1) (Vws.refl _))
 ·rw[if_pos hg] at hE
  rw[hE,if_neg hg]
  rw[decide_eq_false hg,Bool.false_and] at h1
  generalize gvnE ps l=e at *
  rw[hR] at *
  refine PC.enter 38 [.tmp 4,.tmp 5] [2,3] Proofs.Tryz.func8 rfl rfl rfl rfl rfl (by simp) (AWp.of ?_);simp only[go_sem]
  refine Wk ?_
  refine Sd ?_
  refine(h1).val.use ?_;simp only[go_sem]
  refine W1 hg ?_
  refine ret_view [] ?_;simp only[go_sem]
  exact .mkTup (Vws.cons (.nil 1) (Vws.refl _))
theorem ref38_In (l:List Spn3) (c:List Int) (hc:c.length=l.length) (hl:l.length≤1000000):PC Proofs.Tryz.prog 45 [aSps l,aInts c] (ab (inBx l c)):=by
 have hR:aSps l = .sl 3 (l.map aSp):=rfl
 have haI:aInts c = .sl 1 (c.map ai):=rfl
 have hE:inBx l c=(List.range c.length).all fun p => !(decide (cAt c p<(l.getD p (0,0,0)).2.1) || decide ((l.getD p (0,0,0)).2.2<cAt c p)):=rfl
 rw[hR,haI]
 generalize inBx l c=E at *
 refine PC.enter 34 [.tmp 4] [] Proofs.Tryz.func45 rfl rfl rfl rfl rfl (by simp) (AWp.of ?_);simp only[go_sem]
 refine Wk ?_
 refine AWp.block (AWp.count 5 c.length [] [0,1] (fun k vs L=>L=[]∧∀j:Nat,j<k→¬cAt c j<(l.getD j (0,0,0)).2.1∧¬(l.getD j (0,0,0)).2.2<cAt c j) rfl rfl ⟨rfl,fun j h=>by omega⟩ ?_)
 rintro k vs L hk - ⟨rfl,hI⟩
 simp only[go_sem]
 refine Wk ?_
 refine⟨fun h3 => ?_,fun h3 => ?_⟩
 ·have hkc:k<c.length:=by omega
  have hkl:k<l.length:=by omega
  have gc:=getD_map (f:=ai) hkc
  have gl:=getD_map (f:=aSp) hkl
  have e1:=cAt_nat hkc
  have e2:=getD_sp hkl
  have hb:(decide (cAt c k<(l.getD k (0,0,0)).2.1) || decide ((l.getD k (0,0,0)).2.2<cAt c k))=true→E=false:=fun h=>by
   rw[hE,List.all_eq_false]
   exact⟨k,List.mem_range.2 hkc,by rw[h];decide⟩
  have hn:(¬cAt c k<(l.getD k (0,0,0)).2.1∧¬(l.getD k (0,0,0)).2.2<cAt c k)→∀j:Nat,j<k+1→¬cAt c j<(l.getD j (0,0,0)).2.1∧¬(l.getD j (0,0,0)).2.2<cAt c j:=fun h j hj=>by
   by_cases e:j=k
   ·subst e;exact h
   ·exact hI j (by omega)
  rw[e1,e2] at hb hn
  have el:aSp l[k] = .agg [ai l[k].1,ai l[k].2.1,ai l[k].2.2]:=rfl
  rw[el] at gl
  clear hE hI el
  generalize l[k]=s at *
  obtain⟨p,f,t⟩:=s
  generalize c[k]=x at *
  refine AWp.seq (AWp.block (AWp.seq ?_))
  repeat(first|(with_reducible refine AWp.seq ?_)|(with_reducible refine AWp.block ?_))
  refine AWp.read mixed [0,1,2,3,4,5,6,7,8,9,10,11,12,13,14,15,16,17,18,19,20,21] (by kernel_rfl) ?_;simp only[go_sem,gc,gl]
  refine Sd ?_
  refine Wk ?_
  refine⟨fun h4 => ?_,fun h4 h5 => ?_⟩
  ·rw[hb (by simpa using h4)]
   refine Wk ?_
   refine ret_eq ?_;simp only[go_sem]
  ·refine Wk ?_
   exact⟨_,List.Sublist.refl _,rfl,hn ⟨h4,h5⟩⟩
 ·have:E=true:=by
   rw[hE,List.all_eq_true]
   intro j hj
   obtain⟨g1,g2⟩:=hI j (by have:=List.mem_range.1 hj;omega)
   rw[decide_eq_false g1,decide_eq_false g2];rfl
  rw[this]
  refine Wk ?_
  refine ret_eq ?_;simp only[go_sem]
theorem ref38_Box (ps:List Pr) (l:List Spn3) (hl:l.length=ps.length) (h8:l.length≤1000000) (all:List (List Int)) (hal:all.length≤1000000) (ha:∀c ∈ all,c.length=ps.length):PC Proofs.Tryz.prog 13 [aRows all,aSps l] (aRows (all.filter (inBx l))):=by
 have hIn:=fun c (hc:c ∈ all)=>ref38_In l c (by rw[ha c hc,hl]) h8
 have hR:aSps l = .sl 3 (l.map aSp):=rfl
 have haR:∀x:List (List Int),aRows x = .sl 1 (x.map aInts):=fun _=>rfl
 rw[haR all]
 rw[hR] at *
 refine PC.enter 27 [.tmp 4] [24] Proofs.Tryz.func13 rfl rfl rfl rfl rfl (by simp) (AWp.of ?_);simp only[go_sem]
 refine Wk ?_
 refine AWp.block (AWp.count 6 all.length [5] [0,1] (fun k vs L=>∃v,vs=[v]∧AppSt 42 1 (((all.take k).filter (inBx l)).map aInts) v L) rfl rfl ⟨anil,rfl,.nil⟩ ?_)
 rintro k vs L hk - ⟨v,rfl,hA⟩
 simp only[go_sem]
 by_cases h3:k<all.length
 ·have ga:=getD_map (f:=aInts) h3
  have hIk:=hIn all[k] (List.getElem_mem h3)
  have hst:(all.take (k+1)).filter (inBx l)=(all.take k).filter (inBx l) ++ if inBx l all[k]=true then [all[k]] else []:=by
   rw[List.take_succ_eq_append_getElem h3,List.filter_append]
   cases hb:inBx l all[k] <;> simp [hb]
  have hfl:((all.take k).filter (inBx l)).length≤k:=Nat.le_trans (List.length_filter_le _ _) (by rw[List.length_take];omega)
  have hki:(k:Int)<all.length:=by omega
  generalize (all.take k).filter (inBx l)=fs at *
  generalize inBx l all[k]=B at *
  generalize all[k]=x at *
  have hfo:=hA.fo
  rcases hA.inv with ⟨e1,rfl,rfl⟩|⟨bq,cap,rfl,rfl⟩
  ·cases B with
   | true =>
    refine W2 ga hki ?_
    refine Sd ?_
    refine(hIk).val.use ?_;simp only[go_sem]
    refine W1 ga ?_
    refine Sd ?_
    intro b' cap' g8
    refine W1 ga ?_
    exact⟨_,List.Sublist.refl _,_,rfl,by rw[hst,if_pos rfl,List.map_append,e1];exact .row _ _ _⟩
   | false =>
    refine W2 ga hki ?_
    refine Sd ?_
    refine(hIk).val.use ?_;simp only[go_sem]
    refine W1 ga ?_
    exact⟨_,List.Sublist.refl _,_,rfl,by rw[hst,if_neg (by decide),List.append_nil];simpa using hA⟩
  ·cases B with
   | true =>
    refine W2 ga hki ?_
    refine Sd ?_
    refine(hIk).val.use ?_;simp only[go_sem]
    refine W1 ga ?_
    refine Sd ?_
    intro b' cap' g8
    refine W1 ga ?_
    exact⟨_,List.Sublist.refl _,_,rfl,by rw[hst,if_pos rfl,List.map_append];exact AppSt.snoc b' cap' _ (by simp)⟩
   | false =>
    refine W2 ga hki ?_
    refine Sd ?_
    refine(hIk).val.use ?_;simp only[go_sem]
    refine W1 ga ?_
    exact⟨_,List.Sublist.refl _,_,rfl,by rw[hst,if_neg (by decide),List.append_nil];simpa using hA⟩
 ·have hke:k=all.length:=by omega
  have hki:¬(k:Int)<all.length:=by omega
  subst hke
  rw[List.take_length] at *
  rcases hA.inv with ⟨e1,rfl,rfl⟩|⟨bq,cap,rfl,rfl⟩
  ·refine W1 hki ?_
   refine ret_view [] ?_;simp only[go_sem]
   rw[e1]
   exact .nil 1
  ·refine W1 hki ?_
   refine ret_view [true] ?_;simp only[go_sem]
   exact Vw.ofLs (if_pos rfl) (by rw[List.length_map])
theorem ref14_SameInts (a b:List Int) (ha:a.length≤1000000):PC Proofs.Tryz.prog 44 [aInts a,aInts b] (ab (decide (a=b))):=by
 have hR:∀x:List Int,aInts x = .sl 1 (x.map ai):=fun _=>rfl
 rw[hR,hR]
 by_cases hl:a.length=b.length
 ·have hli:(a.length:Int)=b.length:=by omega
  refine PC.enter 26 [.tmp 4] [] Proofs.Tryz.func44 rfl rfl rfl rfl rfl (by simp) (AWp.of ?_);simp only[go_sem]
  refine W1 hli ?_
  refine AWp.block (AWp.count 5 a.length [] [0,1] (fun k vs L=>L=[]∧∀j (h1:j<a.length) (h2:j<b.length),j<k→a[j]=b[j]) rfl rfl ⟨rfl,fun j _ _ h=>by omega⟩ ?_)
  rintro k vs L hk - ⟨rfl,hI⟩
  simp only[go_sem]
  refine W1 hli ?_
  refine⟨fun h3 => ?_,fun h3 => ?_⟩
  ·have hka:k<a.length:=by omega
   have hkb:k<b.length:=by omega
   have ga:=getD_map (f:=ai) hka
   have gb:=getD_map (f:=ai) hkb
   refine AWp.seq (AWp.block (AWp.seq ?_))
   refine AWp.drawn mixed 9 (by kernel_rfl) ?_;simp only[go_sem,ga,gb]
   refine Sd ?_
   refine Wk ?_
   refine⟨fun h4 => ?_,fun h4 => ?_⟩
   ·refine Wk ?_
    refine ret_eq ?_;simp only[go_sem]
    rw[decide_eq_false]
    rintro rfl
    exact h4 rfl
   ·refine Wk ?_
    refine⟨_,List.Sublist.refl _,rfl,fun j j1 j2 hj => ?_⟩
    by_cases e:j=k
    ·subst e;exact h4
    ·exact hI j j1 j2 (by omega)
  ·refine Wk ?_
   refine ret_eq ?_;simp only[go_sem]
   rw[decide_eq_true]
   exact List.ext_getElem hl fun j j1 j2=>hI j j1 j2 (by omega)
 ·have hli:¬(a.length:Int)=b.length:=by omega
  rw[decide_eq_false fun h=>hl (by rw[h])]
  refine PC.enter 26 [.tmp 4] [] Proofs.Tryz.func44 rfl rfl rfl rfl rfl (by simp) (AWp.of ?_);simp only[go_sem]
  refine W1 hli ?_
  refine ret_eq ?_;simp only[go_sem]
theorem ref14_SameLists (a b:List (List Int)) (ha:a.length≤1000000) (hx:∀x ∈ a,x.length≤1000000):PC Proofs.Tryz.prog 12 [aRows a,aRows b] (ab (decide (a=b))):=by
 have hR:∀x:List (List Int),aRows x = .sl 1 (x.map aInts):=fun _=>rfl
 rw[hR,hR]
 by_cases hl:a.length=b.length
 ·have hli:(a.length:Int)=b.length:=by omega
  refine PC.enter 27 [.tmp 4] [] Proofs.Tryz.func12 rfl rfl rfl rfl rfl (by simp) (AWp.of ?_);simp only[go_sem]
  refine W1 hli ?_
  refine AWp.block (AWp.count 5 a.length [] [0,1] (fun k vs L=>L=[]∧∀j (h1:j<a.length) (h2:j<b.length),j<k→a[j]=b[j]) rfl rfl ⟨rfl,fun j _ _ h=>by omega⟩ ?_)
  rintro k vs L hk - ⟨rfl,hI⟩
  simp only[go_sem]
  refine W1 hli ?_
  refine⟨fun h3 => ?_,fun h3 => ?_⟩
  ·have hka:k<a.length:=by omega
   have hkb:k<b.length:=by omega
   have ga:=getD_map (f:=aInts) hka
   have gb:=getD_map (f:=aInts) hkb
   have hsl:=ref14_SameInts a[k] b[k] (hx _ (List.getElem_mem hka))
   refine AWp.seq (AWp.block (AWp.seq ?_))
   repeat(first|(with_reducible refine AWp.seq ?_)|(with_reducible refine AWp.block ?_))
   refine AWp.read mixed [0,1,2,3,4,5,6,7,8,9] (by kernel_rfl) ?_;simp only[go_sem,ga,gb]
   refine Sd ?_
   refine GCall.use (ab (decide (a[k]=b[k]))) (fun _=>⟨At,hsl.val.use ⟨rfl,rfl⟩⟩) ?_
   simp only[go_sem]
   refine Sd ?_
   refine Wk ?_
   refine⟨fun h4 => ?_,fun h4 => ?_⟩
   ·refine Wk ?_
    refine ret_eq ?_;simp only[go_sem]
    rw[decide_eq_false]
    rintro rfl
    exact h4 rfl
   ·refine Wk ?_
    refine⟨_,List.Sublist.refl _,rfl,fun j j1 j2 hj => ?_⟩
    by_cases e:j=k
    ·subst e;exact h4
    ·exact hI j j1 j2 (by omega)
  ·refine Wk ?_
   refine ret_eq ?_;simp only[go_sem]
   rw[decide_eq_true]
   exact List.ext_getElem hl fun j j1 j2=>hI j j1 j2 (by omega)
 ·have hli:¬(a.length:Int)=b.length:=by omega
  rw[decide_eq_false fun h=>hl (by rw[h])]
  refine PC.enter 27 [.tmp 4] [] Proofs.Tryz.func12 rfl rfl rfl rfl rfl (by simp) (AWp.of ?_);simp only[go_sem]
  refine W1 hli ?_
  refine ret_eq ?_;simp only[go_sem]
set_option maxHeartbeats 2000000 in
theorem law38_StrongBoxes (ps:List Pr) (l:List Spn3) (hpl:ps.length≤9223372036854775807) (hev:∀p ∈ ps,p.evs.length≤9223372036854775807):PC Proofs.Tryz.prog 3 [aTr ps,aSps l] (ab true):=by
 have haw:=law38_awake
 have hfew:=law38_few ps hpl hev 20
 have hR:aSps l = .sl 3 (l.map aSp):=rfl
 have haR:∀x:List (List Int),aRows x = .sl 1 (x.map aInts):=fun _=>rfl
 cases hf:fw38 ps 20 with
 | false =>
  rw[hf] at hfew
  rw[hR]
  refine PC.enter 97 [.tmp 4] [2] Proofs.Tryz.func3 rfl rfl rfl rfl rfl (by simp) (AWp.of ?_);simp only[go_sem]
  refine Wk ?_
  refine Sd ?_
  refine(haw).val.use ?_;simp only[go_sem]
  refine Sd ?_
  refine Gc hfew ?_
  refine Sd ?_
  refine Wk ?_
  refine Sd ?_
  refine(haw).val.use ?_;simp only[go_sem]
  refine Wk ?_
  refine ret_eq ?_;simp only[go_sem]
 | true =>
  rw[hf] at hfew
  have hvd:=vd38 hf
  by_cases h30:30<l.length
  ·have i1:(30:Int)<l.length:=by omega
   rw[hR]
   refine PC.enter 97 [.tmp 4] [2] Proofs.Tryz.func3 rfl rfl rfl rfl rfl (by simp) (AWp.of ?_);simp only[go_sem]
   refine Wk ?_
   refine Sd ?_
   refine(haw).val.use ?_;simp only[go_sem]
   refine Sd ?_
   refine GCall.use (ab true) (fun _=>⟨At,(hfew).val.use ⟨rfl,rfl⟩⟩) ?_;simp only[go_sem,i1]
   refine Sd ?_
   refine W1 i1 ?_
   refine Sd ?_
   refine(haw).val.use ?_;simp only[go_sem]
   refine Wk ?_
   refine ret_eq ?_;simp only[go_sem]
  ·have i1:¬(30:Int)<l.length:=by omega
   cases hv:validF ps with
   | false =>
    have hva:=hvd.val
    have hrv:=hvd.rval
    rw[hv] at hva hrv
    have h1:=strong_Box_bad hva l
    have h2:=ref38_Overlap_bad hrv l
    rw[haR] at h1
    rw[hR] at *
    refine PC.enter 97 [.tmp 4] [2] Proofs.Tryz.func3 rfl rfl rfl rfl rfl (by simp) (AWp.of ?_);simp only[go_sem]
    refine Wk ?_
    refine Sd ?_
    refine(haw).val.use ?_;simp only[go_sem]
    refine Sd ?_
    refine GCall.use (ab true) (fun _=>⟨At,(hfew).val.use ⟨rfl,rfl⟩⟩) ?_;simp only[go_sem,i1]
    refine Sd ?_
    refine W1 i1 ?_
    refine Sd ?_
    refine(h1).val.use ?_;simp only[go_sem]
    refine Wk ?_
    refine Sd ?_
    refine(h2).val.use ?_;simp only[go_sem]
    repeat(first|((with_reducible refine AWp.ofC ?_ ?_);exact rfl;simp only[go_sem,Int.reduceEq])|((with_reducible refine an ?_ ?_);exact Au))
    refine ret_eq ?_;simp only[go_sem]
    all_goals rfl
   | true =>
    have hs:=hvd.sm hv
    have h1:=strong_Box ps hs l (by omega)
    have h2:=ref38_Overlap ps hs l (by omega)
    have h3:=ref38_Each ps hs.procs l (by omega)
    have hB:aBx38 ps l = .tup [aRows (if boxE ps l=0 then boxF ps l else []),ai (boxE ps l)]:=rfl
    have hE:boxE ps l=if gvnE ps l ≠ 0 then gvnE ps l else if eachB ps l=true then (if ovF ps (l.map spN)=true then lstE ps else 7) else 3:=rfl
    rw[hB] at h1
    by_cases hg:gvnE ps l=0
    ·rw[if_neg (by simpa using hg)] at hE
     rw[hg,decide_eq_true rfl,Bool.true_and] at h2
     cases he:eachB ps l with
     | false =>
      rw[he] at h3 hE
      rw[if_neg (by decide)] at hE
      rw[hE,if_neg (by decide),haR] at h1
      generalize ovF ps (l.map spN)=O at *
      rw[hR] at *
      refine PC.enter 97 [.tmp 4] [2] Proofs.Tryz.func3 rfl rfl rfl rfl rfl (by simp) (AWp.of ?_);simp only[go_sem]
      refine Wk ?_
      refine Sd ?_
      refine(haw).val.use ?_;simp only[go_sem]
      refine Sd ?_
      refine GCall.use (ab true) (fun _=>⟨At,(hfew).val.use ⟨rfl,rfl⟩⟩) ?_;simp only[go_sem,i1]
      refine Sd ?_
      refine W1 i1 ?_
      refine Sd ?_
      refine(h1).val.use ?_;simp only[go_sem]
      refine Wk ?_
      refine Sd ?_
      refine(h2).val.use ?_;simp only[go_sem]
      repeat(first|((with_reducible refine AWp.ofC ?_ ?_);exact rfl;simp only[go_sem,Int.reduceEq])|((with_reducible refine an ?_ ?_);exact Au))
      refine Sd ?_
      refine(h3).val.use ?_;simp only[go_sem]
      repeat(first|((with_reducible refine AWp.ofC ?_ ?_);exact rfl;simp only[go_sem])|((with_reducible refine an ?_ ?_);exact Au))
      refine ret_eq ?_;simp only[go_sem]
      all_goals rfl
     | true =>
      rw[he] at h3 hE
      rw[if_pos rfl] at hE
      cases ho:ovF ps (l.map spN) with
      | false =>
       rw[ho] at h2 hE
       rw[if_neg (by decide)] at hE
       rw[hE,if_neg (by decide),haR] at h1
       rw[hR] at *
       refine PC.enter 97 [.tmp 4] [2] Proofs.Tryz.func3 rfl rfl rfl rfl rfl (by simp) (AWp.of ?_);simp only[go_sem]
       refine Wk ?_
       refine Sd ?_
       refine(haw).val.use ?_;simp only[go_sem]
       refine Sd ?_
       refine GCall.use (ab true) (fun _=>⟨At,(hfew).val.use ⟨rfl,rfl⟩⟩) ?_;simp only[go_sem,i1]
       refine Sd ?_
       refine W1 i1 ?_
       refine Sd ?_
       refine(h1).val.use ?_;simp only[go_sem]
       refine Wk ?_
       refine Sd ?_
       refine(h2).val.use ?_;simp only[go_sem]
       repeat(first|((with_reducible refine AWp.ofC ?_ ?_);exact rfl;simp only[go_sem,Int.reduceEq])|((with_reducible refine an ?_ ?_);exact Au))
       refine Sd ?_
       refine(h3).val.use ?_;simp only[go_sem]
       repeat(first|((with_reducible refine AWp.ofC ?_ ?_);exact rfl;simp only[go_sem,Int.reduceEq])|((with_reducible refine an ?_ ?_);exact Au))
       refine ret_eq ?_;simp only[go_sem]
       all_goals rfl
      | true =>
       rw[ho] at h2 hE
       rw[if_pos rfl] at hE
       have h4:=ref23_List ps hs hv
       by_cases h5:5000<(cutsF ps).length
       ·have hz:lstE ps=16:=by unfold lstE;rw[hv,if_pos rfl,if_neg (by omega)]
        rw[hz] at hE
        rw[hE,if_neg (by decide),haR] at h1
        rw[if_pos h5] at h4
        rw[hR] at *
        refine PC.enter 97 [.tmp 4] [2] Proofs.Tryz.func3 rfl rfl rfl rfl rfl (by simp) (AWp.of ?_);simp only[go_sem]
        refine Wk ?_
        refine Sd ?_
        refine(haw).val.use ?_;simp only[go_sem]
        refine Sd ?_
        refine GCall.use (ab true) (fun _=>⟨At,(hfew).val.use ⟨rfl,rfl⟩⟩) ?_;simp only[go_sem,i1]
        refine Sd ?_
        refine W1 i1 ?_
        refine Sd ?_
        refine(h1).val.use ?_;simp only[go_sem]
        refine Wk ?_
        refine Sd ?_
        refine(h2).val.use ?_;simp only[go_sem]
        repeat(first|((with_reducible refine AWp.ofC ?_ ?_);exact rfl;simp only[go_sem,Int.reduceEq])|((with_reducible refine an ?_ ?_);exact Au))
        refine Sd ?_
        refine(h3).val.use ?_;simp only[go_sem]
        repeat(first|((with_reducible refine AWp.ofC ?_ ?_);exact rfl;simp only[go_sem,Int.reduceEq])|((with_reducible refine an ?_ ?_);exact Au))
        refine Sd ?_
        refine(h4).val.use ?_;simp only[go_sem]
        repeat(first|((with_reducible refine AWp.ofC ?_ ?_);exact rfl;simp only[go_sem])|((with_reducible refine an ?_ ?_);exact Au))
        refine ret_eq ?_;simp only[go_sem]
        all_goals rfl
       ·have hz:lstE ps=0:=lst_zero.2 ⟨hv,by omega⟩
        rw[hz] at hE
        rw[hE,if_pos rfl] at h1
        rw[if_neg h5] at h4
        have hcl:∀c ∈ cutsF ps,c.length=ps.length:=fun c hc=>(isF_iff.1 ((mem_cutsF hv).1 hc)).1
        have h8:=(valid_len hv).2
        have h6:=ref38_Box ps l (each_at he).1 (by omega) (cutsF ps) (by omega) hcl
        have hbl:(boxF ps l).length≤5000:=by
         have:(boxF ps l).length≤(cutsF ps).length:=List.length_filter_le _ _
         omega
        have h7:=ref14_SameLists (boxF ps l) (boxF ps l) (by omega) fun c hc=>by rw[hcl c (List.mem_filter.1 hc).1];omega
        rw[decide_eq_true rfl] at h7
        have hne:0<(boxF ps l).length:=by
         have:=box_head hg he ho
         cases hx:boxF ps l with
         | nil=>rw[hx] at this;cases this
         | cons _ _=>simp
        change PC _ _ _ (aRows (boxF ps l)) at h6
        have hni:(0:Int)<((boxF ps l).length:Int):=by omega
        clear hcl hbl
        generalize boxF ps l=bx at *
        generalize cutsF ps=cs at *
        simp only[haR] at h1 h4 h6 h7
        rw[hR] at *
        refine PC.enter 97 [.tmp 4] [2] Proofs.Tryz.func3 rfl rfl rfl rfl rfl (by simp) (AWp.of ?_);simp only[go_sem]
        refine Wk ?_
        refine Sd ?_
        refine(haw).val.use ?_;simp only[go_sem]
        refine Sd ?_
        refine GCall.use (ab true) (fun _=>⟨At,(hfew).val.use ⟨rfl,rfl⟩⟩) ?_;simp only[go_sem,i1]
        refine Sd ?_
        refine W1 i1 ?_
        refine Sd ?_
        refine(h1).val.use ?_;simp only[go_sem]
        refine Wk ?_
        refine Sd ?_
        refine(h2).val.use ?_;simp only[go_sem]
        repeat(first|((with_reducible refine AWp.ofC ?_ ?_);exact rfl;simp only[go_sem])|((with_reducible refine an ?_ ?_);exact Au))
        refine Sd ?_
        refine(h3).val.use ?_;simp only[go_sem]
        repeat(first|((with_reducible refine AWp.ofC ?_ ?_);exact rfl;simp only[go_sem,Int.reduceEq])|((with_reducible refine an ?_ ?_);exact Au))
        refine Sd ?_
        refine(h4).val.use ?_;simp only[go_sem]
        repeat(first|((with_reducible refine AWp.ofC ?_ ?_);exact rfl;simp only[go_sem,Int.reduceEq])|((with_reducible refine an ?_ ?_);exact Au))
        refine Sd ?_
        refine Gc h6 ?_
        refine Sd ?_
        refine Gc h7 ?_
        refine W1 hni ?_
        refine ret_eq ?_;simp only[go_sem]
    ·rw[if_pos hg] at hE
     rw[hE,if_neg hg,haR] at h1
     rw[decide_eq_false hg,Bool.false_and] at h2
     generalize gvnE ps l=e at *
     rw[hR] at *
     refine PC.enter 97 [.tmp 4] [2] Proofs.Tryz.func3 rfl rfl rfl rfl rfl (by simp) (AWp.of ?_);simp only[go_sem]
     refine Wk ?_
     refine Sd ?_
     refine(haw).val.use ?_;simp only[go_sem]
     refine Sd ?_
     refine GCall.use (ab true) (fun _=>⟨At,(hfew).val.use ⟨rfl,rfl⟩⟩) ?_;simp only[go_sem,i1]
     refine Sd ?_
     refine W1 i1 ?_
     refine Sd ?_
     refine(h1).val.use ?_;simp only[go_sem]
     refine Wk ?_
     refine Sd ?_
     refine(h2).val.use ?_;simp only[go_sem]
     refine W1 hg ?_
     refine ret_eq ?_;simp only[go_sem]
     all_goals rfl
end Go.AL
end
section
namespace Go.AL
open Go Go.RowKit
set_option maxRecDepth 100000
section
variable {H:Type} {enc:TypeId × Value→H} {W:World}
theorem rdAsg:Rd enc Proofs.Tryz.prog W 122 2 aAsg (fun _=>True) :=
 (Rd.struct (ts:=[3,3]) Proofs.Tryz.underlying122 rfl rfl (by kernel_rfl) (by kernel_rfl)
  (.cons (Rd.int Proofs.Tryz.underlying3) (fun _=>⟨rfl,rfl⟩) (.cons (Rd.int Proofs.Tryz.underlying3) (fun _=>⟨rfl,rfl⟩) .nil))).map (fun (y:Int × Int × Unit)=>(y.1,y.2.1)) (fun _=>rfl) (fun _ _=>trivial)
theorem rdAsgs:Rd enc Proofs.Tryz.prog W 68 1 aAsgs (fun _=>True) :=
 (Rd.slice Proofs.Tryz.underlying68 (by kernel_rfl:Program.cellsOf Proofs.Tryz.prog 122=2) (by decide) rdAsg).map id (fun _=>rfl) (fun _ _=>trivial)
theorem rdVar:Rd enc Proofs.Tryz.prog W 74 2 aVar (fun _=>True) :=
 (Rd.struct (ts:=[9,3]) Proofs.Tryz.underlying74 rfl rfl (by kernel_rfl) (by kernel_rfl)
  (.cons (Rd.str Proofs.Tryz.underlying9) (fun _=>⟨rfl,rfl⟩) (.cons (Rd.int Proofs.Tryz.underlying3) (fun _=>⟨rfl,rfl⟩) .nil))).map (fun (y:ByteArray × Int × Unit)=>(y.1,y.2.1)) (fun _=>rfl) (fun _ _=>trivial)
theorem rdVars:Rd enc Proofs.Tryz.prog W 63 1 aVars (fun _=>True) :=
 (Rd.slice Proofs.Tryz.underlying63 (by kernel_rfl:Program.cellsOf Proofs.Tryz.prog 74=2) (by decide) rdVar).map id (fun _=>rfl) (fun _ _=>trivial)
theorem rdEv:Rd enc Proofs.Tryz.prog W 70 5 aEv (fun _=>True) :=
 (Rd.struct (ts:=[3,3,3,3,68]) Proofs.Tryz.underlying70 rfl rfl (by kernel_rfl) (by kernel_rfl)
  (.cons (Rd.int Proofs.Tryz.underlying3) (fun _=>⟨rfl,rfl⟩) (.cons (Rd.int Proofs.Tryz.underlying3) (fun _=>⟨rfl,rfl⟩) (.cons (Rd.int Proofs.Tryz.underlying3) (fun _=>⟨rfl,rfl⟩)
   (.cons (Rd.int Proofs.Tryz.underlying3) (fun _=>⟨rfl,rfl⟩) (.cons rdAsgs (fun _=>⟨rfl,rfl⟩) .nil)))))).map (fun (y:Int × Int × Int × Int × List (Int × Int) × Unit)=>⟨y.1,y.2.1,y.2.2.1,y.2.2.2.1,y.2.2.2.2.1⟩) (fun _=>rfl) (fun _ _=>trivial)
end
end Go.AL
end
section
namespace Go.AL
open Go Go.RowKit
set_option maxRecDepth 100000
section
variable {H:Type} {enc:TypeId × Value→H} {W:World}
theorem rdEvsM:Rd enc Proofs.Tryz.prog W 64 1 aEvs (fun l=>l.length≤maxLen) :=
 (Rd.slice Proofs.Tryz.underlying64 (by kernel_rfl:Program.cellsOf Proofs.Tryz.prog 70=5) (by decide) rdEv).map id (fun _=>rfl) (fun _ h=>h.1)
theorem rdPrM:Rd enc Proofs.Tryz.prog W 66 3 aPr (fun p=>p.evs.length≤maxLen) :=
 (Rd.struct (ts:=[9,63,64]) Proofs.Tryz.underlying66 rfl rfl (by kernel_rfl) (by kernel_rfl)
  (.cons (Rd.str Proofs.Tryz.underlying9) (fun _=>⟨rfl,rfl⟩) (.cons rdVars (fun _=>⟨rfl,rfl⟩) (.cons rdEvsM (fun _=>⟨rfl,rfl⟩) .nil)))).map (fun (y:ByteArray × List (ByteArray × Int) × List Ev × Unit)=>⟨y.1,y.2.1,y.2.2.1⟩) (fun _=>rfl) (fun _ h=>h.2.2.1)
theorem rdPrsM:Rd enc Proofs.Tryz.prog W 22 1 aPrs (fun l=>l.length≤maxLen∧∀p ∈ l,p.evs.length≤9223372036854775807) :=
 (Rd.slice Proofs.Tryz.underlying22 (by kernel_rfl:Program.cellsOf Proofs.Tryz.prog 66=3) (by decide) rdPrM).map id (fun _=>rfl) (fun _ h=>h)
theorem rdTrM:Rd enc Proofs.Tryz.prog W 24 1 aTr (fun l=>l.length≤maxLen∧∀p ∈ l,p.evs.length≤9223372036854775807) :=
 (Rd.struct (ts:=[22]) Proofs.Tryz.underlying24 rfl rfl (by kernel_rfl) (by kernel_rfl) (.cons rdPrsM (fun _=>⟨rfl,rfl⟩) .nil)).map (fun (y:List Pr × Unit)=>y.1) (fun _=>rfl) (fun _ h=>h.1)
end
end Go.AL
end
section
namespace Go.AL
open Go Go.RowKit
set_option maxRecDepth 100000
section
variable {H:Type} {enc:TypeId × Value→H} {W:World}
end
end Go.AL
end
section
namespace Go.AL
open Go Go.RowKit
set_option maxRecDepth 100000
section
variable {H:Type} {enc:TypeId × Value→H} {W:World}
theorem rdSpan:Rd enc Proofs.Tryz.prog W 51 3 aSp (fun _=>True) :=
 (Rd.struct (ts:=[3,3,3]) Proofs.Tryz.underlying51 rfl rfl (by kernel_rfl) (by kernel_rfl)
  (.cons (Rd.int Proofs.Tryz.underlying3) (fun _=>⟨rfl,rfl⟩) (.cons (Rd.int Proofs.Tryz.underlying3) (fun _=>⟨rfl,rfl⟩) (.cons (Rd.int Proofs.Tryz.underlying3) (fun _=>⟨rfl,rfl⟩) .nil)))).map (fun (y:Int × Int × Int × Unit)=>(y.1,y.2.1,y.2.2.1)) (fun _=>rfl) (fun _ _=>trivial)
theorem rdSpans:Rd enc Proofs.Tryz.prog W 25 1 aSps (fun _=>True) :=
 (Rd.slice Proofs.Tryz.underlying25 (by kernel_rfl:Program.cellsOf Proofs.Tryz.prog 51=3) (by decide) rdSpan).map id (fun _=>rfl) (fun _ _=>trivial)
end
end Go.AL
end
