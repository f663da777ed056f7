/- Texts of this claim's proof: WV11, WV12, WV13, WV15. No condition. -/
import Derived.Test.YtnpagaiphamfaaaGreatDoorM19
section
namespace Go.AL
open Go Go.RowKit
set_option maxRecDepth 4000
theorem MCalls.toS {P:Program} {f:FuncId} {args:List AV} {K:AV→AHeap→Prop} {S:AV→Prop} (h:MCalls P f args [] K) (hv:∀r L,K r L→∃r0,Vw L r r0∧S r0):MCalls P f args [] fun r L=>L=[]∧S r :=
 ⟨h.1,fun n w A vs hL hr=>(h.2 n w A vs hL hr).mono fun e w' ⟨v,r,L',A',he,hK,hf,hA,hL',hk,hr'⟩=>by
  obtain⟨r',hvw,hS⟩:=hv r L' hK
  exact⟨v,r',[],fun b=>A' b∨keysOf L' b,he,⟨rfl,hS⟩,hf,fun b hb=>hb.elim (hA b) (fun ⟨x,hx,e⟩=>by subst e;exact(hk x hx).elim (fun ⟨y,hy,_⟩=>by cases hy) (fun h => .inr (.inr h))),hL'.viewed (Lf:=L') (Lk:=[]) (by simp) .nil,(by intro x hx;cases hx),hL'.view (Lf:=L') (Lk:=[]) (by simp) hvw hr'⟩⟩
def mixJ (J c:List Int) (i:Nat):List Int:=J.take i ++ c.drop i
theorem mixJ_len {J c:List Int} (h:J.length=c.length) {i:Nat} (hi:i≤c.length):(mixJ J c i).length=c.length:=by unfold mixJ;rw[List.length_append,List.length_take,List.length_drop];omega
theorem mixJ_get {J c:List Int} (h:J.length=c.length) {i:Nat} (hi:i<c.length):(mixJ J c i)[i]'(by rw[mixJ_len h (by omega)];exact hi)=c[i]:=by
 unfold mixJ
 rw[List.getElem_append_right (by rw[List.length_take];omega),List.getElem_drop]
 congr 1
 rw[List.length_take];omega
theorem mixJ_set {J c:List Int} (h:J.length=c.length) {i:Nat} (hi:i<c.length):(mixJ J c i).set i (J[i]'(by omega))=mixJ J c (i+1):=by
 unfold mixJ
 rw[List.set_append_right _ _ (by rw[List.length_take];omega),List.length_take,show i - min i J.length=0 by omega,← List.getElem_cons_drop hi,List.set_cons_zero,List.take_succ_eq_append_getElem (by omega),List.append_assoc]
 rfl
theorem mixJ_zero (J c:List Int):mixJ J c 0=c:=by unfold mixJ;simp
theorem mixJ_full {J c:List Int} (h:J.length=c.length):mixJ J c c.length=J:=by unfold mixJ;rw[List.drop_length,List.append_nil,← h,List.take_length]
set_option maxHeartbeats 2000000 in
theorem strong_dodge (ps:List Pr) (hs:Sm ps) (hv:validF ps=true) {b:Nat→Nat→Bool} {rows:Nat→List Stp} (hR:RowsOk ps b rows) (hlen:∀p,p<ps.length→(rows p).length≤1000000) (hT:¬ ∃t,TgtS ps rows t) :
  MCalls Proofs.Tryz.prog 52 [aTr ps,aRowsS ps ps.length rows] [] fun r L=>L=[]∧∃O,DodgeR ps b O∧O.length≤513∧r=aRows O:=by
 obtain⟨hl1,hl8⟩:=valid_len hv
 have hpl:=hs.procs
 have hoff:=valid_off hv
 refine MCalls.toS (K:=fun r L=>∃O,DodgeR ps b O∧O.length≤513∧∃bo cap,r = .ls bo 1 0 O.length cap∧L=[(bo,.row 42 1 (O.map aInts) cap)]) ?_ (fun r L ⟨O,h1,h2,bo,cap,h3,h4⟩=>by
  subst h3 h4
  exact⟨aRows O,Vw.ofLs (if_pos rfl) (List.length_map _).symm,O,h1,h2,rfl⟩)
 obtain⟨RS,hRS⟩:∃RS,RS=(List.range ps.length).map fun p=>aStrs ps (rows p):=⟨_,rfl⟩
 have hR0:aRowsS ps ps.length rows = .sl 1 RS:=by rw[hRS];rfl
 have hcm:=fun c hc=>strong_coming ps hl8 rows hlen c hc
 rw[hR0] at hcm ⊢
 have hz:(List.replicate ps.length (ai 0))=(zeroC ps).map ai:=by unfold zeroC;rw[List.map_replicate]
 refine MCalls.enter' 92 [.tmp 4] [2,5,20] Proofs.Tryz.func52 rfl rfl rfl rfl rfl (by simp) (AWp.of ?_);simp only[go_sem]
 refine AWp.cut [1,2,5] (fun vs L=>∃bw bo,¬bw=bo∧vs=[.sl 1 RS,.rp 1 [aTr ps] 0 0,.rp 1 [.lp bw 2 0 0] 0 0]∧L.Perm (wkL ps bw bo [zeroC ps] 1)) ?_ ?_
 ·repeat(first|(with_reducible refine AWp.seq ?_)|(with_reducible refine AWp.block ?_))
  refine AWp.mix mixed [0,1,2,3] (.step 4 (.step 5 (.step 6 (.step 7 (.step 8 (.step 9 .done .done) .done) (.step 8 (.step 7 (.step 9 .done .done) .done) .done)) (.step 8 (.step 6 (.step 7 (.step 9 .done .done) .done) .done) .done)) (.step 8 (.step 5 (.step 6 (.step 7 (.step 9 .done .done) .done) .done) .done) .done)) (.step 8 (.step 4 (.step 5 (.step 6 (.step 7 (.step 9 .done .done) .done) .done) .done) .done) .done)) (by kernel_rfl) ?_;simp only[go_sem]
  have hw:∀bw bo,List.Perm [(bw,ABlk.row 146 2 [.agg [.sl 3 (ps.map aPr),.ls bo 1 0 1 1]] 1),(bo,ABlk.row 42 1 [.sl 1 (List.replicate ps.length (ai 0))] 1)] (wkL ps bw bo [zeroC ps] 1):=fun bw bo=>by
   rw[hz];exact List.Perm.refl _
  repeat' (first|exact trivial|omega|(with_reducible apply And.intro)|(intro _))
  all_goals rename_i b0 b1 g1 b2 g2 g3
  all_goals have n1:¬b1=b2:=by omega
  all_goals have n2:¬b0=b2:=by omega
  all_goals have n3:¬b0=b1:=by omega
  all_goals have n4:¬b2=b1:=by omega
  all_goals have n5:¬b2=b0:=by omega
  all_goals have n6:¬b1=b0:=by omega
  all_goals try simp only[go_sem,n1,n2,n3]
  all_goals first
   | exact⟨_,List.Sublist.refl _,b1,b0,n6,rfl,hw b1 b0⟩
   | exact⟨_,List.Sublist.refl _,b2,b0,n5,rfl,hw b2 b0⟩
   | exact⟨_,List.Sublist.refl _,b2,b1,n4,rfl,hw b2 b1⟩
 rintro vs L - ⟨bw,bo,hb,rfl,hP⟩
 refine AWp.perm hP ?_
 have hwL:∀bo O cap,wkL ps bw bo O cap=[(bw,.row 146 2 [.agg [.sl 3 (ps.map aPr),.ls bo 1 0 O.length cap]] 1),(bo,.row 42 1 (O.map aInts) cap)]:=fun _ _ _=>rfl
 have hb2:¬bo=bw:=fun e=>hb e.symm
 have hfl:(fullC ps).length=ps.length:=by unfold fullC;rw[List.length_map]
 rw[hwL]
 simp only[go_sem]
 refine W2 hb hb2 ?_
 intro bf n1 n2
 have n3:¬bw=bf:=by omega
 have n4:¬bo=bf:=by omega
 have n5:¬bf=bw:=by omega
 have n6:¬bf=bo:=by omega
 refine W6 hb hb2 n3 n4 n5 n6 ?_
 refine(AWp.range' ps.length [] [1,2,5,6,29] (fun k vs L=>L=[(bf,.row 3 1 ((fillZ (fullC ps) ps.length k).map ai) ps.length),(bw,.row 146 2 [.agg [.sl 3 (ps.map aPr),.ls bo 1 0 [zeroC ps].length 1]] 1),(bo,.row 42 1 ([zeroC ps].map aInts) 1)]) (by omega) rfl rfl rfl ?_ ?_ ?_)
 ·rw[fillZ_zero,replicate_ai];rfl
 ·rintro k vs L hk - rfl
  have hev:=strong_events ps hs k hk
  have hfs:=fillZ_set hfl hk
  have hfk:(fullC ps)[k]'(by omega)=(nev ps k:Nat):=by
   have:=fullC_at (ps:=ps) hk
   rw[cAt_nat (by omega)] at this
   rw[this,nev_get hk]
  have hfll:=fillZ_length hfl (show k≤ps.length by omega)
  rw[hfk] at hfs
  have hfs2:((fillZ (fullC ps) ps.length k).map ai).set k (ai (nev ps k:Nat))=(fillZ (fullC ps) ps.length (k+1)).map ai:=by rw[map_set_ai,hfs]
  have hml:((fillZ (fullC ps) ps.length k).map ai).length=ps.length:=by rw[List.length_map,hfll]
  have hgk:=getD_map (f:=ai) (l:=fillZ (fullC ps) ps.length k) (k:=k) (by rw[hfll];exact hk)
  generalize (fillZ (fullC ps) ps.length k)[k]'_=z0 at *
  generalize (fillZ (fullC ps) ps.length (k+1)).map ai=ys' at *
  generalize (fillZ (fullC ps) ps.length k).map ai=ys at *
  generalize nev ps k=N at *
  simp only[go_sem]
  repeat(first|((with_reducible refine AWp.ofC ?_ ?_);exact rfl;simp only[go_sem])|((with_reducible refine an ?_ ?_);exact Au))
  refine Sd ?_
  refine(hev).val.use ?_;simp only[go_sem,n5,n6,hml,hgk]
  repeat(first|((with_reducible refine AWp.ofC ?_ ?_);exact rfl;simp only[go_sem,hb,hb2,n3,n4,n5,n6,hml,hgk])|((with_reducible refine an ?_ ?_);exact Au))
  exact⟨_,List.Sublist.refl _,by rw[hfs2]⟩
 rintro vs L - rfl
 rw[fillZ_full hfl]
 refine AWp.viewP (Lf:=[(bf,_)]) (Lk:=wkL ps bw bo [zeroC ps] 1) (L':=wkL ps bw bo [zeroC ps] 1) (List.Perm.refl _) (LVw.refl _) [(6,aInts (fullC ps))] (fun z hz => ?_) ?_
 ·obtain rfl:=List.mem_singleton.1 hz
  simp only[go_sem]
  exact Vw.ofLs (t:=3) (cap:=ps.length) (if_pos rfl) (by rw[List.length_map,hfl])
 simp only[go_sem]
 have hmon:=mon_rows hR
 have hza:=zero_avoid hR hT
 have haI:∀l:List Int,aInts l = .sl 1 (l.map ai):=fun _=>rfl
 have hA:∀l,aStrs ps l = .sl 4 (l.map (aStr ps)):=fun _=>rfl
 have hfi:=fullC_is hv
 have hfsum:=fullC_sum ps
 clear hP hRS hR0
 refine AWp.seq (AWp.block (AWp.loopN [] [1,5,6] (fun m vs L=>∃(O:List (List Int)) (c:List Int) (bo' cap':Nat),¬bw=bo'∧DgO ps b O c∧DgI ps rows c∧c.sum+m=off ps ps.length∧L=wkL ps bw bo' O cap') (off ps ps.length) ?_ ?_))
 ·refine⟨[zeroC ps],zeroC ps,bo,1,hb,.start hza,dg_zero,?_,rfl⟩
  have:(zeroC ps).sum=0:=by unfold zeroC;simp
  omega
 rintro m vs L - ⟨O,c,bo',cap',hb',hO,hI,hsum,rfl⟩
 obtain⟨hci,hcl⟩:=hO.is
 have hcn:=(isF_iff.1 hci).1
 have hcr:=(inRange_iff hcn).1 (isF_iff.1 hci).2.1
 have hb2':¬bo'=bw:=fun e=>hb' e.symm
 have hOl:O.length≤513:=by omega
 have hla:=fun (L:AHeap) h1 h2=>walker_last (ps:=ps) (bw:=bw) (bo:=bo') (cap:=cap') hO.last (by omega) (L:=L) h1 h2
 have hcmc:=hcm c hcn
 rw[haI] at hcmc
 rw[hwL]
 simp only[go_sem]
 refine W2 hb' hb2' ?_
 refine MVal.mono (hla _ (by simp only[lk,if_true]) (by simp only[lk,hb2',if_false,if_true])).val ?_
 rintro r L ⟨rfl,rfl⟩
 rw[haI]
 simp only[go_sem]
 cases hcb:cmB ps.length rows c with
 | false =>
  have hcE:aComing ps rows c = .tup [aStrs ps [],ab false]:=by unfold aComing;rw[hcb];rfl
  obtain⟨p,hp,hpe⟩:=cm_end hcb
  rw[hcE] at hcmc
  refine Sd ?_
  refine(hcmc).val.use ?_;simp only[go_sem]
  refine W2 hb' hb2' ?_
  obtain⟨R,w1,w2,w3,w4,w5⟩:=wlk_go hv hci hfi (leq_full hci)
  have hwk:=walker_walk ps hs hv c (fullC ps) hci hfi (leq_full hci) O hO.last (by omega) R w1 (by omega) bw bo' cap' hb'
  rw[hwL bo' O cap',haI] at hwk
  have hOR:(O ++ R).length=O.length+R.length:=List.length_append
  refine MVal.mono hwk.val ?_
  rintro r L ⟨rfl,b2,cap2,m1,rfl⟩
  have m2:¬b2=bw:=fun e=>m1 e.symm
  rw[hwL]
  simp only[go_sem]
  refine W2 m1 m2 ?_
  refine ret_sub [(b2,.row 42 1 ((O ++ R).map aInts) cap2)] (.cons _ (List.Sublist.refl _)) ?_
  simp only[go_sem]
  exact⟨O ++ R,(hO.go w2 w3 fun d hd=>dg_end hR hci hp hpe d (w5 d hd).1 (w5 d hd).2.1).done,by omega,b2,cap2,rfl,rfl⟩
 | true =>
  have hx:=cm_com hcb
  have hcE:aComing ps rows c = .tup [aStrs ps (chcL ps.length rows (cmX rows c)),ab true]:=by unfold aComing;rw[hcb];rfl
  rw[hcE,hA] at hcmc
  have hin:=chcL_in hR (Nat.le_refl _) (fun p hp=>hx.lt p hp)
  have hclo:=strong_clash ps hs hv (chcL ps.length rows (cmX rows c)) (by rw[chcL_len];omega) hin (.clo 90 [.rp 1 [.rp 2 [.agg [.sl 3 (ps.map aPr),.sl 1 (O.map aInts)]] 0 0] 0 0]) rfl (fun s=>decide (cAt c s.1<(s.2.1:Int))) (fun s hs=>(strong_dodge1 hO.last (by omega) s (by have:=(hin s hs).1;omega)).clo)
  rw[hA] at hclo
  have hown:∀x y z,Own (.tup [ai x,ai y,ab z]):=fun x y z=>Own.tup fun w hw=>by
   simp only[List.mem_cons,List.not_mem_nil,or_false] at hw
   rcases hw with rfl|rfl|rfl <;> exact Own.v _
  have hvw:Vws [(bw,.row 146 2 [.agg [.sl 3 (ps.map aPr),.ls bo' 1 0 O.length cap']] 1),(bo',.row 42 1 (O.map aInts) cap')] [.sl 4 ((chcL ps.length rows (cmX rows c)).map (aStr ps)),.clo 90 [.rp 1 [.lp bw 2 0 0] 0 0]]
    [.sl 4 ((chcL ps.length rows (cmX rows c)).map (aStr ps)),.clo 90 [.rp 1 [.rp 2 [.agg [.sl 3 (ps.map aPr),.sl 1 (O.map aInts)]] 0 0] 0 0]]:=by
   generalize hL0:[(bw,ABlk.row 146 2 [.agg [.sl 3 (ps.map aPr),.ls bo' 1 0 O.length cap']] 1),(bo',ABlk.row 42 1 (O.map aInts) cap')]=L0
   have q1:lk L0 bw=some (.row 146 2 [.agg [.sl 3 (ps.map aPr),.ls bo' 1 0 O.length cap']] 1):=by rw[← hL0];simp only[lk,if_true]
   have q2:lk L0 bo'=some (.row 42 1 (O.map aInts) cap'):=by rw[← hL0];simp only[lk,hb2',if_false,if_true]
   have v1:Vw L0 (.agg [.sl 3 (ps.map aPr),.ls bo' 1 0 O.length cap']) (.agg [.sl 3 (ps.map aPr),.sl 1 (O.map aInts)]):=.mkAgg (Vws.cons (.refl _) (Vws.cons (Vw.ofLs q2 (List.length_map _).symm) .nil))
   have v2:Vw L0 (.lp bw 2 0 0) (.rp 2 [.agg [.sl 3 (ps.map aPr),.sl 1 (O.map aInts)]] 0 0):=.lp q1 rfl (Vws.cons v1 .nil).2
   have v3:Vw L0 (.rp 1 [.lp bw 2 0 0] 0 0) (.rp 1 [.rp 2 [.agg [.sl 3 (ps.map aPr),.sl 1 (O.map aInts)]] 0 0] 0 0):=.rp rfl (Vws.cons v2 .nil).2
   exact Vws.cons (.refl _) (Vws.cons (.clo rfl (Vws.cons v3 .nil).2) .nil)
  have hel:=fun p (hp:p<ps.length)=>(hR p hp).el _ (List.getElem_mem (hx.lt p hp))
  have hfe:=fun p (hp:p<ps.length)=>fSp_eq (hx.lt p hp)
  refine Sd ?_
  refine(hcmc).val.use ?_;simp only[go_sem]
  refine W2 hb' hb2' ?_
  cases hcl2:clI ps (fun s=>decide (cAt c s.1<(s.2.1:Int))) (chcL ps.length rows (cmX rows c)) with
  | none =>
   exfalso
   refine hT ⟨_,dg_tight hv hR hI hx fun i k hi hk hik hc => ?_⟩
   have:=clI_none hcl2 i k (by rw[chcL_len];exact hi) (by rw[chcL_len];exact hk) hik
   rw[chcL_get,chcL_get] at this
   refine this (decide_eq_true ?_)
   rw[hfe i hi,(hel i hi).1,← hfe i hi]
   exact hc
  | some i =>
   obtain⟨k,hi,hk,hik,hg,hbg,hcE2⟩:=clI_some hcl2
   rw[chcL_get] at hg
   rw[chcL_get,chcL_get] at hbg
   have ge:=getD_map (f:=aStr ps) hk
   rw[chcL_get] at ge
   rw[chcL_len] at hi hk
   have hgi:=of_decide_eq_true hg
   rw[hfe i hi,(hel i hi).1,← hfe i hi] at hgi
   obtain⟨s1,s2,s3,s4,s5⟩:=dg_step hv hR hI hx hi hk hgi hbg
   have hk1:(fSp rows k (cmX rows c k)).1=k:=by rw[hfe k hk];exact(hel k hk).1
   have hpv:pastV ps (fSp rows k (cmX rows c k)) = .sl 1 ((ptF ps k (fSp rows k (cmX rows c k)).2.2).map ai):=by
    unfold pastV;rw[hk1,if_neg (by omega)];rfl
   have hPl:=(isF_iff.1 (pt_isN hv hk s1)).1
   rw[hcE2] at hclo
   have hSE:aStr ps (fSp rows k (cmX rows c k)) = .agg [ai (fSp rows k (cmX rows c k)).1,ai (fSp rows k (cmX rows c k)).2.1,ai (fSp rows k (cmX rows c k)).2.2,pastV ps (fSp rows k (cmX rows c k))]:=rfl
   rw[hpv] at hSE
   rw[hSE] at ge
   generalize ptF ps k (fSp rows k (cmX rows c k)).2.2=P at *
   generalize (fSp rows k (cmX rows c k)).1=sa at *
   generalize (fSp rows k (cmX rows c k)).2.1=sb' at *
   generalize (fSp rows k (cmX rows c k)).2.2=sc at *
   refine(PC.view hvw hclo (hown _ _ _) ?_).val
   simp only[go_sem]
   refine W2 hb' hb2' ?_
   refine MVal.mono (hla _ (by simp only[lk,if_true]) (by simp only[lk,hb2',if_false,if_true])).val ?_
   rintro r L ⟨rfl,rfl⟩
   rw[haI]
   simp only[go_sem]
   refine Sd ?_
   refine(MVal.frame (Lm:=[]) (Lr:=[(bw,.row 146 2 [.agg [.sl 3 (ps.map aPr),.ls bo' 1 0 O.length cap']] 1),(bo',.row 42 1 (O.map aInts) cap')]) (ints_cloneO c (by omega)).val).mono ?_
   rintro r L ⟨L1,rfl,hC⟩
   rcases hC.inv with ⟨e1,_,_⟩|⟨bt,capt,rfl,rfl⟩
   ·have:c.length=0:=by simpa using congrArg List.length e1
    omega
   simp only[go_sem,List.length_map,List.cons_append,List.nil_append]
   refine AWp.nodup fun hnd => ?_
   obtain⟨⟨n1,n2⟩,⟨n3,n4⟩,_⟩:=nd3 hnd
   clear hnd
   have hmapl:((chcL ps.length rows (cmX rows c)).map (aStr ps)).length=ps.length:=by rw[List.length_map,chcL_len]
   have hJl:(joinL c P).length=c.length:=join_len (by omega)
   have hJle:leqF c (joinL c P)=true:=s3
   generalize hJ:joinL c P=J at *
   repeat(first|((with_reducible refine AWp.ofC ?_ ?_);exact rfl;simp only[go_sem,ge,hmapl])|((with_reducible refine an ?_ ?_);exact Au))
   refine(AWp.range' P.length [] [1,5,6,13,65,66] (fun i vs L=>L=[(bt,.row 3 1 ((mixJ J c i).map ai) capt),(bw,.row 146 2 [.agg [.sl 3 (ps.map aPr),.ls bo' 1 0 O.length cap']] 1),(bo',.row 42 1 (O.map aInts) cap')]) (by omega) rfl rfl rfl (by rw[mixJ_zero]) ?_ ?_)
   ·rintro i vs L hi - rfl
    have hic:i<c.length:=by omega
    have hml:=mixJ_len hJl (show i≤c.length by omega)
    have hmg:=mixJ_get hJl hic
    have hms:=mixJ_set hJl hic
    have hgm:=getD_map (f:=ai) (l:=mixJ J c i) (k:=i) (by omega)
    rw[hmg] at hgm
    have hgP:=getD_map (f:=ai) hi
    have hJi:J[i]'(by omega)=if c[i]<P[i] then P[i] else c[i]:=by
     have:(joinL c P)[i]'(by rw[hJ];omega)=if c[i]<P[i] then P[i] else c[i]:=by unfold joinL;rw[List.getElem_zipWith]
     simp only[hJ] at this
     exact this
    rw[hJi] at hms
    have hms2:((mixJ J c i).map ai).set i (ai (if c[i]<P[i] then P[i] else c[i]))=(mixJ J c (i+1)).map ai:=by rw[map_set_ai,hms]
    have hmml:((mixJ J c i).map ai).length=ps.length:=by rw[List.length_map,hml,hcn]
    generalize (mixJ J c (i+1)).map ai=ys' at *
    generalize (mixJ J c i).map ai=ys at *
    generalize c[i]=x1 at *
    generalize P[i]=x2 at *
    simp only[go_sem]
    repeat(first|((with_reducible refine AWp.ofC ?_ ?_);exact rfl;simp only[go_sem,hgm,hgP,n1,n3,hmml])|((with_reducible refine an ?_ ?_);exact Au))
    exact⟨_,List.Sublist.refl _,by rw[hms2]⟩
   ·rintro vs L - rfl
    have hPc:P.length=c.length:=by omega
    rw[hPc,mixJ_full hJl]
    refine AWp.viewP (Lf:=[(bt,_)]) (Lk:=[(bw,.row 146 2 [.agg [.sl 3 (ps.map aPr),.ls bo' 1 0 O.length cap']] 1),(bo',.row 42 1 (O.map aInts) cap')]) (L':=[(bw,.row 146 2 [.agg [.sl 3 (ps.map aPr),.ls bo' 1 0 O.length cap']] 1),(bo',.row 42 1 (O.map aInts) cap')]) (List.Perm.refl _) (LVw.refl _) [(13,aInts J)] (fun z hz => ?_) ?_
    ·obtain rfl:=List.mem_singleton.1 hz
     simp only[go_sem]
     exact Vw.ofLs (t:=3) (cap:=capt) (if_pos rfl) (by rw[List.length_map];omega)
    obtain⟨R,w1,w2,w3,w4,w5⟩:=wlk_go hv hci s2.is hJle
    have hJo:=sum_le_off s2.is
    have hwk:=walker_walk ps hs hv c J hci s2.is hJle O hO.last (by omega) R w1 (by omega) bw bo' cap' hb'
    rw[hwL bo' O cap',haI] at hwk
    rw[haI]
    simp only[go_sem]
    refine W2 hb' hb2' ?_
    refine MVal.mono hwk.val ?_
    rintro r L ⟨rfl,b2,cap2,m1,rfl⟩
    simp only[go_sem]
    refine Wk ?_
    exact⟨_,List.Sublist.refl _,(off ps ps.length:Int).toNat - J.sum.toNat,by omega,O ++ R,J,b2,cap2,m1,hO.go w2 w3 (fun d hd=>s5 d (w5 d hd).1 (w5 d hd).2.1 (w5 d hd).2.2),s2,by omega,rfl⟩
noncomputable def aTruR (ps:List Pr) (ts:List Pd):AV:=if conF ps ts=0 then .tup [aRowsS ps ps.length (rowsOf ps ts),ai 0] else .tup [.sl 1 [],ai (conF ps ts)]
def rowsK (ps:List Pr) (rows:Nat→List Stp) (k:Nat):List AV:=(List.range k).map fun p=>aStrs ps (rows p)
theorem rowsK_len (ps:List Pr) (rows:Nat→List Stp) (k:Nat):(rowsK ps rows k).length=k:=by simp [rowsK]
theorem rowsK_succ (ps:List Pr) (rows:Nat→List Stp) (k:Nat):rowsK ps rows (k+1)=rowsK ps rows k ++ [aStrs ps (rows k)]:=by unfold rowsK;rw[List.range_succ,List.map_append];rfl
theorem strong_truths_bad {ps:List Pr} (hva:PC Proofs.Tryz.prog 85 [aTr ps] (ab false)) (ts:List Pd) (_htl:ts.length≤9223372036854775807):PC Proofs.Tryz.prog 50 [aTr ps,.sl 6 (ts.map aPd)] (.tup [.sl 1 [],ai 1]):=by
 refine PC.enter 47 [.tmp 4,.tmp 5] [2,8,43] Proofs.Tryz.func50 rfl rfl rfl rfl rfl (by simp) (AWp.of ?_);simp only[go_sem]
 refine Wk ?_
 refine Sd ?_
 refine(hva).val.use ?_;simp only[go_sem]
 refine Wk ?_
 refine ret_view [] ?_;simp only[go_sem]
 exact .mkTup (Vws.cons (.nil 1) (Vws.refl _))
theorem strong_truths (ps:List Pr) (hs:Sm ps) (ts:List Pd) (hz:∀t ∈ ts,szF t≤1000000) (htl:ts.length≤1000000):PC Proofs.Tryz.prog 50 [aTr ps,.sl 6 (ts.map aPd)] (aTruR ps ts):=by
 have h1:=trace_Valid ps hs
 have hl:=hs.procs
 by_cases hv:validF ps=true∧ts.length=ps.length
 ·have hvl:(ts.length:Int)=ps.length:=by omega
  rw[hv.1] at h1
  have hhit:=fun p hp=>conF_hit hv (p:=p) hp
  have hzero:=conF_zero hv
  have hR0:conF ps ts=0→aTruR ps ts = .tup [.sl 1 (rowsK ps (rowsOf ps ts) ps.length),ai 0]:=fun h=>by unfold aTruR;rw[if_pos h];rfl
  have hR1:conF ps ts ≠ 0→aTruR ps ts = .tup [.sl 1 [],ai (conF ps ts)]:=fun h=>by unfold aTruR;rw[if_neg h]
  have hok:=rowsOf_ok (ps:=ps) (ts:=ts) hv.2
  have hlen:=rowsOf_len hv.1 ts
  have hrg:=fun p (hp:p<ts.length)=>rowsOf_get (ps:=ps) (ts:=ts) hp
  generalize hrows:rowsOf ps ts=rows at *
  generalize aTruR ps ts=R at *
  generalize conF ps ts=C at *
  refine PC.enter 47 [.tmp 4,.tmp 5] [2,8,43] Proofs.Tryz.func50 rfl rfl rfl rfl rfl (by simp) (AWp.of ?_);simp only[go_sem]
  refine Wk ?_
  refine Sd ?_
  refine(h1).val.use ?_;simp only[go_sem,hvl]
  refine W1 hvl ?_
  refine(AWp.range' ps.length [6] [2,22,23] (fun p vs L=>∃v,vs=[v]∧AppSt 94 1 (rowsK ps rows p) v L∧∀q (hq:q<ts.length),q<p→lclF ps q 0 ts[q]=0) (by omega) rfl rfl rfl ⟨anil,rfl,.nil,fun q hq h=>by omega⟩ ?_ ?_)
  ·rintro p vs L hp0 - ⟨v,rfl,hA,hJ⟩
   have hp:p<ts.length:=by omega
   have hgt:=getD_map (f:=aPd) hp
   have hsp:=conj_Spans ps hs p ts[p] (hz _ (List.getElem_mem hp))
   have hh:=hhit p hp hJ
   have hal:=strong_all ps hs hv.1 (rows p) (by have:=hlen p (by omega);omega) (rows_in hok (by omega))
   have hyl:=rowsK_len ps rows p
   have hrp:=hrg p hp
   rw[rowsK_succ]
   unfold aSpansR at hsp
   rw[Int.toNat_natCast,← hrp] at hsp
   have hJ1:lclF ps p 0 ts[p]=0→∀q (hq:q<ts.length),q<p+1→lclF ps q 0 ts[q]=0:=fun e q hq h=>by
    by_cases e2:q=p
    ·subst e2;exact e
    ·exact hJ q hq (by omega)
   clear hhit hzero hrg hJ
   generalize lclF ps p 0 ts[p]=e at *
   generalize ts[p]=t at *
   have hA1:aStrs ps (rows p) = .sl 4 ((rows p).map (aStr ps)):=rfl
   rw[hA1] at hal ⊢
   generalize (rows p).map (aStr ps)=SR at *
   generalize rowsK ps rows p=ys at *
   obtain⟨k0,n,pp,q0,s,l⟩:=t
   simp only[aPd_mk] at *
   have hfo:=hA.fo
   by_cases he:e=0
   ·rw[if_pos he] at hsp
    subst he
    rcases hA.inv with ⟨e1,rfl,rfl⟩|⟨bq,cap,rfl,rfl⟩
    ·simp only[go_sem]
     refine W1 hgt ?_
     intros
     refine Wk ?_
     refine Sd ?_
     refine(hsp).val.use ?_;simp only[go_sem]
     refine Wk ?_
     refine Sd ?_
     refine(hal).val.use ?_;simp only[go_sem]
     refine Wk ?_
     intro b' cap' g8
     exact⟨_,List.Sublist.refl _,_,rfl,by rw[e1];exact .row _ _ _,hJ1 rfl⟩
    ·simp only[go_sem]
     refine W1 hgt ?_
     intros
     refine Wk ?_
     refine Sd ?_
     refine(hsp).val.use ?_;simp only[go_sem]
     refine Wk ?_
     refine Sd ?_
     refine(hal).val.use ?_;simp only[go_sem]
     refine Wk ?_
     intro b' cap' g8
     exact⟨_,List.Sublist.refl _,_,rfl,AppSt.snoc b' cap' _ rfl,hJ1 rfl⟩
   ·rw[if_neg he] at hsp
    have hC:=hh he
    rw[hR1 (by rw[hC];exact he),hC]
    rcases hA.inv with ⟨e1,rfl,rfl⟩|⟨bq,cap,rfl,rfl⟩
    ·simp only[go_sem]
     refine W1 hgt ?_
     intros
     refine W1 he ?_
     refine Sd ?_
     refine(hsp).val.use ?_;simp only[go_sem]
     refine W1 he ?_
     refine ret_view [] ?_;simp only[go_sem]
     exact .mkTup (Vws.cons (.nil 1) (Vws.refl _))
    ·simp only[go_sem]
     refine W1 hgt ?_
     intros
     refine W1 he ?_
     refine Sd ?_
     refine(hsp).val.use ?_;simp only[go_sem]
     refine W1 he ?_
     refine ret_view [] ?_;simp only[go_sem]
     exact .mkTup (Vws.cons (.nil 1) (Vws.refl _))
  ·rintro vs L - ⟨v,rfl,hA,hJ⟩
   have hC:=hzero fun q hq=>hJ q hq (by omega)
   rw[hR0 hC]
   have hyl:=rowsK_len ps rows ps.length
   have hfo:=hA.fo
   rcases hA.inv with ⟨e1,rfl,rfl⟩|⟨bq,cap,rfl,rfl⟩
   ·simp only[go_sem]
    refine Wk ?_
    refine ret_view [] ?_;simp only[go_sem]
    rw[e1]
    exact .mkTup (Vws.cons (.nil 1) (Vws.refl _))
   ·simp only[go_sem]
    refine Wk ?_
    refine ret_view [true] ?_;simp only[go_sem]
    exact .mkTup (Vws.cons (Vw.ofLs (if_pos rfl) rfl) (Vws.refl _))
 ·have hC:=conF_bad hv
  have hR1:aTruR ps ts = .tup [.sl 1 [],ai 1]:=by unfold aTruR;rw[hC];rfl
  rw[hR1]
  by_cases hv1:validF ps=true
  ·have hvl:¬(ts.length:Int)=ps.length:=fun e=>hv ⟨hv1,by omega⟩
   rw[hv1] at h1
   refine PC.enter 47 [.tmp 4,.tmp 5] [2,8,43] Proofs.Tryz.func50 rfl rfl rfl rfl rfl (by simp) (AWp.of ?_);simp only[go_sem]
   refine Wk ?_
   refine Sd ?_
   refine(h1).val.use ?_;simp only[go_sem,hvl]
   refine W1 hvl ?_
   refine ret_view [] ?_;simp only[go_sem]
   exact .mkTup (Vws.cons (.nil 1) (Vws.refl _))
  ·rw[show validF ps=false by simpa using hv1] at h1
   exact strong_truths_bad h1 ts (by omega)
theorem tgt_least {α:Type} {bg:α→α→Bool} {len:Nat→Nat} {f:Nat→Nat→α} {n:Nat} (hm:MonB bg len f n) {t:Nat→Nat} (ht:Tgt bg len f n t):∀(m:Nat) (a:Nat→Nat),(∀t,Tgt bg len f n t→∀p,p<n→a p≤t p)→totS n (fun p=>t p - a p)≤m→∃a,LeastT bg len f n a:=by
 intro m
 induction m with
 | zero =>
  intro a ha h0
  by_cases hT:Tgt bg len f n a
  ·exact⟨a,hT,ha⟩
  ·exfalso
   obtain⟨p,q,hp,hq,hpq,hb⟩:∃p q,p<n∧q<n∧p ≠ q∧bg (f p (a p)) (f q (a q))=false:=by
    apply Classical.byContradiction
    intro hn
    refine hT ⟨fun p hp=>Nat.lt_of_le_of_lt (ha t ht p hp) (ht.1 p hp),fun p q hp hq hpq => ?_⟩
    cases hb:bg (f p (a p)) (f q (a q)) with
    | true=>rfl
    | false=>exact absurd ⟨p,q,hp,hq,hpq,hb⟩ hn
   have h1:=tgt_step hm ha hp hq hpq hb t ht q hq
   rw[if_pos rfl] at h1
   have h2:totS n (fun _=>0)<totS n (fun p=>t p - a p):=totS_lt2 n (p:=q) (fun _ _=>Nat.zero_le _) hq (by show 0<t q - a q;omega)
   omega
 | succ m ih =>
  intro a ha h0
  by_cases hT:Tgt bg len f n a
  ·exact⟨a,hT,ha⟩
  ·obtain⟨p,q,hp,hq,hpq,hb⟩:∃p q,p<n∧q<n∧p ≠ q∧bg (f p (a p)) (f q (a q))=false:=by
    apply Classical.byContradiction
    intro hn
    refine hT ⟨fun p hp=>Nat.lt_of_le_of_lt (ha t ht p hp) (ht.1 p hp),fun p q hp hq hpq => ?_⟩
    cases hb:bg (f p (a p)) (f q (a q)) with
    | true=>rfl
    | false=>exact absurd ⟨p,q,hp,hq,hpq,hb⟩ hn
   have hs:=tgt_step hm ha hp hq hpq hb
   have h1:=hs t ht q hq
   rw[if_pos rfl] at h1
   refine ih (fun r=>if r=q then a q+1 else a r) hs ?_
   have h2:totS n (fun r=>t r - (if r=q then a q+1 else a r))<totS n (fun p=>t p - a p):=totS_lt2 n (p:=q) (fun r _=>by
    show t r - (if r=q then a q+1 else a r)≤t r - a r
    split
    ·rename_i e;subst e;omega
    ·exact Nat.le_refl _) hq (by show t q - (if q=q then a q+1 else a q)<t q - a q;rw[if_pos rfl];omega)
   omega
theorem least_ex {ps:List Pr} {b:Nat→Nat→Bool} {rows:Nat→List Stp} (hR:RowsOk ps b rows) (h:∃t,TgtS ps rows t):∃a,LeastS ps rows a:=by
 obtain⟨t,ht⟩:=h
 exact tgt_least (mon_rows hR) ht _ (fun _=>0) (fun _ _ _ _=>Nat.zero_le _) (Nat.le_refl _)
def DefS (ps:List Pr) (ts:List Pd) (r:AV):Prop :=
 (conF ps ts ≠ 0∧r = .tup [aAns noAns,ai (conF ps ts)])∨(conF ps ts=0∧∃a,LeastS ps (rowsOf ps ts) a∧r = .tup [aAns ⟨2,true,4,[],[],[],(chcL ps.length (rowsOf ps ts) a).map stpI,0⟩,ai 0]) ∨
  (conF ps ts=0∧(¬ ∃t,TgtS ps (rowsOf ps ts) t)∧∃O,DodgeR ps (elimOf ps ts).ok O∧O.length≤513∧r = .tup [aAns ⟨2,false,3,[],[],O,[],0⟩,ai 0])
def aAnsN:AV:=.agg [ai 0,ab false,ai 0,anil,anil,anil,anil,ai 0]
theorem vw_noAns (L:AHeap):Vw L aAnsN (aAns noAns):=.mkAgg (Vws.cons (.refl _) (Vws.cons (.refl _) (Vws.cons (.refl _) (Vws.cons (.nil 1) (Vws.cons (.nil 1) (Vws.cons (.nil 1) (Vws.cons (.nil 3) (Vws.refl _))))))))
set_option maxHeartbeats 1000000 in
theorem strong_Definitely (ps:List Pr) (hs:Sm ps) (ts:List Pd) (hz:∀t ∈ ts,szF t≤1000000) (htl:ts.length≤1000000):MCalls Proofs.Tryz.prog 16 [aTr ps,.sl 6 (ts.map aPd)] [] fun r L=>L=[]∧DefS ps ts r:=by
 have h1:=strong_truths ps hs ts hz htl
 refine MCalls.toS (K:=fun r L=>∃r0,Vw L r r0∧DefS ps ts r0) ?_ (fun _ _ h=>h)
 unfold aTruR at h1
 by_cases hC:conF ps ts=0
 ·obtain⟨hv,hl,_⟩:=conF_inv hC
  have hl8:=(valid_len hv).2
  have hok:=rowsOf_ok (ps:=ps) (ts:=ts) hl
  have hlen:∀p,p<ps.length→(rowsOf ps ts p).length≤1000000:=fun p hp=>by have:=rowsOf_len hv ts p hp;omega
  have h2:=strong_tight ps hs hv hok hlen
  have hR:aRowsS ps ps.length (rowsOf ps ts) = .sl 1 (rowsK ps (rowsOf ps ts) ps.length):=rfl
  rw[if_pos hC,hR] at h1
  have hA:∀l,aStrs ps l = .sl 4 (l.map (aStr ps)):=fun _=>rfl
  by_cases hT:∃t,TgtS ps (rowsOf ps ts) t
  ·obtain⟨a,ha⟩:=least_ex hok hT
   rw[aTight_some ha,hR,hA] at h2
   have hfin:DefS ps ts (.tup [aAns ⟨2,true,4,[],[],[],(chcL ps.length (rowsOf ps ts) a).map stpI,0⟩,ai 0]):=.inr (.inl ⟨hC,a,ha,rfl⟩)
   have hcl:(chcL ps.length (rowsOf ps ts) a).length=ps.length:=chcL_len _ _ _
   have hsi:=aStp_I (chcL ps.length (rowsOf ps ts) a)
   generalize DefS ps ts=S at *
   generalize chcL ps.length (rowsOf ps ts) a=cl at *
   refine MCalls.enter' 54 [.cell 4 44,.tmp 5] [2,12,49] Proofs.Tryz.func16 rfl rfl rfl rfl rfl (by simp) (AWp.of ?_);simp only[go_sem]
   refine Wk ?_
   intro b4
   refine Wk ?_
   refine Sd ?_
   refine(h1).val.use ?_;simp only[go_sem]
   refine Wk ?_
   intro b8 g8
   have n1:¬b4=b8:=by omega
   have n2:¬b8=b4:=by omega
   refine W2 n1 n2 ?_
   refine Sd ?_
   refine(h2).val.use ?_;simp only[go_sem]
   refine W2 n1 n2 ?_
   refine(AWp.range' cl.length [] [4,8,39,40] (fun k vs L=>∃v Lq,L=Lq ++ [(b8,.row 44 8 [.agg [ai 2,ab true,ai 4,anil,anil,anil,v,ai 0]] 1),(b4,.row 44 8 [aAnsN] 1)]∧AppSt 51 3 ((cl.take k).map aStp) v Lq∧∀x ∈ Lq,x.1 ≠ b8∧x.1 ≠ b4) (by omega) rfl rfl rfl ⟨anil,[],rfl,.nil,by simp⟩ ?_ ?_)
   ·rintro k vs L hk - ⟨v,Lq,rfl,hAp,hq⟩
    have hgk:=getD_map (f:=aStr ps) hk
    have hfo:=hAp.fo
    have hyl:((cl.take k).map aStp).length=k:=by rw[List.length_map,List.length_take];omega
    rw[List.take_succ_eq_append_getElem hk,List.map_append]
    have ea:[cl[k]].map aStp=[.agg [ai cl[k].1,ai cl[k].2.1,ai cl[k].2.2]]:=rfl
    rw[ea]
    generalize cl[k]=s at *
    generalize (cl.take k).map aStp=ys at *
    rcases hAp.inv with ⟨e1,rfl,rfl⟩|⟨bq,cap,rfl,rfl⟩
    ·simp only[go_sem,List.nil_append]
     refine W3 hgk n1 n2 ?_
     intros
     refine W2 n1 n2 ?_
     intro b' cap' g1 g2 g3
     have n3:¬b8=b'∧¬b'=b8∧¬b4=b'∧¬b'=b4:=by omega
     obtain⟨n3,n4,n5,n6⟩:=n3
     simp only[go_sem,n3]
     refine⟨_,List.Sublist.refl _,.ls b' 3 0 1 cap',[(b',.row 51 3 (ys ++ [.agg [ai s.1,ai s.2.1,ai s.2.2]]) cap')],?_,?_,?_⟩
     ·rw[e1];rfl
     ·rw[e1];exact .row _ _ _
     ·intro y hy;simp only[List.mem_singleton] at hy;subst hy;exact⟨n4,n6⟩
    ·have nq:=hq (bq,.row 51 3 ys cap) (by simp)
     simp only at nq
     have nq1:¬b8=bq:=fun e=>nq.1 e.symm
     have nq2:¬b4=bq:=fun e=>nq.2 e.symm
     simp only[go_sem,List.cons_append,List.nil_append]
     refine W6 hgk n1 n2 nq nq1 nq2 ?_
     intros
     refine W5 n1 n2 nq nq1 nq2 ?_
     intro b' cap' g1 g2 g3
     have n3:¬b8=b'∧¬b'=b8∧¬b4=b'∧¬b'=b4:=by omega
     obtain⟨n3,n4,n5,n6⟩:=n3
     simp only[go_sem,n3]
     refine⟨_,List.Sublist.refl _,.ls b' 3 0 (ys.length+1) cap',[(b',.row 51 3 (ys ++ [.agg [ai s.1,ai s.2.1,ai s.2.2]]) cap')],?_,?_,?_⟩
     ·rfl
     ·exact AppSt.snoc b' cap' _ rfl
     ·intro y hy;simp only[List.mem_singleton] at hy;subst hy;exact⟨n4,n6⟩
   ·rintro vs L - ⟨v,Lq,rfl,hAp,hq⟩
    rw[List.take_length] at hAp
    have hfo:=hAp.fo
    rcases hAp.inv with ⟨e1,rfl,rfl⟩|⟨bq,cap,rfl,rfl⟩
    ·have:cl.length=0:=by simpa using congrArg List.length e1
     have:=(valid_len hv).1
     omega
    ·have nq:=hq (bq,.row 51 3 (cl.map aStp) cap) (by simp)
     simp only at nq
     have nq1:¬b8=bq:=fun e=>nq.1 e.symm
     have nq2:¬b4=bq:=fun e=>nq.2 e.symm
     simp only[go_sem,List.cons_append,List.nil_append]
     refine W5 n1 n2 nq nq1 nq2 ?_
     refine ret_sub [(bq,.row 51 3 (cl.map aStp) cap)] (by simp) ?_
     simp only[go_sem,n1,nq2]
     refine⟨_,.mkTup (Vws.cons (.mkAgg ?_) (Vws.refl _)),hfin⟩
     refine Vws.cons (.refl _) (Vws.cons (.refl _) (Vws.cons (.refl _) (Vws.cons (.nil 1) (Vws.cons (.nil 1) (Vws.cons (.nil 1) (Vws.cons ?_ (Vws.refl _)))))))
     rw[← hsi]
     exact Vw.ofLs (if_pos rfl) (List.length_map _).symm
  ·have h3:=strong_dodge ps hs hv hok hlen hT
   rw[aTight_none hT,hR,hA] at h2
   rw[hR] at h3
   have hfin:∀O,DodgeR ps (elimOf ps ts).ok O→O.length≤513→DefS ps ts (.tup [aAns ⟨2,false,3,[],[],O,[],0⟩,ai 0]):=fun O h1 h2 => .inr (.inr ⟨hC,hT,O,h1,h2,rfl⟩)
   generalize DefS ps ts=S at *
   refine MCalls.enter' 54 [.cell 4 44,.tmp 5] [2,12,49] Proofs.Tryz.func16 rfl rfl rfl rfl rfl (by simp) (AWp.of ?_);simp only[go_sem]
   refine Wk ?_
   intro b4
   refine Wk ?_
   refine Sd ?_
   refine(h1).val.use ?_;simp only[go_sem]
   refine Wk ?_
   intro b8 g8
   have n1:¬b4=b8:=by omega
   have n2:¬b8=b4:=by omega
   refine W2 n1 n2 ?_
   refine Sd ?_
   refine(h2).val.use ?_;simp only[go_sem]
   refine W2 n1 n2 ?_
   refine(MVal.frame (Lm:=[]) (Lr:=[(b8,.row 44 8 [.agg [ai 2,ab false,ai 0,anil,anil,anil,anil,ai 0]] 1),(b4,.row 44 8 [aAnsN] 1)]) h3.val).mono ?_
   rintro r L ⟨L1,rfl,rfl,O,hO,hOl,rfl⟩
   simp only[go_sem,n2,List.nil_append]
   refine W2 n1 n2 ?_
   refine ret_sub [] (List.nil_sublist _) ?_
   simp only[go_sem,n1]
   refine⟨_,.mkTup (Vws.cons (.mkAgg ?_) (Vws.refl _)),hfin O hO hOl⟩
   exact Vws.cons (.refl _) (Vws.cons (.refl _) (Vws.cons (.refl _) (Vws.cons (.nil 1) (Vws.cons (.nil 1) (Vws.cons (.refl _) (Vws.cons (.nil 3) (Vws.refl _)))))))
 ·rw[if_neg hC] at h1
  have hfin:DefS ps ts (.tup [aAns noAns,ai (conF ps ts)]):=.inl ⟨hC,rfl⟩
  generalize DefS ps ts=S at *
  generalize conF ps ts=e at *
  refine MCalls.enter' 54 [.cell 4 44,.tmp 5] [2,12,49] Proofs.Tryz.func16 rfl rfl rfl rfl rfl (by simp) (AWp.of ?_);simp only[go_sem]
  refine Wk ?_
  intro b4
  refine Wk ?_
  refine Sd ?_
  refine(h1).val.use ?_;simp only[go_sem]
  refine W1 hC ?_
  refine ret_sub [] (List.nil_sublist _) ?_
  simp only[go_sem]
  exact⟨_,.mkTup (Vws.cons (vw_noAns _) (Vws.refl _)),hfin⟩
end Go.AL
end
