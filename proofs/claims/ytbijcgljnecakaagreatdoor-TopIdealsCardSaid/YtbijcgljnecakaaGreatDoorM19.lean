/- Texts of this claim's proof: WVec2, WPk2, WJ6. No condition. -/
import Derived.Test.YtbijcgljnecakaaGreatDoorM18
import Derived.Test.YtbijcgljnecakaaGreatDoorM8
import Derived.Test.YtbijcgljnecakaaGreatDoorM17
import Derived.Test.YtbijcgljnecakaaGreatDoorM14
import Derived.Test.YtbijcgljnecakaaGreatDoorM12
import Derived.Test.YtbijcgljnecakaaGreatDoorM13
section
namespace Go.AL
open Go Go.RowKit
set_option maxRecDepth 4000
def VSt (n bo bs:Nat) (S:Nat→List (List Int)) (T:Int→AV) (L:AHeap):Prop :=
 ∃(V:Nat→AV) (Ls:Nat→AHeap) (SV:List AV),L.Perm ((bs,.row 25 1 SV 200) :: (bo,.row 72 1 ((List.range n).map V) n) :: famL n Ls) ∧
  (∀p,p<n→AppSt 25 1 ((S p).map aInts) (V p) (Ls p))∧SV.length=200∧∀m:Int,0≤m→m≤199→SV.getD m.toNat .any=T m
theorem VSt.perm {n bo bs:Nat} {S:Nat→List (List Int)} {T:Int→AV} {L L':AHeap} (hp:L'.Perm L) (h:VSt n bo bs S T L):VSt n bo bs S T L' :=
 let ⟨V,Ls,SV,h1,h2⟩:=h
 ⟨V,Ls,SV,hp.trans h1,h2⟩
theorem VSt.open {n bo bs:Nat} {S:Nat→List (List Int)} {T:Int→AV} {L:AHeap} (h:VSt n bo bs S T L) {p:Nat} (hp:p<n) :
  ∃(V:Nat→AV) (Ls:Nat→AHeap) (SV:List AV),L.Perm ((bs,.row 25 1 SV 200) :: (bo,.row 72 1 ((List.range n).map V) n) :: (Ls p ++ famR n p Ls)) ∧
   AppSt 25 1 ((S p).map aInts) (V p) (Ls p)∧SV.length=200∧(∀m:Int,0≤m→m≤199→SV.getD m.toNat .any=T m) ∧
   ∀(S':Nat→List (List Int)) (T':Int→AV) (x:AV) (Lp:AHeap) (SV':List AV) (L':AHeap),(∀q,q ≠ p→S' q=S q)→AppSt 25 1 ((S' p).map aInts) x Lp→SV'.length=200→(∀m:Int,0≤m→m≤199→SV'.getD m.toNat .any=T' m) →
    L'.Perm ((bs,.row 25 1 SV' 200) :: (bo,.row 72 1 (((List.range n).map V).set p x) n) :: (Lp ++ famR n p Ls))→VSt n bo bs S' T' L':=by
 obtain⟨V,Ls,SV,h1,h2,h3,h4⟩:=h
 refine⟨V,Ls,SV,h1.trans (((fam_split hp Ls).cons _).cons _),h2 p hp,h3,h4,fun S' T' x Lp SV' L' hS hA hl hT hL => ?_⟩
 refine⟨fun q=>if q=p then x else V q,fun q=>if q=p then Lp else Ls q,SV',?_,fun q hq => ?_,hl,hT⟩
 ·refine hL.trans ?_
  rw[map_range_set]
  refine(List.Perm.cons _ (List.Perm.cons _ ?_))
  have hsp:=fam_split hp (fun q=>if q=p then Lp else Ls q)
  rw[if_pos rfl,famR_congr (Ls:=Ls) (fun q hq=>if_neg hq)] at hsp
  exact hsp.symm
 ·by_cases e:q=p
  ·subst e;dsimp only;rw[if_pos rfl,if_pos rfl];exact hA
  ·dsimp only;rw[if_neg e,if_neg e,hS q e];exact h2 q hq
set_option maxHeartbeats 8000000 in
theorem vector_stamps (ps:List Pr) (hs:Sm ps) (hv:validF ps=true):PC Proofs.Tryz.prog 71 [aTr ps] (aRows3 ((List.range ps.length).map (stampF ps))):=by
 obtain⟨hl1,hl8⟩:=valid_len hv
 have hfm:=valid_formed hv
 refine PC.enter 107 [.tmp 2] [1,7,8,102] Proofs.Tryz.func71 rfl rfl rfl rfl rfl (by simp) (AWp.of ?_);simp only[go_sem]
 refine Sd ?_
 refine AWp.of ?_;simp only[go_sem]
 refine Sd ?_
 intro bo
 refine Sd ?_
 refine AWp.of ?_;simp only[go_sem]
 refine Sd ?_
 intro bs hbs
 refine Wk ?_
 have hL0:VSt ps.length bo bs (fun _=>[]) (sentA ps fun _=>[]) [(bs,.row 25 1 (List.replicate 200 anil) 200),(bo,.row 72 1 (List.replicate ps.length anil) ps.length)]:=by
  refine⟨fun _=>anil,fun _=>[],List.replicate 200 anil,?_,fun p _ => .nil,by simp,fun m h1 h2 => ?_⟩
  ·rw[fam_nil,List.map_const',List.length_range]
  ·rw[sentA_init,List.getD_eq_getElem?_getD,List.getElem?_replicate,if_pos (by omega)];rfl
 have hB:∀S,Gen ps S→totS ps.length (lenS S)≤ps.length * 1000000:=fun S h=>totS_le _ fun q hq=>by
  have h1:=h.le_nev q
  rw[nev_get hq] at h1
  have h2:=hs.evs _ (List.getElem_mem hq)
  unfold lenS;omega
 refine AWp.block (AWp.loopN [5] [1,3,4] (fun m vs L=>∃S g,vs=[ab g]∧VSt ps.length bo bs S (sentA ps S) L∧Gen ps S∧(g=false→∀p,¬Rdy ps (lenS S) p)∧m=2 * (ps.length * 1000000 - totS ps.length (lenS S))+(if g=true then 1 else 0))
  _ ⟨_,true,rfl,hL0,.init,fun h=>(by cases h),rfl⟩ ?_)
 rintro m vs L' - ⟨S0,g0,rfl,hV0,hG0,hno0,hm⟩
 simp only[go_sem]
 refine Wk ?_
 refine⟨fun h1 => ?_,fun h1 => ?_⟩
 ·refine Wk ?_
  refine AWp.range' ps.length [5] [1,3,4,18,19] (fun p vs L=>∃S g,vs=[ab g]∧VSt ps.length bo bs S (sentA ps S) L∧Gen ps S∧(g=false→S=S0∧∀q,q<p→¬Rdy ps (lenS S) q)∧(g=true→totS ps.length (lenS S0)<totS ps.length (lenS S)))
   (by omega) rfl rfl rfl ⟨S0,false,rfl,hV0,hG0,fun _=>⟨rfl,fun q hq=>by omega⟩,fun h=>by cases h⟩ ?_ ?_
  ·rintro p vs L' hp - ⟨S1,g1,rfl,hV1,hG1,hf1,ht1⟩
   have hm:=List.getElem_mem hp
   have hel:=hs.evs _ hm
   simp only[go_sem]
   refine Sd ?_
   refine AWp.of ?_;simp only[go_sem,getD_map hp]
   refine Sd ?_
   intros
   refine AWp.of ?_;simp only[go_sem]
   refine AWp.loopN [5] [1,3,4,6,7,18,19,20] (fun m vs L=>∃S g,vs=[ab g]∧VSt ps.length bo bs S (sentA ps S) L∧Gen ps S∧(g=false→S=S0∧∀q,q<p→¬Rdy ps (lenS S) q)∧(g=true→totS ps.length (lenS S0)<totS ps.length (lenS S))∧m=1000000 - (S p).length)
    (1000000 - (S1 p).length) ?_ ?_
   ·exact⟨S1,g1,rfl,hV1,hG1,hf1,ht1,rfl⟩
   rintro m' vs L' - ⟨S,g,rfl,hV,hG,hf,ht,hm'⟩
   have hle:=hG.le_nev p
   rw[nev_get hp] at hle
   simp only[go_sem]
   refine AWp.seq ?_
   refine AWp.cut [1,3,4,5,6,7,18,19,20,33] (fun vs L=>VSt ps.length bo bs S (sentA ps S) L∧vs=[.rp 1 [aTr ps] 0 0,.ls bo 1 0 ps.length ps.length,.ls bs 1 0 200 200,ab g,ai p,.rp 3 [aPr ps[p]] 0 0,.sl 3 (ps.map aPr),ai ps.length,ai p,ab (decide (((S p).length:Int)<ps[p].evs.length))]) ?_ ?_
   ·obtain⟨V,Ls,SV,hP,hA,hSl,hT,_⟩:=hV.open hp
    refine AWp.perm hP (AWp.nodup fun hnd => ?_)
    have hVN:=hV.perm hP.symm
    obtain⟨n1,n2,n3⟩:=nd2 hnd
    rcases hA.inv with ⟨e1,e2,e3⟩|⟨b,cap,e2,e3⟩
    ·have hgd:((List.range ps.length).map V).getD p .any=anil:=by rw[map_range_getD hp,e2]
     have e4:(S p).length=0:=by simpa using congrArg List.length e1
     rw[e3] at hVN ⊢
     repeat(first|(with_reducible refine AWp.seq ?_)|(with_reducible refine AWp.block ?_))
     refine AWp.mix mixed [0,1,2,5,6,7] (.step 3 (.step 4 (.step 8 .done .done) .done) .done) (by kernel_rfl) ?_;simp only[go_sem,hgd,n1,n2]
     refine Sd ?_
     exact⟨_,List.Sublist.refl _,hVN,by rw[e4];rfl⟩
    ·have hgd:((List.range ps.length).map V).getD p .any = .ls b 1 0 (S p).length cap:=by rw[map_range_getD hp,e2,List.length_map]
     rw[e3] at hVN n3 ⊢
     obtain⟨⟨n4,n5⟩,n6,n7⟩:=n3 (b,_) (List.mem_append_left _ (List.mem_singleton_self _))
     repeat(first|(with_reducible refine AWp.seq ?_)|(with_reducible refine AWp.block ?_))
     refine AWp.mix mixed [0,1,2,5,6,7] (.step 3 (.step 4 (.step 8 .done .done) .done) .done) (by kernel_rfl) ?_;simp only[go_sem,hgd,n1,n2,n4,n5,n6,n7]
     refine Sd ?_
     exact⟨_,List.Sublist.refl _,hVN,rfl⟩
   ·rintro vs L2 - ⟨hV,rfl⟩
    simp only[go_sem]
    refine Wk ?_
    refine⟨fun h2 => ?_,fun h2 => ?_⟩
    ·have hk:(S p).length<ps[p].evs.length:=by omega
     have hfe:=hfm p hp _ (List.getElem_mem hk)
     have heq:=evq_get hp hk
     refine AWp.block ?_
     refine AWp.cut [1,3,4,5,6,7,8,18,19,20] (fun vs L=>VSt ps.length bo bs S (sentA ps S) L∧vs=[.rp 1 [aTr ps] 0 0,.ls bo 1 0 ps.length ps.length,.ls bs 1 0 200 200,ab g,ai p,.rp 3 [aPr ps[p]] 0 0,.rp 5 [aEv ps[p].evs[(S p).length]] 0 0,.sl 3 (ps.map aPr),ai ps.length,ai p]) ?_ ?_
     ·obtain⟨V,Ls,SV,hP,hA,hSl,hT,_⟩:=hV.open hp
      refine AWp.perm hP (AWp.nodup fun hnd => ?_)
      have hVN:=hV.perm hP.symm
      obtain⟨n1,n2,n3⟩:=nd2 hnd
      rcases hA.inv with ⟨e1,e2,e3⟩|⟨b,cap,e2,e3⟩
      ·have hgd:((List.range ps.length).map V).getD p .any=anil:=by rw[map_range_getD hp,e2]
       have e4:(S p).length=0:=by simpa using congrArg List.length e1
       have hk0:0<ps[p].evs.length:=by omega
       rw[e3] at hVN ⊢
       repeat(first|(with_reducible refine AWp.seq ?_)|(with_reducible refine AWp.block ?_))
       refine AWp.mix mixed [0,1,2,3,4] (.step 5 (.step 6 (.step 7 (.step 8 (.step 9 (.step 10 .done .done) .done) (.step 9 (.step 8 (.step 10 .done .done) .done) .done)) (.step 9 (.step 7 (.step 8 (.step 10 .done .done) .done) .done) .done)) (.step 9 (.step 6 (.step 7 (.step 8 (.step 10 .done .done) .done) .done) .done) .done)) (.step 9 (.step 5 (.step 6 (.step 7 (.step 8 (.step 10 .done .done) .done) .done) .done) .done) .done)) (by kernel_rfl) ?_;simp only[go_sem,hgd,n1,n2,getD_map hk0]
       repeat' (first|(with_reducible refine And.intro ?_ ?_)|intro _)
       all_goals first|omega|exact⟨_,List.Sublist.refl _,hVN,by simp only[e4]⟩|(simp;done)|(simp;omega)|(rename_i bN k1 k2 k3;have nb:¬bo=bN:=(by omega);simp only[go_sem,nb,hgd,getD_map hk0])
       all_goals repeat' (first|(with_reducible refine And.intro ?_ ?_)|intro _)
       all_goals first|omega|exact⟨_,List.Sublist.refl _,hVN,by simp only[e4]⟩|(simp;done)|(simp;omega)
      ·have hgd:((List.range ps.length).map V).getD p .any = .ls b 1 0 (S p).length cap:=by rw[map_range_getD hp,e2,List.length_map]
       rw[e3] at hVN n3 ⊢
       obtain⟨⟨n4,n5⟩,n6,n7⟩:=n3 (b,_) (List.mem_append_left _ (List.mem_singleton_self _))
       repeat(first|(with_reducible refine AWp.seq ?_)|(with_reducible refine AWp.block ?_))
       refine AWp.mix mixed [0,1,2,3,4] (.step 5 (.step 6 (.step 7 (.step 8 (.step 9 (.step 10 .done .done) .done) (.step 9 (.step 8 (.step 10 .done .done) .done) .done)) (.step 9 (.step 7 (.step 8 (.step 10 .done .done) .done) .done) .done)) (.step 9 (.step 6 (.step 7 (.step 8 (.step 10 .done .done) .done) .done) .done) .done)) (.step 9 (.step 5 (.step 6 (.step 7 (.step 8 (.step 10 .done .done) .done) .done) .done) .done) .done)) (by kernel_rfl) ?_;simp only[go_sem,hgd,n1,n2,n4,n5,n6,n7,getD_map hk]
       repeat' (first|(with_reducible refine And.intro ?_ ?_)|intro _)
       all_goals first|omega|exact⟨_,List.Sublist.refl _,hVN⟩|(simp;done)|(simp;omega)|(rename_i bN k1 k2 k3 k4;have nb:¬bo=bN:=(by omega);simp only[go_sem,nb,hgd,getD_map hk])
       all_goals repeat' (first|(with_reducible refine And.intro ?_ ?_)|intro _)
       all_goals first|omega|exact⟨_,List.Sublist.refl _,hVN⟩|(simp;done)|(simp;omega)
     ·rintro vs L3 - ⟨hV,rfl⟩
      generalize he:ps[p].evs[(S p).length]=e at *
      simp only[go_sem]
      refine Sd ?_
      refine AWp.of ?_;simp only[go_sem]
      refine Sd ?_
      intro bv hbv
      refine AWp.cut [1,3,4,5,6,7,8,9,18,19,20] (fun vs L=>∃L1,L=(bv,.row 3 1 ((preV ps S p (S p).length).map ai) ps.length) :: L1∧VSt ps.length bo bs S (sentA ps S) L1 ∧
       vs=[.rp 1 [aTr ps] 0 0,.ls bo 1 0 ps.length ps.length,.ls bs 1 0 200 200,ab g,ai p,.rp 3 [aPr ps[p]] 0 0,.rp 5 [aEv e] 0 0,.ls bv 1 0 ps.length ps.length,.sl 3 (ps.map aPr),ai ps.length,ai p]) ?_ ?_
      ·obtain⟨V,Ls,SV,hP,hA,hSl,hT,_⟩:=hV.open hp
       refine AWp.perm (hP.cons _) (AWp.nodup fun hnd => ?_)
       have hVN:=hV.perm hP.symm
       obtain⟨⟨m1,m2⟩,⟨m3,m4⟩,⟨n1,n2⟩,n3⟩:=nd3 hnd
       rcases hA.inv with ⟨e1,e2,e3⟩|⟨b,cap,e2,e3⟩
       ·have hgd:((List.range ps.length).map V).getD p .any=anil:=by rw[map_range_getD hp,e2]
        have e4:(S p).length=0:=by simpa using congrArg List.length e1
        have e5:(preV ps S p (S p).length).map ai=List.replicate ps.length (ai 0):=by unfold preV;rw[if_pos e4,List.map_replicate]
        rw[e3] at hVN ⊢
        repeat(first|((with_reducible refine AWp.ofC ?_ ?_);exact rfl;simp only[go_sem,hgd,m1,m2,m3,m4,n1,n2,List.length_range])|((with_reducible refine an ?_ ?_);exact Au))
        intro _
        rw[e5]
        exact⟨_,List.Sublist.refl _,_,rfl,hVN⟩
       ·have hgd:((List.range ps.length).map V).getD p .any = .ls b 1 0 (S p).length cap:=by rw[map_range_getD hp,e2,List.length_map]
        rw[e3] at hVN n3 ⊢
        obtain⟨⟨q1,q2⟩,⟨n4,n5⟩,n6,n7⟩:=n3 (b,_) (List.mem_append_left _ (List.mem_singleton_self _))
        by_cases h0:(S p).length=0
        ·have e5:(preV ps S p (S p).length).map ai=List.replicate ps.length (ai 0):=by unfold preV;rw[if_pos h0,List.map_replicate]
         repeat(first|((with_reducible refine AWp.ofC ?_ ?_);exact rfl;simp only[go_sem,hgd,m1,m2,m3,m4,n1,n2,n4,n5,n6,n7,q1,q2,List.length_range])|((with_reducible refine an ?_ ?_);exact Au))
         intro _
         rw[e5]
         exact⟨_,List.Sublist.refl _,_,rfl,hVN⟩
        ·have hb1:=hG.bound p ((S p).length - 1) (by omega)
         have e5:preV ps S p (S p).length=stOf S p ((S p).length - 1):=by unfold preV;rw[if_neg h0]
         have hgk:(List.map aInts (S p)).getD (((S p).length:Int) - 1).toNat .any = .sl 1 ((stOf S p ((S p).length - 1)).map ai):=by
          have e6:(((S p).length:Int) - 1).toNat=(S p).length - 1:=by omega
          rw[e6,getD_map (by omega)]
          simp [aInts,stOf,show (S p).length - 1<(S p).length by omega]
         repeat(first|((with_reducible refine AWp.ofC ?_ ?_);exact rfl;simp only[go_sem,hgd,hgk,m1,m2,m3,m4,n1,n2,n4,n5,n6,n7,q1,q2,List.length_range])|((with_reducible refine an ?_ ?_);exact Au))
         refine⟨fun h3 => ?_,fun h3 => ?_⟩
         ·refine Sd ?_
          rw[e5]
          generalize stOf S p ((S p).length - 1)=y at *
          rw[show min y.length ps.length=y.length by omega,List.take_length,List.drop_of_length_le (by simp;omega),List.append_nil]
          exact⟨_,List.Sublist.refl _,_,rfl,hVN⟩
         ·exfalso;omega
      ·rintro vs L4 - ⟨L1,rfl,hV,rfl⟩
       simp only[go_sem]
       refine AWp.cut [1,3,4,5,6,7,8,9,18,19,20] (fun vs L=>Rdy ps (lenS S) p∧∃b2 cap L1,L=(b2,.row 3 1 ((rawV ps S p (S p).length).map ai) cap) :: L1∧VSt ps.length bo bs S (sentA ps S) L1 ∧
        vs=[.rp 1 [aTr ps] 0 0,.ls bo 1 0 ps.length ps.length,.ls bs 1 0 200 200,ab g,ai p,.rp 3 [aPr ps[p]] 0 0,.rp 5 [aEv e] 0 0,.ls b2 1 0 ps.length cap,.sl 3 (ps.map aPr),ai ps.length,ai p]) ?_ ?_
       ·obtain⟨V,Ls,SV,hP,hA,hSl,hT,_⟩:=hV.open hp
        refine AWp.perm (hP.cons _) (AWp.nodup fun hnd => ?_)
        have hVN:=hV.perm hP.symm
        obtain⟨⟨m1,m2⟩,⟨m3,m4⟩,⟨n1,n2⟩,n3⟩:=nd3 hnd
        have hpl:(preV ps S p (S p).length).length=ps.length:=by
         unfold preV
         by_cases h0:(S p).length=0
         ·rw[if_pos h0];simp
         ·rw[if_neg h0];exact(hG.bound p _ (by omega)).1
        by_cases k3:e.kind=3
        ·obtain⟨b1,b2,_⟩:=formed_msg hfe (.inr k3)
         have hsv:=hT e.msg b1 b2
         have hml:e.msg.toNat<SV.length:=by omega
         by_cases hs1:0<(sndr ps e.msg).2∧(sndr ps e.msg).2≤(S (sndr ps e.msg).1.toNat).length
         ·have hrd:Rdy ps (lenS S) p:=⟨hp,by rw[nev_get hp];exact hk,fun _=>by unfold lenS;rw[heq];exact hs1⟩
          have hw:=hG.bound (sndr ps e.msg).1.toNat ((sndr ps e.msg).2 - 1).toNat (by omega)
          have hraw:rawV ps S p (S p).length=joinV (preV ps S p (S p).length) (stOf S (sndr ps e.msg).1.toNat ((sndr ps e.msg).2 - 1).toNat):=by unfold rawV;rw[heq,if_pos k3]
          rw[hraw]
          unfold sentA at hsv
          rw[if_pos hs1] at hsv
          simp only[aInts] at hsv
          generalize stOf S (sndr ps e.msg).1.toNat ((sndr ps e.msg).2 - 1).toNat=w at *
          repeat(first|((with_reducible refine AWp.ofC ?_ ?_);exact rfl;simp only[go_sem,hsv,hSl,m1,m2,m3,m4,n1,n2])|((with_reducible refine an ?_ ?_);exact Au))
          refine⟨fun h3 => ?_,fun h3 => ?_⟩
          ·repeat(first|((with_reducible refine AWp.ofC ?_ ?_);exact rfl;simp only[go_sem,hsv,hSl,m1,m2,m3,m4,n1,n2])|((with_reducible refine an ?_ ?_);exact Au))
           intro h4
           repeat(first|((with_reducible refine AWp.ofC ?_ ?_);exact rfl;simp only[go_sem,hsv,hSl,m1,m2,m3,m4,n1,n2])|((with_reducible refine an ?_ ?_);exact Au))
           refine(MCalls.viewed (L:=(bv,.row 3 1 ((preV ps S p (S p).length).map ai) ps.length) :: (bs,.row 25 1 SV 200) :: (bo,.row 72 1 ((List.range ps.length).map V) ps.length) :: (Ls p ++ famR ps.length p Ls))
            (Vws.cons (Vw.ofLs (t:=3) (cap:=ps.length) (if_pos rfl) (by rw[List.length_map,hpl])) (Vws.cons (.refl _) .nil)) (vector_joined (preV ps S p (S p).length) w ps.length (by omega) (by omega) hpl hw.1) (fun r L1 h=>h.own (own_ints _))).val.mono ?_
           rintro r L' ⟨L5,rfl,hA5⟩
           rcases hA5.inv with ⟨e1,_,_⟩|⟨b3,cap3,rfl,rfl⟩
           ·have h9:=congrArg List.length e1
            rw[List.length_map,joinV_length (by rw[hpl,hw.1]),hpl] at h9
            have h10:ps.length=0:=h9
            omega
           ·simp only[go_sem]
            rw[joinV_length (by rw[hpl,hw.1]),hpl]
            exact⟨_,List.Sublist.cons_cons _ (List.sublist_cons_self _ _),hrd,_,_,_,rfl,hVN,rfl⟩
          ·exact absurd k3 h3
         ·unfold sentA at hsv
          rw[if_neg hs1] at hsv
          repeat(first|((with_reducible refine AWp.ofC ?_ ?_);exact rfl;simp only[go_sem,hsv,hSl,m1,m2,m3,m4,n1,n2])|((with_reducible refine an ?_ ?_);exact Au))
          refine⟨fun h3 => ?_,fun h3 => ?_⟩
          ·repeat(first|((with_reducible refine AWp.ofC ?_ ?_);exact rfl;simp only[go_sem,hsv,hSl,m1,m2,m3,m4,n1,n2])|((with_reducible refine an ?_ ?_);exact Au))
           refine⟨fun _=>⟨rfl,_,List.sublist_cons_self _ _,S,g,rfl,hVN,hG,fun hg => ?_,ht⟩,fun h=>absurd rfl h⟩
           obtain⟨e1,e2⟩:=hf hg
           refine⟨e1,fun q hq => ?_⟩
           by_cases e:q=p
           ·subst e
            intro hr
            have:=hr.2.2 (by unfold lenS;rw[heq];exact k3)
            unfold lenS at this
            rw[heq] at this
            exact hs1 this
           ·exact e2 q (by omega)
          ·exact absurd k3 h3
        ·have hrd:Rdy ps (lenS S) p:=⟨hp,by rw[nev_get hp];exact hk,fun h=>by unfold lenS at h;rw[heq] at h;exact absurd h k3⟩
         have hraw:rawV ps S p (S p).length=preV ps S p (S p).length:=by unfold rawV;rw[heq,if_neg k3]
         rw[hraw]
         refine Wk ?_
         intro _
         exact⟨_,List.Sublist.refl _,hrd,_,_,_,rfl,hVN,rfl⟩
       ·rintro vs L5 - ⟨hrd,b2,cap2,L6,rfl,hV,rfl⟩
        obtain⟨hr1,hr2⟩:=hG.next hrd
        have hrp:=hr2 p
        have hgp:((rawV ps S p (S p).length).map ai).getD p .any=ai ((rawV ps S p (S p).length).getD p 0):=by
         have:p<(rawV ps S p (S p).length).length:=by omega
         rw[getD_map this];simp [this]
        have hvl:(vecV ps S p (S p).length).length=ps.length:=(tickV_length _ _).trans hr1
        have hst:((rawV ps S p (S p).length).map ai).set p (ai ((rawV ps S p (S p).length).getD p 0+1))=(vecV ps S p (S p).length).map ai:=by
         unfold vecV tickV;rw[List.map_set]
        generalize (rawV ps S p (S p).length).getD p 0=x at *
        generalize rawV ps S p (S p).length=raw at *
        simp only[go_sem]
        refine Sd ?_
        refine AWp.of ?_;simp only[go_sem,hgp]
        refine Sd ?_
        rw[hst]
        have sst:=sentA_step hv hrd (vecV ps S p (S p).length)
        rw[heq] at sst
        generalize hvec:vecV ps S p (S p).length=vec at *
        refine AWp.view [true] [(9,.sl 1 (vec.map ai))] (LVw.refl _) ?_ ?_
        ·intro q hq
         simp only[List.mem_singleton] at hq
         subst hq
         show Vw _ _ (.sl 1 (vec.map ai))
         simp only[go_sem]
         exact Vw.ofLs (t:=3) (cap:=cap2) (if_pos rfl) (by rw[List.length_map,hvl])
        simp only[go_sem]
        refine AWp.cut [1,3,4,5,6,7,9,18,19,20] (fun vs L=>VSt ps.length bo bs S (sentA ps (upS S p vec)) L ∧
         vs=[.rp 1 [aTr ps] 0 0,.ls bo 1 0 ps.length ps.length,.ls bs 1 0 200 200,ab g,ai p,.rp 3 [aPr ps[p]] 0 0,.sl 1 (vec.map ai),.sl 3 (ps.map aPr),ai ps.length,ai p]) ?_ ?_
        ·obtain⟨V,Ls,SV,hP,hA,hSl,hT,hcl⟩:=hV.open hp
         refine AWp.perm hP (AWp.nodup fun hnd => ?_)
         obtain⟨n1,n2,n3⟩:=nd2 hnd
         have hset:((List.range ps.length).map V).set p (V p)=(List.range ps.length).map V:=by
          rw[map_range_set];congr 1;funext q
          by_cases e:q=p
          ·rw[if_pos e,e]
          ·rw[if_neg e]
         by_cases k2:e.kind=2
         ·obtain⟨b1,b3,_⟩:=formed_msg hfe (.inl k2)
          have hml:e.msg.toNat<SV.length:=by omega
          have hsh:SV.getD e.msg.toNat .any=anil∨∃l,SV.getD e.msg.toNat .any = .sl 1 l:=by
           rw[hT e.msg b1 b3]
           unfold sentA
           split
           ·exact .inr ⟨_,rfl⟩
           ·exact .inl rfl
          refine Wk ?_
          refine⟨fun h3 => ?_,fun h3 => ?_⟩
          ·rcases hsh with hsv|⟨l,hsv⟩
           ·refine W4 hSl hsv n1 n2 ?_
            simp only[hsv]
            refine⟨_,List.Sublist.refl _,hcl S _ (V p) (Ls p) (SV.set e.msg.toNat (.sl 1 (vec.map ai))) _ (fun _ _=>rfl) hA (by rw[List.length_set];exact hSl) (fun m g1 g2 => ?_) (by rw[hset])⟩
            rw[getD_setA,sst m]
            by_cases em:e.msg=m
            ·subst em;rw[if_pos ⟨rfl,hml⟩,if_pos ⟨k2,rfl⟩];rfl
            ·rw[if_neg (by omega),if_neg fun h=>em h.2,hT m g1 g2]
           ·refine W4 hSl hsv n1 n2 ?_
            simp only[hsv]
            refine⟨_,List.Sublist.refl _,hcl S _ (V p) (Ls p) (SV.set e.msg.toNat (.sl 1 (vec.map ai))) _ (fun _ _=>rfl) hA (by rw[List.length_set];exact hSl) (fun m g1 g2 => ?_) (by rw[hset])⟩
            rw[getD_setA,sst m]
            by_cases em:e.msg=m
            ·subst em;rw[if_pos ⟨rfl,hml⟩,if_pos ⟨k2,rfl⟩];rfl
            ·rw[if_neg (by omega),if_neg fun h=>em h.2,hT m g1 g2]
          ·exact absurd k2 h3
         ·refine Wk ?_
          intro _
          refine⟨_,List.Sublist.refl _,hcl S _ (V p) (Ls p) SV _ (fun _ _=>rfl) hA hSl (fun m g1 g2 => ?_) (by rw[hset])⟩
          rw[hT m g1 g2,sst m,if_neg fun h=>k2 h.1]
        ·rintro vs L7 - ⟨hV,rfl⟩
         simp only[go_sem]
         obtain⟨V,Ls,SV,hP,hA,hSl,hT,hcl⟩:=hV.open hp
         refine AWp.perm hP (AWp.nodup fun hnd => ?_)
         obtain⟨n1,n2,n3⟩:=nd2 hnd
         have hnew:upS S p vec p=S p ++ [vec]:=if_pos rfl
         have hold:∀q,q ≠ p→upS S p vec q=S q:=fun q hq=>if_neg hq
         have hG':Gen ps (upS S p vec):=by rw[← hvec];exact hG.step hrd
         have htot:=totS_up hp (S:=S) vec
         have hmono:g=false→totS ps.length (lenS S0)≤totS ps.length (lenS S):=fun hg=>by rw[(hf hg).1];exact Nat.le_refl _
         have hfin:totS ps.length (lenS S0)<totS ps.length (lenS (upS S p vec)):=by
          rw[htot]
          cases hg:g with
          | true=>have:=ht hg;omega
          | false=>have:=hmono hg;omega
         have hlen':(upS S p vec p).length=(S p).length+1:=by rw[hnew];simp
         rcases hA.inv with ⟨e1,e2,e3⟩|⟨b,cap,e2,e3⟩
         ·have hgd:((List.range ps.length).map V).getD p .any=anil:=by rw[map_range_getD hp,e2]
          rw[e3] at n3 ⊢
          refine Sd ?_
          refine AWp.of ?_;simp only[go_sem,hgd,n1,n2,List.length_range]
          refine Sd ?_
          intro b' cap' g1 g2 g3 g4
          have nb:¬bo=b':=by omega
          have hS0:S p=[]:=by simpa using e1
          simp only[go_sem,nb,hgd,List.length_range]
          refine Sd ?_
          repeat(first|((with_reducible refine AWp.ofC ?_ ?_);exact rfl;simp only[go_sem,hgd,nb,n1,n2,List.length_range])|((with_reducible refine an ?_ ?_);exact Au))
          refine⟨rfl,_,List.Sublist.refl _,1000000 - (upS S p vec p).length,by omega,upS S p vec,true,rfl,hcl (upS S p vec) _ (.ls b' 1 0 1 cap') [(b',.row 25 1 [aInts vec] cap')] SV _ hold ?_ hSl hT ?_,hG',fun h=>(by cases h),fun _=>hfin,rfl⟩
          ·rw[hnew,hS0];exact .row _ [_] _
          ·exact List.perm_append_comm_assoc [_] [_,_] _
         ·have hgd:((List.range ps.length).map V).getD p .any = .ls b 1 0 (S p).length cap:=by rw[map_range_getD hp,e2,List.length_map]
          rw[e3] at n3 ⊢
          obtain⟨⟨n4,n5⟩,n6,n7⟩:=n3 (b,_) (List.mem_append_left _ (List.mem_singleton_self _))
          refine Sd ?_
          refine AWp.of ?_;simp only[go_sem,hgd,n1,n2,n4,n5,n6,n7,List.length_range]
          refine Sd ?_
          intro b' cap' g1 g2 g3 g4
          simp only[go_sem,g2,hgd,List.length_range]
          refine Sd ?_
          repeat(first|((with_reducible refine AWp.ofC ?_ ?_);exact rfl;simp only[go_sem,hgd,g2,n1,n2,List.length_range])|((with_reducible refine an ?_ ?_);exact Au))
          refine⟨rfl,_,List.Sublist.refl _,1000000 - (upS S p vec p).length,by omega,upS S p vec,true,rfl,hcl (upS S p vec) _ (.ls b' 1 0 ((S p).length+1) cap') [(b',.row 25 1 ((S p).map aInts ++ [aInts vec]) cap')] SV _ hold ?_ hSl hT ?_,hG',fun h=>(by cases h),fun _=>hfin,rfl⟩
          ·rw[hnew,List.map_append]
           have:=AppSt.row (t:=25) (k:=1) b' ((S p).map aInts ++ [aInts vec]) cap'
           simpa using this
          ·exact List.perm_append_comm_assoc [_] [_,_] _
    ·refine⟨rfl,_,List.Sublist.refl _,S,g,rfl,hV,hG,fun hg => ?_,ht⟩
     obtain⟨e1,e2⟩:=hf hg
     refine⟨e1,fun q hq => ?_⟩
     by_cases e:q=p
     ·subst e
      intro hr
      have:=hr.2.1
      rw[nev_get hp] at this
      simp only[lenS] at this
      omega
     ·exact e2 q (by omega)
  ·rintro vs L' - ⟨S,g,rfl,hV,hG,hf,ht⟩
   simp only[go_sem]
   refine⟨_,List.Sublist.refl _,_,?_,S,g,rfl,hV,hG,fun hg q => ?_,rfl⟩
   ·have hb:=hB S hG
    cases g with
    | true=>have:=ht rfl;rw[hm,h1];simp only[if_true];omega
    | false =>
     obtain⟨rfl,_⟩:=hf rfl
     rw[hm,h1];simp
   ·by_cases hq:q<ps.length
    ·exact(hf hg).2 q hq
    ·exact fun hr=>hq hr.1
 ·have hst:=stampF_eq hG0 (hno0 h1)
  obtain⟨V,Ls,SV,hP,hA,hSl,hT⟩:=hV0
  refine AWp.nodup fun hnd => ?_
  have hnd':((famL ps.length Ls).map (·.1)).Nodup:=by
   have:=(hP.map (·.1)).nodup_iff.1 hnd
   simp only[List.map_cons,List.nodup_cons] at this
   exact this.2.2
  refine AWp.viewP (Lf:=famL ps.length Ls) (Lk:=[(bs,.row 25 1 SV 200),(bo,.row 72 1 ((List.range ps.length).map V) ps.length)]) (hP.trans (List.perm_append_comm (l₁:=[_,_]))) (.drop (.row (fam_views hnd' hA) .nil)) [] (by simp) ?_
  simp only[go_sem]
  refine Wk ?_
  refine ret_view [true] ?_;simp only[go_sem]
  rw[hst]
  rw[List.map_map]
  exact Vw.ofLs (if_pos rfl) (by simp)
noncomputable def aStamps (ps:List Pr):AV:=if validF ps then .tup [aRows3 ((List.range ps.length).map (stampF ps)),ai 0] else .tup [.sl 1 [],ai 1]
theorem vector_Stamps (ps:List Pr) (hs:Sm ps):PC Proofs.Tryz.prog 31 [aTr ps] (aStamps ps):=by
 refine PC.enter 9 [.tmp 2,.tmp 3] [1] Proofs.Tryz.func31 rfl rfl rfl rfl rfl (by simp) (AWp.of ?_);simp only[go_sem]
 refine Wk ?_
 refine Sd ?_
 refine(trace_Valid ps hs).val.use ?_;simp only[go_sem]
 unfold aStamps
 cases hv:validF ps with
 | true =>
  refine Wk ?_
  refine Sd ?_
  refine(vector_stamps ps hs hv).val.use ?_;simp only[go_sem]
  refine Wk ?_
  refine ret_eq ?_;simp only[go_sem]
 | false =>
  refine Wk ?_
  refine ret_view [] ?_;simp only[go_sem]
  exact .mkTup (Vws.cons (.nil 1) (Vws.refl _))
theorem Vws.set {L:AHeap} {xs ys:List AV} {a b:AV} (h:Vws L xs ys) (hab:Vw L a b) (i:Nat):Vws L (xs.set i a) (ys.set i b):=by
 refine⟨by rw[List.length_set,List.length_set];exact h.1,fun j x y hx hy => ?_⟩
 rw[List.getElem?_set] at hx hy
 by_cases e:i=j
 ·subst e
  rw[if_pos rfl] at hx hy
  split at hx
  ·split at hy
   ·cases hx;cases hy;exact hab
   ·cases hy
  ·cases hx
 ·rw[if_neg e] at hx hy;exact h.2 j x y hx hy
def badP (n:Nat) (p:Int):Bool:=decide (p<0) || decide ((n:Int)≤p)
open Classical in
noncomputable def aPeak (ps:List Pr) (order:List Int):AV :=
 if validF ps=false then .tup [ai 0,ai 1] else if order.any (badP ps.length)=true then .tup [ai 0,ai 2] else if RunOk ps order order.length then .tup [ai (peakF ps order order.length),ai 0] else .tup [ai 0,ai 11]
end Go.AL
end
section
namespace Go.AL
open Go Go.RowKit
set_option maxRecDepth 4000
theorem ref13_EventsW (ps:List Pr) (hpl:ps.length≤9223372036854775807) (hev:∀p ∈ ps,p.evs.length≤9223372036854775807):PC Proofs.Tryz.prog 35 [aTr ps] (ai (smW ps ps.length)):=by
 refine PC.enter 22 [.tmp 2] [1] Proofs.Tryz.func35 rfl rfl rfl rfl rfl (by simp) (AWp.of ?_);simp only[go_sem]
 refine Wk ?_
 refine AWp.block (AWp.count 4 ps.length [3] [1] (fun p vs L=>L=[]∧vs=[ai (smW ps p)]) rfl rfl ⟨rfl,rfl⟩ ?_)
 rintro p vs L hp - ⟨rfl,rfl⟩
 simp only[go_sem]
 refine Wk ?_
 refine⟨fun h1 => ?_,fun h1 => ?_⟩
 ·have hpp:p<ps.length:=by omega
  have hg:=getD_map (f:=aPr) hpp
  have hel:=hev _ (List.getElem_mem hpp)
  have hsw:smW ps (p+1)=addW (smW ps p) ps[p].evs.length:=by rw[← nev_get hpp];rfl
  have hin:=smW_in ps p
  have hin2:=smW_in ps (p+1)
  rw[hsw] at hin2
  repeat(first|(with_reducible refine AWp.seq ?_)|(with_reducible refine AWp.block ?_))
  refine AWp.regionW ?_
  simp only[go_sem,hg]
  refine Sd ?_
  refine Wk ?_
  exact⟨_,List.Sublist.refl _,rfl,by rw[hsw]⟩
 ·have:p=ps.length:=by omega
  subst this
  refine Wk ?_
  refine ret_eq ?_;simp only[go_sem]
def grP (x:Pr):Bool:=decide (20<(x.vars.length:Int)) || x.evs.any asg20
def grF (ps:List Pr) (m:Int):Bool:=decide (m<smW ps ps.length) || (decide (10<(ps.length:Int)) || ps.any grP)
theorem vd_cases {ps:List Pr} (h1:ps.length≤1000000) (h3:∀p ∈ ps,p.vars.length≤1000000∧∀e ∈ p.evs,e.asg.length≤1000000):Vd ps:=by
 by_cases hb:∃p,∃h:p<ps.length,64<ps[p].evs.length
 ·obtain⟨p,hp,hb⟩:=hb
  have h:Smh ps:=⟨by omega,fun p hp=>(h3 p hp).1⟩
  have hb:∃p,p<ps.length∧procF ps p ≠ 0:=⟨p,hp,procF_evs hp hb⟩
  exact⟨trace_ValidB ps h hb,ref12_ValidB ps h hb,fun hv=>absurd hv (by rw[valid_bad hb];simp),.inr (valid_bad hb)⟩
 ·have h:Sm ps:=by
   refine⟨by omega,fun p hp => ?_,fun p hp=>(h3 p hp).1,fun p hp e he=>(h3 p hp).2 e he⟩
   obtain⟨i,hi,rfl⟩:=List.getElem_of_mem hp
   apply Classical.byContradiction
   intro h4
   exact hb ⟨i,hi,by omega⟩
  exact⟨trace_Valid ps h,ref12_Valid ps h,fun _=>h,.inl h⟩
theorem gr_vd {ps:List Pr} {m:Int} (h:grF ps m=false):Vd ps:=by
 unfold grF grP at h
 simp only[Bool.or_eq_false_iff,decide_eq_false_iff_not,List.any_eq_false] at h
 refine vd_cases (by omega) fun p hp => ?_
 have h2:=h.2.2 p hp
 simp only[Bool.or_eq_true,decide_eq_true_eq,not_or,List.any_eq_true,not_exists,not_and] at h2
 refine⟨by omega,fun e he => ?_⟩
 have:=h2.2 e he
 unfold asg20 at this
 simp at this
 omega
theorem top_Great11 (e:Ev):PC Proofs.Tryz.prog 39 [aEv e] (ab (asg20 e)):=by
 refine PC.enter 7 [.tmp 2] [1] Proofs.Tryz.func39 rfl rfl rfl rfl rfl (by simp) (AWp.of ?_);simp only[go_sem]
 refine Wk ?_
 refine ret_eq ?_;simp only[go_sem]
 rfl
theorem top_Great1 (x:Pr) (hel:x.evs.length≤9223372036854775807):PC Proofs.Tryz.prog 37 [aPr x] (ab (grP x)):=by
 have hcf:=events_containsFuncB x.evs hel (.v (.func (.func 39) #[] #[])) rfl asg20 fun e _=>(top_Great11 e).val
 unfold grP
 refine PC.enter 12 [.tmp 2] [1] Proofs.Tryz.func37 rfl rfl rfl rfl rfl (by simp) (AWp.of ?_);simp only[go_sem]
 refine Wk ?_
 refine Sd ?_
 refine Gc hcf ?_
 refine Sd ?_
 refine Wk ?_
 refine ret_eq ?_;simp only[go_sem]
theorem top_Great (ps:List Pr) (m:Int) (hpl:ps.length≤9223372036854775807) (hev:∀p ∈ ps,p.evs.length≤9223372036854775807):PC Proofs.Tryz.prog 5 [aTr ps,ai m] (ab (grF ps m)):=by
 have h1:=ref13_EventsW ps hpl hev
 have hcf:ps.length≤1000000→PC Proofs.Tryz.prog 36 [.sl 3 (ps.map aPr),.v (.func (.func 37) #[] #[])] (ab (ps.any grP)):=fun hl=>procs_containsFunc ps hl (.v (.func (.func 37) #[] #[])) rfl grP fun x hx=>(top_Great1 x (hev x hx)).val
 have hTr:aTr ps = .agg [.sl 3 (ps.map aPr)]:=rfl
 unfold grF
 rw[hTr] at h1 ⊢
 generalize smW ps ps.length=z at *
 generalize ps.any grP=y at *
 refine PC.enter 20 [.tmp 4] [2] Proofs.Tryz.func5 rfl rfl rfl rfl rfl (by simp) (AWp.of ?_);simp only[go_sem]
 refine Wk ?_
 refine Sd ?_
 refine(h1).val.use ?_;simp only[go_sem]
 refine GCall.use (ab y) (fun hg=>⟨At,(hcf (by have:=hg;simp at this;omega)).val.use ⟨rfl,rfl⟩⟩) ?_
 simp only[go_sem]
 refine Sd ?_
 refine Wk ?_
 refine ret_eq ?_;simp only[go_sem]
 rw[Bool.or_assoc]
def psP2:List Pr:=[⟨⟨#[112]⟩,[],[⟨2,1,0,0,[]⟩]⟩,⟨⟨#[113]⟩,[],[⟨3,0,0,0,[]⟩]⟩]
theorem psP2_valid:validF psP2=true:=by
 unfold validF faultF
 rw[if_neg (by decide),show procFirst psP2=none from rfl,show evFirst psP2=none from rfl,show msgF psP2=none from rfl,cycF_rank (fun x=>x.1) (by decide)]
 rfl
theorem psP2_sm:Sm psP2:=⟨by decide,by decide,by decide,by decide⟩
theorem psP2_cuts:cutsF psP2=[[0,0],[1,0],[1,1]]:=by rfl
theorem psP2_zero:lstE psP2=0:=lst_zero.2 ⟨psP2_valid,by rw[psP2_cuts];decide⟩
theorem top_Pair:PC Proofs.Tryz.prog 32 [] (aTr psP2):=by
 refine PC.enter 9 [.cell 0 24] [2,5,7] Proofs.Tryz.func32 rfl rfl rfl rfl rfl (by simp) (AWp.of ?_);simp only[go_sem]
 refine Wk ?_
 intro b0
 refine Wk ?_
 refine ret_view [] ?_;simp only[go_sem]
 repeat(first|exact Vw.refl _|exact Vws.nil|exact Vw.nil _|refine Vws.cons ?_ ?_|refine Vw.mkAgg ?_|refine Vw.mkSl ?_)
theorem psP2_stamps:(List.range psP2.length).map (stampF psP2)=[[[1,0]],[[1,1]]]:=by
 have g0:Gen psP2 (fun _=>[]):=.init
 have g1:=Gen.step (p:=0) g0 (by decide)
 have g2:=Gen.step (p:=1) g1 (by decide)
 rw[stampF_eq g2 fun p hp=>by
  match p,hp with
  | 0,hp=>exact absurd hp (by decide)
  | 1,hp=>exact absurd hp (by decide)
  | p+2,hp=>exact absurd hp.1 (by show ¬p+2<2;omega)]
 rfl
theorem top_awake:PC Proofs.Tryz.prog 4 [] (ab true):=by
 have h1:=vector_Stamps psP2 psP2_sm
 have h2:=cuts_List psP2 psP2_sm
 have e1:aLst psP2 = .tup [aRows [[0,0],[1,0],[1,1]],ai 0]:=by unfold aLst lstF;rw[psP2_zero,if_pos rfl,psP2_cuts]
 have e2:aStamps psP2 = .tup [.sl 1 [.sl 1 [.sl 1 [ai 1,ai 0]],.sl 1 [.sl 1 [ai 1,ai 1]]],ai 0]:=by unfold aStamps;rw[psP2_valid,psP2_stamps];rfl
 rw[e1] at h2
 rw[e2] at h1
 have h3:=ints_equal [1,1] [1,1] (by decide)
 rw[decide_eq_true rfl] at h3
 change PC _ _ [.sl 1 [ai 1,ai 1],.sl 1 [ai 1,ai 1]] _ at h3
 refine PC.enter 47 [.tmp 0] [35] Proofs.Tryz.func4 rfl rfl rfl rfl rfl (by simp) (AWp.of ?_);simp only[go_sem]
 refine Wk ?_
 refine Sd ?_
 refine(top_Pair).val.use ?_;simp only[go_sem]
 refine Sd ?_
 refine(h1).val.use ?_;simp only[go_sem]
 refine Wk ?_
 refine Sd ?_
 refine(top_Pair).val.use ?_;simp only[go_sem]
 refine Sd ?_
 refine(h2).val.use ?_;simp only[go_sem]
 have e3:((2:Nat):Int)=2:=rfl
 have e4:((1:Nat):Int)=1:=rfl
 have e5:((3:Nat):Int)=3:=rfl
 refine W3 e3 e4 e5 ?_
 refine Sd ?_
 refine GCall.use (ab true) (fun _=>⟨At,(h3).val.use ⟨rfl,rfl⟩⟩) ?_;simp only[go_sem,e3,e4,e5]
 refine Sd ?_
 refine Wk ?_
 refine ret_eq ?_;simp only[go_sem]
def setC (ps:List Pr) (c:List Int) (j:Nat):Bool:=decide ((evE ps j).2≤cAt c (evE ps j).1)
theorem setC_at {ps:List Pr} {c:List Int} {p i:Nat} (hp:p<ps.length) (hi:i<ps[p].evs.length):setC ps c (off ps p+i)=decide ((i:Int)+1≤cAt c p):=by
 unfold setC
 rw[evE_at hp hi]
def setL (ps:List Pr) (c:List Int) (k:Nat):List Nat:=(List.range k).filter (setC ps c)
theorem setL_in {ps:List Pr} {c:List Int} {p i:Nat} (hp:p<ps.length) (hi:i<ps[p].evs.length) (hc:(i:Int)<cAt c p):setL ps c (off ps p+(i+1))=setL ps c (off ps p+i) ++ [off ps p+i]:=by
 unfold setL
 rw[show off ps p+(i+1)=off ps p+i+1 by omega,List.range_succ,List.filter_append,List.filter_cons_of_pos (by rw[setC_at hp hi];exact decide_eq_true (by omega))]
 rfl
theorem setL_out {ps:List Pr} {c:List Int} {p:Nat} (hp:p<ps.length) {i:Nat} (hc:cAt c p≤i):∀d,i+d≤ps[p].evs.length→setL ps c (off ps p+(i+d))=setL ps c (off ps p+i)
 | 0,_=>rfl
 | d+1,h=>by
  have ih:=setL_out hp hc d (by omega)
  unfold setL at ih ⊢
  rw[show off ps p+(i+(d+1))=off ps p+(i+d)+1 by omega,List.range_succ,List.filter_append,ih,List.filter_cons_of_neg (by rw[setC_at hp (by omega),decide_eq_true_iff];omega)]
  simp
theorem top_Set (ps:List Pr) (hs:Sm ps) (hv:validF ps=true) (c:List Int) (hcl:c.length=ps.length) (hcr:inRangeF ps c=true):PC Proofs.Tryz.prog 9 [aTr ps,aInts c] (.tup [aNs (off ps ps.length) (setC ps c),ab true]):=by
 have hps:=hs.procs
 have hoff:=valid_off hv
 have hir:=(inRange_iff hcl).1 hcr
 have hnum:=fun p i hp hi=>causality_Number ps hs hv p i hp hi
 have hE:=ref13_Events ps hs
 have hOf:=bits_Of (off ps ps.length) hoff (setC ps c)
 change PC _ _ [_,.sl 1 ((setL ps c (off ps ps.length)).map fun j:Nat=>ai j)] (.tup [aNs (off ps ps.length) (setC ps c),ai 0]) at hOf
 have hlm:(c.map ai).length=c.length:=List.length_map _
 have hcI:aInts c = .sl 1 (c.map ai):=rfl
 have hsl:∀k,(setL ps c k).length≤k:=fun k=>by
  unfold setL
  exact Nat.le_trans (List.length_filter_le _ _) (by rw[List.length_range];exact Nat.le_refl _)
 rw[hcI]
 simp only[aNs_wd] at *
 generalize wdV (off ps ps.length) (setC ps c)=W at *
 refine PC.enter 53 [.cell 4 38,.tmp 5] [2,12,39] Proofs.Tryz.func9 rfl rfl rfl rfl rfl (by simp) (AWp.of ?_);simp only[go_sem]
 refine Wk ?_
 intro b4
 refine W1 hlm ?_
 refine AWp.range' c.length [6] [2,4,14,15] (fun p vs L=>∃v Ln,vs=[v]∧L=Ln ++ [(b4,.row 38 2 [.agg [ai 0,anil]] 1)]∧AppSt 3 1 ((setL ps c (off ps p)).map fun j:Nat=>ai j) v Ln) (by omega) rfl rfl rfl ⟨anil,[],rfl,rfl,.nil⟩ ?_ ?_
 ·rintro p vs L hpc - ⟨v,Ln,rfl,rfl,hA⟩
  have hp:p<ps.length:=by omega
  have hgc:=getD_map (f:=ai) hpc
  have hca:=cAt_nat hpc
  obtain⟨k,hk⟩:∃k:Nat,c[p]=(k:Int):=⟨c[p].toNat,by have:=(hir p hp).1;omega⟩
  rw[hk] at hgc hca
  have hkl:k≤ps[p].evs.length:=by have:=(hir p hp).2;omega
  have hof:=off_succ hp
  have hel:=hs.evs _ (List.getElem_mem hp)
  have hfo:=hA.fo
  simp only[go_sem]
  refine W2 hgc hfo ?_
  refine AWp.range' k [6] [2,4,7,14,15,16,21] (fun i vs L=>∃v Ln,vs=[v]∧L=Ln ++ [(b4,.row 38 2 [.agg [ai 0,anil]] 1)]∧AppSt 3 1 ((setL ps c (off ps p+i)).map fun j:Nat=>ai j) v Ln) (by omega) rfl rfl rfl ⟨v,Ln,rfl,rfl,hA⟩ ?_ ?_
  ·rintro i vs L hi - ⟨v,Ln,rfl,rfl,hA⟩
   have hil:i<ps[p].evs.length:=by omega
   have hn:=hnum p i hp (by rw[nev_get hp];exact hil)
   have e1:aEid ((p:Int),(i:Int)+1) = .agg [ai p,ai ((i:Int)+1)]:=rfl
   rw[e1] at hn
   have hsi:=setL_in (c:=c) hp hil (by omega)
   have hyl:=hsl (off ps p+i)
   have hos:=off_small hs p (by omega)
   rw[hsi,List.map_append]
   have hyl2:((setL ps c (off ps p+i)).map fun j:Nat=>ai (j:Int)).length≤off ps p+i:=by rw[List.length_map];exact hyl
   generalize (setL ps c (off ps p+i)).map (fun j:Nat=>ai (j:Int))=ys at *
   have hfo:=hA.fo
   refine AWp.nodup fun hnd => ?_
   simp only[go_sem]
   refine W1 hfo ?_
   refine Sd ?_
   refine(hn).val.use ?_;simp only[go_sem,hfo]
   refine W1 hfo ?_
   rcases hA.inv with ⟨e2,rfl,rfl⟩|⟨bq,cq,rfl,rfl⟩
   ·simp only[go_sem,List.nil_append]
    refine Wk ?_
    intro b' cap'
    intros
    exact⟨_,List.Sublist.refl _,_,[_],rfl,rfl,by rw[e2];exact .row _ [_] _⟩
   ·have n1:¬bq=b4:=by simpa using hnd
    have n2:¬b4=bq:=fun e=>n1 e.symm
    simp only[go_sem,List.cons_append,List.nil_append,n1,n2]
    refine W2 n1 n2 ?_
    refine Sd ?_
    intro b' cap'
    intros
    exact⟨_,List.Sublist.refl _,_,[_],rfl,rfl,AppSt.snoc _ _ _ rfl⟩
  ·rintro vs L - ⟨v,Ln,rfl,rfl,hA⟩
   have ho:=setL_out (c:=c) hp (i:=k) (by omega) (ps[p].evs.length - k) (by omega)
   rw[show k+(ps[p].evs.length - k)=ps[p].evs.length by omega,← hof] at ho
   rw[← ho] at hA
   have hfo:=hA.fo
   simp only[go_sem,hfo]
   refine W1 hfo ?_
   exact⟨_,List.Sublist.refl _,_,Ln,rfl,rfl,hA⟩
 ·rintro vs L - ⟨v,Ln,rfl,rfl,hA⟩
  rw[hcl] at hA
  rcases hA.inv with ⟨e3,rfl,rfl⟩|⟨bq,cq,rfl,rfl⟩
  ·rw[e3] at hOf
   have hOf:=PC.nilB hOf
   simp only[go_sem,List.nil_append]
   refine Wk ?_
   refine Sd ?_
   refine(hE).val.use ?_;simp only[go_sem]
   refine Sd ?_
   refine(hOf).val.use ?_;simp only[go_sem]
   intros
   refine Wk ?_
   refine ret_eq ?_;simp only[go_sem]
  ·generalize (setL ps c (off ps ps.length)).map (fun j:Nat=>ai (j:Int))=ys at *
   refine AWp.perm (L':=[(b4,.row 38 2 [.agg [ai 0,anil]] 1)] ++ [(bq,.row 3 1 ys cq)]) List.perm_append_comm ?_
   refine AWp.viewA (AppSt.row (t:=3) bq ys cq) (j:=6) rfl ?_
   simp only[go_sem]
   refine Wk ?_
   refine Sd ?_
   refine(hE).val.use ?_;simp only[go_sem]
   refine Sd ?_
   refine(hOf).val.use ?_;simp only[go_sem]
   intros
   refine Wk ?_
   refine ret_eq ?_;simp only[go_sem]
end Go.AL
end
