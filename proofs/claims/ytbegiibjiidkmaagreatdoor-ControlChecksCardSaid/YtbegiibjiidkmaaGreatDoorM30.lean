/- Texts of this claim's proof: WY26, WY27, WY28, WY37, WY38, WY40, WY29. No condition. -/
import Derived.Test.YtbegiibjiidkmaaGreatDoorM29
import Derived.Test.YtbegiibjiidkmaaGreatDoorM22
import Derived.Test.YtbegiibjiidkmaaGreatDoorM27
import Derived.Test.YtbegiibjiidkmaaGreatDoorM28
import Derived.Test.YtbegiibjiidkmaaGreatDoorM16
import Derived.Test.YtbegiibjiidkmaaGreatDoorM19
section
namespace Go.AL
open Go Go.RowKit Proofs.Tryz
set_option maxRecDepth 4000
def dirB (ps:List Pr)(l:List Syn)(i j:Nat):Bool:=decide (evE ps i ∈ dirK ps l j)
def tabV (n:Nat)(f:Nat->Nat->Bool):AV:=.sl 1 ((List.range n).map fun i=>.sl 1 (bRow n (f i)))
def tabX (ps:List Pr)(l:List Syn):Nat->Nat->Bool:=warF (off ps ps.length) (dirB ps l)
def upto (f:Nat->Bool)(j:Nat):Nat->Bool:=fun y=>decide (y<j) && f y
theorem FamS.fo {tO tI:TypeId}{k n:Nat}{Y:Nat->List AV}{v:AV}{L:AHeap}(h:FamS tO tI k n Y v L):fo v=(True,v):=by
 obtain⟨Lv,V,Ls,_,hA,_⟩:=h
 exact hA.fo
theorem evE_inj {ps:List Pr}{i j:Nat}(hi:i<off ps ps.length)(hj:j<off ps ps.length)(h:evE ps i=evE ps j):i=j:=by
 obtain⟨p,a,hp,ha,rfl⟩:=num_form ps.length (Nat.le_refl _) hi
 obtain⟨q,b,hq,hb,rfl⟩:=num_form ps.length (Nat.le_refl _) hj
 rw[evE_at hp ha,evE_at hq hb,Prod.mk.injEq] at h
 have:p=q:=by omega
 subst this
 omega
theorem off_lt {ps:List Pr}{p i:Nat}(hp:p<ps.length)(hi:i<ps[p].evs.length):off ps p+i<off ps ps.length:=by
 have:=off_le hp;omega
theorem dirB_snoc {ps:List Pr}{l:List Syn}{s:Syn}{p i q j:Nat}(hp:p<ps.length)(hi:i<ps[p].evs.length)(hq:q<ps.length)(hj:j<ps[q].evs.length)
  (h1:s.1=((p:Int),(i:Int)+1)) (h2:s.2=((q:Int),(j:Int)+1)) {x y:Nat} (hx:x<off ps ps.length) :
  dirB ps (l ++ [s]) x y=if x=off ps p+i/\y=off ps q+j then true else dirB ps l x y:=by
 have hd:=dirK_snoc (l:=l) (s:=s) hq hj h2 y
 have hio:=off_lt hp hi
 unfold dirB
 rw[hd]
 by_cases e:y=off ps q+j
 ·rw[if_pos e]
  by_cases e2:x=off ps p+i
  ·rw[if_pos ⟨e2,e⟩,e2,evE_at hp hi,h1,decide_eq_true]
   simp
  ·rw[if_neg (fun h=>e2 h.1)]
   refine decide_eq_decide.2 ?_
   rw[List.mem_append,List.mem_singleton,h1,<- evE_at hp hi]
   refine⟨fun h=>h.elim id fun h=>absurd (evE_inj hx hio h) e2,.inl⟩
 ·rw[if_neg e,if_neg (fun h=>e h.2),List.append_nil]
theorem ref13_EventE (ps:List Pr)(hs:Sm ps){k:Nat}(hk:k<off ps ps.length):PC prog 128 [aTr ps,ai k] (aEid (evE ps k)):=by
 obtain⟨p,i,hp,hi,rfl⟩:=num_form ps.length (Nat.le_refl _) hk
 rw[evE_at hp hi]
 exact ref13_Event ps hs hp (by rw[nev_get hp];exact hi)
theorem ref13_DirectE (ps:List Pr)(hs:Sm ps)(hv:validF ps=true){i j:Nat}(hi:i<off ps ps.length)(hj:j<off ps ps.length):PC prog 129 [aTr ps,aEid (evE ps i),aEid (evE ps j)] (ab (dirB ps [] i j)):=by
 obtain⟨p,a,hp,ha,rfl⟩:=num_form ps.length (Nat.le_refl _) hi
 obtain⟨q,b,hq,hb,rfl⟩:=num_form ps.length (Nat.le_refl _) hj
 have:=ref13_Direct ps hs hv hp ha hq hb
 unfold dirB
 rw[dirK_at hq hb,dirX_nil,evE_at hp ha,evE_at hq hb]
 exact this
set_option maxHeartbeats 2000000 in
theorem ref44_table (ps:List Pr)(hs:Sm ps)(hv:validF ps=true)(l:List Syn)(hl:SynOk ps l)(hll:l.length<=1000000):PC prog 79 [aTr ps,.sl 4 (l.map aSyn)] (tabV (off ps ps.length) (tabX ps l)):=by
 have h1:=ref13_Events ps hs
 have hN:=valid_off hv
 have hEv:=fun k (hk:k<off ps ps.length)=>ref13_EventE ps hs hk
 have hDi:=fun i j (hi:i<off ps ps.length) (hj:j<off ps ps.length)=>ref13_DirectE ps hs hv hi hj
 have hoff:=@off_lt ps
 have hNum:=fun p i (hp:p<ps.length) (hi:i<ps[p].evs.length)=>ref13_Number ps hs hp (show i<nev ps p by rw[nev_get hp];exact hi)
 have hsnoc:=@dirB_snoc ps
 have hT:tabX ps l=warF (off ps ps.length) (dirB ps l):=rfl
 rw[hT]
 clear hT
 generalize off ps ps.length=N at *
 have hSL:∃SL,SL=l.map aSyn:=⟨_,rfl⟩
 obtain⟨SL,hSL⟩:=hSL
 have hSLl:SL.length=l.length:=by rw[hSL,List.length_map]
 rw[<- hSL]
 refine PE 116 [.tmp 4] [2,9,43] func79 ?_;simp only[go_sem]
 refine Wk ?_
 refine Sd ?_
 refine Vu h1 ?_
 refine Wk ?_
 refine AWp.block (AWp.count 7 N [6] [1,2,5] (fun i vs L=>∃v,vs=[v]/\FamS 87 4 1 i (fun i=>bRow N (dirB ps [] i)) v L) rfl rfl ⟨anil,rfl,.nil _⟩ ?_)
 rintro i vs L hi - ⟨v,rfl,hF⟩
 have hfo:=hF.fo
 simp only[go_sem]
 refine W1 hfo ?_
 constructor<;>intro h
 ·have hiN:i<N:=by omega
  have h2:=hEv i hiN
  have h3:=fun j hj=>hDi i j hiN hj
  obtain⟨x1,x2,hx⟩:∃x1 x2,evE ps i=(x1,x2):=⟨_,_,rfl⟩
  rw[hx] at h2 h3
  change PC _ _ _ (.agg [ai x1,ai x2]) at h2
  change ∀j,j<N->PC _ _ [_,.agg [ai x1,ai x2],_] _ at h3
  refine W1 hfo ?_
  intro b8 g8
  refine W1 hfo ?_
  refine Sd ?_
  refine Vu h2 ?_
  refine W1 hfo ?_
  intro b9 g9 g10
  clear g9 g10
  refine W1 hfo ?_
  refine AWp.block (AWp.count 10 N [] [1,2,5,6,7,8,9] (fun j vs L'=>L'=(b8,.row 4 1 (bRow N (upto (dirB ps [] i) j)) N) :: L) rfl rfl ?_ ?_)
  ·have:upto (dirB ps [] i) 0=fun _=>false:=by funext y;simp [upto]
   rw[this,bRow_fill]
  rintro j vs L' hj - rfl
  simp only[go_sem]
  refine W1 hfo ?_
  constructor<;>intro h4
  ·have hjN:j<N:=by omega
   have h5:=hEv j hjN
   have h6:=h3 j hjN
   have hset:bRow N (upto (dirB ps [] i) (j+1))=(bRow N (upto (dirB ps [] i) j)).set j (ab (dirB ps [] i j)):=by
    rw[bRow_set (f:=upto (dirB ps [] i) j) (j:=j) fun y hy=>?_]
    ·congr 2;simp [upto]
    ·unfold upto
     have:decide (y<j+1)=decide (y<j):=by rw[decide_eq_decide];omega
     rw[this]
   have hbl:=bRow_len (n:=N) (f:=upto (dirB ps [] i) j)
   have hbg:=bRow_get (n:=N) (f:=upto (dirB ps [] i) j) hjN
   generalize bRow N (upto (dirB ps [] i) j)=ys at *
   generalize dirB ps [] i j=bb at *
   obtain⟨y1,y2,hy⟩:∃y1 y2,evE ps j=(y1,y2):=⟨_,_,rfl⟩
   rw[hy] at h5 h6
   change PC _ _ _ (.agg [ai y1,ai y2]) at h5
   change PC _ _ [_,_,.agg [ai y1,ai y2]] _ at h6
   refine Sq ?_
   refine AWp.mix mixed [0,1,2,3,4,5,6,7] (.step 8 (.step 9 .done .done) .done) (by kernel_rfl) ?_;simp only[go_sem,hbl,hbg]
   refine Sd ?_
   refine GCall.use (.agg [ai y1,ai y2]) (fun _=>⟨At,(h5).val.use ⟨rfl,rfl⟩⟩) ?_;simp only[go_sem,hbl,hbg]
   refine Sd ?_
   refine GCall.use (ab bb) (fun _=>⟨At,(h6).val.use ⟨rfl,rfl⟩⟩) ?_;simp only[go_sem,hbl,hbg]
   refine Sd ?_
   refine W2 hbl hbg ?_
   exact⟨_,.refl _,by rw[hset]⟩
  ·have:N=j:=by omega
   subst this
   have hu:bRow N (upto (dirB ps [] i) N)=bRow N (dirB ps [] i):=bRow_congr fun y hy=>by simp [upto,hy]
   rw[hu]
   clear hu
   obtain⟨Lv,V,Ls,hP,hA,hFr⟩:=hF
   have hPP:((b8,ABlk.row 4 1 (bRow N (dirB ps [] i)) N) :: L).Perm (Lv ++ ([(b8,ABlk.row 4 1 (bRow N (dirB ps [] i)) N)] ++ famL i Ls)):=(hP.cons _).trans (by simpa using (List.perm_middle (l₁:=Lv) (l₂:=famL i Ls) (a:=(b8,ABlk.row 4 1 (bRow N (dirB ps [] i)) N))).symm)
   refine AWp.perm hPP ?_
   have hyl:((List.range i).map V).length=i:=by simp
   have hys:∃ys,ys=(List.range i).map V:=⟨_,rfl⟩
   obtain⟨ys,hys⟩:=hys
   rw[<- hys] at hA hyl
   have hx':AppSt 4 1 (bRow N (dirB ps [] i)) (.ls b8 1 0 N N) [(b8,.row 4 1 (bRow N (dirB ps [] i)) N)]:=by
    have:=AppSt.row (t:=4) (k:=1) b8 (bRow N (dirB ps [] i)) N
    rwa [bRow_len] at this
   rcases hA.inv with ⟨e1,rfl,rfl⟩|⟨bo,cap,rfl,rfl⟩
   ·refine Wk ?_
    intro b' cap'
    intros
    refine Wk ?_
    exact⟨_,.refl _,_,rfl,FamS.snoc (n:=i) hFr hx' (by rw[<- hys,e1];exact .row _ _ _) (.refl _)⟩
   ·refine Wk ?_
    refine Sd ?_
    intro b' cap'
    intros
    refine Wk ?_
    exact⟨_,.refl _,_,rfl,FamS.snoc (n:=i) hFr hx' (by rw[<- hys];exact AppSt.snoc _ _ _ rfl) (.refl _)⟩
 ·have:N=i:=by omega
  subst this
  refine W2 hfo hSLl ?_
  refine AWp.block (AWp.count 11 l.length [] [1,2,5,6] (fun k vs L=>vs=[]/\FamS 87 4 1 N (fun i=>bRow N (dirB ps (l.take k) i)) v L) rfl rfl ⟨rfl,by rw[List.take_zero];exact hF⟩ ?_)
  clear hF
  rintro k vs L hk - ⟨rfl,hF⟩
  simp only[go_sem]
  refine W2 hfo hSLl ?_
  constructor<;>intro h4
  ·have hkl:k<l.length:=by omega
   have hgs:SL.getD k .any=aSyn l[k]:=by rw[hSL];exact getD_map hkl
   have hok:=hl l[k] (List.getElem_mem hkl)
   have htk:l.take (k+1)=l.take k ++ [l[k]]:=List.take_succ_eq_append_getElem hkl
   generalize l[k]=s at *
   obtain⟨⟨a,b⟩,c,d⟩:=s
   have hform:∀x:Eid,(0<=x.1/\x.1<ps.length/\1<=x.2/\x.2<=nev ps x.1.toNat)->∃p i:Nat,∃hp:p<ps.length,i<ps[p].evs.length/\x=((p:Int),(i:Int)+1):=fun x hx=>by
    obtain⟨t1,t2,t3,t4⟩:=hx
    have hp:x.1.toNat<ps.length:=by omega
    rw[nev_get hp] at t4
    exact⟨x.1.toNat,x.2.toNat - 1,hp,by omega,by rw[Prod.ext_iff];dsimp only;omega⟩
   obtain⟨p,i,hp,hi,e1⟩:=hform (a,b) hok.1
   obtain⟨q,j,hq,hj,e2⟩:=hform (c,d) hok.2
   have m1:=hNum p i hp hi
   have m2:=hNum q j hq hj
   rw[<- e1] at m1
   rw[<- e2] at m2
   have hx:=hoff hp hi
   have hy:=hoff hq hj
   have hsn:=fun x y (hx:x<N)=>hsnoc (l:=l.take k) (s:=((a,b),(c,d))) hp hi hq hj e1 e2 (x:=x) (y:=y) hx
   rw[<- htk] at hsn
   clear hform hok e1 e2 htk
   generalize off ps p+i=x at *
   generalize off ps q+j=y at *
   change PC _ _ [_,.agg [ai a,ai b]] _ at m1
   change PC _ _ [_,.agg [ai c,ai d]] _ at m2
   have hgs:SL.getD k .any = .agg [ai a,ai b,ai c,ai d]:=hgs
   obtain⟨bo,cap,V,bp,cp,X,rfl,hVl,hVp,hP,hcl⟩:=hF.one hx (bRow_ne hx)
   have hcl2:=hcl (fun z=>if z=x then (bRow N (dirB ps (l.take k) x)).set y (ab true) else bRow N (dirB ps (l.take k) z)) ((bo,.row 87 1 V cap) :: (bp,.row 4 1 ((bRow N (dirB ps (l.take k) x)).set y (ab true)) cp) :: X) (fun z hz=>if_neg hz) (by rw[if_pos rfl,List.length_set]) (by rw[if_pos rfl])
   have hcl3:FamS 87 4 1 N (fun i=>bRow N (dirB ps (l.take (k+1)) i)) (.ls bo 1 0 N cap) ((bo,.row 87 1 V cap) :: (bp,.row 4 1 ((bRow N (dirB ps (l.take k) x)).set y (ab true)) cp) :: X):=by
    refine hcl2.congr fun z hz=>?_
    by_cases e:z=x
    ·rw[if_pos e,e]
     rw[bRow_set (f:=dirB ps (l.take k) x) (j:=y) fun w hw=>by rw[hsn x w hx,if_neg (fun h=>hw h.2)],hsn x y hx,if_pos ⟨rfl,rfl⟩]
    ·rw[if_neg e]
     exact bRow_congr fun w _=>by rw[hsn z w hz,if_neg (fun h=>e h.1)]
   clear hcl hcl2 hF hsn
   have hbl:=bRow_len (n:=N) (f:=dirB ps (l.take k) x)
   have hbg:=bRow_get (n:=N) (f:=dirB ps (l.take k) x) hy
   rw[bRow_len] at hVp
   refine AWp.perm hP (AWp.nodup fun hnd=>?_)
   obtain⟨d1,d2,-⟩:=nd2 hnd
   clear hnd hP
   generalize bRow N (dirB ps (l.take k) x)=ys at *
   refine Sq ?_
   refine AWp.mix mixed [0,1,2,3,4,5,6,7,8,10,11,12,13,14,15,16] (.step 9 (.step 17 (.step 18 .done .done) .done) .done) (by kernel_rfl) ?_;simp only[go_sem,hbl,hbg,hgs,hVl,hVp,d1,d2]
   refine Sd ?_
   refine GCall.use (ai x) (fun _=>⟨At,(m1).val.use ⟨rfl,rfl⟩⟩) ?_;simp only[go_sem,hbl,hbg,hgs,hVl,hVp,d1,d2]
   refine Sd ?_
   refine GCall.use (ai y) (fun _=>⟨At,(m2).val.use ⟨rfl,rfl⟩⟩) ?_;simp only[go_sem,hbl,hbg,hgs,hVl,hVp,d1,d2]
   refine Sd ?_
   refine W2 d1 d2 ?_
   exact⟨_,.refl _,hcl3⟩
  ·have:k=l.length:=by omega
   subst this
   rw[List.take_length] at hF
   refine W1 hfo ?_
   refine AWp.block (AWp.count 12 N [] [5,6] (fun k vs L=>vs=[]/\FamS 87 4 1 N (fun i=>bRow N (warF k (dirB ps l) i)) v L) rfl rfl ⟨rfl,hF⟩ ?_)
   clear hF
   rintro k vs L hk - ⟨rfl,hF⟩
   simp only[go_sem]
   refine W1 hfo ?_
   constructor<;>intro h5
   ·have hkN:k<N:=by omega
    have hnx:warF (k+1) (dirB ps l)=wstep k (warF k (dirB ps l)):=rfl
    generalize hg:warF k (dirB ps l)=g at *
    refine W1 hfo ?_
    refine AWp.block (AWp.count 13 N [] [5,6,12] (fun i vs L=>vs=[]/\FamS 87 4 1 N (fun x=>bRow N (mid k i 0 g x)) v L) rfl rfl ⟨rfl,by rw[mid_zero];exact hF⟩ ?_)
    clear hF
    rintro i vs L hi - ⟨rfl,hF⟩
    simp only[go_sem]
    refine W1 hfo ?_
    constructor<;>intro h6
    ·have hiN:i<N:=by omega
     refine W1 hfo ?_
     refine AWp.block (AWp.count 14 N [] [5,6,12,13] (fun j vs L=>vs=[]/\FamS 87 4 1 N (fun x=>bRow N (mid k i j g x)) v L) rfl rfl ⟨rfl,hF⟩ ?_)
     clear hF
     rintro j vs L hj - ⟨rfl,hF⟩
     simp only[go_sem]
     refine W1 hfo ?_
     constructor<;>intro h7
     ·have hjN:j<N:=by omega
      have hat:=mid_at (k:=k) (i:=i) (j:=j) (f:=g)
      have hmr:=fun x (h:x ≠ i)=>mid_row (k:=k) (i:=i) (j:=j) (f:=g) h
      have hmo:=fun y (h:y ≠ j)=>mid_oth (k:=k) (i:=i) (j:=j) (f:=g) h
      generalize hg2:mid k i (j+1) g=g2 at *
      generalize mid k i j g=g1 at *
      have hb1:=bRow_get (n:=N) (f:=g1 i) hjN
      have hb2:=bRow_get (n:=N) (f:=g1 i) hkN
      have hb3:=bRow_get (n:=N) (f:=g1 k) hjN
      have hbl:=bRow_len (n:=N) (f:=g1 i)
      have hbl2:=bRow_len (n:=N) (f:=g1 k)
      have hrow:bRow N (g2 i)=(bRow N (g1 i)).set j (ab (g1 i j || (g1 i k && g1 k j))):=by
       rw[bRow_set (f:=g1 i) (j:=j) hmo,hat]
      by_cases e:k=i
      ·subst e
       obtain⟨bo,cap,V,bp,cp,X,rfl,hVl,hVp,hP,hcl⟩:=hF.one hkN (bRow_ne hkN)
       have hcl3:FamS 87 4 1 N (fun x=>bRow N (g2 x)) (.ls bo 1 0 N cap) ((bo,.row 87 1 V cap) :: (bp,.row 4 1 ((bRow N (g1 k)).set j (ab (g1 k j || (g1 k k && g1 k j)))) cp) :: X):=by
        refine hcl _ _ (fun z hz=>by rw[hmr z hz]) (by rw[bRow_len,bRow_len]) ?_
        rw[hrow]
       clear hcl hF hrow hat hmr hmo
       rw[bRow_len] at hVp
       refine AWp.perm hP (AWp.nodup fun hnd=>?_)
       obtain⟨d1,d2,-⟩:=nd2 hnd
       clear hnd hP
       generalize bRow N (g1 k)=ys at *
       generalize g1 k j=x1 at *
       generalize g1 k k=x2 at *
       have hax:(x1 || (x2 && x1))=x1:=by cases x1 <;> cases x2 <;> rfl
       rw[hax] at hcl3
       clear hax
       cases x1 with
       | true =>
        refine Sq ?_
        refine AWp.readW mixed [0,1,2,3,4,5,6,7,8,9,10,11,12,13,14,15,16,17,18,19,20,21,22,23,24,25,26,27,28,29,30] 31 (by kernel_rfl) ?_;simp only[go_sem,hbl,hb1,hb2,hVl,hVp,d1,d2]
        refine Sd ?_
        repeat(first|((with_reducible refine AWp.ofC ?_ ?_);exact rfl;simp only[go_sem,hbl,hb1,hb2,hVl,hVp,d1,d2])|((with_reducible refine an ?_ ?_);exact Au))
        refine⟨_,.refl _,?_⟩
        rw[hg2]
        exact hcl3
       | false =>
        cases x2 with
        | true =>
         refine Sq ?_
         refine AWp.readW mixed [0,1,2,3,4,5,6,7,8,9,10,11,12,13,14,15,16,17,18,19,20,21,22,23,24,25,26,27,28,29,30] 31 (by kernel_rfl) ?_;simp only[go_sem,hbl,hb1,hb2,hVl,hVp,d1,d2]
         refine Sd ?_
         repeat(first|((with_reducible refine AWp.ofC ?_ ?_);exact rfl;simp only[go_sem,hbl,hb1,hb2,hVl,hVp,d1,d2])|((with_reducible refine an ?_ ?_);exact Au))
         refine⟨_,.refl _,?_⟩
         rw[hg2]
         exact hcl3
        | false =>
         refine Sq ?_
         refine AWp.readW mixed [0,1,2,3,4,5,6,7,8,9,10,11,12,13,14,15,16,17,18,19,20,21,22,23,24,25,26,27,28,29,30] 31 (by kernel_rfl) ?_;simp only[go_sem,hbl,hb1,hb2,hVl,hVp,d1,d2]
         refine Sd ?_
         repeat(first|((with_reducible refine AWp.ofC ?_ ?_);exact rfl;simp only[go_sem,hbl,hb1,hb2,hVl,hVp,d1,d2])|((with_reducible refine an ?_ ?_);exact Au))
         refine⟨_,.refl _,?_⟩
         rw[hg2]
         exact hcl3
      ·have e':¬i=k:=fun h=>e h.symm
       obtain⟨bo,cap,V,bp,cp,bq,cq,X,rfl,hVl,hVp,hVq,hP,hcl⟩:=hF.two hiN hkN e (bRow_ne hiN) (bRow_ne hkN)
       have hcl3:FamS 87 4 1 N (fun x=>bRow N (g2 x)) (.ls bo 1 0 N cap) ((bo,.row 87 1 V cap) :: (bp,.row 4 1 ((bRow N (g1 i)).set j (ab (g1 i j || (g1 i k && g1 k j)))) cp) :: (bq,.row 4 1 (bRow N (g1 k)) cq) :: X):=by
        refine hcl _ _ (fun z hz=>by rw[hmr z hz]) (by rw[bRow_len,bRow_len]) ?_
        rw[hrow]
       clear hcl hF hrow hat hmr hmo
       rw[bRow_len] at hVp hVq
       refine AWp.perm hP (AWp.nodup fun hnd=>?_)
       obtain⟨⟨d1,d2⟩,⟨d3,d4⟩,⟨d5,d6⟩,-⟩:=nd3 hnd
       clear hnd hP
       generalize bRow N (g1 i)=ys at *
       generalize bRow N (g1 k)=zs at *
       generalize g1 i j=x1 at *
       generalize g1 i k=x2 at *
       generalize g1 k j=x3 at *
       cases x1 with
       | true =>
        refine Sq ?_
        refine AWp.readW mixed [0,1,2,3,4,5,6,7,8,9,10,11,12,13,14,15,16,17,18,19,20,21,22,23,24,25,26,27,28,29,30] 31 (by kernel_rfl) ?_;simp only[go_sem,hbl,hbl2,hb1,hb2,hb3,hVl,hVp,hVq,d1,d2,d3,d4,d5,d6]
        refine Sd ?_
        repeat(first|((with_reducible refine AWp.ofC ?_ ?_);exact rfl;simp only[go_sem,hbl,hbl2,hb1,hb2,hb3,hVl,hVp,hVq,d1,d2,d3,d4,d5,d6])|((with_reducible refine an ?_ ?_);exact Au))
        refine⟨_,.refl _,?_⟩
        rw[hg2]
        exact hcl3
       | false =>
        cases x2 with
        | true =>
         refine Sq ?_
         refine AWp.readW mixed [0,1,2,3,4,5,6,7,8,9,10,11,12,13,14,15,16,17,18,19,20,21,22,23,24,25,26,27,28,29,30] 31 (by kernel_rfl) ?_;simp only[go_sem,hbl,hbl2,hb1,hb2,hb3,hVl,hVp,hVq,d1,d2,d3,d4,d5,d6]
         refine Sd ?_
         repeat(first|((with_reducible refine AWp.ofC ?_ ?_);exact rfl;simp only[go_sem,hbl,hbl2,hb1,hb2,hb3,hVl,hVp,hVq,d1,d2,d3,d4,d5,d6])|((with_reducible refine an ?_ ?_);exact Au))
         refine⟨_,.refl _,?_⟩
         rw[hg2]
         exact hcl3
        | false =>
         refine Sq ?_
         refine AWp.readW mixed [0,1,2,3,4,5,6,7,8,9,10,11,12,13,14,15,16,17,18,19,20,21,22,23,24,25,26,27,28,29,30] 31 (by kernel_rfl) ?_;simp only[go_sem,hbl,hbl2,hb1,hb2,hb3,hVl,hVp,hVq,d1,d2,d3,d4,d5,d6]
         refine Sd ?_
         repeat(first|((with_reducible refine AWp.ofC ?_ ?_);exact rfl;simp only[go_sem,hbl,hbl2,hb1,hb2,hb3,hVl,hVp,hVq,d1,d2,d3,d4,d5,d6])|((with_reducible refine an ?_ ?_);exact Au))
         refine⟨_,.refl _,?_⟩
         rw[hg2]
         exact hcl3
     ·have:N=j:=by omega
      subst this
      refine Wk ?_
      exact⟨_,.refl _,hF.congr fun z hz=>bRow_congr fun y hy=>(mid_next hy).symm⟩
    ·have:N=i:=by omega
     subst this
     refine Wk ?_
     refine⟨_,.refl _,?_⟩
     rw[hnx]
     exact hF.congr fun z hz=>bRow_congr fun y hy=>(mid_full hz).symm
   ·have:N=k:=by omega
    subst this
    refine AWp.famView (j:=6) hF rfl ?_
    have hTV:tabV N (warF N (dirB ps l)) = .sl 1 ((List.range N).map fun i=>.sl 1 (bRow N (warF N (dirB ps l) i))):=rfl
    rw[hTV]
    generalize (List.range N).map (fun i=>AV.sl 1 (bRow N (warF N (dirB ps l) i)))=TT
    refine Wk ?_
    exact Rz
theorem evE_ev {ps:List Pr}{k:Nat}(hk:k<off ps ps.length):EvX ps (evE ps k):=by
 obtain⟨p,i,hp,hi,rfl⟩:=num_form ps.length (Nat.le_refl _) hk
 rw[evE_at hp hi]
 have hn:=nev_get hp
 refine⟨by show (0:Int)<=p;omega,by show (p:Int)<_;omega,by show (1:Int)<=(i:Int)+1;omega,?_⟩
 show (i:Int)+1<=nev ps ((p:Int)).toNat
 rw[Int.toNat_natCast,hn];omega
theorem ev_num {ps:List Pr}{x:Eid}(h:EvX ps x):∃k,k<off ps ps.length/\evE ps k=x:=by
 obtain⟨p,i,hp,hi,rfl⟩:=evx_form h
 rw[nev_get hp] at hi
 exact⟨off ps p+i,off_lt hp hi,evE_at hp hi⟩
theorem dirB_iff {ps:List Pr}(hv:validF ps=true){l:List Syn}(hl:SynOk ps l){i j:Nat} : dirB ps l i j=true↔i<off ps ps.length/\j<off ps ps.length/\DirR ps l (evE ps i) (evE ps j):=by
 unfold dirB
 rw[decide_eq_true_eq]
 have hdk:∀ {j},j<off ps ps.length->dirK ps l j=dirX ps l (evE ps j).1.toNat ((evE ps j).2.toNat - 1):=fun {j} hj=>by
  obtain⟨p,a,hp,ha,rfl⟩:=num_form ps.length (Nat.le_refl _) hj
  rw[dirK_at hp ha,evE_at hp ha]
  show _=dirX ps l ((p:Int)).toNat (((a:Int)+1).toNat - 1)
  rw[Int.toNat_natCast,show ((a:Int)+1).toNat - 1=a by omega]
 constructor
 ·intro h
  have hj:j<off ps ps.length:=by
   apply Classical.byContradiction
   intro hj
   have:dirK ps l j=[]:=by
    unfold dirK
    rw[List.getElem?_eq_none (by rw[evIds_length];omega)]
   rw[this] at h;cases h
  have hd:DirR ps l (evE ps i) (evE ps j):=⟨evE_ev hj,by rw[<- hdk hj];exact h⟩
  refine⟨?_,hj,hd⟩
  apply Classical.byContradiction
  intro hi
  have h0:evE ps i=(0,0):=by
   unfold evE
   rw[List.getElem?_eq_none (by rw[evIds_length];omega)]
  obtain⟨p,a,hp,ha,hje⟩:=evx_form (evE_ev hj)
  rw[hje] at hd
  obtain⟨_,_,hx⟩:=dir_iff hd
  have:=(dirX_ev hv hl hp ha _ hx).2.2.1
  rw[h0] at this
  have:(1:Int)<=0:=this
  omega
 ·rintro⟨hi,hj,h⟩
  rw[hdk hj];exact h.2
theorem tab_iff {ps:List Pr}(hv:validF ps=true){l:List Syn}(hl:SynOk ps l){i j:Nat}(hi:i<off ps ps.length)(hj:j<off ps ps.length):tabX ps l i j=true↔RchX ps l (evE ps i) (evE ps j):=by
 have hD:=@dirB_iff ps hv l hl
 unfold tabX
 rw[war_trans fun a b h=>⟨(hD.1 h).1,(hD.1 h).2.1⟩]
 constructor
 ·intro t
  induction t with
  | single h=>exact .single (hD.1 h).2.2
  | tail t h ih=>exact .tail (ih (hD.1 h).1) (hD.1 h).2.2
 ·intro t
  have key:∀ {x y:Eid},RchX ps l x y->∀j,j<off ps ps.length->y=evE ps j->∀i,i<off ps ps.length->x=evE ps i->Relation.TransGen (fun a b=>dirB ps l a b=true) i j:=fun {x y} t=>by
   induction t with
   | single h =>
    rintro j hj rfl i hi rfl
    exact .single (hD.2 ⟨hi,hj,h⟩)
   | @tail m y t h ih =>
    rintro j hj rfl i hi rfl
    obtain⟨p,a,hp,ha,hje⟩:=evx_form (evE_ev hj)
    have h':=h
    rw[hje] at h'
    obtain⟨_,_,hx⟩:=dir_iff h'
    have hm:EvX ps m:=dirX_ev hv hl hp ha _ hx
    obtain⟨k,hk,hke⟩:=ev_num hm
    refine .tail (ih k hk hke.symm i hi rfl) (hD.2 ⟨hk,hj,by rw[hke];exact h⟩)
  exact key t j hj rfl i hi rfl
theorem tab_diag {ps:List Pr}(hv:validF ps=true){l:List Syn}(hl:SynOk ps l):((List.range (off ps ps.length)).any fun i=>tabX ps l i i) = !decide (lftX ps (exF ps l)=0):=by
 have hG:=exF_gen ps l
 rw[Bool.eq_iff_iff,List.any_eq_true,Bool.not_eq_true',decide_eq_false_iff_not,lft_whl hG]
 constructor
 ·rintro⟨i,hi,h⟩ hW
  have hi:=List.mem_range.1 hi
  exact whl_acyc hv hl hG hW ((tab_iff hv hl hi hi).1 h)
 ·intro hW
  obtain⟨x,hx,hr⟩:=stuck_cyc hv hl hG (exF_stop ps l) hW
  obtain⟨k,hk,rfl⟩:=ev_num hx
  exact⟨k,List.mem_range.2 hk,(tab_iff hv hl hk hk).2 hr⟩
theorem any_take {α:Type}{p:α->Bool}{l:List α}(h:∀i (hi:i<l.length),p l[i]=false):l.any p=false:=by
 rw[List.any_eq_false]
 intro x hx
 obtain⟨i,hi,rfl⟩:=List.getElem_of_mem hx
 rw[h i hi];decide
set_option maxHeartbeats 1000000 in
theorem ref44_Syncs (ps:List Pr)(hs:Sm ps)(hv:validF ps=true)(l:List Syn)(hll:l.length<=1000000):PC prog 38 [aTr ps,.sl 4 (l.map aSyn)] (ai (syE ps l)):=by
 have hE:syE ps l=if 1000<l.length then 5 else if l.any (badSy ps)=true then 2 else if lftX ps (exF ps l)=0 then 0 else 10:=rfl
 have hlm:(l.map aSyn).length=l.length:=List.length_map _
 have hN:=valid_off hv
 by_cases hl:1000<l.length
 ·rw[if_pos hl] at hE
  have hli:(1000:Int)<l.length:=by omega
  rw[hE]
  refine PE 51 [.tmp 4] [2] func38 ?_;simp only[go_sem]
  refine W2 hlm hli ?_
  exact Rz
 rw[if_neg hl] at hE
 have hli:¬(1000:Int)<l.length:=by omega
 have hev:=fun x=>ref44_event ps hs x
 have hgS:∀i (hi:i<l.length),(l.map aSyn).getD i .any=aSyn l[i]:=fun i hi=>getD_map hi
 have htab:l.any (badSy ps)=false->PC prog 79 [aTr ps,.sl 4 (l.map aSyn)] (tabV (off ps ps.length) (tabX ps l)):=fun h=>ref44_table ps hs hv l (syn_bad.1 h) hll
 have hdg:l.any (badSy ps)=false->_:=fun h=>tab_diag hv (syn_bad.1 h)
 generalize l.map aSyn=SL at *
 refine PE 51 [.tmp 4] [2] func38 ?_;simp only[go_sem]
 refine W2 hlm hli ?_
 refine AWp.block (AWp.count 5 l.length [] [1,2] (fun k vs L=>L=[]/\∀i (h:i<l.length),i<k->badSy ps l[i]=false) rfl rfl ⟨rfl,fun i _ h=>by omega⟩ ?_)
 rintro k vs L hk - ⟨rfl,hI⟩
 simp only[go_sem]
 refine W1 hlm ?_
 constructor<;>intro h1
 ·have hkl:k<l.length:=by omega
  have hg:=hgS k hkl
  have hbs:badSy ps l[k]=(!eidOk ps l[k].1 || !eidOk ps l[k].2):=rfl
  have hin:=List.getElem_mem hkl
  have hany:badSy ps l[k]=true->l.any (badSy ps)=true:=fun h=>List.any_eq_true.2 ⟨_,hin,h⟩
  have hstep:badSy ps l[k]=false->∀i (h:i<l.length),i<k+1->badSy ps l[i]=false:=fun h i hi hik=>by
   by_cases e:i=k
   ·subst e;exact h
   ·exact hI i hi (by omega)
  generalize l[k]=s at *
  obtain⟨⟨a,b⟩,c,d⟩:=s
  have c1:=hev (a,b)
  have c2:=hev (c,d)
  have hg:SL.getD k .any = .agg [ai a,ai b,ai c,ai d]:=hg
  change PC _ _ [_,.agg [ai a,ai b]] _ at c1
  change PC _ _ [_,.agg [ai c,ai d]] _ at c2
  change badSy ps ((a,b),(c,d))=(!eidOk ps (a,b) || !eidOk ps (c,d)) at hbs
  generalize eidOk ps (a,b)=x at *
  generalize eidOk ps (c,d)=y at *
  rw[hbs] at hany hstep
  refine Sq ?_
  refine AWp.read mixed [0,1,2,3,4,5,6,7,8,9,10,11,12,13,14,15,16,17] (by kernel_rfl) ?_;simp only[go_sem,hg,hlm]
  refine Sd ?_
  refine GCall.use (ab x) (fun _=>⟨At,(c1).val.use ⟨rfl,rfl⟩⟩) ?_;simp only[go_sem,hg,hlm]
  refine Sd ?_
  refine GCall.use (ab y) (fun _=>⟨At,(c2).val.use ⟨rfl,rfl⟩⟩) ?_;simp only[go_sem,hg,hlm]
  refine Sd ?_
  cases hc:(!x || !y) with
  | true =>
   refine W1 hc ?_
   refine Rq ?_
   rw[hE,if_pos (hany hc)]
  | false =>
   refine W1 hc ?_
   exact⟨_,.refl _,rfl,hstep hc⟩
 ·have:k=l.length:=by omega
  subst this
  have hb:l.any (badSy ps)=false:=any_take fun i hi=>hI i hi hi
  have h2:=htab hb
  have h3:=hdg hb
  rw[hb,if_neg (by decide)] at hE
  generalize syE ps l=e at *
  generalize off ps ps.length=N at *
  have hTV:tabV N (tabX ps l) = .sl 1 ((List.range N).map fun i=>.sl 1 (bRow N (tabX ps l i))):=rfl
  rw[hTV] at h2
  have hgT:∀i,i<N->((List.range N).map fun i=>AV.sl 1 (bRow N (tabX ps l i))).getD i .any = .sl 1 (bRow N (tabX ps l i)):=fun i hi=>map_range_getD hi _
  have hlT:((List.range N).map fun i=>AV.sl 1 (bRow N (tabX ps l i))).length=N:=by simp
  generalize (List.range N).map (fun i=>AV.sl 1 (bRow N (tabX ps l i)))=TT at *
  refine W1 hlm ?_
  refine Sd ?_
  refine(h2).val.use ?_;simp only[go_sem,hlm]
  refine W1 hlm ?_
  refine AWp.block (AWp.count 7 N [] [6] (fun k vs L=>L=[]/\∀i,i<k->tabX ps l i i=false) rfl rfl ⟨rfl,fun i h=>by omega⟩ ?_)
  rintro k vs L hk - ⟨rfl,hJ⟩
  simp only[go_sem]
  refine W1 hlT ?_
  constructor<;>intro h4
  ·have hkN:k<N:=by omega
   have hgk:=hgT k hkN
   have hbl:=bRow_len (n:=N) (f:=tabX ps l k)
   have hbg:=bRow_get (n:=N) (f:=tabX ps l k) hkN
   generalize bRow N (tabX ps l k)=row at *
   cases hc:tabX ps l k k with
   | true =>
    rw[hc] at hbg
    have hex:((List.range N).any fun i=>tabX ps l i i)=true:=List.any_eq_true.2 ⟨k,List.mem_range.2 hkN,hc⟩
    rw[hex] at h3
    have h0:¬lftX ps (exF ps l)=0:=by simpa using h3.symm
    rw[if_neg h0] at hE
    refine W4 hgk hlT hbl hbg ?_
    refine Rq ?_
    rw[hE]
   | false =>
    rw[hc] at hbg
    refine W4 hgk hlT hbl hbg ?_
    refine⟨_,.refl _,rfl,fun i hi=>?_⟩
    by_cases e:i=k
    ·subst e;exact hc
    ·exact hJ i (by omega)
  ·have:k=N:=by omega
   subst this
   have hex:((List.range k).any fun i=>tabX ps l i i)=false:=by
    rw[List.any_eq_false]
    intro i hi
    rw[hJ i (List.mem_range.1 hi)];decide
   rw[hex] at h3
   have h0:lftX ps (exF ps l)=0:=by simpa using h3.symm
   rw[if_pos h0] at hE
   refine W1 hlT ?_
   refine Rq ?_
   rw[hE]
theorem law44_latticeG (ps:List Pr)(hpl:ps.length<=9223372036854775807)(hev:∀p ∈ ps,p.evs.length<=9223372036854775807) :
  (∃xs,PC prog 9 [aTr ps] (.tup [.sl 1 xs,ab false]))\/(Sm ps/\validF ps=true/\(cutsF ps).length<=250/\PC prog 9 [aTr ps] (.tup [aRows (cutsF ps),ab true])):=by
 have hsz:=law44_size ps hpl hev
 by_cases hS:24<szW ps
 ·left
  refine⟨[],?_⟩
  generalize szW ps=z at *
  refine PE 26 [.tmp 2,.tmp 3] [1] func9 ?_;simp only[go_sem]
  refine Wk ?_
  refine Sd ?_
  refine(hsz).val.use ?_;simp only[go_sem,hS]
  refine GCall.use .any (fun h=>absurd h (by simp)) ?_
  simp only[go_sem]
  refine W1 hS ?_
  refine ret_view [] ?_;simp only[go_sem]
  exact .mkTup (Vws.cons (.nil 1) (Vws.refl _))
 have hvd:Vd ps:=vd_of (szW_sm (m:=24) (by decide) (by omega))
 cases hv:validF ps with
 | false =>
  left
  refine⟨[],?_⟩
  have h1:=hvd.rval
  rw[hv] at h1
  generalize szW ps=z at *
  refine PE 26 [.tmp 2,.tmp 3] [1] func9 ?_;simp only[go_sem]
  refine Wk ?_
  refine Sd ?_
  refine(hsz).val.use ?_;simp only[go_sem,hS]
  refine Sd ?_
  refine GCall.use (ab false) (fun _=>⟨At,(h1).val.use ⟨rfl,rfl⟩⟩) ?_;simp only[go_sem,hS]
  refine Sd ?_
  refine W1 hS ?_
  refine ret_view [] ?_;simp only[go_sem]
  exact .mkTup (Vws.cons (.nil 1) (Vws.refl _))
 | true =>
 have hs:=hvd.sm hv
 have h1:=ref12_Valid ps hs
 have h2:=ref23_List ps hs hv
 rw[hv] at h1
 have haR:∀x:List (List Int),aRows x = .sl 1 (x.map aInts):=fun _=>rfl
 by_cases h5:5000<(cutsF ps).length
 ·left
  rw[if_pos h5] at h2
  refine⟨[],?_⟩
  generalize szW ps=z at *
  refine PE 26 [.tmp 2,.tmp 3] [1] func9 ?_;simp only[go_sem]
  refine Wk ?_
  refine Sd ?_
  refine(hsz).val.use ?_;simp only[go_sem,hS]
  refine Sd ?_
  refine GCall.use (ab true) (fun _=>⟨At,(h1).val.use ⟨rfl,rfl⟩⟩) ?_;simp only[go_sem,hS]
  refine Sd ?_
  refine W1 hS ?_
  refine Sd ?_
  refine Vu h2 ?_
  refine Wk ?_
  exact Rz
 ·rw[if_neg h5] at h2
  by_cases h250:(cutsF ps).length<=250
  ·right
   refine⟨hs,rfl,h250,?_⟩
   rw[haR] at h2 ⊢
   generalize cutsF ps=cs at *
   have hcm:(cs.map aInts).length=cs.length:=List.length_map _
   have hd:((cs.length:Int)<=250):=by omega
   generalize szW ps=z at *
   refine PE 26 [.tmp 2,.tmp 3] [1] func9 ?_;simp only[go_sem]
   refine Wk ?_
   refine Sd ?_
   refine(hsz).val.use ?_;simp only[go_sem,hS]
   refine Sd ?_
   refine GCall.use (ab true) (fun _=>⟨At,(h1).val.use ⟨rfl,rfl⟩⟩) ?_;simp only[go_sem,hS]
   refine Sd ?_
   refine W1 hS ?_
   refine Sd ?_
   refine Vu h2 ?_
   refine W2 hcm hd ?_
   exact Rz
  ·left
   rw[haR] at h2
   refine⟨(cutsF ps).map aInts,?_⟩
   generalize cutsF ps=cs at *
   have hcm:(cs.map aInts).length=cs.length:=List.length_map _
   have hd:¬((cs.length:Int)<=250):=by omega
   generalize szW ps=z at *
   refine PE 26 [.tmp 2,.tmp 3] [1] func9 ?_;simp only[go_sem]
   refine Wk ?_
   refine Sd ?_
   refine(hsz).val.use ?_;simp only[go_sem,hS]
   refine Sd ?_
   refine GCall.use (ab true) (fun _=>⟨At,(h1).val.use ⟨rfl,rfl⟩⟩) ?_;simp only[go_sem,hS]
   refine Sd ?_
   refine W1 hS ?_
   refine Sd ?_
   refine Vu h2 ?_
   refine W2 hcm hd ?_
   exact Rz
theorem syE_zero {ps:List Pr}{l:List Syn}(h:syE ps l=0):l.length<=1000/\SynOk ps l/\lftX ps (exF ps l)=0:=by
 unfold syE at h
 split at h
 ·cases h
 ·split at h
  ·cases h
  ·split at h
   ·rename_i h1 h2 h3
    exact⟨by omega,syn_bad.1 (by simpa using h2),h3⟩
   ·cases h
end Go.AL
end
