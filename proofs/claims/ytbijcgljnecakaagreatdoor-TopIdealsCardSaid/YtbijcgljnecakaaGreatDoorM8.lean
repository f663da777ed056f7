/- Texts of this claim's proof: WRf3, WDn, WRf4, WRf5, WRf6, WRf7, WRf8, WPd, WPf, WPc, WDl, WPb, WPt, WPe, WVe, WPg, WPh, WRf9, WPj, WPi, WVt, WVb, WJn. No condition. -/
import Derived.Test.YtbijcgljnecakaaGreatDoorM7
import Derived.Test.YtbijcgljnecakaaGreatDoorM6
import Derived.Test.YtbijcgljnecakaaGreatDoorM5
section
namespace Go.AL
open Go Go.RowKit
set_option maxRecDepth 4000
theorem pair_first {ps:List Pr} {p:Nat} (hp:p<ps.length) {i:Nat} (hi:i<ps[p].evs.length) :
  findIn (evIds ps) ps[p].evs[i].kind ps[p].evs[i].msg=((p:Int),(i:Int)+1)↔¬0<(findIn ((evIds ps).take (off ps p+i)) ps[p].evs[i].kind ps[p].evs[i].msg).2:=by
 have hev:=evIds_get hp hi
 constructor
 ·intro h h0
  have hsplit:evIds ps=(evIds ps).take (off ps p+i) ++ (evIds ps).drop (off ps p+i):=(List.take_append_drop _ _).symm
  unfold findIn at h0
  cases hf:((evIds ps).take (off ps p+i)).find? (fun x=>decide (x.2.kind=ps[p].evs[i].kind) && decide (x.2.msg=ps[p].evs[i].msg)) with
  | none=>rw[hf] at h0;simp at h0
  | some y =>
   have h1:findIn (evIds ps) ps[p].evs[i].kind ps[p].evs[i].msg=y.1:=by
    unfold findIn
    rw[hsplit,List.find?_append,hf];rfl
   have hy:=List.mem_of_find?_eq_some hf
   obtain⟨j,hj⟩:=List.getElem?_of_mem hy
   rw[List.getElem?_take] at hj
   split at hj
   ·rename_i hlt
    obtain⟨q,hq,r,hr,e,e2⟩:=evIds_inv hj
    rw[e2] at h1
    rw[h1,Prod.mk.injEq] at h
    have e3:q=p:=by omega
    have e4:r=i:=by omega
    subst e3;subst e4
    omega
   ·cases hj
 ·intro hno
  refine findIn_hit hev (fun j y hj hy hc=>hno ?_) ⟨rfl,rfl⟩
  have hmem:y ∈ (evIds ps).take (off ps p+i):=by
   refine List.mem_of_getElem? (i:=j) ?_
   rw[List.getElem?_take,if_pos hj];exact hy
  unfold findIn
  cases hf:((evIds ps).take (off ps p+i)).find? (fun x=>decide (x.2.kind=ps[p].evs[i].kind) && decide (x.2.msg=ps[p].evs[i].msg)) with
  | some x=>exact evIds_pos ps x (List.mem_of_mem_take (List.mem_of_find?_eq_some hf))
  | none =>
   rw[List.find?_eq_none] at hf
   have:=hf y hmem
   simp [hc.1,hc.2] at this
theorem ref12_paired (ps:List Pr) (hs:Sm ps) (hf:Formed ps) (p:Nat) (hp:p<ps.length) (i:Nat) (hi:i<ps[p].evs.length):PC Proofs.Tryz.prog 77 [aTr ps,aEid (p,(i:Int)+1)] (ai (pairF ps (off ps p+i))):=by
 have hfe:=hf p hp _ (List.getElem_mem hi)
 have hev:=evIds_get hp hi
 have hpf:pairF ps (off ps p+i)=if ps[p].evs[i].kind=2 then if (findIn ((evIds ps).take (off ps p+i)) 2 ps[p].evs[i].msg).2 > 0 then 8 else 0 else if ps[p].evs[i].kind=3 then if (findIn ((evIds ps).take (off ps p+i)) 3 ps[p].evs[i].msg).2 > 0 then 8 else if !sendsB ps ps[p].evs[i].peer ps[p].evs[i].msg p then 7 else 0 else 0:=by
  unfold pairF;rw[hev]
 have hfst:=pair_first hp hi
 have hat:=ref12_At ps hs p hp i hi
 generalize ps[p].evs[i]=e at *
 refine PC.enter 70 [.tmp 4] [2,3,5,8] Proofs.Tryz.func77 rfl rfl rfl rfl rfl (by simp) (AWp.of ?_);simp only[go_sem]
 refine Wk ?_
 refine Sd ?_
 refine(hat).val.use ?_;simp only[go_sem]
 refine Sd ?_
 intro b5
 refine Wk ?_
 refine⟨fun h1 => ?_,fun h1 => ?_⟩
 ·refine Wk ?_
  refine ret_eq ?_;simp only[go_sem]
  rw[hpf,if_neg (by omega),if_neg (by omega)]
 ·have hk:e.kind=2∨e.kind=3:=by
   unfold formedI at hfe
   rw[if_neg h1] at hfe
   by_cases h:e.kind=2∨e.kind=3
   ·exact h
   ·rw[if_neg h] at hfe;cases hfe
  obtain⟨m1,m2,m3,m4⟩:=formed_msg hfe hk
  have hfd:=ref12_Find ps hs e.kind e.msg
  generalize hfi:findIn (evIds ps) e.kind e.msg=f at *
  refine Wk ?_
  refine AWp.seq (AWp.seq ?_)
  refine AWp.drawn mixed 7 (by kernel_rfl) ?_;simp only[go_sem]
  refine Sd ?_
  refine Gc hfd ?_
  refine Wk ?_
  refine⟨fun h2 => ?_,fun h2 => ?_⟩
  ·have hne:¬f=((p:Int),(i:Int)+1):=fun h=>by rw[h] at h2;exact h2 rfl rfl
   have h0:0<(findIn ((evIds ps).take (off ps p+i)) e.kind e.msg).2:=by
    by_cases h:0<(findIn ((evIds ps).take (off ps p+i)) e.kind e.msg).2
    ·exact h
    ·exact absurd (hfst.2 h) hne
   refine Wk ?_
   refine ret_eq ?_;simp only[go_sem]
   rw[hpf]
   rcases hk with hk|hk
   ·rw[hk] at h0;rw[if_pos hk,if_pos h0]
   ·rw[hk] at h0;rw[if_neg (by omega),if_pos hk,if_pos h0]
  ·intro h3
   have he:f=((p:Int),(i:Int)+1):=Prod.ext h2 h3
   have h0:=hfst.1 he
   refine Wk ?_
   refine Wk ?_
   refine⟨fun h4 => ?_,fun h4 => ?_⟩
   ·have hpn:e.peer.toNat<ps.length:=by omega
    have hpe:((e.peer.toNat:Nat):Int)=e.peer:=Int.toNat_of_nonneg m3
    have hel:=hs.evs _ (List.getElem_mem hpn)
    have hgp:=getD_map (f:=aPr) hpn
    have hsd:sendsB ps e.peer e.msg p=ps[e.peer.toNat].evs.any fun x=>decide (x.kind=2) && decide (x.msg=e.msg) && decide (x.peer=p):=by
     simp only[sendsB,List.getElem?_eq_getElem hpn]
    rw[h4] at h0
    have hpf:pairF ps (off ps p+i)=if !sendsB ps e.peer e.msg p then 7 else 0:=by
     rw[hpf,if_neg (by omega),if_pos h4,if_neg h0]
    rw[hsd] at hpf
    refine Wk ?_
    obtain⟨es,hes⟩:∃es,ps[e.peer.toNat].evs=es:=⟨_,rfl⟩
    rw[hes] at hsd hpf hel
    refine AWp.block (AWp.count 7 es.length [6] [2,3,5] (fun j vs L=>L=[]∧vs=[ab ((es.take j).any fun x=>decide (x.kind=2) && decide (x.msg=e.msg) && decide (x.peer=p))]) rfl rfl ⟨rfl,rfl⟩ ?_)
    rintro j vs L hj - ⟨rfl,rfl⟩
    simp only[go_sem]
    refine W2 hgp hes ?_
    refine⟨fun h5 => ?_,fun h5 => ?_⟩
    ·have hje:j<es.length:=by omega
     have hgj:=getD_map (f:=aEv) hje
     have hsu:(es.take (j+1)).any (fun x=>decide (x.kind=2) && decide (x.msg=e.msg) && decide (x.peer=p))=((es.take j).any (fun x=>decide (x.kind=2) && decide (x.msg=e.msg) && decide (x.peer=p)) || (decide (es[j].kind=2) && decide (es[j].msg=e.msg) && decide (es[j].peer=p))):=by
      rw[List.take_succ_eq_append_getElem hje,List.any_append];simp
     generalize (es.take j).any (fun x=>decide (x.kind=2) && decide (x.msg=e.msg) && decide (x.peer=p))=b at *
     refine Sd ?_
     refine AWp.of ?_;simp only[go_sem,hgp,hes,hgj]
     refine Sd ?_
     intro b8
     refine Wk ?_
     repeat((with_reducible refine And.intro ?_ ?_);focus (intro h;refine⟨h,?_⟩;intro h1;first|exact⟨h,h1⟩|(intro h2;exact⟨h,h1,h2⟩)))
     refine Wk ?_
     refine⟨_,List.Sublist.refl _,rfl,?_⟩
     rw[hsu]
    ·refine Wk ?_
     rw[List.take_of_length_le (by omega)]
     refine Wk ?_
     refine⟨fun h6 => ?_,fun h6 => ?_⟩
     ·refine Wk ?_
      refine ret_eq ?_;simp only[go_sem]
      rw[hpf,if_pos (by rw[h6];rfl)]
     ·refine Wk ?_
      refine ret_eq ?_;simp only[go_sem]
      rw[hpf,if_neg (by rw[h6];decide)]
   ·refine Wk ?_
    refine ret_eq ?_;simp only[go_sem]
    rw[hpf]
    rcases hk with hk|hk
    ·rw[hk] at h0;rw[if_pos hk,if_neg h0]
    ·exact absurd hk h4
end Go.AL
end
section
namespace Go.AL
open Go Go.RowKit
def dnA (n:Nat) (c:Nat→Nat):List AV:=(List.range n).map fun q=>ai (c q)
theorem dnA_length (n:Nat) (c:Nat→Nat):(dnA n c).length=n:=by simp [dnA]
theorem dnA_set {n p:Nat} {c c':Nat→Nat} {x:Int} (hx:(c' p:Int)=x) (ho:∀q,q ≠ p→c' q=c q):(dnA n c).set p (ai x)=dnA n c':=by
 unfold dnA
 rw[map_range_set];congr 1;funext q
 by_cases e:q=p
 ·rw[if_pos e,e,hx]
 ·rw[if_neg e,ho q e]
theorem dnA_get {n p:Nat} (hp:p<n) (c:Nat→Nat):(dnA n c).getD p .any=ai (c p):=map_range_getD hp _
theorem nd2 {b c:Nat} {x y:ABlk} {r:AHeap} (h:((((b,x) :: (c,y) :: r:AHeap)).map (·.1)).Nodup):¬b=c∧¬c=b∧∀z ∈ r,(¬b=z.1∧¬z.1=b)∧¬c=z.1∧¬z.1=c:=by
 simp only[List.map_cons,List.nodup_cons,List.mem_cons,not_or,List.mem_map,not_exists,not_and] at h
 obtain⟨⟨h1,h2⟩,h3,_⟩:=h
 exact⟨h1,fun e=>h1 e.symm,fun z hz=>⟨⟨fun e=>h2 z hz e.symm,h2 z hz⟩,fun e=>h3 z hz e.symm,h3 z hz⟩⟩
theorem nd3 {b c d:Nat} {x y z:ABlk} {r:AHeap} (h:((((b,x) :: (c,y) :: (d,z) :: r:AHeap)).map (·.1)).Nodup):(¬b=c∧¬c=b)∧(¬b=d∧¬d=b)∧(¬c=d∧¬d=c)∧∀w ∈ r,(¬b=w.1∧¬w.1=b)∧(¬c=w.1∧¬w.1=c)∧¬d=w.1∧¬w.1=d:=by
 obtain⟨h1,h2,h3⟩:=nd2 h
 rw[List.map_cons,List.nodup_cons] at h
 obtain⟨h4,h5,h6⟩:=nd2 h.2
 exact⟨⟨h1,h2⟩,(h3 (d,z) List.mem_cons_self).1,⟨h4,h5⟩,fun w hw=>⟨(h3 w (List.mem_cons_of_mem _ hw)).1,(h6 w hw).1,(h6 w hw).2⟩⟩
theorem getD_setA (xs:List AV) (i j:Nat) (x:AV):(xs.set i x).getD j .any=if i=j∧i<xs.length then x else xs.getD j .any:=by
 rw[List.getD_eq_getElem?_getD,List.getElem?_set]
 by_cases h:i=j
 ·subst h
  by_cases h2:i<xs.length
  ·simp [h2]
  ·simp [h2]
 ·simp [h,List.getD_eq_getElem?_getD]
end Go.AL
end
section
namespace Go.AL
open Go Go.RowKit
set_option maxRecDepth 4000
noncomputable def acyB (ps:List Pr):Bool:=(List.range ps.length).all fun p=>decide (nev ps p≤(stampF ps p).length)
theorem acyB_cyc {ps:List Pr} (hs:Sm ps) (hm:msgF ps=none) (h:acyB ps=true):cycF ps=none:=by
 refine cycF_of_stamps hm (stampF_gen hs).1 fun p hp => ?_
 unfold acyB at h
 rw[List.all_eq_true] at h
 simpa using h p (List.mem_range.2 hp)
theorem ref12_acyclic (ps:List Pr) (hs:Sm ps) (hm:msgF ps=none) (hn:1≤ps.length):PC Proofs.Tryz.prog 78 [aTr ps] (ab (acyB ps)):=by
 have hl:=hs.procs
 refine PC.enter 86 [.tmp 2] [1,6,7] Proofs.Tryz.func78 rfl rfl rfl rfl rfl (by simp) (AWp.of ?_);simp only[go_sem]
 refine Sd ?_
 refine AWp.of ?_;simp only[go_sem]
 refine Sd ?_
 intro bd
 have hD0:List.replicate ps.length (ai 0)=dnA ps.length (lenS fun _=>[]):=by
  unfold dnA lenS;apply List.ext_getElem (by simp);intro i h1 h2;simp
 rw[hD0]
 have hB:∀S,Gen ps S→totS ps.length (lenS S)≤ps.length * 1000000:=fun S h=>totS_le _ fun q hq=>by
  have h1:=h.le_nev q
  rw[nev_get hq] at h1
  have h2:=hs.evs _ (List.getElem_mem hq)
  unfold lenS;omega
 refine AWp.cut [1,3] (fun vs L=>∃S,Gen ps S∧(∀p,¬Rdy ps (lenS S) p)∧L=[(bd,.row 3 1 (dnA ps.length (lenS S)) ps.length)]∧vs=[.rp 1 [aTr ps] 0 0,.ls bd 1 0 ps.length ps.length]) ?_ ?_
 ·refine AWp.block (AWp.loopN [] [1,3] (fun m vs L=>∃S,Gen ps S∧L=[(bd,.row 3 1 (dnA ps.length (lenS S)) ps.length)]∧m=ps.length * 1000000 - totS ps.length (lenS S)) (ps.length * 1000000 - totS ps.length (lenS fun _=>[])) ?_ ?_)
  ·exact⟨_,.init,rfl,rfl⟩
  rintro m vs L - ⟨S0,hG0,rfl,rfl⟩
  simp only[go_sem]
  refine Wk ?_
  refine AWp.block (AWp.count 5 ps.length [4] [1,3] (fun p vs L=>∃S g,vs=[ab g]∧L=[(bd,.row 3 1 (dnA ps.length (lenS S)) ps.length)]∧Gen ps S∧(g=false→S=S0∧∀q,q<p→¬Rdy ps (lenS S) q)∧(g=true→totS ps.length (lenS S0)<totS ps.length (lenS S)))
   rfl rfl ⟨S0,false,rfl,rfl,hG0,fun _=>⟨rfl,fun q hq=>by omega⟩,fun h=>(by cases h)⟩ ?_)
  rintro p vs L hp - ⟨S1,g1,rfl,rfl,hG1,hf1,ht1⟩
  simp only[go_sem]
  refine Wk ?_
  refine⟨fun h1 => ?_,fun h1 => ?_⟩
  ·have hpp:p<ps.length:=by omega
   have hel:=hs.evs _ (List.getElem_mem hpp)
   have hgP:=getD_map (f:=aPr) hpp
   refine AWp.seq (AWp.block (AWp.block (AWp.loopN [4] [1,3,5] (fun m vs L=>∃S g,vs=[ab g]∧L=[(bd,.row 3 1 (dnA ps.length (lenS S)) ps.length)]∧Gen ps S∧(g=false→S=S0∧∀q,q<p→¬Rdy ps (lenS S) q)∧(g=true→totS ps.length (lenS S0)<totS ps.length (lenS S))∧m=1000000 - (S p).length)
    (1000000 - (S1 p).length) ?_ ?_)))
   ·exact⟨S1,g1,rfl,rfl,hG1,hf1,ht1,rfl⟩
   rintro m' vs L - ⟨S,g,rfl,rfl,hG,hf,ht,hm'⟩
   have hle:=hG.le_nev p
   rw[nev_get hpp] at hle
   have hgd:=dnA_get hpp (lenS S)
   have hlS:lenS S p=(S p).length:=rfl
   simp only[go_sem]
   refine AWp.seq (AWp.seq ?_)
   repeat(first|(with_reducible refine AWp.seq ?_)|(with_reducible refine AWp.block ?_))
   refine AWp.mix mixed [0,1,2,4,5,6,7,8,9,10] (.step 3 (.step 11 .done .done) .done) (by kernel_rfl) ?_;simp only[go_sem,hgP,hgd,dnA_length]
   refine Sd ?_
   refine Wk ?_
   refine⟨fun h2 => ?_,fun h2 => ?_⟩
   ·have hk:(S p).length<ps[p].evs.length:=by unfold lenS at h2;omega
    have hgk:=getD_map (f:=aEv) hk
    have heq:=evq_get hpp hk
    have hrdy:Rdy ps (lenS S) p↔(ps[p].evs[(S p).length].kind=3→0<(sndr ps ps[p].evs[(S p).length].msg).2∧(sndr ps ps[p].evs[(S p).length].msg).2≤lenS S (sndr ps ps[p].evs[(S p).length].msg).1.toNat):=by
     unfold Rdy
     rw[hlS,heq]
     exact⟨fun h=>h.2.2,fun h=>⟨hpp,by rw[nev_get hpp];exact hk,h⟩⟩
    have h0s:=recv_sndr hm hpp hk
    rw[hlS] at hgd
    generalize ps[p].evs[(S p).length]=e at *
    refine AWp.block ?_
    refine AWp.cut [1,3,4,5,6] (fun vs L=>L=[(bd,.row 3 1 (dnA ps.length (lenS S)) ps.length)]∧vs=[.rp 1 [aTr ps] 0 0,.ls bd 1 0 ps.length ps.length,ab g,ai p,.rp 5 [aEv e] 0 0]) ?_ ?_
    ·repeat(first|(with_reducible refine AWp.seq ?_)|(with_reducible refine AWp.block ?_))
     refine AWp.mix mixed [0,1,2,3,4,5,6,7,8] (.step 9 (.step 10 (.step 11 (.step 12 (.step 13 .done .done) .done) (.step 12 (.step 11 (.step 13 .done .done) .done) .done)) (.step 12 (.step 10 (.step 11 (.step 13 .done .done) .done) .done) .done)) (.step 12 (.step 9 (.step 10 (.step 11 (.step 13 .done .done) .done) .done) .done) .done)) (by kernel_rfl) ?_;simp only[go_sem,hgP,hgd,hgk,dnA_length]
     repeat' (first|(with_reducible refine And.intro ?_ ?_)|intro _)
     all_goals first|omega|exact⟨_,List.Sublist.refl _,rfl⟩|(rename_i bN k1;have nb:¬bd=bN:=(by omega);simp only[go_sem,nb,hgd,hgk,dnA_length])
     all_goals repeat' (first|(with_reducible refine And.intro ?_ ?_)|intro _)
     all_goals first|omega|exact⟨_,List.Sublist.refl _,rfl⟩
    ·rintro vs L - ⟨rfl,rfl⟩
     simp only[go_sem]
     refine AWp.cut [1,3,4,5] (fun vs L=>Rdy ps (lenS S) p∧L=[(bd,.row 3 1 (dnA ps.length (lenS S)) ps.length)]∧vs=[.rp 1 [aTr ps] 0 0,.ls bd 1 0 ps.length ps.length,ab g,ai p]) ?_ ?_
     ·refine Wk ?_
      refine⟨fun h3 => ?_,fun h3 => ?_⟩
      ·have hfd:=ref12_Find ps hs 2 e.msg
       have hse:findIn (evIds ps) 2 e.msg=sndr ps e.msg:=rfl
       obtain⟨f1,f2⟩:=findIn_proc hn 2 e.msg
       rw[hse] at hfd f1 f2
       generalize sndr ps e.msg=sd at *
       have hgs:=dnA_get (show sd.1.toNat<ps.length by omega) (lenS S)
       refine Wk ?_
       refine Sd ?_
       refine(hfd).val.use ?_;simp only[go_sem]
       refine Sd ?_
       intro b7 hb7
       have nb:¬bd=b7:=by omega
       refine AWp.seq ?_
       repeat(first|(with_reducible refine AWp.seq ?_)|(with_reducible refine AWp.block ?_))
       refine AWp.mix mixed [0,1,2,3,5,6] (.step 4 (.step 7 .done .done) .done) (by kernel_rfl) ?_;simp only[go_sem,hgs,dnA_length,nb]
       refine Sd ?_
       refine Wk ?_
       refine⟨fun h4 => ?_,fun h4 => ?_⟩
       ·refine Wk ?_
        refine⟨_,List.Sublist.refl _,S,g,rfl,rfl,hG,fun hg => ?_,ht⟩
        obtain⟨e1,e2⟩:=hf hg
        refine⟨e1,fun q hq => ?_⟩
        by_cases e:q=p
        ·subst e
         intro hr
         have:=hrdy.1 hr h3
         omega
        ·exact e2 q (by omega)
       ·exact⟨_,List.Sublist.refl _,hrdy.2 fun _=>⟨h0s h3,by omega⟩,rfl⟩
      ·exact⟨_,List.Sublist.refl _,hrdy.2 fun h=>absurd h h3,rfl⟩
     ·rintro vs L - ⟨hrd,rfl,rfl⟩
      have hG':=hG.step hrd
      have htot:=totS_up hpp (S:=S) (vecV ps S p (S p).length)
      have hset:=dnA_set (n:=ps.length) (p:=p) (c:=lenS S) (c':=lenS (upS S p (vecV ps S p (S p).length))) (x:=((S p).length:Int)+1) (by unfold lenS;rw[upS_len,if_pos rfl];omega) (fun q hq=>by unfold lenS;rw[upS_len,if_neg hq])
      have hlen':(upS S p (vecV ps S p (S p).length) p).length=(S p).length+1:=by rw[upS_len,if_pos rfl]
      simp only[go_sem]
      refine Sd ?_
      refine AWp.of ?_;simp only[go_sem,hgd,dnA_length]
      refine Sd ?_
      rw[hset]
      refine Wk ?_
      refine⟨_,List.Sublist.refl _,1000000 - (upS S p (vecV ps S p (S p).length) p).length,by omega,_,true,rfl,rfl,hG',fun h=>(by cases h),fun _ => ?_,rfl⟩
      rw[htot]
      cases hg:g with
      | true=>have:=ht hg;omega
      | false=>rw[(hf hg).1];omega
   ·refine Wk ?_
    refine⟨_,List.Sublist.refl _,S,g,rfl,rfl,hG,fun hg => ?_,ht⟩
    obtain⟨e1,e2⟩:=hf hg
    refine⟨e1,fun q hq => ?_⟩
    by_cases e:q=p
    ·subst e
     intro hr
     have:=hr.2.1
     rw[nev_get hpp] at this
     omega
    ·exact e2 q (by omega)
  ·have hpn:p=ps.length:=by omega
   refine Wk ?_
   refine⟨fun h2 => ?_,fun h2 => ?_⟩
   ·refine⟨_,List.Sublist.refl _,S1,hG1,fun q hr => ?_,rfl⟩
    exact(hf1 h2).2 q (by have:=hr.1;omega) hr
   ·have h3:=ht1 h2
    have h4:=hB S1 hG1
    exact⟨_,List.Sublist.refl _,_,by omega,S1,hG1,rfl,rfl⟩
 ·rintro vs L - ⟨S,hG,hmx,rfl,rfl⟩
  have hst:=stampF_eq hG hmx
  simp only[go_sem]
  refine Wk ?_
  refine AWp.block (AWp.count 8 ps.length [] [1,3] (fun p vs L=>L=[(bd,.row 3 1 (dnA ps.length (lenS S)) ps.length)]∧∀q,q<p→nev ps q≤(stampF ps q).length) rfl rfl ⟨rfl,by omega⟩ ?_)
  rintro p vs L hp - ⟨rfl,hI⟩
  simp only[go_sem]
  refine Wk ?_
  refine⟨fun h1 => ?_,fun h1 => ?_⟩
  ·have hpp:p<ps.length:=by omega
   have hel:=hs.evs _ (List.getElem_mem hpp)
   have hgP:=getD_map (f:=aPr) hpp
   have hgd:=dnA_get hpp (lenS S)
   refine AWp.seq (AWp.block (AWp.seq ?_))
   repeat(first|(with_reducible refine AWp.seq ?_)|(with_reducible refine AWp.block ?_))
   refine AWp.mix mixed [0,1,2,4,5,6,7,8,9,10] (.step 3 (.step 11 .done .done) .done) (by kernel_rfl) ?_;simp only[go_sem,hgP,hgd,dnA_length]
   refine Sd ?_
   refine Wk ?_
   refine⟨fun h2 => ?_,fun h2 => ?_⟩
   ·refine Wk ?_
    refine ret_eq ?_;simp only[go_sem]
    unfold acyB
    congr 2;symm
    rw[List.all_eq_false]
    refine⟨p,List.mem_range.2 hpp,?_⟩
    rw[hst,decide_eq_true_eq,nev_get hpp]
    unfold lenS at h2;omega
   ·refine Wk ?_
    refine⟨_,List.Sublist.refl _,rfl,fun q hq => ?_⟩
    by_cases e:q=p
    ·subst e;rw[hst,nev_get hpp];unfold lenS at h2;omega
    ·exact hI q (by omega)
  ·refine Wk ?_
   refine ret_eq ?_;simp only[go_sem]
   unfold acyB
   congr 2;symm
   rw[List.all_eq_true]
   exact fun q hq=>decide_eq_true (hI q (by have:=List.mem_range.1 hq;omega))
structure Psr (ps:List Pr) (x:Eid) (seen q:List Eid):Prop where
 sv:∀y ∈ seen,VEv ps y∧Reach ps y x
 qv:∀y ∈ q,VEv ps y∧Reach ps y x
 nodup:seen.Nodup
 c1:∀z,VEv ps z→Nx ps z x→z ∈ seen∨z ∈ q
 c2:∀y ∈ seen,∀z,VEv ps z→Nx ps z y→z ∈ seen∨z ∈ q
 size:q.length≤2 * (seen.length+1)
theorem dirL_length (ps:List Pr) (p i:Nat):(dirL ps p i).length≤2:=by
 unfold dirL
 rw[List.length_append]
 have h1:(if 0<i then [((p:Int),(i:Int))] else []).length≤1:=by split <;> simp
 have h2:(if (evq ps p i).kind=3 then [sndr ps (evq ps p i).msg] else []).length≤1:=by split <;> simp
 omega
theorem Psr.start {ps:List Pr} (hm:msgF ps=none) {p:Nat} (hp:p<ps.length) {i:Nat} (hi:i<ps[p].evs.length):Psr ps ((p:Int),(i:Int)+1) [] (dirL ps p i) :=
 ⟨fun y h=>(by cases h),fun y h=>let ⟨a,b⟩:=(dirL_iff hm hp hi y).1 h;⟨a,.single b⟩,.nil,fun z h1 h2 => .inr ((dirL_iff hm hp hi z).2 ⟨h1,h2⟩),fun y h=>(by cases h),(by have:=dirL_length ps p i;simp only[List.length_nil];omega)⟩
theorem Psr.skip {ps:List Pr} {x y:Eid} {seen q:List Eid} (h:Psr ps x seen (y :: q)) (hy:y ∈ seen):Psr ps x seen q:=by
 have hc:∀z,z ∈ seen∨z ∈ y :: q→z ∈ seen∨z ∈ q:=fun z hz=>by
  rcases hz with hz|hz
  ·exact .inl hz
  ·rcases List.mem_cons.1 hz with rfl|hz
   ·exact .inl hy
   ·exact .inr hz
 exact⟨h.sv,fun z hz=>h.qv z (List.mem_cons_of_mem _ hz),h.nodup,fun z h1 h2=>hc z (h.c1 z h1 h2),fun w hw z h1 h2=>hc z (h.c2 w hw z h1 h2),by have:=h.size;simp at this;omega⟩
theorem Reach.head {ps:List Pr} {a b y:Eid} (hr:Reach ps b y) (hn:Nx ps a b):Reach ps a y:=by
 induction hr with
 | single h=>exact .tail (.single hn) h
 | tail _ h ih=>exact .tail ih h
theorem Psr.mark {ps:List Pr} (hm:msgF ps=none) {x:Eid} {seen q:List Eid} {p:Nat} (hp:p<ps.length) {i:Nat} (hi:i<ps[p].evs.length) (h:Psr ps x seen (((p:Int),(i:Int)+1) :: q)) (hy:((p:Int),(i:Int)+1) ∉ seen) :
  Psr ps x (((p:Int),(i:Int)+1) :: seen) (q ++ dirL ps p i):=by
 have hyx:=h.qv _ List.mem_cons_self
 have hc:∀z,z ∈ seen∨z ∈ ((p:Int),(i:Int)+1) :: q→z ∈ ((p:Int),(i:Int)+1) :: seen∨z ∈ q ++ dirL ps p i:=fun z hz=>by
  rcases hz with hz|hz
  ·exact .inl (List.mem_cons_of_mem _ hz)
  ·rcases List.mem_cons.1 hz with rfl|hz
   ·exact .inl List.mem_cons_self
   ·exact .inr (List.mem_append_left _ hz)
 refine⟨fun z hz => ?_,fun z hz => ?_,List.nodup_cons.2 ⟨hy,h.nodup⟩,fun z h1 h2=>hc z (h.c1 z h1 h2),fun w hw z h1 h2 => ?_,?_⟩
 ·rcases List.mem_cons.1 hz with rfl|hz
  ·exact hyx
  ·exact h.sv z hz
 ·rcases List.mem_append.1 hz with hz|hz
  ·exact h.qv z (List.mem_cons_of_mem _ hz)
  ·obtain⟨a,b⟩:=(dirL_iff hm hp hi z).1 hz
   exact⟨a,hyx.2.head b⟩
 ·rcases List.mem_cons.1 hw with rfl|hw
  ·exact .inr (List.mem_append_right _ ((dirL_iff hm hp hi z).2 ⟨h1,h2⟩))
  ·exact hc z (h.c2 w hw z h1 h2)
 ·have h1:=h.size
  have h2:=dirL_length ps p i
  simp only[List.length_cons,List.length_append] at h1 ⊢
  omega
theorem Psr.done {ps:List Pr} {x:Eid} {seen:List Eid} (h:Psr ps x seen []) {z:Eid} (hz:VEv ps z):z ∈ seen↔Reach ps z x:=by
 refine⟨fun hs=>(h.sv z hs).2,fun hr => ?_⟩
 have key:∀c,Reach ps z c→(c=x∨c ∈ seen)→z ∈ seen:=fun c hc=>by
  induction hc with
  | single hn =>
   rintro(rfl|hc)
   ·exact(h.c1 z hz hn).resolve_right (by simp)
   ·exact(h.c2 _ hc z hz hn).resolve_right (by simp)
  | @tail b c hb hn ih =>
   have hbv:VEv ps b:=Reach.valid hb hz
   rintro(rfl|hc)
   ·exact ih (.inr ((h.c1 b hbv hn).resolve_right (by simp)))
   ·exact ih (.inr ((h.c2 _ hc b hbv hn).resolve_right (by simp)))
 exact key x hr (.inl rfl)
theorem Psr.small {ps:List Pr} {x:Eid} {seen q:List Eid} (h:Psr ps x seen q):seen.length≤(evIds ps).length:=by
 have:=List.Nodup.length_le_of_subset h.nodup (l₂:=(evIds ps).map (·.1)) (fun y hy=>(h.sv y hy).1.mem)
 simpa using this
def pRow (ps:List Pr) (seen:List Eid) (p:Nat):List AV:=(List.range (nev ps p+1)).map fun (k:Nat)=>ab (decide (((p:Int),(k:Int)) ∈ seen))
theorem pRow_length (ps:List Pr) (seen:List Eid) (p:Nat):(pRow ps seen p).length=nev ps p+1:=by simp [pRow]
theorem pRow_get {ps:List Pr} {seen:List Eid} {p k:Nat} (hk:k<nev ps p+1):(pRow ps seen p).getD k .any=ab (decide (((p:Int),(k:Int)) ∈ seen)):=map_range_getD hk _
theorem pRow_set {ps:List Pr} {seen:List Eid} {p k:Nat} : (pRow ps seen p).set k (ab true)=pRow ps (((p:Int),(k:Int)) :: seen) p:=by
 unfold pRow
 rw[map_range_set];congr 1;funext j
 by_cases e:j=k
 ·subst e;rw[if_pos rfl,decide_eq_true List.mem_cons_self]
 ·rw[if_neg e]
  have:(((p:Int),(j:Int)) ∈ ((p:Int),(k:Int)) :: seen)↔(((p:Int),(j:Int)) ∈ seen):=by
   rw[List.mem_cons,Prod.mk.injEq]
   exact⟨fun h=>h.resolve_left fun h=>e (by omega),.inr⟩
  rw[decide_eq_decide.2 this]
theorem pRow_other {ps:List Pr} {seen:List Eid} {p k q:Nat} (h:q ≠ p):pRow ps (((p:Int),(k:Int)) :: seen) q=pRow ps seen q:=by
 unfold pRow
 congr 1;funext j
 have:(((q:Int),(j:Int)) ∈ ((p:Int),(k:Int)) :: seen)↔(((q:Int),(j:Int)) ∈ seen):=by
  rw[List.mem_cons,Prod.mk.injEq]
  exact⟨fun h'=>h'.resolve_left fun h'=>h (by omega),.inr⟩
 rw[decide_eq_decide.2 this]
theorem pRow_nil (ps:List Pr) (p:Nat):pRow ps [] p=List.replicate (nev ps p+1) (ab false):=by
 unfold pRow;apply List.ext_getElem (by simp);intro i h1 h2;simp
open Classical in
noncomputable def pastA (ps:List Pr) (x:Eid):AV:=.sl 1 ((List.range ps.length).map fun (p:Nat) => .sl 1 ((List.range (nev ps p+1)).map fun (k:Nat)=>ab (decide (VEv ps ((p:Int),(k:Int))∧Reach ps ((p:Int),(k:Int)) x))))
theorem pastA_of {ps:List Pr} {x:Eid} {seen:List Eid} (h:Psr ps x seen []):AV.sl 1 ((List.range ps.length).map fun p=>AV.sl 1 (pRow ps seen p))=pastA ps x:=by
 unfold pastA pRow
 congr 2;funext p;congr 2;funext k
 have:(((p:Int),(k:Int)) ∈ seen)↔(VEv ps ((p:Int),(k:Int))∧Reach ps ((p:Int),(k:Int)) x) :=
  ⟨fun hs=>h.sv _ hs,fun ⟨h1,h2⟩=>(h.done h1).2 h2⟩
 rw[decide_eq_decide.2 this]
theorem ref12_Directly (ps:List Pr) (hs:Sm ps) (p:Nat) (hp:p<ps.length) (i:Nat) (hi:i<ps[p].evs.length):MCalls Proofs.Tryz.prog 109 [aTr ps,aEid (p,(i:Int)+1)] [] fun r L=>AppSt 54 2 ((dirL ps p i).map aEid) r L:=by
 have hel:=hs.evs _ (List.getElem_mem hp)
 have hat:=ref12_At ps hs p hp i hi
 have hd:dirL ps p i=(if 0<i then [((p:Int),(i:Int))] else []) ++ (if ps[p].evs[i].kind=3 then [sndr ps ps[p].evs[i].msg] else []):=by
  unfold dirL;rw[evq_get hp hi]
 have hfd:=ref12_Find ps hs 2 ps[p].evs[i].msg
 have hse:findIn (evIds ps) 2 ps[p].evs[i].msg=sndr ps ps[p].evs[i].msg:=rfl
 rw[hse] at hfd
 rw[hd]
 generalize ps[p].evs[i]=e at *
 generalize sndr ps e.msg=sd at *
 have e1:(i:Int)+1 - 1=i:=by omega
 refine MCalls.enter' 33 [.tmp 4] [2,3,6,17,30] Proofs.Tryz.func109 rfl rfl rfl rfl rfl (by simp) (AWp.of ?_);simp only[go_sem]
 refine Wk ?_
 refine Wk ?_
 refine⟨fun h1 => ?_,fun h1 => ?_⟩
 ·rw[if_pos (show 0<i by omega)]
  refine W1 e1 ?_
  refine Sd ?_
  intro b cap g1
  refine Wk ?_
  refine Sd ?_
  refine(hat).val.use ?_;simp only[go_sem]
  refine Sd ?_
  intro b6 g2
  refine Wk ?_
  refine⟨fun h2 => ?_,fun h2 => ?_⟩
  ·rw[if_pos h2]
   refine Wk ?_
   refine Sd ?_
   refine(hfd).val.use ?_;simp only[go_sem]
   refine Sd ?_
   intro b2 cap2 g3
   refine Wk ?_
   refine ret_own ?_
   simp only[go_sem]
   rw[e1]
   exact .row _ [_,_] _
  ·rw[if_neg h2]
   refine Wk ?_
   refine ret_own ?_
   simp only[go_sem]
   rw[e1]
   exact .row _ [_] _
 ·rw[if_neg (show ¬0<i by omega)]
  refine Wk ?_
  refine Sd ?_
  refine(hat).val.use ?_;simp only[go_sem]
  refine Sd ?_
  intro b6
  refine Wk ?_
  refine⟨fun h2 => ?_,fun h2 => ?_⟩
  ·rw[if_pos h2]
   refine Wk ?_
   refine Sd ?_
   refine(hfd).val.use ?_;simp only[go_sem]
   refine Sd ?_
   intro b2 cap2 g3
   refine Wk ?_
   refine ret_own ?_
   simp only[go_sem]
   exact .row _ [_] _
  ·rw[if_neg h2]
   refine Wk ?_
   refine ret_own ?_
   simp only[go_sem]
   exact .nil
end Go.AL
end
section
namespace Go.AL
open Go Go.RowKit
set_option maxRecDepth 4000
def RSt (n bo cap:Nat) (Y:Nat→List AV) (L:AHeap):Prop :=
 ∃(V:Nat→AV) (Ls:Nat→AHeap),L.Perm ((bo,.row 125 1 ((List.range n).map V) cap) :: famL n Ls)∧∀p,p<n→AppSt 4 1 (Y p) (V p) (Ls p)
theorem RSt.perm {n bo cap:Nat} {Y:Nat→List AV} {L L':AHeap} (hp:L'.Perm L) (h:RSt n bo cap Y L):RSt n bo cap Y L' :=
 let ⟨V,Ls,h1,h2⟩:=h
 ⟨V,Ls,hp.trans h1,h2⟩
theorem RSt.open {n bo cap:Nat} {Y:Nat→List AV} {L:AHeap} (h:RSt n bo cap Y L) {p:Nat} (hp:p<n) (hY:0<(Y p).length) :
  ∃(V:Nat→AV) (b cp:Nat) (X:AHeap),L.Perm ((bo,.row 125 1 ((List.range n).map V) cap) :: (b,.row 4 1 (Y p) cp) :: X)∧V p = .ls b 1 0 (Y p).length cp ∧
   ∀(Y':Nat→List AV) (L':AHeap),(∀q,q ≠ p→Y' q=Y q)→(Y' p).length=(Y p).length→L'.Perm ((bo,.row 125 1 ((List.range n).map V) cap) :: (b,.row 4 1 (Y' p) cp) :: X)→RSt n bo cap Y' L':=by
 obtain⟨V,Ls,h1,h2⟩:=h
 rcases (h2 p hp).inv with ⟨e,_,_⟩|⟨b,cp,e1,e2⟩
 ·rw[e] at hY;simp at hY
 ·have hsp:=fam_split hp Ls
  rw[e2] at hsp
  refine⟨V,b,cp,famR n p Ls,h1.trans (hsp.cons _),e1,fun Y' L' hq hl hL => ?_⟩
  refine⟨V,fun q=>if q=p then [(b,.row 4 1 (Y' p) cp)] else Ls q,?_,fun q hqn => ?_⟩
  ·refine hL.trans (List.Perm.cons _ ?_)
   have hsp:=fam_split hp (fun q=>if q=p then [(b,ABlk.row 4 1 (Y' p) cp)] else Ls q)
   rw[if_pos rfl,famR_congr (Ls:=Ls) (fun q hq=>if_neg hq)] at hsp
   exact hsp.symm
  ·by_cases e:q=p
   ·subst e;dsimp only;rw[if_pos rfl,e1,← hl];exact .row _ _ _
   ·dsimp only;rw[if_neg e,hq q e];exact h2 q hqn
def QSt (q:List Eid) (v:AV) (L:AHeap):Prop :=
 (q=[]∧v=anil∧L=[])∨∃b off cap capb xs,v = .ls b 2 off q.length cap∧L=[(b,.row 54 2 xs capb)]∧(xs.drop off).take q.length=q.map aEid∧off+q.length≤xs.length∧q.length≤cap∧off+cap=capb
theorem QSt.of {q:List Eid} {v:AV} {L:AHeap} (h:AppSt 54 2 (q.map aEid) v L) (hc:∀b cap,L=[(b,.row 54 2 (q.map aEid) cap)]→q.length≤cap):QSt q v L:=by
 rcases h.inv with ⟨e1,e2,e3⟩|⟨b,cap,e1,e2⟩
 ·exact .inl ⟨by simpa using e1,e2,e3⟩
 ·refine .inr ⟨b,0,cap,cap,q.map aEid,by rw[e1,List.length_map],e2,?_,by simp,hc b cap e2,by omega⟩
  rw[List.drop_zero,List.take_of_length_le (by simp)]
theorem AWp.queue {C:Cfg} {c:Code} {Q:AQ} {ρ:Env} {L Lq L1:AHeap} {q:List Eid} {v:AV} (hP:L.Perm (Lq ++ L1)) (hA:AppSt 54 2 (q.map aEid) v Lq) (h:QSt q v Lq→AWp C c Q ρ L):AWp C c Q ρ L:=by
 rcases hA.inv with ⟨e1,e2,e3⟩|⟨b,cap,e1,e2⟩
 ·exact h (.inl ⟨by simpa using e1,e2,e3⟩)
 ·subst e2
  refine AWp.rowLe (hP.mem_iff.2 (List.mem_append_left _ (List.mem_singleton_self _))) fun hle=>h (QSt.of hA fun b' cap' e => ?_)
  simp only[List.cons.injEq,Prod.mk.injEq,ABlk.row.injEq,and_true] at e
  obtain⟨_,_,_,_,rfl⟩:=e
  simpa using hle
theorem queue_tail {xs:List AV} {off n:Nat} {a:AV} {l:List AV} (h:(xs.drop off).take (n+1)=a :: l):xs.getD off .any=a∧(xs.drop (off+1)).take n=l:=by
 have hd:xs.drop (off+1)=(xs.drop off).drop 1:=by rw[List.drop_drop]
 cases hx:xs.drop off with
 | nil=>rw[hx] at h;cases h
 | cons b r =>
  rw[hx] at h
  simp only[List.take_succ_cons,List.cons.injEq] at h
  refine⟨?_,by rw[hd,hx];simpa using h.2⟩
  have e:xs[off]?=some b:=by
   have:=List.getElem?_drop (xs:=xs) (i:=off) (j:=0)
   rw[hx] at this
   simpa using this.symm
  rw[List.getD_eq_getElem?_getD,e];exact h.1
theorem ref12_Past (ps:List Pr) (hs:Sm ps) (hm:msgF ps=none) (hn:1≤ps.length) (p:Nat) (hp:p<ps.length) (i:Nat) (hi:i<ps[p].evs.length):PC Proofs.Tryz.prog 79 [aTr ps,aEid (p,(i:Int)+1)] (pastA ps ((p:Int),(i:Int)+1)):=by
 have hl:=hs.procs
 refine PC.enter 75 [.tmp 4] [2,3,8,28,72] Proofs.Tryz.func79 rfl rfl rfl rfl rfl (by simp) (AWp.of ?_);simp only[go_sem]
 refine Sd ?_
 refine AWp.of ?_;simp only[go_sem]
 refine AWp.cut [2,3,5] (fun vs L=>∃bo cap,vs=[.rp 1 [aTr ps] 0 0,.rp 2 [aEid (p,(i:Int)+1)] 0 0,.ls bo 1 0 ps.length cap]∧RSt ps.length bo cap (pRow ps []) L) ?_ ?_
 ·refine Wk ?_
  refine AWp.block (AWp.count 6 ps.length [5] [2,3] (fun k vs L=>∃v Lv V Ls,vs=[v]∧L.Perm (Lv ++ famL k Ls)∧AppSt 125 1 ((List.range k).map V) v Lv∧∀q,q<k→AppSt 4 1 (pRow ps [] q) (V q) (Ls q))
   rfl rfl ⟨anil,[],fun _=>anil,fun _=>[],rfl,.refl _,.nil,fun q hq=>by omega⟩ ?_)
  rintro k vs L hk - ⟨v,Lv,V,Ls,rfl,hP,hA,hF⟩
  refine AWp.perm hP ?_
  simp only[go_sem]
  refine Wk ?_
  refine⟨fun h1 => ?_,fun h1 => ?_⟩
  ·have hkp:k<ps.length:=by omega
   have hel:=hs.evs _ (List.getElem_mem hkp)
   have e1:((ps[k].evs.length:Int)+1).toNat=nev ps k+1:=by rw[nev_get hkp];omega
   have hz:ab false :: List.replicate (nev ps k) (ab false)=pRow ps [] k:=by rw[pRow_nil,List.replicate_succ]
   have hzl:=pRow_length ps [] k
   -- the family with one row more
   have hfam:∀b:Nat,(famL (k+1) (fun q=>if q=k then [(b,ABlk.row 4 1 (pRow ps [] k) (nev ps k+1))] else Ls q)).Perm ((b,.row 4 1 (pRow ps [] k) (nev ps k+1)) :: famL k Ls):=fun b=>by
    unfold famL
    rw[List.range_succ,List.flatMap_append]
    have e:(List.range k).flatMap (fun q=>if q=k then [(b,ABlk.row 4 1 (pRow ps [] k) (nev ps k+1))] else Ls q)=(List.range k).flatMap Ls :=
     flatMap_ext fun q hq=>if_neg (by have:=List.mem_range.1 hq;omega)
    rw[e]
    simp only[List.flatMap_cons,List.flatMap_nil,if_true]
    exact List.perm_append_comm (l₂:=[_])
   have hmap:∀x,(List.range k ++ [k]).map (fun q=>if q=k then x else V q)=(List.range k).map V ++ [x]:=fun x=>by
    rw[List.map_append]
    congr 1
    ·refine List.map_congr_left fun q hq=>if_neg (by have:=List.mem_range.1 hq;omega)
    ·simp
   have hAll:∀b:Nat,∀q,q<k+1→AppSt 4 1 (pRow ps [] q) (if q=k then .ls b 1 0 (nev ps k+1) (nev ps k+1) else V q) (if q=k then [(b,ABlk.row 4 1 (pRow ps [] k) (nev ps k+1))] else Ls q):=fun b q hq=>by
    by_cases e:q=k
    ·subst e
     rw[if_pos rfl,if_pos rfl]
     have:=AppSt.row (t:=4) (k:=1) b (pRow ps [] q) (nev ps q+1)
     rwa [hzl] at this
    ·rw[if_neg e,if_neg e];exact hF q (by omega)
   have hyl:((List.range k).map V).length=k:=by simp
   generalize (List.range k).map V=ys at *
   rcases hA.inv with ⟨e2,rfl,rfl⟩|⟨bv,cap,rfl,rfl⟩
   ·refine Sd ?_
    refine AWp.of ?_;simp only[go_sem,getD_map hkp,e1]
    refine Sd ?_
    intro b hb b' cap' g1 g2 g3
    rw[hz]
    refine Wk ?_
    refine⟨_,List.Sublist.refl _,.ls b' 1 0 1 cap',[(b',.row 125 1 [.ls b 1 0 (nev ps k+1) (nev ps k+1)] cap')],_,_,rfl,List.Perm.cons _ (hfam b).symm,?_,hAll b⟩
    rw[hmap,e2]
    exact .row _ [_] _
   ·refine Sd ?_
    refine AWp.of ?_;simp only[go_sem,getD_map hkp,e1]
    refine Sd ?_
    intro b hb g0
    have nb:¬bv=b:=by omega
    simp only[go_sem,nb]
    refine Sd ?_
    intro b' cap' g1 g2 g3
    rw[hz]
    refine Wk ?_
    refine⟨_,List.Sublist.refl _,.ls b' 1 0 (ys.length+1) cap',[(b',.row 125 1 (ys ++ [.ls b 1 0 (nev ps k+1) (nev ps k+1)]) cap')],_,_,rfl,List.Perm.cons _ (hfam b).symm,?_,hAll b⟩
    rw[hmap]
    have:=AppSt.row (t:=125) (k:=1) b' (ys ++ [.ls b 1 0 (nev ps k+1) (nev ps k+1)]) cap'
    simpa using this
  ·have hkn:k=ps.length:=by omega
   subst hkn
   rcases hA.inv with ⟨e2,rfl,rfl⟩|⟨bv,cap,rfl,rfl⟩
   ·have h9:ps.length=0:=by have:=congrArg List.length e2;simpa using this
    omega
   ·refine⟨_,List.Sublist.refl _,bv,cap,?_,V,Ls,.refl _,hF⟩
    simp
 ·rintro vs L - ⟨bo,cap,rfl,hR⟩
  have hdir:=ref12_Directly ps hs p hp i hi
  simp only[go_sem]
  have hE:=evIds_small hs
  refine AWp.cut [2,5,7] (fun vs L=>∃v Lq L1,vs=[.rp 1 [aTr ps] 0 0,.ls bo 1 0 ps.length cap,v]∧L.Perm (Lq ++ L1)∧AppSt 54 2 ((dirL ps p i).map aEid) v Lq∧RSt ps.length bo cap (pRow ps []) L1) ?_ ?_
  ·refine Sd ?_
   refine AWp.of ?_;simp only[go_sem]
   refine((hdir.val).frame (Lr:=L)).mono ?_
   rintro r L' ⟨Lq,rfl,hA⟩
   have hfo:=hA.fo
   simp only[go_sem,hfo]
   exact⟨_,List.Sublist.refl _,r,Lq,L,rfl,.refl _,hA,hR⟩
  ·rintro vs L' - ⟨v,Lq,L1,rfl,hP,hA,hR⟩
   refine AWp.queue hP hA fun hQ => ?_
   simp only[go_sem]
   refine AWp.seq (AWp.block (AWp.loopN [7] [2,5] (fun m vs L=>∃seen q v Lq L1,vs=[v]∧L.Perm (Lq ++ L1)∧QSt q v Lq∧RSt ps.length bo cap (pRow ps seen) L1∧Psr ps ((p:Int),(i:Int)+1) seen q∧m=3 * ((evIds ps).length - seen.length)+q.length)
    (3 * ((evIds ps).length - 0)+(dirL ps p i).length) ?_ ?_))
   ·exact⟨[],_,v,Lq,L1,rfl,hP,hQ,hR,Psr.start hm hp hi,rfl⟩
   rintro m vs L - ⟨seen,q,v,Lq,L1,rfl,hP,hQ,hR,hS,rfl⟩
   -- the end,where the queue is empty
   have hend:q=[]→fo v=(True,v)→True:=fun _ _=>trivial
   rcases hQ with ⟨rfl,rfl,rfl⟩|⟨b,off,cq,capq,xs,rfl,rfl,hxs,hl1,hl2,hl3⟩
   ·simp only[go_sem]
    refine Wk ?_
    intro _
    obtain⟨V,Ls,hPr,hF⟩:=hR
    have hP2:=hP.trans (List.Perm.append_left _ hPr)
    obtain⟨Lx,hLx⟩:∃Lx:AHeap,Lx=[]:=⟨_,rfl⟩
    rw[← hLx] at hP2
    refine AWp.nodup fun hnd => ?_
    have hP3:L.Perm (famL ps.length Ls ++ ((bo,.row 125 1 ((List.range ps.length).map V) cap) :: Lx)):=hP2.trans ((List.perm_append_comm (l₁:=Lx)).trans ((List.perm_append_comm (l₁:=[_])).append_right _ |>.trans (by rw[List.append_assoc];exact .refl _)))
    have hnd':((famL ps.length Ls).map (·.1)).Nodup:=by
     have:=(hP3.map (·.1)).nodup_iff.1 hnd
     rw[List.map_append,List.nodup_append] at this
     exact this.1
    refine AWp.viewP hP3 (.row (fam_views hnd' hF) (LVw.none _)) [] (by simp) ?_
    simp only[go_sem]
    refine Wk ?_
    refine ret_view [true] ?_;simp only[go_sem]
    rw[← pastA_of hS]
    exact Vw.ofLs (t:=125) (cap:=cap) (if_pos rfl) (by simp)
   ·cases q with
    | nil =>
     simp only[go_sem]
     refine Wk ?_
     intro _
     obtain⟨V,Ls,hPr,hF⟩:=hR
     have hP2:=hP.trans (List.Perm.append_left _ hPr)
     obtain⟨Lx,hLx⟩:∃Lx:AHeap,Lx=[(b,.row 54 2 xs capq)]:=⟨_,rfl⟩
     rw[← hLx] at hP2
     refine AWp.nodup fun hnd => ?_
     have hP3:L.Perm (famL ps.length Ls ++ ((bo,.row 125 1 ((List.range ps.length).map V) cap) :: Lx)):=hP2.trans ((List.perm_append_comm (l₁:=Lx)).trans ((List.perm_append_comm (l₁:=[_])).append_right _ |>.trans (by rw[List.append_assoc];exact .refl _)))
     have hnd':((famL ps.length Ls).map (·.1)).Nodup:=by
      have:=(hP3.map (·.1)).nodup_iff.1 hnd
      rw[List.map_append,List.nodup_append] at this
      exact this.1
     refine AWp.viewP hP3 (.row (fam_views hnd' hF) (LVw.none _)) [] (by simp) ?_
     simp only[go_sem]
     refine Wk ?_
     refine ret_view [true] ?_;simp only[go_sem]
     rw[← pastA_of hS]
     exact Vw.ofLs (t:=125) (cap:=cap) (if_pos rfl) (by simp)
    | cons y q' =>
     simp only[List.length_cons,List.map_cons] at hxs hl1 hl2
     obtain⟨hg0,htl⟩:=queue_tail hxs
     have hsz:=hS.size
     have hsm:=hS.small
     simp only[List.length_cons] at hsz
     obtain⟨⟨py,hpy,iy,hiy,rfl⟩,hreach⟩:=hS.qv y List.mem_cons_self
     have hnv:=nev_get hpy
     have hely:=hs.evs _ (List.getElem_mem hpy)
     obtain⟨V,br,cp,X,hPr,hVr,hcl⟩:=hR.open hpy (by rw[pRow_length];omega)
     refine AWp.perm (hP.trans (hPr.cons _)) (AWp.nodup fun hnd => ?_)
     obtain⟨⟨m1,m2⟩,⟨m3,m4⟩,⟨m5,m6⟩,_⟩:=nd3 hnd
     have hgV:((List.range ps.length).map V).getD py .any = .ls br 1 0 (nev ps py+1) cp:=by rw[map_range_getD hpy,hVr,pRow_length]
     have hgr:(pRow ps seen py).getD ((iy:Int)+1).toNat .any=ab (decide (((py:Int),(iy:Int)+1) ∈ seen)):=by
      have e:((iy:Int)+1).toNat=iy+1:=by omega
      rw[e,pRow_get (by omega)];simp
     have hrl:=pRow_length ps seen py
     simp only[go_sem]
     refine Wk ?_
     refine⟨fun _ => ?_,fun h=>(by exfalso;omega)⟩
     refine W1 hg0 ?_
     refine Sd ?_
     intro b8 h8 h9 h10 h11
     refine Wk ?_
     refine AWp.seq (AWp.seq ?_)
     repeat(first|(with_reducible refine AWp.seq ?_)|(with_reducible refine AWp.block ?_))
     refine AWp.mix mixed [0,1,2,3,5,6] (.step 4 (.step 7 (.step 8 .done .done) .done) .done) (by kernel_rfl) ?_;simp only[go_sem,m1,m2,m3,m4,m5,m6,hgV,hgr,hrl,List.length_range]
     refine Sd ?_
     refine Wk ?_
     refine⟨fun h1 => ?_,fun h1 => ?_⟩
     ·refine Wk ?_
      refine⟨_,List.Sublist.refl _,3 * ((evIds ps).length - seen.length)+q'.length,by omega,seen,q',_,[(b,.row 54 2 xs capq)],(bo,.row 125 1 ((List.range ps.length).map V) cap) :: (br,.row 4 1 (pRow ps seen py) cp) :: X,rfl,.refl _,?_,hR.perm hPr.symm,hS.skip h1,rfl⟩
      exact .inr ⟨b,off+1,cq - 1,capq,xs,by rw[Nat.add_sub_cancel],rfl,htl,by omega,by omega,by omega⟩
     ·have hset:(pRow ps seen py).set ((iy:Int)+1).toNat (ab true)=pRow ps (((py:Int),(iy:Int)+1) :: seen) py:=by
       have e:((iy:Int)+1).toNat=iy+1:=by omega
       rw[e];exact pRow_set
      have hR2:RSt ps.length bo cap (pRow ps (((py:Int),(iy:Int)+1) :: seen)) ((bo,.row 125 1 ((List.range ps.length).map V) cap) :: (br,.row 4 1 (pRow ps (((py:Int),(iy:Int)+1) :: seen) py) cp) :: X) :=
       hcl _ _ (fun q hq=>pRow_other (k:=iy+1) hq) (by rw[pRow_length,pRow_length]) (.refl _)
      have hmk:=Psr.mark hm hpy hiy hS h1
      have hdir2:=ref12_Directly ps hs py hpy iy hiy
      have hd2:=dirL_length ps py iy
      have hms:=hmk.small
      simp only[List.length_cons] at hms
      refine AWp.seq ?_
      repeat(first|(with_reducible refine AWp.seq ?_)|(with_reducible refine AWp.block ?_))
      refine AWp.mix mixed [0,1,2,3,5,6] (.step 4 (.step 7 (.step 8 .done .done) .done) .done) (by kernel_rfl) ?_;simp only[go_sem,m1,m2,m3,m4,m5,m6,hgV,hgr,hrl,List.length_range]
      refine Sd ?_
      rw[hset]
      generalize dirL ps py iy=dl at *
      obtain⟨LR,hLR⟩:∃LR:AHeap,LR=(bo,.row 125 1 ((List.range ps.length).map V) cap) :: (br,.row 4 1 (pRow ps (((py:Int),(iy:Int)+1) :: seen) py) cp) :: X:=⟨_,rfl⟩
      rw[← hLR] at hR2 ⊢
      refine Wk ?_
      refine((hdir2.val).frame (Lr:=(b,.row 54 2 xs capq) :: LR)).mono ?_
      rintro r L' ⟨Ln,rfl,hAn⟩
      have hfo:=hAn.fo
      simp only[go_sem,hfo]
      refine AWp.viewP (Lf:=Ln) (Lk:=(b,.row 54 2 xs capq) :: LR) (.refl _) (LVw.refl _) [(9,.sl 2 (dl.map aEid))] ?_ ?_
      ·intro q hq
       simp only[List.mem_singleton] at hq
       subst hq
       have:=hAn.vw []
       rw[List.append_nil] at this
       show Vw Ln _ (.sl 2 (dl.map aEid))
       simpa only [get,if_true] using this
      simp only[go_sem]
      refine Wk ?_
      refine AWp.block (AWp.count 10 dl.length [7] [2,5,9] (fun j vs L=>∃v Lq L1,vs=[v]∧L.Perm (Lq ++ L1)∧QSt (q' ++ dl.take j) v Lq∧RSt ps.length bo cap (pRow ps (((py:Int),(iy:Int)+1) :: seen)) L1) rfl rfl ?_ ?_)
      ·refine⟨_,[(b,.row 54 2 xs capq)],LR,rfl,.refl _,?_,hR2⟩
       rw[List.take_zero,List.append_nil]
       exact .inr ⟨b,off+1,cq - 1,capq,xs,rfl,rfl,htl,by omega,by omega,by omega⟩
      rintro j vs L hj - ⟨w,Lw,L2,rfl,hPw,hQw,hRw⟩
      refine AWp.perm hPw ?_
      simp only[go_sem]
      refine Wk ?_
      refine⟨fun h2 => ?_,fun h2 => ?_⟩
      ·have hjd:j<dl.length:=by omega
       have hgj:=getD_map (f:=aEid) hjd
       have hsu:q' ++ dl.take (j+1)=(q' ++ dl.take j) ++ [dl[j]]:=by rw[List.take_succ_eq_append_getElem hjd,List.append_assoc]
       have hql:(q' ++ dl.take j).length≤q'.length+2:=by rw[List.length_append,List.length_take];omega
       obtain⟨qq,hqq⟩:∃qq,q' ++ dl.take j=qq:=⟨_,rfl⟩
       rw[hqq] at hQw hsu hql
       generalize dl[j]=z at *
       rcases hQw with ⟨rfl,rfl,rfl⟩|⟨bw,ow,cw,capw,ys,rfl,rfl,hys,y1,y2,y3⟩
       ·refine Sd ?_
        refine AWp.of ?_;simp only[go_sem,hgj]
        refine Sd ?_
        intro b' cap' g1 g2
        refine Wk ?_
        refine⟨_,List.Sublist.refl _,.ls b' 2 0 1 cap',[(b',.row 54 2 [aEid z] cap')],L2,rfl,.refl _,.inr ⟨b',0,cap',cap',[aEid z],by rw[hsu];rfl,rfl,by rw[hsu];simp,by rw[hsu];simp,by rw[hsu];simpa using g2,by omega⟩,hRw⟩
       ·have hzl:(qq ++ [z]).length=qq.length+1:=by simp
        cases ow with
        | zero =>
         simp only[Nat.zero_add] at y3 y1
         subst y3
         rw[List.drop_zero] at hys
         refine Sd ?_
         refine AWp.of ?_;simp only[go_sem,hgj]
         refine Sd ?_
         intro b' cap' g1 g2
         refine Wk ?_
         refine⟨_,List.Sublist.refl _,.ls b' 2 0 (qq.length+1) cap',[(b',.row 54 2 (ys.take qq.length ++ [aEid z]) cap')],L2,rfl,.refl _,.inr ⟨b',0,cap',cap',_,by rw[hsu,hzl],rfl,?_,?_,by rw[hsu,hzl];exact g2,by omega⟩,hRw⟩
         ·rw[hsu,hys,List.drop_zero,List.take_of_length_le (by simp)];simp
         ·rw[hsu,hys];simp
        | succ ow =>
         refine Sd ?_
         refine AWp.of ?_;simp only[go_sem,hgj]
         refine Sd ?_
         refine⟨fun g2 => ?_,fun b' cap' g1 g2 => ?_⟩
         ·refine Wk ?_
          refine⟨_,List.Sublist.refl _,.ls bw 2 (ow+1) (qq.length+1) cw,[(bw,.row 54 2 (ys.take (ow+1+qq.length) ++ [aEid z]) capw)],L2,rfl,.refl _,.inr ⟨bw,ow+1,cw,capw,_,by rw[hsu,hzl],rfl,?_,?_,by rw[hsu,hzl];exact g2,y3⟩,hRw⟩
          ·have hd:(ys.take (ow+1+qq.length)).drop (ow+1)=qq.map aEid:=by
            rw[List.drop_take,Nat.add_sub_cancel_left];exact hys
           rw[hsu,List.drop_append_of_le_length (by rw[List.length_take];omega),hd,List.take_of_length_le (by simp)];simp
          ·rw[hsu,hzl,List.length_append,List.length_take];simp only[List.length_cons,List.length_nil];omega
         ·intro g3
          refine Wk ?_
          refine⟨_,List.Sublist.refl _,.ls b' 2 0 (qq.length+1) cap',[(b',.row 54 2 ((ys.drop (ow+1)).take qq.length ++ [aEid z]) cap')],L2,rfl,.refl _,.inr ⟨b',0,cap',cap',_,by rw[hsu,hzl],rfl,?_,?_,by rw[hsu,hzl];omega,by omega⟩,hRw⟩
          ·rw[hsu,hys,List.drop_zero,List.take_of_length_le (by simp)];simp
          ·rw[hsu,hys];simp
      ·refine Wk ?_
       refine⟨_,List.Sublist.refl _,3 * ((evIds ps).length - (seen.length+1))+(q' ++ dl).length,?_,_,_,w,Lw,L2,rfl,.refl _,?_,hRw,hmk,by simp⟩
       ·rw[List.length_append];omega
       ·rwa [List.take_of_length_le (by omega)] at hQw
theorem pairF_zero {ps:List Pr} (h:∀p (hp:p<ps.length) i (hi:i<ps[p].evs.length),pairF ps (off ps p+i)=0):msgF ps=none:=by
 refine msgF_none fun k hk => ?_
 obtain⟨p,hp,i,hi,e,_⟩:=evIds_inv (List.getElem?_eq_getElem hk)
 rw[e];exact h p hp i hi
def Ahead (ps:List Pr) (f:Nat→Nat→Prop) (p i:Nat):Prop:=(∀q (hq:q<ps.length) j,q<p→j<ps[q].evs.length→f q j)∧∀j,j<i→f p j
theorem Ahead.next {ps:List Pr} {f:Nat→Nat→Prop} {p i:Nat} (h:Ahead ps f p i) (hf:f p i):Ahead ps f p (i+1) :=
 ⟨h.1,fun j hj=>by
  by_cases e:j=i
  ·rw[e];exact hf
  ·exact h.2 j (by omega)⟩
theorem Ahead.row {ps:List Pr} {f:Nat→Nat→Prop} {p:Nat} (hp:p<ps.length) (h:Ahead ps f p ps[p].evs.length):Ahead ps f (p+1) 0 :=
 ⟨fun q hq j hqp hj=>by
  by_cases e:q=p
  ·subst e;exact h.2 j hj
  ·exact h.1 q hq j (by omega) hj,fun j hj=>by omega⟩
theorem Ahead.idx {ps:List Pr} {f:Nat→Nat→Prop} {p i:Nat} (hp:p<ps.length) (hi:i≤ps[p].evs.length) (h:Ahead ps f p i) {q j:Nat} (hq:q<ps.length) (hj:j<ps[q].evs.length) (hlt:off ps q+j<off ps p+i):f q j:=by
 have mono:∀a b,a≤b→b≤ps.length→off ps a≤off ps b:=by
  intro a b hab hb
  induction b with
  | zero=>have:a=0:=by omega
          subst this;exact Nat.le_refl _
  | succ b ih =>
   by_cases e:a=b+1
   ·subst e;exact Nat.le_refl _
   ·have:=ih (by omega) (by omega)
    rw[off_succ (by omega)];omega
 by_cases h1:q<p
 ·exact h.1 q hq j h1 hj
 ·by_cases h2:q=p
  ·subst h2;exact h.2 j (by omega)
  ·have h3:=mono (p+1) q (by omega) (by omega)
   rw[off_succ hp] at h3
   omega
open Classical in
noncomputable def pastR (ps:List Pr) (x:Eid) (p:Nat):List AV:=(List.range (nev ps p+1)).map fun (k:Nat)=>ab (decide (VEv ps ((p:Int),(k:Int))∧Reach ps ((p:Int),(k:Int)) x))
theorem pastA_eq (ps:List Pr) (x:Eid):pastA ps x = .sl 1 ((List.range ps.length).map fun p => .sl 1 (pastR ps x p)):=rfl
open Classical in
theorem pastR_get {ps:List Pr} (x:Eid) {p:Nat} (hp:p<ps.length) {i:Nat} (hi:i<ps[p].evs.length):(pastR ps x p).getD ((i:Int)+1).toNat .any=ab (decide (Reach ps ((p:Int),(i:Int)+1) x)):=by
 have e:((i:Int)+1).toNat=i+1:=by omega
 unfold pastR
 rw[e,map_range_getD (by rw[nev_get hp];omega)]
 have hc:(((i+1:Nat):Int))=(i:Int)+1:=rfl
 rw[hc]
 have hv:VEv ps ((p:Int),(i:Int)+1):=⟨p,hp,i,hi,rfl⟩
 congr 2
 exact propext ⟨fun h=>h.2,fun h=>⟨hv,h⟩⟩
theorem ref12_Fault (ps:List Pr) (hs:Sm ps):PC Proofs.Tryz.prog 40 [aTr ps] (aFault (faultF ps)):=by
 have hl:=hs.procs
 refine PC.enter 137 [.cell 2 54,.tmp 3] [1,11,15] Proofs.Tryz.func40 rfl rfl rfl rfl rfl (by simp) (AWp.of ?_);simp only[go_sem]
 intro b2
 refine Wk ?_
 refine Wk ?_
 refine⟨fun h1 => ?_,fun h1 => ?_⟩
 ·refine Wk ?_
  have hf:faultF ps=((0,0),1):=by
   unfold faultF
   rw[if_pos]
   unfold inI
   rw[Bool.not_eq_true',← Bool.not_eq_true,Bool.and_eq_true,decide_eq_true_eq,decide_eq_true_eq]
   omega
  rw[hf]
  refine ret_eq ?_
  simp only[go_sem]
 ·intro h1'
  have hin:¬((!inI ps.length 1 8)=true):=by
   unfold inI
   rw[Bool.not_eq_true',← Bool.not_eq_true,Bool.and_eq_true,decide_eq_true_eq,decide_eq_true_eq]
   omega
  refine Wk ?_
  refine AWp.block (AWp.count 4 ps.length [] [1,2] (fun k vs L=>L=[(b2,.row 54 2 [aEid (0,0)] 1)]∧∀j,j<k→procF ps j=0) rfl rfl ⟨by simp [aEid],by omega⟩ ?_)
  rintro k vs L hk - ⟨rfl,hI⟩
  simp only[go_sem]
  refine Wk ?_
  refine⟨fun h2 => ?_,fun h2 => ?_⟩
  ·have hkp:k<ps.length:=by omega
   refine Wk ?_
   refine Sd ?_
   refine(ref12_head ps hs k hkp).val.use ?_;simp only[go_sem]
   refine Wk ?_
   refine⟨fun h3 => ?_,fun h3 => ?_⟩
   ·refine Wk ?_
    have hf:faultF ps=(((k:Int),0),procF ps k):=by unfold faultF;rw[if_neg hin,procFirst_hit hkp hI h3]
    rw[hf]
    refine ret_eq ?_
    simp only[go_sem]
   ·refine Wk ?_
    refine⟨_,List.Sublist.refl _,rfl,fun j hj => ?_⟩
    by_cases e:j=k
    ·rw[e];exact h3
    ·exact hI j (by omega)
  ·have hpf:=procFirst_none (ps:=ps) fun j hj=>hI j (by omega)
   refine Wk ?_
   refine AWp.block (AWp.count 6 ps.length [] [1,2] (fun p vs L=>L=[(b2,.row 54 2 [aEid (0,0)] 1)]∧Ahead ps (fun q j=>evF ps q j=0) p 0) rfl rfl ⟨by simp [aEid],fun _ _ _ h=>by omega,fun j hj=>by omega⟩ ?_)
   rintro p vs L hp - ⟨rfl,hA⟩
   simp only[go_sem]
   refine Wk ?_
   refine⟨fun h4 => ?_,fun h4 => ?_⟩
   ·have hpp:p<ps.length:=by omega
    have hgP:=getD_map (f:=aPr) hpp
    have hel:=hs.evs _ (List.getElem_mem hpp)
    refine Wk ?_
    refine AWp.block (AWp.count 7 ps[p].evs.length [] [1,2,6] (fun i vs L=>L=[(b2,.row 54 2 [aEid (0,0)] 1)]∧Ahead ps (fun q j=>evF ps q j=0) p i) rfl rfl ⟨by simp [aEid],hA⟩ ?_)
    rintro i vs L hi - ⟨rfl,hB⟩
    simp only[go_sem]
    refine W1 hgP ?_
    refine⟨fun h5 => ?_,fun h5 => ?_⟩
    ·have hie:i<ps[p].evs.length:=by omega
     refine Wk ?_
     refine Sd ?_
     refine(ref12_form ps hs p hpp i hie).val.use ?_;simp only[go_sem]
     refine Wk ?_
     refine⟨fun h6 => ?_,fun h6 => ?_⟩
     ·refine Wk ?_
      have hat:evAt ps ((p:Int),(i:Int)+1)=evF ps p i:=by simp only[evAt,Int.toNat_natCast,show ((i:Int)+1 - 1).toNat=i by omega]
      have hhit:=evFirst_hit (evIds_get hpp hie) (fun j y hj hy=>by
       obtain⟨q,hq,r,hr,e,rfl⟩:=evIds_inv hy
       have:=hB.idx hpp (by omega) hq hr (by omega)
       simpa only [evAt,Int.toNat_natCast,show ((r:Int)+1 - 1).toNat=r by omega] using this) (by rw[hat];exact h6)
      have hf:faultF ps=(((p:Int),(i:Int)+1),evF ps p i):=by unfold faultF;rw[if_neg hin,hpf,hhit,hat]
      rw[hf]
      refine ret_eq ?_
      simp only[go_sem]
     ·refine Wk ?_
      exact⟨_,List.Sublist.refl _,rfl,hB.next h6⟩
    ·have e:i=ps[p].evs.length:=by omega
     rw[e] at hB
     refine Wk ?_
     exact⟨_,List.Sublist.refl _,rfl,hB.row hpp⟩
   ·have hpn:p=ps.length:=by omega
    have hef:evFirst ps=none:=evFirst_none fun j y hy=>by
     obtain⟨q,hq,r,hr,e,rfl⟩:=evIds_inv hy
     have:=hA.1 q hq r (by omega) hr
     simpa only [evAt,Int.toNat_natCast,show ((r:Int)+1 - 1).toNat=r by omega] using this
    have hfm:=formed_of_evFirst hef
    clear hA
    refine Wk ?_
    refine AWp.block (AWp.count 9 ps.length [] [1,2] (fun p vs L=>L=[(b2,.row 54 2 [aEid (0,0)] 1)]∧Ahead ps (fun q j=>pairF ps (off ps q+j)=0) p 0) rfl rfl ⟨by simp [aEid],fun _ _ _ h=>by omega,fun j hj=>by omega⟩ ?_)
    rintro p vs L hp - ⟨rfl,hA⟩
    simp only[go_sem]
    refine Wk ?_
    refine⟨fun h4 => ?_,fun h4 => ?_⟩
    ·have hpp:p<ps.length:=by omega
     have hgP:=getD_map (f:=aPr) hpp
     have hel:=hs.evs _ (List.getElem_mem hpp)
     refine Wk ?_
     refine AWp.block (AWp.count 10 ps[p].evs.length [] [1,2,9] (fun i vs L=>L=[(b2,.row 54 2 [aEid (0,0)] 1)]∧Ahead ps (fun q j=>pairF ps (off ps q+j)=0) p i) rfl rfl ⟨by simp [aEid],hA⟩ ?_)
     rintro i vs L hi - ⟨rfl,hB⟩
     simp only[go_sem]
     refine W1 hgP ?_
     refine⟨fun h5 => ?_,fun h5 => ?_⟩
     ·have hie:i<ps[p].evs.length:=by omega
      refine Wk ?_
      intro b11 _
      refine Wk ?_
      refine Sd ?_
      refine(ref12_paired ps hs hfm p hpp i hie).val.use ?_;simp only[go_sem]
      refine Wk ?_
      refine⟨fun h6 => ?_,fun h6 => ?_⟩
      ·refine Wk ?_
       have hhit:=msgF_hit (evIds_get hpp hie) (fun j hj=>by
        have hjl:j<(evIds ps).length:=by have:=(List.getElem?_eq_some_iff.1 (evIds_get hpp hie)).1;omega
        obtain⟨q,hq,r,hr,e,_⟩:=evIds_inv (List.getElem?_eq_getElem hjl)
        rw[e];exact hB.idx hpp (by omega) hq hr (by omega)) h6
       have hf:faultF ps=(((p:Int),(i:Int)+1),pairF ps (off ps p+i)):=by unfold faultF;rw[if_neg hin,hpf,hef,hhit]
       rw[hf]
       refine ret_eq ?_
       simp only[go_sem]
      ·refine Wk ?_
       exact⟨_,List.Sublist.refl _,rfl,hB.next h6⟩
     ·have e:i=ps[p].evs.length:=by omega
      rw[e] at hB
      refine Wk ?_
      exact⟨_,List.Sublist.refl _,rfl,hB.row hpp⟩
    ·have hmf:msgF ps=none:=pairF_zero fun q hq r hr=>hA.1 q hq r (by omega) hr
     clear hA
     have hn1:1≤ps.length:=by omega
     refine Wk ?_
     refine Sd ?_
     refine(ref12_acyclic ps hs hmf hn1).val.use ?_;simp only[go_sem]
     refine Wk ?_
     refine⟨fun h7 => ?_,fun h7 => ?_⟩
     ·refine Wk ?_
      have hf:faultF ps=((0,0),0):=by unfold faultF;rw[if_neg hin,hpf,hef,hmf,acyB_cyc hs hmf h7]
      rw[hf]
      refine ret_eq ?_
      simp only[go_sem]
     ·refine Wk ?_
      refine AWp.block (AWp.count 13 ps.length [] [1,2] (fun p vs L=>L=[(b2,.row 54 2 [aEid (0,0)] 1)]∧Ahead ps (fun q j=>¬Reach ps ((q:Int),(j:Int)+1) ((q:Int),(j:Int)+1)) p 0) rfl rfl ⟨by simp [aEid],fun _ _ _ h=>by omega,fun j hj=>by omega⟩ ?_)
      rintro p vs L hp - ⟨rfl,hA⟩
      simp only[go_sem]
      refine Wk ?_
      refine⟨fun h4 => ?_,fun h4 => ?_⟩
      ·have hpp:p<ps.length:=by omega
       have hgP:=getD_map (f:=aPr) hpp
       have hel:=hs.evs _ (List.getElem_mem hpp)
       refine Wk ?_
       refine AWp.block (AWp.count 14 ps[p].evs.length [] [1,2,13] (fun i vs L=>L=[(b2,.row 54 2 [aEid (0,0)] 1)]∧Ahead ps (fun q j=>¬Reach ps ((q:Int),(j:Int)+1) ((q:Int),(j:Int)+1)) p i) rfl rfl ⟨by simp [aEid],hA⟩ ?_)
       rintro i vs L hi - ⟨rfl,hB⟩
       simp only[go_sem]
       refine W1 hgP ?_
       refine⟨fun h5 => ?_,fun h5 => ?_⟩
       ·have hie:i<ps[p].evs.length:=by omega
        have hpast:=ref12_Past ps hs hmf hn1 p hpp i hie
        rw[pastA_eq] at hpast
        have hg1:((List.range ps.length).map fun q=>AV.sl 1 (pastR ps ((p:Int),(i:Int)+1) q)).getD p .any = .sl 1 (pastR ps ((p:Int),(i:Int)+1) p):=map_range_getD hpp _
        have hg2:=pastR_get ((p:Int),(i:Int)+1) hpp hie
        have hgl:(pastR ps ((p:Int),(i:Int)+1) p).length=ps[p].evs.length+1:=by unfold pastR;rw[List.length_map,List.length_range,nev_get hpp]
        refine Wk ?_
        intro b15 _
        refine Wk ?_
        refine Sd ?_
        refine(hpast).val.use ?_;simp only[go_sem,hg1,hg2,hgl,List.length_range]
        refine Sd ?_
        refine Wk ?_
        refine⟨fun h6 => ?_,fun h6 => ?_⟩
        ·refine Wk ?_
         have hhit:=cycF_hit (evIds_get hpp hie) (fun j y hj hy=>by
          obtain⟨q,hq,r,hr,e,rfl⟩:=evIds_inv hy
          exact hB.idx hpp (by omega) hq hr (by omega)) h6
         have hf:faultF ps=(((p:Int),(i:Int)+1),10):=by unfold faultF;rw[if_neg hin,hpf,hef,hmf,hhit]
         rw[hf]
         refine ret_eq ?_
         simp only[go_sem]
        ·refine Wk ?_
         exact⟨_,List.Sublist.refl _,rfl,hB.next h6⟩
       ·have e:i=ps[p].evs.length:=by omega
        rw[e] at hB
        refine Wk ?_
        exact⟨_,List.Sublist.refl _,rfl,hB.row hpp⟩
      ·have hcf:cycF ps=none:=cycF_none fun j y hy=>by
        obtain⟨q,hq,r,hr,e,rfl⟩:=evIds_inv hy
        exact hA.1 q hq r (by omega) hr
       refine Wk ?_
       have hf:faultF ps=((0,0),0):=by unfold faultF;rw[if_neg hin,hpf,hef,hmf,hcf]
       rw[hf]
       refine ret_eq ?_
       simp only[go_sem]
theorem ref12_Valid (ps:List Pr) (hs:Sm ps):PC Proofs.Tryz.prog 6 [aTr ps] (ab (validF ps)):=by
 refine PC.enter 12 [.tmp 2] [1,3] Proofs.Tryz.func6 rfl rfl rfl rfl rfl (by simp) (AWp.of ?_);simp only[go_sem]
 refine Wk ?_
 refine Sd ?_
 refine(ref12_Fault ps hs).val.use ?_;simp only[go_sem]
 refine Sd ?_
 intros
 refine AWp.of ?_;simp only[go_sem]
 refine Wk ?_
 refine ret_eq ?_;simp only[go_sem]
 rfl
end Go.AL
end
section
namespace Go.AL
open Go Go.RowKit
set_option maxRecDepth 4000
theorem cntOk_get {ps:List Pr} {c:List Int} {p:Nat} (hp:p<ps.length) (hc:p<c.length):cntOk ps c p=(decide (0≤c[p]) && decide (c[p]≤ps[p].evs.length)):=by
 simp only[cntOk,List.getElem?_eq_getElem hp,List.getElem?_eq_getElem hc]
theorem ref12_Cut (ps:List Pr) (hs:Sm ps) (c:List Int):PC Proofs.Tryz.prog 7 [aTr ps,aInts c] (ab (decide (c.length=ps.length) && inRangeF ps c)):=by
 have hl:=hs.procs
 refine PC.enter 37 [.tmp 4] [2] Proofs.Tryz.func7 rfl rfl rfl rfl rfl (by simp) (AWp.of ?_);simp only[go_sem]
 refine Wk ?_
 refine Wk ?_
 refine⟨fun h1 => ?_,fun h1 => ?_⟩
 ·refine Wk ?_
  refine ret_eq ?_;simp only[go_sem]
  rw[decide_eq_false (by omega)];rfl
 ·have hc:c.length=ps.length:=by omega
  refine Wk ?_
  refine AWp.block (AWp.count 5 c.length [] [1,2] (fun p vs L=>L=[]∧∀q,q<p→cntOk ps c q=true) rfl rfl ⟨rfl,by omega⟩ ?_)
  rintro p vs L hp - ⟨rfl,hI⟩
  simp only[go_sem]
  refine Wk ?_
  refine⟨fun h2 => ?_,fun h2 => ?_⟩
  ·have hpc:p<c.length:=by omega
   have hpp:p<ps.length:=by omega
   have hco:=cntOk_get hpp hpc
   have hgP:=getD_map (f:=aPr) hpp
   have hgc:=getD_map (f:=ai) hpc
   refine AWp.seq (AWp.block (AWp.seq ?_))
   refine AWp.drawn mixed 18 (by kernel_rfl) ?_;simp only[go_sem,hgP,hgc]
   refine Sd ?_
   refine Wk ?_
   refine⟨fun h3 => ?_,fun h3 => ?_⟩
   ·refine Wk ?_
    refine ret_eq ?_;simp only[go_sem]
    have:inRangeF ps c=false:=by
     unfold inRangeF
     rw[List.all_eq_false]
     refine⟨p,List.mem_range.2 hpc,?_⟩
     rw[hco]
     simp only[Bool.and_eq_true,decide_eq_true_eq]
     omega
    rw[this,Bool.and_false]
   ·intro h4
    refine Wk ?_
    refine⟨_,List.Sublist.refl _,rfl,fun q hq => ?_⟩
    by_cases e:q=p
    ·subst e;rw[hco];simp only[Bool.and_eq_true,decide_eq_true_eq];omega
    ·exact hI q (by omega)
  ·refine Wk ?_
   refine ret_eq ?_;simp only[go_sem]
   have:inRangeF ps c=true:=by
    unfold inRangeF
    rw[List.all_eq_true]
    exact fun q hq=>hI q (by have:=List.mem_range.1 hq;omega)
   rw[this,decide_eq_true hc];rfl
inductive Pd where
 | mk (kind n proc peer:Int) (name:ByteArray) (l:List Pd)
def Pd.l:Pd→List Pd | .mk _ _ _ _ _ l=>l
def Pd.kind:Pd→Int | .mk k _ _ _ _ _=>k
mutual
def aPd:Pd→AV
 | .mk k n p q s l => .agg [ai k,ai n,ai p,ai q,astr s,.sl 6 (aPdL l)]
def aPdL:List Pd→List AV
 | []=>[]
 | x :: r=>aPd x :: aPdL r
end
theorem aPdL_map:∀l:List Pd,aPdL l=l.map aPd
 | []=>by rw[aPdL];rfl
 | x :: r=>by rw[aPdL,aPdL_map r];rfl
@[go_sem] theorem aPd_mk (k n p q:Int) (s:ByteArray) (l:List Pd):aPd (.mk k n p q s l) = .agg [ai k,ai n,ai p,ai q,astr s,.sl 6 (l.map aPd)]:=by rw[aPd,aPdL_map]
theorem Pd.ind {P:Pd→Prop} (h:∀k n p q s l,(∀x ∈ l,P x)→P (.mk k n p q s l)):∀t,P t
 | .mk k n p q s l=>h k n p q s l fun x hx=>Pd.ind h x
termination_by t=>SizeOf.sizeOf t
decreasing_by have:=List.sizeOf_lt_of_mem hx;simp;omega
mutual
def szF:Pd→Nat
 | .mk _ _ _ _ _ l=>szL l+1
def szL:List Pd→Nat
 | []=>0
 | x :: r=>szF x+szL r
end
mutual
def dpF:Pd→Nat
 | .mk _ _ _ _ _ l=>dpL l+1
def dpL:List Pd→Nat
 | []=>0
 | x :: r=>max (dpF x) (dpL r)
end
def partsF (k:Int):Int:=if ((1≤k∧k≤4)∨k=13)∨k=14 then 0 else if (k=5∨k=15)∨(18≤k∧k≤21) then 1 else if ((6≤k∧k≤12)∨k=16)∨k=17 then 2 else -1
mutual
def allB (f:Pd→Bool):Pd→Bool
 | .mk k n p q s l=>f (.mk k n p q s l) && allL f l
def allL (f:Pd→Bool):List Pd→Bool
 | []=>true
 | x :: r=>allB f x && allL f r
end
def numB (k n:Int):Bool:=if k=1 then decide (0≤n∧n≤1125899906842624) else decide (n=0)
def nameB (k p q:Int) (s:ByteArray):Bool:=decide (2≤k∧k≤4) || decide (p=0∧q=0∧s=ByteArray.empty)
def locB:Pd→Bool
 | .mk k n p q s l=>decide (partsF k=l.length) && numB k n && nameB k p q s
def formedB (t:Pd):Bool:=decide (szF t≤200) && decide (dpF t≤20) && allB locB t
def resF (k:Int):Int:=if k≤8 then 1 else 2
def needF (k:Int):Int:=if k≤12 then 1 else 2
def tyNe (k m:Int):Bool:=decide (¬resF m=needF k)
def typB:Pd→Bool
 | .mk k _ _ _ _ l => !l.any fun x=>tyNe k x.kind
def typedB (t:Pd):Bool:=allB typB t
mutual
def walkF:Pd→Int→Int→Bool × Int
 | .mk k n p q s l,d,c=>if c - 1<0∨20<d∨locB (.mk k n p q s l)=false then (false,c - 1) else walkL l (d+1) (c - 1)
def walkL:List Pd→Int→Int→Bool × Int
 | [],_,c=>(true,c)
 | x :: r,d,c=>if (walkF x d c).1 then walkL r d (walkF x d c).2 else (false,(walkF x d c).2)
end
def nmB (s:ByteArray) (v:ByteArray × Int):Bool:=decide (v.1=s)
def varIx (vs:List (ByteArray × Int)) (s:ByteArray):Int:=match vs.findIdx? (nmB s) with|some i=>i|none => -1
def isPB (n:Nat) (p:Int):Bool:=decide (0≤p) && decide (p<n)
def knownB (ps:List Pr) (p:Int) (s:ByteArray):Bool:=match ps[p.toNat]? with|some x=>x.vars.any (nmB s)|none=>false
def resB (ps:List Pr):Pd→Bool
 | .mk k _ p q s _=>if k=2 then isPB ps.length p && decide (q=0) && knownB ps p s else if k=3 then isPB ps.length p && decide (q=0) && decide (s=ByteArray.empty) else
  if k=4 then isPB ps.length p && isPB ps.length q && !decide (p=q) && decide (s=ByteArray.empty) else true
theorem fstF_zero {f:Nat→Int} {n:Nat} (h:fstF f n=0):∀i,i<n→f i=0:=by
 intro i
 induction i using Nat.strongRecOn with
 | _ i ih =>
  intro hi
  by_cases h0:f i=0
  ·exact h0
  ·rw[fstF_hit hi (fun j hj=>ih j hj (by omega)) h0] at h;exact h
theorem procF_of_valid {ps:List Pr} (h:validF ps=true) {p:Nat} (hp:p<ps.length):procF ps p=0:=by
 have h0:=(valid_parts h).1
 unfold procFirst at h0
 rw[Option.map_eq_none_iff,List.find?_eq_none] at h0
 simpa using h0 p (List.mem_range.2 hp)
theorem evF_parts {ps:List Pr} {p:Nat} (hp:p<ps.length) {i:Nat} (hi:i<ps[p].evs.length):evF ps p i=0↔formedI ps.length p ps[p].evs[i]=true∧(0≤ps[p].evs[i].time∧ps[p].evs[i].time≤1099511627776∧lastT ps[p].evs i≤ps[p].evs[i].time) ∧
  ps[p].evs[i].asg.length≤8∧∀k,k<ps[p].evs[i].asg.length→asgF ps[p].vars.length ps[p].evs[i].asg k=0:=by
 have e:evF ps p i=if !formedI ps.length p ps[p].evs[i] then 3 else if !inI ps[p].evs[i].time 0 1099511627776 || decide (ps[p].evs[i].time<lastT ps[p].evs i) then 11 else if 8<ps[p].evs[i].asg.length then 5 else fstF (asgF ps[p].vars.length ps[p].evs[i].asg) ps[p].evs[i].asg.length:=by
  unfold evF;simp only[List.getElem?_eq_getElem hp,List.getElem?_eq_getElem hi]
 rw[e]
 constructor
 ·intro h
  split at h
  ·cases h
  ·rename_i h1
   split at h
   ·cases h
   ·rename_i h2
    split at h
    ·cases h
    ·simp only[inI,Bool.or_eq_true,Bool.not_eq_true',not_or,Bool.not_eq_false,Bool.and_eq_true,decide_eq_true_eq] at h2
     exact⟨by simpa using h1,⟨h2.1.1,h2.1.2,by omega⟩,by omega,fstF_zero h⟩
 ·rintro⟨h1,⟨h2,h3,h4⟩,h5,h6⟩
  rw[if_neg (by rw[h1];decide),if_neg (by simp only[inI,Bool.or_eq_true,Bool.not_eq_true',not_or,Bool.not_eq_false,Bool.and_eq_true,decide_eq_true_eq];omega),if_neg (by omega),fstF_none h6]
theorem evF_of_valid {ps:List Pr} (h:validF ps=true) {p:Nat} (hp:p<ps.length) {i:Nat} (hi:i<ps[p].evs.length):evF ps p i=0:=evFirst_get (valid_parts h).2.1 hp hi
theorem valid_cyc {ps:List Pr} (h:validF ps=true):cycF ps=none:=by
 obtain⟨h1,h2,h3⟩:=valid_parts h
 unfold validF faultF at h
 rw[h1,h2,h3] at h
 simp only[decide_eq_true_eq] at h
 split at h
 ·cases h
 ·split at h
  ·cases h
  ·assumption
section
variable {ps:List Pr} {c:List Int}
end
def mn2 (a b:Int):Int:=if b<a then b else a
def mx2 (a b:Int):Int:=if a<b then b else a
def minL:List Int→Int | []=>0|a :: r=>r.foldl mn2 a
def maxL:List Int→Int | []=>0|a :: r=>r.foldl mx2 a
def valsF (x:Pr) (v:Nat):List Int:=(List.range (x.evs.length+1)).map fun k=>(stateAt x k).getD v 0
def varLo (ps:List Pr) (p:Int) (s:ByteArray):Int:=match ps[p.toNat]? with|some x=>minL (valsF x (varIx x.vars s).toNat)|none=>0
def varHi (ps:List Pr) (p:Int) (s:ByteArray):Int:=match ps[p.toNat]? with|some x=>maxL (valsF x (varIx x.vars s).toNat)|none=>0
def evN (ps:List Pr) (p:Int):Int:=match ps[p.toNat]? with|some x=>x.evs.length|none=>0
def sentTo (q:Int) (e:Ev):Bool:=decide (e.kind=2) && decide (e.peer=q)
def msgN (ps:List Pr) (p q:Int):Int:=match ps[p.toNat]? with|some x=>(x.evs.countP (sentTo q):Int)|none=>0
def tooB (a b:Int):Bool:=decide (a < -1125899906842624) || decide (1125899906842624<b)
def absF (a:Int):Int:=mx2 a (-a)
def timesF (a b:Int):Int:=if a=0∨b=0 then 0 else if 1125899906842624 / absF b<absF a then (if (decide (a<0) != decide (b<0))=true then -1125899906842625 else 1125899906842625) else a * b
abbrev Bd:=Int × Int × Bool
def bdL (ps:List Pr) (k n p q:Int) (s:ByteArray):Int × Int:=if k=1 then (n,n) else if k=3 then (0,evN ps p) else if k=4 then (0,msgN ps p q) else (varLo ps p s,varHi ps p s)
def bd2 (k:Int) (a b:Bd):Int × Int:=if k=5 then (-a.2.1,-a.1) else if k=6 then (a.1+b.1,a.2.1+b.2.1) else if k=7 then (a.1 - b.2.1,a.2.1 - b.1) else
 (minL [timesF a.1 b.1,timesF a.1 b.2.1,timesF a.2.1 b.1,timesF a.2.1 b.2.1],maxL [timesF a.1 b.1,timesF a.1 b.2.1,timesF a.2.1 b.1,timesF a.2.1 b.2.1])
def bdG (i:Int × Int):Bd:=(i.1,i.2,!tooB i.1 i.2)
def bdN (ps:List Pr) (k n p q:Int) (s:ByteArray):List Bd→Bd
 | []=>bdG (bdL ps k n p q s)
 | [a]=>if a.2.2=true then bdG (bd2 k a a) else (0,0,false)
 | a :: b :: _=>if a.2.2=true∧b.2.2=true then bdG (bd2 k a b) else (0,0,false)
mutual
def intF (ps:List Pr):Pd→Bd
 | .mk k n p q s l=>bdN ps k n p q s (intL ps l)
def intL (ps:List Pr):List Pd→List Bd
 | []=>[]
 | x :: r=>intF ps x :: intL ps r
end
mutual
def fitB (ps:List Pr):Pd→Bool
 | .mk k n p q s l=>if k≤8 then (intF ps (.mk k n p q s l)).2.2 else fitL ps l
def fitL (ps:List Pr):List Pd→Bool
 | []=>true
 | x :: r=>fitB ps x && fitL ps r
end
structure Obs where
 var:Int→ByteArray→Int
 cnt:Int→Int
 chn:Int→Int→Int
def valN (o:Obs) (k n p q:Int) (s:ByteArray):List Int→Int
 | []=>if k=1 then n else if k=2 then o.var p s else if k=3 then o.cnt p else o.chn p q
 | [a] => -a
 | a :: b :: _=>if k=6 then a+b else if k=7 then a - b else a * b
mutual
def valF (o:Obs):Pd→Int
 | .mk k n p q s l=>valN o k n p q s (valL o l)
def valL (o:Obs):List Pd→List Int
 | []=>[]
 | x :: r=>valF o x :: valL o r
end
mutual
def AllP (f:Pd→Prop):Pd→Prop
 | .mk k n p q s l=>f (.mk k n p q s l)∧AllPL f l
def AllPL (f:Pd→Prop):List Pd→Prop
 | []=>True
 | x :: r=>AllP f x∧AllPL f r
end
def truN (k:Int) (v:List Int) (b:List Bool):Bool :=
 if k=9 then decide (v.getD 0 0=v.getD 1 0) else if k=10 then !decide (v.getD 0 0=v.getD 1 0) else if k=11 then decide (v.getD 0 0<v.getD 1 0) else if k=12 then decide (v.getD 0 0≤v.getD 1 0) else
 if k=13 then true else if k=14 then false else if k=15 then !b.getD 0 false else if k=16 then b.getD 0 false && b.getD 1 false else b.getD 0 false || b.getD 1 false
mutual
def truF (o:Obs):Pd→Bool
 | .mk k _ _ _ _ l=>truN k (valL o l) (truL o l)
def truL (o:Obs):List Pd→List Bool
 | []=>[]
 | x :: r=>truF o x :: truL o r
end
noncomputable def checkF (ps:List Pr) (t:Pd):Int:=if (validF ps && formedB t)=false then 1 else if allB (resB ps) t=false then 13 else if typedB t=false then 14 else if fitB ps t=false then 9 else 0
def lclB (pr:Int):Pd→Bool
 | .mk k _ p _ _ _=>if k=4∨(18≤k∧k≤21) then false else if k=2∨k=3 then decide (p=pr) else true
noncomputable def lclF (ps:List Pr) (pr k:Int) (t:Pd):Int :=
 if checkF ps t ≠ 0 then checkF ps t else if ¬(0≤pr∧pr<ps.length∧0≤k∧k≤evN ps pr) then 2 else if t.kind≤8 then 14 else if allB (lclB pr) t=false then 15 else 0
def stC (n p:Nat) (k:Int):List Int:=(List.replicate n 0).set p k
def aView (ps:List Pr) (c:List Int) (V:List (List Int)):AV:=.agg [aPrs ps,aInts c,aRows V]
open Classical in
noncomputable def atV (ps:List Pr) (c:List Int) (t:Pd):AV:=if c.length ≠ ps.length∨checkF ps t ≠ 0∨givenF ps [c] [] ≠ 0 then aView [] [] [] else aView ps c (valuesAt ps c)
end Go.AL
end
section
namespace Go.AL
open Go Go.RowKit
set_option maxRecDepth 4000
def fillZ (l:List Int) (n i:Nat):List Int:=l.take i ++ List.replicate (n - i) 0
theorem fillZ_set {l:List Int} {n i:Nat} (hl:l.length=n) (hi:i<n):(fillZ l n i).set i (l[i]'(by omega))=fillZ l n (i+1):=by
 unfold fillZ
 have e:n - i=(n - (i+1))+1:=by omega
 rw[List.set_append_right _ _ (by rw[List.length_take];omega),List.length_take,show i - min i l.length=0 by omega,e,List.replicate_succ,List.set_cons_zero,List.take_succ_eq_append_getElem (by omega),List.append_assoc]
 rfl
theorem fillZ_zero (l:List Int) (n:Nat):fillZ l n 0=List.replicate n 0:=by unfold fillZ;simp
theorem fillZ_full {l:List Int} {n:Nat} (h:l.length=n):fillZ l n n=l:=by unfold fillZ;subst h;simp
theorem fillZ_length {l:List Int} {n i:Nat} (hl:l.length=n) (hi:i≤n):(fillZ l n i).length=n:=by unfold fillZ;rw[List.length_append,List.length_take,List.length_replicate];omega
theorem map_set_ai (l:List Int) (i:Nat) (v:Int):(l.map ai).set i (ai v)=(l.set i v).map ai:=by rw[List.map_set]
theorem replicate_ai (n:Nat):(List.replicate n (0:Int)).map ai=List.replicate n (ai 0):=by rw[List.map_replicate]
noncomputable def aComb (ps:List Pr) (a b:List Int) (g:Int→Int→Int):AV:=if givenF ps [a,b] [] ≠ 0 then .tup [.sl 1 [],ai (givenF ps [a,b] [])] else .tup [aInts (List.zipWith g a b),ai 0]
theorem givenL {ps:List Pr} {l:List (List Int)} : givenF ps l []=0↔(validF ps=true∧∀c ∈ l,c.length=ps.length)∧(∀c ∈ l,inRangeF ps c=true)∧∀c ∈ l,closedF ps c=true:=by
 have h1:sizedF ps l=true↔validF ps=true∧∀c ∈ l,c.length=ps.length:=by
  refine⟨sizedF_inv,fun h => ?_⟩
  unfold sizedF
  rw[h.1,Bool.true_and,Bool.not_eq_true',List.any_eq_false]
  intro c hc
  rw[decide_eq_true (h.2 c hc)];decide
 have h2:=List.all_eq_true (l:=l) (p:=inRangeF ps)
 have h3:=List.all_eq_true (l:=l) (p:=closedF ps)
 rw[← h1,← h2,← h3]
 unfold givenF
 cases sizedF ps l <;> cases l.all (inRangeF ps) <;> cases l.all (closedF ps) <;> simp
theorem given2 {ps:List Pr} {a b:List Int} (h:givenF ps [a,b] []=0):givenF ps [a] []=0∧givenF ps [b] []=0:=by
 rw[givenL] at h
 refine⟨givenL.2 ⟨⟨h.1.1,fun c hc=>h.1.2 c ?_⟩,fun c hc=>h.2.1 c ?_,fun c hc=>h.2.2 c ?_⟩,givenL.2 ⟨⟨h.1.1,fun c hc=>h.1.2 c ?_⟩,fun c hc=>h.2.1 c ?_,fun c hc=>h.2.2 c ?_⟩⟩ <;> (simp at hc;simp [hc])
theorem cut_combine (ps:List Pr) (hs:Sm ps) (a b:List Int) (f:FuncId) (g:Int→Int→Int) (hf:∀x y,PC Proofs.Tryz.prog f [ai x,ai y] (ai (g x y))):PC Proofs.Tryz.prog 64 [aTr ps,aInts a,aInts b,.v (.func (.func f) #[] #[])] (aComb ps a b g):=by
 have hg:=cut_given ps hs [a,b] (by simp) [] (by simp)
 have hsp:aComb ps a b g=if givenF ps [a,b] [] ≠ 0 then .tup [.sl 1 [],ai (givenF ps [a,b] [])] else .tup [aInts (List.zipWith g a b),ai 0]:=rfl
 have hgz:givenF ps [a,b] []=0→a.length=ps.length∧b.length=ps.length:=fun h=>⟨(givenF_zero (given2 h).1).2.1,(givenF_zero (given2 h).2).2.1⟩
 have hpl:=hs.procs
 generalize givenF ps [a,b] []=e at *
 generalize aComb ps a b g=R at *
 refine PC.enter 44 [.tmp 8,.tmp 9] [4,16] Proofs.Tryz.func64 rfl rfl rfl rfl rfl (by simp) (AWp.of ?_);simp only[go_sem]
 refine Wk ?_
 refine(PC.view (Vws.cons (.refl _) (Vws.cons (.refl _) (Vws.cons (.nil 1) .nil))) hg (Own.v _) ?_).val
 simp only[go_sem]
 refine Wk ?_
 refine⟨fun h1 => ?_,fun h1 => ?_⟩
 ·rw[if_pos h1] at hsp
  refine Wk ?_
  refine ret_view [] ?_;simp only[go_sem]
  rw[hsp]
  exact .mkTup (Vws.cons (.nil 1) (Vws.refl _))
 rw[if_neg (by simpa using h1)] at hsp
 obtain⟨ha,hb⟩:=hgz h1
 have hab:b.length=a.length:=by omega
 have hzl:(List.zipWith g a b).length=a.length:=by rw[List.length_zipWith];omega
 have hzg:∀i (hi:i<a.length),(List.zipWith g a b)[i]?=some (g a[i] (b[i]'(by rw[hab];exact hi))):=fun i hi=>by rw[List.getElem?_eq_getElem (by omega),List.getElem_zipWith]
 generalize List.zipWith g a b=z at *
 refine Wk ?_
 intro b11
 refine Wk ?_
 refine AWp.range' a.length [] [1,2,3,11,25] (fun k vs L=>L=[(b11,.row 3 1 ((fillZ z a.length k).map ai) a.length)]) (by omega) rfl rfl rfl (by rw[fillZ_zero,replicate_ai]) ?_ ?_
 ·rintro k vs L' hk - rfl
  have hga:=getD_map (f:=ai) hk
  have hgb:=getD_map (f:=ai) (l:=b) (k:=k) (by omega)
  have hfl:=fillZ_length (i:=k) hzl (by omega)
  have hfs:=fillZ_set hzl hk
  obtain⟨hkz,hzk⟩:=List.getElem?_eq_some_iff.1 (hzg k hk)
  rw[hzk] at hfs
  have hfc:=hf a[k] (b[k]'(by rw[hab];exact hk))
  simp only[go_sem]
  refine Sd ?_
  refine AWp.of ?_;simp only[go_sem]
  repeat(first|(with_reducible refine AWp.seq ?_)|(with_reducible refine AWp.block ?_))
  refine AWp.mix mixed [0,1,2,3,4,5,6,7,8,9,10] (.step 11 (.step 12 (.step 13 .done .done) .done) .done) (by kernel_rfl) ?_;simp only[go_sem,hga,hgb]
  refine Sd ?_
  refine(hfc).val.use ?_;simp only[go_sem,hga,hgb]
  refine Sd ?_
  have hkf:k<(fillZ z a.length k).length:=by omega
  have hgf:=getD_map (f:=ai) hkf
  refine⟨_,List.Sublist.refl _,?_⟩
  rw[← hfs,← map_set_ai,hgf]
 ·rintro vs L' - rfl
  rw[fillZ_full hzl]
  simp only[go_sem]
  refine Wk ?_
  refine ret_view [true] ?_;simp only[go_sem]
  rw[hsp]
  exact .mkTup (Vws.cons (Vw.ofLs (if_pos rfl) (by simp;omega)) (Vws.refl _))
theorem cut_Join (ps:List Pr) (hs:Sm ps) (a b:List Int):PC Proofs.Tryz.prog 27 [aTr ps,aInts a,aInts b] (aComb ps a b fun x y=>if x<y then y else x):=by
 have hf:∀x y,PC Proofs.Tryz.prog 65 [ai x,ai y] (ai (if x<y then y else x)):=fun x y=>by
  refine PC.enter 8 [.tmp 4] [] Proofs.Tryz.func65 rfl rfl rfl rfl rfl (by simp) (AWp.of ?_);simp only[go_sem]
  refine Wk ?_
  refine ret_eq ?_;simp only[go_sem]
 have hc:=cut_combine ps hs a b 65 (fun x y=>if x<y then y else x) hf
 unfold aComb at *
 generalize givenF ps [a,b] []=e at *
 generalize (List.zipWith (fun x y=>if x<y then y else x) a b)=z at *
 by_cases he:e=0
 ·rw[if_neg (by simpa using he)] at *
  refine PC.enter 14 [.tmp 6,.tmp 7] [3] Proofs.Tryz.func27 rfl rfl rfl rfl rfl (by simp) (AWp.of ?_);simp only[go_sem]
  refine Wk ?_
  refine Sd ?_
  refine(hc).val.use ?_;simp only[go_sem]
  refine Wk ?_
  refine ret_eq ?_;simp only[go_sem]
 ·rw[if_pos he] at *
  refine PC.enter 14 [.tmp 6,.tmp 7] [3] Proofs.Tryz.func27 rfl rfl rfl rfl rfl (by simp) (AWp.of ?_);simp only[go_sem]
  refine Wk ?_
  refine Sd ?_
  refine(hc).val.use ?_;simp only[go_sem]
  refine Wk ?_
  refine ret_eq ?_;simp only[go_sem]
end Go.AL
end
