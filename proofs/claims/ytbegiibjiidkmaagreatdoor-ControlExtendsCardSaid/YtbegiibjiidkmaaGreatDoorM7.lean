/- Texts of this claim's proof: WRf4, WRf5, WRf6, WRf7, WRf8, WPd, WPf. No condition. -/
import Derived.Test.YtbegiibjiidkmaaGreatDoorM6
import Derived.Test.YtbegiibjiidkmaaGreatDoorM5
import Derived.Test.YtbegiibjiidkmaaGreatDoorM4
section
namespace Go.AL
open Go Go.RowKit Proofs.Tryz
set_option maxRecDepth 4000
noncomputable def acyB (ps:List Pr):Bool:=(List.range ps.length).all fun p=>decide (nev ps p<=(stampF ps p).length)
theorem acyB_cyc {ps:List Pr}(hs:Sm ps)(hm:msgF ps=none)(h:acyB ps=true):cycF ps=none:=by
 refine cycF_of_stamps hm (stampF_gen hs).1 fun p hp=>?_
 unfold acyB at h
 rw[List.all_eq_true] at h
 simpa using h p (List.mem_range.2 hp)
theorem ref12_acyclic (ps:List Pr)(hs:Sm ps)(hm:msgF ps=none)(hn:1<=ps.length):PC prog 67 [aTr ps] (ab (acyB ps)):=by
 have hl:=hs.procs
 refine PE 86 [.tmp 2] [1,6,7] func67 ?_;simp only[go_sem]
 refine Sd ?_
 refine Ao ?_
 refine Sd ?_
 intro bd
 have hD0:List.replicate ps.length (ai 0)=dnA ps.length (lenS fun _=>[]):=by
  unfold dnA lenS;apply List.ext_getElem (by simp);intro i h1 h2;simp
 rw[hD0]
 have hB:∀S,Gen ps S->totS ps.length (lenS S)<=ps.length * 1000000:=fun S h=>totS_le _ fun q hq=>by
  have h1:=h.le_nev q
  rw[nev_get hq] at h1
  have h2:=hs.evs _ (List.getElem_mem hq)
  unfold lenS;omega
 refine AWp.cut [1,3] (fun vs L=>∃S,Gen ps S/\(∀p,¬Rdy ps (lenS S) p)/\L=[(bd,.row 3 1 (dnA ps.length (lenS S)) ps.length)]/\vs=[.rp 1 [aTr ps] 0 0,.ls bd 1 0 ps.length ps.length]) ?_ ?_
 ·refine AWp.block (AWp.loopN [] [1,3] (fun m vs L=>∃S,Gen ps S/\L=[(bd,.row 3 1 (dnA ps.length (lenS S)) ps.length)]/\m=ps.length * 1000000 - totS ps.length (lenS S)) (ps.length * 1000000 - totS ps.length (lenS fun _=>[])) ?_ ?_)
  ·exact⟨_,.init,rfl,rfl⟩
  rintro m vs L - ⟨S0,hG0,rfl,rfl⟩
  simp only[go_sem]
  refine Wk ?_
  refine AWp.block (AWp.count 5 ps.length [4] [1,3] (fun p vs L=>∃S g,vs=[ab g]/\L=[(bd,.row 3 1 (dnA ps.length (lenS S)) ps.length)]/\Gen ps S/\(g=false->S=S0/\∀q,q<p->¬Rdy ps (lenS S) q)/\(g=true->totS ps.length (lenS S0)<totS ps.length (lenS S)))
   rfl rfl ⟨S0,false,rfl,rfl,hG0,fun _=>⟨rfl,fun q hq=>by omega⟩,fun h=>(by cases h)⟩ ?_)
  rintro p vs L hp - ⟨S1,g1,rfl,rfl,hG1,hf1,ht1⟩
  simp only[go_sem]
  refine Wk ?_
  constructor<;>intro h1
  ·have hpp:p<ps.length:=by omega
   have hel:=hs.evs _ (List.getElem_mem hpp)
   have hgP:=getD_map (f:=aPr) hpp
   refine AWp.seq (AWp.block (AWp.block (AWp.loopN [4] [1,3,5] (fun m vs L=>∃S g,vs=[ab g]/\L=[(bd,.row 3 1 (dnA ps.length (lenS S)) ps.length)]/\Gen ps S/\(g=false->S=S0/\∀q,q<p->¬Rdy ps (lenS S) q)/\(g=true->totS ps.length (lenS S0)<totS ps.length (lenS S))/\m=1000000 - (S p).length)
    (1000000 - (S1 p).length) ?_ ?_)))
   ·exact⟨S1,g1,rfl,rfl,hG1,hf1,ht1,rfl⟩
   rintro m' vs L - ⟨S,g,rfl,rfl,hG,hf,ht,hm'⟩
   have hle:=hG.le_nev p
   rw[nev_get hpp] at hle
   have hgd:=dnA_get hpp (lenS S)
   have hlS:lenS S p=(S p).length:=rfl
   simp only[go_sem]
   refine AWp.seq (AWp.seq ?_)
   refine Sq ?_
   refine AWp.mix mixed [0,1,2,4,5,6,7,8,9,10] (.step 3 (.step 11 .done .done) .done) (by kernel_rfl) ?_;simp only[go_sem,hgP,hgd,dnA_length]
   refine Sd ?_
   refine Wk ?_
   constructor<;>intro h2
   ·have hk:(S p).length<ps[p].evs.length:=by unfold lenS at h2;omega
    have hgk:=getD_map (f:=aEv) hk
    have heq:=evq_get hpp hk
    have hrdy:Rdy ps (lenS S) p↔(ps[p].evs[(S p).length].kind=3->0<(sndr ps ps[p].evs[(S p).length].msg).2/\(sndr ps ps[p].evs[(S p).length].msg).2<=lenS S (sndr ps ps[p].evs[(S p).length].msg).1.toNat):=by
     unfold Rdy
     rw[hlS,heq]
     exact⟨fun h=>h.2.2,fun h=>⟨hpp,by rw[nev_get hpp];exact hk,h⟩⟩
    have h0s:=recv_sndr hm hpp hk
    rw[hlS] at hgd
    generalize ps[p].evs[(S p).length]=e at *
    refine AWp.block ?_
    refine AWp.cut [1,3,4,5,6] (fun vs L=>L=[(bd,.row 3 1 (dnA ps.length (lenS S)) ps.length)]/\vs=[.rp 1 [aTr ps] 0 0,.ls bd 1 0 ps.length ps.length,ab g,ai p,.rp 5 [aEv e] 0 0]) ?_ ?_
    ·refine Sq ?_
     refine AWp.mix mixed [0,1,2,3,4,5,6,7,8] (.step 9 (.step 10 (.step 11 (.step 12 (.step 13 .done .done) .done) (.step 12 (.step 11 (.step 13 .done .done) .done) .done)) (.step 12 (.step 10 (.step 11 (.step 13 .done .done) .done) .done) .done)) (.step 12 (.step 9 (.step 10 (.step 11 (.step 13 .done .done) .done) .done) .done) .done)) (by kernel_rfl) ?_;simp only[go_sem,hgP,hgd,hgk,dnA_length]
     repeat' (first|(with_reducible refine And.intro ?_ ?_)|intro _)
     all_goals first|omega|exact⟨_,.refl _,rfl⟩|(rename_i bN k1;have nb:¬bd=bN:=(by omega);simp only[go_sem,nb,hgd,hgk,dnA_length])
     all_goals repeat' (first|(with_reducible refine And.intro ?_ ?_)|intro _)
     all_goals first|omega|exact⟨_,.refl _,rfl⟩
    ·rintro vs L - ⟨rfl,rfl⟩
     simp only[go_sem]
     refine AWp.cut [1,3,4,5] (fun vs L=>Rdy ps (lenS S) p/\L=[(bd,.row 3 1 (dnA ps.length (lenS S)) ps.length)]/\vs=[.rp 1 [aTr ps] 0 0,.ls bd 1 0 ps.length ps.length,ab g,ai p]) ?_ ?_
     ·refine Wk ?_
      constructor<;>intro h3
      ·have hfd:=ref12_Find ps hs 2 e.msg
       have hse:findIn (evIds ps) 2 e.msg=sndr ps e.msg:=rfl
       obtain⟨f1,f2⟩:=findIn_proc hn 2 e.msg
       rw[hse] at hfd f1 f2
       generalize sndr ps e.msg=sd at *
       have hgs:=dnA_get (show sd.1.toNat<ps.length by omega) (lenS S)
       refine Wk ?_
       refine Sd ?_
       refine Vu hfd ?_
       refine Sd ?_
       intro b7 hb7
       have nb:¬bd=b7:=by omega
       refine AWp.seq ?_
       refine Sq ?_
       refine AWp.mix mixed [0,1,2,3,5,6] (.step 4 (.step 7 .done .done) .done) (by kernel_rfl) ?_;simp only[go_sem,hgs,dnA_length,nb]
       refine Sd ?_
       refine Wk ?_
       constructor<;>intro h4
       ·refine Wk ?_
        refine⟨_,.refl _,S,g,rfl,rfl,hG,fun hg=>?_,ht⟩
        obtain⟨e1,e2⟩:=hf hg
        refine⟨e1,fun q hq=>?_⟩
        by_cases e:q=p
        ·subst e
         intro hr
         have:=hrdy.1 hr h3
         omega
        ·exact e2 q (by omega)
       ·exact⟨_,.refl _,hrdy.2 fun _=>⟨h0s h3,by omega⟩,rfl⟩
      ·exact⟨_,.refl _,hrdy.2 fun h=>absurd h h3,rfl⟩
     ·rintro vs L - ⟨hrd,rfl,rfl⟩
      have hG':=hG.step hrd
      have htot:=totS_up hpp (S:=S) (vecV ps S p (S p).length)
      have hset:=dnA_set (n:=ps.length) (p:=p) (c:=lenS S) (c':=lenS (upS S p (vecV ps S p (S p).length))) (x:=((S p).length:Int)+1) (by unfold lenS;rw[upS_len,if_pos rfl];omega) (fun q hq=>by unfold lenS;rw[upS_len,if_neg hq])
      have hlen':(upS S p (vecV ps S p (S p).length) p).length=(S p).length+1:=by rw[upS_len,if_pos rfl]
      simp only[go_sem]
      refine Sd ?_
      refine AWp.of ?_;simp only[go_sem,hgd,dnA_length]
      refine Sd ?_
      rw[hset]
      refine Wk ?_
      refine⟨_,.refl _,1000000 - (upS S p (vecV ps S p (S p).length) p).length,by omega,_,true,rfl,rfl,hG',fun h=>(by cases h),fun _=>?_,rfl⟩
      rw[htot]
      cases hg:g with
      | true=>have:=ht hg;omega
      | false=>rw[(hf hg).1];omega
   ·refine Wk ?_
    refine⟨_,.refl _,S,g,rfl,rfl,hG,fun hg=>?_,ht⟩
    obtain⟨e1,e2⟩:=hf hg
    refine⟨e1,fun q hq=>?_⟩
    by_cases e:q=p
    ·subst e
     intro hr
     have:=hr.2.1
     rw[nev_get hpp] at this
     omega
    ·exact e2 q (by omega)
  ·have hpn:p=ps.length:=by omega
   refine Wk ?_
   constructor<;>intro h2
   ·refine⟨_,.refl _,S1,hG1,fun q hr=>?_,rfl⟩
    exact(hf1 h2).2 q (by have:=hr.1;omega) hr
   ·have h3:=ht1 h2
    have h4:=hB S1 hG1
    exact⟨_,.refl _,_,by omega,S1,hG1,rfl,rfl⟩
 ·rintro vs L - ⟨S,hG,hmx,rfl,rfl⟩
  have hst:=stampF_eq hG hmx
  simp only[go_sem]
  refine Wk ?_
  refine AWp.block (AWp.count 8 ps.length [] [1,3] (fun p vs L=>L=[(bd,.row 3 1 (dnA ps.length (lenS S)) ps.length)]/\∀q,q<p->nev ps q<=(stampF ps q).length) rfl rfl ⟨rfl,by omega⟩ ?_)
  rintro p vs L hp - ⟨rfl,hI⟩
  simp only[go_sem]
  refine Wk ?_
  constructor<;>intro h1
  ·have hpp:p<ps.length:=by omega
   have hel:=hs.evs _ (List.getElem_mem hpp)
   have hgP:=getD_map (f:=aPr) hpp
   have hgd:=dnA_get hpp (lenS S)
   refine AWp.seq (AWp.block (AWp.seq ?_))
   refine Sq ?_
   refine AWp.mix mixed [0,1,2,4,5,6,7,8,9,10] (.step 3 (.step 11 .done .done) .done) (by kernel_rfl) ?_;simp only[go_sem,hgP,hgd,dnA_length]
   refine Sd ?_
   refine Wk ?_
   constructor<;>intro h2
   ·refine Wk ?_
    refine Rq ?_
    unfold acyB
    congr 2;symm
    rw[List.all_eq_false]
    refine⟨p,List.mem_range.2 hpp,?_⟩
    rw[hst,decide_eq_true_eq,nev_get hpp]
    unfold lenS at h2;omega
   ·refine Wk ?_
    refine⟨_,.refl _,rfl,fun q hq=>?_⟩
    by_cases e:q=p
    ·subst e;rw[hst,nev_get hpp];unfold lenS at h2;omega
    ·exact hI q (by omega)
  ·refine Wk ?_
   refine Rq ?_
   unfold acyB
   congr 2;symm
   rw[List.all_eq_true]
   exact fun q hq=>decide_eq_true (hI q (by have:=List.mem_range.1 hq;omega))
structure Psr (ps:List Pr)(x:Eid)(seen q:List Eid):Prop where
 sv:∀y ∈ seen,VEv ps y/\Reach ps y x
 qv:∀y ∈ q,VEv ps y/\Reach ps y x
 nodup:seen.Nodup
 c1:∀z,VEv ps z->Nx ps z x->z ∈ seen\/z ∈ q
 c2:∀y ∈ seen,∀z,VEv ps z->Nx ps z y->z ∈ seen\/z ∈ q
 size:q.length<=2 * (seen.length+1)
theorem dirL_length (ps:List Pr)(p i:Nat):(dirL ps p i).length<=2:=by
 unfold dirL
 rw[List.length_append]
 have h1:(if 0<i then [((p:Int),(i:Int))] else []).length<=1:=by split <;> simp
 have h2:(if (evq ps p i).kind=3 then [sndr ps (evq ps p i).msg] else []).length<=1:=by split <;> simp
 omega
theorem Psr.start {ps:List Pr}(hm:msgF ps=none){p:Nat}(hp:p<ps.length){i:Nat}(hi:i<ps[p].evs.length):Psr ps ((p:Int),(i:Int)+1) [] (dirL ps p i) :=
 ⟨fun y h=>(by cases h),fun y h=>let ⟨a,b⟩:=(dirL_iff hm hp hi y).1 h;⟨a,.single b⟩,.nil,fun z h1 h2=>.inr ((dirL_iff hm hp hi z).2 ⟨h1,h2⟩),fun y h=>(by cases h),(by have:=dirL_length ps p i;simp only[List.length_nil];omega)⟩
theorem Psr.skip {ps:List Pr}{x y:Eid}{seen q:List Eid}(h:Psr ps x seen (y :: q))(hy:y ∈ seen):Psr ps x seen q:=by
 have hc:∀z,z ∈ seen\/z ∈ y :: q->z ∈ seen\/z ∈ q:=fun z hz=>by
  rcases hz with hz|hz
  ·exact .inl hz
  ·rcases List.mem_cons.1 hz with rfl|hz
   ·exact .inl hy
   ·exact .inr hz
 exact⟨h.sv,fun z hz=>h.qv z (List.mem_cons_of_mem _ hz),h.nodup,fun z h1 h2=>hc z (h.c1 z h1 h2),fun w hw z h1 h2=>hc z (h.c2 w hw z h1 h2),by have:=h.size;simp at this;omega⟩
theorem Reach.head {ps:List Pr}{a b y:Eid}(hr:Reach ps b y)(hn:Nx ps a b):Reach ps a y:=by
 induction hr with
 | single h=>exact .tail (.single hn) h
 | tail _ h ih=>exact .tail ih h
theorem Psr.mark {ps:List Pr}(hm:msgF ps=none){x:Eid}{seen q:List Eid}{p:Nat}(hp:p<ps.length){i:Nat}(hi:i<ps[p].evs.length)(h:Psr ps x seen (((p:Int),(i:Int)+1) :: q))(hy:((p:Int),(i:Int)+1) ∉ seen) :
  Psr ps x (((p:Int),(i:Int)+1) :: seen) (q ++ dirL ps p i):=by
 have hyx:=h.qv _ List.mem_cons_self
 have hc:∀z,z ∈ seen\/z ∈ ((p:Int),(i:Int)+1) :: q->z ∈ ((p:Int),(i:Int)+1) :: seen\/z ∈ q ++ dirL ps p i:=fun z hz=>by
  rcases hz with hz|hz
  ·exact .inl (List.mem_cons_of_mem _ hz)
  ·rcases List.mem_cons.1 hz with rfl|hz
   ·exact .inl List.mem_cons_self
   ·exact .inr (List.mem_append_left _ hz)
 refine⟨fun z hz=>?_,fun z hz=>?_,List.nodup_cons.2 ⟨hy,h.nodup⟩,fun z h1 h2=>hc z (h.c1 z h1 h2),fun w hw z h1 h2=>?_,?_⟩
 ·rcases List.mem_cons.1 hz with rfl|hz
  ·exact hyx
  ·exact h.sv z hz
 ·rcases List.mem_append.1 hz with hz|hz
  ·exact h.qv z (List.mem_cons_of_mem _ hz)
  ·obtain⟨a,b⟩:=(dirL_iff hm hp hi z).1 hz
   exact⟨a,hyx.2.head b⟩
 ·rcases List.mem_cons.1 hw with rfl|hw
  ·exact .inr (List.mem_append_right _ ((dirL_iff hm hp hi z).2 ⟨h1,h2⟩))
  ·exact hc z (h.c2 w hw z h1 h2)
 ·have h1:=h.size
  have h2:=dirL_length ps p i
  simp only[List.length_cons,List.length_append] at h1 ⊢
  omega
theorem Psr.done {ps:List Pr}{x:Eid}{seen:List Eid}(h:Psr ps x seen []){z:Eid}(hz:VEv ps z):z ∈ seen↔Reach ps z x:=by
 refine⟨fun hs=>(h.sv z hs).2,fun hr=>?_⟩
 have key:∀c,Reach ps z c->(c=x\/c ∈ seen)->z ∈ seen:=fun c hc=>by
  induction hc with
  | single hn =>
   rintro(rfl|hc)
   ·exact(h.c1 z hz hn).resolve_right (by simp)
   ·exact(h.c2 _ hc z hz hn).resolve_right (by simp)
  | @tail b c hb hn ih =>
   have hbv:VEv ps b:=Reach.valid hb hz
   rintro(rfl|hc)
   ·exact ih (.inr ((h.c1 b hbv hn).resolve_right (by simp)))
   ·exact ih (.inr ((h.c2 _ hc b hbv hn).resolve_right (by simp)))
 exact key x hr (.inl rfl)
theorem Psr.small {ps:List Pr}{x:Eid}{seen q:List Eid}(h:Psr ps x seen q):seen.length<=(evIds ps).length:=by
 have:=List.Nodup.length_le_of_subset h.nodup (l₂:=(evIds ps).map (·.1)) (fun y hy=>(h.sv y hy).1.mem)
 simpa using this
def pRow (ps:List Pr)(seen:List Eid)(p:Nat):List AV:=(List.range (nev ps p+1)).map fun (k:Nat)=>ab (decide (((p:Int),(k:Int)) ∈ seen))
theorem pRow_length (ps:List Pr)(seen:List Eid)(p:Nat):(pRow ps seen p).length=nev ps p+1:=by simp [pRow]
theorem pRow_get {ps:List Pr}{seen:List Eid}{p k:Nat}(hk:k<nev ps p+1):(pRow ps seen p).getD k .any=ab (decide (((p:Int),(k:Int)) ∈ seen)):=map_range_getD hk _
theorem pRow_set {ps:List Pr}{seen:List Eid}{p k:Nat} : (pRow ps seen p).set k (ab true)=pRow ps (((p:Int),(k:Int)) :: seen) p:=by
 unfold pRow
 rw[map_range_set];congr 1;funext j
 by_cases e:j=k
 ·subst e;rw[if_pos rfl,decide_eq_true List.mem_cons_self]
 ·rw[if_neg e]
  have:(((p:Int),(j:Int)) ∈ ((p:Int),(k:Int)) :: seen)↔(((p:Int),(j:Int)) ∈ seen):=by
   rw[List.mem_cons,Prod.mk.injEq]
   exact⟨fun h=>h.resolve_left fun h=>e (by omega),.inr⟩
  rw[decide_eq_decide.2 this]
theorem pRow_other {ps:List Pr}{seen:List Eid}{p k q:Nat}(h:q ≠ p):pRow ps (((p:Int),(k:Int)) :: seen) q=pRow ps seen q:=by
 unfold pRow
 congr 1;funext j
 have:(((q:Int),(j:Int)) ∈ ((p:Int),(k:Int)) :: seen)↔(((q:Int),(j:Int)) ∈ seen):=by
  rw[List.mem_cons,Prod.mk.injEq]
  exact⟨fun h'=>h'.resolve_left fun h'=>h (by omega),.inr⟩
 rw[decide_eq_decide.2 this]
theorem pRow_nil (ps:List Pr)(p:Nat):pRow ps [] p=List.replicate (nev ps p+1) (ab false):=by
 unfold pRow;apply List.ext_getElem (by simp);intro i h1 h2;simp
open Classical in
noncomputable def pastA (ps:List Pr)(x:Eid):AV:=.sl 1 ((List.range ps.length).map fun (p:Nat)=>.sl 1 ((List.range (nev ps p+1)).map fun (k:Nat)=>ab (decide (VEv ps ((p:Int),(k:Int))/\Reach ps ((p:Int),(k:Int)) x))))
theorem pastA_of {ps:List Pr}{x:Eid}{seen:List Eid}(h:Psr ps x seen []):AV.sl 1 ((List.range ps.length).map fun p=>AV.sl 1 (pRow ps seen p))=pastA ps x:=by
 unfold pastA pRow
 congr 2;funext p;congr 2;funext k
 have:(((p:Int),(k:Int)) ∈ seen)↔(VEv ps ((p:Int),(k:Int))/\Reach ps ((p:Int),(k:Int)) x) :=
  ⟨fun hs=>h.sv _ hs,fun ⟨h1,h2⟩=>(h.done h1).2 h2⟩
 rw[decide_eq_decide.2 this]
theorem ref12_Directly (ps:List Pr)(hs:Sm ps)(p:Nat)(hp:p<ps.length)(i:Nat)(hi:i<ps[p].evs.length):MCalls prog 113 [aTr ps,aEid (p,(i:Int)+1)] [] fun r L=>AppSt 53 2 ((dirL ps p i).map aEid) r L:=by
 have hel:=hs.evs _ (List.getElem_mem hp)
 have hat:=ref12_At ps hs p hp i hi
 have hd:dirL ps p i=(if 0<i then [((p:Int),(i:Int))] else []) ++ (if ps[p].evs[i].kind=3 then [sndr ps ps[p].evs[i].msg] else []):=by
  unfold dirL;rw[evq_get hp hi]
 have hfd:=ref12_Find ps hs 2 ps[p].evs[i].msg
 have hse:findIn (evIds ps) 2 ps[p].evs[i].msg=sndr ps ps[p].evs[i].msg:=rfl
 rw[hse] at hfd
 rw[hd]
 generalize ps[p].evs[i]=e at *
 generalize sndr ps e.msg=sd at *
 have e1:(i:Int)+1 - 1=i:=by omega
 refine MCalls.enter' 33 [.tmp 4] [2,3,6,17,30] func113 rfl rfl rfl rfl rfl (by simp) (AWp.of ?_);simp only[go_sem]
 refine Wk ?_
 refine Wk ?_
 constructor<;>intro h1
 ·rw[if_pos (show 0<i by omega)]
  refine W1 e1 ?_
  refine Sd ?_
  intro b cap g1
  refine Wk ?_
  refine Sd ?_
  refine Vu hat ?_
  refine Sd ?_
  intro b6 g2
  refine Wk ?_
  constructor<;>intro h2
  ·rw[if_pos h2]
   refine Wk ?_
   refine Sd ?_
   refine Vu hfd ?_
   refine Sd ?_
   intro b2 cap2 g3
   refine Wk ?_
   refine ret_own ?_
   simp only[go_sem]
   rw[e1]
   exact .row _ [_,_] _
  ·rw[if_neg h2]
   refine Wk ?_
   refine ret_own ?_
   simp only[go_sem]
   rw[e1]
   exact .row _ [_] _
 ·rw[if_neg (show ¬0<i by omega)]
  refine Wk ?_
  refine Sd ?_
  refine Vu hat ?_
  refine Sd ?_
  intro b6
  refine Wk ?_
  constructor<;>intro h2
  ·rw[if_pos h2]
   refine Wk ?_
   refine Sd ?_
   refine Vu hfd ?_
   refine Sd ?_
   intro b2 cap2 g3
   refine Wk ?_
   refine ret_own ?_
   simp only[go_sem]
   exact .row _ [_] _
  ·rw[if_neg h2]
   refine Wk ?_
   refine ret_own ?_
   simp only[go_sem]
   exact .nil
end Go.AL
end
section
namespace Go.AL
open Go Go.RowKit Proofs.Tryz
set_option maxRecDepth 4000
def RSt (n bo cap:Nat)(Y:Nat->List AV)(L:AHeap):Prop :=
 ∃(V:Nat->AV) (Ls:Nat->AHeap),L.Perm ((bo,.row 87 1 ((List.range n).map V) cap) :: famL n Ls)/\∀p,p<n->AppSt 4 1 (Y p) (V p) (Ls p)
theorem RSt.perm {n bo cap:Nat}{Y:Nat->List AV}{L L':AHeap}(hp:L'.Perm L)(h:RSt n bo cap Y L):RSt n bo cap Y L' :=
 let ⟨V,Ls,h1,h2⟩:=h
 ⟨V,Ls,hp.trans h1,h2⟩
theorem RSt.open {n bo cap:Nat}{Y:Nat->List AV}{L:AHeap}(h:RSt n bo cap Y L){p:Nat}(hp:p<n)(hY:0<(Y p).length) :
  ∃(V:Nat->AV) (b cp:Nat) (X:AHeap),L.Perm ((bo,.row 87 1 ((List.range n).map V) cap) :: (b,.row 4 1 (Y p) cp) :: X)/\V p = .ls b 1 0 (Y p).length cp /\
   ∀(Y':Nat->List AV) (L':AHeap),(∀q,q ≠ p->Y' q=Y q)->(Y' p).length=(Y p).length->L'.Perm ((bo,.row 87 1 ((List.range n).map V) cap) :: (b,.row 4 1 (Y' p) cp) :: X)->RSt n bo cap Y' L':=by
 obtain⟨V,Ls,h1,h2⟩:=h
 rcases (h2 p hp).inv with ⟨e,_,_⟩|⟨b,cp,e1,e2⟩
 ·rw[e] at hY;simp at hY
 ·have hsp:=fam_split hp Ls
  rw[e2] at hsp
  refine⟨V,b,cp,famR n p Ls,h1.trans (hsp.cons _),e1,fun Y' L' hq hl hL=>?_⟩
  refine⟨V,fun q=>if q=p then [(b,.row 4 1 (Y' p) cp)] else Ls q,?_,fun q hqn=>?_⟩
  ·refine hL.trans (List.Perm.cons _ ?_)
   have hsp:=fam_split hp (fun q=>if q=p then [(b,ABlk.row 4 1 (Y' p) cp)] else Ls q)
   rw[if_pos rfl,famR_congr (Ls:=Ls) (fun q hq=>if_neg hq)] at hsp
   exact hsp.symm
  ·by_cases e:q=p
   ·subst e;dsimp only;rw[if_pos rfl,e1,<- hl];exact .row _ _ _
   ·dsimp only;rw[if_neg e,hq q e];exact h2 q hqn
def QSt (q:List Eid)(v:AV)(L:AHeap):Prop :=
 (q=[]/\v=anil/\L=[])\/∃b off cap capb xs,v = .ls b 2 off q.length cap/\L=[(b,.row 53 2 xs capb)]/\(xs.drop off).take q.length=q.map aEid/\off+q.length<=xs.length/\q.length<=cap/\off+cap=capb
theorem QSt.of {q:List Eid}{v:AV}{L:AHeap}(h:AppSt 53 2 (q.map aEid) v L)(hc:∀b cap,L=[(b,.row 53 2 (q.map aEid) cap)]->q.length<=cap):QSt q v L:=by
 rcases h.inv with ⟨e1,e2,e3⟩|⟨b,cap,e1,e2⟩
 ·exact .inl ⟨by simpa using e1,e2,e3⟩
 ·refine .inr ⟨b,0,cap,cap,q.map aEid,by rw[e1,List.length_map],e2,?_,by simp,hc b cap e2,by omega⟩
  rw[List.drop_zero,List.take_of_length_le (by simp)]
theorem AWp.queue {C:Cfg}{c:Code}{Q:AQ}{ρ:Env}{L Lq L1:AHeap}{q:List Eid}{v:AV}(hP:L.Perm (Lq ++ L1))(hA:AppSt 53 2 (q.map aEid) v Lq)(h:QSt q v Lq->AWp C c Q ρ L):AWp C c Q ρ L:=by
 rcases hA.inv with ⟨e1,e2,e3⟩|⟨b,cap,e1,e2⟩
 ·exact h (.inl ⟨by simpa using e1,e2,e3⟩)
 ·subst e2
  refine AWp.rowLe (hP.mem_iff.2 (List.mem_append_left _ (List.mem_singleton_self _))) fun hle=>h (QSt.of hA fun b' cap' e=>?_)
  simp only[List.cons.injEq,Prod.mk.injEq,ABlk.row.injEq,and_true] at e
  obtain⟨_,_,_,_,rfl⟩:=e
  simpa using hle
theorem queue_tail {xs:List AV}{off n:Nat}{a:AV}{l:List AV}(h:(xs.drop off).take (n+1)=a :: l):xs.getD off .any=a/\(xs.drop (off+1)).take n=l:=by
 have hd:xs.drop (off+1)=(xs.drop off).drop 1:=by rw[List.drop_drop]
 cases hx:xs.drop off with
 | nil=>rw[hx] at h;cases h
 | cons b r =>
  rw[hx] at h
  simp only[List.take_succ_cons,List.cons.injEq] at h
  refine⟨?_,by rw[hd,hx];simpa using h.2⟩
  have e:xs[off]?=some b:=by
   have:=List.getElem?_drop (xs:=xs) (i:=off) (j:=0)
   rw[hx] at this
   simpa using this.symm
  rw[List.getD_eq_getElem?_getD,e];exact h.1
theorem ref12_Past (ps:List Pr)(hs:Sm ps)(hm:msgF ps=none)(hn:1<=ps.length)(p:Nat)(hp:p<ps.length)(i:Nat)(hi:i<ps[p].evs.length):PC prog 68 [aTr ps,aEid (p,(i:Int)+1)] (pastA ps ((p:Int),(i:Int)+1)):=by
 have hl:=hs.procs
 refine PE 75 [.tmp 4] [2,3,8,28,72] func68 ?_;simp only[go_sem]
 refine Sd ?_
 refine Ao ?_
 refine AWp.cut [2,3,5] (fun vs L=>∃bo cap,vs=[.rp 1 [aTr ps] 0 0,.rp 2 [aEid (p,(i:Int)+1)] 0 0,.ls bo 1 0 ps.length cap]/\RSt ps.length bo cap (pRow ps []) L) ?_ ?_
 ·refine Wk ?_
  refine AWp.block (AWp.count 6 ps.length [5] [2,3] (fun k vs L=>∃v Lv V Ls,vs=[v]/\L.Perm (Lv ++ famL k Ls)/\AppSt 87 1 ((List.range k).map V) v Lv/\∀q,q<k->AppSt 4 1 (pRow ps [] q) (V q) (Ls q))
   rfl rfl ⟨anil,[],fun _=>anil,fun _=>[],rfl,.refl _,.nil,fun q hq=>by omega⟩ ?_)
  rintro k vs L hk - ⟨v,Lv,V,Ls,rfl,hP,hA,hF⟩
  refine AWp.perm hP ?_
  simp only[go_sem]
  refine Wk ?_
  constructor<;>intro h1
  ·have hkp:k<ps.length:=by omega
   have hel:=hs.evs _ (List.getElem_mem hkp)
   have e1:((ps[k].evs.length:Int)+1).toNat=nev ps k+1:=by rw[nev_get hkp];omega
   have hz:ab false :: List.replicate (nev ps k) (ab false)=pRow ps [] k:=by rw[pRow_nil,List.replicate_succ]
   have hzl:=pRow_length ps [] k
   -- the family with one row more
   have hfam:∀b:Nat,(famL (k+1) (fun q=>if q=k then [(b,ABlk.row 4 1 (pRow ps [] k) (nev ps k+1))] else Ls q)).Perm ((b,.row 4 1 (pRow ps [] k) (nev ps k+1)) :: famL k Ls):=fun b=>by
    unfold famL
    rw[List.range_succ,List.flatMap_append]
    have e:(List.range k).flatMap (fun q=>if q=k then [(b,ABlk.row 4 1 (pRow ps [] k) (nev ps k+1))] else Ls q)=(List.range k).flatMap Ls :=
     flatMap_ext fun q hq=>if_neg (by have:=List.mem_range.1 hq;omega)
    rw[e]
    simp only[List.flatMap_cons,List.flatMap_nil,if_true]
    exact List.perm_append_comm (l₂:=[_])
   have hmap:∀x,(List.range k ++ [k]).map (fun q=>if q=k then x else V q)=(List.range k).map V ++ [x]:=fun x=>by
    rw[List.map_append]
    congr 1
    ·refine List.map_congr_left fun q hq=>if_neg (by have:=List.mem_range.1 hq;omega)
    ·simp
   have hAll:∀b:Nat,∀q,q<k+1->AppSt 4 1 (pRow ps [] q) (if q=k then .ls b 1 0 (nev ps k+1) (nev ps k+1) else V q) (if q=k then [(b,ABlk.row 4 1 (pRow ps [] k) (nev ps k+1))] else Ls q):=fun b q hq=>by
    by_cases e:q=k
    ·subst e
     rw[if_pos rfl,if_pos rfl]
     have:=AppSt.row (t:=4) (k:=1) b (pRow ps [] q) (nev ps q+1)
     rwa [hzl] at this
    ·rw[if_neg e,if_neg e];exact hF q (by omega)
   have hyl:((List.range k).map V).length=k:=by simp
   generalize (List.range k).map V=ys at *
   rcases hA.inv with ⟨e2,rfl,rfl⟩|⟨bv,cap,rfl,rfl⟩
   ·refine Sd ?_
    refine AWp.of ?_;simp only[go_sem,getD_map hkp,e1]
    refine Sd ?_
    intro b hb b' cap' g1 g2 g3
    rw[hz]
    refine Wk ?_
    refine⟨_,.refl _,.ls b' 1 0 1 cap',[(b',.row 87 1 [.ls b 1 0 (nev ps k+1) (nev ps k+1)] cap')],_,_,rfl,List.Perm.cons _ (hfam b).symm,?_,hAll b⟩
    rw[hmap,e2]
    exact .row _ [_] _
   ·refine Sd ?_
    refine AWp.of ?_;simp only[go_sem,getD_map hkp,e1]
    refine Sd ?_
    intro b hb g0
    have nb:¬bv=b:=by omega
    simp only[go_sem,nb]
    refine Sd ?_
    intro b' cap' g1 g2 g3
    rw[hz]
    refine Wk ?_
    refine⟨_,.refl _,.ls b' 1 0 (ys.length+1) cap',[(b',.row 87 1 (ys ++ [.ls b 1 0 (nev ps k+1) (nev ps k+1)]) cap')],_,_,rfl,List.Perm.cons _ (hfam b).symm,?_,hAll b⟩
    rw[hmap]
    have:=AppSt.row (t:=87) (k:=1) b' (ys ++ [.ls b 1 0 (nev ps k+1) (nev ps k+1)]) cap'
    simpa using this
  ·have hkn:k=ps.length:=by omega
   subst hkn
   rcases hA.inv with ⟨e2,rfl,rfl⟩|⟨bv,cap,rfl,rfl⟩
   ·have h9:ps.length=0:=by have:=congrArg List.length e2;simpa using this
    omega
   ·refine⟨_,.refl _,bv,cap,?_,V,Ls,.refl _,hF⟩
    simp
 ·rintro vs L - ⟨bo,cap,rfl,hR⟩
  have hdir:=ref12_Directly ps hs p hp i hi
  simp only[go_sem]
  have hE:=evIds_small hs
  refine AWp.cut [2,5,7] (fun vs L=>∃v Lq L1,vs=[.rp 1 [aTr ps] 0 0,.ls bo 1 0 ps.length cap,v]/\L.Perm (Lq ++ L1)/\AppSt 53 2 ((dirL ps p i).map aEid) v Lq/\RSt ps.length bo cap (pRow ps []) L1) ?_ ?_
  ·refine Sd ?_
   refine Ao ?_
   refine((hdir.val).frame (Lr:=L)).mono ?_
   rintro r L' ⟨Lq,rfl,hA⟩
   have hfo:=hA.fo
   simp only[go_sem,hfo]
   exact⟨_,.refl _,r,Lq,L,rfl,.refl _,hA,hR⟩
  ·rintro vs L' - ⟨v,Lq,L1,rfl,hP,hA,hR⟩
   refine AWp.queue hP hA fun hQ=>?_
   simp only[go_sem]
   refine AWp.seq (AWp.block (AWp.loopN [7] [2,5] (fun m vs L=>∃seen q v Lq L1,vs=[v]/\L.Perm (Lq ++ L1)/\QSt q v Lq/\RSt ps.length bo cap (pRow ps seen) L1/\Psr ps ((p:Int),(i:Int)+1) seen q/\m=3 * ((evIds ps).length - seen.length)+q.length)
    (3 * ((evIds ps).length - 0)+(dirL ps p i).length) ?_ ?_))
   ·exact⟨[],_,v,Lq,L1,rfl,hP,hQ,hR,Psr.start hm hp hi,rfl⟩
   rintro m vs L - ⟨seen,q,v,Lq,L1,rfl,hP,hQ,hR,hS,rfl⟩
   -- the end,where the queue is empty
   have hend:q=[]->fo v=(True,v)->True:=fun _ _=>trivial
   rcases hQ with ⟨rfl,rfl,rfl⟩|⟨b,off,cq,capq,xs,rfl,rfl,hxs,hl1,hl2,hl3⟩
   ·simp only[go_sem]
    refine Wk ?_
    intro _
    obtain⟨V,Ls,hPr,hF⟩:=hR
    have hP2:=hP.trans (List.Perm.append_left _ hPr)
    obtain⟨Lx,hLx⟩:∃Lx:AHeap,Lx=[]:=⟨_,rfl⟩
    rw[<- hLx] at hP2
    refine AWp.nodup fun hnd=>?_
    have hP3:L.Perm (famL ps.length Ls ++ ((bo,.row 87 1 ((List.range ps.length).map V) cap) :: Lx)):=hP2.trans ((List.perm_append_comm (l₁:=Lx)).trans ((List.perm_append_comm (l₁:=[_])).append_right _ |>.trans (by rw[List.append_assoc];exact .refl _)))
    have hnd':((famL ps.length Ls).map (·.1)).Nodup:=by
     have:=(hP3.map (·.1)).nodup_iff.1 hnd
     rw[List.map_append,List.nodup_append] at this
     exact this.1
    refine AWp.viewP hP3 (.row (fam_views hnd' hF) (LVw.none _)) [] (by simp) ?_
    simp only[go_sem]
    refine Wk ?_
    refine ret_view [true] ?_;simp only[go_sem]
    rw[<- pastA_of hS]
    exact Vw.ofLs (t:=87) (cap:=cap) (if_pos rfl) (by simp)
   ·cases q with
    | nil =>
     simp only[go_sem]
     refine Wk ?_
     intro _
     obtain⟨V,Ls,hPr,hF⟩:=hR
     have hP2:=hP.trans (List.Perm.append_left _ hPr)
     obtain⟨Lx,hLx⟩:∃Lx:AHeap,Lx=[(b,.row 53 2 xs capq)]:=⟨_,rfl⟩
     rw[<- hLx] at hP2
     refine AWp.nodup fun hnd=>?_
     have hP3:L.Perm (famL ps.length Ls ++ ((bo,.row 87 1 ((List.range ps.length).map V) cap) :: Lx)):=hP2.trans ((List.perm_append_comm (l₁:=Lx)).trans ((List.perm_append_comm (l₁:=[_])).append_right _ |>.trans (by rw[List.append_assoc];exact .refl _)))
     have hnd':((famL ps.length Ls).map (·.1)).Nodup:=by
      have:=(hP3.map (·.1)).nodup_iff.1 hnd
      rw[List.map_append,List.nodup_append] at this
      exact this.1
     refine AWp.viewP hP3 (.row (fam_views hnd' hF) (LVw.none _)) [] (by simp) ?_
     simp only[go_sem]
     refine Wk ?_
     refine ret_view [true] ?_;simp only[go_sem]
     rw[<- pastA_of hS]
     exact Vw.ofLs (t:=87) (cap:=cap) (if_pos rfl) (by simp)
    | cons y q' =>
     simp only[List.length_cons,List.map_cons] at hxs hl1 hl2
     obtain⟨hg0,htl⟩:=queue_tail hxs
     have hsz:=hS.size
     have hsm:=hS.small
     simp only[List.length_cons] at hsz
     obtain⟨⟨py,hpy,iy,hiy,rfl⟩,hreach⟩:=hS.qv y List.mem_cons_self
     have hnv:=nev_get hpy
     have hely:=hs.evs _ (List.getElem_mem hpy)
     obtain⟨V,br,cp,X,hPr,hVr,hcl⟩:=hR.open hpy (by rw[pRow_length];omega)
     refine AWp.perm (hP.trans (hPr.cons _)) (AWp.nodup fun hnd=>?_)
     obtain⟨⟨m1,m2⟩,⟨m3,m4⟩,⟨m5,m6⟩,_⟩:=nd3 hnd
     have hgV:((List.range ps.length).map V).getD py .any = .ls br 1 0 (nev ps py+1) cp:=by rw[map_range_getD hpy,hVr,pRow_length]
     have hgr:(pRow ps seen py).getD ((iy:Int)+1).toNat .any=ab (decide (((py:Int),(iy:Int)+1) ∈ seen)):=by
      have e:((iy:Int)+1).toNat=iy+1:=by omega
      rw[e,pRow_get (by omega)];simp
     have hrl:=pRow_length ps seen py
     simp only[go_sem]
     refine Wk ?_
     refine⟨fun _=>?_,fun h=>(by exfalso;omega)⟩
     refine W1 hg0 ?_
     refine Sd ?_
     intro b8 h8 h9 h10 h11
     refine Wk ?_
     refine AWp.seq (AWp.seq ?_)
     refine Sq ?_
     refine AWp.mix mixed [0,1,2,3,5,6] (.step 4 (.step 7 (.step 8 .done .done) .done) .done) (by kernel_rfl) ?_;simp only[go_sem,m1,m2,m3,m4,m5,m6,hgV,hgr,hrl,List.length_range]
     refine Sd ?_
     refine Wk ?_
     constructor<;>intro h1
     ·refine Wk ?_
      refine⟨_,.refl _,3 * ((evIds ps).length - seen.length)+q'.length,by omega,seen,q',_,[(b,.row 53 2 xs capq)],(bo,.row 87 1 ((List.range ps.length).map V) cap) :: (br,.row 4 1 (pRow ps seen py) cp) :: X,rfl,.refl _,?_,hR.perm hPr.symm,hS.skip h1,rfl⟩
      exact .inr ⟨b,off+1,cq - 1,capq,xs,by rw[Nat.add_sub_cancel],rfl,htl,by omega,by omega,by omega⟩
     ·have hset:(pRow ps seen py).set ((iy:Int)+1).toNat (ab true)=pRow ps (((py:Int),(iy:Int)+1) :: seen) py:=by
       have e:((iy:Int)+1).toNat=iy+1:=by omega
       rw[e];exact pRow_set
      have hR2:RSt ps.length bo cap (pRow ps (((py:Int),(iy:Int)+1) :: seen)) ((bo,.row 87 1 ((List.range ps.length).map V) cap) :: (br,.row 4 1 (pRow ps (((py:Int),(iy:Int)+1) :: seen) py) cp) :: X) :=
       hcl _ _ (fun q hq=>pRow_other (k:=iy+1) hq) (by rw[pRow_length,pRow_length]) (.refl _)
      have hmk:=Psr.mark hm hpy hiy hS h1
      have hdir2:=ref12_Directly ps hs py hpy iy hiy
      have hd2:=dirL_length ps py iy
      have hms:=hmk.small
      simp only[List.length_cons] at hms
      refine AWp.seq ?_
      refine Sq ?_
      refine AWp.mix mixed [0,1,2,3,5,6] (.step 4 (.step 7 (.step 8 .done .done) .done) .done) (by kernel_rfl) ?_;simp only[go_sem,m1,m2,m3,m4,m5,m6,hgV,hgr,hrl,List.length_range]
      refine Sd ?_
      rw[hset]
      generalize dirL ps py iy=dl at *
      obtain⟨LR,hLR⟩:∃LR:AHeap,LR=(bo,.row 87 1 ((List.range ps.length).map V) cap) :: (br,.row 4 1 (pRow ps (((py:Int),(iy:Int)+1) :: seen) py) cp) :: X:=⟨_,rfl⟩
      rw[<- hLR] at hR2 ⊢
      refine Wk ?_
      refine((hdir2.val).frame (Lr:=(b,.row 53 2 xs capq) :: LR)).mono ?_
      rintro r L' ⟨Ln,rfl,hAn⟩
      have hfo:=hAn.fo
      simp only[go_sem,hfo]
      refine AWp.viewP (Lf:=Ln) (Lk:=(b,.row 53 2 xs capq) :: LR) (.refl _) (LVw.refl _) [(9,.sl 2 (dl.map aEid))] ?_ ?_
      ·intro q hq
       simp only[List.mem_singleton] at hq
       subst hq
       have:=hAn.vw []
       rw[List.append_nil] at this
       show Vw Ln _ (.sl 2 (dl.map aEid))
       simpa only [get,if_true] using this
      simp only[go_sem]
      refine Wk ?_
      refine AWp.block (AWp.count 10 dl.length [7] [2,5,9] (fun j vs L=>∃v Lq L1,vs=[v]/\L.Perm (Lq ++ L1)/\QSt (q' ++ dl.take j) v Lq/\RSt ps.length bo cap (pRow ps (((py:Int),(iy:Int)+1) :: seen)) L1) rfl rfl ?_ ?_)
      ·refine⟨_,[(b,.row 53 2 xs capq)],LR,rfl,.refl _,?_,hR2⟩
       rw[List.take_zero,List.append_nil]
       exact .inr ⟨b,off+1,cq - 1,capq,xs,rfl,rfl,htl,by omega,by omega,by omega⟩
      rintro j vs L hj - ⟨w,Lw,L2,rfl,hPw,hQw,hRw⟩
      refine AWp.perm hPw ?_
      simp only[go_sem]
      refine Wk ?_
      constructor<;>intro h2
      ·have hjd:j<dl.length:=by omega
       have hgj:=getD_map (f:=aEid) hjd
       have hsu:q' ++ dl.take (j+1)=(q' ++ dl.take j) ++ [dl[j]]:=by rw[List.take_succ_eq_append_getElem hjd,List.append_assoc]
       have hql:(q' ++ dl.take j).length<=q'.length+2:=by rw[List.length_append,List.length_take];omega
       obtain⟨qq,hqq⟩:∃qq,q' ++ dl.take j=qq:=⟨_,rfl⟩
       rw[hqq] at hQw hsu hql
       generalize dl[j]=z at *
       rcases hQw with ⟨rfl,rfl,rfl⟩|⟨bw,ow,cw,capw,ys,rfl,rfl,hys,y1,y2,y3⟩
       ·refine Sd ?_
        refine AWp.of ?_;simp only[go_sem,hgj]
        refine Sd ?_
        intro b' cap' g1 g2
        refine Wk ?_
        refine⟨_,.refl _,.ls b' 2 0 1 cap',[(b',.row 53 2 [aEid z] cap')],L2,rfl,.refl _,.inr ⟨b',0,cap',cap',[aEid z],by rw[hsu];rfl,rfl,by rw[hsu];simp,by rw[hsu];simp,by rw[hsu];simpa using g2,by omega⟩,hRw⟩
       ·have hzl:(qq ++ [z]).length=qq.length+1:=by simp
        cases ow with
        | zero =>
         simp only[Nat.zero_add] at y3 y1
         subst y3
         rw[List.drop_zero] at hys
         refine Sd ?_
         refine AWp.of ?_;simp only[go_sem,hgj]
         refine Sd ?_
         intro b' cap' g1 g2
         refine Wk ?_
         refine⟨_,.refl _,.ls b' 2 0 (qq.length+1) cap',[(b',.row 53 2 (ys.take qq.length ++ [aEid z]) cap')],L2,rfl,.refl _,.inr ⟨b',0,cap',cap',_,by rw[hsu,hzl],rfl,?_,?_,by rw[hsu,hzl];exact g2,by omega⟩,hRw⟩
         ·rw[hsu,hys,List.drop_zero,List.take_of_length_le (by simp)];simp
         ·rw[hsu,hys];simp
        | succ ow =>
         refine Sd ?_
         refine AWp.of ?_;simp only[go_sem,hgj]
         refine Sd ?_
         refine⟨fun g2=>?_,fun b' cap' g1 g2=>?_⟩
         ·refine Wk ?_
          refine⟨_,.refl _,.ls bw 2 (ow+1) (qq.length+1) cw,[(bw,.row 53 2 (ys.take (ow+1+qq.length) ++ [aEid z]) capw)],L2,rfl,.refl _,.inr ⟨bw,ow+1,cw,capw,_,by rw[hsu,hzl],rfl,?_,?_,by rw[hsu,hzl];exact g2,y3⟩,hRw⟩
          ·have hd:(ys.take (ow+1+qq.length)).drop (ow+1)=qq.map aEid:=by
            rw[List.drop_take,Nat.add_sub_cancel_left];exact hys
           rw[hsu,List.drop_append_of_le_length (by rw[List.length_take];omega),hd,List.take_of_length_le (by simp)];simp
          ·rw[hsu,hzl,List.length_append,List.length_take];simp only[List.length_cons,List.length_nil];omega
         ·intro g3
          refine Wk ?_
          refine⟨_,.refl _,.ls b' 2 0 (qq.length+1) cap',[(b',.row 53 2 ((ys.drop (ow+1)).take qq.length ++ [aEid z]) cap')],L2,rfl,.refl _,.inr ⟨b',0,cap',cap',_,by rw[hsu,hzl],rfl,?_,?_,by rw[hsu,hzl];omega,by omega⟩,hRw⟩
          ·rw[hsu,hys,List.drop_zero,List.take_of_length_le (by simp)];simp
          ·rw[hsu,hys];simp
      ·refine Wk ?_
       refine⟨_,.refl _,3 * ((evIds ps).length - (seen.length+1))+(q' ++ dl).length,?_,_,_,w,Lw,L2,rfl,.refl _,?_,hRw,hmk,by simp⟩
       ·rw[List.length_append];omega
       ·rwa [List.take_of_length_le (by omega)] at hQw
theorem pairF_zero {ps:List Pr}(h:∀p (hp:p<ps.length) i (hi:i<ps[p].evs.length),pairF ps (off ps p+i)=0):msgF ps=none:=by
 refine msgF_none fun k hk=>?_
 obtain⟨p,hp,i,hi,e,_⟩:=evIds_inv (List.getElem?_eq_getElem hk)
 rw[e];exact h p hp i hi
def Ahead (ps:List Pr)(f:Nat->Nat->Prop)(p i:Nat):Prop:=(∀q (hq:q<ps.length) j,q<p->j<ps[q].evs.length->f q j)/\∀j,j<i->f p j
theorem Ahead.next {ps:List Pr}{f:Nat->Nat->Prop}{p i:Nat}(h:Ahead ps f p i)(hf:f p i):Ahead ps f p (i+1) :=
 ⟨h.1,fun j hj=>by
  by_cases e:j=i
  ·rw[e];exact hf
  ·exact h.2 j (by omega)⟩
theorem Ahead.row {ps:List Pr}{f:Nat->Nat->Prop}{p:Nat}(hp:p<ps.length)(h:Ahead ps f p ps[p].evs.length):Ahead ps f (p+1) 0 :=
 ⟨fun q hq j hqp hj=>by
  by_cases e:q=p
  ·subst e;exact h.2 j hj
  ·exact h.1 q hq j (by omega) hj,fun j hj=>by omega⟩
theorem Ahead.idx {ps:List Pr}{f:Nat->Nat->Prop}{p i:Nat}(hp:p<ps.length)(hi:i<=ps[p].evs.length)(h:Ahead ps f p i){q j:Nat}(hq:q<ps.length)(hj:j<ps[q].evs.length)(hlt:off ps q+j<off ps p+i):f q j:=by
 have mono:∀a b,a<=b->b<=ps.length->off ps a<=off ps b:=by
  intro a b hab hb
  induction b with
  | zero=>have:a=0:=by omega
          subst this;exact Nat.le_refl _
  | succ b ih =>
   by_cases e:a=b+1
   ·subst e;exact Nat.le_refl _
   ·have:=ih (by omega) (by omega)
    rw[off_succ (by omega)];omega
 by_cases h1:q<p
 ·exact h.1 q hq j h1 hj
 ·by_cases h2:q=p
  ·subst h2;exact h.2 j (by omega)
  ·have h3:=mono (p+1) q (by omega) (by omega)
   rw[off_succ hp] at h3
   omega
open Classical in
noncomputable def pastR (ps:List Pr)(x:Eid)(p:Nat):List AV:=(List.range (nev ps p+1)).map fun (k:Nat)=>ab (decide (VEv ps ((p:Int),(k:Int))/\Reach ps ((p:Int),(k:Int)) x))
theorem pastA_eq (ps:List Pr)(x:Eid):pastA ps x = .sl 1 ((List.range ps.length).map fun p=>.sl 1 (pastR ps x p)):=rfl
open Classical in
theorem pastR_get {ps:List Pr}(x:Eid){p:Nat}(hp:p<ps.length){i:Nat}(hi:i<ps[p].evs.length):(pastR ps x p).getD ((i:Int)+1).toNat .any=ab (decide (Reach ps ((p:Int),(i:Int)+1) x)):=by
 have e:((i:Int)+1).toNat=i+1:=by omega
 unfold pastR
 rw[e,map_range_getD (by rw[nev_get hp];omega)]
 have hc:(((i+1:Nat):Int))=(i:Int)+1:=rfl
 rw[hc]
 have hv:VEv ps ((p:Int),(i:Int)+1):=⟨p,hp,i,hi,rfl⟩
 congr 2
 exact propext ⟨fun h=>h.2,fun h=>⟨hv,h⟩⟩
theorem ref12_Fault (ps:List Pr)(hs:Sm ps):PC prog 31 [aTr ps] (aFault (faultF ps)):=by
 have hl:=hs.procs
 refine PE 137 [.cell 2 53,.tmp 3] [1,11,15] func31 ?_;simp only[go_sem]
 intro b2
 refine Wk ?_
 refine Wk ?_
 constructor<;>intro h1
 ·refine Wk ?_
  have hf:faultF ps=((0,0),1):=by
   unfold faultF
   rw[if_pos]
   unfold inI
   rw[Bool.not_eq_true',<- Bool.not_eq_true,Bool.and_eq_true,decide_eq_true_eq,decide_eq_true_eq]
   omega
  rw[hf]
  refine ret_eq ?_
  simp only[go_sem]
 ·intro h1'
  have hin:¬((!inI ps.length 1 8)=true):=by
   unfold inI
   rw[Bool.not_eq_true',<- Bool.not_eq_true,Bool.and_eq_true,decide_eq_true_eq,decide_eq_true_eq]
   omega
  refine Wk ?_
  refine AWp.block (AWp.count 4 ps.length [] [1,2] (fun k vs L=>L=[(b2,.row 53 2 [aEid (0,0)] 1)]/\∀j,j<k->procF ps j=0) rfl rfl ⟨by simp [aEid],by omega⟩ ?_)
  rintro k vs L hk - ⟨rfl,hI⟩
  simp only[go_sem]
  refine Wk ?_
  constructor<;>intro h2
  ·have hkp:k<ps.length:=by omega
   refine Wk ?_
   refine Sd ?_
   refine(ref12_head ps hs k hkp).val.use ?_;simp only[go_sem]
   refine Wk ?_
   constructor<;>intro h3
   ·refine Wk ?_
    have hf:faultF ps=(((k:Int),0),procF ps k):=by unfold faultF;rw[if_neg hin,procFirst_hit hkp hI h3]
    rw[hf]
    refine ret_eq ?_
    simp only[go_sem]
   ·refine Wk ?_
    refine⟨_,.refl _,rfl,fun j hj=>?_⟩
    by_cases e:j=k
    ·rw[e];exact h3
    ·exact hI j (by omega)
  ·have hpf:=procFirst_none (ps:=ps) fun j hj=>hI j (by omega)
   refine Wk ?_
   refine AWp.block (AWp.count 6 ps.length [] [1,2] (fun p vs L=>L=[(b2,.row 53 2 [aEid (0,0)] 1)]/\Ahead ps (fun q j=>evF ps q j=0) p 0) rfl rfl ⟨by simp [aEid],fun _ _ _ h=>by omega,fun j hj=>by omega⟩ ?_)
   rintro p vs L hp - ⟨rfl,hA⟩
   simp only[go_sem]
   refine Wk ?_
   constructor<;>intro h4
   ·have hpp:p<ps.length:=by omega
    have hgP:=getD_map (f:=aPr) hpp
    have hel:=hs.evs _ (List.getElem_mem hpp)
    refine Wk ?_
    refine AWp.block (AWp.count 7 ps[p].evs.length [] [1,2,6] (fun i vs L=>L=[(b2,.row 53 2 [aEid (0,0)] 1)]/\Ahead ps (fun q j=>evF ps q j=0) p i) rfl rfl ⟨by simp [aEid],hA⟩ ?_)
    rintro i vs L hi - ⟨rfl,hB⟩
    simp only[go_sem]
    refine W1 hgP ?_
    constructor<;>intro h5
    ·have hie:i<ps[p].evs.length:=by omega
     refine Wk ?_
     refine Sd ?_
     refine(ref12_form ps hs p hpp i hie).val.use ?_;simp only[go_sem]
     refine Wk ?_
     constructor<;>intro h6
     ·refine Wk ?_
      have hat:evAt ps ((p:Int),(i:Int)+1)=evF ps p i:=by simp only[evAt,Int.toNat_natCast,show ((i:Int)+1 - 1).toNat=i by omega]
      have hhit:=evFirst_hit (evIds_get hpp hie) (fun j y hj hy=>by
       obtain⟨q,hq,r,hr,e,rfl⟩:=evIds_inv hy
       have:=hB.idx hpp (by omega) hq hr (by omega)
       simpa only [evAt,Int.toNat_natCast,show ((r:Int)+1 - 1).toNat=r by omega] using this) (by rw[hat];exact h6)
      have hf:faultF ps=(((p:Int),(i:Int)+1),evF ps p i):=by unfold faultF;rw[if_neg hin,hpf,hhit,hat]
      rw[hf]
      refine ret_eq ?_
      simp only[go_sem]
     ·refine Wk ?_
      exact⟨_,.refl _,rfl,hB.next h6⟩
    ·have e:i=ps[p].evs.length:=by omega
     rw[e] at hB
     refine Wk ?_
     exact⟨_,.refl _,rfl,hB.row hpp⟩
   ·have hpn:p=ps.length:=by omega
    have hef:evFirst ps=none:=evFirst_none fun j y hy=>by
     obtain⟨q,hq,r,hr,e,rfl⟩:=evIds_inv hy
     have:=hA.1 q hq r (by omega) hr
     simpa only [evAt,Int.toNat_natCast,show ((r:Int)+1 - 1).toNat=r by omega] using this
    have hfm:=formed_of_evFirst hef
    clear hA
    refine Wk ?_
    refine AWp.block (AWp.count 9 ps.length [] [1,2] (fun p vs L=>L=[(b2,.row 53 2 [aEid (0,0)] 1)]/\Ahead ps (fun q j=>pairF ps (off ps q+j)=0) p 0) rfl rfl ⟨by simp [aEid],fun _ _ _ h=>by omega,fun j hj=>by omega⟩ ?_)
    rintro p vs L hp - ⟨rfl,hA⟩
    simp only[go_sem]
    refine Wk ?_
    constructor<;>intro h4
    ·have hpp:p<ps.length:=by omega
     have hgP:=getD_map (f:=aPr) hpp
     have hel:=hs.evs _ (List.getElem_mem hpp)
     refine Wk ?_
     refine AWp.block (AWp.count 10 ps[p].evs.length [] [1,2,9] (fun i vs L=>L=[(b2,.row 53 2 [aEid (0,0)] 1)]/\Ahead ps (fun q j=>pairF ps (off ps q+j)=0) p i) rfl rfl ⟨by simp [aEid],hA⟩ ?_)
     rintro i vs L hi - ⟨rfl,hB⟩
     simp only[go_sem]
     refine W1 hgP ?_
     constructor<;>intro h5
     ·have hie:i<ps[p].evs.length:=by omega
      refine Wk ?_
      intro b11 _
      refine Wk ?_
      refine Sd ?_
      refine(ref12_paired ps hs hfm p hpp i hie).val.use ?_;simp only[go_sem]
      refine Wk ?_
      constructor<;>intro h6
      ·refine Wk ?_
       have hhit:=msgF_hit (evIds_get hpp hie) (fun j hj=>by
        have hjl:j<(evIds ps).length:=by have:=(List.getElem?_eq_some_iff.1 (evIds_get hpp hie)).1;omega
        obtain⟨q,hq,r,hr,e,_⟩:=evIds_inv (List.getElem?_eq_getElem hjl)
        rw[e];exact hB.idx hpp (by omega) hq hr (by omega)) h6
       have hf:faultF ps=(((p:Int),(i:Int)+1),pairF ps (off ps p+i)):=by unfold faultF;rw[if_neg hin,hpf,hef,hhit]
       rw[hf]
       refine ret_eq ?_
       simp only[go_sem]
      ·refine Wk ?_
       exact⟨_,.refl _,rfl,hB.next h6⟩
     ·have e:i=ps[p].evs.length:=by omega
      rw[e] at hB
      refine Wk ?_
      exact⟨_,.refl _,rfl,hB.row hpp⟩
    ·have hmf:msgF ps=none:=pairF_zero fun q hq r hr=>hA.1 q hq r (by omega) hr
     clear hA
     have hn1:1<=ps.length:=by omega
     refine Wk ?_
     refine Sd ?_
     refine(ref12_acyclic ps hs hmf hn1).val.use ?_;simp only[go_sem]
     refine Wk ?_
     constructor<;>intro h7
     ·refine Wk ?_
      have hf:faultF ps=((0,0),0):=by unfold faultF;rw[if_neg hin,hpf,hef,hmf,acyB_cyc hs hmf h7]
      rw[hf]
      refine ret_eq ?_
      simp only[go_sem]
     ·refine Wk ?_
      refine AWp.block (AWp.count 13 ps.length [] [1,2] (fun p vs L=>L=[(b2,.row 53 2 [aEid (0,0)] 1)]/\Ahead ps (fun q j=>¬Reach ps ((q:Int),(j:Int)+1) ((q:Int),(j:Int)+1)) p 0) rfl rfl ⟨by simp [aEid],fun _ _ _ h=>by omega,fun j hj=>by omega⟩ ?_)
      rintro p vs L hp - ⟨rfl,hA⟩
      simp only[go_sem]
      refine Wk ?_
      constructor<;>intro h4
      ·have hpp:p<ps.length:=by omega
       have hgP:=getD_map (f:=aPr) hpp
       have hel:=hs.evs _ (List.getElem_mem hpp)
       refine Wk ?_
       refine AWp.block (AWp.count 14 ps[p].evs.length [] [1,2,13] (fun i vs L=>L=[(b2,.row 53 2 [aEid (0,0)] 1)]/\Ahead ps (fun q j=>¬Reach ps ((q:Int),(j:Int)+1) ((q:Int),(j:Int)+1)) p i) rfl rfl ⟨by simp [aEid],hA⟩ ?_)
       rintro i vs L hi - ⟨rfl,hB⟩
       simp only[go_sem]
       refine W1 hgP ?_
       constructor<;>intro h5
       ·have hie:i<ps[p].evs.length:=by omega
        have hpast:=ref12_Past ps hs hmf hn1 p hpp i hie
        rw[pastA_eq] at hpast
        have hg1:((List.range ps.length).map fun q=>AV.sl 1 (pastR ps ((p:Int),(i:Int)+1) q)).getD p .any = .sl 1 (pastR ps ((p:Int),(i:Int)+1) p):=map_range_getD hpp _
        have hg2:=pastR_get ((p:Int),(i:Int)+1) hpp hie
        have hgl:(pastR ps ((p:Int),(i:Int)+1) p).length=ps[p].evs.length+1:=by unfold pastR;rw[List.length_map,List.length_range,nev_get hpp]
        refine Wk ?_
        intro b15 _
        refine Wk ?_
        refine Sd ?_
        refine(hpast).val.use ?_;simp only[go_sem,hg1,hg2,hgl,List.length_range]
        refine Sd ?_
        refine Wk ?_
        constructor<;>intro h6
        ·refine Wk ?_
         have hhit:=cycF_hit (evIds_get hpp hie) (fun j y hj hy=>by
          obtain⟨q,hq,r,hr,e,rfl⟩:=evIds_inv hy
          exact hB.idx hpp (by omega) hq hr (by omega)) h6
         have hf:faultF ps=(((p:Int),(i:Int)+1),10):=by unfold faultF;rw[if_neg hin,hpf,hef,hmf,hhit]
         rw[hf]
         refine ret_eq ?_
         simp only[go_sem]
        ·refine Wk ?_
         exact⟨_,.refl _,rfl,hB.next h6⟩
       ·have e:i=ps[p].evs.length:=by omega
        rw[e] at hB
        refine Wk ?_
        exact⟨_,.refl _,rfl,hB.row hpp⟩
      ·have hcf:cycF ps=none:=cycF_none fun j y hy=>by
        obtain⟨q,hq,r,hr,e,rfl⟩:=evIds_inv hy
        exact hA.1 q hq r (by omega) hr
       refine Wk ?_
       have hf:faultF ps=((0,0),0):=by unfold faultF;rw[if_neg hin,hpf,hef,hmf,hcf]
       rw[hf]
       refine ret_eq ?_
       simp only[go_sem]
theorem ref12_Valid (ps:List Pr)(hs:Sm ps):PC prog 10 [aTr ps] (ab (validF ps)):=by
 refine PE 12 [.tmp 2] [1,3] func10 ?_;simp only[go_sem]
 refine Wk ?_
 refine Sd ?_
 refine(ref12_Fault ps hs).val.use ?_;simp only[go_sem]
 refine Sd ?_
 intros
 refine Ao ?_
 refine Wk ?_
 refine Rq ?_
 rfl
end Go.AL
end
section
namespace Go.AL
open Go Go.RowKit Proofs.Tryz
set_option maxRecDepth 4000
inductive Pd where
 | mk (kind n proc peer:Int) (name:ByteArray) (l:List Pd)
def Pd.l:Pd->List Pd | .mk _ _ _ _ _ l=>l
def Pd.kind:Pd->Int | .mk k _ _ _ _ _=>k
mutual
def aPd:Pd->AV
 | .mk k n p q s l=>.agg [ai k,ai n,ai p,ai q,astr s,.sl 6 (aPdL l)]
def aPdL:List Pd->List AV
 | []=>[]
 | x :: r=>aPd x :: aPdL r
end
theorem aPdL_map:∀l:List Pd,aPdL l=l.map aPd
 | []=>by rw[aPdL];rfl
 | x :: r=>by rw[aPdL,aPdL_map r];rfl
@[go_sem] theorem aPd_mk (k n p q:Int)(s:ByteArray)(l:List Pd):aPd (.mk k n p q s l) = .agg [ai k,ai n,ai p,ai q,astr s,.sl 6 (l.map aPd)]:=by rw[aPd,aPdL_map]
theorem Pd.ind {P:Pd->Prop}(h:∀k n p q s l,(∀x ∈ l,P x)->P (.mk k n p q s l)):∀t,P t
 | .mk k n p q s l=>h k n p q s l fun x hx=>Pd.ind h x
termination_by t=>SizeOf.sizeOf t
decreasing_by have:=List.sizeOf_lt_of_mem hx;simp;omega
mutual
def szF:Pd->Nat
 | .mk _ _ _ _ _ l=>szL l+1
def szL:List Pd->Nat
 | []=>0
 | x :: r=>szF x+szL r
end
mutual
def dpF:Pd->Nat
 | .mk _ _ _ _ _ l=>dpL l+1
def dpL:List Pd->Nat
 | []=>0
 | x :: r=>max (dpF x) (dpL r)
end
theorem szF_pos (t:Pd):1<=szF t:=by cases t;rw[szF];omega
theorem szL_len:∀l:List Pd,l.length<=szL l
 | []=>by simp
 | x :: l=>by rw[szL,List.length_cons];have:=szL_len l;have:=szF_pos x;omega
theorem szL_mem:∀ {l:List Pd} {x:Pd},x ∈ l->szF x<=szL l
 | y :: l,x,h=>by
  rw[szL]
  rcases List.mem_cons.1 h with rfl|h
  ·omega
  ·have:=szL_mem h;omega
def partsF (k:Int):Int:=if ((1<=k/\k<=4)\/k=13)\/k=14 then 0 else if (k=5\/k=15)\/(18<=k/\k<=21) then 1 else if ((6<=k/\k<=12)\/k=16)\/k=17 then 2 else -1
mutual
def allB (f:Pd->Bool):Pd->Bool
 | .mk k n p q s l=>f (.mk k n p q s l) && allL f l
def allL (f:Pd->Bool):List Pd->Bool
 | []=>true
 | x :: r=>allB f x && allL f r
end
theorem allL_all (f:Pd->Bool):∀l,allL f l=l.all (allB f)
 | []=>by rw[allL];rfl
 | x :: r=>by rw[allL,allL_all f r];rfl
theorem allB_mk (f:Pd->Bool)(k n p q:Int)(s:ByteArray)(l:List Pd):allB f (.mk k n p q s l)=(f (.mk k n p q s l) && l.all (allB f)):=by rw[allB,allL_all]
def numB (k n:Int):Bool:=if k=1 then decide (0<=n/\n<=1125899906842624) else decide (n=0)
def nameB (k p q:Int)(s:ByteArray):Bool:=decide (2<=k/\k<=4) || decide (p=0/\q=0/\s=ByteArray.empty)
def locB:Pd->Bool
 | .mk k n p q s l=>decide (partsF k=l.length) && numB k n && nameB k p q s
def formedB (t:Pd):Bool:=decide (szF t<=200) && decide (dpF t<=20) && allB locB t
def findS {S:Type}(step:Pd->S->Bool × S):List Pd->S->Option Nat × S
 | [],s=>(none,s)
 | x :: r,s=>if (step x s).1 then (some 0,(step x s).2) else ((findS step r (step x s).2).1.map (· + 1),(findS step r (step x s).2).2)
def idxA (o:Option Nat):Int:=match o with|some i=>i|none=>-1
theorem findS_step {S:Type}(step:Pd->S->Bool × S){l:List Pd}{s s':S}{k:Nat}(hk:k<l.length)(h:findS step l s=((findS step (l.drop k) s').1.map (· + k),(findS step (l.drop k) s').2)) :
  ((step l[k] s').1=true->findS step l s=(some k,(step l[k] s').2)) /\
  ((step l[k] s').1=false->findS step l s=((findS step (l.drop (k+1)) (step l[k] s').2).1.map (· + (k+1)),(findS step (l.drop (k+1)) (step l[k] s').2).2)):=by
 rw[List.drop_eq_getElem_cons hk,findS] at h
 constructor<;>intro e
 ·rw[if_pos e] at h;rw[h];simp
 ·rw[if_neg (by rw[e];decide)] at h;rw[h];simp only[Option.map_map]
  congr 2
  funext i;simp only[Function.comp];omega
theorem preds_indexS {S:Type}(step:Pd->S->Bool × S)(Ls:S->AHeap)(Inv:S->Prop)(l:List Pd)(hl:l.length<=1000000)(g:AV)(hgf:fo g=(True,g))
  (hg:∀x ∈ l,∀s,Inv s->MVal prog g [aPd x] (Ls s) fun r L=>r=ab (step x s).1/\L=Ls (step x s).2) (hi:∀x ∈ l,∀s,Inv s->(step x s).1=false->Inv (step x s).2) (s:S) (hs:Inv s) :
  MCalls prog 60 [.sl 6 (l.map aPd),g] (Ls s) fun r L=>r=ai (idxA (findS step l s).1)/\L=Ls (findS step l s).2:=by
 refine MCalls.enter' 19 [.tmp 4] [] func60 rfl rfl rfl rfl rfl (by simp) (AWp.of ?_);simp only[go_sem]
 refine Sd ?_
 refine Ao ?_
 refine AWp.range' l.length [] [0,1,7] (fun k vs L=>∃s',L=Ls s'/\Inv s'/\findS step l s=((findS step (l.drop k) s').1.map (· + k),(findS step (l.drop k) s').2)) (by omega) rfl rfl rfl ⟨s,rfl,hs,by simp⟩ ?_ ?_
 ·rintro k vs L' hk hvs ⟨s',rfl,hI,hf⟩
  obtain⟨f1,f2⟩:=findS_step step hk hf
  have hm:=List.getElem_mem hk
  have hgk:=hg l[k] hm s' hI
  have hik:=hi l[k] hm s' hI
  have hgi:=getD_map (f:=aPd) hk
  generalize l[k]=x at *
  generalize step x s'=st at *
  obtain⟨k2,n2,p2,q2,s2,l2⟩:=x
  simp only[aPd_mk] at hgi hgk
  simp only[go_sem]
  refine Sd ?_
  refine Ao ?_
  refine Sd ?_
  refine AWp.of ?_;simp only[go_sem,hgi,hgf]
  refine Sd ?_
  refine hgk.mono ?_
  rintro r L'' ⟨rfl,rfl⟩
  simp only[go_sem]
  refine Wk ?_
  refine⟨fun ht=>?_,fun hf'=>?_⟩
  ·refine Wk ?_
   refine ret_own ?_
   simp only[go_sem]
   rw[f1 ht];exact⟨rfl,rfl⟩
  ·refine Wk ?_
   exact⟨_,.refl _,_,rfl,hik hf',f2 hf'⟩
 ·rintro vs L' hvs ⟨s',rfl,hI,hf⟩
  simp only[go_sem]
  refine Wk ?_
  refine ret_own ?_
  simp only[go_sem]
  rw[hf,List.drop_length];exact⟨rfl,rfl⟩
theorem preds_containsS {S:Type}(step:Pd->S->Bool × S)(Ls:S->AHeap)(Inv:S->Prop)(l:List Pd)(hl:l.length<=1000000)(g:AV)(hgf:fo g=(True,g))
  (hg:∀x ∈ l,∀s,Inv s->MVal prog g [aPd x] (Ls s) fun r L=>r=ab (step x s).1/\L=Ls (step x s).2) (hi:∀x ∈ l,∀s,Inv s->(step x s).1=false->Inv (step x s).2) (s:S) (hs:Inv s) :
  MCalls prog 26 [.sl 6 (l.map aPd),g] (Ls s) fun r L=>r=ab ((findS step l s).1.isSome)/\L=Ls (findS step l s).2:=by
 have h:=preds_indexS step Ls Inv l hl g hgf hg hi s hs
 generalize findS step l s=o at *
 have ho:0<=idxA o.1↔o.1.isSome=true:=by cases o.1 <;> simp [idxA]
 refine MCalls.enter' 9 [.tmp 4] [] func26 rfl rfl rfl rfl rfl (by simp) (AWp.of ?_);simp only[go_sem]
 refine Sd ?_
 refine AWp.of ?_;simp only[go_sem,hgf]
 refine h.val.mono ?_
 rintro r L'' ⟨rfl,rfl⟩
 simp only[go_sem]
 refine Wk ?_
 refine ret_own ?_
 simp only[go_sem]
 congr 2
 rw[Bool.eq_iff_iff,decide_eq_true_iff];exact ho
theorem findS_any (p:Pd->Bool):∀l:List Pd,(findS (fun x (_:Unit)=>(p x,())) l ()).1.isSome=l.any p
 | []=>rfl
 | x :: r=>by
  rw[findS,List.any_cons]
  by_cases h:p x=true
  ·simp [h]
  ·have:=findS_any p r
   simp only[h,Bool.false_eq_true,if_false,Bool.false_or]
   rw[<- this];simp
theorem preds_containsFunc (l:List Pd)(hl:l.length<=1000000)(g:AV)(hgf:fo g=(True,g))(p:Pd->Bool)(hg:∀x ∈ l,PV prog g [aPd x] (ab (p x))) :
  PC prog 26 [.sl 6 (l.map aPd),g] (ab (l.any p)):=by
 have h:=preds_containsS (fun x (_:Unit)=>(p x,())) (fun _=>[]) (fun _=>True) l hl g hgf (fun x hx s _=>hg x hx) (fun _ _ _ _ _=>trivial) () trivial
 rw[findS_any] at h
 exact h
def resF (k:Int):Int:=if k<=8 then 1 else 2
def needF (k:Int):Int:=if k<=12 then 1 else 2
theorem predtype_result (k:Int):PC prog 190 [ai k] (ai (resF k)):=by
 refine PE 5 [.tmp 2] [] func190 ?_;simp only[go_sem]
 refine Wk ?_
 refine Wk ?_
 constructor<;>intro h1
 ·refine Wk ?_
  refine Rq ?_
  unfold resF;rw[if_pos h1]
 ·refine Wk ?_
  refine Rq ?_
  unfold resF;rw[if_neg h1]
theorem predtype_need (k:Int):PC prog 191 [ai k] (ai (needF k)):=by
 refine PE 5 [.tmp 2] [] func191 ?_;simp only[go_sem]
 refine Wk ?_
 refine Wk ?_
 constructor<;>intro h1
 ·refine Wk ?_
  refine Rq ?_
  unfold needF;rw[if_pos h1]
 ·refine Wk ?_
  refine Rq ?_
  unfold needF;rw[if_neg h1]
def tyNe (k m:Int):Bool:=decide (¬resF m=needF k)
def typB:Pd->Bool
 | .mk k _ _ _ _ l=>!l.any fun x=>tyNe k x.kind
theorem predtype_typed11 (k n p q:Int)(s:ByteArray)(l:List Pd)(x:Pd):PC prog 189 [aPd x,.rp 6 [aPd (.mk k n p q s l)] 0 0] (ab (tyNe k x.kind)):=by
 have hr:=predtype_result x.kind
 have hn:=predtype_need k
 obtain⟨k2,n2,p2,q2,s2,l2⟩:=x
 simp only[Pd.kind] at *
 have hsp:tyNe k k2=decide (¬resF k2=needF k):=rfl
 generalize tyNe k k2=b at *
 generalize hr0:resF k2=r at *
 generalize hm0:needF k=m at *
 refine PE 11 [.tmp 3] [2] func189 ?_;simp only[go_sem]
 refine AWp.seq ?_
 refine Sq ?_
 refine AWp.mix mixed [0,1,2,3,4,5,6,7] .done (by kernel_rfl) ?_;simp only[go_sem]
 refine Sd ?_
 refine Gc hr ?_
 refine Sd ?_
 refine Gc hn ?_
 refine Sd ?_
 refine Wk ?_
 refine Rq ?_
 rw[hsp,decide_not]
theorem predtype_typed1 (x:Pd)(hz:szF x<=1000000):PC prog 188 [aPd x] (ab (typB x)):=by
 obtain⟨k,n,p,q,s,l⟩:=x
 have hll:=szL_len l
 rw[szF] at hz
 have hc:=preds_containsFunc l (by omega) (.clo 189 [.rp 6 [aPd (.mk k n p q s l)] 0 0]) rfl (fun x=>tyNe k x.kind) fun x _=>(predtype_typed11 k n p q s l x).clo
 have hsp:typB (.mk k n p q s l) = !l.any fun x=>tyNe k x.kind:=rfl
 rw[hsp]
 generalize (l.any fun x=>tyNe k x.kind)=b at *
 simp only[aPd_mk] at hc
 refine PE 8 [.tmp 2] [1] func188 ?_;simp only[go_sem]
 refine Wk ?_
 refine Sd ?_
 refine Vu hc ?_
 refine Wk ?_
 exact Rz
theorem predtype_eachC (f:Pd->Bool)(F:FuncId)(cs:List AV)(hg:∀x,szF x<=1000000->PV prog (.clo F cs) [aPd x] (ab (f x)))(t:Pd):szF t<=1000000->PC prog 154 [aPd t,.clo F cs] (ab (allB f t)):=by
 induction t using Pd.ind with
 | _ k n p q s l ih =>
 intro hz
 have hsz:szF (.mk k n p q s l)=szL l+1:=by rw[szF]
 have hll:=szL_len l
 have hf:=hg _ hz
 have h1:∀x ∈ l,PV prog (.clo 194 [.rp 1 [.clo F cs] 0 0]) [aPd x] (ab (!allB f x)):=by
  intro x hx
  have hxi:=szL_mem hx
  have hch:=ih x hx (by omega)
  generalize allB f x=b at *
  obtain⟨k2,n2,p2,q2,s2,l2⟩:=x
  refine PC.clo ?_
  simp only[aPd_mk] at *
  refine PE 8 [.tmp 3] [2] func194 ?_;simp only[go_sem]
  refine Wk ?_
  refine Sd ?_
  refine Vu hch ?_
  refine Wk ?_
  exact Rz
 have hc:=preds_containsFunc l (by omega) _ rfl (fun x=>!allB f x) h1
 have hsp:allB f (.mk k n p q s l)=(f (.mk k n p q s l) && !l.any fun x=>!allB f x):=by
  rw[allB_mk];congr 1
  rw[List.all_eq_not_any_not]
 rw[hsp]
 generalize f (.mk k n p q s l)=b at *
 generalize (l.any fun x=>!allB f x)=c at *
 simp only[aPd_mk] at *
 refine PE 15 [.tmp 4] [2,3] func154 ?_;simp only[go_sem]
 refine Wk ?_
 refine Sd ?_
 refine(hf).use ?_;simp only[go_sem]
 refine Sd ?_
 refine Gc hc ?_
 refine Sd ?_
 refine Wk ?_
 exact Rz
theorem predtype_eachV (f:Pd->Bool)(F:FuncId)(hg:∀x,szF x<=1000000->PV prog (.v (.func (.func F) #[] #[])) [aPd x] (ab (f x)))(t:Pd):szF t<=1000000->PC prog 154 [aPd t,.v (.func (.func F) #[] #[])] (ab (allB f t)):=by
 induction t using Pd.ind with
 | _ k n p q s l ih =>
 intro hz
 have hsz:szF (.mk k n p q s l)=szL l+1:=by rw[szF]
 have hll:=szL_len l
 have hf:=hg _ hz
 have h1:∀x ∈ l,PV prog (.clo 194 [.rp 1 [.v (.func (.func F) #[] #[])] 0 0]) [aPd x] (ab (!allB f x)):=by
  intro x hx
  have hxi:=szL_mem hx
  have hch:=ih x hx (by omega)
  generalize allB f x=b at *
  obtain⟨k2,n2,p2,q2,s2,l2⟩:=x
  refine PC.clo ?_
  simp only[aPd_mk] at *
  refine PE 8 [.tmp 3] [2] func194 ?_;simp only[go_sem]
  refine Wk ?_
  refine Sd ?_
  refine Vu hch ?_
  refine Wk ?_
  exact Rz
 have hc:=preds_containsFunc l (by omega) _ rfl (fun x=>!allB f x) h1
 have hsp:allB f (.mk k n p q s l)=(f (.mk k n p q s l) && !l.any fun x=>!allB f x):=by
  rw[allB_mk];congr 1
  rw[List.all_eq_not_any_not]
 rw[hsp]
 generalize f (.mk k n p q s l)=b at *
 generalize (l.any fun x=>!allB f x)=c at *
 simp only[aPd_mk] at *
 refine PE 15 [.tmp 4] [2,3] func154 ?_;simp only[go_sem]
 refine Wk ?_
 refine Sd ?_
 refine(hf).use ?_;simp only[go_sem]
 refine Sd ?_
 refine Gc hc ?_
 refine Sd ?_
 refine Wk ?_
 exact Rz
def typedB (t:Pd):Bool:=allB typB t
theorem predtype_typed (t:Pd)(hz:szF t<=1000000):PC prog 151 [aPd t] (ab (typedB t)):=by
 have he:=predtype_eachV typB 188 (fun x hx=>(predtype_typed1 x hx).val) t hz
 unfold typedB
 generalize allB typB t=b at *
 obtain⟨k,n,p,q,s,l⟩:=t
 simp only[aPd_mk] at *
 refine PE 5 [.tmp 2] [1] func151 ?_;simp only[go_sem]
 refine Wk ?_
 refine Sd ?_
 refine Vu he ?_
 refine Wk ?_
 exact Rz
theorem predtype_named (k:Int):PC prog 222 [ai k] (ab (decide (2<=k/\k<=4))):=by
 generalize hb:decide (2<=k/\k<=4)=b
 refine PE 13 [.tmp 2] [] func222 ?_;simp only[go_sem]
 refine Wk ?_
 refine Rq ?_
 rw[<- hb]
 congr 2
 rw[Bool.eq_iff_iff];simp;omega
theorem partsAV_get {k:Int}(h1:1<=k)(h2:k<22):partsAV.getD k.toNat .any=ai (partsF k):=by
 have:k=1\/k=2\/k=3\/k=4\/k=5\/k=6\/k=7\/k=8\/k=9\/k=10\/k=11\/k=12\/k=13\/k=14\/k=15\/k=16\/k=17\/k=18\/k=19\/k=20\/k=21:=by omega
 rcases this with rfl|rfl|rfl|rfl|rfl|rfl|rfl|rfl|rfl|rfl|rfl|rfl|rfl|rfl|rfl|rfl|rfl|rfl|rfl|rfl|rfl <;> rfl
theorem partsAV_len:partsAV.length=22:=rfl
theorem predtype_fits (t:Pd)(hz:szF t<=1000000):PC prog 183 [aPd t] (ab (locB t)):=by
 obtain⟨k,n,p,q,s,l⟩:=t
 have hll:=szL_len l
 rw[szF] at hz
 have hnm:=predtype_named k
 have hsp:locB (.mk k n p q s l)=(decide (partsF k=l.length) && numB k n && nameB k p q s):=rfl
 have hpg:=@partsAV_get k
 generalize locB (.mk k n p q s l)=b at *
 refine PE 59 [.tmp 2] [1] func183 ?_;simp only[go_sem]
 by_cases k1:k<1
 ·have hk0:partsAV.getD k.toNat .any=ai (-1):=by rw[show k.toNat=0 by omega];rfl
  have hpf:partsF k = -1:=by unfold partsF;rw[if_neg (by omega),if_neg (by omega),if_neg (by omega)]
  refine AWp.seq (AWp.seq ?_)
  refine Sq ?_
  refine AWp.mix mixed [0,1,2,3,4,5,6,7,8,9,10,11,12,13,14,15,16,17,18,19,20,21,22,23,24,25,26,27,28,29,30,31,32,33,34,35,36,37] .done (by kernel_rfl) ?_;simp only[go_sem,GV,partsAV_len,k1,hk0]
  refine Sd ?_
  refine Wk ?_
  refine Rq ?_
  rw[hsp,hpf,decide_eq_false (by omega)];rfl
 by_cases k2:22<=k
 ·have hk0:partsAV.getD k.toNat .any = .any:=by rw[List.getD_eq_getElem?_getD,List.getElem?_eq_none (by rw[partsAV_len];omega)];rfl
  have hpf:partsF k = -1:=by unfold partsF;rw[if_neg (by omega),if_neg (by omega),if_neg (by omega)]
  refine AWp.seq (AWp.seq ?_)
  refine Sq ?_
  refine AWp.mix mixed [0,1,2,3,4,5,6,7,8,9,10,11,12,13,14,15,16,17,18,19,20,21,22,23,24,25,26,27,28,29,30,31,32,33,34,35,36,37] .done (by kernel_rfl) ?_;simp only[go_sem,GV,partsAV_len,k1,k2,hk0]
  refine Sd ?_
  refine Wk ?_
  refine Rq ?_
  rw[hsp,hpf,decide_eq_false (by omega)];rfl
 have hpg:=hpg (by omega) (by omega)
 refine AWp.seq (AWp.seq ?_)
 refine Sq ?_
 refine AWp.mix mixed [0,1,2,3,4,5,6,7,8,9,10,11,12,13,14,15,16,17,18,19,20,21,22,23,24,25,26,27,28,29,30,31,32,33,34,35,36,37] .done (by kernel_rfl) ?_;simp only[go_sem,GV,partsAV_len,k1,k2,hpg]
 refine Sd ?_
 refine Wk ?_
 constructor<;>intro h1
 ·refine Wk ?_
  refine Rq ?_
  rw[hsp]
  by_cases e:partsF k=l.length
  ·rw[show numB k n=false by unfold numB;split <;> rw[decide_eq_false (by omega)]];rw[Bool.and_false];rfl
  ·rw[decide_eq_false e];rfl
 intro h2 h3 h4
 have hnu:numB k n=true:=by
  unfold numB
  split
  ·rw[decide_eq_true (by omega)]
  ·rename_i e
   rw[decide_eq_true];exact Classical.byContradiction fun hc=>e (h4 hc)
 rw[decide_eq_true h1.symm,hnu,Bool.true_and,Bool.true_and] at hsp
 refine Wk ?_
 refine Sd ?_
 refine Vu hnm ?_
 refine Wk ?_
 refine Rq ?_
 rw[hsp]
 unfold nameB
 congr 2
 rw[Bool.eq_iff_iff]
 simp only[Bool.or_eq_true,Bool.and_eq_true,decide_eq_true_iff]
 rw[and_assoc];rfl
mutual
def walkF:Pd->Int->Int->Bool × Int
 | .mk k n p q s l,d,c=>if c - 1<0\/20<d\/locB (.mk k n p q s l)=false then (false,c - 1) else walkL l (d+1) (c - 1)
def walkL:List Pd->Int->Int->Bool × Int
 | [],_,c=>(true,c)
 | x :: r,d,c=>if (walkF x d c).1 then walkL r d (walkF x d c).2 else (false,(walkF x d c).2)
end
def stepW (d:Int)(x:Pd)(c:Int):Bool × Int:=(!(walkF x d c).1,(walkF x d c).2)
theorem findS_walk (d:Int):∀(l:List Pd) (c:Int),(findS (stepW d) l c).1.isSome = !(walkL l d c).1/\(findS (stepW d) l c).2=(walkL l d c).2
 | [],c=>by rw[walkL,findS];exact⟨rfl,rfl⟩
 | x :: r,c=>by
  rw[walkL,findS]
  by_cases h:(walkF x d c).1=true
  ·have ih:=findS_walk d r (walkF x d c).2
   rw[if_pos h,if_neg (by simp [stepW,h])]
   exact⟨by rw[<- ih.1];simp [stepW],ih.2⟩
  ·rw[if_neg h,if_pos (by simp [stepW,h])]
   exact⟨rfl,rfl⟩
theorem walkF_spec (t:Pd):∀d c:Int,0<=c->((walkF t d c).1=true↔(szF t:Int)<=c/\d+dpF t<=21/\allB locB t=true)/\((walkF t d c).1=true->(walkF t d c).2=c - szF t):=by
 induction t using Pd.ind with
 | _ k n p q s l ih =>
 intro d c hc
 have hL:∀(l':List Pd),(∀x ∈ l',x ∈ l)->∀c:Int,0<=c->((walkL l' (d+1) c).1=true↔(szL l':Int)<=c/\(∀x ∈ l',d+1+dpF x<=21)/\l'.all (allB locB)=true)/\((walkL l' (d+1) c).1=true->(walkL l' (d+1) c).2=c - szL l'):=by
  intro l'
  induction l' with
  | nil=>intro _ c hc;rw[walkL,szL];exact⟨⟨fun _=>⟨by simpa using hc,by simp,rfl⟩,fun _=>rfl⟩,fun _=>by simp⟩
  | cons x r ihr =>
   intro hm c hc
   obtain⟨i1,i2⟩:=ih x (hm x List.mem_cons_self) (d+1) c hc
   rw[walkL,szL,List.all_cons]
   by_cases h:(walkF x (d+1) c).1=true
   ·have e2:=i2 h
    obtain⟨j1,j2,j3⟩:=i1.1 h
    obtain⟨r1,r2⟩:=ihr (fun y hy=>hm y (List.mem_cons_of_mem _ hy)) (walkF x (d+1) c).2 (by omega)
    rw[if_pos h]
    refine⟨r1.trans (Iff.intro ?_ ?_),fun h2=>by rw[r2 h2,e2];omega⟩
    ·rintro⟨a1,a2,a3⟩
     refine⟨by omega,fun y hy=>?_,by rw[j3,a3];rfl⟩
     rcases List.mem_cons.1 hy with rfl|hy
     ·exact j2
     ·exact a2 y hy
    ·rintro⟨a1,a2,a3⟩
     rw[j3] at a3
     exact⟨by omega,fun y hy=>a2 y (List.mem_cons_of_mem _ hy),a3⟩
   ·rw[if_neg h]
    refine⟨Iff.intro (fun h2=>by cases h2) ?_,fun h2=>by cases h2⟩
    rintro⟨a1,a2,a3⟩
    rw[Bool.and_eq_true] at a3
    exact absurd (i1.2 ⟨by omega,a2 x List.mem_cons_self,a3.1⟩) h
 have hdl:∀l':List Pd,(∀x ∈ l',d+1+dpF x<=21)/\d<=20↔d+((dpL l'+1:Nat):Int)<=21:=by
  intro l'
  induction l' with
  | nil=>rw[dpL];constructor
         ·rintro⟨_,h⟩;omega
         ·intro h;exact⟨by simp,by omega⟩
  | cons x r ihr =>
   rw[dpL]
   constructor
   ·rintro⟨h1,h2⟩
    have:=ihr.1 ⟨fun y hy=>h1 y (List.mem_cons_of_mem _ hy),h2⟩
    have:=h1 x List.mem_cons_self
    omega
   ·intro h
    have:=ihr.2 (by omega)
    refine⟨fun y hy=>?_,this.2⟩
    rcases List.mem_cons.1 hy with rfl|hy
    ·omega
    ·exact this.1 y hy
 have hd:=hdl l
 rw[walkF,szF,dpF,allB_mk]
 by_cases h:c - 1<0\/20<d\/locB (.mk k n p q s l)=false
 ·rw[if_pos h]
  refine⟨Iff.intro (fun h=>by cases h) ?_,fun h=>by cases h⟩
  rintro⟨a1,a2,a3⟩
  have:=hd.2 a2
  rw[Bool.and_eq_true] at a3
  rcases h with h|h|h
  ·omega
  ·omega
  ·rw[h] at a3;cases a3.1
 ·rw[if_neg h]
  obtain⟨w1,w2⟩:=hL l (fun _ h=>h) (c - 1) (by omega)
  have hlo:locB (.mk k n p q s l)=true:=by
   cases e:locB (.mk k n p q s l)
   ·exact absurd (Or.inr (Or.inr e)) h
   ·rfl
  rw[hlo,Bool.true_and]
  refine⟨w1.trans (Iff.intro ?_ ?_),fun h=>by rw[w2 h];omega⟩
  ·rintro⟨a1,a2,a3⟩
   exact⟨by omega,hd.1 ⟨a2,by omega⟩,a3⟩
  ·rintro⟨a1,a2,a3⟩
   exact⟨by omega,(hd.2 a2).1,a3⟩
theorem walkF_formed (t:Pd):(walkF t 1 200).1=formedB t:=by
 rw[Bool.eq_iff_iff,(walkF_spec t 1 200 (by decide)).1]
 unfold formedB
 simp only[Bool.and_eq_true,decide_eq_true_iff,and_assoc]
 exact⟨fun ⟨a,b,c⟩=>⟨by omega,by omega,c⟩,fun ⟨a,b,c⟩=>⟨by omega,by omega,c⟩⟩
def aWalk (bl bw:Nat):AV:=.clo 182 [.lp bl 1 0 0,.lp bw 1 0 0]
def LwPd (bl bw:Nat)(c:Int):AHeap:=[(bw,.row 237 1 [aWalk bl bw] 1),(bl,.row 3 1 [ai c] 1)]
theorem stepW_inv {d:Int}{x:Pd}{c:Int}(h0:0<=c)(h:(stepW d x c).1=false):0<=(stepW d x c).2/\(stepW d x c).2<=c:=by
 have h1:(walkF x d c).1=true:=by simpa [stepW] using h
 obtain⟨w1,w2⟩:=walkF_spec x d c h0
 have:=w2 h1
 have:=w1.1 h1
 show 0<=(walkF x d c).2/\(walkF x d c).2<=c
 omega
theorem predtype_formed1 (bl bw:Nat)(hb:¬bl=bw)(t:Pd):szF t<=1000000->∀d c:Int,0<=d->d<=21->0<=c->c<=200 ->
  MCalls prog 182 [aPd t,ai d,.lp bl 1 0 0,.lp bw 1 0 0] (LwPd bl bw c) fun r L=>r=ab (walkF t d c).1/\L=LwPd bl bw (walkF t d c).2:=by
 induction t using Pd.ind with
 | _ k n p q s l ih =>
 intro hz d c d0 d1 c0 c1
 have hsz:szF (.mk k n p q s l)=szL l+1:=by rw[szF]
 have hll:=szL_len l
 have hb':¬bw=bl:=fun e=>hb e.symm
 have hft:=predtype_fits _ hz
 have hkid:d<=20->∀x ∈ l,∀c':Int,0<=c'/\c'<=200->MVal prog (.clo 184 [.lp bw 1 0 0,.rp 1 [ai d] 0 0]) [aPd x] (LwPd bl bw c') fun r L=>r=ab (stepW (d+1) x c').1/\L=LwPd bl bw (stepW (d+1) x c').2:=by
  intro hd x hx c' hc'
  have hxi:=szL_mem hx
  have hch:=ih x hx (by omega) (d+1) c' (by omega) (by omega) hc'.1 hc'.2
  have e1:(stepW (d+1) x c').1 = !(walkF x (d+1) c').1:=rfl
  have e2:(stepW (d+1) x c').2=(walkF x (d+1) c').2:=rfl
  rw[e1,e2]
  generalize walkF x (d+1) c'=w at *
  obtain⟨k2,n2,p2,q2,s2,l2⟩:=x
  refine MCalls.clo ?_
  unfold LwPd aWalk at *
  simp only[aPd_mk] at *
  refine MCalls.enter' 11 [.tmp 4] [3] func184 rfl rfl rfl rfl rfl (by simp) (AWp.of ?_);simp only[go_sem]
  refine W1 hb' ?_
  refine Sd ?_
  refine(MCalls.clo hch).mono ?_
  rintro r L ⟨rfl,rfl⟩
  simp only[go_sem]
  refine Wk ?_
  refine ret_own ?_
  simp only[go_sem]
 have hsp:walkF (.mk k n p q s l) d c=if c - 1<0\/20<d\/locB (.mk k n p q s l)=false then (false,c - 1) else walkL l (d+1) (c - 1):=by rw[walkF]
 have hcs:d<=20->0<=c - 1->_:=fun h1 h2=>preds_containsS (stepW (d+1)) (LwPd bl bw) (fun c=>0<=c/\c<=200) l (by omega) (.clo 184 [.lp bw 1 0 0,.rp 1 [ai d] 0 0]) rfl (hkid h1) (fun x hx c' hc' h=>by have:=stepW_inv hc'.1 h;omega) (c - 1) (by omega)
 obtain⟨f1,f2⟩:=findS_walk (d+1) l (c - 1)
 rw[f1,f2] at hcs
 generalize walkL l (d+1) (c - 1)=w at *
 generalize locB (.mk k n p q s l)=b at *
 generalize walkF (.mk k n p q s l) d c=z at *
 unfold LwPd aWalk at *
 simp only[aPd_mk] at *
 refine MCalls.enter' 25 [.tmp 6] [4,5] func182 rfl rfl rfl rfl rfl (by simp) (AWp.of ?_);simp only[go_sem]
 refine W1 hb ?_
 refine Sd ?_
 refine Gc hft ?_
 refine Sd ?_
 refine Wk ?_
 constructor<;>intro h1
 ·have hz':z=(false,c - 1):=by
   rw[hsp,if_pos]
   rcases h1 with (h1|h1)|h1
   ·exact .inl h1
   ·exact .inr (.inl h1)
   ·exact .inr (.inr (by simpa using h1))
  refine Wk ?_
  refine ret_own ?_
  simp only[go_sem]
  rw[hz'];exact⟨rfl,rfl⟩
 intro h2 h3
 have hz':z=w:=by rw[hsp,if_neg];rintro(h|h|h);exact h1 h;exact h2 h;rw[h3] at h;cases h
 have hcs:=hcs (by omega) (by omega)
 refine W1 hb' ?_
 refine Sd ?_
 refine hcs.val.mono ?_
 rintro r L ⟨rfl,rfl⟩
 simp only[go_sem]
 refine Wk ?_
 refine ret_own ?_
 simp only[go_sem]
 rw[hz'];exact⟨rfl,rfl⟩
theorem predtype_formed (t:Pd)(hz:szF t<=1000000):PC prog 149 [aPd t] (ab (formedB t)):=by
 rw[<- walkF_formed]
 have hw:=fun bl bw hb=>predtype_formed1 bl bw hb t hz 1 200 (by decide) (by decide) (by decide) (by decide)
 unfold LwPd aWalk at hw
 generalize walkF t 1 200=w at *
 obtain⟨k,n,p,q,s,l⟩:=t
 simp only[aPd_mk] at *
 refine PE 9 [.tmp 2] [1] func149 ?_;simp only[go_sem]
 refine Wk ?_
 intro bl
 refine Wk ?_
 intro bw hlt
 have hb:¬bw=bl:=by omega
 have hb':¬bl=bw:=by omega
 refine W1 hb ?_
 refine Sd ?_
 refine(MCalls.clo (hw bl bw hb')).mono ?_
 rintro r L ⟨rfl,rfl⟩
 simp only[go_sem]
 refine Wk ?_
 exact Rz
theorem predtype_TypeX (t:Pd)(hz:szF t<=1000000):PC prog 153 [aPd t] (.tup [ai (if formedB t=false then 0 else if typedB t=false then 0 else resF t.kind),ai (if formedB t=false then 1 else if typedB t=false then 14 else 0)]):=by
 have hf:=predtype_formed t hz
 have ht:=predtype_typed t hz
 have hr:=predtype_result t.kind
 generalize formedB t=f at *
 generalize typedB t=y at *
 obtain⟨k,n,p,q,s,l⟩:=t
 simp only[aPd_mk,Pd.kind] at *
 generalize resF k=r at *
 refine PE 15 [.tmp 2,.tmp 3] [1] func153 ?_;simp only[go_sem]
 refine Wk ?_
 refine Sd ?_
 refine Vu hf ?_
 refine Wk ?_
 constructor<;>intro h1
 ·refine Wk ?_
  refine Rq ?_
  simp [h1]
 refine Wk ?_
 refine Sd ?_
 refine Vu ht ?_
 refine Wk ?_
 constructor<;>intro h2
 ·refine Wk ?_
  refine Rq ?_
  simp [h1,h2]
 refine Wk ?_
 refine Sd ?_
 refine Vu hr ?_
 refine Wk ?_
 refine Rq ?_
 simp [h1,h2]
end Go.AL
end
