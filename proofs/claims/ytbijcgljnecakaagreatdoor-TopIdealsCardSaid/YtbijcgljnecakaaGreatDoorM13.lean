/- Texts of this claim's proof: WOc, WOd, WNk, WXh, WXi, WOe, WV4, WV5, WFa, WFb, WGp, WGa, WV7, WXp, WV6, WU1, WV10, WU3, WU4, WU5, WU6, WV8, WV11, WV12, WV13, WV15, WCs, WV16, WQp. No condition. -/
import Derived.Test.YtbijcgljnecakaaGreatDoorM10
import Derived.Test.YtbijcgljnecakaaGreatDoorM7
import Derived.Test.YtbijcgljnecakaaGreatDoorM12
import Derived.Test.YtbijcgljnecakaaGreatDoorM9
import Derived.Test.YtbijcgljnecakaaGreatDoorM8
import Derived.Test.YtbijcgljnecakaaGreatDoorM11
section
namespace Go.AL
open Go Go.RowKit
set_option maxRecDepth 4000
def Cov (d:List Int) (Q:List Eid) (z:Eid):Prop:=z.2≤cAt d z.1∨∃y ∈ Q,y.1=z.1∧z.2≤y.2
structure PastI (ps:List Pr) (x:Eid) (D d:List Int) (Q:List Eid):Prop where
 len:d.length=ps.length
 le:∀q:Nat,q<ps.length→0≤cAt d q∧cAt d q≤cAt D q
 q:∀y ∈ Q,VEv ps y∧y.2≤cAt D y.1
 cl:∀(q:Nat) (hq:q<ps.length) (k:Nat) (_:k<ps[q].evs.length),(k:Int)+1≤cAt d q→∀z ∈ dirL ps q k,Cov d Q z
 x:Cov d Q x
def pushL (ps:List Pr) (q n:Nat):Nat→List Eid
 | 0=>[]
 | m+1=>dirL ps q (n+m) ++ pushL ps q n m
theorem dirL_len (ps:List Pr) (q k:Nat):(dirL ps q k).length≤2:=by
 unfold dirL
 rw[List.length_append]
 split <;> split <;> simp
theorem pushL_len (ps:List Pr) (q n:Nat):∀m,(pushL ps q n m).length≤2 * m
 | 0=>Nat.le_refl _
 | m+1=>by
  have h1:=pushL_len ps q n m
  have h2:=dirL_len ps q (n+m)
  unfold pushL
  rw[List.length_append];omega
theorem mem_pushL {ps:List Pr} {q n:Nat} {z:Eid} : ∀ {m:Nat},z ∈ pushL ps q n m↔∃k,n≤k∧k<n+m∧z ∈ dirL ps q k
 | 0=>by simp [pushL];omega
 | m+1=>by
  have ih:=mem_pushL (ps:=ps) (q:=q) (n:=n) (z:=z) (m:=m)
  unfold pushL
  rw[List.mem_append,ih]
  constructor
  ·rintro(h|⟨k,h1,h2,h3⟩)
   ·exact⟨n+m,by omega,by omega,h⟩
   ·exact⟨k,h1,by omega,h3⟩
  ·rintro⟨k,h1,h2,h3⟩
   by_cases e:k=n+m
   ·subst e;exact .inl h3
   ·exact .inr ⟨k,h1,by omega,h3⟩
section
variable {ps:List Pr} (hv:validF ps=true) {x:Eid} {D d:List Int} {Q:List Eid} {y:Eid}
theorem past_skip (h:PastI ps x D d (y :: Q)) (hy:y.2≤cAt d y.1):PastI ps x D d Q:=by
 have hc:∀z,Cov d (y :: Q) z→Cov d Q z:=fun z hz=>by
  rcases hz with hz|⟨w,hw,e1,e2⟩
  ·exact .inl hz
  ·rcases List.mem_cons.1 hw with rfl|hw
   ·exact .inl (by rw[← e1];omega)
   ·exact .inr ⟨w,hw,e1,e2⟩
 exact⟨h.len,h.le,fun z hz=>h.q z (List.mem_cons_of_mem _ hz),fun q hq k hk hle z hz=>hc z (h.cl q hq k hk hle z hz),hc _ h.x⟩
include hv in
theorem past_take (hx:VEv ps x) (hD:isF ps D=true) {q j:Nat} (hq:q<ps.length) (hj:j<ps[q].evs.length) (h:PastI ps x D d (((q:Int),(j:Int)+1) :: Q)) (hy:cAt d q<(j:Int)+1) :
  PastI ps x D (d.set q ((j:Int)+1)) (Q ++ pushL ps q (cAt d q).toNat (j+1 - (cAt d q).toNat)):=by
 have hm:=(valid_parts hv).2.2
 obtain⟨Dl,Dr,Dc⟩:=isF_iff.1 hD
 have hDcl:=closed_iff.1 Dc
 have hl:=h.len
 have hdq:=h.le q hq
 have hjD:(j:Int)+1≤cAt D q:=(h.q _ List.mem_cons_self).2
 have hat:∀r:Nat,r<ps.length→cAt (d.set q ((j:Int)+1)) r=if q=r then (j:Int)+1 else cAt d r:=fun r hr=>setc_cAt (by omega)
 have hmon:∀r:Nat,r<ps.length→cAt d r≤cAt (d.set q ((j:Int)+1)) r:=fun r hr=>by
  rw[hat r hr];split
  ·rename_i e;subst e;omega
  ·exact Int.le_refl _
 have hc:∀z,VEv ps z→Cov d (((q:Int),(j:Int)+1) :: Q) z→Cov (d.set q ((j:Int)+1)) (Q ++ pushL ps q (cAt d q).toNat (j+1 - (cAt d q).toNat)) z:=by
  rintro z ⟨s,hs,t,ht,rfl⟩ hz
  rcases hz with hz|⟨w,hw,e1,e2⟩
  ·exact .inl (Int.le_trans hz (hmon s hs))
  ·rcases List.mem_cons.1 hw with rfl|hw
   ·simp only at e1 e2
    have:q=s:=by omega
    subst this
    refine .inl ?_
    simp only
    rw[hat q hq,if_pos rfl]
    exact e2
   ·exact .inr ⟨w,List.mem_append_left _ hw,e1,e2⟩
 refine⟨by rw[List.length_set];exact hl,fun r hr => ?_,fun z hz => ?_,fun r hr k hk hle z hz => ?_,?_⟩
 ·have:=h.le r hr
  rw[hat r hr];split
  ·rename_i e;subst e;omega
  ·exact this
 ·rcases List.mem_append.1 hz with hz|hz
  ·exact h.q z (List.mem_cons_of_mem _ hz)
  ·obtain⟨k,k1,k2,k3⟩:=mem_pushL.1 hz
   have hk:k<ps[q].evs.length:=by omega
   refine⟨((dirL_iff hm hq hk z).1 k3).1,?_⟩
   have hkD:(k:Int)+1≤cAt D q:=by omega
   unfold dirL at k3
   rw[evq_get hq hk] at k3
   rcases List.mem_append.1 k3 with k3|k3
   ·split at k3
    ·rw[List.mem_singleton.1 k3];simp only;omega
    ·cases k3
   ·split at k3
    ·rename_i hk3
     rw[List.mem_singleton.1 k3]
     exact hDcl q hq k hk hk3 hkD
    ·cases k3
 ·have hzv:VEv ps z:=((dirL_iff hm hr hk z).1 hz).1
  by_cases hold:(k:Int)+1≤cAt d r
  ·exact hc z hzv (h.cl r hr k hk hold z hz)
  ·rw[hat r hr] at hle
   split at hle
   ·rename_i e
    subst e
    exact .inr ⟨z,List.mem_append_right _ (mem_pushL.2 ⟨k,by omega,by omega,hz⟩),rfl,Int.le_refl _⟩
   ·omega
 ·exact hc x hx h.x
end
theorem set_sum:∀ {d:List Int} {q:Nat} {z:Int},q<d.length→(d.set q z).sum=d.sum+z - cAt d q
 | [],_,_,h=>by simp at h
 | a :: d,0,z,_=>by
  rw[List.set_cons_zero,List.sum_cons,List.sum_cons]
  have:cAt (a :: d) ((0:Nat):Int)=a:=rfl
  rw[this];omega
 | a :: d,q+1,z,h=>by
  have ih:=set_sum (d:=d) (q:=q) (z:=z) (by simpa using h)
  rw[List.set_cons_succ,List.sum_cons,List.sum_cons,ih]
  have:cAt (a :: d) ((q+1:Nat):Int)=cAt d q:=rfl
  rw[this];omega
def pastM (ps:List Pr) (d:List Int) (Q:List Eid):Nat:=3 * (off ps ps.length - d.sum.toNat)+Q.length
theorem past_sum {ps:List Pr} {x:Eid} {D d:List Int} {Q:List Eid} (hD:isF ps D=true) (h:PastI ps x D d Q):0≤d.sum∧d.sum≤off ps ps.length:=by
 have hDl:=(isF_iff.1 hD).1
 have hl:=h.len
 have hle:leqF d D=true:=leq_iff_at.2 ⟨by omega,fun p hp=>(h.le p (by omega)).2⟩
 have h1:=(leq_sum hle).1
 have h2:=sum_le_off hD
 refine⟨sum_nonneg d fun z hz => ?_,by omega⟩
 obtain⟨q,hq,rfl⟩:=List.getElem_of_mem hz
 have:=(h.le q (by omega)).1
 rwa [cAt_nat hq] at this
theorem past_less {ps:List Pr} {x:Eid} {D d d':List Int} {Q:List Eid} {q:Nat} {z:Int} {m:Nat} (hD:isF ps D=true) (h:PastI ps x D d ((q,z) :: Q)) (h':PastI ps x D d' (Q ++ pushL ps q (cAt d q).toNat m)) (hd:d'=d.set q z) (hq:q<ps.length) (hm:(m:Int)=z - cAt d q) (hlt:cAt d q<z) :
  pastM ps d' (Q ++ pushL ps q (cAt d q).toNat m)<pastM ps d ((q,z) :: Q):=by
 have h1:=past_sum hD h
 have h2:=past_sum hD h'
 have h3:=pushL_len ps q (cAt d q).toNat m
 have h4:=set_sum (d:=d) (q:=q) (z:=z) (by rw[h.len];exact hq)
 rw[← hd] at h4
 unfold pastM
 rw[List.length_append,List.length_cons]
 omega
theorem past_zero {ps:List Pr} (hv:validF ps=true) {p:Nat} (hp:p<ps.length) {i:Nat} (hi:i<ps[p].evs.length):PastI ps ((p:Int),(i:Int)+1) (ptF ps p i) (List.replicate ps.length 0) [((p:Int),(i:Int)+1)]:=by
 obtain⟨Dl,Dr,_⟩:=isF_iff.1 (pt_is hv hp hi)
 have hz:∀q:Nat,q<ps.length→cAt (List.replicate ps.length 0) q=0:=fun q hq=>by rw[cAt_nat (by simp;exact hq)];simp
 refine⟨by simp,fun q hq => ?_,fun y hy => ?_,fun q hq k hk hle => ?_,.inr ⟨_,by simp,rfl,Int.le_refl _⟩⟩
 ·rw[hz q hq]
  exact⟨Int.le_refl _,((inRange_iff Dl).1 Dr q hq).1⟩
 ·rw[List.mem_singleton.1 hy]
  exact⟨⟨p,hp,i,hi,rfl⟩,pt_has hv hp hi⟩
 ·rw[hz q hq] at hle;omega
theorem past_done {ps:List Pr} (hv:validF ps=true) {p:Nat} (hp:p<ps.length) {i:Nat} (hi:i<ps[p].evs.length) {d:List Int} (h:PastI ps ((p:Int),(i:Int)+1) (ptF ps p i) d []):d=ptF ps p i:=by
 obtain⟨Dl,Dr,_⟩:=isF_iff.1 (pt_is hv hp hi)
 have hl:=h.len
 have hcov:∀z,Cov d [] z→z.2≤cAt d z.1:=fun z hz=>by
  rcases hz with hz|⟨y,hy,_⟩
  ·exact hz
  ·cases hy
 have hd:isF ps d=true:=by
  refine isF_iff.2 ⟨hl,(inRange_iff hl).2 fun q hq => ?_,closed_iff.2 fun q hq k hk hk3 hle => ?_⟩
  ·have h1:=h.le q hq
   have h2:=((inRange_iff Dl).1 Dr q hq).2
   omega
  ·refine hcov _ (h.cl q hq k hk hle _ ?_)
   unfold dirL
   rw[evq_get hq hk,if_pos hk3]
   exact List.mem_append_right _ (List.mem_singleton.2 rfl)
 have hls:=pt_least hv hp hd (hcov _ h.x)
 apply List.ext_getElem (by omega)
 intro q h1 h2
 rw[← cAt_nat h1,← cAt_nat h2]
 have:=hls q (by omega)
 have:=(h.le q (by omega)).2
 omega
def QS (b5 n:Nat) (d:List Int) (Q:List Eid) (v:AV) (L:AHeap):Prop :=
 ∃b off cap xs,(¬b=b5∧¬b5=b)∧v = .ls b 2 off Q.length cap∧L=[(b,.row 54 2 xs (off+cap)),(b5,.row 3 1 (d.map ai) n)]∧off+Q.length≤xs.length∧(xs.drop off).take Q.length=Q.map aEid
theorem drop_take_app {α:Type} {xs ys:List α} {o n:Nat} (h:o+n≤xs.length):(xs.take (o+n) ++ ys).drop o=(xs.drop o).take n ++ ys:=by
 rw[List.drop_append_of_le_length (by rw[List.length_take];omega),List.drop_take,show o+n - o=n by omega]
theorem QS.back {b5 n:Nat} {d:List Int} {Q Z:List Eid} {b cap off:Nat} {xs:List AV} (h1:¬b=b5) (hl:off+Q.length≤xs.length) (ht:(xs.drop off).take Q.length=Q.map aEid) :
  QS b5 n d (Q ++ Z) (.ls b 2 off (Q ++ Z).length cap) [(b,.row 54 2 (xs.take (off+Q.length) ++ Z.map aEid) (off+cap)),(b5,.row 3 1 (d.map ai) n)]:=by
 refine⟨b,off,cap,_,⟨h1,fun e=>h1 e.symm⟩,rfl,rfl,?_,?_⟩
 ·rw[List.length_append,List.length_append,List.length_take,List.length_map];omega
 ·rw[drop_take_app hl,ht,← List.map_append,List.take_of_length_le (by rw[List.length_map];exact Nat.le_refl _)]
theorem QS.anew {b5 n:Nat} {d:List Int} {Q Z:List Eid} {b cap off:Nat} {xs:List AV} (h1:¬b=b5) (ht:(xs.drop off).take Q.length=Q.map aEid) :
  QS b5 n d (Q ++ Z) (.ls b 2 0 (Q ++ Z).length cap) [(b,.row 54 2 ((xs.drop off).take Q.length ++ Z.map aEid) cap),(b5,.row 3 1 (d.map ai) n)]:=by
 refine⟨b,0,cap,(Q ++ Z).map aEid,⟨h1,fun e=>h1 e.symm⟩,rfl,by rw[ht,← List.map_append,Nat.zero_add],by rw[List.length_map];omega,?_⟩
 rw[List.drop_zero,List.take_of_length_le (by rw[List.length_map];exact Nat.le_refl _)]
theorem MVal.nd {P:Program} {g:AV} {args:List AV} {L:AHeap} {K:AV→AHeap→Prop} (h:MVal P g args L K):MVal P g args L fun r L'=>(L'.map (·.1)).Nodup∧K r L' :=
 fun n w A gv vs h1 h2 h3=>(h n w A gv vs h1 h2 h3).mono fun _ _ ⟨v,r,L',A',e1,hK,hf,hA,hL,hr⟩=>⟨v,r,L',A',e1,⟨hL.nodup,hK⟩,hf,hA,hL,hr⟩
theorem causality_past (ps:List Pr) (hs:Sm ps) (hv:validF ps=true) (p:Nat) (hp:p<ps.length) (i:Nat) (hi:i<ps[p].evs.length):PC Proofs.Tryz.prog 44 [kwV ps,aEid (p,(i:Int)+1)] (aInts (ptF ps p i)):=by
 have hbk:=fun (q:Nat) (hq:q<ps.length) (j:Nat) (hj:j<ps[q].evs.length)=>causality_back ps hs hv q hq j hj
 have hof:=off_small hs ps.length (Nat.le_refl _)
 have h8:=(valid_len hv).2
 have hel:∀(q:Nat) (hq:q<ps.length),ps[q].evs.length≤1000000:=fun q hq=>hs.evs _ (List.getElem_mem hq)
 have hD:=pt_is hv hp hi
 have hP0:=past_zero hv hp hi
 have hdone:=fun d=>past_done hv hp hi (d:=d)
 have hx:VEv ps ((p:Int),(i:Int)+1):=⟨p,hp,i,hi,rfl⟩
 have hDl:=(isF_iff.1 hD).1
 have hDr:=(inRange_iff hDl).1 (isF_iff.1 hD).2.1
 unfold kwV at hbk ⊢
 generalize mapK (evM ps 2 (off ps ps.length))=K2 at *
 generalize mapV (evM ps 2 (off ps ps.length))=V2 at *
 generalize mapK (evM ps 3 (off ps ps.length))=K3 at *
 generalize mapV (evM ps 3 (off ps ps.length))=V3 at *
 have haE:∀(u w:Int),aEid (u,w) = .agg [ai u,ai w]:=fun _ _=>rfl
 rw[haE]
 generalize hDD:ptF ps p i=D at *
 refine PC.enter 58 [.tmp 4] [2,3,7] Proofs.Tryz.func44 rfl rfl rfl rfl rfl (by simp) (AWp.of ?_);simp only[go_sem]
 refine Wk ?_
 intro b5
 refine Wk ?_
 intro bq gq
 refine Wk ?_
 have n1:¬bq=b5:=by omega
 refine AWp.seq (AWp.block (AWp.loopN [6] [2,5] (fun m vs L=>∃(d:List Int) (Q:List Eid) (v:AV),vs=[v]∧PastI ps ((p:Int),(i:Int)+1) D d Q∧m=pastM ps d Q∧m≤3 * off ps ps.length+1∧QS b5 ps.length d Q v L) (pastM ps (List.replicate ps.length 0) [((p:Int),(i:Int)+1)]) ?_ ?_))
 ·refine⟨List.replicate ps.length 0,[((p:Int),(i:Int)+1)],_,rfl,hP0,rfl,?_,bq,0,1,[aEid ((p:Int),(i:Int)+1)],⟨n1,fun e=>n1 e.symm⟩,rfl,?_,Nat.le_refl _,rfl⟩
  ·unfold pastM
   simp
  ·rw[List.map_replicate];rfl
 rintro m vs L - ⟨d,Q,v,rfl,hI,rfl,hM,b,off,cap,xs,⟨d1,d2⟩,rfl,rfl,hl,ht⟩
 have hdl:=hI.len
 simp only[go_sem]
 refine AWp.capOk (b:=b) (if_pos rfl) fun hcap => ?_
 cases Q with
 | nil =>
  have hz:¬(0:Int)<((0:Nat):Int):=by omega
  have hde:=hdone d hI
  repeat(first|((with_reducible refine AWp.ofC ?_ ?_);exact rfl;simp only[go_sem,List.length_nil,hz])|((with_reducible refine an ?_ ?_);exact Au))
  refine ret_view [false,true] ?_;simp only[go_sem]
  rw[hde]
  exact Vw.ofLs (if_pos rfl) (by rw[List.length_map];omega)
 | cons y Q =>
  obtain⟨⟨q,hq,j,hj,rfl⟩,hyD⟩:=hI.q _ List.mem_cons_self
  have hM2:(((q:Int),(j:Int)+1) :: Q).length≤24000001:=by unfold pastM at hM;omega
  have hgt:(0:Int)<(((((q:Int),(j:Int)+1) :: Q).length:Nat):Int):=by rw[List.length_cons];omega
  have hx0:xs.getD off .any = .agg [ai q,ai ((j:Int)+1)]:=by
   have h0:((xs.drop off).take (((q:Int),(j:Int)+1) :: Q).length)[0]?=some (aEid ((q:Int),(j:Int)+1)):=by rw[ht];rfl
   rw[List.getElem?_take,if_pos (by rw[List.length_cons];omega),List.getElem?_drop,Nat.add_zero] at h0
   rw[List.getD_eq_getElem?_getD,h0];rfl
  have hl2:off+1+Q.length≤xs.length:=by rw[List.length_cons] at hl;omega
  have ht2:(xs.drop (off+1)).take Q.length=Q.map aEid:=by
   have:((xs.drop off).take (Q.length+1)).drop 1=(xs.drop (off+1)).take Q.length:=by
    rw[List.drop_take,List.drop_drop,show Q.length+1 - 1=Q.length by omega]
   rw[← this]
   rw[List.length_cons] at ht
   rw[ht];rfl
  have hqd:q<d.length:=by omega
  have hgd:=getD_map (f:=ai) hqd
  have hcq:=cAt_nat hqd
  rw[List.length_cons] at hl
  have hgt:(0:Int)<((Q.length+1:Nat):Int):=by omega
  have hls:((Q.length+1:Nat):Int).toNat - (1:Int).toNat=Q.length:=by omega
  repeat(first|((with_reducible refine AWp.ofC ?_ ?_);exact rfl;simp only[go_sem,List.length_cons,hgt,hx0])|((with_reducible refine an ?_ ?_);exact Au))
  intro b7 g7a g7b
  clear g7a g7b
  repeat(first|((with_reducible refine AWp.ofC ?_ ?_);exact rfl;simp only[go_sem,Nat.add_sub_cancel])|((with_reducible refine an ?_ ?_);exact Au))
  have hQ:QS b5 ps.length d Q (.ls b 2 (off+1) Q.length (cap - 1)) [(b,.row 54 2 xs (off+cap)),(b5,.row 3 1 (d.map ai) ps.length)] :=
   ⟨b,off+1,cap - 1,xs,⟨d1,d2⟩,rfl,by rw[show off+1+(cap - 1)=off+cap by omega],hl2,ht2⟩
  refine AWp.seq (AWp.seq ?_)
  repeat(first|(with_reducible refine AWp.seq ?_)|(with_reducible refine AWp.block ?_))
  refine AWp.read mixed [0,1,2,3,4,5,6,7] (by kernel_rfl) ?_;simp only[go_sem,hgd,d1,d2]
  refine Sd ?_
  refine Wk ?_
  refine⟨fun hge => ?_,fun hlt => ?_⟩
  ·refine Wk ?_
   have hsk:=past_skip hI (by show (j:Int)+1≤cAt d q;omega)
   refine⟨_,List.Sublist.refl _,_,?_,d,Q,_,rfl,hsk,rfl,?_,hQ⟩
   ·unfold pastM;rw[List.length_cons];omega
   ·unfold pastM at hM ⊢;rw[List.length_cons] at hM;omega
  ·have hdq:=hI.le q hq
   have hlt':cAt d q<(j:Int)+1:=by omega
   have hnx:=past_take hv hx hD hq hj hI hlt'
   have hls:=past_less (m:=j+1 - (cAt d q).toNat) hD hI hnx rfl hq (by omega) hlt'
   have hel2:=hel q hq
   generalize hn0:(cAt d q).toNat=n0 at *
   have hdn:d[q]=(n0:Int):=by omega
   generalize hm0:j+1 - n0=m0 at *
   have hjm:(j:Int)+1=((n0+m0:Nat):Int):=by omega
   have hQl:Q.length≤24000001:=by rw[List.length_cons] at hM2;omega
   clear hl hl2 ht ht2 hx0 hcap hgt
   refine Wk ?_
   rw[hjm]
   refine AWp.block (AWp.loopN [6,8] [2,5,7] (fun m vs L=>∃(A:List Eid) (v:AV),vs=[v,ai ((n0+m:Nat):Int)]∧m≤m0∧A ++ pushL ps q n0 m=pushL ps q n0 m0∧QS b5 ps.length d (Q ++ A) v L) m0 ⟨[],_,rfl,Nat.le_refl _,rfl,by rw[List.append_nil];exact hQ⟩ ?_)
   clear hQ d1 d2
   rintro m vs L - ⟨A,v,rfl,hmm,hA,b,off,cap,xs,⟨d1,d2⟩,rfl,rfl,hl,ht⟩
   simp only[go_sem]
   refine AWp.capOk (b:=b) (if_pos rfl) fun hcap => ?_
   cases m with
   | zero =>
    have hz:¬((n0:Int)<((n0+0:Nat):Int)):=by omega
    repeat(first|((with_reducible refine AWp.ofC ?_ ?_);exact rfl;simp only[go_sem,hgd,hdn,d1,d2,Nat.add_zero,Int.lt_irrefl])|((with_reducible refine an ?_ ?_);exact Au))
    rw[hjm] at hls hnx hM
    have hA2:A=pushL ps q n0 m0:=by
     have:pushL ps q n0 0=[]:=rfl
     rw[this,List.append_nil] at hA;exact hA
    subst hA2
    refine⟨_,List.Sublist.refl _,_,hls,d.set q ((n0+m0:Nat):Int),Q ++ pushL ps q n0 m0,_,rfl,hnx,rfl,?_,b,off,cap,xs,⟨d1,d2⟩,rfl,?_,hl,ht⟩
    ·omega
    ·rw[List.map_set]
   | succ m =>
    have hgt:(n0:Int)<((n0+m:Nat):Int)+1:=by omega
    have hcast:((n0+(m+1):Nat):Int)=((n0+m:Nat):Int)+1:=by omega
    have hb:=hbk q hq (n0+m) (by omega)
    rw[haE] at hb
    rw[hcast]
    refine W5 hgd hdn d1 d2 hgt ?_
    refine Sd ?_
    have hQA:(Q ++ A).length≤100000000:=by
     have h1:=pushL_len ps q n0 m0
     have h2:=congrArg List.length hA
     rw[List.length_append] at h2 ⊢
     omega
    have hdl2:=dirL_len ps q (n0+m)
    refine(MVal.nd (MVal.frame (Lm:=[]) (Lr:=[(b,.row 54 2 xs (off+cap)),(b5,.row 3 1 (d.map ai) ps.length)]) hb.val)).mono ?_
    rintro r L' ⟨hnd,Ln,rfl,hAn⟩
    have hfo:=hAn.fo
    have hcons:A ++ dirL ps q (n0+m) ++ pushL ps q n0 m=pushL ps q n0 m0:=by rw[List.append_assoc];exact hA
    have hass:Q ++ A ++ dirL ps q (n0+m)=Q ++ (A ++ dirL ps q (n0+m)):=List.append_assoc _ _ _
    generalize dirL ps q (n0+m)=Z at *
    generalize hQA2:Q ++ A=QA at *
    rcases hAn.inv with ⟨e1,rfl,rfl⟩|⟨bn,capn,rfl,rfl⟩
    ·have e1:Z=[]:=List.map_eq_nil_iff.1 e1
     subst e1
     cases off with
     | zero =>
      simp only[go_sem,hfo]
      refine Sd ?_
      intro b' cap' g1 g2
      have n7:¬b'=b5:=by omega
      repeat(first|((with_reducible refine AWp.ofC ?_ ?_);exact rfl;simp only[go_sem,Int.add_sub_cancel])|((with_reducible refine an ?_ ?_);exact Au))
      refine⟨_,List.Sublist.refl _,m,by omega,A ++ [],_,rfl,by omega,hcons,?_⟩
      have:=QS.anew (Z:=[]) (cap:=cap') (d:=d) (n:=ps.length) n7 ht
      rw[← hass]
      simpa using this
     | succ off =>
      simp only[go_sem,hfo]
      refine Sd ?_
      refine⟨fun g0 => ?_,fun b' cap' g1 g2 g3 => ?_⟩
      ·repeat(first|((with_reducible refine AWp.ofC ?_ ?_);exact rfl;simp only[go_sem,Int.add_sub_cancel])|((with_reducible refine an ?_ ?_);exact Au))
       refine⟨_,List.Sublist.refl _,m,by omega,A ++ [],_,rfl,by omega,hcons,?_⟩
       have:=QS.back (Z:=[]) (cap:=cap) (d:=d) (n:=ps.length) d1 hl ht
       rw[← hass]
       simpa using this
      ·repeat(first|((with_reducible refine AWp.ofC ?_ ?_);exact rfl;simp only[go_sem,Int.add_sub_cancel])|((with_reducible refine an ?_ ?_);exact Au))
       have n7:¬b'=b5:=by omega
       refine⟨_,List.Sublist.refl _,m,by omega,A ++ [],_,rfl,by omega,hcons,?_⟩
       have:=QS.anew (Z:=[]) (cap:=cap') (d:=d) (n:=ps.length) n7 ht
       rw[← hass]
       simpa using this
    ·have hbn:¬b=bn∧¬b5=bn:=by
      simp only[List.singleton_append,List.map_cons,List.map_nil,List.nodup_cons,List.mem_cons] at hnd
      exact⟨fun e=>hnd.1 (.inl e.symm),fun e=>hnd.1 (.inr (.inl e.symm))⟩
     obtain⟨n3,n4⟩:=hbn
     have n5:¬bn=b:=fun e=>n3 e.symm
     have n6:¬bn=b5:=fun e=>n4 e.symm
     cases off with
     | zero =>
      simp only[go_sem,hfo,n3,n4,n5,n6,d1,d2]
      refine Sd ?_
      intro b' cap' g1 g2 g3
      have n7:¬b'=b5:=by omega
      repeat(first|((with_reducible refine AWp.ofC ?_ ?_);exact rfl;simp only[go_sem,Int.add_sub_cancel])|((with_reducible refine an ?_ ?_);exact Au))
      refine⟨[_,_],.cons_cons _ (.cons _ (.refl _)),m,by omega,A ++ Z,_,rfl,by omega,hcons,?_⟩
      have:=QS.anew (Z:=Z) (cap:=cap') (d:=d) (n:=ps.length) n7 ht
      rw[← hass]
      simpa using this
     | succ off =>
      simp only[go_sem,hfo,n3,n4,n5,n6,d1,d2]
      refine Sd ?_
      refine⟨fun g0 => ?_,fun b' cap' g1 g2 g3 g4 => ?_⟩
      ·repeat(first|((with_reducible refine AWp.ofC ?_ ?_);exact rfl;simp only[go_sem,Int.add_sub_cancel])|((with_reducible refine an ?_ ?_);exact Au))
       refine⟨[_,_],.cons _ (.refl _),m,by omega,A ++ Z,_,rfl,by omega,hcons,?_⟩
       have:=QS.back (Z:=Z) (cap:=cap) (d:=d) (n:=ps.length) d1 hl ht
       rw[← hass]
       simpa using this
      ·repeat(first|((with_reducible refine AWp.ofC ?_ ?_);exact rfl;simp only[go_sem,Int.add_sub_cancel])|((with_reducible refine an ?_ ?_);exact Au))
       have n7:¬b'=b5:=by omega
       refine⟨[_,_],.cons_cons _ (.cons _ (.refl _)),m,by omega,A ++ Z,_,rfl,by omega,hcons,?_⟩
       have:=QS.anew (Z:=Z) (cap:=cap') (d:=d) (n:=ps.length) n7 ht
       rw[← hass]
       simpa using this
theorem cut_enabled (ps:List Pr) (hs:Sm ps) (hv:validF ps=true) (c:List Int) (hc:isF ps c=true) (p:Nat) (hp:p<ps.length) (i:Nat) (hi:i<ps[p].evs.length) (hic:cAt c p=i) :
  PC Proofs.Tryz.prog 53 [aTr ps,aInts c,ai p] (ab (isF ps (stpC c p))):=by
 obtain⟨hl1,hl8⟩:=valid_len hv
 obtain⟨hcl,hcr,_⟩:=isF_iff.1 hc
 have hl:=hs.procs
 have hel:=hs.evs _ (List.getElem_mem hp)
 have hgp:=getD_map (f:=aPr) hp
 have hge:=getD_map (f:=aEv) hi
 have hsp:=stp_iff hv hc hp hi hic
 have hne:needE ps ps[p].evs[i]=if ps[p].evs[i].kind=3 then findIn (evIds ps) 2 ps[p].evs[i].msg else (0,0):=rfl
 rw[hne] at hsp
 have hfd:=trace_Sender ps hs ps[p].evs[i].msg
 have hfv:findV ps 2 ps[p].evs[i].msg=findIn (evIds ps) 2 ps[p].evs[i].msg:=by unfold findV;rw[hv];rfl
 rw[hfv] at hfd
 obtain⟨f1,f2⟩:=findIn_proc hl1 2 ps[p].evs[i].msg
 have hgs:=getD_cAt (c:=c) f1 (by omega)
 have h0:=((inRange_iff hcl).1 hcr 0 (by omega)).1
 have hpc:p<c.length:=by omega
 have hgc:=getD_map (f:=ai) hpc
 have hci:c[p]=(i:Int):=by rw[← cAt_nat hpc,hic]
 rw[hci] at hgc
 generalize findIn (evIds ps) 2 ps[p].evs[i].msg=s at *
 generalize isF ps (stpC c p)=B at *
 refine PC.enter 40 [.tmp 6] [3,7,8] Proofs.Tryz.func53 rfl rfl rfl rfl rfl (by simp) (AWp.of ?_);simp only[go_sem]
 refine Wk ?_
 repeat(first|(with_reducible refine AWp.seq ?_)|(with_reducible refine AWp.block ?_))
 refine AWp.mix mixed [0,1,2,3,4,5,6,7,8,9,10,11] (.step 12 (.step 13 .done .done) .done) (by kernel_rfl) ?_;simp only[go_sem,hgp,hgc,hge]
 refine Sd ?_
 intros
 refine Wk ?_
 refine⟨fun h3 => ?_,fun h3 => ?_⟩
 ·rw[if_neg h3] at hsp
  have hB:B=true:=hsp.2 (by simpa using h0)
  subst hB
  refine Wk ?_
  refine ret_eq ?_;simp only[go_sem]
 ·rw[if_pos h3] at hsp
  refine Wk ?_
  refine Sd ?_
  refine(hfd).val.use ?_;simp only[go_sem]
  refine Wk ?_
  intros
  repeat(first|(with_reducible refine AWp.seq ?_)|(with_reducible refine AWp.block ?_))
  refine AWp.mix mixed [0,1,2,3,4,5,6,7,8] .done (by kernel_rfl) ?_;simp only[go_sem,hgs]
  refine Sd ?_
  refine Wk ?_
  refine ret_eq ?_;simp only[go_sem]
  congr 2
  cases B with
  | true=>exact decide_eq_true (hsp.1 rfl)
  | false=>exact decide_eq_false fun h=>by cases hsp.2 h
theorem cut_Enabled (ps:List Pr) (hs:Sm ps) (hv:validF ps=true) (c:List Int) (hc:isF ps c=true):PC Proofs.Tryz.prog 15 [aTr ps,aInts c] (.tup [aInts (enI ps c c.length),ai 0]):=by
 have hcb:=isF_cb hs hc
 have hcl:=(isF_iff.1 hc).1
 have hcr:=(inRange_iff hcl).1 (isF_iff.1 hc).2.1
 have hg:=cut_given ps hs [c] (by simp) [] (by simp)
 rw[(isF_given hv).2 hc] at hg
 have hS:=fun p hp i hi h=>cut_enabled ps hs hv c hc p hp i hi h
 have hlen:=fun k=>enI_len ps c k
 have hl8:=(valid_len hv).2
 have hR:aInts (enI ps c c.length) = .sl 1 ((enI ps c c.length).map ai):=rfl
 rw[hR]
 refine PC.enter 45 [.tmp 4,.tmp 5] [2,11,41] Proofs.Tryz.func15 rfl rfl rfl rfl rfl (by simp) (AWp.of ?_);simp only[go_sem]
 refine Wk ?_
 refine(PC.view (Vws.cons (.refl _) (Vws.cons (.refl _) (Vws.cons (.nil 1) .nil))) hg (Own.v _) ?_).val
 simp only[go_sem]
 refine Wk ?_
 refine AWp.range' c.length [7] [1,2,17] (fun k vs L=>∃v,vs=[v]∧AppSt 3 1 ((enI ps c k).map ai) v L) (by omega) rfl rfl rfl ⟨anil,rfl,.nil⟩ ?_ ?_
 ·rintro k vs L hkn - ⟨v,rfl,hA⟩
  have hfo:=hA.fo
  have hyl:((enI ps c k).map ai).length≤k:=by rw[List.length_map];exact hlen k
  have hkp:k<ps.length:=by omega
  have gc:=getD_map (f:=ai) hkn
  have gp:=getD_map (f:=aPr) hkp
  have h2:=cAt_nat hkn
  have h3:=hcr k hkp
  have hel:=hs.evs _ (List.getElem_mem hkp)
  obtain⟨i,hi⟩:∃i:Nat,cAt c k=i:=⟨(cAt c k).toNat,by omega⟩
  have gi:c[k]=(i:Int):=by rw[← h2,hi]
  have hnv:=nev_get hkp
  have hsu:=congrArg (List.map ai) (enI_succ ps c k)
  rw[List.map_append] at hsu
  have hrd:rdyF ps c k=(decide ((i:Int)<(ps[k].evs.length:Int)) && isF ps (stpC c k)):=by
   unfold rdyF
   rw[Bool.decide_and,Bool.decide_eq_true,hi,hnv]
  have hSk:(i:Int)<(ps[k].evs.length:Int)→PC Proofs.Tryz.prog 53 [aTr ps,aInts c,ai k] (ab (isF ps (stpC c k))):=fun h=>hS k hkp i (by omega) hi
  rw[hrd] at hsu
  generalize isF ps (stpC c k)=B2 at *
  generalize (enI ps c k).map ai=ys at *
  rw[gi] at gc
  generalize ps[k]=X at *
  simp only[go_sem]
  refine Wk ?_
  repeat(first|(with_reducible refine AWp.seq ?_)|(with_reducible refine AWp.block ?_))
  refine AWp.mix mixed [0,1,2,3,4,5,6,7,8,9,10,11,12,13,14,15,16,17] .done (by kernel_rfl) ?_;simp only[go_sem,gc,gp]
  refine Sd ?_
  refine GCall.use (ab B2) (fun h=>⟨At,(hSk (by simpa using h)).val.use ⟨rfl,rfl⟩⟩) ?_
  simp only[go_sem,gc]
  rcases hA.inv with ⟨e1,rfl,rfl⟩|⟨b,cap,rfl,rfl⟩
  ·refine Wk ?_
   refine⟨fun h4 h5 => ?_,fun h4 => ?_⟩
   ·have hr:(decide ((i:Int)<(X.evs.length:Int)) && B2)=true:=by rw[decide_eq_true h4,h5];rfl
    rw[hr,if_pos rfl] at hsu
    intro b' cap' hc'
    refine Wk ?_
    exact⟨_,List.Sublist.refl _,_,rfl,by rw[hsu,e1];exact .row b' [_] cap'⟩
   ·have hr:(decide ((i:Int)<(X.evs.length:Int)) && B2)=false:=by
     rw[Bool.and_eq_false_iff,decide_eq_false_iff_not]
     by_cases h:(i:Int)<(X.evs.length:Int)
     ·exact .inr (h4 h)
     ·exact .inl h
    rw[hr,if_neg (by decide)] at hsu
    exact⟨_,List.Sublist.refl _,_,rfl,by rw[hsu,e1];exact .nil⟩
  ·refine Wk ?_
   refine⟨fun h4 h5 => ?_,fun h4 => ?_⟩
   ·have hr:(decide ((i:Int)<(X.evs.length:Int)) && B2)=true:=by rw[decide_eq_true h4,h5];rfl
    rw[hr,if_pos rfl] at hsu
    refine Sd ?_
    intro b' cap' hc'
    refine Wk ?_
    exact⟨_,List.Sublist.refl _,_,rfl,by rw[hsu];exact AppSt.snoc b' cap' _ rfl⟩
   ·have hr:(decide ((i:Int)<(X.evs.length:Int)) && B2)=false:=by
     rw[Bool.and_eq_false_iff,decide_eq_false_iff_not]
     by_cases h:(i:Int)<(X.evs.length:Int)
     ·exact .inr (h4 h)
     ·exact .inl h
    rw[hr,if_neg (by decide)] at hsu
    refine⟨_,List.Sublist.refl _,_,rfl,?_⟩
    rw[hsu];simpa using AppSt.row (t:=3) (k:=1) b ys cap
 ·rintro vs L - ⟨v,rfl,hA⟩
  have hfo:=hA.fo
  generalize (enI ps c c.length).map ai=ys at *
  simp only[go_sem]
  rcases hA.inv with ⟨e1,rfl,rfl⟩|⟨b,cap,rfl,rfl⟩
  ·refine Wk ?_
   refine ret_view [] ?_;simp only[go_sem]
   rw[e1];exact .mkTup (Vws.cons (.nil 1) (Vws.refl _))
  ·refine Wk ?_
   refine ret_view [true] ?_;simp only[go_sem]
   exact .mkTup (Vws.cons (Vw.ofLs (if_pos rfl) rfl) (Vws.refl _))
def pastV (ps:List Pr) (s:Stp):AV:=if s.2.2=nev ps s.1 then anil else aInts (ptF ps s.1 s.2.2)
def aStr (ps:List Pr) (s:Stp):AV:=.agg [ai s.1,ai s.2.1,ai s.2.2,pastV ps s]
theorem pastV_fo (ps:List Pr) (s:Stp):fo (pastV ps s)=(True,pastV ps s):=by unfold pastV;split <;> rfl
theorem pastV_one (ps:List Pr) (s:Stp):one (pastV ps s)=true:=by unfold pastV;split <;> rfl
attribute [go_sem ↓] pastV_fo pastV_one
attribute [go_sem] aStr
def BadI (n:Nat) (x:List Int) (i:Nat):Prop:=x.getD i 0<0∨(n:Int)<x.getD i 0∨(0<i∧x.getD i 0≤x.getD (i - 1) 0)
open Classical in
noncomputable def listsF (ps:List Pr) (l:List (List Int)):Int:=if validF ps=true∧l.length=ps.length then (if ∃p i,p<l.length∧i<(l.getD p []).length∧BadI (nev ps p) (l.getD p []) i then 2 else 0) else 1
end Go.AL
end
section
namespace Go.AL
open Go Go.RowKit
set_option maxRecDepth 4000
section
variable {ps:List Pr} {E:Elim} {l:List (List Int)} {a:Nat→Nat}
end
theorem totS_le2 {c c':Nat→Nat} : ∀n,(∀q,q<n→c' q≤c q)→totS n c'≤totS n c
 | 0,_=>by simp [totS]
 | n+1,h=>by
  rw[totS_succ,totS_succ]
  have:=totS_le2 n fun q hq=>h q (by omega)
  have:=h n (by omega)
  omega
theorem totS_lt2 {c c':Nat→Nat} {p:Nat} : ∀n,(∀q,q<n→c' q≤c q)→p<n→c' p<c p→totS n c'<totS n c
 | 0,_,hp,_=>by omega
 | n+1,h,hp,hlt=>by
  rw[totS_succ,totS_succ]
  have h1:=h n (by omega)
  by_cases e:p=n
  ·subst e
   have:=totS_le2 p fun q hq=>h q (by omega)
   omega
  ·have:=totS_lt2 n (fun q hq=>h q (by omega)) (by omega) hlt
   omega
theorem events_indexFuncB (l:List Ev) (hl:l.length≤9223372036854775807) (g:AV) (hgf:fo g=(True,g)) (p:Ev→Bool) (hg:∀x ∈ l,PV Proofs.Tryz.prog g [aEv x] (ab (p x))) :
  PC Proofs.Tryz.prog 74 [aEvs l,g] (ai (match l.findIdx? p with|some i=>(i:Int)|none => -1)):=by
 refine PC.enter 19 [.tmp 4] [] Proofs.Tryz.func74 rfl rfl rfl rfl rfl (by simp) (AWp.of ?_);simp only[go_sem]
 refine Sd ?_
 refine AWp.of ?_;simp only[go_sem,aEvs]
 refine AWp.range1' l.length [] [0,1,7] (fun k vs L=>L=[]∧∀i (h:i<l.length),i<k→p l[i]=false) (by omega) rfl rfl rfl ⟨rfl,by omega⟩ ?_ ?_
 ·rintro k vs L' hk hvs ⟨rfl,hI⟩
  simp only[go_sem]
  refine Sd ?_
  refine AWp.of ?_;simp only[go_sem]
  have hgk:=hg l[k] (List.getElem_mem hk)
  try simp only[go_sem,aEv] at hgk
  refine Sd ?_
  refine AWp.of ?_;simp only[go_sem,getD_map hk,hgf,aEv]
  refine⟨⟨by omega,by omega⟩,hk,hgk.use (AWp.of ?_)⟩;simp only[go_sem]
  refine⟨fun ht => ?_,fun hf => ?_⟩
  ·refine Sd ?_
   refine AWp.of ?_;simp only[go_sem]
   refine ret_eq ?_;simp only[go_sem]
   have:l.findIdx? p=some k:=by rw[List.findIdx?_eq_some_iff_getElem];exact⟨hk,ht,fun j hj=>by simpa using hI j (by omega) hj⟩
   rw[this]
  ·refine⟨[],List.Sublist.refl _,rfl,fun i h hi => ?_⟩
   by_cases e:i=k
   ·subst e;exact hf
   ·exact hI i h (by omega)
 ·rintro vs L' hvs ⟨rfl,hI⟩
  simp only[go_sem]
  refine Sd ?_
  refine AWp.of ?_;simp only[go_sem]
  refine Sd ?_
  refine AWp.of ?_;simp only[go_sem]
  refine ret_eq ?_;simp only[go_sem]
  have:l.findIdx? p=none:=by rw[List.findIdx?_eq_none_iff];intro x hx;obtain⟨i,hi,rfl⟩:=List.getElem_of_mem hx;exact hI i hi hi
  rw[this]
theorem events_containsFuncB (l:List Ev) (hl:l.length≤9223372036854775807) (g:AV) (hgf:fo g=(True,g)) (p:Ev→Bool) (hg:∀x ∈ l,PV Proofs.Tryz.prog g [aEv x] (ab (p x))) :
  PC Proofs.Tryz.prog 38 [aEvs l,g] (ab (l.any p)):=by
 refine PC.enter 9 [.tmp 4] [] Proofs.Tryz.func38 rfl rfl rfl rfl rfl (by simp) (AWp.of ?_);simp only[go_sem]
 refine Sd ?_
 refine AWp.of ?_;simp only[go_sem,hgf,aEvs]
 refine(events_indexFuncB l hl g hgf p hg).val.use ?_
 simp only[go_sem]
 refine Sd ?_
 refine AWp.of ?_;simp only[go_sem]
 refine ret_eq ?_;simp only[go_sem]
 congr 2;exact findIdx_any l p
theorem trace_FaultB (ps:List Pr) (hs:Smh ps) (hb:∃p,p<ps.length∧procF ps p ≠ 0):PC Proofs.Tryz.prog 101 [aTr ps] (aFault (faultF ps)):=by
 have hl:=hs.procs
 refine PC.enter 66 [.cell 2 54,.cell 3 33] [1,6,7,10,12] Proofs.Tryz.func101 rfl rfl rfl rfl rfl (by simp) (AWp.of ?_);simp only[go_sem]
 intro b2
 intro b3 h3
 have n23:¬b2=b3:=by omega
 refine Sd ?_
 refine AWp.of ?_;simp only[go_sem,n23]
 refine Sd ?_
 refine(trace_in _ _ _).val.use ?_;simp only[go_sem]
 refine W1 n23 ?_
 refine⟨fun h1 => ?_,fun h1 => ?_⟩
 ·refine W1 n23 ?_
  have hf:faultF ps=((0,0),1):=by unfold faultF;rw[if_pos (by simp [h1])]
  rw[hf]
  refine ret_eq ?_
  simp only[go_sem,n23]
 ·refine Wk ?_
  refine AWp.range' ps.length [] [1,2,3,22] (fun k vs L=>L=[(b3,.row 33 1 [ai 0] 1),(b2,.row 54 2 [aEid (0,0)] 1)]∧∀j,j<k→procF ps j=0) (by omega) rfl rfl rfl ⟨rfl,by omega⟩ ?_ ?_
  ·rintro k vs L' hk - ⟨rfl,hI⟩
   simp only[go_sem]
   refine Sd ?_
   refine AWp.of ?_;simp only[go_sem]
   refine Wk ?_
   refine Sd ?_
   refine(trace_processFaultH ps hs k hk).val.use ?_;simp only[go_sem]
   refine W1 n23 ?_
   refine⟨fun h2 => ?_,fun h2 => ?_⟩
   ·refine W1 n23 ?_
    have hf:faultF ps=(((k:Int),0),procF ps k):=by unfold faultF;rw[if_neg (by simp [h1]),procFirst_hit hk hI h2]
    rw[hf]
    refine ret_eq ?_
    simp only[go_sem,n23]
   ·refine⟨_,List.Sublist.refl _,rfl,fun j hj => ?_⟩
    by_cases e:j=k
    ·rw[e];exact h2
    ·exact hI j (by omega)
  ·rintro vs L' - ⟨rfl,hI⟩
   obtain⟨p,hp,h⟩:=hb
   exact absurd (hI p hp) h
theorem ref12_FaultB (ps:List Pr) (hs:Smh ps) (hb:∃p,p<ps.length∧procF ps p ≠ 0):PC Proofs.Tryz.prog 40 [aTr ps] (aFault (faultF ps)):=by
 have hl:=hs.procs
 refine PC.enter 137 [.cell 2 54,.tmp 3] [1,11,15] Proofs.Tryz.func40 rfl rfl rfl rfl rfl (by simp) (AWp.of ?_);simp only[go_sem]
 intro b2
 refine Wk ?_
 refine Wk ?_
 refine⟨fun h1 => ?_,fun h1 => ?_⟩
 ·refine Wk ?_
  have hf:faultF ps=((0,0),1):=by
   unfold faultF
   rw[if_pos]
   unfold inI
   rw[Bool.not_eq_true',← Bool.not_eq_true,Bool.and_eq_true,decide_eq_true_eq,decide_eq_true_eq]
   omega
  rw[hf]
  refine ret_eq ?_
  simp only[go_sem]
 ·intro h1'
  have hin:¬((!inI ps.length 1 8)=true):=by
   unfold inI
   rw[Bool.not_eq_true',← Bool.not_eq_true,Bool.and_eq_true,decide_eq_true_eq,decide_eq_true_eq]
   omega
  refine Wk ?_
  refine AWp.block (AWp.count 4 ps.length [] [1,2] (fun k vs L=>L=[(b2,.row 54 2 [aEid (0,0)] 1)]∧∀j,j<k→procF ps j=0) rfl rfl ⟨by simp [aEid],by omega⟩ ?_)
  rintro k vs L hk - ⟨rfl,hI⟩
  simp only[go_sem]
  refine Wk ?_
  refine⟨fun h2 => ?_,fun h2 => ?_⟩
  ·have hkp:k<ps.length:=by omega
   refine Wk ?_
   refine Sd ?_
   refine(ref12_headH ps hs k hkp).val.use ?_;simp only[go_sem]
   refine Wk ?_
   refine⟨fun h3 => ?_,fun h3 => ?_⟩
   ·refine Wk ?_
    have hf:faultF ps=(((k:Int),0),procF ps k):=by unfold faultF;rw[if_neg hin,procFirst_hit hkp hI h3]
    rw[hf]
    refine ret_eq ?_
    simp only[go_sem]
   ·refine Wk ?_
    refine⟨_,List.Sublist.refl _,rfl,fun j hj => ?_⟩
    by_cases e:j=k
    ·rw[e];exact h3
    ·exact hI j (by omega)
  ·obtain⟨p,hp,h⟩:=hb
   exact absurd (hI p (by omega)) h
theorem procF_evs {ps:List Pr} {p:Nat} (hp:p<ps.length) (h:64<ps[p].evs.length):procF ps p ≠ 0:=by
 have hpf:procF ps p=if !nameOk ps[p].name || (ps.take p).any (fun y=>decide (y.name=ps[p].name)) then 13 else if 8<ps[p].vars.length then 5 else
   if fstF (varF ps[p].vars) ps[p].vars.length ≠ 0 then fstF (varF ps[p].vars) ps[p].vars.length else if 64<ps[p].evs.length then 5 else 0:=by
  unfold procF;rw[List.getElem?_eq_getElem hp]
 rw[hpf]
 split
 ·decide
 ·split
  ·decide
  ·split
   ·assumption
   ·first|decide|(rw[if_pos h];decide)
theorem valid_bad {ps:List Pr} (hb:∃p,p<ps.length∧procF ps p ≠ 0):validF ps=false:=by
 cases hv:validF ps with
 | false=>rfl
 | true =>
  obtain⟨p,hp,h⟩:=hb
  exact absurd (procF_of_valid hv hp) h
theorem trace_ValidB (ps:List Pr) (hs:Smh ps) (hb:∃p,p<ps.length∧procF ps p ≠ 0):PC Proofs.Tryz.prog 70 [aTr ps] (ab (validF ps)):=by
 refine PC.enter 12 [.tmp 2] [1,3] Proofs.Tryz.func70 rfl rfl rfl rfl rfl (by simp) (AWp.of ?_);simp only[go_sem]
 refine Wk ?_
 refine Sd ?_
 refine(trace_FaultB ps hs hb).val.use ?_;simp only[go_sem]
 refine Sd ?_
 intros
 refine AWp.of ?_;simp only[go_sem]
 refine Wk ?_
 refine ret_eq ?_;simp only[go_sem]
 rfl
theorem ref12_ValidB (ps:List Pr) (hs:Smh ps) (hb:∃p,p<ps.length∧procF ps p ≠ 0):PC Proofs.Tryz.prog 6 [aTr ps] (ab (validF ps)):=by
 refine PC.enter 12 [.tmp 2] [1,3] Proofs.Tryz.func6 rfl rfl rfl rfl rfl (by simp) (AWp.of ?_);simp only[go_sem]
 refine Wk ?_
 refine Sd ?_
 refine(ref12_FaultB ps hs hb).val.use ?_;simp only[go_sem]
 refine Sd ?_
 intros
 refine AWp.of ?_;simp only[go_sem]
 refine Wk ?_
 refine ret_eq ?_;simp only[go_sem]
 rfl
theorem chn_iff {ps:List Pr} : ∀ {r:List (List Int)} {a:List Int},chnF ps a r=true↔∀j (h:j<r.length),isF ps r[j]=true∧0≤stepF ((a :: r)[j]'(by rw[List.length_cons];omega)) r[j]
 | [],a=>⟨fun _ j h=>absurd h (by simp),fun _=>rfl⟩
 | b :: r,a=>by
  have e:chnF ps a (b :: r)=((isF ps b && decide (0≤stepF a b)) && chnF ps b r):=rfl
  rw[e,Bool.and_eq_true,Bool.and_eq_true,decide_eq_true_eq,chn_iff]
  constructor
  ·rintro⟨h1,h2⟩ j hj
   cases j with
   | zero=>exact h1
   | succ j=>exact h2 j (by simpa using hj)
  ·intro h
   exact⟨h 0 (by simp),fun j hj=>h (j+1) (by simpa using hj)⟩
theorem valid_off {ps:List Pr} (hv:validF ps=true):off ps ps.length≤512:=by
 have h:∀k,k≤ps.length→off ps k≤64 * k:=fun k=>by
  induction k with
  | zero=>intro _;simp [off]
  | succ k ih =>
   intro hk
   have h1:=off_succ (show k<ps.length by omega)
   have h2:=ih (by omega)
   have h3:ps[k].evs.length≤64:=by
    apply Classical.byContradiction
    intro h4
    exact procF_evs (show k<ps.length by omega) (by omega) (procF_of_valid hv (by omega))
   omega
 have:=h ps.length (Nat.le_refl _)
 have:=(valid_len hv).2
 omega
end Go.AL
end
