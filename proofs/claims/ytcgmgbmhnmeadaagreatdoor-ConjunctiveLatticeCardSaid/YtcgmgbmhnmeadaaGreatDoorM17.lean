/- Texts of this claim's proof: WGr, WV38, WXm, WXs, WSq, WXp, WXr, WPw3. No condition. -/
import Derived.Test.YtcgmgbmhnmeadaaGreatDoorM13
import Derived.Test.YtcgmgbmhnmeadaaGreatDoorM16
import Derived.Test.YtcgmgbmhnmeadaaGreatDoorM15
import Derived.Test.YtcgmgbmhnmeadaaGreatDoorM9
import Derived.Test.YtcgmgbmhnmeadaaGreatDoorM7
section
namespace Go.AL
open Go Go.RowKit
set_option maxRecDepth 4000
structure IsGr (ps:List Pr) (E:Elim) (c:List Int):Prop where
 sat:SatD ps E c
 up:∀d,SatD ps E d→∀p,p<ps.length→cAt d p≤cAt c p
open Classical in
noncomputable def greatO (ps:List Pr) (E:Elim):Option (List Int):=if h:∃c,IsGr ps E c then some (Classical.choose h) else none
def UpB (ps:List Pr) (E:Elim) (d:List Int):Prop:=∀e,SatD ps E e→∀p,p<ps.length→cAt e p≤cAt d p
section
variable {ps:List Pr} {E:Elim}
theorem greatO_some {c:List Int} (h:IsGr ps E c):greatO ps E=some c:=by
 have hx:∃c,IsGr ps E c:=⟨c,h⟩
 unfold greatO
 rw[dif_pos hx]
 have h2:=Classical.choose_spec hx
 congr 1
 exact cut_ext (by rw[h2.sat.len,h.sat.len]) fun p hp=>by
  rw[h2.sat.len] at hp
  have:=h2.up c h.sat p hp
  have:=h.up _ h2.sat p hp
  omega
theorem greatO_none (h:¬ ∃d,SatD ps E d):greatO ps E=none:=by
 unfold greatO
 rw[dif_neg fun ⟨c,hc⟩=>h ⟨c,hc.sat⟩]
theorem set_cAt {d:List Int} {p q:Nat} {z:Int} (hq:q<d.length):cAt (d.set p z) q=if p=q then z else cAt d q:=by
 rw[cAt_nat (by rw[List.length_set];exact hq),List.getElem_set]
 split
 ·rfl
 ·rw[cAt_nat hq]
theorem up_down {d:List Int} (hl:d.length=ps.length) (h:UpB ps E d) {p:Nat} (hp:p<ps.length) (_h0:0≤cAt d p) (hok:E.ok p (cAt d p).toNat=false):UpB ps E (d.set p (cAt d p - 1)):=fun e he q hq=>by
 rw[set_cAt (by rw[hl];exact hq)]
 split
 ·rename_i ee;subst ee
  have h1:=h e he p hp
  by_cases e2:cAt e p=cAt d p
  ·have:=he.ok p hp
   rw[e2,hok] at this;cases this
  ·omega
 ·exact h e he q hq
theorem up_neg {d:List Int} (h:UpB ps E d) {p:Nat} (hp:p<ps.length) (hn:cAt d p<0):¬ ∃e,SatD ps E e:=fun ⟨e,he⟩=>by
 have:=h e he p hp
 have:=((inRange_iff he.len).1 he.rng p hp).1
 omega
theorem up_open (hv:validF ps=true) {d:List Int} (hl:d.length=ps.length) (hr:inRangeF ps d=true) (h:UpB ps E d):UpB ps E (openF ps d):=fun e he p hp=>openF_great hv he.len he.clo hl hr (h e he) p hp
theorem totC_lt {d e:List Int} (hl:e.length=d.length) (hle:∀q,q<d.length→0≤cAt e q∧cAt e q≤cAt d q) (hlt:∃q,q<d.length∧cAt e q<cAt d q):totC e<totC d:=by
 have key:∀(d e:List Int),e.length=d.length→(∀q,q<d.length→0≤cAt e q∧cAt e q≤cAt d q)→totC e≤totC d∧((∃q,q<d.length∧cAt e q<cAt d q)→totC e<totC d):=by
  intro d
  induction d with
  | nil =>
   intro e hl _
   have:e=[]:=List.length_eq_zero_iff.1 (by simpa using hl)
   subst this
   exact⟨Nat.le_refl _,fun ⟨q,hq,_⟩=>by simp at hq⟩
  | cons a d ih =>
   intro e hl h
   cases e with
   | nil=>simp at hl
   | cons b e =>
    have hc:∀(x:Int) (l:List Int) (q:Nat),cAt (x :: l) ((q+1:Nat):Int)=cAt l (q:Int):=fun x l q=>by
     unfold cAt
     rw[Int.toNat_natCast,Int.toNat_natCast]
     simp
    have h0:=h 0 (by simp)
    have e0:∀(x:Int) (l:List Int),cAt (x :: l) ((0:Nat):Int)=x:=fun x l=>by unfold cAt;simp
    rw[e0,e0] at h0
    obtain⟨i1,i2⟩:=ih e (by simpa using hl) fun q hq=>by
     have:=h (q+1) (by simpa using hq)
     rw[hc,hc] at this
     exact this
    have ht:∀(x:Int) (l:List Int),totC (x :: l)=x.toNat+totC l:=fun x l=>by simp [totC]
    rw[ht,ht]
    refine⟨by omega,?_⟩
    rintro⟨q,hq,hlt⟩
    cases q with
    | zero=>rw[e0,e0] at hlt;omega
    | succ q =>
     rw[hc,hc] at hlt
     have:=i2 ⟨q,by simpa using hq,hlt⟩
     omega
 exact(key d e hl hle).2 hlt
end
theorem set_self {d:List Int} {p:Nat} (hp:p<d.length):d.set p (cAt d p)=d:=by rw[cAt_nat hp,List.set_getElem_self]
theorem map_ge {d:List Int} {p:Nat} (hp:p<d.length):(d.map ai).getD p .any=ai (cAt d p):=by rw[getD_map hp,cAt_nat hp]
noncomputable def aGreat (ps:List Pr) (ts:List Pd):AV:=if conF ps ts ≠ 0 then .tup [.sl 1 [],ai (conF ps ts)] else match greatO ps (elimOf ps ts) with|some c => .tup [aInts c,ai 0]|none => .tup [.sl 1 [],ai 7]
set_option maxHeartbeats 1000000 in
theorem conj_Greatest (ps:List Pr) (hs:Sm ps) (ts:List Pd) (hz:∀t ∈ ts,szF t≤1000000) (htl:ts.length≤1000000):PC Proofs.Tryz.prog 9 [aTr ps,.sl 6 (ts.map aPd)] (aGreat ps ts):=by
 have h1:=conj_start ps hs ts hz htl
 unfold startK at h1
 unfold aGreat
 by_cases hf:conF ps ts=0
 ·rw[if_neg (by simpa using hf)]
  obtain⟨hv,htn,_⟩:=conF_inv hf
  have hl:=hs.procs
  have hl1:=(valid_len hv).1
  have hN:=elim_need ps ts
  have hEn:(elimOf ps ts).n=ps.length:=rfl
  have hB:∀f bb bn,boardL (elimOf ps ts) f bb bn=[(bb,.row 74 3 [.agg [.sl 1 (needT (elimOf ps ts)),.sl 1 (okM (elimOf ps ts)),.ls bn 1 0 (elimOf ps ts).n (elimOf ps ts).n]] 1),(bn,.row 3 1 (dnA (elimOf ps ts).n f) (elimOf ps ts).n)]:=fun f bb bn=>rfl
  have hvl:(ts.length:Int)=ps.length:=by omega
  rw[hf] at h1
  generalize elimOf ps ts=E at *
  have hol:=okM_len E
  rw[hEn] at hol
  have hog:∀p,p<ps.length→(okM E).getD p .any = .sl 1 (okL E p):=fun p hp=>okM_get (by omega)
  have hkl:=fun p=>okL_len E p
  have hkg:∀p k,k≤E.top p→(okL E p).getD k .any=ab (E.ok p k):=fun p k hk=>okL_get hk
  have htp:∀p,p<ps.length→E.top p≤1000000:=fun p hp=>by rw[hN.top p hp];exact hs.evs _ (List.getElem_mem hp)
  refine PC.enter 95 [.tmp 4,.tmp 5] [2] Proofs.Tryz.func9 rfl rfl rfl rfl rfl (by simp) (AWp.of ?_);simp only[go_sem]
  refine Wk ?_
  refine h1.val.mono ?_
  rintro r L1 (⟨-,bb,bn,hb,rfl,rfl⟩|⟨hC,_,_⟩)
  rotate_left
  ·exact absurd rfl hC
  simp only[go_sem]
  have hbv:=board_view (E:=E) (now:=fun _=>0) (bb:=bb) (bn:=bn) hb
  unfold aBoard at hbv
  rw[hB] at hbv
  rw[hB]
  generalize needT E=NT at *
  generalize dnA E.n (fun _=>0)=DN at *
  refine AWp.view [true,true] [(6,.rp 3 [.agg [.sl 1 NT,.sl 1 (okM E),.sl 1 DN]] 0 0)] (LVw.refl _) ?_ ?_
  ·intro q hq
   simp only[List.mem_singleton] at hq
   subst hq
   simp only[go_sem,pickT]
   exact hbv
  simp only[go_sem,pickF]
  refine W1 hvl ?_
  intro b8
  refine W2 hvl hol ?_
  rw[fillA_zero ps.length (fun q=>(E.top q:Int))]
  refine AWp.range' ps.length [] [2,6,8,28,29] (fun p vs L=>L=[(b8,.row 3 1 (fillA ps.length (fun q=>(E.top q:Int)) p) ps.length)]) (by omega) rfl rfl rfl rfl ?_ ?_
  ·rintro p vs L hp - rfl
   have g0:=hog p hp
   have g1:=hkl p
   have g2:((E.top p+1:Nat):Int) - 1=E.top p:=by omega
   have g3:=fillA_len ps.length (fun q=>(E.top q:Int)) p
   have g4:=fillA_set (n:=ps.length) (f:=fun q=>(E.top q:Int)) (p:=p)
   have g5:=fillA_get (n:=ps.length) (f:=fun q=>(E.top q:Int)) (p:=p) hp
   have g6:=htp p hp
   rw[← g4]
   simp only[go_sem]
   refine W5 g0 g1 g2 g3 g5 ?_
   refine Sd ?_
   exact⟨_,List.Sublist.refl _,rfl⟩
  ·rintro vs L - rfl
   have hd0:fillA ps.length (fun q=>(E.top q:Int)) ps.length=(cutL ps.length E.top).map ai:=by
    unfold fillA cutL
    rw[List.map_map]
    refine List.map_congr_left fun q hq => ?_
    rw[if_pos (List.mem_range.1 hq)];rfl
   have hc0:∀q,q<ps.length→cAt (cutL ps.length E.top) q=E.top q:=fun q hq=>by rw[cAt_nat (by rw[cutL_len];exact hq)];simp [cutL]
   have hr0:inRangeF ps (cutL ps.length E.top)=true:=(inRange_iff (cutL_len _ _)).2 fun q hq=>by rw[hc0 q hq,hN.top q hq];omega
   have hu0:UpB ps E (cutL ps.length E.top):=fun e he q hq=>by
    rw[hc0 q hq,hN.top q hq]
    exact((inRange_iff he.len).1 he.rng q hq).2
   rw[hd0]
   simp only[go_sem]
   refine AWp.block (AWp.loopN [8] [2,6] (fun m vs L=>∃b cap d,vs=[.ls b 1 0 ps.length cap]∧L=[(b,.row 3 1 (d.map ai) cap)]∧d.length=ps.length∧inRangeF ps d=true∧UpB ps E d∧m=totC d) (totC (cutL ps.length E.top)) ?_ ?_)
   ·exact⟨b8,ps.length,_,rfl,rfl,cutL_len _ _,hr0,hu0,rfl⟩
   rintro m vs L - ⟨b,cap,d,rfl,rfl,hdl,hdr,hdu,rfl⟩
   have hdr':=(inRange_iff hdl).1 hdr
   simp only[go_sem]
   refine Wk ?_
   refine(MCalls.viewed (Vws.cons (Vw.ofLs (t:=3) (xs:=d.map ai) (cap:=cap) (by simp only[lk,if_true]) (by rw[List.length_map,hdl])) .nil) (ints_cloneO d (by omega)) fun r L1 hA=>hA.own (own_ints d)).val.mono ?_
   rintro r L ⟨L1,rfl,hA⟩
   rcases hA.inv with ⟨e1,rfl,rfl⟩|⟨bo,capo,rfl,rfl⟩
   ·have:d.length=0:=by simpa using congrArg List.length e1
    omega
   simp only[go_sem,List.cons_append,List.nil_append]
   refine AWp.view [true,false] [(11,aInts d)] (LVw.refl _) ?_ ?_
   ·intro q hq
    simp only[List.mem_singleton] at hq
    subst hq
    simp only[go_sem,pickT]
    exact Vw.ofLs (t:=3) (cap:=capo) (by simp only[lk,if_true]) (by rw[List.length_map])
   simp only[go_sem,pickF]
   refine Wk ?_
   refine AWp.range' ps.length [] [2,6,8,11,45] (fun p vs L=>∃e:List Int,L=[(b,.row 3 1 (e.map ai) cap)]∧e.length=ps.length∧(∀q,q<ps.length→0≤cAt e q∧cAt e q≤cAt d q)∧UpB ps E e∧∀q,q<p→q<ps.length→E.ok q (cAt e q).toNat=true) (by omega) rfl rfl rfl ⟨d,rfl,hdl,fun q hq=>⟨(hdr' q hq).1,Int.le_refl _⟩,hdu,fun q hq=>by omega⟩ ?_ ?_
   ·rintro p vs L hp - ⟨e,rfl,hel,her,heu,hek⟩
    have hpe:p<e.length:=by omega
    obtain⟨he0,he1⟩:=her p hp
    have hde:=(hdr' p hp).2
    have htop:=hN.top p hp
    have htpp:=htp p hp
    simp only[go_sem]
    refine Wk ?_
    refine AWp.seq (AWp.block (AWp.loopN [] [2,6,8,11,12,45,46] (fun m vs L=>∃z:Int,L=[(b,.row 3 1 ((e.set p z).map ai) cap)] ∧ -1≤z∧z≤cAt e p∧UpB ps E (e.set p z)∧m=(z+1).toNat) ((cAt e p+1).toNat) ?_ ?_))
    ·exact⟨cAt e p,by rw[set_self hpe],by omega,Int.le_refl _,by rw[set_self hpe];exact heu,rfl⟩
    rintro m vs L - ⟨z,rfl,hz0,hz1,hzu,rfl⟩
    have hsl:(e.set p z).length=e.length:=List.length_set
    have hcz:cAt (e.set p z) p=z:=by rw[set_cAt hpe,if_pos rfl]
    have gz:((e.set p z).map ai).getD p .any=ai z:=by rw[map_ge (by rw[hsl];exact hpe),hcz]
    have g0:=hog p hp
    have g1:=hkl p
    have g2:=hkg p z.toNat (by omega)
    have hss:∀x,((e.set p z).set p x)=e.set p x:=fun x=>List.set_set ..
    have hdn:=fun h0 hok=>up_down (d:=e.set p z) (by rw[hsl];exact hel) hzu hp (by rw[hcz];exact h0) (by rw[hcz];exact hok)
    rw[hcz,hss] at hdn
    have hng:=fun hn=>up_neg hzu hp (by rw[hcz];exact hn)
    have hms:((e.set p z).map ai).set p (ai (z - 1))=(e.set p (z - 1)).map ai:=by rw[← List.map_set,hss]
    have hnext:0≤z→E.ok p z.toNat=true→(∀q,q<ps.length→0≤cAt (e.set p z) q∧cAt (e.set p z) q≤cAt d q)∧∀q,q<p+1→q<ps.length→E.ok q (cAt (e.set p z) q).toNat=true:=fun h0 hok=>by
     refine⟨fun q hq => ?_,fun q hq1 hq => ?_⟩
     ·rw[set_cAt (by omega)]
      split
      ·rename_i e;subst e;omega
      ·exact her q hq
     ·rw[set_cAt (by omega)]
      split
      ·rename_i e;subst e;exact hok
      ·exact hek q (by omega) hq
    have hlz:((e.set p z).map ai).length=ps.length:=by rw[List.length_map,hsl,hel]
    have hm':(z - 1+1).toNat<(z+1).toNat∨z<0:=by omega
    generalize hEz:(e.set p z).map ai=EZ at *
    generalize E.ok p z.toNat=okz at *
    simp only[go_sem]
    refine AWp.seq (AWp.seq ?_)
    repeat(first|(with_reducible refine AWp.seq ?_)|(with_reducible refine AWp.block ?_))
    refine AWp.read mixed [0,1,2,3,4,5,6,7,8,9,10,11,12,13,14,15,16,17,18,19,20] (by kernel_rfl) ?_;simp only[go_sem,gz,g0,g1,g2]
    refine Sd ?_
    refine Wk ?_
    refine⟨fun h5 h6 => ?_,fun h5 => ?_⟩
    ·refine W2 gz hlz ?_
     refine Sd ?_
     refine⟨_,List.Sublist.refl _,(z - 1+1).toNat,by omega,z - 1,by rw[hms],by omega,by omega,hdn h5 h6,rfl⟩
    ·refine W2 gz hlz ?_
     refine⟨fun h7 => ?_,fun h7 => ?_⟩
     ·refine Wk ?_
      rw[greatO_none (hng h7)]
      refine ret_view [] ?_;simp only[go_sem]
      exact .mkTup (Vws.cons (.nil 1) (Vws.refl _))
     ·obtain⟨k1,k2⟩:=hnext (by omega) (by simpa using h5 (by omega))
      refine Wk ?_
      exact⟨_,List.Sublist.refl _,e.set p z,by rw[hEz],by rw[hsl,hel],k1,hzu,k2⟩
   ·rintro vs L - ⟨e,rfl,hel,her,heu,hek⟩
    have herr:inRangeF ps e=true:=(inRange_iff hel).2 fun q hq=>by
     have:=her q hq;have:=hdr' q hq;omega
    have hO:=cut_Open ps hs hv e hel herr
    obtain⟨o1,o2,o3⟩:=openF_ok hv hel herr
    have ole:=openF_le hv hel herr
    have oup:=up_open hv hel herr heu
    have hocl:=openF_closed hv hel herr
    have heq:=ints_equal (openF ps e) d (by omega)
    have hgr:openF ps e=d→greatO ps E=some d:=fun h=>greatO_some ⟨⟨hdl,hdr,by rw[← h];exact hocl,fun q hq=>by
     have h1:=ole q hq
     rw[h] at h1
     have h2:=(her q hq).2
     have h3:cAt d q=cAt e q:=by omega
     rw[h3];exact hek q hq hq⟩,hdu⟩
    have hlt:¬openF ps e=d→totC (openF ps e)<totC d:=fun h=>by
     have or:=(inRange_iff o1).1 o2
     refine totC_lt (by omega) (fun q hq=>⟨(or q (by omega)).1,Int.le_trans (ole q (by omega)) (her q (by omega)).2⟩) ?_
     by_cases hx:∃q,q<d.length∧cAt (openF ps e) q<cAt d q
     ·exact hx
     ·refine absurd (cut_ext (by omega) fun q hq => ?_) h
      have h1:¬cAt (openF ps e) q<cAt d q:=fun h=>hx ⟨q,by omega,h⟩
      have h2:=ole q (by omega)
      have h3:=(her q (by omega)).2
      omega
    unfold openK at hO
    generalize openF ps e=o at *
    simp only[go_sem]
    refine Wk ?_
    refine MVal.pass (Lf:=[(b,.row 3 1 (e.map ai) cap)]) (Li:=[]) (Lr:=[]) (.refl _) (Vws.cons (.refl _) (Vws.cons (Vw.ofLs (t:=3) (xs:=e.map ai) (cap:=cap) (by simp only[lk,if_true]) (by rw[List.length_map,hel])) .nil)) hO.val ?_
    rintro r L1 ⟨b2,cap2,rfl,rfl⟩
    refine⟨_,.refl _,?_⟩
    simp only[go_sem,List.append_nil]
    refine Wk ?_
    refine(PC.view (Vws.cons (Vw.ofLs (t:=3) (xs:=o.map ai) (cap:=cap2) (by simp only[lk,if_true]) (by rw[List.length_map,o1])) (Vws.cons (.refl _) .nil)) heq (Own.v _) ?_).val
    simp only[go_sem]
    refine Wk ?_
    refine⟨fun h7 => ?_,fun h7 => ?_⟩
    ·subst h7
     rw[hgr rfl]
     refine Wk ?_
     refine ret_view [true] ?_;simp only[go_sem]
     exact .mkTup (Vws.cons (Vw.ofLs (t:=3) (cap:=cap2) (by simp only[lk,if_true]) (by rw[List.length_map,o1])) (Vws.refl _))
    ·refine Wk ?_
     exact⟨_,List.Sublist.refl _,_,hlt h7,b2,cap2,o,rfl,rfl,o1,o2,oup,rfl⟩
 ·rw[if_pos hf]
  generalize conF ps ts=C at *
  refine PC.enter 95 [.tmp 4,.tmp 5] [2] Proofs.Tryz.func9 rfl rfl rfl rfl rfl (by simp) (AWp.of ?_);simp only[go_sem]
  refine Wk ?_
  refine h1.val.mono ?_
  rintro r L1 (⟨h0,_⟩|⟨hC,rfl,rfl⟩)
  ·exact absurd h0 hf
  simp only[go_sem]
  refine W1 hf ?_
  refine ret_view [] ?_;simp only[go_sem]
  exact .mkTup (Vws.cons (.nil 1) (Vws.refl _))
end Go.AL
end
section
namespace Go.AL
open Go Go.RowKit
set_option maxRecDepth 4000
section
variable {ps:List Pr} {E:Elim}
theorem SatD.is {c:List Int} (h:SatD ps E c):isF ps c=true:=isF_iff.2 ⟨h.len,h.rng,h.clo⟩
theorem sat_of {c:List Int} (h:isF ps c=true) (hk:∀p,p<ps.length→E.ok p (cAt c p).toNat=true):SatD ps E c:=⟨(isF_iff.1 h).1,(isF_iff.1 h).2.1,(isF_iff.1 h).2.2,hk⟩
theorem sat_join (hv:validF ps=true) {c d:List Int} (hc:SatD ps E c) (hd:SatD ps E d):SatD ps E (joinL c d):=by
 have h1:=hc.len
 have h2:=hd.len
 refine sat_of ((isF_given hv).1 (join_given ((isF_given hv).2 hc.is) ((isF_given hv).2 hd.is))) fun p hp => ?_
 rw[join_cAt (by omega) (by omega)]
 split
 ·exact hd.ok p hp
 ·exact hc.ok p hp
theorem sat_meet (hv:validF ps=true) {c d:List Int} (hc:SatD ps E c) (hd:SatD ps E d):SatD ps E (meetL c d):=by
 have h1:=hc.len
 have h2:=hd.len
 refine sat_of (meet_is hv hc.is hd.is) fun p hp => ?_
 rw[meet_cAt (by omega) (by omega)]
 split
 ·exact hd.ok p hp
 ·exact hc.ok p hp
theorem fold_sat (hv:validF ps=true) {g:List Int→List Int→List Int} (hg:∀c d,SatD ps E c→SatD ps E d→SatD ps E (g c d)):∀ {l:List (List Int)} {c:List Int},SatD ps E c→(∀y ∈ l,SatD ps E y)→SatD ps E (l.foldl g c)
 | [],_,hc,_=>hc
 | y :: l',c,hc,hl=>fold_sat hv hg (l:=l') (c:=g c y) (hg c y hc (hl y (by simp))) fun z hz=>hl z (List.mem_cons_of_mem _ hz)
theorem fold_above (hv:validF ps=true):∀ {l:List (List Int)} {c:List Int},SatD ps E c→(∀y ∈ l,SatD ps E y)→∀y ∈ c :: l,leqF y (l.foldl joinL c)=true
 | [],c,hc,_,y,hy=>by
  rw[List.mem_singleton] at hy
  subst hy
  exact leq_refl y
 | x :: l,c,hc,hl,y,hy=>by
  have hx:=hl x (by simp)
  have hj:=sat_join hv hc hx
  have ih:=fold_above hv (l:=l) hj fun z hz=>hl z (List.mem_cons_of_mem _ hz)
  have hlen:c.length=x.length:=by rw[hc.len,hx.len]
  obtain⟨g1,g2⟩:=join_left hlen
  have h0:=ih _ (List.mem_cons_self ..)
  have tr:∀a b d:List Int,leqF a b=true→leqF b d=true→leqF a d=true:=fun a b d h1 h2=>by
   obtain⟨l1,k1⟩:=leq_iff_at.1 h1
   obtain⟨l2,k2⟩:=leq_iff_at.1 h2
   exact leq_iff_at.2 ⟨by omega,fun p hp=>Int.le_trans (k1 p hp) (k2 p (by omega))⟩
  rcases List.mem_cons.1 hy with rfl|hy
  ·exact tr _ _ _ g1 h0
  ·rcases List.mem_cons.1 hy with rfl|hy
   ·exact tr _ _ _ g2 h0
   ·exact ih y (List.mem_cons_of_mem _ hy)
end
structure LatS (ps:List Pr) (E:Elim) (c0:List Int) (r:List (List Int)) (m M:List Int):Prop where
 meet:∀k,k≤r.length→SatD ps E ((r.take k).foldl meetL c0)
 join:∀k,k≤r.length→SatD ps E ((r.take k).foldl joinL c0)
 all:∀y ∈ r,SatD ps E y
 low:r.foldl meetL c0=m
 high:r.foldl joinL c0=M
 lost:lostF E=false
 cut:cutL ps.length (finF E)=m
 great:greatO ps E=some M
theorem latS_of {ps:List Pr} {E:Elim} (hv:validF ps=true) (hN:NeedOk ps E) {c0:List Int} {r:List (List Int)} (h:(cutsF ps).filter (satG ps E)=c0 :: r):∃m M,LatS ps E c0 r m M:=by
 have hm:∀y,y ∈ c0 :: r↔SatD ps E y:=fun y=>by
  rw[← h,List.mem_filter,mem_cutsF hv,satG_iff]
  exact⟨fun h=>h.2,fun h=>⟨h.is,h⟩⟩
 have h0:=(hm c0).1 (by simp)
 have hr:∀y ∈ r,SatD ps E y:=fun y hy=>(hm y).1 (List.mem_cons_of_mem _ hy)
 have hrt:∀k,∀y ∈ r.take k,SatD ps E y:=fun k y hy=>hr y (List.mem_of_mem_take hy)
 have hl:lostF E=false:=(lost_iff hv hN).2 ⟨c0,h0⟩
 obtain⟨f1,f2⟩:=fin_least hv hN hl
 have hup:=fold_above hv h0 hr
 have hM:=fold_sat hv (fun c d hc hd=>sat_join hv hc hd) h0 hr
 refine⟨_,_,fun k _=>fold_sat hv (fun c d hc hd=>sat_meet hv hc hd) h0 (hrt k),fun k _=>fold_sat hv (fun c d hc hd=>sat_join hv hc hd) h0 (hrt k),hr,?_,rfl,hl,rfl,greatO_some ⟨hM,fun d hd p hp => ?_⟩⟩
 ·have hle:∀y,SatD ps E y→leqF (cutL ps.length (finF E)) y=true:=fun y hy=>leq_iff_at.2 ⟨by rw[f1.len,hy.len],fun p hp=>f2 y hy p (by rw[f1.len] at hp;exact hp)⟩
  refine fold_meet (hle c0 h0) (fun y hy=>hle y (hr y hy)) ?_
  rcases List.mem_cons.1 ((hm _).2 f1) with h|h
  ·exact .inl h.symm
  ·exact .inr h
 ·exact(leq_iff_at.1 (hup d ((hm d).2 hd))).2 p (by rw[hd.len];exact hp)
theorem latS_none {ps:List Pr} {E:Elim} (hv:validF ps=true) (hN:NeedOk ps E) (h:(cutsF ps).filter (satG ps E)=[]):lostF E=true∧greatO ps E=none:=by
 have hno:¬ ∃d,SatD ps E d:=fun ⟨d,hd⟩=>by
  have:d ∈ (cutsF ps).filter (satG ps E):=List.mem_filter.2 ⟨(mem_cutsF hv).2 hd.is,satG_iff.2 hd⟩
  rw[h] at this;cases this
 constructor
 ·cases hl:lostF E with
  | true=>rfl
  | false=>exact absurd ((lost_iff hv hN).1 hl) hno
 ·unfold greatO
  rw[dif_neg fun ⟨c,hc⟩=>hno ⟨c,hc.sat⟩]
theorem law37_ex1 (n:Int):PC Proofs.Tryz.prog 36 [ai n] (.sl 2 [.agg [ai 0,ai n]]):=by
 refine PC.enter 6 [.tmp 2] [5] Proofs.Tryz.func36 rfl rfl rfl rfl rfl (by simp) (AWp.of ?_);simp only[go_sem]
 refine Wk ?_
 refine ret_eq ?_;simp only[go_sem]
theorem law37_ex2 (p:Int) (s:ByteArray):PC Proofs.Tryz.prog 37 [ai p,astr s] (aPd (oneT p s)):=by
 unfold oneT
 simp only[aPd_mk,List.map_cons,List.map_nil]
 refine PC.enter 11 [.cell 4 44] [9] Proofs.Tryz.func37 rfl rfl rfl rfl rfl (by simp) (AWp.of ?_);simp only[go_sem]
 intro b4
 refine Wk ?_
 refine ret_view [] ?_;simp only[go_sem]
 refine .mkAgg ?_
 refine Vws.cons (.refl _) (Vws.cons (.refl _) (Vws.cons (.refl _) (Vws.cons (.refl _) (Vws.cons (.refl _) (Vws.cons (Vw.mkSl ?_) .nil)))))
 refine Vws.cons (.mkAgg ?_) (Vws.cons (.mkAgg ?_) .nil)
 ·exact Vws.cons (.refl _) (Vws.cons (.refl _) (Vws.cons (.refl _) (Vws.cons (.refl _) (Vws.cons (.refl _) (Vws.cons (.nil 6) .nil)))))
 ·exact Vws.cons (.refl _) (Vws.cons (.refl _) (Vws.cons (.refl _) (Vws.cons (.refl _) (Vws.cons (.refl _) (Vws.cons (.nil 6) .nil)))))
theorem law37_example:MCalls Proofs.Tryz.prog 17 [] [] fun r L=>∃b,r = .tup [aTr psC,.ls b 6 0 2 2]∧L=[(b,.row 44 6 (tsC.map aPd) 2)]:=by
 have e1:=law37_ex1 1
 have e0:=law37_ex1 0
 have p0:=law37_ex2 0 ⟨#[120]⟩
 have p1:=law37_ex2 1 ⟨#[121]⟩
 refine MCalls.enter' 32 [.cell 0 24,.tmp 1] [3,6,14,17,22,24] Proofs.Tryz.func17 rfl rfl rfl rfl rfl (by simp) (AWp.of ?_);simp only[go_sem]
 intro b0
 refine Wk ?_
 refine Sd ?_
 refine(e1).val.use ?_;simp only[go_sem]
 refine Sd ?_
 refine(e0).val.use ?_;simp only[go_sem]
 refine Sd ?_
 refine(e1).val.use ?_;simp only[go_sem]
 refine Wk ?_
 intro b3 _
 refine AWp.view [] [(3,.rp 1 [aTr psC] 0 0)] (LVw.refl _) ?_ ?_
 ·intro p hp
  simp only[List.mem_singleton] at hp
  subst hp
  show Vw [] _ (.rp 1 [aTr psC] 0 0)
  simp only[go_sem]
  refine Vw.mkRp ?_
  repeat(first|exact Vw.refl _|exact Vws.nil|exact Vw.nil _|refine Vws.cons ?_ ?_|refine Vw.mkAgg ?_|refine Vw.mkSl ?_)
 have hT:aTr psC = .agg [.sl 3 (psC.map aPr)]:=rfl
 have hP:tsC.map aPd=[aPd (oneT 0 ⟨#[120]⟩),aPd (oneT 1 ⟨#[121]⟩)]:=rfl
 rw[hT,hP]
 generalize psC.map aPr=T at *
 have hk0:∃l,aPd (oneT 0 ⟨#[120]⟩) = .agg [ai 9,ai 0,ai 0,ai 0,astr ByteArray.empty,.sl 6 l]:=⟨_,aPd_mk _ _ _ _ _ _⟩
 have hk1:∃l,aPd (oneT 1 ⟨#[121]⟩) = .agg [ai 9,ai 0,ai 0,ai 0,astr ByteArray.empty,.sl 6 l]:=⟨_,aPd_mk _ _ _ _ _ _⟩
 obtain⟨l0,hk0⟩:=hk0
 obtain⟨l1,hk1⟩:=hk1
 rw[hk0] at p0 ⊢
 rw[hk1] at p1 ⊢
 refine AWp.only [0,2,3] ?_
 simp only[go_sem]
 refine Wk ?_
 refine AWp.seq ?_
 repeat(first|(with_reducible refine AWp.seq ?_)|(with_reducible refine AWp.block ?_))
 refine AWp.mix mixed [0,1,2,3,4] (.step 5 (.step 6 (.step 7 .done .done) .done) (.step 6 (.step 5 (.step 7 .done .done) .done) .done)) (by kernel_rfl) ?_;simp only[go_sem]
 refine Sd ?_
 refine Gc p0 ?_
 refine Sd ?_
 refine Gc p1 ?_
 refine⟨fun b hb => ?_,fun b hb => ?_⟩
 all_goals
  have n1:¬b0=b:=by omega
  have n2:¬b=b0:=by omega
  (try simp only[go_sem,n1])
  refine AWp.of ?_
  (try simp only[go_sem])
  refine ret_sub [(b,.row 44 6 [.agg [ai 9,ai 0,ai 0,ai 0,astr ByteArray.empty,.sl 6 l0],.agg [ai 9,ai 0,ai 0,ai 0,astr ByteArray.empty,.sl 6 l1]] 2)] (by simp) ?_
  simp only[go_sem,n1]
  exact⟨b,rfl,rfl⟩
theorem ref37_SameSpans (a b:List (Int × Int × Int)) (ha:a.length≤9223372036854775806) (hb:b.length≤9223372036854775806):PC Proofs.Tryz.prog 18 [aSps a,aSps b] (ab (decide (a=b))):=by
 by_cases hl:a.length=b.length
 ·have hli:(a.length:Int)=b.length:=by omega
  have h0:∀i (hi:i<a.length),a[i] ≠ b[i]'(by omega)→decide (a=b)=false:=fun i hi h=>decide_eq_false fun e=>h (by subst e;rfl)
  have h1:(∀i (hi:i<a.length),a[i]=b[i]'(by omega))→decide (a=b)=true:=fun h=>decide_eq_true (List.ext_getElem hl fun i h1 h2=>h i h1)
  generalize decide (a=b)=B at *
  unfold aSps
  refine PC.enter 26 [.tmp 4] [] Proofs.Tryz.func18 rfl rfl rfl rfl rfl (by simp) (AWp.of ?_);simp only[go_sem]
  refine W1 hli ?_
  refine AWp.block (AWp.count 5 a.length [] [0,1] (fun i vs L=>L=[]∧∀j (hj:j<a.length),j<i→a[j]=b[j]'(by omega)) rfl rfl ⟨rfl,fun j hj h=>by omega⟩ ?_)
  rintro i vs L hi - ⟨rfl,hJ⟩
  simp only[go_sem]
  refine W1 hli ?_
  refine⟨fun h2 => ?_,fun h2 => ?_⟩
  ·have hia:i<a.length:=by omega
   have hib:i<b.length:=by omega
   have ga:(a.map aSp).getD i .any = .agg [ai a[i].1,ai a[i].2.1,ai a[i].2.2]:=getD_map (f:=aSp) hia
   have gb:(b.map aSp).getD i .any = .agg [ai b[i].1,ai b[i].2.1,ai b[i].2.2]:=getD_map (f:=aSp) hib
   have h0:=h0 i hia
   have hJ2:a[i]=b[i]→∀j (hj:j<a.length),j<i+1→a[j]=b[j]'(by omega):=fun e j hj h=>by
    by_cases ej:j=i
    ·subst ej;exact e
    ·exact hJ j hj (by omega)
   generalize a[i]=x at *
   generalize b[i]=y at *
   obtain⟨x1,x2,x3⟩:=x
   obtain⟨y1,y2,y3⟩:=y
   simp only at ga gb
   refine AWp.seq (AWp.block (AWp.seq ?_))
   repeat(first|(with_reducible refine AWp.seq ?_)|(with_reducible refine AWp.block ?_))
   refine AWp.mix mixed [0,1,2,3,4,5,6,7,8] .done (by kernel_rfl) ?_;simp only[go_sem,ga,gb]
   refine Sd ?_
   by_cases he:x1=y1∧x2=y2∧x3=y3
   ·obtain⟨rfl,rfl,rfl⟩:=he
    simp only[decide_true,Bool.and_true,Bool.not_true,go_sem]
    refine Wk ?_
    exact⟨_,List.Sublist.refl _,rfl,hJ2 rfl⟩
   ·have hd:(decide (x1=y1) && (decide (x2=y2) && decide (x3=y3)))=false:=by
     rw[← Bool.decide_and,← Bool.decide_and];exact decide_eq_false he
    have hB:=h0 (fun e=>by injection e with e1 e2;injection e2 with e2 e3;exact he ⟨e1,e2,e3⟩)
    subst hB
    refine W1 hd ?_
    refine ret_eq ?_;simp only[go_sem]
  ·refine Wk ?_
   refine ret_eq ?_;simp only[go_sem]
   rw[h1 fun j hj=>hJ j hj (by omega)]
 ·have hli:¬(a.length:Int)=b.length:=by omega
  have hd:decide (a=b)=false:=decide_eq_false fun e=>hl (by rw[e])
  rw[hd]
  unfold aSps
  refine PC.enter 26 [.tmp 4] [] Proofs.Tryz.func18 rfl rfl rfl rfl rfl (by simp) (AWp.of ?_);simp only[go_sem]
  refine W1 hli ?_
  refine ret_eq ?_;simp only[go_sem]
theorem AppSt.ownSt {st:List Stp} {v:AV} {L:AHeap} (h:AppSt 54 3 (st.map aStp) v L):Own v∧∀x ∈ L,OwnB x.2:=h.own fun y hy=>by
 obtain⟨s,_,rfl⟩:=List.mem_map.1 hy
 refine⟨Own.agg fun z hz => ?_,fun c hc => ?_⟩
 ·simp only[List.mem_cons,List.not_mem_nil,or_false] at hz
  rcases hz with rfl|rfl|rfl <;> exact Own.v _
 ·simp only[aStp,AV.cells,List.mem_cons,List.not_mem_nil,or_false] at hc
  rcases hc with rfl|rfl|rfl <;> exact Own.v _
theorem Own.tup2 {a b:AV} (h1:Own a) (h2:Own b):Own (.tup [a,b]):=Own.tup fun y hy=>by
 simp only[List.mem_cons,List.not_mem_nil,or_false] at hy
 rcases hy with rfl|rfl
 ·exact h1
 ·exact h2
theorem law37_awake:PC Proofs.Tryz.prog 4 [] (ab true):=by
 have hz:∀ts:List Pd,ts=tsC∨ts=tsD→∀t ∈ ts,szF t≤1000000:=fun ts h t ht=>by
  rcases h with rfl|rfl <;> simp only[tsC,tsD,List.mem_cons,List.not_mem_nil,or_false] at ht <;> rcases ht with rfl|rfl <;> decide
 have h1:=conj_PossiblyK psC psC_sm tsC (hz _ (.inl rfl)) (by decide) (fun r L=>∃v,AppSt 54 3 (([(0,0,0),(1,0,1),(0,1,3)]:List Stp).map aStp) v L∧r = .tup [.agg [ai 1,ab false,ai 4,anil,anil,anil,v,ai 0],ai 0])
  (fun _ _ v Lq hA=>⟨v,by rw[run_C.1] at hA;exact hA,rfl⟩) (fun _ h=>by rw[run_C.2.2] at h;cases h) (fun h=>absurd conF_C h)
 obtain⟨fin,r1,r2,r3,r4,r5⟩:=run_D
 have h2:=conj_PossiblyK psC psC_sm tsD (hz _ (.inr rfl)) (by decide) (fun r L=>∃b,r = .tup [.agg [ai 1,ab true,ai 1,.ls b 1 0 2 2,anil,anil,anil,ai 0],ai 0]∧L=[(b,.row 3 1 [ai 1,ai 0] 2)])
  (fun _ h=>by rw[r3] at h;cases h) (fun _ _ b=>⟨b,rfl,by
   rw[r2]
   show [(b,ABlk.row 3 1 [ai (fin 0),ai (fin 1)] 2)]=_
   rw[r4,r5];rfl⟩) (fun h=>absurd conF_D h)
 have hT:aTr psC = .agg [.sl 3 (psC.map aPr)]:=rfl
 have hx:=law37_example
 rw[hT] at h1 h2 hx
 generalize psC.map aPr=T at *
 have hP:tsC.map aPd=[aPd (oneT 0 ⟨#[120]⟩),aPd (oneT 1 ⟨#[121]⟩)]:=rfl
 have hD:tsD.map aPd=[aPd (oneT 0 ⟨#[120]⟩),.agg [ai 13,ai 0,ai 0,ai 0,astr ByteArray.empty,.sl 6 []]]:=by
  show [aPd (oneT 0 ⟨#[120]⟩),aPd (.mk 13 0 0 0 ByteArray.empty [])]=_
  rw[aPd_mk];rfl
 rw[hP] at h1 hx
 rw[hD] at h2
 clear hP hD
 generalize aPd (oneT 0 ⟨#[120]⟩)=P0 at *
 have hk1:∃l,aPd (oneT 1 ⟨#[121]⟩) = .agg [ai 9,ai 0,ai 0,ai 0,astr ByteArray.empty,.sl 6 l]:=⟨_,aPd_mk _ _ _ _ _ _⟩
 obtain⟨l1,hk1⟩:=hk1
 rw[hk1] at h1 hx
 have hs1:=ref37_SameSpans [(0,0,0),(1,0,1),(0,1,3)] [(0,0,0),(1,0,1),(0,1,3)] (by decide) (by decide)
 have hi1:=ints_equal [1,0] [1,0] (by decide)
 rw[decide_eq_true rfl] at hs1 hi1
 refine PC.enter 59 [.tmp 0] [1,3,5,34,56] Proofs.Tryz.func4 rfl rfl rfl rfl rfl (by simp) (AWp.of ?_);simp only[go_sem]
 refine Wk ?_
 refine hx.val.mono ?_
 rintro r L ⟨b,rfl,rfl⟩
 simp only[go_sem]
 intro b1 g1
 refine Wk ?_
 refine(MCalls.viewed (Vws.cons (.refl _) (Vws.cons (Vw.ofLs (t:=44) (xs:=[P0,.agg [ai 9,ai 0,ai 0,ai 0,astr ByteArray.empty,.sl 6 l1]]) (cap:=2) (by simp only[lk,if_true]) rfl) .nil)) h1 ?_).val.mono ?_
 ·rintro r L1 ⟨v,hA,rfl⟩
  refine⟨Own.tup2 (Own.agg fun y hy => ?_) (Own.v _),hA.ownSt.2⟩
  simp only[List.mem_cons,List.not_mem_nil,or_false] at hy
  rcases hy with rfl|rfl|rfl|rfl|rfl|rfl|rfl|rfl
  all_goals first|exact Own.v _|exact hA.ownSt.1
 rintro r L ⟨L1,rfl,v,hA,rfl⟩
 rcases hA.inv with ⟨e1,_,_⟩|⟨bq,cap,rfl,rfl⟩
 ·cases e1
 simp only[go_sem,List.cons_append,List.nil_append]
 intro b3 g3 g4
 refine AWp.view [true,false] [(3,.rp 8 [.agg [ai 1,ab false,ai 4,anil,anil,anil,aSps [(0,0,0),(1,0,1),(0,1,3)],ai 0]] 0 0)] (LVw.refl _) ?_ ?_
 ·intro p hp
  simp only[List.mem_singleton] at hp
  subst hp
  simp only[go_sem]
  refine Vw.mkRp (Vws.cons (.mkAgg ?_) .nil)
  refine Vws.cons (.refl _) (Vws.cons (.refl _) (Vws.cons (.refl _) (Vws.cons (.refl _) (Vws.cons (.refl _) (Vws.cons (.refl _) (Vws.cons ?_ (.refl _)))))))
  exact Vw.ofLs (t:=54) (cap:=cap) (by first|(simp only[lk,if_true];done)|(simp only[lk,if_true];rfl)) rfl
 have hsp:aSps [(0,0,0),(1,0,1),(0,1,3)] = .sl 3 [aSp (0,0,0),aSp (1,0,1),aSp (0,1,3)]:=rfl
 rw[hsp] at hs1 ⊢
 have hq1:aSp (0,0,0) = .agg [ai 0,ai 0,ai 0]:=rfl
 have hq2:aSp (1,0,1) = .agg [ai 1,ai 0,ai 1]:=rfl
 have hq3:aSp (0,1,3) = .agg [ai 0,ai 1,ai 3]:=rfl
 rw[hq1,hq2,hq3] at hs1 ⊢
 simp only[pickF,go_sem]
 refine Wk ?_
 refine Sd ?_
 refine Gc hs1 ?_
 refine Sd ?_
 refine Wk ?_
 refine(MCalls.viewed (Vws.cons (.refl _) (Vws.cons (.ls (t:=44) (xs:=[P0,.agg [ai 13,ai 0,ai 0,ai 0,.v (.string { data:=#[] }),anil]]) (cap:=2) (by simp only[lk,if_true]) (by simp) (by simp) fun i x y hx hy => ?_) .nil)) h2 ?_).val.mono ?_
 ·rcases i with _|_|i
  ·cases hx;cases hy;exact .refl _
  ·cases hx;cases hy
   exact .mkAgg (Vws.cons (.refl _) (Vws.cons (.refl _) (Vws.cons (.refl _) (Vws.cons (.refl _) (Vws.cons (.refl _) (Vws.cons (.nil 6) .nil))))))
  ·cases hy
 ·rintro r L1 ⟨b',rfl,rfl⟩
  refine⟨Own.tup2 (Own.agg fun y hy => ?_) (Own.v _),fun x hx => ?_⟩
  ·simp only[List.mem_cons,List.not_mem_nil,or_false] at hy
   rcases hy with rfl|rfl|rfl|rfl|rfl|rfl|rfl|rfl
   all_goals first|exact Own.v _|exact Own.ls _ _ _ _ _
  ·simp only[List.mem_singleton] at hx
   subst hx
   exact own_ints [1,0]
 rintro r L ⟨L1,rfl,bc,rfl,rfl⟩
 simp only[go_sem,List.cons_append,List.nil_append]
 intro b5 g5 g6
 refine AWp.view [true,false] [(5,.rp 8 [.agg [ai 1,ab true,ai 1,aInts [1,0],anil,anil,anil,ai 0]] 0 0)] (LVw.refl _) ?_ ?_
 ·intro p hp
  simp only[List.mem_singleton] at hp
  subst hp
  simp only[go_sem]
  refine Vw.mkRp (Vws.cons (.mkAgg ?_) .nil)
  refine Vws.cons (.refl _) (Vws.cons (.refl _) (Vws.cons (.refl _) (Vws.cons ?_ (.refl _))))
  exact Vw.ofLs (t:=3) (cap:=2) (by first|(simp only[lk,if_true];done)|(simp only[pickT,lk,if_true];rfl)) rfl
 simp only[pickF,go_sem]
 refine Wk ?_
 refine Sd ?_
 refine Gc hi1 ?_
 refine Sd ?_
 refine Wk ?_
 refine ret_eq ?_;simp only[go_sem]
section
variable {b:Nat→Bool} {p:Nat}
end
mutual
def hugeF:Pd→Int→Int→Int
 | .mk _ _ _ _ _ l,d,c=>hugeL l (d+1) (if 40<d then 1000 else c+1)
def hugeL:List Pd→Int→Int→Int
 | [],_,c=>c
 | x :: r,d,c=>if c≤300 then hugeL r d (hugeF x d c) else c
end
theorem hugeL_nil (d c:Int):hugeL [] d c=c:=by rw[hugeL]
theorem hugeL_cons (x:Pd) (r:List Pd) (d c:Int):hugeL (x :: r) d c=if c≤300 then hugeL r d (hugeF x d c) else c:=by rw[hugeL]
theorem hugeF_spec (t:Pd):∀d c:Int,0≤c→c≤300→c+1≤hugeF t d c∧hugeF t d c≤1000∧(hugeF t d c≤300→(c+szF t:Int)≤hugeF t d c):=by
 induction t using Pd.ind with
 | _ k n p q s l ih =>
 intro d c h0 h1
 rw[hugeF,szF]
 have hl:∀l':List Pd,(∀x ∈ l',x ∈ l)→∀c:Int,0≤c→c≤1000→c≤hugeL l' (d+1) c∧hugeL l' (d+1) c≤1000∧(hugeL l' (d+1) c≤300→(c+szL l':Int)≤hugeL l' (d+1) c):=by
  intro l'
  induction l' with
  | nil=>intro _ c h0 h1;rw[hugeL,szL];exact⟨by omega,h1,fun _=>by omega⟩
  | cons x r ihr =>
   intro hm c h0 h1
   rw[hugeL,szL]
   by_cases hc:c≤300
   ·rw[if_pos hc]
    obtain⟨a1,a2,a3⟩:=ih x (hm x List.mem_cons_self) (d+1) c h0 hc
    obtain⟨b1,b2,b3⟩:=ihr (fun y hy=>hm y (List.mem_cons_of_mem _ hy)) (hugeF x (d+1) c) (by omega) a2
    exact⟨by omega,b2,fun h=>by have:=b3 h;have:=a3 (by omega);omega⟩
   ·rw[if_neg hc]
    exact⟨by omega,h1,fun h=>absurd h hc⟩
 split
 ·obtain⟨b1,b2,b3⟩:=hl l (fun _ h=>h) 1000 (by decide) (by decide)
  exact⟨by omega,b2,fun h=>by omega⟩
 ·obtain⟨b1,b2,b3⟩:=hl l (fun _ h=>h) (c+1) (by omega) (by omega)
  exact⟨by omega,b2,fun h=>by have:=b3 h;omega⟩
theorem hugeL_take {l:List Pd} {d c:Int} : ∀ {i:Nat} (hi:i<l.length),hugeL (l.take (i+1)) d c=if hugeL (l.take i) d c≤300 then hugeF l[i] d (hugeL (l.take i) d c) else hugeL (l.take i) d c:=by
 induction l generalizing c with
 | nil=>intro i hi;simp at hi
 | cons x r ih =>
  intro i hi
  cases i with
  | zero =>
   simp only[List.take_succ_cons,List.take_zero,List.getElem_cons_zero,hugeL_cons,hugeL_nil]
  | succ i =>
   simp only[List.take_succ_cons,List.getElem_cons_succ]
   simp only[hugeL_cons]
   by_cases h:c≤300
   ·rw[if_pos h,if_pos h];exact ih (by simpa using hi)
   ·rw[if_neg h,if_neg h,if_neg h]
theorem hugeL_full {l:List Pd} {d c:Int} {i:Nat} (h:¬hugeL (l.take i) d c≤300):hugeL l d c=hugeL (l.take i) d c:=by
 induction l generalizing c i with
 | nil=>rw[List.take_nil]
 | cons x r ih =>
  cases i with
  | zero =>
   have e0:hugeL [] d c=c:=by rw[hugeL]
   rw[List.take_zero,e0] at h
   rw[List.take_zero,e0,hugeL,if_neg h]
  | succ i =>
   rw[List.take_succ_cons,hugeL] at *
   rw[hugeL]
   by_cases hc:c≤300
   ·rw[if_pos hc] at h ⊢;rw[if_pos hc];exact ih h
   ·rw[if_neg hc,if_neg hc]
theorem not_huge {t:Pd} (h:¬300<hugeF t 0 0):szF t≤300:=by
 have:=(hugeF_spec t 0 0 (by decide) (by decide)).2.2 (by omega)
 omega
end Go.AL
end
