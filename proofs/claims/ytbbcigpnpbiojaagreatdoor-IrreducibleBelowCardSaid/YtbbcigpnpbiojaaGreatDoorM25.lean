/- Texts of this claim's proof: WK8, WK13, WK14, WK15, WZ2, WZ3, WZ4, AlWrn, WZ5, WJ1, WZ8, WJ2, WJ3, WJ4, WJ5, WZ6, WZ7, WY30, WZ13, WVec, WVec2, WPk2, WJ6. No condition. -/
import Derived.Test.YtbbcigpnpbiojaaGreatDoorM9
import Derived.Test.YtbbcigpnpbiojaaGreatDoorM10
import Derived.Test.YtbbcigpnpbiojaaGreatDoorM24
import Derived.Test.YtbbcigpnpbiojaaGreatDoorM23
import Derived.Test.YtbbcigpnpbiojaaGreatDoorM16
import Derived.Test.YtbbcigpnpbiojaaGreatDoorM12
import Derived.Test.YtbbcigpnpbiojaaGreatDoorM7
import Derived.Test.YtbbcigpnpbiojaaGreatDoorM5
import Derived.Test.YtbbcigpnpbiojaaGreatDoorM8
section
namespace Go.AL
open Go Go.RowKit Go.Sort Go.Proofs
set_option maxRecDepth 4000
def cmpC (a b:List Int):Int:=if a.sum - b.sum=0 then cmpL a b else a.sum - b.sum
theorem cmpC_irr (a:List Int):cmpC a a=0:=by unfold cmpC;rw[if_pos (by omega)];exact cmpL_irr a
theorem cmpC_anti (a b:List Int) (h1:¬cmpC a b<0) (h2:¬cmpC b a<0):a=b:=by
 unfold cmpC at *
 by_cases e:a.sum - b.sum=0
 ·rw[if_pos e] at h1
  rw[if_pos (by omega)] at h2
  exact cmpL_anti a b h1 h2
 ·rw[if_neg e] at h1
  rw[if_neg (by omega)] at h2
  omega
theorem swoC:SWO (ltOf cmpC) where
 irrefl x:=by simp [ltOf,cmpC_irr]
 trans x y z h1 h2:=by
  simp only[ltOf,decide_eq_true_eq] at *
  unfold cmpC at *
  by_cases e1:x.sum - y.sum=0
  ·rw[if_pos e1] at h1
   by_cases e2:y.sum - z.sum=0
   ·rw[if_pos e2] at h2
    rw[if_pos (by omega)]
    exact cmpL_trans x y z h1 h2
   ·rw[if_neg e2] at h2
    rw[if_neg (by omega)]
    omega
  ·rw[if_neg e1] at h1
   by_cases e2:y.sum - z.sum=0
   ·rw[if_pos e2] at h2
    rw[if_neg (by omega)]
    omega
   ·rw[if_neg e2] at h2
    rw[if_neg (by omega)]
    omega
 ntrans x y z h1 h2:=by
  simp only[ltOf,decide_eq_false_iff_not] at *
  unfold cmpC at *
  by_cases e1:x.sum - y.sum=0
  ·rw[if_pos e1] at h1
   by_cases e2:y.sum - z.sum=0
   ·rw[if_pos e2] at h2
    rw[if_pos (by omega)]
    exact cmpL_ntrans x y z h1 h2
   ·rw[if_neg e2] at h2
    rw[if_neg (by omega)]
    omega
  ·rw[if_neg e1] at h1
   by_cases e2:y.sum - z.sum=0
   ·rw[if_pos e2] at h2
    rw[if_neg (by omega)]
    omega
   ·rw[if_neg e2] at h2
    rw[if_neg (by omega)]
    omega
def CntOk (c:List Int):Prop:=c.length≤1000∧∀z ∈ c,0≤z∧z≤1000000
theorem cnt_sum {c:List Int} (h:∀z ∈ c,0≤z∧z≤1000000):0≤c.sum∧c.sum≤1000000 * c.length:=by
 induction c with
 | nil=>simp
 | cons x c ih =>
  have:=ih fun z hz=>h z (List.mem_cons_of_mem _ hz)
  have:=h x (by simp)
  rw[List.sum_cons,List.length_cons]
  omega
theorem irr_size (c:List Int) (h:CntOk c):PC Proofs.Tryz.prog 98 [aInts c] (ai c.sum):=by
 obtain⟨hl,hc⟩:=h
 have hst:∀i (hi:i<c.length),(c.take (i+1)).sum=(c.take i).sum+c[i]∧0≤(c.take i).sum∧(c.take i).sum≤1000000000∧0≤c[i]∧c[i]≤1000000:=fun i hi=>by
  have h1:=cnt_sum (c:=c.take i) fun z hz=>hc z (List.mem_of_mem_take hz)
  have h2:=hc _ (List.getElem_mem hi)
  rw[List.length_take] at h1
  refine⟨?_,by omega,by omega,h2.1,h2.2⟩
  rw[List.take_succ_eq_append_getElem hi,List.sum_append]
  simp
 refine PC.enter 17 [.tmp 2] [] Proofs.Tryz.func98 rfl rfl rfl rfl rfl (by simp) (AWp.of ?_);simp only[go_sem]
 refine Wk ?_
 refine AWp.range' c.length [3] [6,7] (fun i vs L=>vs=[ai (c.take i).sum]∧L=[]) (by omega) rfl rfl rfl ⟨rfl,rfl⟩ ?_ ?_
 ·rintro i vs L hil - ⟨rfl,rfl⟩
  have hgi:=getD_map (f:=ai) hil
  obtain⟨e1,e2,e3,e4,e5⟩:=hst i hil
  rw[e1]
  generalize (c.take i).sum=S at *
  simp only[go_sem]
  refine W1 hgi ?_
  exact⟨_,List.Sublist.refl _,rfl⟩
 ·rintro vs L - ⟨rfl,rfl⟩
  simp only[go_sem]
  refine Wk ?_
  refine ret_eq ?_;simp only[go_sem]
theorem irr_compare (a b:List Int) (ha:CntOk a) (hb:CntOk b):PC Proofs.Tryz.prog 50 [aInts a,aInts b] (ai (cmpC a b)):=by
 have h1:=irr_size a ha
 have h2:=irr_size b hb
 have h3:=ints_compare a b (by have:=ha.1;omega)
 have b1:=cnt_sum ha.2
 have b2:=cnt_sum hb.2
 have l1:=ha.1
 have l2:=hb.1
 unfold cmpC
 generalize a.sum=A at *
 generalize b.sum=B at *
 have hA:aInts a = .sl 1 (a.map ai):=rfl
 have hB:aInts b = .sl 1 (b.map ai):=rfl
 rw[hA,hB] at *
 refine PC.enter 17 [.tmp 4] [] Proofs.Tryz.func50 rfl rfl rfl rfl rfl (by simp) (AWp.of ?_);simp only[go_sem]
 refine Wk ?_
 refine Sd ?_
 refine(h1).val.use ?_;simp only[go_sem]
 refine Wk ?_
 refine Sd ?_
 refine(h2).val.use ?_;simp only[go_sem]
 refine Wk ?_
 refine⟨fun h => ?_,fun h => ?_⟩
 ·rw[if_neg h]
  refine Wk ?_
  refine ret_eq ?_;simp only[go_sem]
 ·rw[if_pos h]
  refine Wk ?_
  refine Sd ?_
  refine(h3).val.use ?_;simp only[go_sem]
  refine Wk ?_
  refine ret_eq ?_;simp only[go_sem]
theorem sort_cuts (b cap:Nat) (xs:List (List Int)) (hx:∀x ∈ xs,CntOk x) (hl:xs.length≤1000000000) (t:TypeId) :
  MCalls Proofs.Tryz.prog 49 [.ls b 1 0 xs.length cap,.v (.func (.func 50) #[] #[])] [(b,.row t 1 (xs.map aInts) cap)] fun r L'=>r = .tup []∧L'=[(b,.row t 1 ((sortBy cmpC xs).map aInts) cap)] :=
 sort_calls' sortRows aInts CntOk [] ⟨by simp,by simp⟩ (fun w A=>⟨.slice none 0 0,.sl0 _ _ _ (Nat.zero_le _)⟩) (fun x _=>rfl) cmpC swoC cmpC_anti (fun x y h h'=>irr_compare x y h h') b cap xs hx (by omega)
end Go.AL
end
section
namespace Go.AL
open Go Go.RowKit
set_option maxRecDepth 4000
def stpL (l0:List Int) (E:List (List Int)) (o:Option (List Int)):List (List Int):=match o with
 | some c=>if c=l0∨c ∈ E then E else E ++ [c]
 | none=>E
noncomputable def rowO (ps:List Pr) (T:List Int→Prop) (q m:Nat):List (Option (List Int)):=(List.range m).map fun i=>lstQ ps T (ptF ps q i)
noncomputable def upL (ps:List Pr) (T:List Int→Prop) (l0:List Int):Nat→List (List Int)
 | 0=>[]
 | p+1=>(rowO ps T p (nev ps p)).foldl (stpL l0) (upL ps T l0 p)
noncomputable def lisF (ps:List Pr) (T:List Int→Prop):List (List Int):=match lstQ ps T (List.replicate ps.length 0) with
 | some l0=>sortBy cmpC (upL ps T l0 ps.length)
 | none=>[]
theorem rowY_map (ps:List Pr) (T:List Int→Prop) (q m:Nat):rowY ps T q m=(rowO ps T q m).map aOpt:=by unfold rowY rowO;rw[List.map_map];rfl
theorem rowO_len (ps:List Pr) (T:List Int→Prop) (q m:Nat):(rowO ps T q m).length=m:=by unfold rowO;simp
theorem rowO_mem {ps:List Pr} {T:List Int→Prop} {q m:Nat} {c:List Int} (h:some c ∈ rowO ps T q m):isF ps c=true:=by
 unfold rowO at h
 obtain⟨i,_,e⟩:=List.mem_map.1 h
 exact(lsq_some e).is
theorem stpl_is {ps:List Pr} {l0:List Int} : ∀(l:List (Option (List Int))) (E:List (List Int)),(∀c,some c ∈ l→isF ps c=true)→(∀c ∈ E,isF ps c=true)→∀c ∈ l.foldl (stpL l0) E,isF ps c=true
 | [],E,_,hE,c,hc=>hE c hc
 | o :: l,E,hl,hE,c,hc=>by
  rw[List.foldl_cons] at hc
  refine stpl_is l (stpL l0 E o) (fun d hd=>hl d (List.mem_cons_of_mem _ hd)) (fun d hd => ?_) c hc
  unfold stpL at hd
  split at hd
  ·rename_i d'
   split at hd
   ·exact hE d hd
   ·rcases List.mem_append.1 hd with hd|hd
    ·exact hE d hd
    ·rw[List.mem_singleton.1 hd];exact hl d' (by simp)
  ·exact hE d hd
theorem up_is {ps:List Pr} {T:List Int→Prop} {l0:List Int} : ∀p,∀c ∈ upL ps T l0 p,isF ps c=true
 | 0,c,hc=>by cases hc
 | p+1,c,hc=>stpl_is _ _ (fun d hd=>rowO_mem hd) (up_is p) c hc
theorem stpl_len {l0:List Int} : ∀(l:List (Option (List Int))) (E:List (List Int)),(l.foldl (stpL l0) E).length≤E.length+l.length
 | [],E=>by simp
 | o :: l,E=>by
  rw[List.foldl_cons,List.length_cons]
  have:=stpl_len (l0:=l0) l (stpL l0 E o)
  have h2:(stpL l0 E o).length≤E.length+1:=by
   unfold stpL
   split
   ·split
    ·omega
    ·simp
   ·omega
  omega
theorem up_len {ps:List Pr} {T:List Int→Prop} {l0:List Int} : ∀p,p≤ps.length→(upL ps T l0 p).length≤off ps p
 | 0,_=>by simp [upL]
 | p+1,hp=>by
  rw[upL]
  have:=stpl_len (l0:=l0) (rowO ps T p (nev ps p)) (upL ps T l0 p)
  rw[rowO_len] at this
  have h2:=up_len (ps:=ps) (T:=T) (l0:=l0) p (by omega)
  have h3:=off_succ (ps:=ps) (p:=p) (by omega)
  have h4:=nev_get (ps:=ps) (p:=p) (by omega)
  omega
theorem cut_cnt {ps:List Pr} (hs:Sm ps) (hv:validF ps=true) {c:List Int} (hc:isF ps c=true):CntOk c:=by
 obtain⟨h1,h2,_⟩:=isF_iff.1 hc
 have h8:=(valid_len hv).2
 refine⟨by omega,fun z hz => ?_⟩
 obtain⟨i,hi,rfl⟩:=List.getElem_of_mem hz
 obtain⟨b1,b2⟩:=inRangeF_get h2 h1 (show i<ps.length by omega)
 have:=hs.evs _ (List.getElem_mem (show i<ps.length by omega))
 omega
set_option maxHeartbeats 4000000 in
theorem irr_list (ps:List Pr) (hs:Sm ps) (hv:validF ps=true) (T:List Int→Prop) (ts:List Pd) (hfr:∀c,isF ps c=true→PC Proofs.Tryz.prog 22 [aSr ps ts,aInts c] (aOpt (lstQ ps T c))) :
  PC Proofs.Tryz.prog 26 [aSr ps ts] (aRows (lisF ps T)):=by
 have h8:=valid_len hv
 have htab:=irr_table ps hs hv T ts hfr
 have h0:=hfr _ (isF_zero (ps:=ps))
 have hofs:=off_small hs ps.length (Nat.le_refl _)
 have hz:aInts (List.replicate ps.length 0) = .sl 1 (List.replicate ps.length (ai 0)):=by show AV.sl 1 ((List.replicate ps.length 0).map ai)=_;rw[List.map_replicate]
 rw[hz] at h0
 unfold lisF
 have hS:aSr ps ts = .agg [.sl 3 (ps.map aPr),.sl 7 (ts.map aPt)]:=rfl
 rw[hS] at h0 htab ⊢
 generalize ts.map aPt=PP at *
 clear hfr hz hS
 have hl0:∀c,lstQ ps T (List.replicate ps.length 0)=some c→isF ps c=true:=fun c h=>(lsq_some h).is
 generalize lstQ ps T (List.replicate ps.length 0)=R at *
 cases R with
 | none =>
  refine PC.enter 59 [.tmp 2] [1,15,52] Proofs.Tryz.func26 rfl rfl rfl rfl rfl (by simp) (AWp.of ?_);simp only[go_sem]
  refine Wk ?_
  repeat(first|(with_reducible refine AWp.seq ?_)|(with_reducible refine AWp.block ?_))
  refine AWp.mix mixed [0,1,2,3,4,5,6,7] .done (by kernel_rfl) ?_;simp only[go_sem]
  refine Sd ?_
  have h0:PC _ _ _ anil:=h0
  have h00:((0:Nat):Int)=0:=rfl
  refine Sd ?_
  refine Gc h0 ?_
  refine Sd ?_
  refine W1 h00 ?_
  refine ret_view [] ?_;simp only[go_sem]
  exact .nil 1
 | some l0 =>
  have hc0:=hl0 l0 rfl
  have hcl0:=(isF_iff.1 hc0).1
  have h0:PC _ _ _ (.sl 1 (l0.map ai)):=h0
  have hk0:=irr_key l0 (by omega)
  have hC0:aInts l0 = .sl 1 (l0.map ai):=rfl
  rw[hC0] at hk0
  have hne0:¬((l0.length:Int)=0):=by omega
  have hft:=ky_fits (c:=l0) (by omega)
  have hpt:mput (kyV l0) (ab true) [] [] = .amap ([l0].map kyV) ([l0].map fun _=>ab true):=rfl
  obtain⟨X0,V0,hX0,hfs0,hkv0⟩:=ky_shape l0
  rw[hX0] at hk0
  have hTb:aLct ps T = .sl 1 ((List.range ps.length).map fun q => .sl 1 (rowY ps T q (nev ps q))):=rfl
  rw[hTb] at htab
  simp only[rowY_map] at htab
  refine PC.enter 59 [.tmp 2] [1,15,52] Proofs.Tryz.func26 rfl rfl rfl rfl rfl (by simp) (AWp.of ?_);simp only[go_sem]
  refine Wk ?_
  repeat(first|(with_reducible refine AWp.seq ?_)|(with_reducible refine AWp.block ?_))
  refine AWp.mix mixed [0,1,2,3,4,5,6,7] .done (by kernel_rfl) ?_;simp only[go_sem]
  refine Sd ?_
  refine Sd ?_
  refine Gc h0 ?_
  refine Sd ?_
  refine W1 hne0 ?_
  intro bm
  refine Sd ?_
  refine Sd ?_
  refine(hk0).val.use ?_;simp only[go_sem]
  have hfo0:∀X,fo (.agg X)=(True,.agg X):=fun _=>rfl
  simp only[go_sem,hfs0,hkv0,hft,hpt]
  refine Sd ?_
  refine W4 hfs0 hkv0 hft hpt ?_
  refine Sd ?_
  refine(htab).val.use ?_;simp only[go_sem,List.length_range]
  repeat(first|((with_reducible refine AWp.ofC ?_ ?_);exact rfl;simp only[go_sem,List.length_range])|((with_reducible refine an ?_ ?_);exact Au))
  refine AWp.range' ps.length [5] [4,25,26] (fun p vs L=>∃v Lv,vs=[v]∧L.Perm ((bm,.amap (kyV l0 :: (upL ps T l0 p).map kyV) (ab true :: (upL ps T l0 p).map fun _=>ab true)) :: Lv)∧AppSt 30 1 ((upL ps T l0 p).map aInts) v Lv∧∀x ∈ Lv,x.1 ≠ bm) (by omega) rfl rfl rfl ⟨anil,[],rfl,.refl _,.nil,by simp⟩ ?_ ?_
  ·rintro p vs L hp - ⟨v,Lv,rfl,hP,hA,hne⟩
   have hup:=up_is (ps:=ps) (T:=T) (l0:=l0) p
   have hul:=up_len (ps:=ps) (T:=T) (l0:=l0) p (by omega)
   have hof:=off_le hp
   have hnv:=nev_get hp
   have hrg:((List.range ps.length).map fun q=>AV.sl 1 ((rowO ps T q (nev ps q)).map aOpt)).getD p .any = .sl 1 ((rowO ps T p (nev ps p)).map aOpt):=by
    rw[map_range_getD hp]
   have hrl:=rowO_len ps T p (nev ps p)
   have hrm:=fun c (h:some c ∈ rowO ps T p (nev ps p))=>rowO_mem h
   have hnx:upL ps T l0 (p+1)=(rowO ps T p (nev ps p)).foldl (stpL l0) (upL ps T l0 p):=rfl
   rw[hnx]
   generalize rowO ps T p (nev ps p)=RO at *
   generalize upL ps T l0 p=E0 at *
   have hvo:=hA.fo
   simp only[go_sem]
   repeat(first|((with_reducible refine AWp.ofC ?_ ?_);exact rfl;simp only[go_sem,hrg,hvo,List.length_range])|((with_reducible refine an ?_ ?_);exact Au))
   refine AWp.range' RO.length [5] [4,25,26,27,31,32] (fun i vs L=>∃v Lv,vs=[v]∧L.Perm ((bm,.amap (kyV l0 :: ((RO.take i).foldl (stpL l0) E0).map kyV) (ab true :: ((RO.take i).foldl (stpL l0) E0).map fun _=>ab true)) :: Lv)∧AppSt 30 1 (((RO.take i).foldl (stpL l0) E0).map aInts) v Lv∧∀x ∈ Lv,x.1 ≠ bm) (by omega) rfl rfl rfl ⟨v,Lv,rfl,hP,hA,hne⟩ ?_ ?_
   ·clear hA hne hvo hP
    rintro i vs L hil - ⟨v,Lv,rfl,hP,hA,hne⟩
    refine AWp.perm hP ?_
    have hst:(RO.take (i+1)).foldl (stpL l0) E0=stpL l0 ((RO.take i).foldl (stpL l0) E0) RO[i]:=by rw[List.take_succ_eq_append_getElem hil,List.foldl_append];rfl
    have hEi:=stpl_is (l0:=l0) (RO.take i) E0 (fun c hc=>hrm c (List.mem_of_mem_take hc)) hup
    have hEl:=stpl_len (l0:=l0) (RO.take i) E0
    rw[List.length_take] at hEl
    have hgi:=getD_map (f:=aOpt) hil
    have hmo:=hrm
    rw[hst]
    generalize (RO.take i).foldl (stpL l0) E0=E at *
    have hvo:=hA.fo
    have hEn:∀d ∈ l0 :: E,d.length=ps.length:=fun d hd=>by
     rcases List.mem_cons.1 hd with rfl|hd
     ·exact hcl0
     ·exact(isF_iff.1 (hEi d hd)).1
    have hro:=List.getElem_mem hil
    generalize RO[i]=o at *
    cases o with
    | none =>
     have hgi:(RO.map aOpt).getD i .any=anil:=hgi
     have h00:((0:Nat):Int)=0:=rfl
     show AWp _ _ _ _ _
     have hE':stpL l0 E none=E:=rfl
     rw[hE']
     simp only[go_sem]
     refine W3 hgi hvo h00 ?_
     have hg0:=mget_ky l0 (by omega) (l0 :: E) (fun d hd=>by rw[hEn d hd,hcl0])
     simp only[List.map_cons] at hg0
     have hlt:¬(0:Int)<0:=by omega
     refine GCall.use (.agg X0) (fun h=>absurd h (by omega)) ?_
     simp only[go_sem,hfs0,hkv0,hft,hg0,hvo,hlt]
     refine W1 hvo ?_
     exact⟨_,List.Sublist.refl _,v,Lv,rfl,.refl _,hA,hne⟩
    | some c =>
     have hc:=hrm c hro
     have hcl:=(isF_iff.1 hc).1
     have hkc:=irr_key c (by omega)
     have hCc:aInts c = .sl 1 (c.map ai):=rfl
     rw[hCc] at hkc
     obtain⟨Xc,Vc,hXc,hfsc,hkvc⟩:=ky_shape c
     rw[hXc] at hkc
     have hftc:=ky_fits (c:=c) (by omega)
     have hgi:(RO.map aOpt).getD i .any = .sl 1 (c.map ai):=hgi
     have hpos:(0:Int)<c.length:=by omega
     have hgm:=mget_ky c (by omega) (l0 :: E) (fun d hd=>by rw[hEn d hd,hcl])
     have hfE:(E.map kyV).all (KK.st [.int,.int,.int,.int,.int,.int,.int,.int]).fits=true:=by
      rw[List.all_eq_true]
      intro z hz
      obtain⟨d,hd,rfl⟩:=List.mem_map.1 hz
      exact ky_fits (by rw[hEn d (List.mem_cons_of_mem _ hd)];omega)
     by_cases hm:c ∈ l0 :: E
     ·have hE':stpL l0 E (some c)=E:=by
       show (if c=l0∨c ∈ E then E else E ++ [c])=E
       rw[if_pos (List.mem_cons.1 hm)]
      rw[hE']
      rw[decide_eq_true hm] at hgm
      simp only[List.map_cons] at hgm
      simp only[go_sem]
      refine W3 hgi hvo hpos ?_
      refine Sd ?_
      refine GCall.use (.agg Xc) (fun _=>⟨At,(hkc).val.use ⟨rfl,rfl⟩⟩) ?_;simp only[go_sem,hfsc,hkvc,hftc,hgm,hft,hfE]
      refine Sd ?_
      refine W1 hvo ?_
      exact⟨_,List.Sublist.refl _,v,Lv,rfl,.refl _,hA,hne⟩
     ·have hE':stpL l0 E (some c)=E ++ [c]:=by
       show (if c=l0∨c ∈ E then E else E ++ [c])=_
       rw[if_neg (fun h=>hm (List.mem_cons.2 h))]
      rw[hE']
      rw[decide_eq_false hm] at hgm
      have hpt:=mput_ky c (by omega) (l0 :: E) (fun d hd=>by rw[hEn d hd,hcl]) hm
      simp only[List.map_cons,List.cons_append] at hgm hpt
      simp only[go_sem]
      refine W3 hgi hvo hpos ?_
      refine Sd ?_
      refine GCall.use (.agg Xc) (fun _=>⟨At,(hkc).val.use ⟨rfl,rfl⟩⟩) ?_;simp only[go_sem,hfsc,hkvc,hftc,hgm,hft,hfE]
      refine Sd ?_
      refine W5 hvo hfsc hkvc hftc hgm ?_
      refine Sd ?_
      refine(hkc).val.use ?_;simp only[go_sem,hfsc,hkvc,hftc,hgm,hpt,hft,hfE]
      refine Sd ?_
      have hAl:(E.map aInts).length≤1000000000:=by rw[List.length_map];omega
      have hmp:(E ++ [c]).map aInts=E.map aInts ++ [.sl 1 (c.map ai)]:=by rw[List.map_append];rfl
      rw[hmp]
      generalize E.map aInts=ys at *
      rcases hA.inv with ⟨e1,rfl,rfl⟩|⟨b,cap,rfl,rfl⟩
      ·refine Wk ?_
       intro b' cap' g8
       intros
       have m1:¬b'=bm:=by omega
       have m2:¬bm=b':=by omega
       refine W2 m1 m2 ?_
       refine⟨_,List.Sublist.refl _,_,[(b',_)],rfl,List.Perm.swap _ _ _,by rw[e1];exact .row b' [_] cap',?_⟩
       intro x hx
       obtain rfl:=List.mem_singleton.1 hx
       exact m1
      ·have m3:¬b=bm:=hne (b,_) List.mem_cons_self
       have m4:¬bm=b:=fun e=>m3 e.symm
       refine W2 m3 m4 ?_
       intro b' cap' g7 g8
       intros
       refine⟨_,List.Sublist.refl _,_,[(b',_)],rfl,List.Perm.swap _ _ _,AppSt.snoc _ _ _ rfl,?_⟩
       intro x hx
       obtain rfl:=List.mem_singleton.1 hx
       first|exact g8|omega
   ·rintro vs L - ⟨v,Lv,rfl,hP,hA,hne⟩
    rw[List.take_length] at hA hP
    simp only[go_sem]
    repeat(first|((with_reducible refine AWp.ofC ?_ ?_);exact rfl;simp only[go_sem,hA.fo])|((with_reducible refine an ?_ ?_);exact Au))
    exact⟨_,List.Sublist.refl _,v,Lv,rfl,hP,hA,hne⟩
  ·rintro vs L - ⟨v,Lv,rfl,hP,hA,hne⟩
   have hup:=up_is (ps:=ps) (T:=T) (l0:=l0) ps.length
   have hul:=up_len (ps:=ps) (T:=T) (l0:=l0) ps.length (Nat.le_refl _)
   have hcn:=fun c hc=>cut_cnt hs hv (hup c hc)
   clear hup
   generalize upL ps T l0 ps.length=E at *
   refine AWp.perm hP ?_
   rcases hA.inv with ⟨e1,rfl,rfl⟩|⟨b,cap,rfl,rfl⟩
   ·have hE:E=[]:=by simpa using e1
    have hsE:sortBy cmpC ([]:List (List Int))=[]:=List.perm_nil.1 (sortBy_perm cmpC [])
    rw[hE,hsE]
    simp only[go_sem]
    refine Wk ?_
    refine Sd ?_
    refine(sort_nil 50).val.use ?_;simp only[go_sem]
    refine Wk ?_
    refine ret_view [false] ?_;simp only[go_sem]
    exact .nil 1
   ·have m3:¬b=bm:=hne (b,_) List.mem_cons_self
    have m4:¬bm=b:=fun e=>m3 e.symm
    refine AWp.perm (List.Perm.swap _ _ _) ?_
    have hsl:(sortBy cmpC E).length=E.length:=(sortBy_perm cmpC E).length_eq
    have hso:=sort_cuts b cap E hcn (by omega) 30
    rw[List.length_map]
    simp only[go_sem]
    refine W2 m3 m4 ?_
    refine(MVal.frame (Lm:=[(b,_)]) (Lr:=_) hso.val).mono ?_
    rintro r L ⟨L1,rfl,rfl,rfl⟩
    simp only[go_sem,m3,m4]
    refine W2 m3 m4 ?_
    refine ret_view [true,false] ?_;simp only[go_sem,m3,m4]
    exact Vw.ofLs (if_pos rfl) (by rw[List.length_map,hsl])
noncomputable def mdE (ps:List Pr) (t:Pd) (cl:Int):Int:=if checkF ps t ≠ 0 then checkF ps t else madE t cl
noncomputable def lirF (ps:List Pr) (t:Pd):List (List Int):=if mdE ps t 32=0 then lisF ps (TruP ps t) else []
set_option maxHeartbeats 2000000 in
theorem irr_List (ps:List Pr) (hs:Sm ps) (t:Pd) (hz:szF t≤1000000):PC Proofs.Tryz.prog 10 [aTr ps,aPd t] (.tup [aRows (lirF ps t),ai (mdE ps t 32)]):=by
 have h1:=predtype_Check ps hs t hz
 have hTr:aTr ps = .agg [.sl 3 (ps.map aPr)]:=rfl
 by_cases hck:checkF ps t=0
 rotate_left
 ·have e:mdE ps t 32=checkF ps t:=by unfold mdE;rw[if_pos hck]
  have e2:aRows (lirF ps t) = .sl 1 []:=by unfold lirF;rw[if_neg (by rw[e];exact hck)];try rfl
  rw[e,e2]
  generalize checkF ps t=E at *
  obtain⟨k,n,p,q,s,X,hT⟩:=aPd_shape t
  rw[hT,hTr] at h1 ⊢
  refine PC.enter 26 [.tmp 4,.tmp 5] [2,3,7] Proofs.Tryz.func10 rfl rfl rfl rfl rfl (by simp) (AWp.of ?_);simp only[go_sem]
  refine Wk ?_
  refine Sd ?_
  refine(h1).val.use ?_;simp only[go_sem]
  refine W1 hck ?_
  refine ret_view [] ?_;simp only[go_sem]
  exact .mkTup (Vws.cons (.nil 1) (Vws.refl _))
 rw[hck] at h1
 have h3:=irr_made ps hs t hz hck 32 (by decide)
 have eM:mdE ps t 32=madE t 32:=by unfold mdE;rw[if_neg (fun h=>h hck)]
 by_cases hm:madE t 32=0
 rotate_left
 ·have e2:aRows (lirF ps t) = .sl 1 []:=by unfold lirF;rw[if_neg (by rw[eM];exact hm)];try rfl
  rw[if_neg hm] at h3
  rw[eM,e2]
  generalize madE t 32=E at *
  obtain⟨k,n,p,q,s,X,hT⟩:=aPd_shape t
  rw[hT,hTr] at h1 h3
  rw[hT,hTr]
  refine PC.enter 26 [.tmp 4,.tmp 5] [2,3,7] Proofs.Tryz.func10 rfl rfl rfl rfl rfl (by simp) (AWp.of ?_);simp only[go_sem]
  refine Wk ?_
  refine Sd ?_
  refine(h1).val.use ?_;simp only[go_sem]
  refine Wk ?_
  refine Sd ?_
  refine(h3).val.use ?_;simp only[go_sem]
  refine Wk ?_
  intro b11
  refine Sd ?_
  refine W1 hm ?_
  refine ret_view [] ?_;simp only[go_sem]
  exact .mkTup (Vws.cons (.nil 1) (Vws.refl _))
 have hv:=(checkF_zero hck).1
 have h4:=irr_list ps hs hv (TruP ps t) (cjF (normF t false)) fun c hc=>from_tru ps hs t hck hm c hc
 have e2:aRows (lirF ps t)=aRows (lisF ps (TruP ps t)):=by unfold lirF;rw[if_pos (by rw[eM];exact hm)]
 rw[hm,if_pos rfl] at h3
 rw[eM,hm,e2]
 have hSr:aSr ps (cjF (normF t false)) = .agg [.sl 3 (ps.map aPr),.sl 7 ((cjF (normF t false)).map aPt)]:=rfl
 obtain⟨Y,hY⟩:∃Y,aRows (lisF ps (TruP ps t)) = .sl 1 Y:=⟨_,rfl⟩
 rw[hY] at h4 ⊢
 obtain⟨k,n,q1,q2,s,X,hT⟩:=aPd_shape t
 rw[hT,hTr] at h1
 rw[hT,hTr,hSr] at h3
 rw[hSr] at h4
 rw[hT,hTr]
 refine PC.enter 26 [.tmp 4,.tmp 5] [2,3,7] Proofs.Tryz.func10 rfl rfl rfl rfl rfl (by simp) (AWp.of ?_);simp only[go_sem]
 refine Wk ?_
 refine Sd ?_
 refine(h1).val.use ?_;simp only[go_sem]
 refine Wk ?_
 refine Sd ?_
 refine(h3).val.use ?_;simp only[go_sem]
 refine Wk ?_
 intro b11
 refine Sd ?_
 refine Wk ?_
 refine Sd ?_
 refine(h4).val.use ?_;simp only[go_sem]
 refine Wk ?_
 refine ret_eq ?_;simp only[go_sem]
def lcE:Ev:=⟨1,0,0,0,[]⟩
def psI:List Pr:=[⟨⟨#[112]⟩,[],[lcE]⟩,⟨⟨#[113]⟩,[],[lcE]⟩]
def cntI (p:Int):Pd:=.mk 3 0 p 0 ByteArray.empty []
def tI:Pd:=nd 9 [cntI 0,cntI 1]
def tY:Pd:=nd 13 []
theorem psI_valid:validF psI=true:=by
 unfold validF faultF
 rw[if_neg (by decide),show procFirst psI=none from rfl,show evFirst psI=none from rfl,show msgF psI=none from rfl,cycF_rank (fun x=>x.2) (by decide)]
 rfl
theorem psI_sm:Sm psI:=⟨by decide,by decide,by decide,by decide⟩
theorem psI_cut {c:List Int} (h:isF psI c=true):c=[0,0]∨c=[0,1]∨c=[1,0]∨c=[1,1]:=by
 obtain⟨h1,h2,_⟩:=isF_iff.1 h
 obtain⟨a,b,rfl⟩:=ln2 (l:=c) h1
 obtain⟨a1,a2⟩:=inRangeF_get h2 h1 (p:=0) (by decide)
 obtain⟨b1,b2⟩:=inRangeF_get h2 h1 (p:=1) (by decide)
 have a1:0≤a:=a1
 have a2:a≤1:=a2
 have b1:0≤b:=b1
 have b2:b≤1:=b2
 have ha:a=0∨a=1:=by omega
 have hb:b=0∨b=1:=by omega
 rcases ha with rfl|rfl <;> rcases hb with rfl|rfl <;> simp
theorem psI_00:isF psI [0,0]=true:=by rfl
theorem psI_01:isF psI [0,1]=true:=by rfl
theorem psI_10:isF psI [1,0]=true:=by rfl
theorem psI_11:isF psI [1,1]=true:=by rfl
theorem tI_tru (a b:Int):truF (obC psI [a,b]) tI=decide (a=b):=rfl
theorem tI_formed:formedB tI=true:=by decide
theorem tI_check:checkF psI tI=0:=check_of psI_valid tI_formed (by decide) (by decide) (by rfl)
theorem tY_check {ps:List Pr} (hv:validF ps=true):checkF ps tY=0:=check_of hv (by decide) (by rfl) (by decide) (by rfl)
theorem tI_lin:lnrF tI=true:=by rfl
theorem tI_pln:plnF tI=true:=by rfl
theorem tI_mad (cl:Int) (h:cl=8∨cl=32):madE tI cl=0:=by
 unfold madE
 rw[if_neg (by rw[show prdF tI=0 from prd_of tI_check (by decide)];decide),if_pos]
 refine⟨?_,by decide⟩
 unfold clsB
 rw[show normF tI false=tI from rfl,tI_lin,tI_pln]
 rcases h with rfl|rfl <;> rfl
theorem tY_mad (cl:Int) (h:cl=8∨cl=32):madE tY cl=0:=by
 unfold madE
 rw[if_neg (by rw[show prdF tY=0 from by decide];decide),if_pos]
 refine⟨?_,by decide⟩
 unfold clsB
 rw[show normF tY false=tY from rfl,show lnrF tY=true from rfl,show plnF tY=true from rfl]
 rcases h with rfl|rfl <;> rfl
theorem leC_2 {a b c d:Int} (h1:a≤c) (h2:b≤d):leC [a,b] [c,d]:=fun p=>by
 match p with
 | 0=>exact h1
 | 1=>exact h2
 | p+2=>exact Int.le_refl _
theorem leC_inv {a b c d:Int} (h:leC [a,b] [c,d]):a≤c∧b≤d:=⟨h 0,h 1⟩
theorem tI_lst00:lstQ psI (TruP psI tI) [0,0]=some [0,0]:=lsq_eq ⟨psI_00,.refl _,rfl,fun e _ h _=>h⟩
theorem tI_low {a b:Int} (h1:0≤a∧a≤1) (h2:0≤b∧b≤1) (h:¬a=b):lstQ psI (TruP psI tI) [a,b]=some [1,1]:=lsq_eq ⟨psI_11,leC_2 h1.2 h2.2,rfl,fun e he hle ht=>by
 have ht:truF (obC psI e) tI=true:=ht
 rcases psI_cut he with rfl|rfl|rfl|rfl
 ·obtain⟨g1,g2⟩:=leC_inv hle;omega
 ·rw[tI_tru] at ht;exact absurd (of_decide_eq_true ht) (by decide)
 ·rw[tI_tru] at ht;exact absurd (of_decide_eq_true ht) (by decide)
 ·exact .refl _⟩
theorem tY_lst {ps:List Pr} {c:List Int} (h:isF ps c=true):lstQ ps (TruP ps tY) c=some c:=lsq_eq ⟨h,.refl _,rfl,fun e _ h _=>h⟩
theorem pt_I0:ptF psI 0 0=[1,0]:=by rfl
theorem pt_I1:ptF psI 1 0=[0,1]:=by rfl
theorem tI_list:lirF psI tI=[[1,1]]:=by
 unfold lirF
 rw[if_pos (by unfold mdE;rw[if_neg (fun h=>h tI_check),tI_mad 32 (.inr rfl)])]
 unfold lisF
 rw[show List.replicate psI.length (0:Int)=[0,0] from rfl,tI_lst00]
 have e0:rowO psI (TruP psI tI) 0 (nev psI 0)=[some [1,1]]:=by show [lstQ psI (TruP psI tI) (ptF psI 0 0)]=_;rw[pt_I0,tI_low (by decide) (by decide) (by decide)]
 have e1:rowO psI (TruP psI tI) 1 (nev psI 1)=[some [1,1]]:=by show [lstQ psI (TruP psI tI) (ptF psI 1 0)]=_;rw[pt_I1,tI_low (by decide) (by decide) (by decide)]
 have e:upL psI (TruP psI tI) [0,0] psI.length=[[1,1]]:=by
  show upL psI (TruP psI tI) [0,0] 2=_
  rw[upL,upL,upL,e0,e1]
  decide
 show sortBy cmpC (upL psI (TruP psI tI) [0,0] psI.length)=_
 rw[e]
 exact List.perm_singleton.1 (sortBy_perm cmpC _)
theorem tY_list:lirF psI tY=[[0,1],[1,0]]:=by
 unfold lirF
 rw[if_pos (by unfold mdE;rw[if_neg (fun h=>h (tY_check psI_valid)),tY_mad 32 (.inr rfl)])]
 unfold lisF
 rw[show List.replicate psI.length (0:Int)=[0,0] from rfl,tY_lst psI_00]
 have e0:rowO psI (TruP psI tY) 0 (nev psI 0)=[some [1,0]]:=by show [lstQ psI (TruP psI tY) (ptF psI 0 0)]=_;rw[pt_I0,tY_lst psI_10]
 have e1:rowO psI (TruP psI tY) 1 (nev psI 1)=[some [0,1]]:=by show [lstQ psI (TruP psI tY) (ptF psI 1 0)]=_;rw[pt_I1,tY_lst psI_01]
 have e:upL psI (TruP psI tY) [0,0] psI.length=[[1,0],[0,1]]:=by
  show upL psI (TruP psI tY) [0,0] 2=_
  rw[upL,upL,upL,e0,e1]
  decide
 show sortBy cmpC (upL psI (TruP psI tY) [0,0] psI.length)=_
 rw[e]
 exact(sortBy_eq swoC cmpC_anti (List.Perm.swap _ _ _) (by decide)).symm
theorem tI_least:lesE psI tI (0,1)=0∧lesF psI tI (0,1)=some [1,1]:=by
 have hp:pstE psI (0,1)=0:=by unfold pstE;rw[if_pos psI_valid];rfl
 have hF:pstF psI (0,1)=[1,0]:=by unfold pstF;rw[if_pos hp];exact pt_I0
 have hE:lesE psI tI (0,1)=0:=by
  unfold lesE
  rw[if_neg (fun h=>h tI_check),if_neg (fun h=>h hp),if_neg (fun h=>h (tI_mad 8 (.inl rfl))),hF,tI_low (by decide) (by decide) (by decide)]
  rfl
 refine⟨hE,?_⟩
 unfold lesF
 rw[if_pos hE,hF,tI_low (by decide) (by decide) (by decide)]
end Go.AL
end
section
namespace Go.AL
open Go Go.RowKit
def aNegW (C:Cfg) (o:Oper) (x:AV) (ρ:Env) (L:AHeap) (K:ARes):Prop :=
 match x with
 | .v (.int .u64 a)=>K (put ρ o.dst (.v (.int .u64 (IntKind.u64.wrap (-a))))) L
 | _=>False
def aopN (C:Cfg) (o:Oper) (ρ:Env) (L:AHeap) (K:ARes):Prop :=
 match o.op with
 | .unOp .neg _ x=>aNegW C o (ev ρ x) ρ L K
 | _=>aop C o ρ L K
def aregionN (C:Cfg):List Oper→Env→AHeap→ARes→Prop
 | [],ρ,L,K=>K ρ L
 | o :: rest,ρ,L,K=>o.guard=none∧aopN C o ρ L fun ρ L=>aregionN C rest ρ L K
def aregNK (C:Cfg) (rest:List Oper) (K:ARes) (ρ:Env) (L:AHeap):Prop:=aregionN C rest ρ L K
theorem aregionN_nil (C:Cfg) (ρ:Env) (L:AHeap) (K:ARes):aregionN C [] ρ L K=K ρ L:=rfl
theorem aregionN_cons (C:Cfg) (rest:List Oper) (o:Oper) (ρ:Env) (L:AHeap) (K:ARes):aregionN C (o :: rest) ρ L K=(o.guard=none∧aopN C o ρ L (aregNK C rest K)):=rfl
attribute [go_sem] aregionN_nil aregionN_cons aregNK aopN aNegW
end Go.AL
end
section
namespace Go.AL
open Go Go.RowKit
set_option maxRecDepth 4000
def FamW (tO tI:TypeId) (N n:Nat) (Y:Nat→List AV) (v:AV) (L:AHeap):Prop :=
 ∃(Lv:AHeap) (V:Nat→AV) (Ls:Nat→AHeap),L.Perm (Lv ++ famL n Ls)∧AppSt tO 2 ((List.range n).map fun q => .agg [ai N,V q]) v Lv∧∀q,q<n→AppSt tI 1 (Y q) (V q) (Ls q)
section
variable {tO tI:TypeId} {N n:Nat} {Y:Nat→List AV} {v:AV} {L:AHeap}
theorem FamW.nil (Y:Nat→List AV):FamW tO tI N 0 Y anil []:=⟨[],fun _=>anil,fun _=>[],by simp [famL],.nil,fun q h=>by omega⟩
theorem FamW.snoc {V:Nat→AV} {Ls:Nat→AHeap} {x v':AV} {Lx Lv' L':AHeap} (hF:∀q,q<n→AppSt tI 1 (Y q) (V q) (Ls q)) (hx:AppSt tI 1 (Y n) x Lx) (hA:AppSt tO 2 (((List.range n).map fun q => .agg [ai N,V q]) ++ [.agg [ai N,x]]) v' Lv') (hp:L'.Perm (Lv' ++ (Lx ++ famL n Ls))):FamW tO tI N (n+1) Y v' L':=by
 refine⟨Lv',fun q=>if q=n then x else V q,fun q=>if q=n then Lx else Ls q,hp.trans (List.Perm.append_left _ (fam_more Lx).symm),?_,fun q hq => ?_⟩
 ·have e:((List.range (n+1)).map fun q=>AV.agg [ai N,if q=n then x else V q])=((List.range n).map fun q => .agg [ai N,V q]) ++ [.agg [ai N,x]]:=by
   rw[List.range_succ,List.map_append]
   congr 1
   ·exact List.map_congr_left fun q hq=>by rw[if_neg (by have:=List.mem_range.1 hq;omega)]
   ·simp
  rw[e];exact hA
 ·by_cases e:q=n
  ·subst e;dsimp only;rw[if_pos rfl,if_pos rfl];exact hx
  ·dsimp only;rw[if_neg e,if_neg e];exact hF q (by omega)
theorem FamW.congr {Y':Nat→List AV} (h:FamW tO tI N n Y v L) (e:∀q,q<n→Y' q=Y q):FamW tO tI N n Y' v L:=by
 obtain⟨Lv,V,Ls,h1,h2,h3⟩:=h
 exact⟨Lv,V,Ls,h1,h2,fun q hq=>by rw[e q hq];exact h3 q hq⟩
theorem FamW.perm {L':AHeap} (h:FamW tO tI N n Y v L) (hp:L'.Perm L):FamW tO tI N n Y v L':=by
 obtain⟨Lv,V,Ls,h1,h2,h3⟩:=h
 exact⟨Lv,V,Ls,hp.trans h1,h2,h3⟩
theorem FamW.fo (h:FamW tO tI N n Y v L):fo v=(True,v):=by
 obtain⟨Lv,V,Ls,h1,h2,h3⟩:=h
 exact h2.fo
theorem FamW.shape (h:FamW tO tI N n Y v L):v=anil∨∃b c,v = .ls b 2 0 n c:=by
 obtain⟨Lv,V,Ls,h1,h2,h3⟩:=h
 rcases h2.inv with ⟨e1,e2,e3⟩|⟨bo,cap,e2,e3⟩
 ·exact .inl e2
 ·rw[List.length_map,List.length_range] at e2
  exact .inr ⟨_,_,e2⟩
theorem FamW.one (h:FamW tO tI N n Y v L) {p:Nat} (hp:p<n) (hY:Y p ≠ []) :
  ∃bo cap V bp cp X,v = .ls bo 2 0 n cap∧V.length=n∧V.getD p .any = .agg [ai N,.ls bp 1 0 (Y p).length cp]∧L.Perm ((bo,.row tO 2 V cap) :: (bp,.row tI 1 (Y p) cp) :: X) ∧
   ∀(Y':Nat→List AV) (L':AHeap),(∀q,q ≠ p→Y' q=Y q)→(Y' p).length=(Y p).length→L'.Perm ((bo,.row tO 2 V cap) :: (bp,.row tI 1 (Y' p) cp) :: X)→FamW tO tI N n Y' v L':=by
 obtain⟨Lv,V,Ls,h1,h2,h3⟩:=h
 have hlen:((List.range n).map fun q=>AV.agg [ai N,V q]).length=n:=by simp
 rcases h2.inv with ⟨e1,_,_⟩|⟨bo,cap,e2,e3⟩
 ·have h0:n=0:=by have:=congrArg List.length e1;simpa using this
  omega
 rw[hlen] at e2
 subst e3
 rcases (h3 p hp).inv with ⟨e1,_,_⟩|⟨bp,cp,e4,e5⟩
 ·exact absurd e1 hY
 refine⟨bo,cap,(List.range n).map fun q => .agg [ai N,V q],bp,cp,famR n p Ls,e2,hlen,by rw[map_range_getD hp,e4],?_,fun Y' L' hY' hl hL => ?_⟩
 ·have hf:=fam_split hp Ls
  rw[e5] at hf
  exact h1.trans (List.Perm.cons _ hf)
 ·refine⟨[(bo,.row tO 2 ((List.range n).map fun q => .agg [ai N,V q]) cap)],V,fun r=>if r=p then [(bp,.row tI 1 (Y' p) cp)] else Ls r,?_,?_,fun r hr => ?_⟩
  ·refine hL.trans (List.Perm.cons _ ?_)
   have hsp:=fam_split hp (fun r=>if r=p then [(bp,ABlk.row tI 1 (Y' p) cp)] else Ls r)
   rw[if_pos rfl,famR_congr (Ls:=Ls) (fun q hq=>if_neg hq)] at hsp
   exact hsp.symm
  ·have:=AppSt.row (t:=tO) (k:=2) bo ((List.range n).map fun q=>AV.agg [ai N,V q]) cap
   rw[hlen] at this
   rw[e2];exact this
  ·by_cases e:r=p
   ·subst e;dsimp only;rw[if_pos rfl,e4,← hl];exact .row _ _ _
   ·dsimp only;rw[if_neg e,hY' r e];exact h3 r hr
theorem FamW.vw (h:FamW tO tI N n Y v L) (hn:(L.map (·.1)).Nodup):Vw L v (.sl 2 ((List.range n).map fun q => .agg [ai N,.sl 1 (Y q)])):=by
 obtain⟨Lv,V,Ls,h1,h2,h3⟩:=h
 rcases h2.inv with ⟨e1,e2,e3⟩|⟨bo,cap,e2,e3⟩
 ·have h0:n=0:=by have:=congrArg List.length e1;simpa using this
  subst h0
  rw[e2];exact .nil 2
 ·rw[e2]
  refine Vw.ofLs' (t:=tO) (cap:=cap) (lk_of_mem hn (h1.mem_iff.2 (List.mem_append_left _ (by rw[e3];exact List.mem_singleton_self _)))) rfl ⟨by simp,fun i x y hx hy => ?_⟩
  by_cases hi:i<n
  ·rw[List.getElem?_map,List.getElem?_range hi] at hx hy
   cases hx;cases hy
   refine .mkAgg (Vws.cons (.refl _) (Vws.cons ?_ .nil))
   rcases (h3 i hi).inv with ⟨e4,e5,_⟩|⟨b,c,e5,e6⟩
   ·rw[e4,e5];exact .nil 1
   ·rw[e5]
    refine Vw.ofLs (t:=tI) (cap:=c) (lk_of_mem hn (h1.mem_iff.2 (List.mem_append_right _ ?_))) rfl
    unfold famL
    exact List.mem_flatMap.2 ⟨i,List.mem_range.2 hi,by rw[e6];exact List.mem_singleton_self _⟩
  ·have:(List.range n)[i]?=none:=by simp;omega
   rw[List.getElem?_map,this] at hx;cases hx
end
section
variable (n:Nat) (hn:n≤512) (F:Nat→Nat→Bool) (hirr:∀i,i<n→F i i=false) (htr:∀i j k,i<n→j<n→k<n→F i j=true→F j k=true→F i k=true) (f:Nat→Bool)
include hn hirr htr
end
section
variable {ps:List Pr} (hv:validF ps=true) {l:List Syn} (hl:SynOk ps l) (hW:WhlX ps (exF ps l))
include hv hl hW
end
def VSt (n bo bs:Nat) (S:Nat→List (List Int)) (T:Int→AV) (L:AHeap):Prop :=
 ∃(V:Nat→AV) (Ls:Nat→AHeap) (SV:List AV),L.Perm ((bs,.row 30 1 SV 200) :: (bo,.row 48 1 ((List.range n).map V) n) :: famL n Ls) ∧
  (∀p,p<n→AppSt 30 1 ((S p).map aInts) (V p) (Ls p))∧SV.length=200∧∀m:Int,0≤m→m≤199→SV.getD m.toNat .any=T m
theorem VSt.perm {n bo bs:Nat} {S:Nat→List (List Int)} {T:Int→AV} {L L':AHeap} (hp:L'.Perm L) (h:VSt n bo bs S T L):VSt n bo bs S T L' :=
 let ⟨V,Ls,SV,h1,h2⟩:=h
 ⟨V,Ls,SV,hp.trans h1,h2⟩
theorem VSt.open {n bo bs:Nat} {S:Nat→List (List Int)} {T:Int→AV} {L:AHeap} (h:VSt n bo bs S T L) {p:Nat} (hp:p<n) :
  ∃(V:Nat→AV) (Ls:Nat→AHeap) (SV:List AV),L.Perm ((bs,.row 30 1 SV 200) :: (bo,.row 48 1 ((List.range n).map V) n) :: (Ls p ++ famR n p Ls)) ∧
   AppSt 30 1 ((S p).map aInts) (V p) (Ls p)∧SV.length=200∧(∀m:Int,0≤m→m≤199→SV.getD m.toNat .any=T m) ∧
   ∀(S':Nat→List (List Int)) (T':Int→AV) (x:AV) (Lp:AHeap) (SV':List AV) (L':AHeap),(∀q,q ≠ p→S' q=S q)→AppSt 30 1 ((S' p).map aInts) x Lp→SV'.length=200→(∀m:Int,0≤m→m≤199→SV'.getD m.toNat .any=T' m) →
    L'.Perm ((bs,.row 30 1 SV' 200) :: (bo,.row 48 1 (((List.range n).map V).set p x) n) :: (Lp ++ famR n p Ls))→VSt n bo bs S' T' L':=by
 obtain⟨V,Ls,SV,h1,h2,h3,h4⟩:=h
 refine⟨V,Ls,SV,h1.trans (((fam_split hp Ls).cons _).cons _),h2 p hp,h3,h4,fun S' T' x Lp SV' L' hS hA hl hT hL => ?_⟩
 refine⟨fun q=>if q=p then x else V q,fun q=>if q=p then Lp else Ls q,SV',?_,fun q hq => ?_,hl,hT⟩
 ·refine hL.trans ?_
  rw[map_range_set]
  refine(List.Perm.cons _ (List.Perm.cons _ ?_))
  have hsp:=fam_split hp (fun q=>if q=p then Lp else Ls q)
  rw[if_pos rfl,famR_congr (Ls:=Ls) (fun q hq=>if_neg hq)] at hsp
  exact hsp.symm
 ·by_cases e:q=p
  ·subst e;dsimp only;rw[if_pos rfl,if_pos rfl];exact hA
  ·dsimp only;rw[if_neg e,if_neg e,hS q e];exact h2 q hq
theorem Vws.set {L:AHeap} {xs ys:List AV} {a b:AV} (h:Vws L xs ys) (hab:Vw L a b) (i:Nat):Vws L (xs.set i a) (ys.set i b):=by
 refine⟨by rw[List.length_set,List.length_set];exact h.1,fun j x y hx hy => ?_⟩
 rw[List.getElem?_set] at hx hy
 by_cases e:i=j
 ·subst e
  rw[if_pos rfl] at hx hy
  split at hx
  ·split at hy
   ·cases hx;cases hy;exact hab
   ·cases hy
  ·cases hx
 ·rw[if_neg e] at hx hy;exact h.2 j x y hx hy
def badP (n:Nat) (p:Int):Bool:=decide (p<0) || decide ((n:Int)≤p)
open Classical in
noncomputable def aPeak (ps:List Pr) (order:List Int):AV :=
 if validF ps=false then .tup [ai 0,ai 1] else if order.any (badP ps.length)=true then .tup [ai 0,ai 2] else if RunOk ps order order.length then .tup [ai (peakF ps order order.length),ai 0] else .tup [ai 0,ai 11]
end Go.AL
end
section
namespace Go.AL
open Go Go.RowKit
set_option maxRecDepth 4000
theorem ref13_EventsW (ps:List Pr) (hpl:ps.length≤9223372036854775807) (hev:∀p ∈ ps,p.evs.length≤9223372036854775807):PC Proofs.Tryz.prog 13 [aTr ps] (ai (smW ps ps.length)):=by
 refine PC.enter 22 [.tmp 2] [1] Proofs.Tryz.func13 rfl rfl rfl rfl rfl (by simp) (AWp.of ?_);simp only[go_sem]
 refine Wk ?_
 refine AWp.block (AWp.count 4 ps.length [3] [1] (fun p vs L=>L=[]∧vs=[ai (smW ps p)]) rfl rfl ⟨rfl,rfl⟩ ?_)
 rintro p vs L hp - ⟨rfl,rfl⟩
 simp only[go_sem]
 refine Wk ?_
 refine⟨fun h1 => ?_,fun h1 => ?_⟩
 ·have hpp:p<ps.length:=by omega
  have hg:=getD_map (f:=aPr) hpp
  have hel:=hev _ (List.getElem_mem hpp)
  have hsw:smW ps (p+1)=addW (smW ps p) ps[p].evs.length:=by rw[← nev_get hpp];rfl
  have hin:=smW_in ps p
  have hin2:=smW_in ps (p+1)
  rw[hsw] at hin2
  repeat(first|(with_reducible refine AWp.seq ?_)|(with_reducible refine AWp.block ?_))
  refine AWp.regionW ?_
  simp only[go_sem,hg]
  refine Sd ?_
  refine Wk ?_
  exact⟨_,List.Sublist.refl _,rfl,by rw[hsw]⟩
 ·have:p=ps.length:=by omega
  subst this
  refine Wk ?_
  refine ret_eq ?_;simp only[go_sem]
end Go.AL
end
