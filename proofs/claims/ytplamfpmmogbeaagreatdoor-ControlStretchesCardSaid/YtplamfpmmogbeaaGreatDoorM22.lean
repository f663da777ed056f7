/- Texts of this claim's proof: WY32, WY33, WY8, WY5. No condition. -/
import Derived.Test.YtplamfpmmogbeaaGreatDoorM21
import Derived.Test.YtplamfpmmogbeaaGreatDoorM20
import Derived.Test.YtplamfpmmogbeaaGreatDoorM12
import Derived.Test.YtplamfpmmogbeaaGreatDoorM14
import Derived.Test.YtplamfpmmogbeaaGreatDoorM15
section
namespace Go.AL
open Go Go.RowKit
set_option maxRecDepth 4000
noncomputable def frB (ps:List Pr) (ts:List Pd) (k:Nat) (s:Spn3):Bool:=(decide (s.1=k) && (decide (0≤s.2.1) && (decide (s.2.1≤s.2.2) && decide (s.2.2≤nev ps k)))) && (List.range (s.2.2.toNat+1 - s.2.1.toNat)).all fun j=>badX ps ts k (s.2.1.toNat+j)
noncomputable def refX (ps:List Pr) (ts:List Pd) (l:List Spn3):Bool:=decide (conF ps ts=0) && (decide (l.length=ts.length) && ((List.range l.length).all (fun i=>frB ps ts i (l.getD i (0,0,0))) && (decide (gvnE ps l=0) && ovF ps (l.map spN))))
theorem any_part (b:Nat→Bool) (n f t:Nat) (h1:f≤t) (h2:t<n):((((List.range n).map b).take (t+1)).drop f).any (fun x => !x) = !((List.range (t+1 - f)).all fun j=>b (f+j)):=by
 have e:((((List.range n).map b).take (t+1)).drop f)=(List.range (t+1 - f)).map fun j=>b (f+j):=by
  apply List.ext_getElem
  ·simp;omega
  ·intro i g1 g2
   simp
 rw[e,Bool.eq_iff_iff,List.any_eq_true]
 constructor
 ·rintro⟨x,hx,h⟩
  obtain⟨j,hj,rfl⟩:=List.mem_map.1 hx
  rw[Bool.not_eq_true',List.all_eq_false]
  exact⟨j,hj,by simpa using h⟩
 ·intro h
  rw[Bool.not_eq_true',List.all_eq_false] at h
  obtain⟨j,hj,h⟩:=h
  exact⟨_,List.mem_map.2 ⟨j,hj,rfl⟩,by simpa using h⟩
theorem frB_no {ps:List Pr} {ts:List Pd} {k:Nat} {s:Spn3} (h:¬(s.1=k∧0≤s.2.1∧s.2.1≤s.2.2∧s.2.2≤nev ps k)):frB ps ts k s=false:=by
 unfold frB
 rw[← Bool.decide_and,← Bool.decide_and,← Bool.decide_and,decide_eq_false h,Bool.false_and]
set_option maxHeartbeats 1000000 in
theorem control_Refused (ps:List Pr) (hs:Sm ps) (ts:List Pd) (hz:∀t ∈ ts,szF t≤1000000) (htl:ts.length≤1000000) (l:List Spn3) (hl:l.length≤9223372036854775806):PC Proofs.Tryz.prog 20 [aTr ps,.sl 6 (ts.map aPd),aSps l] (ab (refX ps ts l)):=by
 have h1:=control_falsehoods ps hs ts hz htl
 have hov:=strong_Overlap ps hs l hl
 have hE:refX ps ts l=(decide (conF ps ts=0) && (decide (l.length=ts.length) && ((List.range l.length).all (fun i=>frB ps ts i (l.getD i (0,0,0))) && (decide (gvnE ps l=0) && ovF ps (l.map spN))))):=rfl
 have hR:aSps l = .sl 3 (l.map aSp):=rfl
 have hlm:(l.map aSp).length=l.length:=List.length_map _
 have htm:(ts.map aPd).length=ts.length:=List.length_map _
 generalize refX ps ts l=E at *
 rw[hR] at *
 by_cases hC:conF ps ts=0
 ·rw[if_pos hC] at h1
  obtain⟨hv,hlen,_⟩:=conF_inv hC
  rw[decide_eq_true hC,Bool.true_and] at hE
  by_cases hll:l.length=ts.length
  ·rw[decide_eq_true hll,Bool.true_and] at hE
   have hli:(l.length:Int)=ts.length:=by omega
   have hF:falT ps ts = .sl 1 ((List.range ps.length).map fun p => .sl 1 (falL ps ts p)):=rfl
   rw[hF] at h1
   have hgF:∀k,k<ps.length→((List.range ps.length).map fun p=>AV.sl 1 (falL ps ts p)).getD k .any = .sl 1 (falL ps ts k):=fun k hk=>map_range_getD hk _
   have hlF:((List.range ps.length).map fun p=>AV.sl 1 (falL ps ts p)).length=ps.length:=by simp
   generalize (List.range ps.length).map (fun p=>AV.sl 1 (falL ps ts p))=FF at *
   generalize hOV:(decide (gvnE ps l=0) && ovF ps (l.map spN))=OV at *
   generalize hG:gvnE ps l=G at *
   refine PC.enter 85 [.tmp 6] [3,10] Proofs.Tryz.func20 rfl rfl rfl rfl rfl (by simp) (AWp.of ?_);simp only[go_sem]
   refine Wk ?_
   refine Sd ?_
   refine(h1).val.use ?_;simp only[go_sem]
   refine W3 hlm htm hli ?_
   refine AWp.range' ts.length [] [2,3,7,27,28] (fun k vs L=>L=[]∧∀i,i<k→frB ps ts i (l.getD i (0,0,0))=true) (by omega) rfl rfl rfl ⟨rfl,fun _ h=>by omega⟩ ?_ ?_
   ·rintro k vs L hk - ⟨rfl,hI⟩
    have hkp:k<ps.length:=by omega
    have hk:k<l.length:=by omega
    have hg:=getD_map (f:=aSp) hk
    have hgl:l.getD k (0,0,0)=l[k]:=by rw[List.getD_eq_getElem?_getD,List.getElem?_eq_getElem hk];rfl
    have hno:frB ps ts k l[k]=false→E=false:=fun h=>by
     rw[hE,Bool.and_eq_false_iff];left
     rw[List.all_eq_false]
     exact⟨k,List.mem_range.2 hk,by rw[hgl,h];decide⟩
    have hye:frB ps ts k l[k]=true→∀i,i<k+1→frB ps ts i (l.getD i (0,0,0))=true:=fun h i hi=>by
     by_cases e:i=k
     ·subst e;rw[hgl];exact h
     ·exact hI i (by omega)
    generalize l[k]=s at *
    obtain⟨a,f,t⟩:=s
    have hg:(l.map aSp).getD k .any = .agg [ai a,ai f,ai t]:=hg
    have hgk:=hgF k hkp
    have hfl:(falL ps ts k).length=nev ps k+1:=by simp [falL]
    have hn64:=valid_nev hv hkp
    by_cases hok:a=(k:Int)∧0≤f∧f≤t∧t≤nev ps k
    ·obtain⟨x1,x2,x3,x4⟩:=hok
     obtain⟨f,rfl⟩:∃n:Nat,f=n:=⟨f.toNat,by omega⟩
     obtain⟨t,rfl⟩:∃n:Nat,t=n:=⟨t.toNat,by omega⟩
     have hfr:frB ps ts k (a,(f:Int),(t:Int))=((List.range (t+1 - f)).all fun j=>badX ps ts k (f+j)):=by
      have e:frB ps ts k (a,(f:Int),(t:Int))=((decide (a=(k:Int)) && (decide ((0:Int)≤(f:Int)) && (decide ((f:Int)≤(t:Int)) && decide ((t:Int)≤nev ps k)))) && (List.range ((t:Int).toNat+1 - (f:Int).toNat)).all fun j=>badX ps ts k ((f:Int).toNat+j)):=rfl
      rw[e,decide_eq_true x1,decide_eq_true x2,decide_eq_true x3,decide_eq_true x4,Int.toNat_natCast,Int.toNat_natCast];rfl
     have hc:=bools_contains (((((List.range (nev ps k+1)).map (badX ps ts k)).take (t+1)).drop f)) (by rw[List.length_drop,List.length_take,List.length_map,List.length_range];omega)
     rw[any_part _ _ f t (by omega) (by omega),← hfr,List.map_drop,List.map_take,List.map_map] at hc
     have hfe:(List.range (nev ps k+1)).map (ab ∘ badX ps ts k)=falL ps ts k:=rfl
     rw[hfe] at hc
     clear hfe hfr
     generalize falL ps ts k=FL at *
     generalize frB ps ts k (a,(f:Int),(t:Int))=B at *
     have g1:¬(f:Int)<0:=by omega
     have g2:¬(t:Int)<f:=by omega
     have g3:¬((nev ps k:Nat):Int)+1≤t:=by omega
     have g3':¬(((nev ps k+1:Nat)):Int)≤t:=by omega
     have e1:((t:Int)+1).toNat=t+1:=by omega
     simp only[go_sem]
     refine W2 hg hlm ?_
     intro b10
     refine Wk ?_
     repeat(first|(with_reducible refine AWp.seq ?_)|(with_reducible refine AWp.block ?_))
     refine AWp.read mixed [0,1,2,3,4,5,6,7,8,9,10,11,12,13,14,15,16,17,18,19,20,21,22,23,24,25,26,27,28,29,30,31,32,33,34,35,36,37,38] (by kernel_rfl) ?_;simp only[go_sem,hgk,hlF,hfl,x1,g1,g2,g3',e1]
     refine Sd ?_
     refine Sd ?_
     refine Gc hc ?_
     refine Sd ?_
     cases B with
     | true =>
      refine Wk ?_
      exact⟨_,List.Sublist.refl _,rfl,hye rfl⟩
     | false =>
      rw[hno rfl]
      refine Wk ?_
      refine ret_eq ?_;simp only[go_sem]
    ·have hfn:frB ps ts k (a,f,t)=false:=frB_no hok
     rw[hno hfn]
     have g5:(((nev ps k+1:Nat)):Int)≤t↔(nev ps k:Int)+1≤t:=by omega
     clear hno hye hfn hE
     generalize falL ps ts k=FL at *
     simp only[go_sem]
     refine W2 hg hlm ?_
     intro b10
     refine Wk ?_
     by_cases h1:a=(k:Int)
     ·by_cases h2:f<0
      ·repeat(first|(with_reducible refine AWp.seq ?_)|(with_reducible refine AWp.block ?_))
       refine AWp.read mixed [0,1,2,3,4,5,6,7,8,9,10,11,12,13,14,15,16,17,18,19,20,21,22,23,24,25,26,27,28,29,30,31,32,33,34,35,36,37,38] (by kernel_rfl) ?_;simp only[go_sem,hgk,hlF,hfl,h1,h2,g5]
       refine Sd ?_
       refine GCall.use .any (fun h=>absurd h (by simp)) ?_
       simp only[go_sem]
       refine Wk ?_
       refine ret_eq ?_;simp only[go_sem]
      ·by_cases h3:t<f
       ·repeat(first|(with_reducible refine AWp.seq ?_)|(with_reducible refine AWp.block ?_))
        refine AWp.read mixed [0,1,2,3,4,5,6,7,8,9,10,11,12,13,14,15,16,17,18,19,20,21,22,23,24,25,26,27,28,29,30,31,32,33,34,35,36,37,38] (by kernel_rfl) ?_;simp only[go_sem,hgk,hlF,hfl,h1,h2,h3,g5]
        refine Sd ?_
        refine GCall.use .any (fun h=>absurd h (by simp)) ?_
        simp only[go_sem]
        refine Wk ?_
        refine ret_eq ?_;simp only[go_sem]
       ·have h4:(nev ps k:Int)+1≤t:=by omega
        repeat(first|(with_reducible refine AWp.seq ?_)|(with_reducible refine AWp.block ?_))
        refine AWp.read mixed [0,1,2,3,4,5,6,7,8,9,10,11,12,13,14,15,16,17,18,19,20,21,22,23,24,25,26,27,28,29,30,31,32,33,34,35,36,37,38] (by kernel_rfl) ?_;simp only[go_sem,hgk,hlF,hfl,h1,h2,h3,h4,g5]
        refine Sd ?_
        refine GCall.use .any (fun h=>absurd h (by simp)) ?_
        simp only[go_sem]
        refine Wk ?_
        refine ret_eq ?_;simp only[go_sem]
     ·repeat(first|(with_reducible refine AWp.seq ?_)|(with_reducible refine AWp.block ?_))
      refine AWp.read mixed [0,1,2,3,4,5,6,7,8,9,10,11,12,13,14,15,16,17,18,19,20,21,22,23,24,25,26,27,28,29,30,31,32,33,34,35,36,37,38] (by kernel_rfl) ?_;simp only[go_sem,hgk,hlF,hfl,h1,g5]
      refine Sd ?_
      refine GCall.use .any (fun h=>absurd h (by simp)) ?_
      simp only[go_sem]
      refine Wk ?_
      refine ret_eq ?_;simp only[go_sem]
   ·rintro vs L - ⟨rfl,hI⟩
    have hall:(List.range l.length).all (fun i=>frB ps ts i (l.getD i (0,0,0)))=true:=by
     rw[List.all_eq_true]
     intro i hi
     have:=List.mem_range.1 hi
     exact hI i (by omega)
    rw[hall,Bool.true_and] at hE
    have hGO:(decide (G=0) && OV)=OV:=by
     rw[← hOV,← Bool.and_assoc,Bool.and_self]
    simp only[go_sem]
    refine Wk ?_
    refine Sd ?_
    refine(hov).val.use ?_;simp only[go_sem]
    refine W1 hGO ?_
    refine ret_eq ?_;simp only[go_sem]
    rw[hE]
  ·have hli:¬(l.length:Int)=ts.length:=by omega
   rw[decide_eq_false hll,Bool.false_and] at hE
   rw[hE]
   have hF:falT ps ts = .sl 1 ((List.range ps.length).map fun p => .sl 1 (falL ps ts p)):=rfl
   rw[hF] at h1
   generalize (List.range ps.length).map (fun p=>AV.sl 1 (falL ps ts p))=FF at *
   refine PC.enter 85 [.tmp 6] [3,10] Proofs.Tryz.func20 rfl rfl rfl rfl rfl (by simp) (AWp.of ?_);simp only[go_sem]
   refine Wk ?_
   refine Sd ?_
   refine(h1).val.use ?_;simp only[go_sem]
   refine W3 hlm htm hli ?_
   refine ret_eq ?_;simp only[go_sem]
 ·rw[if_neg hC] at h1
  rw[decide_eq_false hC,Bool.false_and] at hE
  rw[hE]
  generalize conF ps ts=c at *
  refine PC.enter 85 [.tmp 6] [3,10] Proofs.Tryz.func20 rfl rfl rfl rfl rfl (by simp) (AWp.of ?_);simp only[go_sem]
  refine Wk ?_
  refine Sd ?_
  refine(h1).val.use ?_;simp only[go_sem]
  refine W3 hlm htm hC ?_
  refine ret_eq ?_;simp only[go_sem]
theorem frB_stretch {ps:List Pr} {ts:List Pd} {k:Nat} {s:Spn3} (hk:k<ps.length) (h:badSp ps s=true∨s.1 ≠ k):frB ps ts k s=false:=by
 refine frB_no fun ⟨h1,h2,h3,h4⟩ => ?_
 rcases h with h|h
 ·unfold badSp at h
  simp only[Bool.or_eq_true,decide_eq_true_eq] at h
  rw[h1] at h
  rw[Int.toNat_natCast] at h
  omega
 ·exact h h1
set_option maxHeartbeats 1000000 in
theorem ref44_Refused (ps:List Pr) (hs:Sm ps) (ts:List Pd) (hz:∀t ∈ ts,szF t≤1000000) (htl:ts.length≤1000000) (l:List Spn3) (hl:l.length≤9223372036854775806):PC Proofs.Tryz.prog 21 [aTr ps,.sl 6 (ts.map aPd),aSps l] (ab (refX ps ts l)):=by
 have h1:=ref37_Fault ps hs ts hz htl
 have hov:=ref38_Overlap ps hs l hl
 have hst:=fun s=>ref38_Stretch ps hs s
 have hE:refX ps ts l=(decide (conF ps ts=0) && (decide (l.length=ts.length) && ((List.range l.length).all (fun i=>frB ps ts i (l.getD i (0,0,0))) && (decide (gvnE ps l=0) && ovF ps (l.map spN))))):=rfl
 have hR:aSps l = .sl 3 (l.map aSp):=rfl
 have hlm:(l.map aSp).length=l.length:=List.length_map _
 generalize refX ps ts l=E at *
 rw[hR]
 by_cases hC:conF ps ts=0
 ·rw[decide_eq_true hC,Bool.true_and] at hE
  have hloc:=ref29_ok ps hs ts hz hC
  rw[hC] at h1
  obtain⟨hv,hlen,_⟩:=conF_inv hC
  by_cases hll:l.length=ts.length
  ·rw[decide_eq_true hll,Bool.true_and] at hE
   have hli:(l.length:Int)=ps.length:=by omega
   generalize hOV:(decide (gvnE ps l=0) && ovF ps (l.map spN))=OV at *
   generalize hG:gvnE ps l=G at *
   refine PC.enter 82 [.tmp 6] [3] Proofs.Tryz.func21 rfl rfl rfl rfl rfl (by simp) (AWp.of ?_);simp only[go_sem]
   refine Wk ?_
   refine Sd ?_
   refine(h1).val.use ?_;simp only[go_sem,hlm,hli]
   refine W2 hlm hli ?_
   refine AWp.block (AWp.count 7 l.length [] [1,2,3] (fun k vs L=>L=[]∧∀i,i<k→frB ps ts i (l.getD i (0,0,0))=true) rfl rfl ⟨rfl,fun _ h=>by omega⟩ ?_)
   rintro k vs L hkl - ⟨rfl,hI⟩
   simp only[go_sem]
   by_cases hk:k<l.length
   ·have hki:(k:Int)<ps.length:=by omega
    have hkp:k<ps.length:=by omega
    have hkt:k<ts.length:=by omega
    have hg:=getD_map (f:=aSp) hk
    have hgl:l.getD k (0,0,0)=l[k]:=by rw[List.getD_eq_getElem?_getD,List.getElem?_eq_getElem hk];rfl
    have hno:frB ps ts k l[k]=false→E=false:=fun h=>by
     rw[hE,Bool.and_eq_false_iff];left
     rw[List.all_eq_false]
     exact⟨k,List.mem_range.2 hk,by rw[hgl,h];decide⟩
    have hye:frB ps ts k l[k]=true→∀i,i<k+1→frB ps ts i (l.getD i (0,0,0))=true:=fun h i hi=>by
     by_cases e:i=k
     ·subst e;rw[hgl];exact h
     ·exact hI i (by omega)
    have h3:=hst l[k]
    have hgt:=getD_map (f:=aPd) hkt
    have hnv:=nev_get hkp
    have hn64:=valid_nev hv hkp
    have h4:=ref29_TruthsG ps hs k hkp ts[k] ((elimOf ps ts).ok k) fun j hj=>hloc k hkp hkt j hj
    have hT:∀j,j<ps[k].evs.length+1→((List.range (ps[k].evs.length+1)).map fun j:Nat=>ab ((elimOf ps ts).ok k j)).getD j .any=ab ((elimOf ps ts).ok k j):=fun j hj=>map_range_getD hj _
    have hTl:((List.range (ps[k].evs.length+1)).map fun j:Nat=>ab ((elimOf ps ts).ok k j)).length=ps[k].evs.length+1:=by simp
    have hfb:∀s,badSp ps s=true∨s.1 ≠ (k:Int)→frB ps ts k s=false:=fun s h=>frB_stretch hkp h
    generalize (List.range (ps[k].evs.length+1)).map (fun j:Nat=>ab ((elimOf ps ts).ok k j))=TT at *
    generalize ts[k]=tt at *
    generalize l[k]=s at *
    obtain⟨a,f,t⟩:=s
    obtain⟨k0,n,pp,q0,s0,l0⟩:=tt
    simp only[aPd_mk] at hgt h4
    have hg:(l.map aSp).getD k .any = .agg [ai a,ai f,ai t]:=hg
    change PC _ _ [_,.agg [ai a,ai f,ai t]] _ at h3
    by_cases hbs:badSp ps (a,f,t)=true∨a ≠ (k:Int)
    ·rw[hno (hfb _ hbs)]
     clear hno hye hfb hE
     generalize badSp ps (a,f,t)=B at *
     cases B with
     | true =>
      refine W3 hki hlm hli ?_
      repeat(first|(with_reducible refine AWp.seq ?_)|(with_reducible refine AWp.block ?_))
      refine AWp.read mixed [0,1,2,3,4,5,6,7,8,9,10,11,12,13,14,15] (by kernel_rfl) ?_;simp only[go_sem,hg,hlm,hli,hki]
      refine Sd ?_
      refine GCall.use (ab (!true)) (fun _=>⟨At,(h3).val.use ⟨rfl,rfl⟩⟩) ?_;simp only[go_sem,hg,hlm,hli,hki]
      refine Sd ?_
      refine Wk ?_
      refine ret_eq ?_;simp only[go_sem]
     | false =>
      have ha:¬a=(k:Int):=hbs.resolve_left (by decide)
      refine W3 hki hlm hli ?_
      repeat(first|(with_reducible refine AWp.seq ?_)|(with_reducible refine AWp.block ?_))
      refine AWp.read mixed [0,1,2,3,4,5,6,7,8,9,10,11,12,13,14,15] (by kernel_rfl) ?_;simp only[go_sem,hg,hlm,hli,hki]
      refine Sd ?_
      refine GCall.use (ab (!false)) (fun _=>⟨At,(h3).val.use ⟨rfl,rfl⟩⟩) ?_;simp only[go_sem,ha,hg,hlm,hli,hki]
      refine Sd ?_
      refine Wk ?_
      refine ret_eq ?_;simp only[go_sem]
    ·have hB:badSp ps (a,f,t)=false:=by cases h:badSp ps (a,f,t) with
      | false=>rfl
      | true=>exact absurd (.inl h) hbs
     have ha:a=(k:Int):=Classical.byContradiction fun h=>hbs (.inr h)
     subst ha
     have hb:=hB
     unfold badSp at hb
     simp only[Bool.or_eq_false_iff,decide_eq_false_iff_not,Int.toNat_natCast] at hb
     obtain⟨-,-,b1,b2,b3⟩:=hb
     obtain⟨f,rfl⟩:∃n:Nat,f=n:=⟨f.toNat,by omega⟩
     obtain⟨t,rfl⟩:∃n:Nat,t=n:=⟨t.toNat,by omega⟩
     have hfr:frB ps ts k ((k:Int),(f:Int),(t:Int))=((List.range (t+1 - f)).all fun j=>badX ps ts k (f+j)):=by
      have e:frB ps ts k ((k:Int),(f:Int),(t:Int))=((decide ((k:Int)=(k:Int)) && (decide ((0:Int)≤(f:Int)) && (decide ((f:Int)≤(t:Int)) && decide ((t:Int)≤nev ps k)))) && (List.range ((t:Int).toNat+1 - (f:Int).toNat)).all fun j=>badX ps ts k ((f:Int).toNat+j)):=rfl
      rw[e,decide_eq_true rfl,decide_eq_true (show (0:Int)≤(f:Int) by omega),decide_eq_true (show (f:Int)≤(t:Int) by omega),decide_eq_true (show (t:Int)≤(nev ps k:Nat) by omega),Int.toNat_natCast,Int.toNat_natCast];rfl
     rw[hB] at h3
     clear hbs hfb hB
     generalize frB ps ts k ((k:Int),(f:Int),(t:Int))=FB at *
     refine W3 hki hlm hli ?_
     repeat(first|(with_reducible refine AWp.seq ?_)|(with_reducible refine AWp.block ?_))
     refine AWp.read mixed [0,1,2,3,4,5,6,7,8,9,10,11,12,13,14,15] (by kernel_rfl) ?_;simp only[go_sem,hg,hlm,hli,hki]
     refine Sd ?_
     refine GCall.use (ab (!false)) (fun _=>⟨At,(h3).val.use ⟨rfl,rfl⟩⟩) ?_;simp only[go_sem,hg,hlm,hli,hki]
     refine Sd ?_
     refine W4 hg hlm hli hki ?_
     repeat(first|(with_reducible refine AWp.seq ?_)|(with_reducible refine AWp.block ?_))
     refine AWp.read mixed [0,1,2,3,4,5,6,7] (by kernel_rfl) ?_;simp only[go_sem,hgt]
     refine Sd ?_
     refine GCall.use (.sl 1 TT) (fun _=>⟨At,(h4).val.use ⟨rfl,rfl⟩⟩) ?_;simp only[go_sem]
     refine Sd ?_
     refine W2 hg hlm ?_
     refine(AWp.block (AWp.loopN [9] [1,2,3,7,8] (fun mm vs L=>L=[]∧∃j:Nat,vs=[ai j]∧f≤j∧j≤t+1∧mm=t+1 - j∧∀i,f≤i→i<j→badX ps ts k i=true) (t+1 - f) ⟨rfl,f,rfl,Nat.le_refl _,by omega,rfl,fun i h1 h2=>by omega⟩ ?_))
     rintro mm vs L - ⟨rfl,j,rfl,k1,k2,rfl,hK⟩
     simp only[go_sem]
     by_cases hjt:j≤t
     ·have hji:(j:Int)≤(t:Int):=by omega
      have hTj:=hT j (by omega)
      have hbx:badX ps ts k j = !(elimOf ps ts).ok k j:=rfl
      have hbad:badX ps ts k j=false→FB=false:=fun h=>by
       rw[hfr,List.all_eq_false]
       exact⟨j - f,List.mem_range.2 (by omega),by rw[show f+(j - f)=j by omega,h];decide⟩
      have hK2:badX ps ts k j=true→∀i,f≤i→i<j+1→badX ps ts k i=true:=fun h i h1 h2=>by
       by_cases e:i=j
       ·subst e;exact h
       ·exact hK i h1 (by omega)
      clear hK
      rw[hbx] at hbad hK2
      generalize (elimOf ps ts).ok k j=KB at *
      cases KB with
      | true =>
       rw[hno (hbad rfl)]
       refine W5 hg hlm hji hTj hTl ?_
       refine ret_eq ?_;simp only[go_sem]
      | false =>
       refine W5 hg hlm hji hTj hTl ?_
       refine Sd ?_
       exact⟨_,List.Sublist.refl _,t+1 - (j+1),by omega,rfl,j+1,by rw[show ((j+1:Nat):Int)=(j:Int)+1 by omega],by omega,by omega,rfl,hK2 rfl⟩
     ·have hji:¬(j:Int)≤(t:Int):=by omega
      have:FB=true:=by
       rw[hfr,List.all_eq_true]
       intro i hi
       have:=List.mem_range.1 hi
       exact hK (f+i) (by omega) (by omega)
      refine W3 hg hlm hji ?_
      exact⟨_,List.Sublist.refl _,rfl,hye this⟩
   ·have hki:¬(k:Int)<ps.length:=by omega
    have:k=l.length:=by omega
    subst this
    have hall:(List.range l.length).all (fun i=>frB ps ts i (l.getD i (0,0,0)))=true:=by
     rw[List.all_eq_true]
     intro i hi
     exact hI i (List.mem_range.1 hi)
    rw[hall,Bool.true_and] at hE
    have hGO:(OV && decide (G=0))=OV:=by
     rw[← hOV,Bool.and_comm,← Bool.and_assoc,Bool.and_self]
    have hirr:¬(ps.length:Int)<ps.length:=by omega
    rw[hR] at hov
    refine W3 hlm hli hirr ?_
    refine Sd ?_
    refine(hov).val.use ?_;simp only[go_sem]
    refine W1 hGO ?_
    refine ret_eq ?_;simp only[go_sem]
    rw[hE]
  ·have hli:¬(l.length:Int)=ps.length:=by omega
   rw[decide_eq_false hll,Bool.false_and] at hE
   rw[hE]
   refine PC.enter 82 [.tmp 6] [3] Proofs.Tryz.func21 rfl rfl rfl rfl rfl (by simp) (AWp.of ?_);simp only[go_sem]
   refine Wk ?_
   refine Sd ?_
   refine(h1).val.use ?_;simp only[go_sem,hlm,hli]
   refine W2 hlm hli ?_
   refine ret_eq ?_;simp only[go_sem]
 ·rw[decide_eq_false hC,Bool.false_and] at hE
  rw[hE]
  generalize conF ps ts=c at *
  refine PC.enter 82 [.tmp 6] [3] Proofs.Tryz.func21 rfl rfl rfl rfl rfl (by simp) (AWp.of ?_);simp only[go_sem]
  refine Wk ?_
  refine Sd ?_
  refine(h1).val.use ?_;simp only[go_sem,hlm,hC]
  refine W2 hlm hC ?_
  refine ret_eq ?_;simp only[go_sem]
def aOrd (ps:List Pr) (S:Nat→List (List Int)) (w:Bool):AV:=.rp 3 [.agg [aPrs ps,.sl 1 ((List.range ps.length).map fun p => .sl 1 ((S p).map aInts)),ab w]] 0 0
def excB (n:Nat) (S:Nat→List (List Int)) (c:Nat→Nat) (p:Nat):Bool:=(List.range n).any fun q=>decide (q ≠ p) && decide ((c p:Int)<(stOf S q (c q)).getD p 0)
structure TabOk (ps:List Pr) (S:Nat→List (List Int)):Prop where
 len:∀p,p<ps.length→(S p).length=nev ps p+1
 row:∀p k,p<ps.length→k<(S p).length→(stOf S p k).length=ps.length
theorem tab_ok {ps:List Pr} (hv:validF ps=true) {l:List Syn} (hl:SynOk ps l) {S:Nat→List (List Int)} (hG:GenX ps l S) (hW:WhlX ps S):TabOk ps S:=⟨hW,fun p k _ hk=>(hG.st hv hl p k hk).len⟩
theorem order_excluded (ps:List Pr) (hs:Sm ps) (S:Nat→List (List Int)) (w:Bool) (hT:TabOk ps S) (c:Nat→Nat) (hc:∀q,q<ps.length→c q≤nev ps q) (p:Nat) (hp:p<ps.length) :
  PC Proofs.Tryz.prog 73 [aOrd ps S w,.sl 1 (dnA ps.length c),ai p] (ab (excB ps.length S c p)):=by
 have hps:=hs.procs
 have hdl:=dnA_length ps.length c
 have hgp:=dnA_get hp c
 have hTl:((List.range ps.length).map fun p=>AV.sl 1 ((S p).map aInts)).length=ps.length:=by simp
 have hR:∀q,q<ps.length→((List.range ps.length).map fun p=>AV.sl 1 ((S p).map aInts)).getD q .any = .sl 1 ((S q).map aInts):=fun q hq=>map_range_getD hq _
 have hE:excB ps.length S c p=(List.range ps.length).any fun q=>decide (q ≠ p) && decide ((c p:Int)<(stOf S q (c q)).getD p 0):=rfl
 unfold aOrd
 generalize excB ps.length S c p=E at *
 generalize hT0:((List.range ps.length).map fun p=>AV.sl 1 ((S p).map aInts))=T at *
 refine PC.enter 40 [.tmp 6] [] Proofs.Tryz.func73 rfl rfl rfl rfl rfl (by simp) (AWp.of ?_);simp only[go_sem]
 refine W1 hdl ?_
 refine AWp.range' ps.length [] [0,1,2,9,10] (fun k vs L=>L=[]∧vs=[]∧∀q,q<k→¬q=p→¬(c p:Int)<(stOf S q (c q)).getD p 0) (by omega) rfl rfl rfl ⟨rfl,rfl,fun _ h=>by omega⟩ ?_ ?_
 ·rintro k vs L hk - ⟨rfl,rfl,hI⟩
  have hg:=dnA_get hk c
  have hRk:=hR k hk
  have hck:=hc k hk
  have hSk:=hT.len k hk
  have hrow:=hT.row k (c k) hk (by omega)
  have hst:((S k).map aInts).getD (c k) .any=aInts (stOf S k (c k)):=by
   rw[getD_map (by omega)]
   unfold stOf
   rw[List.getD_eq_getElem?_getD,List.getElem?_eq_getElem (by omega),Option.getD_some]
  have hen:(stOf S k (c k)).map ai=(stOf S k (c k)).map ai:=rfl
  have hge:((stOf S k (c k)).map ai).getD p .any=ai ((stOf S k (c k)).getD p 0):=by
   rw[getD_map (by omega),List.getD_eq_getElem?_getD,List.getElem?_eq_getElem (by omega),Option.getD_some]
  have hel:((stOf S k (c k)).map ai).length=ps.length:=by rw[List.length_map,hrow]
  have htrue:¬k=p→(c p:Int)<(stOf S k (c k)).getD p 0→E=true:=fun h1 h2=>by
   rw[hE,List.any_eq_true]
   exact⟨k,List.mem_range.2 hk,by rw[decide_eq_true h1,decide_eq_true h2];rfl⟩
  have hfalse:(¬k=p→¬(c p:Int)<(stOf S k (c k)).getD p 0)→∀q,q<k+1→¬q=p→¬(c p:Int)<(stOf S q (c q)).getD p 0:=fun h q hq hqp=>by
   by_cases e:q=k
   ·subst e;exact h hqp
   ·exact hI q (by omega) hqp
  have hkp:((k:Int)=p)↔k=p:=by omega
  generalize (stOf S k (c k)).getD p 0=x at *
  generalize stOf S k (c k)=row at *
  simp only[go_sem]
  refine W2 hg hdl ?_
  repeat(first|(with_reducible refine AWp.seq ?_)|(with_reducible refine AWp.block ?_))
  refine AWp.read mixed [0,1,2,3,4,5,6,7,8,9,10,11,12,13,14,15,16,17,18,19,20,21,22] (by kernel_rfl) ?_;simp only[go_sem,hgp,hRk,hst,hge,hel,hdl,hkp]
  refine Sd ?_
  refine Wk ?_
  refine⟨fun h1 h2 => ?_,fun h1 => ?_⟩
  ·rw[htrue h1 h2]
   refine Wk ?_
   refine ret_eq ?_;simp only[go_sem]
  ·refine Wk ?_
   exact⟨_,List.Sublist.refl _,rfl,hfalse h1⟩
 ·rintro vs L - ⟨rfl,rfl,hI⟩
  have:E=false:=by
   rw[hE,List.any_eq_false]
   intro q hq h
   rw[Bool.and_eq_true,decide_eq_true_eq,decide_eq_true_eq] at h
   exact hI q (List.mem_range.1 hq) h.1 h.2
  rw[this]
  simp only[go_sem]
  refine Wk ?_
  refine ret_eq ?_;simp only[go_sem]
theorem excB_iff {n:Nat} {S:Nat→List (List Int)} {c:Nat→Nat} {p:Nat} : excB n S c p=true↔∃q,q<n∧q ≠ p∧(c p:Int)<(stOf S q (c q)).getD p 0:=by
 unfold excB
 rw[List.any_eq_true]
 constructor
 ·rintro⟨q,h1,h2⟩
  rw[Bool.and_eq_true,decide_eq_true_eq,decide_eq_true_eq] at h2
  exact⟨q,List.mem_range.1 h1,h2.1,h2.2⟩
 ·rintro⟨q,h1,h2,h3⟩
  exact⟨q,List.mem_range.2 h1,by rw[decide_eq_true h2,decide_eq_true h3];rfl⟩
def UpX (ps:List Pr) (l:List Syn) (bad:Nat→Nat→Bool) (c:Nat→Nat):Prop:=∀d,HoldX ps l bad d→∀p,p<ps.length→c p≤d p
theorem UpX.bump {ps:List Pr} {l:List Syn} {bad:Nat→Nat→Bool} {S:Nat→List (List Int)} (hv:validF ps=true) (hl:SynOk ps l) (hG:GenX ps l S) (hW:WhlX ps S) {c:Nat→Nat} (hI:UpX ps l bad c) {p:Nat} (hp:p<ps.length)
  (hr:∀q,q<ps.length→q ≠ p→c q≤nev ps q) (h:bad p (c p)=false∨excB ps.length S c p=true):UpX ps l bad (updN c p (c p+1)):=fun d hd q hq=>by
 unfold updN
 split
 ·rename_i e
  subst e
  refine ctl_bump hv hl hG hW hI hq ?_ d hd
  rcases h with h|h
  ·exact .inl h
  ·obtain⟨a,a1,a2,a3⟩:=excB_iff.1 h
   exact .inr ⟨a,a1,hr a a1 a2,a3⟩
 ·exact hI d hd q hq
theorem UpX.out {ps:List Pr} {l:List Syn} {bad:Nat→Nat→Bool} {c:Nat→Nat} (hI:UpX ps l bad c) {p:Nat} (hp:p<ps.length) (h:nev ps p<c p):ctlB ps l bad=true:=by
 rw[ctlB_true]
 rintro⟨d,hd⟩
 have:=hI d hd p hp
 have:=hd.rng p hp
 omega
theorem UpX.stop {ps:List Pr} {l:List Syn} {bad:Nat→Nat→Bool} {S:Nat→List (List Int)} (hv:validF ps=true) (hl:SynOk ps l) (hG:GenX ps l S) (hW:WhlX ps S) {c:Nat→Nat} (hr:∀p,p<ps.length→c p≤nev ps p)
  (h:∀p,p<ps.length→bad p (c p)=true∧excB ps.length S c p=false):ctlB ps l bad=false:=by
 cases hc:ctlB ps l bad with
 | false=>rfl
 | true =>
  refine absurd ⟨c,ctl_stop hv hl hG hW hr (fun p hp=>(h p hp).1) fun p q hp hq hne => ?_⟩ (ctlB_true.1 hc)
  refine Int.not_lt.1 fun hlt => ?_
  have:=(h p hp).2
  rw[excB_iff.2 ⟨q,hq,hne,hlt⟩] at this;cases this
def roomX (ps:List Pr) (c:Nat→Nat):Nat:=totS ps.length fun q=>nev ps q+1 - c q
theorem roomX_lt {ps:List Pr} {c:Nat→Nat} {p:Nat} (hp:p<ps.length) (h:c p≤nev ps p):roomX ps (updN c p (c p+1))<roomX ps c:=by
 have:=totS_lt (c:=fun q=>nev ps q+1 - c q) (c':=fun q=>nev ps q+1 - updN c p (c p+1) q) (p:=p) (fun q hq=>by rw[updN_ne hq]) (by rw[updN_self];omega) ps.length
 rw[if_pos hp] at this
 unfold roomX
 omega
set_option maxHeartbeats 2000000 in
theorem order_controls (ps:List Pr) (hs:Sm ps) (hv:validF ps=true) (l:List Syn) (hl:SynOk ps l) (S:Nat→List (List Int)) (hG:GenX ps l S) (hW:WhlX ps S) (w:Bool) (bad:Nat→Nat→Bool) :
  PC Proofs.Tryz.prog 36 [aOrd ps S w,.sl 1 ((List.range ps.length).map fun p => .sl 1 ((List.range (nev ps p+1)).map fun k=>ab (bad p k)))] (ab (ctlB ps l bad)):=by
 have hps:=hs.procs
 have hT:=tab_ok hv hl hG hW
 have hex:=fun c hc p hp=>order_excluded ps hs S w hT c hc p hp
 have hB:∀p,p<ps.length→((List.range ps.length).map fun p=>AV.sl 1 ((List.range (nev ps p+1)).map fun k=>ab (bad p k))).getD p .any = .sl 1 ((List.range (nev ps p+1)).map fun k=>ab (bad p k)):=fun p hp=>map_range_getD hp _
 have hBl:∀p,((List.range (nev ps p+1)).map fun k=>ab (bad p k)).length=nev ps p+1:=fun p=>by simp
 have hBk:∀p k,k≤nev ps p→((List.range (nev ps p+1)).map fun k=>ab (bad p k)).getD k .any=ab (bad p k):=fun p k hk=>map_range_getD (by omega) _
 have hBn:∀p,((List.range (nev ps p+1)).map fun k=>ab (bad p k)).getD (nev ps p+1) .any = .any:=fun p=>by
  rw[List.getD_eq_getElem?_getD,List.getElem?_eq_none (by simp)];rfl
 have hTl:((List.range ps.length).map fun p=>AV.sl 1 ((List.range (nev ps p+1)).map fun k=>ab (bad p k))).length=ps.length:=by simp
 have hz:List.replicate ps.length (ai 0)=dnA ps.length fun _=>0:=by
  unfold dnA
  rw[List.map_const',List.length_range];rfl
 have hnv:∀p,p<ps.length→nev ps p≤1000000:=fun p hp=>by rw[nev_get hp];exact hs.evs _ (List.getElem_mem hp)
 have hout:=fun c (h:UpX ps l bad c) p hp=>h.out (p:=p) hp
 have hbump:=fun c (h:UpX ps l bad c) p hp=>h.bump (S:=S) hv hl hG hW (p:=p) hp
 have hstop:=fun c=>UpX.stop (bad:=bad) (c:=c) hv hl hG hW
 have h0:UpX ps l bad fun _=>0:=fun d _ p _=>Nat.zero_le _
 obtain⟨BR,hBR⟩:∃BR:Nat→List AV,BR=fun p=>(List.range (nev ps p+1)).map fun k=>ab (bad p k):=⟨_,rfl⟩
 have hBRp:∀p,((List.range (nev ps p+1)).map fun k=>ab (bad p k))=BR p:=fun p=>by rw[hBR]
 simp only[hBRp] at hB hBl hBk hBn hTl ⊢
 clear hBR hBRp
 generalize ctlB ps l bad=R at *
 generalize (List.range ps.length).map (fun p=>AV.sl 1 (BR p))=BT at *
 obtain⟨O,hO⟩:∃O,O=aOrd ps S w:=⟨_,rfl⟩
 have hOf:AL.fo O=(True,O):=by rw[hO];rfl
 rw[← hO] at hex ⊢
 clear hO
 refine PC.enter 64 [.tmp 4] [] Proofs.Tryz.func36 rfl rfl rfl rfl rfl (by simp) (AWp.of ?_);simp only[go_sem]
 refine W2 hOf hTl ?_
 intro b5
 have hz':List.replicate ps.length (AV.v (Value.int IntKind.i64 0))=dnA ps.length fun _=>0:=hz
 rw[hz']
 refine AWp.block (AWp.loopN [] [0,1,5] (fun m vs L=>vs=[]∧∃c:Nat→Nat,L=[(b5,.row 3 1 (dnA ps.length c) ps.length)]∧(∀q,q<ps.length→c q≤nev ps q)∧UpX ps l bad c∧m=roomX ps c) (roomX ps fun _=>0) ⟨rfl,_,rfl,fun _ _=>Nat.zero_le _,h0,rfl⟩ ?_)
 rintro m vs L - ⟨rfl,c0,rfl,hc0,hu0,rfl⟩
 simp only[go_sem]
 repeat(first|((with_reducible refine AWp.ofC ?_ ?_);exact rfl;simp only[go_sem])|((with_reducible refine an ?_ ?_);exact Au))
 refine AWp.range' ps.length [6] [0,1,5,12] (fun p vs L=>∃(c:Nat→Nat) (mv:Bool),vs=[ab mv]∧L=[(b5,.row 3 1 (dnA ps.length c) ps.length)]∧(∀q,q<ps.length→c q≤nev ps q)∧UpX ps l bad c ∧
  (mv=false→c=c0∧∀q,q<p→bad q (c q)=true∧excB ps.length S c q=false)∧(mv=true→roomX ps c<roomX ps c0)) (by omega) rfl rfl rfl ⟨c0,false,rfl,rfl,hc0,hu0,fun _=>⟨rfl,fun _ h=>by omega⟩,fun h=>by cases h⟩ ?_ ?_
 ·rintro p vs L hp - ⟨c1,m1,rfl,rfl,hc1,hu1,hf1,ht1⟩
  simp only[go_sem]
  refine W1 hOf ?_
  refine AWp.seq (AWp.block (AWp.loopN [6] [0,1,5,7,12,13] (fun m vs L=>∃(c:Nat→Nat) (mv:Bool),vs=[ab mv]∧L=[(b5,.row 3 1 (dnA ps.length c) ps.length)]∧(∀q,q<ps.length→q ≠ p→c q≤nev ps q)∧c p≤nev ps p+1∧UpX ps l bad c ∧
   (mv=false→c=c0∧∀q,q<p→bad q (c q)=true∧excB ps.length S c q=false)∧(mv=true→roomX ps c<roomX ps c0)∧m=nev ps p+1 - c p) (nev ps p+1 - c1 p) ⟨c1,m1,rfl,rfl,fun q hq _=>hc1 q hq,Nat.le_succ_of_le (hc1 p hp),hu1,hf1,ht1,rfl⟩ ?_))
  rintro m vs L - ⟨c,mv,rfl,rfl,hcq,hcp,hu,hf,ht,rfl⟩
  have gc:=dnA_get hp c
  have gB:=hB p hp
  have hnp:=hnv p hp
  by_cases hcn:c p≤nev ps p
  ·have gk:=hBk p (c p) hcn
   have hx:=hex c (fun q hq=>by by_cases e:q=p;· subst e;exact hcn
                                ·exact hcq q hq e) p hp
   have hlt:(c p:Int)<((nev ps p+1:Nat):Int):=by omega
   have hvw:Vws [(b5,.row 3 1 (dnA ps.length c) ps.length)] [O,.ls b5 1 0 ps.length ps.length,ai p] [O,.sl 1 (dnA ps.length c),ai p]:=Vws.cons (.refl _) (Vws.cons (Vw.ofLs (t:=3) (cap:=ps.length) (if_pos rfl) (dnA_length _ _).symm) (Vws.refl _))
   simp only[go_sem]
   refine AWp.seq (AWp.seq ?_)
   repeat(first|(with_reducible refine AWp.seq ?_)|(with_reducible refine AWp.block ?_))
   refine AWp.read mixed [0,1,2,3,4,5,6,7,8,9,10,11,12,13,14,15,16,17,18,19,20,21,22,23,24,25,26,27,28] (by kernel_rfl) ?_;simp only[go_sem,gc,gB,gk,hBl,dnA_length,hTl,hOf,hlt]
   refine Sd ?_
   refine GCall.use (ab (excB ps.length S c p)) ?_ ?_
   ·intro _;exact⟨At,(PC.view hvw hx (Own.v _) ⟨rfl,rfl⟩).val⟩
   simp only[go_sem]
   refine Sd ?_
   have hset:(dnA ps.length c).set p (ai ((c p:Int)+1))=dnA ps.length (updN c p (c p+1)):=dnA_set (by rw[updN_self];omega) fun q hq=>updN_ne hq
   have hroom:=roomX_lt hp hcn
   generalize hxe:excB ps.length S c p=xe at *
   generalize hbe:bad p (c p)=be at *
   refine W1 hOf ?_
   refine⟨fun h1 => ?_,fun h1 => ?_⟩
   ·have hbx:be=false∨xe=true:=by
     cases be with
     | false=>exact .inl rfl
     | true=>exact .inr (by simpa using h1)
    repeat(first|((with_reducible refine AWp.ofC ?_ ?_);exact rfl;simp only[go_sem,gc,dnA_length,hset])|((with_reducible refine an ?_ ?_);exact Au))
    have hm:mv=false→roomX ps c≤roomX ps c0:=fun h=>by rw[(hf h).1];exact Nat.le_refl _
    refine⟨_,List.Sublist.refl _,_,?_,updN c p (c p+1),true,rfl,rfl,fun q hq hqp=>by rw[updN_ne hqp];exact hcq q hq hqp,by rw[updN_self];omega,hbump c hu p hp hcq (by rw[hbe,hxe];exact hbx),fun h=>(by cases h),fun _ => ?_,rfl⟩
    ·rw[updN_self];omega
    ·cases mv with
     | true=>have:=ht rfl;omega
     | false=>have:=hm rfl;omega
   ·intro h2
    have hne:¬(c p:Int)=((nev ps p+1:Nat):Int):=by omega
    have hall:∀q,q<ps.length→c q≤nev ps q:=fun q hq=>by
     by_cases e:q=p
     ·subst e;exact hcn
     ·exact hcq q hq e
    have hf':mv=false→c=c0∧∀q,q<p+1→bad q (c q)=true∧excB ps.length S c q=false:=fun hm=>by
     obtain⟨g1,g2⟩:=hf hm
     refine⟨g1,fun q hq => ?_⟩
     by_cases e:q=p
     ·subst e;rw[hbe,hxe];exact⟨h1,h2⟩
     ·exact g2 q (by omega)
    refine AWp.seq ?_
    repeat(first|(with_reducible refine AWp.seq ?_)|(with_reducible refine AWp.block ?_))
    refine AWp.read mixed [0,1,2,3,4,5,6,7,8,9] (by kernel_rfl) ?_;simp only[go_sem,gc,gB,hBl,dnA_length,hTl,hne]
    refine Sd ?_
    refine W2 hne hOf ?_
    exact⟨_,List.Sublist.refl _,c,mv,rfl,rfl,hall,hu,hf',ht⟩
  ·have hce:c p=nev ps p+1:=by omega
   have gk:(BR p).getD (c p) .any = .any:=by rw[hce];exact hBn p
   have hlt:¬(c p:Int)<((nev ps p+1:Nat):Int):=by omega
   have heq:(c p:Int)=((nev ps p+1:Nat):Int):=by omega
   simp only[go_sem]
   refine AWp.seq (AWp.seq ?_)
   repeat(first|(with_reducible refine AWp.seq ?_)|(with_reducible refine AWp.block ?_))
   refine AWp.read mixed [0,1,2,3,4,5,6,7,8,9,10,11,12,13,14,15,16,17,18,19,20,21,22,23,24,25,26,27,28] (by kernel_rfl) ?_;simp only[go_sem,gc,gB,gk,hBl,dnA_length,hTl,hOf,hlt]
   refine Sd ?_
   refine GCall.use (ab false) (fun h=>absurd h (by first|(simp;done)|trace_state)) ?_
   simp only[go_sem]
   refine Sd ?_
   refine Sd ?_
   refine AWp.of ?_;simp only[go_sem]
   refine AWp.seq ?_
   repeat(first|(with_reducible refine AWp.seq ?_)|(with_reducible refine AWp.block ?_))
   refine AWp.read mixed [0,1,2,3,4,5,6,7,8,9] (by kernel_rfl) ?_;simp only[go_sem,gc,gB,hBl,dnA_length,hTl,heq]
   refine Sd ?_
   rw[hout c hu p hp (by omega)]
   refine W1 hOf ?_
   refine ret_eq ?_;simp only[go_sem]
 ·rintro vs L - ⟨c,mv,rfl,rfl,hc1,hu1,hf1,ht1⟩
  simp only[go_sem]
  refine W1 hOf ?_
  refine⟨fun h1 => ?_,fun h1 => ?_⟩
  ·obtain⟨rfl,hs⟩:=hf1 (by simpa using h1)
   rw[hstop c hc1 fun p hp=>hs p hp]
   refine Wk ?_
   refine ret_eq ?_;simp only[go_sem]
  ·exact⟨_,List.Sublist.refl _,_,ht1 (by simpa using h1),c,rfl,hc1,hu1,rfl⟩
section
variable {ps:List Pr} {l:List Syn} {S:Nat→List (List Int)} (hv:validF ps=true) (hl:SynOk ps l) (hG:GenX ps l S)
include hv hl hG
end
end Go.AL
end
