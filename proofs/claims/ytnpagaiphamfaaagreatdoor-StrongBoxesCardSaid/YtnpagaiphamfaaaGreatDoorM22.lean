/- Texts of this claim's proof: WV9, WV14, WXr, WV20, WV21, WV22, WV23, WV24, WU9, WU10, WU12, WU13, WQe, WXg, WU14, WV25, WV27, WV28, WV29. No condition. -/
import Derived.Test.YtnpagaiphamfaaaGreatDoorM18
import Derived.Test.YtnpagaiphamfaaaGreatDoorM7
import Derived.Test.YtnpagaiphamfaaaGreatDoorM20
import Derived.Test.YtnpagaiphamfaaaGreatDoorM21
import Derived.Test.YtnpagaiphamfaaaGreatDoorM14
import Derived.Test.YtnpagaiphamfaaaGreatDoorM15
import Derived.Test.YtnpagaiphamfaaaGreatDoorM16
section
namespace Go.AL
open Go Go.RowKit
set_option maxRecDepth 4000
theorem ref38_Stretch (ps:List Pr) (hs:Sm ps) (s:Spn3):PC Proofs.Tryz.prog 40 [aTr ps,aSp s] (ab (!badSp ps s)):=by
 have hpl:=hs.procs
 obtain⟨p,f,t⟩:=s
 have hB:badSp ps (p,f,t)=(decide (p<0) || (decide ((ps.length:Int)≤p) || (decide (f<0) || (decide (t<f) || decide ((nev ps p.toNat:Int)<t))))):=rfl
 have hA:aSp (p,f,t) = .agg [ai p,ai f,ai t]:=rfl
 rw[hA]
 by_cases hp:p.toNat<ps.length
 ·have hgp:=getD_map (f:=aPr) hp
  have hn:=nev_get hp
  have hel:=hs.evs _ (List.getElem_mem hp)
  rw[hn] at hB
  generalize ps[p.toNat]=X at *
  refine PC.enter 41 [.tmp 4] [2,3] Proofs.Tryz.func40 rfl rfl rfl rfl rfl (by simp) (AWp.of ?_);simp only[go_sem]
  refine Wk ?_
  repeat(first|(with_reducible refine AWp.seq ?_)|(with_reducible refine AWp.block ?_))
  refine AWp.read mixed [0,1,2,3,4,5,6,7,8,9,10,11,12,13,14,15,16,17,18,19,20,21,22,23,24,25,26,27,28,29,30,31,32,33,34,35,36] (by kernel_rfl) ?_;simp only[go_sem,hgp]
  refine Sd ?_
  refine Wk ?_
  refine ret_eq ?_;simp only[go_sem]
  rw[hB]
  congr 2
  rw[Bool.eq_iff_iff]
  simp
  omega
 ·have hgp:(ps.map aPr).getD p.toNat .any = .any:=by rw[List.getD_eq_getElem?_getD,List.getElem?_eq_none (by simp;omega)];rfl
  have hbt:badSp ps (p,f,t)=true:=by rw[hB];simp;omega
  rw[hbt]
  by_cases h0:0≤p
  ·have hpn:¬p<(ps.length:Int):=by omega
   refine PC.enter 41 [.tmp 4] [2,3] Proofs.Tryz.func40 rfl rfl rfl rfl rfl (by simp) (AWp.of ?_);simp only[go_sem]
   refine Wk ?_
   repeat(first|(with_reducible refine AWp.seq ?_)|(with_reducible refine AWp.block ?_))
   refine AWp.read mixed [0,1,2,3,4,5,6,7,8,9,10,11,12,13,14,15,16,17,18,19,20,21,22,23,24,25,26,27,28,29,30,31,32,33,34,35,36] (by kernel_rfl) ?_;simp only[go_sem,hgp,List.getD_nil,hpn,decide_false,Bool.and_false]
   refine Sd ?_
   refine W1 hpn ?_
   refine ret_eq ?_;simp only[go_sem]
  ·refine PC.enter 41 [.tmp 4] [2,3] Proofs.Tryz.func40 rfl rfl rfl rfl rfl (by simp) (AWp.of ?_);simp only[go_sem]
   refine Wk ?_
   repeat(first|(with_reducible refine AWp.seq ?_)|(with_reducible refine AWp.block ?_))
   refine AWp.read mixed [0,1,2,3,4,5,6,7,8,9,10,11,12,13,14,15,16,17,18,19,20,21,22,23,24,25,26,27,28,29,30,31,32,33,34,35,36] (by kernel_rfl) ?_;simp only[go_sem,hgp,List.getD_nil,h0,decide_false]
   refine Sd ?_
   refine W1 h0 ?_
   refine ret_eq ?_;simp only[go_sem]
open Classical in
theorem ref38_Begins (ps:List Pr) (hs:Sm ps) (hv:validF ps=true) (a o:Stp) (ha:SpIn ps a) (ho:SpIn ps o) (hao:a.1 ≠ o.1):PC Proofs.Tryz.prog 41 [aTr ps,aStp a,aStp o] (ab (bgN ps a o)):=by
 obtain⟨p,f,t⟩:=a
 obtain⟨q,f',t'⟩:=o
 obtain⟨h1,h2,h3⟩:=ha
 obtain⟨k1,k2,k3⟩:=ho
 have h1:p<ps.length:=h1
 have h2:f≤t:=h2
 have h3:t≤nev ps p:=h3
 have k1:q<ps.length:=k1
 have k3:t'≤nev ps q:=k3
 have hao:p ≠ q:=hao
 have hb:bgN ps (p,f,t) (q,f',t')=(decide (f=0) || (decide (t'=nev ps q) || decide ((f:Int)≤cAt (ptF ps q t') p))):=rfl
 have hA:aStp (p,f,t) = .agg [ai p,ai f,ai t]:=rfl
 have hO:aStp (q,f',t') = .agg [ai q,ai f',ai t']:=rfl
 rw[hA,hO]
 have hgq:=getD_map (f:=aPr) k1
 have hnq:=nev_get k1
 have hnp:=nev_get h1
 have hpl:=hs.procs
 have helq:=hs.evs _ (List.getElem_mem k1)
 by_cases hc:f=0∨t'=nev ps q
 ·have hbt:bgN ps (p,f,t) (q,f',t')=true:=by
   rw[hb]
   rcases hc with hc|hc
   ·rw[decide_eq_true hc];rfl
   ·rw[decide_eq_true hc];simp
  rw[hbt]
  rw[hnq] at hc k3
  generalize ps[q]=X at *
  refine PC.enter 39 [.tmp 6] [3,4,5] Proofs.Tryz.func41 rfl rfl rfl rfl rfl (by simp) (AWp.of ?_);simp only[go_sem]
  refine Wk ?_
  repeat(first|(with_reducible refine AWp.seq ?_)|(with_reducible refine AWp.block ?_))
  refine AWp.read mixed [0,1,2,3,4,5,6,7,8,9,10,11,12,13,14,15] (by kernel_rfl) ?_;simp only[go_sem,hgq]
  refine Sd ?_
  refine Wk ?_
  refine⟨fun h => ?_,fun h4 h5 => ?_⟩
  ·refine Wk ?_
   refine ret_eq ?_;simp only[go_sem]
  ·omega
 ·have hf0:f ≠ 0:=fun e=>hc (.inl e)
  have htn:t'<ps[q].evs.length:=by
   have:t' ≠ nev ps q:=fun e=>hc (.inr e)
   omega
  obtain⟨j,rfl⟩:∃j,f=j+1:=⟨f - 1,by omega⟩
  have hj:j<ps[p].evs.length:=by omega
  rw[decide_eq_false hf0,Bool.false_or,decide_eq_false (by omega),Bool.false_or] at hb
  have hm:=(valid_parts hv).2.2
  have hl1:=(valid_len hv).1
  have hpa:=ref12_Past ps hs hm hl1 q k1 t' htn
  rw[pastA_eq] at hpa
  have hrr:=pastR_get ((q:Int),(t':Int)+1) h1 hj
  have hre:=reach_pt hv h1 k1 hao htn hj
  have hbb:decide (Reach ps ((p:Int),(j:Int)+1) ((q:Int),(t':Int)+1))=bgN ps (p,j+1,t) (q,f',t'):=by
   rw[hb,decide_eq_decide];exact hre
  have hRr:(pastR ps ((q:Int),(t':Int)+1) p).getD (j+1) .any=ab (bgN ps (p,j+1,t) (q,f',t')):=by
   have e:((j:Int)+1).toNat=j+1:=by omega
   rw[e] at hrr
   rw[hrr,hbb]
  have hRl:(pastR ps ((q:Int),(t':Int)+1) p).length=nev ps p+1:=by unfold pastR;simp
  have hMl:((List.range ps.length).map fun p=>AV.sl 1 (pastR ps ((q:Int),(t':Int)+1) p)).length=ps.length:=by simp
  have hMg:((List.range ps.length).map fun p=>AV.sl 1 (pastR ps ((q:Int),(t':Int)+1) p)).getD p .any = .sl 1 (pastR ps ((q:Int),(t':Int)+1) p):=map_range_getD h1 _
  generalize (List.range ps.length).map (fun p=>AV.sl 1 (pastR ps ((q:Int),(t':Int)+1) p))=M at *
  generalize pastR ps ((q:Int),(t':Int)+1) p=Rw at *
  generalize bgN ps (p,j+1,t) (q,f',t')=B at *
  have hj1:¬((j+1:Nat):Int)=0:=by omega
  have hjt:(((j+1:Nat):Int)).toNat=j+1:=by omega
  have htt:¬(t':Int)=(ps[q].evs.length:Int):=by omega
  change PC _ _ [_,.agg [ai q,ai ((t':Int)+1)]] _ at hpa
  generalize ps[q]=X at *
  refine PC.enter 39 [.tmp 6] [3,4,5] Proofs.Tryz.func41 rfl rfl rfl rfl rfl (by simp) (AWp.of ?_);simp only[go_sem]
  refine Wk ?_
  repeat(first|(with_reducible refine AWp.seq ?_)|(with_reducible refine AWp.block ?_))
  refine AWp.read mixed [0,1,2,3,4,5,6,7,8,9,10,11,12,13,14,15] (by kernel_rfl) ?_;simp only[go_sem,hgq]
  refine Sd ?_
  refine Wk ?_
  intro h4 h5
  repeat(first|(with_reducible refine AWp.seq ?_)|(with_reducible refine AWp.block ?_))
  refine AWp.read mixed [0,1,2,3,4,5,6,7,8,9,10,11,12,13,14,15,16] (by kernel_rfl) ?_;simp only[go_sem]
  refine Sd ?_
  refine GCall.use (.sl 1 M) (fun _=>⟨At,(hpa).val.use ⟨rfl,rfl⟩⟩) ?_;simp only[go_sem,hMg,hRr,hjt]
  refine Sd ?_
  refine Wk ?_
  refine ret_eq ?_;simp only[go_sem]
end Go.AL
end
section
namespace Go.AL
open Go Go.RowKit
set_option maxRecDepth 4000
theorem ref38_Overlap_bad {ps:List Pr} (hva:PC Proofs.Tryz.prog 39 [aTr ps] (ab false)) (l:List Spn3):PC Proofs.Tryz.prog 9 [aTr ps,aSps l] (.tup [ab false,ai 1]):=by
 have hR:aSps l = .sl 3 (l.map aSp):=rfl
 rw[hR]
 refine PC.enter 80 [.tmp 4,.tmp 5] [2] Proofs.Tryz.func9 rfl rfl rfl rfl rfl (by simp) (AWp.of ?_);simp only[go_sem]
 refine Wk ?_
 refine Sd ?_
 refine(hva).val.use ?_;simp only[go_sem]
 refine Wk ?_
 refine ret_eq ?_;simp only[go_sem]
theorem dup_at {l:List Spn3} {i k:Nat} (hi:i<l.length) (hk:k<i) (h:l[i].1=(l[k]'(by omega)).1):dupSp l i=true:=by
 unfold dupSp
 refine List.any_eq_true.2 ⟨l[k]'(by omega),List.mem_take_iff_getElem.2 ⟨k,by omega,rfl⟩,decide_eq_true ?_⟩
 rw[List.getD_eq_getElem?_getD,List.getElem?_eq_getElem hi,Option.getD_some,h]
theorem dup_no {l:List Spn3} {i:Nat} (hi:i<l.length) (h:∀k (hk:k<i),l[i].1 ≠ (l[k]'(by omega)).1):dupSp l i=false:=by
 unfold dupSp
 rw[List.any_eq_false]
 intro x hx
 obtain⟨k,hk,rfl⟩:=List.mem_take_iff_getElem.1 hx
 rw[decide_eq_true_eq,List.getD_eq_getElem?_getD,List.getElem?_eq_getElem hi,Option.getD_some]
 exact fun e=>h k (by omega) e.symm
set_option maxHeartbeats 1000000 in
theorem ref38_Overlap (ps:List Pr) (hs:Sm ps) (l:List Spn3) (hl:l.length≤9223372036854775806):PC Proofs.Tryz.prog 9 [aTr ps,aSps l] (.tup [ab (decide (gvnE ps l=0) && ovF ps (l.map spN)),ai (gvnE ps l)]):=by
 have h1:=ref12_Valid ps hs
 have hR:aSps l = .sl 3 (l.map aSp):=rfl
 cases hv:validF ps with
 | false =>
  have hE:gvnE ps l=1:=by unfold gvnE;rw[hv];rfl
  rw[hv] at h1
  rw[hE]
  exact ref38_Overlap_bad h1 l
 | true =>
  rw[hv] at h1
  have hE0:gvnE ps l=if 1000<l.length then 5 else if l.any (badSp ps)=true then 2 else if (List.range l.length).any (dupSp l)=true then 8 else 0:=by unfold gvnE;rw[hv,if_pos rfl]
  rw[hR]
  by_cases hlen:1000<l.length
  ·have hli:(1000:Int)<(l.length:Int):=by omega
   rw[hE0,if_pos hlen]
   refine PC.enter 80 [.tmp 4,.tmp 5] [2] Proofs.Tryz.func9 rfl rfl rfl rfl rfl (by simp) (AWp.of ?_);simp only[go_sem]
   refine Wk ?_
   refine Sd ?_
   refine(h1).val.use ?_;simp only[go_sem]
   refine W1 hli ?_
   refine ret_eq ?_;simp only[go_sem]
   rfl
  ·have hli:¬(1000:Int)<(l.length:Int):=by omega
   rw[if_neg hlen] at hE0
   have hovI:=ov_iff (ps:=ps) (l:=l.map spN)
   generalize hov:ovF ps (l.map spN)=OV at *
   generalize gvnE ps l=E at *
   refine PC.enter 80 [.tmp 4,.tmp 5] [2] Proofs.Tryz.func9 rfl rfl rfl rfl rfl (by simp) (AWp.of ?_);simp only[go_sem]
   refine Wk ?_
   refine Sd ?_
   refine(h1).val.use ?_;simp only[go_sem]
   refine W1 hli ?_
   refine(AWp.block (AWp.count 6 l.length [] [1,2] (fun i vs L=>L=[]∧∀j (hj:j<l.length),j<i→badSp ps l[j]=false) rfl rfl ⟨rfl,fun _ _ h=>by omega⟩ ?_))
   rintro i vs L hil - ⟨rfl,hI⟩
   simp only[go_sem]
   by_cases hi:i<l.length
   ·have hii:(i:Int)<l.length:=by omega
    have hgi:=getD_map (f:=aSp) hi
    have hst:=ref38_Stretch ps hs l[i]
    have hbad:badSp ps l[i]=true→E=2:=fun h=>by
     rw[hE0,if_pos (List.any_eq_true.2 ⟨_,List.getElem_mem hi,h⟩)]
    have hI2:badSp ps l[i]=false→∀j (hj:j<l.length),j<i+1→badSp ps l[j]=false:=fun h j hj hji=>by
     by_cases e:j=i
     ·subst e;exact h
     ·exact hI j hj (by omega)
    clear hI
    generalize badSp ps l[i]=B at *
    generalize l[i]=s at *
    obtain⟨p,f,t⟩:=s
    have hgi:(l.map aSp).getD i .any = .agg [ai p,ai f,ai t]:=hgi
    change PC _ _ [_,.agg [ai p,ai f,ai t]] _ at hst
    refine W1 hii ?_
    repeat(first|(with_reducible refine AWp.seq ?_)|(with_reducible refine AWp.block ?_))
    refine AWp.read mixed [0,1,2,3,4,5,6] (by kernel_rfl) ?_;simp only[go_sem,hgi,hii]
    refine Sd ?_
    refine GCall.use (ab (!B)) (fun _=>⟨At,(hst).val.use ⟨rfl,rfl⟩⟩) ?_;simp only[go_sem]
    refine Sd ?_
    cases B with
    | true =>
     rw[hbad rfl]
     refine Wk ?_
     refine ret_eq ?_;simp only[go_sem]
     rfl
    | false =>
     refine Wk ?_
     exact⟨_,List.Sublist.refl _,rfl,hI2 rfl⟩
   ·have hii:¬(i:Int)<l.length:=by omega
    have hall:∀s ∈ l,badSp ps s=false:=fun s hs=>by
     obtain⟨j,hj,rfl⟩:=List.getElem_of_mem hs
     exact hI j hj (by omega)
    have hnb:¬l.any (badSp ps)=true:=by
     rw[Bool.not_eq_true,List.any_eq_false]
     intro x hx
     rw[hall x hx];decide
    rw[if_neg hnb] at hE0
    clear hI hnb
    refine W1 hii ?_
    refine(AWp.block (AWp.count 7 l.length [] [1,2] (fun i vs L=>L=[]∧∀j,j<i→dupSp l j=false) rfl rfl ⟨rfl,fun _ h=>by omega⟩ ?_))
    rintro i vs L hil - ⟨rfl,hJ⟩
    simp only[go_sem]
    by_cases hi:i<l.length
    ·have hii:(i:Int)<l.length:=by omega
     have htw:dupSp l i=true→E=8:=fun h=>by
      rw[hE0,if_pos (List.any_eq_true.2 ⟨i,List.mem_range.2 hi,h⟩)]
     have hJ2:dupSp l i=false→∀j,j<i+1→dupSp l j=false:=fun h j hji=>by
      by_cases e:j=i
      ·subst e;exact h
      ·exact hJ j (by omega)
     have hda:=fun k hk h=>dup_at (l:=l) (i:=i) (k:=k) hi hk h
     have hdn:=dup_no (l:=l) hi
     clear hJ
     refine W1 hii ?_
     refine(AWp.block (AWp.count 8 i [] [1,2,7] (fun k vs L=>L=[]∧∀k' (hk:k'<i),k'<k→l[i].1 ≠ (l[k']'(by omega)).1) rfl rfl ⟨rfl,fun _ _ h=>by omega⟩ ?_))
     rintro k vs L hki - ⟨rfl,hK⟩
     simp only[go_sem]
     by_cases hk:k<i
     ·have hkk:(k:Int)<(i:Int):=by omega
      have hgi:=getD_map (f:=aSp) hi
      have hgk:=getD_map (f:=aSp) (l:=l) (k:=k) (by omega)
      have hd:=hda k hk
      have hK2:l[i].1 ≠ (l[k]'(by omega)).1→∀k' (hk:k'<i),k'<k+1→l[i].1 ≠ (l[k']'(by omega)).1:=fun h k' hk' h'=>by
       by_cases e:k'=k
       ·subst e;exact h
       ·exact hK k' hk' (by omega)
      have ei:aSp l[i] = .agg [ai l[i].1,ai l[i].2.1,ai l[i].2.2]:=rfl
      have ek:aSp (l[k]'(by omega)) = .agg [ai (l[k]'(by omega)).1,ai (l[k]'(by omega)).2.1,ai (l[k]'(by omega)).2.2]:=rfl
      rw[ei] at hgi
      rw[ek] at hgk
      refine W1 hkk ?_
      repeat(first|(with_reducible refine AWp.seq ?_)|(with_reducible refine AWp.block ?_))
      refine AWp.read mixed [0,1,2,3,4,5,6,7,8,9,10] (by kernel_rfl) ?_;simp only[go_sem,hgi,hgk]
      refine Sd ?_
      refine W1 hkk ?_
      refine⟨fun h => ?_,fun h => ?_⟩
      ·rw[htw (hd h)]
       refine Wk ?_
       refine ret_eq ?_;simp only[go_sem]
       rfl
      ·refine Wk ?_
       exact⟨_,List.Sublist.refl _,rfl,hK2 h⟩
     ·have hkk:¬(k:Int)<(i:Int):=by omega
      have hdf:=hdn fun k' hk'=>hK k' hk' (by omega)
      refine W1 hkk ?_
      exact⟨_,List.Sublist.refl _,rfl,hJ2 hdf⟩
    ·have hii:¬(i:Int)<l.length:=by omega
     have hnd:¬(List.range l.length).any (dupSp l)=true:=by
      rw[Bool.not_eq_true,List.any_eq_false]
      intro x hx
      rw[hJ x (by have:=List.mem_range.1 hx;omega)];decide
     have hdist:∀i k (hi:i<l.length) (hk:k<l.length),i ≠ k→l[i].1 ≠ l[k].1:=fun a c ha hc hac e=>by
      rcases Nat.lt_or_gt_of_ne hac with h|h
      ·have:=dup_at (l:=l) (i:=c) (k:=a) hc h e.symm
       rw[hJ c (by omega)] at this;cases this
      ·have:=dup_at (l:=l) (i:=a) (k:=c) ha h e
       rw[hJ a (by omega)] at this;cases this
     rw[if_neg hnd] at hE0
     subst hE0
     rw[decide_eq_true rfl,Bool.true_and]
     clear hJ hnd
     obtain⟨_,hin⟩:=sps_stp hall
     have hel:∀i (hi:i<l.length),SpIn ps (spN l[i])∧aSp l[i]=aStp (spN l[i])∧(spN l[i]).1=l[i].1:=fun i hi=>by
      obtain⟨a1,a2,a3⟩:=bad_not (hall l[i] (List.getElem_mem hi))
      exact⟨a1,a2,by rw[congrArg Prod.fst a3];rfl⟩
     have hnl:(l.map spN).length=l.length:=List.length_map _
     have hov1:(∀i k (hi:i<l.length) (hk:k<l.length),i ≠ k→bgN ps (spN l[i]) (spN l[k])=true)→OV=true:=fun h=>by
      rw[hovI]
      intro i k hi hk hik
      rw[List.getElem_map,List.getElem_map]
      exact h i k (by omega) (by omega) hik
     have hov0:∀i k (hi:i<l.length) (hk:k<l.length),i ≠ k→bgN ps (spN l[i]) (spN l[k])=false→OV=false:=fun i k hi hk hik h=>by
      cases hO:OV with
      | false=>rfl
      | true =>
       have:=hovI.1 hO i k (by omega) (by omega) hik
       rw[List.getElem_map,List.getElem_map,h] at this;cases this
     have hbg:∀i k (hi:i<l.length) (hk:k<l.length),i ≠ k→PC Proofs.Tryz.prog 41 [aTr ps,aSp l[i],aSp l[k]] (ab (bgN ps (spN l[i]) (spN l[k]))):=fun i k hi hk hik=>by
      obtain⟨a1,a2,a3⟩:=hel i hi
      obtain⟨c1,c2,c3⟩:=hel k hk
      rw[a2,c2]
      exact ref38_Begins ps hs hv _ _ a1 c1 fun e=>hdist i k hi hk hik (by rw[← a3,← c3,e])
     clear hovI hov hin hall hdist hel
     refine W1 hii ?_
     refine(AWp.block (AWp.count 9 l.length [] [1,2] (fun i vs L=>L=[]∧∀a c (ha:a<l.length) (hc:c<l.length),a<i→a ≠ c→bgN ps (spN l[a]) (spN l[c])=true) rfl rfl ⟨rfl,fun _ _ _ _ h=>by omega⟩ ?_))
     rintro i vs L hil - ⟨rfl,hA⟩
     simp only[go_sem]
     by_cases hi:i<l.length
     ·have hii:(i:Int)<l.length:=by omega
      have hA2:(∀c (hc:c<l.length),i ≠ c→bgN ps (spN l[i]) (spN l[c])=true)→∀a c (ha:a<l.length) (hc:c<l.length),a<i+1→a ≠ c→bgN ps (spN l[a]) (spN l[c])=true:=fun h a c ha hc hai hac=>by
       by_cases e:a=i
       ·subst e;exact h c hc hac
       ·exact hA a c ha hc (by omega) hac
      clear hA
      refine W1 hii ?_
      refine(AWp.block (AWp.count 10 l.length [] [1,2,9] (fun k vs L=>L=[]∧∀c (hc:c<l.length),c<k→i ≠ c→bgN ps (spN l[i]) (spN l[c])=true) rfl rfl ⟨rfl,fun _ _ h=>by omega⟩ ?_))
      rintro k vs L hkl - ⟨rfl,hB⟩
      simp only[go_sem]
      by_cases hk:k<l.length
      ·have hkk:(k:Int)<l.length:=by omega
       have hgi:=getD_map (f:=aSp) hi
       have hgk:=getD_map (f:=aSp) hk
       have hb:=hbg i k hi hk
       have h0:=hov0 i k hi hk
       have hB2:(i ≠ k→bgN ps (spN l[i]) (spN l[k])=true)→∀c (hc:c<l.length),c<k+1→i ≠ c→bgN ps (spN l[i]) (spN l[c])=true:=fun h c hc hck hic=>by
        by_cases e:c=k
        ·subst e;exact h hic
        ·exact hB c hc (by omega) hic
       have ei:aSp l[i] = .agg [ai l[i].1,ai l[i].2.1,ai l[i].2.2]:=rfl
       have ek:aSp l[k] = .agg [ai l[k].1,ai l[k].2.1,ai l[k].2.2]:=rfl
       rw[ei] at hgi hb
       rw[ek] at hgk hb
       clear hB hbg hov0
       generalize bgN ps (spN l[i]) (spN l[k])=BB at *
       refine W1 hkk ?_
       by_cases hik:i=k
       ·have hki:(i:Int)=(k:Int):=by omega
        repeat(first|(with_reducible refine AWp.seq ?_)|(with_reducible refine AWp.block ?_))
        refine AWp.read mixed [0,1,2,3,4,5,6,7,8,9,10,11,12,13,14,15] (by kernel_rfl) ?_;simp only[go_sem,hgk,hkk,hki]
        refine Sd ?_
        refine GCall.use .any (fun h=>absurd h (by simp)) ?_
        simp only[go_sem]
        refine W2 hki hkk ?_
        exact⟨_,List.Sublist.refl _,rfl,hB2 fun h=>absurd hik h⟩
       ·have hki:¬(i:Int)=(k:Int):=by omega
        have hb:=hb hik
        repeat(first|(with_reducible refine AWp.seq ?_)|(with_reducible refine AWp.block ?_))
        refine AWp.read mixed [0,1,2,3,4,5,6,7,8,9,10,11,12,13,14,15] (by kernel_rfl) ?_;simp only[go_sem,hgi,hgk,hkk,hki]
        refine Sd ?_
        refine Sd ?_
        refine GCall.use (ab BB) (fun _=>⟨At,(hb).val.use ⟨rfl,rfl⟩⟩) ?_;simp only[go_sem]
        refine Sd ?_
        cases BB with
        | true =>
         refine W2 hki hkk ?_
         exact⟨_,List.Sublist.refl _,rfl,hB2 fun _=>rfl⟩
        | false =>
         rw[h0 hik rfl]
         refine W2 hki hkk ?_
         refine ret_eq ?_;simp only[go_sem]
      ·have hkk:¬(k:Int)<l.length:=by omega
       have hA3:=hA2 fun c hc hic=>hB c hc (by omega) hic
       refine W1 hkk ?_
       exact⟨_,List.Sublist.refl _,rfl,hA3⟩
     ·have hii:¬(i:Int)<l.length:=by omega
      rw[hov1 fun a c ha hc hac=>hA a c ha hc (by omega) hac]
      refine W1 hii ?_
      refine ret_eq ?_;simp only[go_sem]
theorem strong_ascending (ps:List Pr) (hps:ps.length≤1000000) (l:List Spn3) (_hl:l.length≤9223372036854775806):PC Proofs.Tryz.prog 33 [aTr ps,aSps l] (ab (eachB ps l)):=by
 have hR:aSps l = .sl 3 (l.map aSp):=rfl
 have hE:eachB ps l=(decide (l.length=ps.length) && (List.range l.length).all fun i=>decide ((l.getD i (0,0,0)).1=i)):=rfl
 rw[hR]
 generalize eachB ps l=E at *
 by_cases hlp:l.length=ps.length
 ·have hli:(l.length:Int)=ps.length:=by omega
  rw[decide_eq_true hlp,Bool.true_and] at hE
  refine PC.enter 25 [.tmp 4] [2,6] Proofs.Tryz.func33 rfl rfl rfl rfl rfl (by simp) (AWp.of ?_);simp only[go_sem]
  refine W1 hli ?_
  refine(AWp.range' ps.length [] [13,14] (fun k vs L=>L=[]∧∀j,j<k→(l.getD j (0,0,0)).1=j) (by omega) rfl rfl rfl ⟨rfl,fun _ h=>by omega⟩ ?_ ?_)
  ·rintro k vs L hk - ⟨rfl,hI⟩
   have hkl2:k<l.length:=by omega
   have hg:=getD_map (f:=aSp) hkl2
   have hg2:l.getD k (0,0,0)=l[k]:=by rw[List.getD_eq_getElem?_getD,List.getElem?_eq_getElem hkl2,Option.getD_some]
   have ei:aSp l[k] = .agg [ai l[k].1,ai l[k].2.1,ai l[k].2.2]:=rfl
   rw[ei] at hg
   simp only[go_sem]
   by_cases he:l[k].1=(k:Int)
   ·refine W3 hli hg he ?_
    intros
    refine W3 hli hg he ?_
    refine⟨_,List.Sublist.refl _,rfl,fun j hj => ?_⟩
    by_cases e:j=k
    ·subst e;rw[hg2];exact he
    ·exact hI j (by omega)
   ·have:E=false:=by
     rw[hE,List.all_eq_false]
     exact⟨k,List.mem_range.2 hkl2,by rw[hg2,decide_eq_true_eq];exact he⟩
    rw[this]
    refine W3 hli hg he ?_
    intros
    refine W3 hli hg he ?_
    refine ret_eq ?_;simp only[go_sem]
  ·rintro vs L - ⟨rfl,hI⟩
   have:E=true:=by
    rw[hE,List.all_eq_true]
    intro j hj
    exact decide_eq_true (hI j (by have:=List.mem_range.1 hj;omega))
   rw[this]
   simp only[go_sem]
   refine W1 hli ?_
   refine ret_eq ?_;simp only[go_sem]
 ·have hli:¬(l.length:Int)=ps.length:=by omega
  rw[decide_eq_false hlp,Bool.false_and] at hE
  rw[hE]
  refine PC.enter 25 [.tmp 4] [2,6] Proofs.Tryz.func33 rfl rfl rfl rfl rfl (by simp) (AWp.of ?_);simp only[go_sem]
  refine W1 hli ?_
  refine ret_eq ?_;simp only[go_sem]
section
variable {b:Nat→Bool} {p K:Nat} {l:List Stp}
end
section
variable {ps:List Pr} {ts:List Pd} (hC:conF ps ts=0)
include hC
end
def InB (ps:List Pr) (s:Nat→Stp) (c:List Int):Prop:=∀p,p<ps.length→((s p).2.1:Int)≤cAt c p∧cAt c p≤((s p).2.2:Int)
structure TgB (ps:List Pr) (s:Nat→Stp):Prop where
 el:∀p,p<ps.length→(s p).2.1≤(s p).2.2∧(s p).2.2≤nev ps p∧(s p).1=p
 bg:∀p q,p<ps.length→q<ps.length→p ≠ q→bgN ps (s p) (s q)=true
theorem cut_at {ps:List Pr} {c:List Int} (hc:isF ps c=true) {p:Nat} (hp:p<ps.length):0≤cAt c p∧cAt c p≤nev ps p:=by
 rw[nev_get hp]
 exact(inRange_iff (isF_iff.1 hc).1).1 (isF_iff.1 hc).2.1 p hp
section
variable {ps:List Pr} (hv:validF ps=true) {s:Nat→Stp} (hT:TgB ps s)
include hv hT
end
section
variable {ps:List Pr} (hv:validF ps=true) {s:Nat→Stp} (hT:TgB ps s)
include hv hT
theorem low_at {q:Nat} (hq:q<ps.length) (h0:0<(s q).2.1):∀j,j<ps.length→cAt (ptF ps q ((s q).2.1 - 1)) j≤((s j).2.2:Int):=fun j hj=>by
 have h1:=hT.el q hq
 have h2:=hT.el j hj
 have hi:(s q).2.1 - 1<nev ps q:=by omega
 have hci:=pt_isN hv hq hi
 have hcj:=cut_at hci hj
 by_cases e:q=j
 ·subst e
  rw[pt_self hv hq hi];omega
 ·refine Int.not_lt.1 fun hlt => ?_
  have hjn:(s j).2.2<nev ps j:=by omega
  have hb:=hT.bg q j hq hj e
  unfold bgN at hb
  rw[Bool.or_eq_true,Bool.or_eq_true,decide_eq_true_eq,decide_eq_true_eq,decide_eq_true_eq,h1.2.2,h2.2.2] at hb
  have hb:((s q).2.1:Int)≤cAt (ptF ps j (s j).2.2) q:=by
   rcases hb with hb|hb|hb
   ·omega
   ·omega
   ·exact hb
  have g1:=pt_trans hv hq hj (i:=(s q).2.1 - 1) hjn (by omega)
  have g2:=pt_trans hv hj hq (i:=(s j).2.2) hi (by omega)
  have l1:=(isF_iff.1 hci).1
  have l2:=(isF_iff.1 (pt_isN hv hj hjn)).1
  obtain⟨a1,a2⟩:=leq_sum ((leq_at l1 l2).2 g1)
  obtain⟨b1,_⟩:=leq_sum ((leq_at l2 l1).2 g2)
  have heq:=a2 (by omega)
  have hr:=(irr_pt hv hj (i:=(s j).2.2) (by rw[nev_get hj] at hjn;exact hjn)).2.2
  rw[← heq] at hr
  exact e (rem_pt hv hq (by rw[nev_get hq] at hi;exact hi) hj hr).1.symm
theorem low_ex:∃d,isF ps d=true∧InB ps s d:=by
 have key:∀k,k≤ps.length→∃d,isF ps d=true∧(∀p,p<k→((s p).2.1:Int)≤cAt d p)∧∀p,p<ps.length→cAt d p≤((s p).2.2:Int):=fun k=>by
  induction k with
  | zero=>exact fun _=>⟨zeroC ps,zeroC_is ps,fun p hp=>absurd hp (Nat.not_lt_zero p),fun p hp=>by unfold zeroC;rw[cAt_nat (by simpa using hp)];simp⟩
  | succ k ih =>
   intro hk
   obtain⟨d,h1,h2,h3⟩:=ih (by omega)
   by_cases h0:(s k).2.1=0
   ·refine⟨d,h1,fun p hp => ?_,h3⟩
    by_cases e:p=k
    ·subst e;have:=cut_at h1 (p:=p) (by omega);omega
    ·exact h2 p (by omega)
   ·have hel:=hT.el k (by omega)
    have hx:=pt_isN hv (show k<ps.length by omega) (show (s k).2.1 - 1<nev ps k by omega)
    have hlo:=low_at hv hT (show k<ps.length by omega) (by omega)
    have hse:=pt_self hv (show k<ps.length by omega) (show (s k).2.1 - 1<nev ps k by omega)
    have l1:=(isF_iff.1 h1).1
    have l2:=(isF_iff.1 hx).1
    generalize ptF ps k ((s k).2.1 - 1)=x at *
    refine⟨joinL d x,(isF_given hv).1 (join_given ((isF_given hv).2 h1) ((isF_given hv).2 hx)),fun p hp => ?_,fun p hp => ?_⟩
    ·rw[join_cAt (by omega) (by omega)]
     by_cases e:p=k
     ·subst e;split <;> omega
     ·have:=h2 p (by omega)
      split <;> omega
    ·rw[join_cAt (by omega) (by omega)]
     have:=h3 p hp
     have:=hlo p hp
     split <;> omega
 obtain⟨d,h1,h2,h3⟩:=key ps.length (Nat.le_refl _)
 exact⟨d,h1,fun p hp=>⟨h2 p hp,h3 p hp⟩⟩
end
def frmL (n:Nat) (s:Nat→Stp):List Int:=(List.range n).map fun p=>((s p).2.1:Int)
theorem frm_len (n:Nat) (s:Nat→Stp):(frmL n s).length=n:=by simp [frmL]
theorem frm_at {n:Nat} {s:Nat→Stp} {p:Nat} (hp:p<n):cAt (frmL n s) p=(s p).2.1:=by
 rw[cAt_nat (by rw[frm_len];exact hp)];simp [frmL]
theorem frm_in {ps:List Pr} {s:Nat→Stp} (h:∀p,p<ps.length→(s p).2.1≤nev ps p):inRangeF ps (frmL ps.length s)=true:=by
 refine(inRange_iff (frm_len _ _)).2 fun p hp => ?_
 have:=h p hp
 rw[nev_get hp] at this
 rw[frm_at hp];omega
theorem close_is {ps:List Pr} (hv:validF ps=true) {c:List Int} (hc:c.length=ps.length) (hr:inRangeF ps c=true):isF ps (closeF ps c)=true :=
 isF_iff.2 ⟨(closeF_ok hv hc hr).1,(closeF_ok hv hc hr).2.1,closeF_closed hv hc hr⟩
theorem low_close {ps:List Pr} (hv:validF ps=true) {s:Nat→Stp} (hf:∀p,p<ps.length→(s p).2.1≤nev ps p) {d:List Int} (hd:isF ps d=true) (hI:InB ps s d) :
  (isF ps (closeF ps (frmL ps.length s))=true∧InB ps s (closeF ps (frmL ps.length s)))∧∀p,p<ps.length→cAt (closeF ps (frmL ps.length s)) p≤cAt d p:=by
 have hr:=frm_in hf
 have hl:=frm_len ps.length s
 have h1:=closeF_ge hv hl hr
 have h2:=closeF_least hv (isF_iff.1 hd).1 (isF_iff.1 hd).2.2 hl hr fun p hp=>by rw[frm_at hp];exact(hI p hp).1
 refine⟨⟨close_is hv hl hr,fun p hp=>⟨?_,Int.le_trans (h2 p hp) (hI p hp).2⟩⟩,h2⟩
 have:=h1 p hp
 rw[frm_at hp] at this
 exact this
theorem ord_head {l:List (List Int)} (ho:l.Pairwise ordL) {x:List Int} (hx:x ∈ l) (hle:∀y ∈ l,leqF x y=true):l.head?=some x:=by
 cases l with
 | nil=>cases hx
 | cons a l =>
  rw[List.head?_cons]
  rcases List.mem_cons.1 hx with h|h
  ·rw[h]
  ·exfalso
   have h1:=List.rel_of_pairwise_cons ho h
   obtain⟨g1,g2⟩:=leq_sum (hle a (by simp))
   rcases h1 with h1|⟨h1,h2⟩
   ·omega
   ·have:=g2 h1.symm
    subst this
    exact ordL_irr (.inr ⟨h1,h2⟩)
def outB (l:List Spn3) (c:List Int):Bool:=l.any fun s=>decide (cAt c s.1<s.2.1) || decide (s.2.2<cAt c s.1)
def inBx (l:List Spn3) (c:List Int):Bool:=(List.range c.length).all fun p => !(decide (cAt c p<(l.getD p (0,0,0)).2.1) || decide ((l.getD p (0,0,0)).2.2<cAt c p))
noncomputable def boxF (ps:List Pr) (l:List Spn3):List (List Int):=(cutsF ps).filter (inBx l)
theorem each_at {ps:List Pr} {l:List Spn3} (he:eachB ps l=true):l.length=ps.length∧∀i (hi:i<l.length),l[i].1=i:=by
 unfold eachB at he
 rw[Bool.and_eq_true,decide_eq_true_eq,List.all_eq_true] at he
 refine⟨he.1,fun i hi => ?_⟩
 have:=of_decide_eq_true (he.2 i (List.mem_range.2 hi))
 rw[List.getD_eq_getElem?_getD,List.getElem?_eq_getElem hi,Option.getD_some] at this
 exact this
theorem getD_sp {l:List Spn3} {i:Nat} (hi:i<l.length):l.getD i (0,0,0)=l[i]:=by
 rw[List.getD_eq_getElem?_getD,List.getElem?_eq_getElem hi,Option.getD_some]
theorem out_in {ps:List Pr} {l:List Spn3} (he:eachB ps l=true) {c:List Int} (hc:c.length=ps.length):outB l c = !inBx l c:=by
 obtain⟨h1,h2⟩:=each_at he
 cases h:inBx l c with
 | true =>
  unfold inBx at h
  rw[List.all_eq_true] at h
  show outB l c=false
  unfold outB
  rw[List.any_eq_false]
  intro s hs
  obtain⟨i,hi,rfl⟩:=List.mem_iff_getElem.1 hs
  have:=h i (List.mem_range.2 (by omega))
  rw[getD_sp hi] at this
  rw[h2 i hi]
  simpa using this
 | false =>
  show outB l c=true
  unfold inBx at h
  rw[List.all_eq_false] at h
  obtain⟨i,hi,h⟩:=h
  have hi:=List.mem_range.1 hi
  have hil:i<l.length:=by omega
  unfold outB
  rw[List.any_eq_true]
  refine⟨l[i],List.getElem_mem hil,?_⟩
  rw[getD_sp hil] at h
  rw[h2 i hil]
  cases hx:decide (cAt c (i:Int)<l[i].2.1) || decide (l[i].2.2<cAt c (i:Int)) with
  | true=>rfl
  | false=>rw[hx] at h;exact absurd rfl h
section
variable {ps:List Pr} {l:List Spn3} (hg:gvnE ps l=0) (he:eachB ps l=true)
include hg he
theorem sp_at {p:Nat} (hp:p<ps.length):((spN (l.getD p (0,0,0))).2.1:Int)=(l.getD p (0,0,0)).2.1∧((spN (l.getD p (0,0,0))).2.2:Int)=(l.getD p (0,0,0)).2.2 ∧
  (spN (l.getD p (0,0,0))).2.1≤(spN (l.getD p (0,0,0))).2.2∧(spN (l.getD p (0,0,0))).2.2≤nev ps p∧(spN (l.getD p (0,0,0))).1=p:=by
 obtain⟨h1,h2⟩:=each_at he
 obtain⟨_,_,hb,_⟩:=gvn_zero hg
 have hpl:p<l.length:=by omega
 rw[getD_sp hpl]
 have hb:=hb _ (List.getElem_mem hpl)
 have h2:=h2 p hpl
 generalize l[p]=s at *
 obtain⟨a,f,t⟩:=s
 have h2:a=p:=h2
 subst h2
 unfold badSp at hb
 simp only[Bool.or_eq_false_iff,decide_eq_false_iff_not,Int.toNat_natCast] at hb
 obtain⟨g1,g2,g3,g4,g5⟩:=hb
 show ((f.toNat:Nat):Int)=f∧((t.toNat:Nat):Int)=t∧f.toNat≤t.toNat∧t.toNat≤nev ps p∧((p:Int)).toNat=p
 omega
theorem in_box {c:List Int} (hc:c.length=ps.length):inBx l c=true↔InB ps (fun p=>spN (l.getD p (0,0,0))) c:=by
 unfold inBx InB
 rw[List.all_eq_true]
 constructor
 ·intro h p hp
  obtain⟨e1,e2,_⟩:=sp_at hg he hp
  have:=h p (List.mem_range.2 (by omega))
  rw[Bool.not_eq_true',Bool.or_eq_false_iff,decide_eq_false_iff_not,decide_eq_false_iff_not] at this
  rw[e1,e2];omega
 ·intro h p hp
  have hp:p<ps.length:=by rw[List.mem_range] at hp;omega
  obtain⟨e1,e2,_⟩:=sp_at hg he hp
  have:=h p hp
  rw[e1,e2] at this
  rw[Bool.not_eq_true',Bool.or_eq_false_iff,decide_eq_false_iff_not,decide_eq_false_iff_not];omega
theorem tgb_spans (ho:ovF ps (l.map spN)=true):TgB ps fun p=>spN (l.getD p (0,0,0)):=by
 obtain⟨h1,h2⟩:=each_at he
 refine⟨fun p hp=>(sp_at hg he hp).2.2,fun p q hp hq hpq => ?_⟩
 unfold ovF at ho
 have hn:clI ps (fun _=>true) (l.map spN)=none:=by simpa using ho
 have:=clI_none hn p q (by rw[List.length_map];omega) (by rw[List.length_map];omega) hpq rfl
 rw[List.getElem_map,List.getElem_map] at this
 show bgN ps (spN (l.getD p _)) (spN (l.getD q _))=true
 rw[getD_sp (by omega),getD_sp (by omega)]
 exact this
theorem box_head (ho:ovF ps (l.map spN)=true):(boxF ps l).head?=some (closeF ps (frmL ps.length fun p=>spN (l.getD p (0,0,0)))):=by
 have hv:=(gvn_zero hg).1
 have hT:=tgb_spans hg he ho
 obtain⟨d,hd,hI⟩:=low_ex hv hT
 have hfr:∀p,p<ps.length→(spN (l.getD p (0,0,0))).2.1≤nev ps p:=fun p hp=>by have:=hT.el p hp;omega
 obtain⟨⟨a1,a2⟩,_⟩:=low_close hv hfr hd hI
 have hl:=(isF_iff.1 a1).1
 refine ord_head ((cuts_ord hv).sublist List.filter_sublist) ?_ fun y hy => ?_
 ·exact List.mem_filter.2 ⟨(mem_cutsF hv).2 a1,(in_box hg he hl).2 a2⟩
 ·obtain⟨y1,y2⟩:=List.mem_filter.1 hy
  have y1:=(mem_cutsF hv).1 y1
  have yl:=(isF_iff.1 y1).1
  exact(leq_at hl yl).2 (low_close hv hfr y1 ((in_box hg he yl).1 y2)).2
end
end Go.AL
end
