/- Texts of this claim's proof: WV3, WQc, WQf, WQg, WQh, WQi, WQj, WQk, WQl, WQm, WMe, WQn, WU2, WNf, AlRng, WMf, WNd2, WNh, WNi, WNj, WOb. No condition. -/
import Derived.Test.YtbijcgljnecakaaGreatDoorM11
import Derived.Test.YtbijcgljnecakaaGreatDoorM8
import Derived.Test.YtbijcgljnecakaaGreatDoorM10
import Derived.Test.YtbijcgljnecakaaGreatDoorM9
import Derived.Test.YtbijcgljnecakaaGreatDoorM4
import Derived.Test.YtbijcgljnecakaaGreatDoorM3
import Derived.Test.YtbijcgljnecakaaGreatDoorM7
section
namespace Go.AL
open Go Go.RowKit
set_option maxRecDepth 4000
section
variable {ps:List Pr} (hv:validF ps=true)
include hv
end
theorem down_count {P:Nat→Bool} : ∀N,(∀i j,i≤j→j<N→P j=true→P i=true)→((List.range N).filter P).length≤N∧∀i,i<N→(i<((List.range N).filter P).length↔P i=true)
 | 0,_=>⟨Nat.le_refl _,fun i hi=>by omega⟩
 | N+1,h=>by
  obtain⟨g1,g2⟩:=down_count N fun i j h1 h2=>h i j h1 (by omega)
  rw[List.range_succ,List.filter_append,List.length_append]
  cases hN:P N with
  | true =>
   have e:(List.range N).filter P=List.range N:=List.filter_eq_self.2 fun i hi=>h i N (by have:=List.mem_range.1 hi;omega) (by omega) hN
   rw[e,List.filter_cons_of_pos hN,List.length_range]
   refine⟨Nat.le_refl _,fun i hi=>⟨fun _=>h i N (by omega) (by omega) hN,fun _=>by simpa using hi⟩⟩
  | false =>
   rw[List.filter_cons_of_neg (by rw[hN];decide),List.filter_nil,List.length_nil,Nat.add_zero]
   refine⟨by omega,fun i hi => ?_⟩
   by_cases e:i=N
   ·subst e;rw[hN];exact⟨fun h=>by omega,fun h=>by cases h⟩
   ·exact g2 i (by omega)
section
variable {ps:List Pr} (hv:validF ps=true)
include hv
end
open Classical in
noncomputable def tgtO (ps:List Pr) (rows:Nat→List Stp):Option (Nat→Nat):=if h:∃a,LeastS ps rows a then some (Classical.choose h) else none
structure DodgeR (ps:List Pr) (b:Nat→Nat→Bool) (R:List (List Int)):Prop where
 run:isRunF ps R=true
 av:∀d ∈ R,AvoidC ps b d
structure DgO (ps:List Pr) (b:Nat→Nat→Bool) (O:List (List Int)) (c:List Int):Prop where
 ex:∃R,O=zeroC ps :: R∧chnF ps (zeroC ps) R=true
 last:O.getLast?=some c
 av:∀d ∈ O,AvoidC ps b d
section
variable {ps:List Pr} (hv:validF ps=true) {b:Nat→Nat→Bool}
theorem DgO.start (h:AvoidC ps b (zeroC ps)):DgO ps b [zeroC ps] (zeroC ps):=⟨⟨[],rfl,rfl⟩,rfl,fun d hd=>by simp only[List.mem_singleton] at hd;subst hd;exact h⟩
include hv in
theorem wlk_go {c to:List Int} (hc:isF ps c=true) (ht:isF ps to=true) (hle:leqF c to=true):∃R,wlkR ps (fun d=>leqF d to) (to.sum - c.sum).toNat c=some R∧chnF ps c R=true∧(c :: R).getLast?=some to∧(c.sum+R.length=to.sum) ∧
  ∀d ∈ R,isF ps d=true∧leqF c d=true∧leqF d to=true:=by
 have hs:=(leq_sum hle).1
 obtain⟨R,h1,h2,h3,h4⟩:=wlk_to hv ht (to.sum - c.sum).toNat c hc hle (by omega)
 have h5:=(wlk_chn hc h1).1
 refine⟨R,h1,h5,h4,by omega,fun d hd=>⟨(h3 d hd).1,?_,(h3 d hd).2⟩⟩
 obtain⟨i,hi,rfl⟩:=List.getElem_of_mem hd
 have hlc:=(isF_iff.1 hc).1
 refine(leq_at hlc (isF_iff.1 (h3 _ hd).1).1).2 fun q hq => ?_
 have:=chn_mono hc h5 (i:=0) (by simp) (i+1) (by rw[List.length_cons];omega) q hq
 have e:(c :: R)[0+(i+1)]'(by rw[List.length_cons];omega)=R[i]:=by simp
 rw[e] at this
 exact this
theorem DgO.go {O:List (List Int)} {c to:List Int} (h:DgO ps b O c) {R:List (List Int)} (hch:chnF ps c R=true) (hl:(c :: R).getLast?=some to) (hav:∀d ∈ R,AvoidC ps b d):DgO ps b (O ++ R) to:=by
 obtain⟨S,rfl,hS⟩:=h.ex
 refine⟨⟨S ++ R,rfl,chn_app h.last hS hch⟩,?_,fun d hd => ?_⟩
 ·cases R with
  | nil =>
   rw[List.append_nil,h.last]
   exact hl
  | cons r R =>
   rw[List.getLast?_cons_cons] at hl
   rw[List.getLast?_append,hl];rfl
 ·rcases List.mem_append.1 hd with hd|hd
  ·exact h.av d hd
  ·exact hav d hd
theorem DgO.done {O:List (List Int)} (h:DgO ps b O (fullC ps)):DodgeR ps b O:=by
 obtain⟨S,rfl,hS⟩:=h.ex
 exact⟨isrun_mk hS h.last,h.av⟩
end
end Go.AL
end
section
namespace Go.AL
open Go Go.RowKit
set_option maxRecDepth 4000
def enF (ps:List Pr) (c:List Int) (k:Nat):List Nat:=(List.range k).filter (rdyF ps c)
theorem enF_succ (ps:List Pr) (c:List Int) (k:Nat):enF ps c (k+1)=enF ps c k ++ if rdyF ps c k=true then [k] else []:=by
 unfold enF
 rw[List.range_succ,List.filter_append,List.filter_cons]
 split <;> rfl
theorem mem_enF {ps:List Pr} {c:List Int} {k p:Nat} : p ∈ enF ps c k↔p<k∧rdyF ps c p=true:=by unfold enF;rw[List.mem_filter,List.mem_range]
theorem enF_len (ps:List Pr) (c:List Int) (k:Nat):(enF ps c k).length≤k:=by
 have:=List.length_filter_le (rdyF ps c) (List.range k)
 rw[List.length_range] at this;exact this
section
variable {ps:List Pr} (hv:validF ps=true) {l:List (List Int)} (hl:l=cutsF ps)
include hv hl
end
end Go.AL
end
section
namespace Go.AL
open Go Go.RowKit
theorem fits_str (s:ByteArray):(KK.sc .str).fits (.string s)=true:=rfl
attribute [go_sem] fits_str
structure MpS (ks:List Value) (vs:List AV) (z:AV) (f:ByteArray→AV):Prop where
 fits:ks.all (KK.sc .str).fits=true
 len:vs.length=ks.length
 get:∀s,mget (.string s) ks vs z=f s
theorem MpS.nil (z:AV):MpS [] [] z fun _=>z:=⟨rfl,rfl,fun _=>rfl⟩
theorem mfind_lt {k:Value} : ∀ {ks:List Value} {i:Nat},mfind k ks=some i→i<ks.length
 | [],_,h=>by cases h
 | k' :: r,i,h=>by
  unfold mfind at h
  split at h
  ·cases h;simp
  ·split at h
   ·rename_i j hj;cases h;have:=mfind_lt hj;simp;omega
   ·cases h
theorem seqB_dec' (a b:ByteArray):seqB a b=decide (a=b):=seqB_dec a b
theorem keyB_str {s:ByteArray} {k:Value} (hk:(KK.sc .str).fits k=true):keyB (.string s) k=true↔k = .string s:=by
 have:=vfits_inv (k:=.str) (a:=k) hk
 cases this with
 | str t =>
  show seqB s t=true↔_
  rw[seqB_dec',decide_eq_true_eq]
  exact⟨fun h=>by rw[h],fun h=>by cases h;rfl⟩
theorem mfind_str {s:ByteArray} : ∀ {ks:List Value} (_:ks.all (KK.sc .str).fits=true) {i:Nat},mfind (.string s) ks=some i→ks[i]?=some (.string s)
 | [],_,_,h=>by cases h
 | k' :: r,hf,i,h=>by
  rw[List.all_cons,Bool.and_eq_true] at hf
  unfold mfind at h
  split at h
  ·rename_i hk;cases h;rw[(keyB_str hf.1).1 hk];rfl
  ·split at h
   ·rename_i j hj;cases h;exact mfind_str hf.2 hj
   ·cases h
theorem mfind_app {s t:ByteArray} : ∀ {ks:List Value},mfind (.string t) (ks ++ [.string s])=match mfind (.string t) ks with
  | some i=>some i
  | none=>if t=s then some ks.length else none
 | []=>by
  show (if keyB (.string t) (.string s)=true then some 0 else none)=if t=s then some 0 else none
  show (if seqB t s=true then some 0 else none)=_
  rw[seqB_dec']
  by_cases h:t=s
  ·rw[if_pos h,if_pos (decide_eq_true h)]
  ·rw[if_neg h,if_neg (by rw[decide_eq_false h];simp)]
 | k' :: r=>by
  have ih:=mfind_app (s:=s) (t:=t) (ks:=r)
  rw[List.cons_append]
  unfold mfind
  by_cases h:keyB (.string t) k'=true
  ·rw[if_pos h,if_pos h]
  ·rw[if_neg h,if_neg h,ih]
   cases hm:mfind (.string t) r with
   | some i=>rfl
   | none =>
    simp only
    by_cases e:t=s
    ·rw[if_pos e,if_pos e];simp
    ·rw[if_neg e,if_neg e]
theorem MpS.put {ks:List Value} {vs:List AV} {z:AV} {f:ByteArray→AV} (h:MpS ks vs z f) (s:ByteArray) (x:AV) :
  ∃ks' vs',mput (.string s) x ks vs = .amap ks' vs'∧MpS ks' vs' z fun t=>if t=s then x else f t:=by
 unfold mput
 cases hm:mfind (.string s) ks with
 | some i =>
  refine⟨ks,vs.set i x,rfl,h.fits,by rw[List.length_set];exact h.len,fun t => ?_⟩
  have hi:=mfind_lt hm
  have hl:=h.len
  unfold mget
  by_cases e:t=s
  ·subst e
   rw[hm,if_pos rfl]
   simp only
   rw[List.getD_eq_getElem?_getD,List.getElem?_set,if_pos rfl,if_pos (by omega)];rfl
  ·rw[if_neg e,← h.get t]
   unfold mget
   cases ht:mfind (.string t) ks with
   | none=>rfl
   | some j =>
    simp only
    have h1:=mfind_str h.fits hm
    have h2:=mfind_str h.fits ht
    have hne:i ≠ j:=fun e2=>by
     subst e2
     rw[h1] at h2
     exact e (by have:=Option.some.inj h2;injection this with h3;exact h3.symm)
    rw[List.getD_eq_getElem?_getD,List.getElem?_set_ne hne,← List.getD_eq_getElem?_getD]
 | none =>
  refine⟨ks ++ [.string s],vs ++ [x],rfl,by rw[List.all_append,h.fits];rfl,by rw[List.length_append,List.length_append,h.len];rfl,fun t => ?_⟩
  unfold mget
  rw[mfind_app]
  by_cases e:t=s
  ·subst e
   rw[hm,if_pos rfl]
   simp only
   rw[if_pos trivial,List.getD_eq_getElem?_getD,List.getElem?_append_right (by rw[h.len];exact Nat.le_refl _),h.len,Nat.sub_self];rfl
  ·rw[if_neg e,← h.get t]
   unfold mget
   cases ht:mfind (.string t) ks with
   | none=>simp only;rw[if_neg e]
   | some j =>
    have hj:=mfind_lt ht
    simp only
    rw[if_neg e,List.getD_eq_getElem?_getD,List.getElem?_append_left (by rw[h.len];exact hj),← List.getD_eq_getElem?_getD]
end Go.AL
end
section
namespace Go.AL
open Go Go.RowKit
set_option maxRecDepth 4000
def enI (ps:List Pr) (c:List Int) (k:Nat):List Int:=(enF ps c k).map fun (p:Nat)=>(p:Int)
theorem enI_succ (ps:List Pr) (c:List Int) (k:Nat):enI ps c (k+1)=enI ps c k ++ if rdyF ps c k=true then [(k:Int)] else []:=by
 unfold enI
 rw[enF_succ,List.map_append]
 split <;> rfl
theorem enI_len (ps:List Pr) (c:List Int) (k:Nat):(enI ps c k).length≤k:=by unfold enI;rw[List.length_map];exact enF_len ps c k
theorem cuts_Irreducible (ps:List Pr) (hs:Sm ps) (c:List Int):PC Proofs.Tryz.prog 16 [aTr ps,aInts c] (.tup [ab (decide (chkE ps [c]=0) && irrF ps c),ai (chkE ps [c])]):=by
 have h1:=cuts_checked ps hs [c] (by simp)
 have hR:∀x:List (List Int),aRows x = .sl 1 (x.map aInts):=fun _=>rfl
 rw[hR] at h1
 simp only[List.map_cons,List.map_nil] at h1
 by_cases hk:chkE ps [c]=0
 ·obtain⟨hv,hc⟩:=chk_zero.1 hk
  have hc:=hc c (by simp)
  have hir:irrF ps c=decide (remN ps c c.length=1):=rfl
  have hcl:=(isF_iff.1 hc).1
  have hcr:=(inRange_iff hcl).1 (isF_iff.1 hc).2.1
  have h8:=(valid_len hv).2
  have h2:=cuts_of ps hs hv
  unfold aMk aNeeds at h2
  rw[hk] at h1 ⊢
  clear hk
  refine PC.enter 77 [.tmp 4,.tmp 5] [2,7,13,16] Proofs.Tryz.func16 rfl rfl rfl rfl rfl (by simp) (AWp.of ?_);simp only[go_sem]
  refine Wk ?_
  refine Sd ?_
  refine(h1).val.use ?_;simp only[go_sem]
  repeat(first|((with_reducible refine AWp.ofC ?_ ?_);exact rfl;simp only[go_sem,Int.reduceEq])|((with_reducible refine an ?_ ?_);exact Au))
  refine Sd ?_
  refine(h2).val.use ?_;simp only[go_sem]
  refine Wk ?_
  intro b7
  refine Wk ?_
  refine AWp.range' c.length [8] [1,7,24] (fun k vs L=>L=[]∧vs=[ai (remN ps c k:Nat)]) (by omega) rfl rfl rfl ⟨rfl,rfl⟩ ?_ ?_
  ·rintro k vs L hk - ⟨rfl,rfl⟩
   have hgk:=getD_map (f:=ai) hk
   have hst:=remN_succ ps c k
   have hle:=remN_le ps c k
   have hck:=cAt_nat hk
   have hr:=hcr k (by omega)
   simp only[go_sem]
   refine W1 hgk ?_
   refine⟨fun h0 => ?_,fun h0 => ?_⟩
   ·have hz:remB ps c k=false:=by
     unfold remB
     rw[decide_eq_false (by omega)];rfl
    rw[hz] at hst
    refine Wk ?_
    exact⟨_,List.Sublist.refl _,rfl,by rw[hst];rfl⟩
   ·have hfr:=free_rem hv hc (p:=k) (by omega) (by omega)
    have hz:remB ps c k=freeU ps c k ps.length:=by
     unfold remB
     rw[decide_eq_true (by omega),hfr];rfl
    rw[hz] at hst
    clear hfr hz
    refine W1 hgk ?_
    refine AWp.range' c.length [10] [1,7,8,9,24,25,34] (fun q vs L=>L=[]∧vs=[ab (freeU ps c k q)]) (by omega) rfl rfl rfl ⟨rfl,rfl⟩ ?_ ?_
    ·rintro q vs L hq - ⟨rfl,rfl⟩
     have hqp:q<ps.length:=by omega
     have hgq:=getD_map (f:=ai) hq
     have hgn:=getD_map (f:=fun x:Pr=>AV.sl 2 ((x.evs.map (needE ps)).map aEid)) hqp
     have hrq:=hcr q hqp
     have hcq:=cAt_nat hq
     have hfs:=freeU_succ ps c k hqp
     have hel:=hs.evs _ (List.getElem_mem hqp)
     have hfn:freeN ps c k ps[q] (cAt c q).toNat=(ps[q].evs.take (c[q]).toNat).all fun e => !decide ((needE ps e).2=cAt c k) || !decide ((needE ps e).1=k):=by rw[hcq];rfl
     rw[hfs,hfn,hck]
     have hes:(ps[q].evs.take (c[q]).toNat).length≤1000000:=by rw[List.length_take];omega
     generalize freeU ps c k q=f0 at *
     simp only[go_sem]
     refine Sd ?_
     refine AWp.of ?_;simp only[go_sem]
     refine AWp.seq ?_
     repeat(first|(with_reducible refine AWp.seq ?_)|(with_reducible refine AWp.block ?_))
     refine AWp.read mixed [0,1,2,3,4,5,6,7,8,9,10,11] (by kernel_rfl) ?_;simp only[go_sem,hgq,hgn]
     refine Sd ?_
     clear hfn hfs hgn hgq
     generalize ps[q].evs.take (c[q]).toNat=es at *
     refine AWp.range' es.length [10] [1,7,8,9,24,25,34,35,47,48] (fun i vs L=>L=[]∧vs=[ab (f0 && (es.take i).all fun e => !decide ((needE ps e).2=c[k]) || !decide ((needE ps e).1=k))]) (by omega) rfl rfl rfl ⟨rfl,by simp;rfl⟩ ?_ ?_
     ·rintro i vs L hi - ⟨rfl,rfl⟩
      have hge:((es.map (needE ps)).map aEid).getD i .any=aEid (needE ps es[i]):=by rw[getD_map (by simpa using hi),List.getElem_map]
      have hall:((es.take (i+1)).all fun e => !decide ((needE ps e).2=c[k]) || !decide ((needE ps e).1=k))=(((es.take i).all fun e => !decide ((needE ps e).2=c[k]) || !decide ((needE ps e).1=k)) && (!decide ((needE ps es[i]).2=c[k]) || !decide ((needE ps es[i]).1=k))):=by
       rw[List.take_succ_eq_append_getElem hi,List.all_append];simp
      rw[hall]
      generalize ((es.take i).all fun e => !decide ((needE ps e).2=c[k]) || !decide ((needE ps e).1=k))=f1 at *
      generalize needE ps es[i]=ne at *
      obtain⟨n1,n2⟩:=ne
      have hge:((es.map (needE ps)).map aEid).getD i .any = .agg [ai n1,ai n2]:=hge
      simp only[go_sem]
      refine W1 hge ?_
      intro b13
      repeat(first|(with_reducible refine AWp.seq ?_)|(with_reducible refine AWp.block ?_))
      refine AWp.mix mixed [0,1,2,3,4,5,6,7,8,9,10,11,12,13,14,15] (.step 16 .done .done) (by kernel_rfl) ?_;simp only[go_sem,hgk]
      refine⟨fun h1 h2=>⟨⟨h1,h2⟩,by omega,by omega⟩,fun h1 h2=>⟨⟨h1,h2⟩,by omega⟩,fun h1 h2=>⟨⟨h1,h2⟩,fun h=>⟨⟨h1,h2⟩,h⟩⟩,_,List.Sublist.refl _,rfl,?_⟩
      rw[Bool.and_assoc]
     ·rintro vs L - ⟨rfl,rfl⟩
      rw[List.take_length]
      simp only[go_sem]
      exact⟨_,List.Sublist.refl _,rfl⟩
    ·rintro vs L - ⟨rfl,rfl⟩
     rw[hcl]
     cases hfu:freeU ps c k ps.length with
     | true =>
      rw[hfu,if_pos rfl] at hst
      simp only[go_sem]
      refine Wk ?_
      exact⟨_,List.Sublist.refl _,rfl,by rw[hst];simp⟩
     | false =>
      rw[hfu,if_neg (by decide)] at hst
      simp only[go_sem]
      refine Wk ?_
      exact⟨_,List.Sublist.refl _,rfl,by rw[hst];rfl⟩
  ·rintro vs L - ⟨rfl,rfl⟩
   simp only[go_sem]
   refine Wk ?_
   refine ret_eq ?_;simp only[go_sem]
   rw[hir]
   have:decide ((remN ps c c.length:Int)=1)=decide (remN ps c c.length=1):=by rw[decide_eq_decide];omega
   rw[this]
 ·generalize chkE ps [c]=e at *
  refine PC.enter 77 [.tmp 4,.tmp 5] [2,7,13,16] Proofs.Tryz.func16 rfl rfl rfl rfl rfl (by simp) (AWp.of ?_);simp only[go_sem]
  refine Wk ?_
  refine Sd ?_
  refine(h1).val.use ?_;simp only[go_sem]
  refine W1 hk ?_
  refine ret_eq ?_;simp only[go_sem]
end Go.AL
end
section
namespace Go.AL
open Go Go.RowKit
theorem AWp.range1 {C:Cfg} {id i1 i2 t s n t2:Nat} {ty1 ty2 ty3 ty4 r1 r2 r3:TypeId} {p1 p2 p3:String} {a1 a2 a3:Array Edge} {body:Code} {Q:AQ} {ρ:Env} {L:AHeap}
  (m:Nat) (ls ks:List Nat) (I:Nat→List AV→AHeap→Prop) (hm:m≤9223372036854775807) (hs:get ρ s=ai 0) (hn:get ρ n=ai m) (hnk:n ∈ ks) (hsk:s ∉ ks) (hsl:s ∉ ls) (hts:t ≠ s) (htk:t ∉ ks) (h2k:t2 ∉ ks) (htl:t ∉ ls) (h2l:t2 ∉ ls)
  (h0:I 0 (ls.map (get ρ)) L)
  (round:∀k vs L',k<m→vs.length=ls.length→I k vs L'→AWp C body (rangeQ id s k ls ks ρ (I (k+1)) Q) ((s,ai k) :: lenv ls ks vs ρ) L')
  (done:∀vs L',vs.length=ls.length→I m vs L'→Q .normal ((s,ai m) :: lenv ls ks vs ρ) L') :
  AWp C (.block id (.loop (.seq (.region i1 #[⟨some t,.binOp .lss ty1 (.tmp s) (.tmp n) ty2,r1,p1,a1,none⟩] false) (.seq (.cond (.tmp t) .skip (.exit id)) (.seq body
   (.region i2 #[⟨some t2,.binOp .add ty3 (.tmp s) (.const (.int .i64 1)) ty4,r2,p2,a2,none⟩,⟨some s,.move (.tmp t2),r3,p3,a3,none⟩] false)))))) Q ρ L:=by
 have hnl:∀vs:List AV,vs.length=ls.length→get (lenv ls ks vs ρ) n=ai m:=fun vs _=>by
  unfold lenv
  have hin:n ∈ (keep ks ρ).map (·.1):=by simp [keep,hnk]
  rw[get_append,if_pos hin]
  rcases get_keep ks ρ n with e|e
  ·have:∀l:List Nat,n ∈ l→get (keep l ρ) n=get ρ n:=fun l=>by
    induction l with
    | nil=>intro h;cases h
    | cons x r ih =>
     intro h
     simp only[keep,List.map_cons,get]
     split
     ·rename_i e;rw[e]
     ·rename_i e;exact ih ((List.mem_cons.1 h).resolve_left e)
   rw[this ks hnk,hn]
  ·rw[e,hn]
 have hns:n ≠ s:=fun e=>hsk (e ▸ hnk)
 have dropT:∀(k:Nat) (vs:List AV) (x:AV) (i:Nat),get ((s,ai k) :: lenv ls ks vs ρ) i = .any∨get ((s,ai k) :: lenv ls ks vs ρ) i=get ((t,x) :: (s,ai k) :: lenv ls ks vs ρ) i:=fun k vs x i=>by
  by_cases hi:i=t
  ·subst hi
   refine .inl ?_
   simp only[get,if_neg hts,lenv]
   rw[get_append,if_neg (by simp [keep,htk])]
   have:∀(l:List Nat) (v:List AV),i ∉ l→get (l.zip v) i = .any:=fun l=>by
    induction l with
    | nil=>intro v _;rfl
    | cons x r ih =>
     intro v h
     cases v with
     | nil=>rfl
     | cons y v =>
      simp only[List.zip_cons_cons,get]
      rw[if_neg (by rintro rfl;exact h List.mem_cons_self)]
      exact ih v (fun hh=>h (List.mem_cons_of_mem _ hh))
   exact this ls vs htl
  ·exact .inr (by simp [get,hi])
 refine AWp.block (AWp.loop (s :: ls) ks (fun vs' L'=>∃(k:Nat) (vs:List AV),vs'=ai (k:Int) :: vs∧k≤m∧I k vs L') (fun vs' _=>match vs' with | .v (.int _ k) :: _=>m - k.toNat|_=>0)
  ⟨0,_,by simp [hs],Nat.zero_le _,h0⟩ ?_)
 rintro vs' L' hl ⟨k,vs,rfl,hk,hI⟩
 have hvl:vs.length=ls.length:=by simpa using hl
 -- the counter first
 refine AWp.st (ρ':=(s,ai k) :: lenv ls ks vs ρ) (L':=L') (fun w0 M A0 a w h=>st_forget h fun i => ?_) ?_
 ·by_cases hi:i=s
  ·subst hi
   refine .inr ?_
   simp only[get,if_true,lenv]
   rw[get_append,if_neg (by simp [keep,hsk])]
   simp [get]
  ·refine .inr ?_
   simp only[get,if_neg hi,lenv,List.zip_cons_cons]
   rw[get_append,get_append]
   split
   ·rfl
   ·simp [get,hi]
 have hget_s:get ((s,ai k) :: lenv ls ks vs ρ) s=ai k:=by simp [get]
 have hget_n:get ((s,ai k) :: lenv ls ks vs ρ) n=ai m:=by simp only[get,if_neg hns];exact hnl vs hvl
 refine AWp.seq (AWp.region ?_)
 simp only[aregion,astep,aop,aval,ev,hget_s,hget_n,w2,fo,aEq,aBin,thenQ,put]
 refine⟨by simp,?_⟩
 refine AWp.seq (AWp.cond (t:=decide ((k:Int)<m)) (by simp [ev,get]) (fun ht => ?_) (fun hf => ?_))
 ·have hlt:k<m:=by simpa using ht
  refine AWp.of ?_
  simp only[awp1,thenQ]
  refine AWp.st (ρ':=(s,ai k) :: lenv ls ks vs ρ) (L':=L') (fun w0 M A0 a w h=>st_forget h (dropT k vs _)) ?_
  refine AWp.seq ((round k vs L' hlt hvl hI).mono ?_)
  intro e ρ' L'' hq
  cases e with
  | normal =>
   obtain⟨g1,g2,L3,g3,g4⟩:=hq
   simp only[thenQ]
   refine AWp.region ?_
   have hi64:I64 ((k:Int)+1):=by unfold I64;omega
   simp only[aregion,astep,aop,aval,ev,g1,w2,fo,aEq,aBin,put,if_true,get]
   refine⟨⟨⟨trivial,trivial⟩,trivial,hi64⟩,trivial,?_⟩
   simp only[roundQ]
   have hks:ks.map (get ((s,ai ((k:Int)+1)) :: (t2,ai ((k:Int)+1)) :: ρ'))=ks.map (get ρ'):=List.map_congr_left fun j hj=>by
    simp only[get];rw[if_neg (by rintro rfl;exact hsk hj),if_neg (by rintro rfl;exact h2k hj)]
   have hls:ls.map (get ((s,ai ((k:Int)+1)) :: (t2,ai ((k:Int)+1)) :: ρ'))=ls.map (get ρ'):=List.map_congr_left fun j hj=>by
    simp only[get];rw[if_neg (by rintro rfl;exact hsl hj),if_neg (by rintro rfl;exact h2l hj)]
   refine⟨by rw[hks];exact g2,L3,g3,⟨k+1,_,?_,hlt,g4⟩,?_⟩
   ·rw[List.map_cons,hls]
    simp only[get,if_true]
    rfl
   ·simp only[List.map_cons,get,if_true]
    have:((k:Int)+1).toNat=k+1:=by omega
    simp only[this,Int.toNat_natCast]
    omega
  | exit id'=>simpa [thenQ,roundQ,blockQ,rangeQ] using hq
  | goto l=>exact hq
  | ret=>exact hq
  | panic c=>exact hq
  | outgrown=>exact hq
 ·have hkm:k=m:=by have:¬((k:Int)<m):=by simpa using hf
                   omega
  subst hkm
  refine AWp.st (ρ':=(s,ai k) :: lenv ls ks vs ρ) (L':=L') (fun w0 M A0 a w h=>st_forget h (dropT k vs _)) (AWp.of ?_)
  simp only[awp1,thenQ,roundQ,blockQ,if_true]
  exact done vs L' hvl hI
theorem AWp.range1' {C:Cfg} {id i1 i2 t s n t2:Nat} {ty1 ty2 ty3 ty4 r1 r2 r3:TypeId} {p1 p2 p3:String} {a1 a2 a3:Array Edge} {body:Code} {Q:AQ} {ρ:Env} {L:AHeap}
  (m:Nat) (ls ks:List Nat) (I:Nat→List AV→AHeap→Prop) (hm:m≤9223372036854775807) (hs:get ρ s=ai 0) (hn:get ρ n=ai m) (hok:rOk s n t t2 ls ks=true)
  (h0:I 0 (ls.map (get ρ)) L)
  (round:∀k vs L',k<m→vs.length=ls.length→I k vs L'→AWp C body (rangeQ id s k ls ks ρ (I (k+1)) Q) ((s,ai k) :: lenv ls ks vs ρ) L')
  (done:∀vs L',vs.length=ls.length→I m vs L'→Q .normal ((s,ai m) :: lenv ls ks vs ρ) L') :
  AWp C (.block id (.loop (.seq (.region i1 #[⟨some t,.binOp .lss ty1 (.tmp s) (.tmp n) ty2,r1,p1,a1,none⟩] false) (.seq (.cond (.tmp t) .skip (.exit id)) (.seq body
   (.region i2 #[⟨some t2,.binOp .add ty3 (.tmp s) (.const (.int .i64 1)) ty4,r2,p2,a2,none⟩,⟨some s,.move (.tmp t2),r3,p3,a3,none⟩] false)))))) Q ρ L:=by
 simp only[rOk,Bool.and_eq_true,Bool.not_eq_true',List.contains_eq_mem,decide_eq_false_iff_not,decide_eq_true_eq,bne_iff_ne,ne_eq] at hok
 obtain⟨⟨⟨⟨⟨⟨⟨h1,h2⟩,h3⟩,h4⟩,h5⟩,h6⟩,h7⟩,h8⟩:=hok
 exact AWp.range1 m ls ks I hm hs hn h1 h2 h3 h4 h5 h6 h7 h8 h0 round done
end Go.AL
end
section
namespace Go.AL
open Go Go.RowKit
set_option maxRecDepth 4000
theorem cut_Meet (ps:List Pr) (hs:Sm ps) (a b:List Int):PC Proofs.Tryz.prog 28 [aTr ps,aInts a,aInts b] (aComb ps a b fun x y=>if y<x then y else x):=by
 have h1:∀x y:Int,PC Proofs.Tryz.prog 66 [ai x,ai y] (ai (if y<x then y else x)):=fun x y=>by
  refine PC.enter 8 [.tmp 4] [] Proofs.Tryz.func66 rfl rfl rfl rfl rfl (by simp) (AWp.of ?_);simp only[go_sem]
  refine Wk ?_
  refine ret_eq ?_;simp only[go_sem]
 have h2:=cut_combine ps hs a b 66 (fun x y=>if y<x then y else x) h1
 have hsp:∃c n,aComb ps a b (fun x y=>if y<x then y else x) = .tup [aInts c,ai n]:=by
  unfold aComb;split
  ·exact⟨[],_,rfl⟩
  ·exact⟨_,_,rfl⟩
 obtain⟨c,n,hc⟩:=hsp
 rw[hc] at h2 ⊢
 clear hc
 refine PC.enter 14 [.tmp 6,.tmp 7] [3] Proofs.Tryz.func28 rfl rfl rfl rfl rfl (by simp) (AWp.of ?_);simp only[go_sem]
 refine Wk ?_
 refine Sd ?_
 refine(h2).val.use ?_;simp only[go_sem]
 refine Wk ?_
 refine ret_eq ?_;simp only[go_sem]
def relS (b4 b2 n:Nat) (rs:List (List Nat)) (L:AHeap):Prop :=
 (rs=[]∧L=[(b4,.row 32 1 [.agg [anil]] 1),(b2,.row 32 1 [.agg [anil]] 1)]) ∨
 ∃c cap,(¬c=b4∧¬c=b2)∧L=[(c,.row 38 2 (rs.map (aBits n)) cap),(b4,.row 32 1 [.agg [.ls c 2 0 rs.length cap]] 1),(b2,.row 32 1 [.agg [anil]] 1)]
def mapK (M:List (Int × Eid)):List Value:=(M.map (·.1)).map intV
def mapV (M:List (Int × Eid)):List AV:=M.map fun x=>aEid x.2
theorem mapK_none {m:Int} {M:List (Int × Eid)} (h:∀x ∈ M,x.1 ≠ m):mfind (intV m) (mapK M)=none:=by
 obtain⟨h1,_⟩:=mfind_iset m (M.map (·.1))
 have h2:decide (m ∈ M.map (·.1))=false:=decide_eq_false fun hm=>by
  obtain⟨x,hx,e⟩:=List.mem_map.1 hm
  exact h x hx e
 rw[h2] at h1
 unfold mapK
 cases hf:mfind (intV m) ((M.map (·.1)).map intV) with
 | none=>rfl
 | some i=>rw[hf] at h1;cases h1
theorem mput_new {m:Int} {e:Eid} {M:List (Int × Eid)} (h:∀x ∈ M,x.1 ≠ m):mput (intV m) (aEid e) (mapK M) (mapV M) = .amap (mapK (M ++ [(m,e)])) (mapV (M ++ [(m,e)])):=by
 unfold mput
 rw[mapK_none h]
 simp [mapK,mapV]
theorem mapK_fits (M:List (Int × Eid)):(mapK M).all (KK.sc .int).fits=true:=fits_iset _
theorem mget_mem {m:Int} {e:Eid} {z:AV} : ∀ {M:List (Int × Eid)},(M.map (·.1)).Nodup→(m,e) ∈ M→mget (intV m) (mapK M) (mapV M) z=aEid e
 | [],_,h=>by cases h
 | y :: M,hn,h=>by
  rw[List.map_cons,List.nodup_cons] at hn
  have hk:keyB (intV m) (intV y.1)=decide (m=y.1):=rfl
  unfold mget mapK mapV
  simp only[List.map_cons,mfind,hk,decide_eq_true_eq]
  rcases List.mem_cons.1 h with rfl|h
  ·rw[if_pos rfl];rfl
  ·have hne:¬m=y.1:=fun e2=>hn.1 (by rw[← e2];exact List.mem_map.2 ⟨_,h,rfl⟩)
   rw[if_neg hne]
   have ih:=mget_mem (z:=z) hn.2 h
   unfold mget mapK mapV at ih
   cases hf:mfind (intV m) ((M.map (·.1)).map intV) with
   | none =>
    obtain⟨h1,_⟩:=mfind_iset m (M.map (·.1))
    rw[hf,decide_eq_true (List.mem_map.2 ⟨_,h,rfl⟩)] at h1
    cases h1
   | some i =>
    rw[hf] at ih
    exact ih
def evM (ps:List Pr) (κ:Int) (k:Nat):List (Int × Eid):=((evIds ps).take k).filterMap fun x=>if x.2.kind=κ then some (x.2.msg,x.1) else none
theorem evM_succ {ps:List Pr} {κ:Int} {k:Nat} {x:Eid × Ev} (hx:(evIds ps)[k]?=some x):evM ps κ (k+1)=evM ps κ k ++ if x.2.kind=κ then [(x.2.msg,x.1)] else []:=by
 obtain⟨hk,he⟩:=List.getElem?_eq_some_iff.1 hx
 unfold evM
 rw[List.take_succ_eq_append_getElem hk,List.filterMap_append,he]
 congr 1
 by_cases h:x.2.kind=κ
 ·simp [h]
 ·simp [h]
theorem evM_mem {ps:List Pr} {κ:Int} {k:Nat} {y:Int × Eid} (hy:y ∈ evM ps κ k):∃(p:Nat) (hp:p<ps.length) (i:Nat) (_:i<ps[p].evs.length),off ps p+i<k∧ps[p].evs[i].kind=κ∧y=(ps[p].evs[i].msg,((p:Int),(i:Int)+1)):=by
 unfold evM at hy
 rw[List.mem_filterMap] at hy
 obtain⟨x,hx,h⟩:=hy
 obtain⟨j,hj,hje⟩:=List.mem_take_iff_getElem.1 hx
 have hjx:(evIds ps)[j]?=some x:=by rw[List.getElem?_eq_getElem (by omega),hje]
 obtain⟨p,hp,i,hi,e1,e2⟩:=evIds_inv hjx
 split at h
 ·rename_i hk
  cases h
  subst e2
  exact⟨p,hp,i,hi,by omega,hk,rfl⟩
 ·cases h
theorem evM_new {ps:List Pr} (hm:msgF ps=none) {κ:Int} (hκ:κ=2∨κ=3) {p:Nat} (hp:p<ps.length) {i:Nat} (hi:i<ps[p].evs.length) (hk:ps[p].evs[i].kind=κ):∀y ∈ evM ps κ (off ps p+i),y.1 ≠ ps[p].evs[i].msg:=by
 intro y hy e
 obtain⟨q,hq,j,hj,hlt,hkq,rfl⟩:=evM_mem hy
 simp only at e
 have u1:=pair_unique hm hp hi (by omega)
 have u2:=pair_unique hm hq hj (by omega)
 rw[hk] at u1
 rw[hkq,e,u1] at u2
 obtain⟨a1,a2⟩:=Prod.mk.inj u2
 have hpq:p=q:=by omega
 subst hpq
 omega
theorem evM_nodup {ps:List Pr} (hm:msgF ps=none) {κ:Int} (hκ:κ=2∨κ=3):∀k,((evM ps κ k).map (·.1)).Nodup
 | 0=>by simp [evM]
 | k+1=>by
  have ih:=evM_nodup hm hκ k
  cases hx:(evIds ps)[k]? with
  | none =>
   have:evM ps κ (k+1)=evM ps κ k:=by
    unfold evM
    rw[List.take_of_length_le (by have:=List.getElem?_eq_none_iff.1 hx;omega),List.take_of_length_le (by have:=List.getElem?_eq_none_iff.1 hx;omega)]
   rw[this];exact ih
  | some x =>
   rw[evM_succ hx]
   obtain⟨p,hp,i,hi,e1,rfl⟩:=evIds_inv hx
   by_cases h:ps[p].evs[i].kind=κ
   ·have hnew:=evM_new hm hκ hp hi h
    rw[if_pos h,List.map_append,List.nodup_append]
    refine⟨ih,by simp,fun a ha b hb => ?_⟩
    obtain⟨y,hy,rfl⟩:=List.mem_map.1 ha
    have:b=ps[p].evs[i].msg:=by simpa using hb
    subst this
    rw[e1] at hy
    exact hnew y hy
   ·rw[if_neg h,List.append_nil];exact ih
theorem evM_sndr {ps:List Pr} (hm:msgF ps=none) {p:Nat} (hp:p<ps.length) {i:Nat} (hi:i<ps[p].evs.length) (hk:ps[p].evs[i].kind=3):(ps[p].evs[i].msg,sndr ps ps[p].evs[i].msg) ∈ evM ps 2 (off ps ps.length):=by
 obtain⟨s,hs,j,hj,e,k2,m2⟩:=sndr_some (recv_sndr hm hp hi hk)
 unfold evM
 rw[List.mem_filterMap]
 have hg:=evIds_get hs hj
 refine⟨_,List.mem_take_iff_getElem.2 ⟨off ps s+j,?_,(List.getElem?_eq_some_iff.1 hg).2⟩,?_⟩
 ·have:=(List.getElem?_eq_some_iff.1 hg).1
  rw[evIds_length] at this
  rw[evIds_length];omega
 ·simp only
  rw[if_pos k2,m2,e]
def kwV (ps:List Pr):AV:=.agg [.sl 3 (ps.map aPr),.rm (mapK (evM ps 2 (off ps ps.length))) (mapV (evM ps 2 (off ps ps.length))),.rm (mapK (evM ps 3 (off ps ps.length))) (mapV (evM ps 3 (off ps ps.length)))]
def kwL (ps:List Pr) (b11 b10 b2 k:Nat):AHeap:=[(b11,.amap (mapK (evM ps 3 k)) (mapV (evM ps 3 k))),(b10,.amap (mapK (evM ps 2 k)) (mapV (evM ps 2 k))),(b2,.row 93 3 [.agg [anil,.v (.map none),.v (.map none)]] 1)]
theorem causality_knows (ps:List Pr) (hs:Sm ps) (hv:validF ps=true):PC Proofs.Tryz.prog 42 [aTr ps] (kwV ps):=by
 obtain⟨hl1,hl8⟩:=valid_len hv
 have hm:=(valid_parts hv).2.2
 refine PC.enter 52 [.cell 2 93] [1,3,5,7,8] Proofs.Tryz.func42 rfl rfl rfl rfl rfl (by simp) (AWp.of ?_);simp only[go_sem]
 intro b2
 refine Wk ?_
 intro b10 g10 b11 g11a g11b
 have n1:¬b10=b11:=by omega
 have n2:¬b2=b11:=by omega
 have n3:¬b2=b10:=by omega
 have n4:¬b11=b10:=by omega
 refine W4 n1 n2 n3 n4 ?_
 intros
 refine W4 n1 n2 n3 n4 ?_
 refine AWp.range' ps.length [] [2,3,14,15] (fun p vs L=>L=kwL ps b11 b10 b2 (off ps p)) (by omega) rfl rfl rfl rfl ?_ ?_
 ·rintro p vs L hp - rfl
  have hgp:=getD_map (f:=aPr) hp
  have hel:=hs.evs _ (List.getElem_mem hp)
  have hos:=off_succ hp
  simp only[go_sem]
  refine W1 hgp ?_
  intro b5 g5
  clear g5
  refine Wk ?_
  refine AWp.range' ps[p].evs.length [] [2,3,4,14,15,16,22,23] (fun i vs L=>L=kwL ps b11 b10 b2 (off ps p+i)) (by omega) rfl rfl rfl rfl ?_ ?_
  ·rintro i vs L hi - rfl
   have hge:=getD_map (f:=aEv) hi
   have hev:=evIds_get hp hi
   have s2:=evM_succ (κ:=2) hev
   have s3:=evM_succ (κ:=3) hev
   have w2:=evM_new hm (κ:=2) (.inl rfl) hp hi
   have w3:=evM_new hm (κ:=3) (.inr rfl) hp hi
   simp only at s2 s3
   have hkw:kwL ps b11 b10 b2 (off ps p+(i+1))=[(b11,.amap (mapK (evM ps 3 (off ps p+i+1))) (mapV (evM ps 3 (off ps p+i+1)))),(b10,.amap (mapK (evM ps 2 (off ps p+i+1))) (mapV (evM ps 2 (off ps p+i+1)))),(b2,.row 93 3 [.agg [anil,.v (.map none),.v (.map none)]] 1)]:=rfl
   have hkw0:kwL ps b11 b10 b2 (off ps p+i)=[(b11,.amap (mapK (evM ps 3 (off ps p+i))) (mapV (evM ps 3 (off ps p+i)))),(b10,.amap (mapK (evM ps 2 (off ps p+i))) (mapV (evM ps 2 (off ps p+i)))),(b2,.row 93 3 [.agg [anil,.v (.map none),.v (.map none)]] 1)]:=rfl
   rw[hkw0]
   have hfk:=fits_int ps[p].evs[i].msg
   have hf2:=mapK_fits (evM ps 2 (off ps p+i))
   have hf3:=mapK_fits (evM ps 3 (off ps p+i))
   have m2:=fun h=>mput_new (e:=((p:Int),(i:Int)+1)) (w2 h)
   have m3:=fun h=>mput_new (e:=((p:Int),(i:Int)+1)) (w3 h)
   simp only[intV,aEid] at m2 m3 hfk
   clear w2 w3 hkw0 hev
   generalize evM ps 2 (off ps p+i+1)=M2' at *
   generalize evM ps 3 (off ps p+i+1)=M3' at *
   generalize evM ps 2 (off ps p+i)=M2 at *
   generalize evM ps 3 (off ps p+i)=M3 at *
   generalize ps[p].evs[i]=e at *
   simp only[go_sem]
   refine W1 hge ?_
   intros
   refine Wk ?_
   intros
   refine W6 n1 n2 n3 n4 hfk hf2 ?_
   refine⟨fun h2 => ?_,fun h2 => ?_⟩
   ·rw[if_pos h2] at s2
    rw[if_neg (by omega),List.append_nil] at s3
    refine Sd ?_
    refine⟨_,List.Sublist.refl _,?_⟩
    rw[hkw,s2,s3,m2 h2]
   ·rw[if_neg h2,List.append_nil] at s2
    refine W6 n1 n2 n3 n4 hfk hf3 ?_
    refine⟨fun h3 => ?_,fun h3 => ?_⟩
    ·rw[if_pos h3] at s3
     refine Sd ?_
     refine⟨_,List.Sublist.refl _,?_⟩
     rw[hkw,s2,s3,m3 h3]
    ·rw[if_neg h3,List.append_nil] at s3
     refine Wk ?_
     refine⟨_,List.Sublist.refl _,?_⟩
     rw[hkw,s2,s3]
  ·rintro vs L - rfl
   rw[← hos]
   simp only[go_sem]
   exact⟨_,List.Sublist.refl _,rfl⟩
 ·rintro vs L - rfl
  unfold kwL
  simp only[go_sem]
  refine W4 n1 n2 n3 n4 ?_
  refine ret_view [true,true,true] ?_;simp only[go_sem]
  simp only[go_sem,n1,n2,n3,n4]
  exact .mkAgg (Vws.cons (.refl _) (Vws.cons (.lm (by simp only[lk,n1,if_false,if_true]) rfl (fun i x y h1 h2=>by rw[h1] at h2;cases h2;exact .refl _)) (Vws.cons (.lm (if_pos rfl) rfl (fun i x y h1 h2=>by rw[h1] at h2;cases h2;exact .refl _)) .nil)))
def eidOk (ps:List Pr) (x:Eid):Bool:=decide (0≤x.1) && (decide (x.1<ps.length) && (decide (1≤x.2) && decide (x.2≤nev ps x.1.toNat)))
theorem eidOk_iff {ps:List Pr} {x:Eid} : eidOk ps x=true↔VEv ps x:=by
 unfold eidOk
 simp only[Bool.and_eq_true,decide_eq_true_eq]
 constructor
 ·rintro⟨h1,h2,h3,h4⟩
  have hp:x.1.toNat<ps.length:=by omega
  rw[nev_get hp] at h4
  exact⟨x.1.toNat,hp,x.2.toNat - 1,by omega,Prod.ext (by simp;omega) (by simp;omega)⟩
 ·rintro⟨p,hp,i,hi,rfl⟩
  have:((p:Int)).toNat=p:=by omega
  simp only[this]
  rw[nev_get hp]
  omega
theorem causality_exists (ps:List Pr) (hs:Sm ps) (x:Eid):PC Proofs.Tryz.prog 80 [aTr ps,aEid x] (ab (eidOk ps x)):=by
 have hel:∀(p:Nat) (hp:p<ps.length),ps[p].evs.length≤1000000:=fun p hp=>hs.evs _ (List.getElem_mem hp)
 obtain⟨x1,x2⟩:=x
 have hv:eidOk ps (x1,x2)=(decide (0≤x1) && (decide (x1<ps.length) && (decide (1≤x2) && decide (x2≤nev ps x1.toNat)))):=rfl
 have haE:aEid (x1,x2) = .agg [ai x1,ai x2]:=rfl
 rw[haE]
 by_cases hp:x1.toNat<ps.length
 ·have hg:=getD_map (f:=aPr) hp
  rw[nev_get hp] at hv
  generalize ps[x1.toNat]=y at *
  refine PC.enter 34 [.tmp 4] [2,3] Proofs.Tryz.func80 rfl rfl rfl rfl rfl (by simp) (AWp.of ?_);simp only[go_sem]
  refine Wk ?_
  refine AWp.seq ?_
  repeat(first|(with_reducible refine AWp.seq ?_)|(with_reducible refine AWp.block ?_))
  refine AWp.read mixed [0,1,2,3,4,5,6,7,8,9,10,11,12,13,14,15,16,17,18,19,20,21,22,23,24,25,26,27,28,29] (by kernel_rfl) ?_;simp only[go_sem,hg]
  refine⟨fun h1 h2 h3=>⟨⟨⟨h1,h2⟩,h3⟩,h1,h2⟩,fun h1 h2 h3=>⟨⟨⟨h1,h2⟩,h3⟩,hp⟩,?_⟩
  refine Wk ?_
  refine ret_eq ?_;simp only[go_sem]
  rw[hv,Bool.and_assoc,Bool.and_assoc]
 ·have hg:(ps.map aPr).getD x1.toNat .any = .any:=by rw[List.getD_eq_getElem?_getD,List.getElem?_eq_none (by rw[List.length_map];omega)];rfl
  have hx:¬(x1<ps.length)∨x1<0:=by omega
  refine PC.enter 34 [.tmp 4] [2,3] Proofs.Tryz.func80 rfl rfl rfl rfl rfl (by simp) (AWp.of ?_);simp only[go_sem]
  refine Wk ?_
  refine AWp.seq ?_
  have hnc:¬((0≤x1∧x1<ps.length)∧1≤x2):=by omega
  repeat(first|(with_reducible refine AWp.seq ?_)|(with_reducible refine AWp.block ?_))
  refine AWp.read mixed [0,1,2,3,4,5,6,7,8,9,10,11,12,13,14,15,16,17,18,19,20,21,22,23,24,25,26,27,28,29] (by kernel_rfl) ?_;simp only[go_sem,hg,List.getD_nil,hnc]
  refine Wk ?_
  refine ret_eq ?_;simp only[go_sem]
  have:(decide (0≤x1) && decide (x1<ps.length) && decide (1≤x2))=false:=by
   rw[← Bool.not_eq_true]
   simpa using hnc
  rw[hv,← Bool.and_assoc,← Bool.and_assoc,this];rfl
theorem causality_event (ps:List Pr) (hs:Sm ps) (p:Nat) (hp:p<ps.length) (i:Nat) (hi:i<ps[p].evs.length) (k1 k2:List Value) (v1 v2:List AV):PC Proofs.Tryz.prog 110 [.agg [.sl 3 (ps.map aPr),.rm k1 v1,.rm k2 v2],aEid (p,(i:Int)+1)] (aEv ps[p].evs[i]):=by
 have hel:=hs.evs _ (List.getElem_mem hp)
 have hgp:=getD_map (f:=aPr) hp
 have hge:=getD_map (f:=aEv) hi
 have hi1:(i:Int)+1 - 1=i:=by omega
 have haE:aEid ((p:Int),(i:Int)+1) = .agg [ai p,ai ((i:Int)+1)]:=rfl
 rw[haE]
 refine PC.enter 18 [.cell 4 85] [2,3] Proofs.Tryz.func110 rfl rfl rfl rfl rfl (by simp) (AWp.of ?_);simp only[go_sem]
 refine Wk ?_
 intro b4
 refine AWp.seq ?_
 repeat(first|(with_reducible refine AWp.seq ?_)|(with_reducible refine AWp.block ?_))
 refine AWp.mix mixed [0,1,2,3,4,5,6,7,8,9,10,11,12] (.step 13 .done .done) (by kernel_rfl) ?_;simp only[go_sem,hgp,hge,hi1]
 refine Sd ?_
 refine Wk ?_
 refine ret_view [] ?_;simp only[go_sem]
 exact .refl _
theorem causality_back (ps:List Pr) (hs:Sm ps) (hv:validF ps=true) (p:Nat) (hp:p<ps.length) (i:Nat) (hi:i<ps[p].evs.length):MCalls Proofs.Tryz.prog 81 [kwV ps,aEid (p,(i:Int)+1)] [] fun r L=>AppSt 54 2 ((dirL ps p i).map aEid) r L:=by
 have hm:=(valid_parts hv).2.2
 have hel:=hs.evs _ (List.getElem_mem hp)
 have hat:=causality_event ps hs p hp i hi (mapK (evM ps 2 (off ps ps.length))) (mapK (evM ps 3 (off ps ps.length))) (mapV (evM ps 2 (off ps ps.length))) (mapV (evM ps 3 (off ps ps.length)))
 have hd:dirL ps p i=(if 0<i then [((p:Int),(i:Int))] else []) ++ (if ps[p].evs[i].kind=3 then [sndr ps ps[p].evs[i].msg] else []):=by
  unfold dirL;rw[evq_get hp hi]
 have hmg:=fun h z=>mget_mem (z:=z) (evM_nodup hm (.inl rfl) (off ps ps.length)) (evM_sndr hm hp hi h)
 have hfk:=fits_int ps[p].evs[i].msg
 have hf2:=mapK_fits (evM ps 2 (off ps ps.length))
 have haE:aEid ((p:Int),(i:Int)+1) = .agg [ai p,ai ((i:Int)+1)]:=rfl
 have hi1:(i:Int)+1 - 1=i:=by omega
 rw[haE] at *
 simp only[intV] at hmg hfk
 rw[hd]
 unfold kwV
 clear hd
 generalize evM ps 2 (off ps ps.length)=M2 at *
 generalize evM ps 3 (off ps ps.length)=M3 at *
 generalize ps[p].evs[i]=e at *
 generalize sndr ps e.msg=sd at *
 obtain⟨s1,s2⟩:=sd
 have hsd:aEid (s1,s2) = .agg [ai s1,ai s2]:=rfl
 simp only[hsd] at hmg
 refine MCalls.enter' 34 [.tmp 4] [2,3,6,17,31] Proofs.Tryz.func81 rfl rfl rfl rfl rfl (by simp) (AWp.of ?_);simp only[go_sem]
 refine Wk ?_
 by_cases h2:e.kind=3
 ·have hmg:=hmg h2
  rw[if_pos h2]
  refine W1 hi1 ?_
  refine⟨fun h1 => ?_,fun h1 => ?_⟩
  ·rw[if_pos (show 0<i by omega)]
   refine W1 hi1 ?_
   intro b cap g1
   refine Wk ?_
   refine Sd ?_
   refine(hat).val.use ?_;simp only[go_sem]
   refine Wk ?_
   intro b6 g2
   refine W4 h2 hfk hf2 hmg ?_
   intro b3 cap3 g3
   refine Wk ?_
   refine ret_own ?_
   simp only[go_sem]
   rw[hi1]
   exact .row _ [_,_] _
  ·rw[if_neg (show ¬0<i by omega)]
   refine Wk ?_
   refine Sd ?_
   refine(hat).val.use ?_;simp only[go_sem]
   refine Wk ?_
   intro b6
   refine W4 h2 hfk hf2 hmg ?_
   intro b3 cap3 g3
   refine Wk ?_
   refine ret_own ?_
   simp only[go_sem]
   exact .row _ [_] _
 ·rw[if_neg h2]
  refine W1 hi1 ?_
  refine⟨fun h1 => ?_,fun h1 => ?_⟩
  ·rw[if_pos (show 0<i by omega)]
   refine W1 hi1 ?_
   intro b cap g1
   refine Wk ?_
   refine Sd ?_
   refine(hat).val.use ?_;simp only[go_sem]
   refine Wk ?_
   intro b6 g2
   refine W1 h2 ?_
   refine ret_own ?_
   simp only[go_sem]
   rw[hi1]
   exact .row _ [_] _
  ·rw[if_neg (show ¬0<i by omega)]
   refine Wk ?_
   refine Sd ?_
   refine(hat).val.use ?_;simp only[go_sem]
   refine Wk ?_
   intro b6
   refine W1 h2 ?_
   refine ret_own ?_
   simp only[go_sem]
   exact .nil
end Go.AL
end
