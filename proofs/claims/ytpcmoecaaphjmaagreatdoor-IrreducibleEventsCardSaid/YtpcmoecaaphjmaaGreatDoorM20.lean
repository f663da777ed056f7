/- Texts of this claim's proof: WI22, WLst, AlSrk, WI23, WI24, WI25. No condition. -/
import Derived.Test.YtpcmoecaaphjmaaGreatDoorM19
import Derived.Test.YtpcmoecaaphjmaaGreatDoorM9
import Derived.Sort.Walk0
import Derived.Test.YtpcmoecaaphjmaaGreatDoorProg
import Derived.Shelf.SlGeneric
import Derived.Shelf.SlLaysF0
import Derived.Shelf.SlSortCmp.WholeK
section
namespace Go.AL
open Go Go.RowKit Go.Lib Go.Sort Go.Proofs Go.Shelf
set_option maxRecDepth 4000
def cmpS (a b:ByteArray):Int:=if Op.bytesLess a.toList b.toList=true then -1 else if (!(Op.bytesLess a.toList b.toList || seqB a b))=true then 1 else 0
theorem nan_str (x:ByteArray):PC Proofs.Tryz.prog 276 [astr x] (ab false):=by
 refine PC.enter 6 [.tmp 2] [] Proofs.Tryz.func276 rfl rfl rfl rfl rfl (by simp) (AWp.of ?_);simp only[go_sem]
 refine Wk ?_
 refine ret_eq ?_;simp only[go_sem]
theorem cmp_str (x y:ByteArray):PC Proofs.Tryz.prog 213 [astr x,astr y] (ai (cmpS x y)):=by
 have hq:=seqB_dec' x y
 have hsp:cmpS x y=if Op.bytesLess x.toList y.toList=true then -1 else if Op.bytesLess x.toList y.toList=false∧¬x=y then 1 else 0:=by
  unfold cmpS
  rw[hq]
  cases Op.bytesLess x.toList y.toList <;> simp
 rw[hsp]
 clear hsp
 generalize hb:Op.bytesLess x.toList y.toList=u
 refine PC.enter 20 [.tmp 4] [] Proofs.Tryz.func213 rfl rfl rfl rfl rfl (by simp) (AWp.of ?_);simp only[go_sem]
 refine Wk ?_
 refine Sd ?_
 refine(nan_str x).val.use ?_;simp only[go_sem]
 refine Wk ?_
 refine Sd ?_
 refine(nan_str y).val.use ?_;simp only[go_sem]
 cases u with
 | true =>
  refine W1 hb ?_
  refine ret_eq ?_;simp only[go_sem]
 | false =>
  by_cases e:x=y
  ·subst e
   refine W1 hb ?_
   refine ret_eq ?_;simp only[go_sem]
  ·refine W2 hb e ?_
   refine ret_eq ?_;simp only[go_sem]
theorem cmp_or2 (a b:Int):PC Proofs.Tryz.prog 211 [.sl 1 [ai a,ai b]] (ai (if a=0 then b else a)):=by
 refine PC.enter 18 [.tmp 2] [] Proofs.Tryz.func211 rfl rfl rfl rfl rfl (by simp) (AWp.of ?_);simp only[go_sem]
 refine Wk ?_
 refine AWp.range' 2 [] [3,6,7] (fun k vs L=>vs=[]∧L=[]∧(0<k→a=0)∧(1<k→b=0)) (by decide) rfl rfl rfl ⟨rfl,rfl,by omega,by omega⟩ ?_ ?_
 ·rintro k vs L hk - ⟨rfl,rfl,h1,h2⟩
  have hk2:k=0∨k=1:=by omega
  rcases hk2 with rfl|rfl
  ·simp only[go_sem]
   refine Wk ?_
   refine⟨fun h => ?_,fun h => ?_⟩
   ·refine Wk ?_
    refine ret_eq ?_;simp only[go_sem]
    rw[if_neg h]
   ·exact⟨_,List.Sublist.refl _,rfl,h⟩
  ·simp only[go_sem]
   have h1:=h1 (by decide)
   refine Wk ?_
   refine⟨fun h => ?_,fun h => ?_⟩
   ·refine Wk ?_
    refine ret_eq ?_;simp only[go_sem]
    rw[if_pos h1]
   ·exact⟨_,List.Sublist.refl _,rfl,h1,h⟩
 ·rintro vs L - ⟨rfl,rfl,h1,h2⟩
  simp only[go_sem]
  refine Wk ?_
  refine ret_eq ?_;simp only[go_sem]
  rw[if_pos (h1 (by decide)),h2 (by decide)]
abbrev Trm:=Int × ByteArray × Int
def aTm (x:Trm):AV:=.agg [ai x.1,astr x.2.1,ai x.2.2]
def cmpT (x y:Trm):Int:=if cmpI x.1 y.1=0 then cmpS x.2.1 y.2.1 else cmpI x.1 y.1
theorem classify_sum1 (x y:Trm):PC Proofs.Tryz.prog 210 [aTm x,aTm y] (ai (cmpT x y)):=by
 have h1:=cmp_int x.1 y.1
 have h2:=cmp_str x.2.1 y.2.1
 have h3:=cmp_or2 (cmpI x.1 y.1) (cmpS x.2.1 y.2.1)
 unfold cmpT aTm
 generalize cmpI x.1 y.1=a at *
 generalize cmpS x.2.1 y.2.1=b at *
 refine PC.enter 17 [.tmp 4] [2,3,15] Proofs.Tryz.func210 rfl rfl rfl rfl rfl (by simp) (AWp.of ?_);simp only[go_sem]
 refine Wk ?_
 repeat(first|(with_reducible refine AWp.seq ?_)|(with_reducible refine AWp.block ?_))
 refine AWp.mix mixed [0,1,2,3,4,5,6,7,8,9,10,11,12] .done (by kernel_rfl) ?_;simp only[go_sem]
 refine Sd ?_
 refine Gc h1 ?_
 refine Sd ?_
 refine Sd ?_
 refine Gc h2 ?_
 refine Sd ?_
 refine Sd ?_
 refine Gc h3 ?_
 refine Sd ?_
 refine Wk ?_
 refine ret_eq ?_;simp only[go_sem]
theorem cmpS_neg (a b:ByteArray):cmpS a b<0↔a.toList<b.toList:=by
 unfold cmpS
 rw[bytesLess_eq]
 by_cases h:a.toList<b.toList
 ·simp [h]
 ·simp only[h,decide_false,Bool.false_eq_true,if_false,Bool.false_or,iff_false]
  split <;> omega
theorem cmpT_neg (x y:Trm):cmpT x y<0↔x.1<y.1∨(x.1=y.1∧x.2.1.toList<y.2.1.toList):=by
 unfold cmpT cmpI
 rw[← cmpS_neg]
 by_cases h1:x.1<y.1
 ·simp [h1]
 ·by_cases h2:y.1<x.1
  ·rw[if_neg h1,if_pos h2]
   simp [h1];omega
  ·have e:x.1=y.1:=by omega
   simp [e]
theorem swoT:SWO (ltOf cmpT) where
 irrefl x:=by
  unfold ltOf
  rw[decide_eq_false_iff_not,cmpT_neg]
  rintro(h|⟨_,h⟩)
  ·omega
  ·exact List.lt_irrefl _ h
 trans x y z h1 h2:=by
  unfold ltOf at *
  rw[decide_eq_true_eq,cmpT_neg] at *
  rcases h1 with h1|⟨e1,h1⟩ <;> rcases h2 with h2|⟨e2,h2⟩
  ·left;omega
  ·left;omega
  ·left;omega
  ·right;exact⟨by omega,List.lt_trans h1 h2⟩
 ntrans x y z h1 h2:=by
  unfold ltOf at *
  rw[decide_eq_false_iff_not,cmpT_neg] at *
  rintro(h|⟨e,h⟩)
  ·have a1:¬x.1<y.1:=fun g=>h1 (.inl g)
   have a2:¬y.1<z.1:=fun g=>h2 (.inl g)
   omega
  ·have a1:¬x.1<y.1:=fun g=>h1 (.inl g)
   have a2:¬y.1<z.1:=fun g=>h2 (.inl g)
   have e1:x.1=y.1:=by omega
   have e2:y.1=z.1:=by omega
   have b1:¬x.2.1.toList<y.2.1.toList:=fun g=>h1 (.inr ⟨e1,g⟩)
   have b2:¬y.2.1.toList<z.2.1.toList:=fun g=>h2 (.inr ⟨e2,g⟩)
   exact List.le_trans (List.not_lt.1 b2) (List.not_lt.1 b1) h
end Go.AL
end
section
namespace Go.AL
open Go Go.RowKit Go.Lib Go.Sort Go.Proofs Go.Shelf
def sortTerms_ren:Go.Shelf.Ren:=⟨fun|6=>209|15=>187|14=>274|28=>251|29=>252|20=>304|21=>305|22=>306|23=>307|24=>308|25=>309|26=>310|27=>311|46=>325|47=>288|48=>289|49=>326|50=>327|57=>332|n=>n,fun|22=>131|24=>255|25=>259|3=>3|39=>226|0=>0|53=>289|55=>168|4=>4|46=>283|45=>282|50=>182|5=>5|9=>9|66=>315|70=>319|76=>341|77=>144|n=>n,fun|n=>n⟩
theorem sortTerms:Go.Proofs.SlLaysF0.n6 Proofs.Tryz.prog sortTerms_ren where
 mixed:=by kernel_rfl
 f6:=⟨"slices.SortFunc[[]antecede/api.Term,antecede/api.Term]",by decide,Proofs.Tryz.func209.trans (congrArg some (by kernel_rfl))⟩
 f14:=⟨"slices.pdqsortCmpFunc[antecede/api.Term]",by decide,Proofs.Tryz.func274.trans (congrArg some (by kernel_rfl))⟩
 f15:=Proofs.Tryz.func187.trans (congrArg some (by kernel_rfl))
 f20:=⟨"slices.insertionSortCmpFunc[antecede/api.Term]",by decide,Proofs.Tryz.func304.trans (congrArg some (by kernel_rfl))⟩
 f21:=⟨"slices.heapSortCmpFunc[antecede/api.Term]",by decide,Proofs.Tryz.func305.trans (congrArg some (by kernel_rfl))⟩
 f22:=⟨"slices.breakPatternsCmpFunc[antecede/api.Term]",by decide,Proofs.Tryz.func306.trans (congrArg some (by kernel_rfl))⟩
 f23:=⟨"slices.choosePivotCmpFunc[antecede/api.Term]",by decide,Proofs.Tryz.func307.trans (congrArg some (by kernel_rfl))⟩
 f24:=⟨"slices.reverseRangeCmpFunc[antecede/api.Term]",by decide,Proofs.Tryz.func308.trans (congrArg some (by kernel_rfl))⟩
 f25:=⟨"slices.partialInsertionSortCmpFunc[antecede/api.Term]",by decide,Proofs.Tryz.func309.trans (congrArg some (by kernel_rfl))⟩
 f26:=⟨"slices.partitionEqualCmpFunc[antecede/api.Term]",by decide,Proofs.Tryz.func310.trans (congrArg some (by kernel_rfl))⟩
 f27:=⟨"slices.partitionCmpFunc[antecede/api.Term]",by decide,Proofs.Tryz.func311.trans (congrArg some (by kernel_rfl))⟩
 f28:=Proofs.Tryz.func251.trans (congrArg some (by kernel_rfl))
 f29:=Proofs.Tryz.func252.trans (congrArg some (by kernel_rfl))
 f46:=⟨"slices.siftDownCmpFunc[antecede/api.Term]",by decide,Proofs.Tryz.func325.trans (congrArg some (by kernel_rfl))⟩
 f47:=Proofs.Tryz.func288.trans (congrArg some (by kernel_rfl))
 f48:=Proofs.Tryz.func289.trans (congrArg some (by kernel_rfl))
 f49:=⟨"slices.medianAdjacentCmpFunc[antecede/api.Term]",by decide,Proofs.Tryz.func326.trans (congrArg some (by kernel_rfl))⟩
 f50:=⟨"slices.medianCmpFunc[antecede/api.Term]",by decide,Proofs.Tryz.func327.trans (congrArg some (by kernel_rfl))⟩
 f57:=⟨"slices.order2CmpFunc[antecede/api.Term]",by decide,Proofs.Tryz.func332.trans (congrArg some (by kernel_rfl))⟩
 t0:=Proofs.Tryz.underlying0
 a0:=Proofs.Tryz.isAgg0
 z0:=Proofs.Tryz.sizeOf0
 v0:=Proofs.Tryz.zeroValue0
 t3:=Proofs.Tryz.underlying3
 a3:=Proofs.Tryz.isAgg3
 z3:=Proofs.Tryz.sizeOf3
 v3:=Proofs.Tryz.zeroValue3
 t4:=Proofs.Tryz.underlying4
 a4:=Proofs.Tryz.isAgg4
 z4:=Proofs.Tryz.sizeOf4
 v4:=Proofs.Tryz.zeroValue4
 t5:=Proofs.Tryz.underlying5
 a5:=Proofs.Tryz.isAgg5
 z5:=Proofs.Tryz.sizeOf5
 v5:=Proofs.Tryz.zeroValue5
 t9:=Proofs.Tryz.underlying9
 a9:=Proofs.Tryz.isAgg9
 z9:=Proofs.Tryz.sizeOf9
 v9:=Proofs.Tryz.zeroValue9
 t22:=Proofs.Tryz.underlying131
 a22:=Proofs.Tryz.isAgg131
 z22:=Proofs.Tryz.sizeOf131
 v22:=Proofs.Tryz.zeroValue131
 t25:=Proofs.Tryz.underlying259
 a25:=Proofs.Tryz.isAgg259
 z25:=Proofs.Tryz.sizeOf259
 v25:=Proofs.Tryz.zeroValue259
 t39:=Proofs.Tryz.underlying226
 a39:=Proofs.Tryz.isAgg226
 z39:=Proofs.Tryz.sizeOf226
 v39:=Proofs.Tryz.zeroValue226
 t45:=Proofs.Tryz.underlying282
 a45:=Proofs.Tryz.isAgg282
 z45:=Proofs.Tryz.sizeOf282
 v45:=Proofs.Tryz.zeroValue282
 t46:=Proofs.Tryz.underlying283
 a46:=Proofs.Tryz.isAgg283
 z46:=Proofs.Tryz.sizeOf283
 v46:=Proofs.Tryz.zeroValue283
 t50:=Proofs.Tryz.underlying182
 a50:=Proofs.Tryz.isAgg182
 z50:=Proofs.Tryz.sizeOf182
 v50:=Proofs.Tryz.zeroValue182
 t53:=Proofs.Tryz.underlying289
 a53:=Proofs.Tryz.isAgg289
 z53:=Proofs.Tryz.sizeOf289
 v53:=Proofs.Tryz.zeroValue289
 t55:=Proofs.Tryz.underlying168
 a55:=Proofs.Tryz.isAgg168
 z55:=Proofs.Tryz.sizeOf168
 v55:=Proofs.Tryz.zeroValue168
 t66:=Proofs.Tryz.underlying315
 a66:=Proofs.Tryz.isAgg315
 z66:=Proofs.Tryz.sizeOf315
 v66:=Proofs.Tryz.zeroValue315
 t70:=Proofs.Tryz.underlying319
 a70:=Proofs.Tryz.isAgg319
 z70:=Proofs.Tryz.sizeOf319
 v70:=Proofs.Tryz.zeroValue319
 t76:=Proofs.Tryz.underlying341
 a76:=Proofs.Tryz.isAgg341
 z76:=Proofs.Tryz.sizeOf341
 v76:=Proofs.Tryz.zeroValue341
 t77:=Proofs.Tryz.underlying144
 a77:=Proofs.Tryz.isAgg144
 z77:=Proofs.Tryz.sizeOf144
 v77:=Proofs.Tryz.zeroValue144
end Go.AL
end
section
namespace Go.AL
open Go Go.RowKit Go.Lib Go.Sort Go.Proofs Go.Shelf
theorem sort_callsK {P:Program} {ρ:Ren} (S:SlLaysF0.n6 P ρ) {g:Nat} {t:TypeId} {β:Type} [Inhabited β] (k:Nat) (hk0:0<k) (aE:∀w,(isAgg (ρ.t 24)).run P w = .ok true w) (zE:∀w,(Go.sizeOf (ρ.t 24)).run P w = .ok k w)
  (av:β→AV) (enc:β→List Value) (hk:∀x,(enc x).length=k) (h1:∀x,∀v ∈ enc x,v.oneCell'=true) (hcl:∀x,(av x).cells=(enc x).map AV.v) (hel:∀x,elOk k (av x)) (hrel:∀w A x,Rel w A (av x) (.agg (enc x).toArray))
  (cf:β→β→Int) (hS:SWO (ltOf cf)) (hc:∀x y,PC P g [av x,av y] (.v (.int .i64 (cf x y)))) (b cap:Nat) (xs:List β) (hlen:xs.length<4611686018427387904) :
  MCalls P (ρ.f 6) [.ls b k 0 xs.length cap,.v (.func (.func g) #[] #[])] [(b,.row t k (xs.map av) cap)]
   fun r L'=>r = .tup []∧∃ys:List β,ys.Perm xs∧ys.Pairwise (fun x y=>¬cf y x<0)∧L'=[(b,.row t k (ys.map av) cap)]:=by
 refine⟨S.f6.enters rfl,fun n w A vs hL hv=>callsIn_wide.2 ?_⟩
 obtain⟨u1,vs1,rfl,r1,hv⟩:=hv.inv_cons
 obtain⟨u2,vs2,rfl,r2,hv⟩:=hv.inv_cons
 obtain rfl:=hv.inv_nil
 cases r2
 cases r1 with
 | ls _ _ _ _ _ o hl hcm hoo =>
 have hb:=hL.blk (b,.row t k (xs.map av) cap) List.mem_cons_self
 have hblk:=hb.lt
 have hnA:=hL.disj (b,.row t k (xs.map av) cap) List.mem_cons_self
 obtain⟨c,b1,b2,b3,b4,b5,b6⟩:=hb
 simp only[List.length_map] at b2 b3 hblk hnA
 have o0:xs.length=0∨o=0:=by
  rcases hoo with h|h
  ·right;rw[h,Nat.zero_mul]
  ·left;omega
 let d:Array β:=xs.toArray
 have dl:d.size=xs.length:=by simp [d]
 have dg:∀i (hi:i<xs.length),d[i]! = xs[i]:=fun i hi=>by rw[getElem!_pos d i (by omega)];simp [d]
 have hcell:∀j,j<xs.length * k→c[j]?=some ((flatK enc k d)[j]!):=fun j hj=>by
  have hjk:j / k<xs.length:=(Nat.div_lt_iff_lt_mul hk0).2 hj
  have hmk:j % k<k:=Nat.mod_lt _ hk0
  have hjc:j<c.size:=by
   rw[b2]
   exact Nat.lt_of_lt_of_le hj (Nat.mul_le_mul_right k b3)
  have e0:j / k * k+j % k=j:=by rw[Nat.mul_comm];exact Nat.div_add_mod j k
  have hlt:j % k<(enc xs[j / k]).length:=by rw[hk];exact hmk
  have h:=b6 (j / k) (av xs[j / k]) (j % k) (.v (enc xs[j / k])[j % k]) c[j] (by simp [hjk]) (by rw[hcl];simp [hlt]) (by rw[e0];simp [hjc])
  rw[get_flatK _ _ _ _ (by rw[dl];exact hj),dg _ hjk,Array.getElem?_eq_getElem hjc]
  generalize c[j]=u at h
  cases h
  rw[getElem!_pos (enc xs[j / k]) (j % k) hlt]
 have hH:HoldsK enc k w b o d:=fun j hj=>by
  rw[size_flatK,dl] at hj
  have ho0:o=0:=by
   rcases o0 with h|h
   ·rw[h,Nat.zero_mul] at hj;omega
   ·exact h
  subst ho0
  refine⟨?_,?_⟩
  ·simp only[World.cell?,b1,Nat.zero_add,Option.isSome_none,Bool.false_eq_true,if_false]
   simpa using hcell j hj
  ·simp [World.frozen?,b1]
 have eg:∀args w,(callFunc g args).run P w = .ok (.enter g args) w:=(hc default default).1
 have hcmp:CmpLays P g #[] enc k cf b o d.size w:=fun m os dk hdk x y=>by
  have keep:∀q,A q→(sortWorld id w b o m (flatK enc k dk) os).heap[q]?=w.heap[q]?:=fun q hq=>sortWorld_heap_ne id w b o m (flatK enc k dk) os (hL.abnd q hq) (fun e=>hnA (e ▸ hq))
  have hL':LRel (sortWorld id w b o m (flatK enc k dk) os) A []:=⟨fun q hq=>Nat.lt_of_lt_of_le (hL.abnd q hq) (sortWorld_size ..),(fun _ h=>nomatch h),by simp,(fun _ h=>nomatch h),hL.globL keep fun _ h=>h⟩
  have hr:Rels (sortWorld id w b o m (flatK enc k dk) os) A [av x,av y] [.agg (enc x).toArray,.agg (enc y).toArray]:=.cons (hrel _ _ _) (.cons (hrel _ _ _) .nil)
  have h:=callsIn_wide.1 ((hc x y).2 0 _ A _ hL' hr)
  refine Calls.mono h ?_
  rintro e w' ⟨v,r,L',A',rfl,⟨rfl,rfl⟩,hf,_,_,_,hrv⟩
  cases hrv
  exact⟨rfl,grow_of_Fr hf fun q ⟨_,hq,_⟩=>by cases hq⟩
 have main:=AnyQ.slices_SortFunc S k aE zE enc hk h1 cf hS g #[] b o cap d w eg hcmp hH hblk (by rw[dl];exact hlen)
 rw[dl] at main
 refine Calls.mono main ?_
 rintro e w' ⟨rfl,d',n',os,hp,hs,rfl⟩
 have sz:d'.size=xs.length:=by rw[hp.1,dl]
 have keep:∀q,A q→(sortWorld id w b o n' (flatK enc k d') os).heap[q]?=w.heap[q]?:=fun q hq=>sortWorld_heap_ne id w b o n' (flatK enc k d') os (hL.abnd q hq) (fun e=>hnA (e ▸ hq))
 refine⟨_,.tup [],[(b,.row t k (d'.toList.map av) cap)],A,rfl,⟨rfl,d'.toList,?_,?_,rfl⟩,⟨rfl,rfl,rfl,sortWorld_size id w b o n' (flatK enc k d') os,fun q hq hn => ?_,by simp [sortWorldK,grow,putRowK,putRow,mapBlock,Sort.ahead]⟩,fun _ h => .inl h,?_,fun x hx => .inl ?_,.tup [] #[] rfl (by simp)⟩
 ·have:=hp.2.2
  rw[show d'.extract 0 xs.length=d' by rw[← sz];exact Array.extract_size ..,show d.extract 0 xs.length=d by rw[← dl];exact Array.extract_size ..] at this
  simpa [d] using this
 ·rw[List.pairwise_iff_getElem]
  intro i j hi hj hij
  have hi':i<d'.size:=by simpa using hi
  have hj':j<d'.size:=by simpa using hj
  have:=hs i j (Nat.zero_le _) hij (by omega)
  rw[getElem!_pos d' i hi',getElem!_pos d' j hj'] at this
  simpa [ltOf] using this
 ·exact sortWorld_heap_ne id w b o n' (flatK enc k d') os hq fun e=>hn ⟨_,List.mem_cons_self,e.symm⟩
 ·have hb':=sortWorld_heap_eq id w b o n' (flatK enc k d') os b1
  refine⟨fun q hq=>Nat.lt_of_lt_of_le (hL.abnd q hq) (sortWorld_size id w b o n' (flatK enc k d') os),fun x hx => ?_,by simp,fun x hx => ?_,hL.globL keep fun _ h=>h⟩
  ·obtain rfl:=List.mem_singleton.1 hx;exact hnA
  ·obtain rfl:=List.mem_singleton.1 hx
   refine⟨_,hb',by simp [putCells,b2],by simp [sz];omega,b4,fun y hy => ?_,fun i x j y u hi hj hu => ?_⟩
   ·obtain⟨z,_,rfl⟩:=List.mem_map.1 hy
    exact hel z
   ·simp only[List.getElem?_map,Option.map_eq_some_iff] at hi
    obtain⟨z,hz,rfl⟩:=hi
    rw[hcl] at hj
    have hi2:i<d'.size:=by have:=(List.getElem?_eq_some_iff.1 hz).1;simpa using this
    have hjl:j<(enc z).length:=by have:=(List.getElem?_eq_some_iff.1 hj).1;simpa using this
    have hjk:j<k:=by rw[hk] at hjl;exact hjl
    have hy:y = .v (enc z)[j]:=by
     rw[List.getElem?_map,List.getElem?_eq_getElem hjl] at hj
     simpa using hj.symm
    have hik:i * k+j<d'.size * k:=by
     have:=Nat.mul_le_mul_right k (show i+1≤d'.size from hi2)
     rw[Nat.add_mul,Nat.one_mul] at this
     omega
    have o0':o=0:=by rcases o0 with h|h <;> omega
    subst o0'
    simp only[putCells,Array.getElem?_mapIdx,Option.map_eq_some_iff] at hu
    obtain⟨v0,_,hu⟩:=hu
    rw[if_pos ⟨Nat.zero_le _,by rw[size_flatK];omega⟩,Nat.sub_zero,get_flatK _ _ _ _ hik] at hu
    have e1:(i * k+j) / k=i:=by rw[Nat.mul_comm,Nat.mul_add_div hk0,Nat.div_eq_of_lt hjk,Nat.add_zero]
    have e2:(i * k+j) % k=j:=by rw[Nat.mul_comm,Nat.mul_add_mod,Nat.mod_eq_of_lt hjk]
    have e3:d'[i]! = z:=by
     rw[getElem!_pos d' i hi2]
     have:=(List.getElem?_eq_some_iff.1 hz).2
     simpa using this
    rw[e1,e2,e3] at hu
    have e4:id (enc z)[j]! = (enc z)[j]:=by rw[id,getElem!_pos (enc z) j hjl]
    rw[hy,← hu,e4]
    exact .v _
 ·obtain rfl:=List.mem_singleton.1 hx;exact⟨_,List.mem_cons_self,rfl⟩
end Go.AL
end
section
namespace Go.AL
open Go Go.RowKit Go.Lib Go.Sort Go.Proofs Go.Shelf
set_option maxRecDepth 4000
def encT (x:Trm):List Value:=[.int .i64 x.1,.string x.2.1,.int .i64 x.2.2]
theorem sort_terms (b cap:Nat) (xs:List Trm) (hl:xs.length≤1000000) (t:TypeId) :
  MCalls Proofs.Tryz.prog 209 [.ls b 3 0 xs.length cap,.v (.func (.func 210) #[] #[])] [(b,.row t 3 (xs.map aTm) cap)]
   fun r L'=>r = .tup []∧∃ys:List Trm,ys.Perm xs∧ys.Pairwise (fun x y=>¬cmpT y x<0)∧L'=[(b,.row t 3 (ys.map aTm) cap)] :=
 sort_callsK sortTerms 3 (by decide) Proofs.Tryz.isAgg255 Proofs.Tryz.sizeOf255 aTm encT (fun _=>rfl) (fun x v hv=>by simp [encT] at hv;rcases hv with rfl|rfl|rfl <;> rfl) (fun _=>rfl) (fun _=>⟨rfl,rfl⟩)
  (fun w A x => .agg _ _ rfl fun i c u hc hu=>by
   match i with
   | 0=>simp at hc;simp [encT] at hu;subst hc;subst hu;exact .v _
   | 1=>simp at hc;simp [encT] at hu;subst hc;subst hu;exact .v _
   | 2=>simp at hc;simp [encT] at hu;subst hc;subst hu;exact .v _
   | i+3=>simp at hc) cmpT swoT classify_sum1 b cap xs (by omega)
end Go.AL
end
section
namespace Go.AL
open Go Go.RowKit
set_option maxRecDepth 4000
def trm (x:Atm × Int):Trm:=(x.1.2.1,x.1.2.2.2,x.2)
inductive SumR (k:Int) (D:Pd):AV→Prop
 | no:SumR k D (.tup [anil,ai 0,ai 0,ab false])
 | yes (c:Int) (h:Tms) (l:List Trm) (hs:LinS D c h) (hk:∀x ∈ h,x.1.1=2) (hne:h ≠ []) (hp:l.Perm (h.map trm)) (hso:l.Pairwise fun x y=>¬cmpT y x<0):SumR k D (.tup [.sl 3 (l.map aTm),ai k,ai (-c),ab true])
def visL (h:Tms) (vis:List Nat):List Trm:=vis.map fun i=>trm (h.getD i a0)
theorem visL_all {h:Tms} {vis:List Nat} (hn:vis.Nodup) (hl:∀i ∈ vis,i<h.length) (ha:∀i,i<h.length→i ∈ vis):(visL h vis).Perm (h.map trm):=by
 have hp:vis.Perm (List.range h.length):=(List.perm_ext_iff_of_nodup hn List.nodup_range).2 fun i=>⟨fun e=>List.mem_range.2 (hl i e),fun e=>ha i (List.mem_range.1 e)⟩
 have h1:=hp.map fun i=>trm (h.getD i a0)
 have h2:(List.range h.length).map (fun i=>trm (h.getD i a0))=h.map trm:=by
  apply List.ext_getElem
  ·simp
  ·intro i h1 h2
   have:i<h.length:=by simpa using h1
   simp [List.getD_eq_getElem?_getD,List.getElem?_eq_getElem this]
 rw[h2] at h1
 exact h1
set_option maxHeartbeats 2000000 in
theorem classify_sum (t D:Pd) (hc:MCalls Proofs.Tryz.prog 208 [aPd t] [] fun r L=>L=[]∧LinR D r) (hlen:∀c h,LinS D c h→h.length≤1000000):MCalls Proofs.Tryz.prog 137 [aPd t] [] fun r L=>L=[]∧SumR t.kind D r:=by
 obtain⟨k,n,p,q,s,l⟩:=t
 have hno:=SumR.no (k:=k) (D:=D)
 show MCalls _ _ _ _ fun r L=>L=[]∧SumR k D r
 simp only[aPd_mk] at hc ⊢
 refine MCalls.enter' 52 [.tmp 2,.tmp 3,.tmp 4,.tmp 5] [1,6,9,42] Proofs.Tryz.func137 rfl rfl rfl rfl rfl (by simp) (AWp.of ?_);simp only[go_sem]
 refine Wk ?_
 refine(MVal.frame (Lm:=[]) (Lr:=_) hc.val).mono ?_
 rintro r L ⟨L1,rfl,rfl,hR⟩
 rcases hR with ⟨c,h,hs⟩|⟨c,m,hm⟩
 ·have hyes:=fun l a1 a2 a3 a4=>SumR.yes (k:=k) c h l hs a1 a2 a3 a4
  have hlh:=hlen c h hs
  have hkl:=keysT_len h
  generalize SumR k D=RR at *
  by_cases hne:h=[]
  ·subst hne
   have e0:((keysT []).length:Int)=0:=rfl
   simp only[go_sem]
   refine Wk ?_
   intro b6
   refine Sd ?_
   refine W1 e0 ?_
   refine ret_viewK [] _ ⟨rfl,hno⟩ ?_
   simp only[go_sem]
   exact .refl _
  have e0:¬((keysT h).length:Int)=0:=by
   rw[hkl]
   have:=List.length_pos_iff.2 hne
   omega
  simp only[go_sem]
  refine Wk ?_
  intro b6
  refine Sd ?_
  refine W1 e0 ?_
  refine AOp.rangeMap (ks:=keysT h) (vs:=valsT h) (kt:=253) (et:=3) rfl (tinfo_atoms) (fun i hi=>by cases hi;decide) rfl ?_
  intro bi g3
  simp only[go_sem] at g3 ⊢
  refine Wk ?_
  refine AWp.block (AWp.loopN [8] [1,6,26] (fun m vs L=>∃v Ln vis,m=h.length - vis.length∧vis.Nodup∧(∀i ∈ vis,i<h.length)∧(∀i ∈ vis,(h.getD i a0).1.1=2)∧vs=[v]∧L=Ln ++ [(bi,.iter (keysT h) (valsT h) vis)]∧AppSt 255 3 ((visL h vis).map aTm) v Ln∧∀x ∈ Ln,x.1 ≠ bi) h.length ⟨anil,[],[],rfl,.nil,by simp,by simp,rfl,rfl,.nil,by simp⟩ ?_)
  rintro m vs L - ⟨v,Ln,vis,rfl,hvn,hvl,hvk,rfl,rfl,hA,hnb⟩
  have hvn':∀i,i ∉ vis→(vis ++ [i]).Nodup:=fun i hn=>List.nodup_append.2 ⟨hvn,by simp,fun a ha b hb=>by rw[List.mem_singleton.1 hb];rintro rfl;exact hn ha⟩
  have hvl':∀i,i<h.length→∀j ∈ vis ++ [i],j<h.length:=fun i hi j hj=>by
   rcases List.mem_append.1 hj with hj|hj
   ·exact hvl j hj
   ·rw[List.mem_singleton.1 hj];exact hi
  have hvc:∀i,i<h.length→i ∉ vis→h.length - (vis ++ [i]).length<h.length - vis.length:=fun i hi hn=>by
   have:=List.Nodup.length_le_of_subset (hvn' i hn) (l₂:=List.range h.length) (fun j hj=>List.mem_range.2 (hvl' i hi j hj))
   rw[List.length_range,List.length_append,List.length_singleton] at this
   rw[List.length_append,List.length_singleton]
   omega
  have hvk':∀i (hi:i<h.length),h[i].1.1=2→∀j ∈ vis ++ [i],(h.getD j a0).1.1=2:=fun i hi h2 j hj=>by
   rcases List.mem_append.1 hj with hj|hj
   ·exact hvk j hj
   ·rw[List.mem_singleton.1 hj,getD_a0 hi];exact h2
  have hvs:∀i (hi:i<h.length),(visL h (vis ++ [i])).map aTm=(visL h vis).map aTm ++ [.agg [ai h[i].1.2.1,astr h[i].1.2.2.2,ai h[i].2]]:=fun i hi=>by
   unfold visL
   rw[List.map_append,List.map_append]
   simp only[List.map_cons,List.map_nil,getD_a0 hi]
   rfl
  have hvlen:((visL h vis).map aTm).length≤h.length:=by
   have:=List.Nodup.length_le_of_subset hvn (l₂:=List.range h.length) (fun j hj=>List.mem_range.2 (hvl j hj))
   rw[List.length_range] at this
   unfold visL
   simpa using this
  rcases hA.inv with ⟨e1,rfl,rfl⟩|⟨b,cap,rfl,rfl⟩
  ·simp only[go_sem]
   refine Sd ?_
   refine AWp.of ?_;simp only[go_sem]
   refine AOp.nextMap (ks:=keysT h) (vs:=valsT h) (vis:=vis) (b:=bi) rfl ?_ rfl (if_pos rfl) (fun hall => ?_) ?_
   ·intro i hi;cases hi;decide
   ·exfalso
    rw[hkl] at hall
    have h0:=hall 0 (List.length_pos_iff.2 hne)
    unfold visL at e1
    simp at e1
    rw[e1] at h0
    cases h0
   ·intro i hi hn
    rw[hkl] at hi
    rw[e1] at hvs
    simp only[go_sem]
    refine Wk ?_
    refine AOp.entryMap (ks:=keysT h) (vs:=valsT h) (vis:=vis) (i:=i) (b:=bi) rfl ?_ rfl (if_pos rfl) ?_
    ·intro i hi;cases hi;decide
    simp only[go_sem,keysT_getD hi,valsT_getD hi,zav_atmV]
    intro b9 g9
    have m1:¬bi=b9:=by omega
    have m2:¬b9=bi:=by omega
    by_cases hk2:h[i].1.1=2
    ·have hvk':=hvk' i hi hk2
     have hvs:=hvs i hi
     refine Sd ?_
     refine W3 hk2 m1 m2 ?_
     intro b' cap' g8
     intros
     have n1:¬bi=b':=by omega
     have n2:¬b'=bi:=by omega
     refine W2 n1 n2 ?_
     exact⟨_,List.Sublist.refl _,_,hvc i hi hn,_,[(b',_)],vis ++ [i],rfl,hvn' i hn,hvl' i hi,hvk',rfl,rfl,by rw[hvs];exact .row b' [_] cap',by simp;exact n2⟩
    ·refine Sd ?_
     refine W3 hk2 m1 m2 ?_
     refine ret_viewK [] _ ⟨rfl,hno⟩ ?_
     simp only[go_sem,m1,m2]
     exact .refl _
  ·have n1:¬b=bi:=hnb (b,_) List.mem_cons_self
   have n2:¬bi=b:=fun e=>n1 e.symm
   simp only[go_sem]
   refine Sd ?_
   refine AWp.of ?_;simp only[go_sem,n1,n2]
   refine AOp.nextMap (ks:=keysT h) (vs:=valsT h) (vis:=vis) (b:=bi) rfl ?_ rfl (by simp only[go_sem,n1,n2]) (fun hall => ?_) ?_
   ·intro i hi;cases hi;decide
   ·rw[hkl] at hall
    have hpm:=visL_all hvn hvl hall
    have hka:∀x ∈ h,x.1.1=2:=fun x hx=>by
     obtain⟨j,hj,rfl⟩:=List.getElem_of_mem hx
     have:=hvk j (hall j hj)
     rwa [getD_a0 hj] at this
    have hyes:=fun (l:List Trm) (p1:l.Perm (visL h vis)) p2=>hyes l hka hne (p1.trans hpm) p2
    have hst:=sort_terms b cap (visL h vis) (by rw[List.length_map] at hvlen;omega) 255
    simp only[go_sem]
    refine W2 n1 n2 ?_
    refine(MVal.frame (Lm:=[(b,_)]) (Lr:=[(bi,_)]) hst.val).mono ?_
    rintro r L ⟨L1,rfl,rfl,ys,hy1,hy2,rfl⟩
    have hyes:=hyes ys hy1 hy2
    simp only[go_sem]
    refine W2 n1 n2 ?_
    have hyl:(visL h vis).length=(ys.map aTm).length:=by rw[List.length_map];exact hy1.length_eq.symm
    refine AWp.viewA' (L:=[(bi,_)]) (AppSt.row b (ys.map aTm) cap) (j:=8) (by show AV.ls b 3 0 (visL h vis).length cap=_;rw[hyl]) ?_
    generalize ys.map aTm=YS at *
    have hnc:=hs.num
    unfold NumB at hnc
    repeat(first|(with_reducible refine AWp.seq ?_)|(with_reducible refine AWp.block ?_))
    refine AWp.mix mixed [0,1,2,3,4,5,6,7,8,9] .done (by kernel_rfl) ?_;simp only[go_sem]
    refine Wk ?_
    refine Sd ?_
    refine ret_viewK [] _ ⟨rfl,hyes⟩ ?_
    simp only[go_sem]
    exact .refl _
   ·intro i hi hn
    rw[hkl] at hi
    simp only[go_sem,n1,n2]
    refine W2 n1 n2 ?_
    refine AOp.entryMap (ks:=keysT h) (vs:=valsT h) (vis:=vis) (i:=i) (b:=bi) rfl ?_ rfl (by simp only[go_sem,n1,n2]) ?_
    ·intro i hi;cases hi;decide
    simp only[go_sem,keysT_getD hi,valsT_getD hi,zav_atmV]
    intro b9 g8 g9
    have m1:¬bi=b9:=by omega
    have m2:¬b9=bi:=by omega
    have m3:¬b=b9:=by omega
    have m4:¬b9=b:=by omega
    by_cases hk2:h[i].1.1=2
    ·have hvk':=hvk' i hi hk2
     have hvs:=hvs i hi
     refine Sd ?_
     repeat(first|((with_reducible refine AWp.ofC ?_ ?_);exact rfl;simp only[go_sem,hk2,n1,n2,m1,m2,m3,m4])|((with_reducible refine an ?_ ?_);exact Au))
     rw[List.length_map] at hvlen
     refine Sd ?_
     intro b' cap' g10
     have k1:¬b'=bi:=fun e=>g10 e.symm
     intros
     have hap:AppSt 255 3 ((visL h (vis ++ [i])).map aTm) (.ls b' 3 0 ((visL h vis).length+1) cap') [(b',.row 255 3 ((visL h vis).map aTm ++ [.agg [ai h[i].1.2.1,astr h[i].1.2.2.2,ai h[i].2]]) cap')]:=by
      rw[hvs]
      have:=AppSt.row (t:=255) (k:=3) b' ((visL h vis).map aTm ++ [.agg [ai h[i].1.2.1,astr h[i].1.2.2.2,ai h[i].2]]) cap'
      simpa using this
     exact⟨_,List.Sublist.refl _,_,hvc i hi hn,_,[(b',_)],vis ++ [i],rfl,hvn' i hn,hvl' i hi,hvk',rfl,rfl,hap,by simp;exact k1⟩
    ·refine Sd ?_
     repeat(first|((with_reducible refine AWp.ofC ?_ ?_);exact rfl;simp only[go_sem,hk2,n1,n2,m1,m2,m3,m4])|((with_reducible refine an ?_ ?_);exact Au))
     refine ret_viewK [] _ ⟨rfl,hno⟩ ?_
     simp only[go_sem,n1,n2,m1,m2,m3,m4]
     exact .refl _
 ·generalize SumR k D=RR at *
  rcases hm with rfl|⟨ks,vs,rfl⟩
  all_goals
   simp only[go_sem]
   refine Wk ?_
   intro b6
   refine Sd ?_
   refine Wk ?_
   refine ret_viewK [] _ ⟨rfl,hno⟩ ?_
   simp only[go_sem]
   exact .refl _
theorem int_parts {k n p q:Int} {s:ByteArray} {l:List Pd} (h:IntOk (.mk k n p q s l)):(∀x ∈ l,IntOk x)∧((k=1∨k=2∨k=3∨k=4)∧l=[]∨k=5∧(∃x,l=[x])∨(k=6∨k=7∨k=8)∧∃x y,l=[x,y]):=by
 obtain⟨h1,h2,h8⟩:=h
 have h8:k≤8:=h8
 rw[allB_mk,Bool.and_eq_true,List.all_eq_true] at h1 h2
 have hpl:=locB_len h1.1
 have hn:needF k=1:=by unfold needF;rw[if_pos (by omega)]
 refine⟨fun x hx=>⟨h1.2 x hx,h2.2 x hx,res_int ((typ_parts h2.1 hx).trans hn)⟩,?_⟩
 have hk1:1≤k:=by
  by_cases e:1≤k
  ·exact e
  ·exfalso
   have:partsF k = -1:=by unfold partsF;rw[if_neg (by omega),if_neg (by omega),if_neg (by omega)]
   omega
 have hk:(k=1∨k=2∨k=3∨k=4)∨k=5∨(k=6∨k=7∨k=8):=by omega
 rcases hk with hk|hk|hk
 ·left
  have:partsF k=0:=by rcases hk with rfl|rfl|rfl|rfl <;> decide
  exact⟨hk,List.length_eq_zero_iff.1 (by omega)⟩
 ·right;left
  subst hk
  have:partsF 5=1:=by decide
  exact⟨rfl,ln1 (by omega)⟩
 ·right;right
  have:partsF k=2:=by rcases hk with rfl|rfl|rfl <;> decide
  exact⟨hk,ln2 (by omega)⟩
theorem lvs_len (x:Pd):IntOk x→2 * (lvF x).length≤szF x+1:=by
 induction x using Pd.ind with
 | _ k n p q s l ih =>
 intro hio
 obtain⟨hsub,hc⟩:=int_parts hio
 rw[lvF_mk,szF]
 split
 ·simp only[List.length_singleton];omega
 ·rcases hc with ⟨_,rfl⟩|⟨_,x,rfl⟩|⟨_,x,y,rfl⟩
  ·simp [lvL]
  ·have h1:=ih x (by simp) (hsub x (by simp))
   simp only[lvL,szL,List.append_nil];omega
  ·have h1:=ih x (by simp) (hsub x (by simp))
   have h2:=ih y (by simp) (hsub y (by simp))
   simp only[lvL,szL,List.append_nil,List.length_append];omega
theorem lin_len {x y:Pd} {c:Int} {h:Tms} (hx:IntOk x) (hy:IntOk y) (hs:LinS (dfP x y) c h):2 * h.length≤szF x+szF y+2:=by
 have h1:=lvs_len x hx
 have h2:=lvs_len y hy
 have h3:=List.Nodup.length_le_of_subset hs.ok.nd (l₂:=lvF x ++ lvF y) (fun a ha=>by
  obtain⟨z,hz,rfl⟩:=List.mem_map.1 ha
  have:=hs.mem z hz
  unfold dfP at this
  rw[lvF_mk,if_neg (by decide),lvL,lvL,lvL,List.append_nil] at this
  exact this)
 rw[List.length_map,List.length_append] at h3
 omega
theorem pred_cmp {u:Pd} (h:PredOk u):u.kind≤12→∃k x y,(k=9∨k=10∨k=11∨k=12)∧u=nd k [x,y]∧IntOk x∧IntOk y:=by
 refine PredOk.ind (P:=fun u=>u.kind≤12→∃k x y,(k=9∨k=10∨k=11∨k=12)∧u=nd k [x,y]∧IntOk x∧IntOk y) ?_ ?_ ?_ ?_ ?_ u h
 ·intro k hk h
  exact absurd h (by rcases hk with rfl|rfl <;> exact of_decide_eq_false rfl)
 ·intro k x y hk hx hy _
  exact⟨k,x,y,hk,rfl,hx,hy⟩
 ·intro x _ _ h
  exact absurd h (of_decide_eq_false rfl)
 ·intro k x y hk _ _ _ _ h
  exact absurd h (by rcases hk with rfl|rfl <;> exact of_decide_eq_false rfl)
 ·intro k x hk _ _ h
  exact absurd h (by rcases hk with rfl|rfl|rfl|rfl <;> exact of_decide_eq_false rfl)
def noLin:Pd:=.mk 8 0 0 0 ByteArray.empty [.mk 3 0 0 0 ByteArray.empty [],.mk 3 0 0 0 ByteArray.empty []]
theorem noLin_none:linE noLin=none:=by rfl
theorem noLin_not {c:Int} {h:Tms} (hs:LinS noLin c h):False:=by
 obtain⟨g,h1,_⟩:=hs.can
 rw[noLin_none] at h1
 cases h1
inductive TrmR (t:Pd):AV→Prop
 | no:TrmR t (.tup [anil,ai 0,ai 0,ai 15])
 | yes (k:Int) (x y:Pd) (c:Int) (h:Tms) (l:List Trm) (hk:k=9∨k=10∨k=11∨k=12) (hn:normF t false=nd k [x,y]) (hx:IntOk x) (hy:IntOk y) (hs:LinS (dfP x y) c h) (ha:∀a ∈ h,a.1.1=2) (hne:h ≠ []) (hp:l.Perm (h.map trm)) (hso:l.Pairwise fun x y=>¬cmpT y x<0) :
   TrmR t (.tup [.sl 3 (l.map aTm),ai k,ai (-c),ai 0])
theorem classify_checked (ps:List Pr) (hs:Sm ps) (t:Pd) (hz:szF t≤1000000) (hck:checkF ps t=0) (hp:prdF t=0):PC Proofs.Tryz.prog 133 [aTr ps,aPd t] (.tup [aPd (normF t false),ai 0]):=by
 have h1:=predtype_Check ps hs t hz
 rw[hck] at h1
 have h2:=classify_Normal t hz
 unfold nrmF at h2
 rw[if_pos hp,hp] at h2
 obtain⟨k,n,p,q,s,X,hT⟩:=aPd_shape t
 obtain⟨k',n',p',q',s',X',hN⟩:=aPd_shape (normF t false)
 have hTr:aTr ps = .agg [.sl 3 (ps.map aPr)]:=rfl
 rw[hT,hTr] at h1
 rw[hT,hN] at h2
 rw[hT,hTr,hN]
 refine PC.enter 18 [.cell 4 27,.tmp 5] [2,3] Proofs.Tryz.func133 rfl rfl rfl rfl rfl (by simp) (AWp.of ?_);simp only[go_sem]
 intro b4
 refine Wk ?_
 refine Sd ?_
 refine(h1).val.use ?_;simp only[go_sem]
 refine Wk ?_
 refine Sd ?_
 refine(h2).val.use ?_;simp only[go_sem]
 refine Wk ?_
 refine ret_eq ?_;simp only[go_sem]
set_option maxHeartbeats 1000000 in
theorem classify_sumS (t:Pd) (hz:szF t≤1000000) (hp:prdF t=0):MCalls Proofs.Tryz.prog 137 [aPd (normF t false)] [] fun r L=>L=[]∧∃a b c,((r = .tup [anil,ai 0,ai 0,ab false])∨(r = .tup [a,b,c,ab true]∧TrmR t (.tup [a,b,c,ai 0])∧(∃X,a = .sl 3 X)∧(∃n,b=ai n)∧∃n,c=ai n)):=by
 have hok:=norm_ok t (prd_ok hp) false
 have hzn:=Nat.le_trans hok.sz hz
 by_cases hk:9≤(normF t false).kind∧(normF t false).kind≤12
 ·obtain⟨k,x,y,hk4,hn,hx,hy⟩:=pred_cmp hok.ok hk.2
  have hzx:szF (normF t false)=szF x+szF y+1:=by rw[hn,nd_szF];simp only[szL];omega
  have hc:=classify_compared k (by omega) 0 0 0 ByteArray.empty x y (by omega) (by omega) hx hy
  rw[show Pd.mk k 0 0 0 ByteArray.empty [x,y]=normF t false from hn.symm] at hc
  refine(classify_sum (normF t false) (dfP x y) hc fun c h hs=>by have:=lin_len hx hy hs;omega).mono ?_
  rintro r L ⟨rfl,hR⟩
  refine⟨rfl,?_⟩
  generalize hkk:(normF t false).kind=kk at hR
  rcases hR with _|⟨c,h,l,g1,g2,g3,g4,g5⟩
  ·exact⟨.any,.any,.any,.inl rfl⟩
  ·have:kk=k:=by rw[← hkk,hn];rfl
   subst this
   exact⟨_,_,_,.inr ⟨rfl,.yes _ x y c h l hk4 hn hx hy g1 g2 g3 g4 g5,⟨_,rfl⟩,⟨_,rfl⟩,⟨_,rfl⟩⟩⟩
 ·have hc:=classify_comparedN (normF t false) hk
  refine(classify_sum (normF t false) noLin (hc.mono fun r L h=>⟨h.2,by rw[h.1];exact .no _ _ (.inl rfl) noLin_none⟩) fun c h hs=>(noLin_not hs).elim).mono ?_
  rintro r L ⟨rfl,hR⟩
  refine⟨rfl,.any,.any,.any,.inl ?_⟩
  rcases hR with _|⟨c,h,l,g1,g2,g3,g4,g5⟩
  ·rfl
  ·exact(noLin_not g1).elim
end Go.AL
end
