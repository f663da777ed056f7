/- Texts of this claim's proof: WMd, AlGrd, WSs, WSp, WCp, WCk, WEx, WRr, WEy, WPq, WNa, WNb, WTm, WDx, WPu, WNc, WNg, WZ1, WZ2, WY22, WZ3, WZ4, AlWrp, AlWrn, WSg, WNe, WOa. No condition. -/
import Derived.Test.YtbijcgljnecakaaGreatDoorM9
import Derived.Test.YtbijcgljnecakaaGreatDoorM6
import Derived.Test.YtbijcgljnecakaaGreatDoorM7
import Derived.Test.YtbijcgljnecakaaGreatDoorM8
section
namespace Go.AL
open Go Go.RowKit
set_option maxRecDepth 4000
theorem Vw.pre {L:AHeap} {b k n c:Nat} {t:TypeId} {xs ys:List AV} {cap:Nat} (h:lk L b=some (.row t k xs cap)) (hn:n≤xs.length) (ht:xs.take n=ys):Vw L (.ls b k 0 n c) (.sl k ys) :=
 .ls h (by omega) (by rw[List.drop_zero,ht]) (by rw[List.drop_zero,ht];exact(Vws.refl ys).2)
theorem cuts_list (ps:List Pr) (hs:Sm ps):PC Proofs.Tryz.prog 72 [aTr ps] (aLst ps):=by
 have h1:=cuts_levels' ps hs
 have hf:(lvOf ps).flatten.length≤1000000:=by rw[lv_flat];have:=lst_len ps;omega
 have h2:=rows_concat (lvOf ps) (by have:=lv_len hs;omega) hf
 have hR:∀x:List (List Int),aRows x = .sl 1 (x.map aInts):=fun _=>rfl
 have hfl:=lv_flat ps
 unfold aLst
 rw[← hfl,hR]
 generalize lvOf ps=ls at *
 generalize lstE ps=e at *
 refine PC.enter 14 [.tmp 2,.tmp 3] [1] Proofs.Tryz.func72 rfl rfl rfl rfl rfl (by simp) (AWp.of ?_);simp only[go_sem]
 refine Wk ?_
 refine Sd ?_
 refine(h1).val.use ?_;simp only[go_sem]
 refine Wk ?_
 refine h2.val.mono ?_
 intro r L hC
 unfold CatS at hC
 rw[List.take_length] at hC
 rcases hC with ⟨h0,rfl,rfl⟩|⟨b,cap,xs,rfl,rfl,hx,ht⟩
 ·simp only[go_sem]
  refine Wk ?_
  refine ret_view [] ?_;simp only[go_sem]
  rw[h0]
  exact .mkTup (Vws.cons (.nil 1) (Vws.refl _))
 ·simp only[go_sem]
  refine Wk ?_
  refine ret_view [true] ?_;simp only[go_sem]
  exact .mkTup (Vws.cons (Vw.pre (if_pos rfl) hx ht) (Vws.refl _))
theorem cuts_List (ps:List Pr) (hs:Sm ps):PC Proofs.Tryz.prog 33 [aTr ps] (aLst ps):=by
 have h1:=cuts_list ps hs
 unfold aLst at *
 refine PC.enter 8 [.tmp 2,.tmp 3] [1] Proofs.Tryz.func33 rfl rfl rfl rfl rfl (by simp) (AWp.of ?_);simp only[go_sem]
 refine Wk ?_
 refine Sd ?_
 refine(h1).val.use ?_;simp only[go_sem]
 refine Wk ?_
 refine ret_eq ?_;simp only[go_sem]
def fullC (ps:List Pr):List Int:=ps.map fun x=>(x.evs.length:Int)
theorem fullC_at {ps:List Pr} {p:Nat} (hp:p<ps.length):cAt (fullC ps) p=ps[p].evs.length:=by
 unfold fullC
 rw[cAt_nat (by rw[List.length_map];exact hp),List.getElem_map]
theorem fullC_is {ps:List Pr} (hv:validF ps=true):isF ps (fullC ps)=true:=by
 have hl:(fullC ps).length=ps.length:=List.length_map _
 refine isF_iff.2 ⟨hl,(inRange_iff hl).2 fun p hp => ?_,closed_iff.2 fun p hp i hi hk _ => ?_⟩
 ·rw[fullC_at hp];omega
 ·obtain⟨s,hs,j,hj,e,_,_⟩:=sndr_some (recv_sndr (valid_parts hv).2.2 hp hi hk)
  rw[e]
  simp only
  rw[fullC_at hs];omega
end Go.AL
end
section
namespace Go.AL
open Go Go.RowKit
def astepF (C:Cfg) (all:List Oper) (o:Oper) (ρ:Env) (L:AHeap) (K:ARes):Prop :=
 match o.guard with
 | none=>aop C o ρ L K
 | some (j,want)=>match gval all ρ j want with
  | some b=>(b=want→aop C o ρ L K)∧(b ≠ want→K (put ρ o.dst .any) L)
  | none=>False
def aregionF (C:Cfg) (all:List Oper):List Oper→Env→AHeap→ARes→Prop
 | [],ρ,L,K=>K ρ L
 | o :: rest,ρ,L,K=>astepF C all o ρ L fun ρ L=>aregionF C all rest ρ L K
def aregFK (C:Cfg) (all rest:List Oper) (K:ARes) (ρ:Env) (L:AHeap):Prop:=aregionF C all rest ρ L K
theorem aregionF_nil (C:Cfg) (all:List Oper) (ρ:Env) (L:AHeap) (K:ARes):aregionF C all [] ρ L K=K ρ L:=rfl
theorem aregionF_cons (C:Cfg) (all rest:List Oper) (o:Oper) (ρ:Env) (L:AHeap) (K:ARes):aregionF C all (o :: rest) ρ L K=astepF C all o ρ L (aregFK C all rest K):=rfl
attribute [go_sem] aregionF_nil aregionF_cons astepF aregFK
end Go.AL
end
section
namespace Go.AL
open Go Go.RowKit
set_option maxRecDepth 4000
section
variable {ps:List Pr} {ts:List Pd}
end
theorem cut_Consistent (ps:List Pr) (hs:Sm ps) (c:List Int):PC Proofs.Tryz.prog 11 [aTr ps,aInts c] (ab (decide (givenF ps [c] []=0))):=by
 have hg:=cut_given ps hs [c] (by simp) [] (by simp)
 generalize givenF ps [c] []=G at *
 refine PC.enter 10 [.tmp 4] [2,7] Proofs.Tryz.func11 rfl rfl rfl rfl rfl (by simp) (AWp.of ?_);simp only[go_sem]
 refine Wk ?_
 refine(PC.view (Vws.cons (.refl _) (Vws.cons (.refl _) (Vws.cons (.nil 1) .nil))) hg (Own.v _) ?_).val
 simp only[go_sem]
 refine Wk ?_
 refine ret_eq ?_;simp only[go_sem]
theorem given_isF {ps:List Pr} (hv:validF ps=true) (c:List Int):decide (givenF ps [c] []=0)=isF ps c:=by
 rw[Bool.eq_iff_iff,decide_eq_true_eq,givenL,isF_iff]
 simp [hv,and_assoc]
def leqF (a b:List Int):Bool:=decide (a.length=b.length) && (List.range a.length).all fun i=>decide (a.getD i 0≤b.getD i 0)
theorem leqF_iff {a b:List Int} : leqF a b=true↔a.length=b.length∧∀i,i<a.length→a.getD i 0≤b.getD i 0:=by
 unfold leqF
 rw[Bool.and_eq_true,List.all_eq_true,decide_eq_true_eq]
 exact⟨fun h=>⟨h.1,fun i hi=>of_decide_eq_true (h.2 i (List.mem_range.2 hi))⟩,fun h=>⟨h.1,fun i hi=>decide_eq_true (h.2 i (List.mem_range.1 hi))⟩⟩
def OwnS (xs:List (List Int)) (v:AV) (L:AHeap):Prop :=
 (xs=[]∧v=anil∧L=[])∨∃b cap ws,v = .ls b 1 0 xs.length cap∧L=[(b,.row 25 1 (xs.map aInts ++ ws) cap)]
theorem OwnS.fo {xs:List (List Int)} {v:AV} {L:AHeap} (h:OwnS xs v L):AL.fo v=(True,v):=by
 rcases h with ⟨_,rfl,_⟩|⟨b,cap,ws,rfl,_⟩ <;> rfl
noncomputable def chkE (ps:List Pr) (l:List (List Int)):Int:=if validF ps=true then (if (l.any fun c => !isF ps c)=true then 18 else 0) else 1
theorem cuts_checked1 (ps:List Pr) (hs:Sm ps) (c:List Int):PC Proofs.Tryz.prog 98 [aInts c,.rp 1 [aTr ps] 0 0] (ab (!decide (givenF ps [c] []=0))):=by
 have h:=cut_Consistent ps hs c
 generalize givenF ps [c] []=e at *
 refine PC.enter 8 [.tmp 3] [] Proofs.Tryz.func98 rfl rfl rfl rfl rfl (by simp) (AWp.of ?_);simp only[go_sem]
 refine Wk ?_
 refine Sd ?_
 refine(h).val.use ?_;simp only[go_sem]
 refine Wk ?_
 refine ret_eq ?_;simp only[go_sem]
theorem cuts_checked (ps:List Pr) (hs:Sm ps) (l:List (List Int)) (hl:l.length≤1000000):PC Proofs.Tryz.prog 54 [aTr ps,aRows l] (ai (chkE ps l)):=by
 have h1:=trace_Valid ps hs
 have h2:=rows_containsFunc l hl (.clo 98 [.rp 1 [aTr ps] 0 0]) rfl (fun c => !decide (givenF ps [c] []=0)) fun c _=>(cuts_checked1 ps hs c).clo
 have hR:∀x:List (List Int),aRows x = .sl 1 (x.map aInts):=fun _=>rfl
 unfold chkE
 cases hv:validF ps with
 | false =>
  rw[hv] at h1
  refine PC.enter 11 [.tmp 4] [2] Proofs.Tryz.func54 rfl rfl rfl rfl rfl (by simp) (AWp.of ?_);simp only[go_sem]
  refine Wk ?_
  refine Sd ?_
  refine(h1).val.use ?_;simp only[go_sem]
  refine Wk ?_
  refine ret_eq ?_;simp only[go_sem]
 | true =>
  have he:(fun c => !decide (givenF ps [c] []=0))=fun c => !isF ps c:=funext fun c=>by rw[given_isF hv]
  rw[he] at h2
  rw[hv] at h1
  rw[if_pos rfl]
  generalize (l.any fun c => !isF ps c)=bad at *
  rw[hR] at *
  refine PC.enter 11 [.tmp 4] [2] Proofs.Tryz.func54 rfl rfl rfl rfl rfl (by simp) (AWp.of ?_);simp only[go_sem]
  refine Wk ?_
  refine Sd ?_
  refine(h1).val.use ?_;simp only[go_sem]
  refine Wk ?_
  refine Sd ?_
  refine(h2).val.use ?_;simp only[go_sem]
  refine Wk ?_
  refine⟨fun h => ?_,fun h => ?_⟩
  ·refine Wk ?_
   refine ret_eq ?_;simp only[go_sem]
   rw[h];rfl
  ·refine Wk ?_
   refine ret_eq ?_;simp only[go_sem]
   rw[h];rfl
theorem chk_zero {ps:List Pr} {l:List (List Int)} : chkE ps l=0↔validF ps=true∧∀c ∈ l,isF ps c=true:=by
 unfold chkE
 cases hv:validF ps with
 | false=>simp
 | true =>
  simp only[if_true,true_and]
  split
  ·rename_i h
   rw[List.any_eq_true] at h
   obtain⟨c,hc,h⟩:=h
   refine⟨fun h=>absurd h (by decide),fun g => ?_⟩
   rw[g c hc] at h;cases h
  ·rename_i h
   refine⟨fun _ c hc => ?_,fun _=>rfl⟩
   cases hi:isF ps c with
   | true=>rfl
   | false=>exact absurd (List.any_eq_true.2 ⟨c,hc,by rw[hi];rfl⟩) h
section
variable {ps:List Pr} {c:List Int}
variable {j:List Int} {ch:Int→Int→Int}
end
section
variable {ps:List Pr} {c:List Int}
end
def ordL (a b:List Int):Prop:=a.sum<b.sum∨(a.sum=b.sum∧cmpL a b<0)
theorem isF_given {ps:List Pr} (hv:validF ps=true) {c:List Int} : givenF ps [c] []=0↔isF ps c=true:=by
 rw[givenL,isF_iff];simp [hv,and_assoc]
def meetL (c d:List Int):List Int:=List.zipWith (fun x y=>if y<x then y else x) c d
theorem meet_cAt {c d:List Int} (h:c.length=d.length) {p:Nat} (hp:p<c.length):cAt (meetL c d) p=if cAt d p<cAt c p then cAt d p else cAt c p:=zw_cAt h hp
theorem meet_len {c d:List Int} (h:c.length=d.length):(meetL c d).length=c.length:=by unfold meetL;rw[List.length_zipWith];omega
theorem meet_is {ps:List Pr} (hv:validF ps=true) {c d:List Int} (hc:isF ps c=true) (hd:isF ps d=true):isF ps (meetL c d)=true:=by
 obtain⟨hcl,hcr,hcc⟩:=isF_iff.1 hc
 obtain⟨hdl,hdr,hdc⟩:=isF_iff.1 hd
 have hl:=meet_len (c:=c) (d:=d) (by omega)
 refine isF_iff.2 ⟨by omega,(inRange_iff (by omega)).2 fun p hp => ?_,closed_iff.2 fun p hp i hi hk hle => ?_⟩
 ·have h1:=(inRange_iff hcl).1 hcr p hp
  have h2:=(inRange_iff hdl).1 hdr p hp
  rw[meet_cAt (by omega) (by omega)]
  split <;> omega
 ·obtain⟨hq,j,hj,h1,_,_⟩:=recv_peer (valid_parts hv).2.2 hp hi hk
  rw[meet_cAt (by omega) (by omega)] at hle
  have g1:=closed_iff.1 hcc p hp i hi hk
  have g2:=closed_iff.1 hdc p hp i hi hk
  rw[h1] at g1 g2 ⊢
  simp only at g1 g2 ⊢
  generalize ps[p].evs[i].peer.toNat=q at *
  rw[meet_cAt (by omega) (by omega)]
  split at hle <;> split <;> omega
theorem leq_iff_at {a b:List Int} : leqF a b=true↔a.length=b.length∧∀p:Nat,p<a.length→cAt a p≤cAt b p:=leqF_iff
theorem leq_sum:∀ {a b:List Int},leqF a b=true→a.sum≤b.sum∧(a.sum=b.sum→a=b)
 | [],[],_=>⟨Int.le_refl _,fun _=>rfl⟩
 | [],_ :: _,h=>by have:=(leqF_iff.1 h).1;simp at this
 | _ :: _,[],h=>by have:=(leqF_iff.1 h).1;simp at this
 | x :: a,y :: b,h=>by
  obtain⟨h1,h2⟩:=leqF_iff.1 h
  have h0:x≤y:=by simpa using h2 0 (by simp)
  obtain⟨i1,i2⟩:=leq_sum (a:=a) (b:=b) (leqF_iff.2 ⟨by simpa using h1,fun i hi=>by have:=h2 (i+1) (by simpa using hi);simpa using this⟩)
  rw[List.sum_cons,List.sum_cons]
  refine⟨by omega,fun h => ?_⟩
  rw[i2 (by omega),show x=y by omega]
section
variable {A:List (List Int)} (hA:A.Pairwise ordL)
include hA
end
abbrev au64 (n:Int):AV:=.v (.int .u64 n)
def wordOf (f:Nat→Bool) (w:Nat):Nat→Nat
 | 0=>0
 | j+1=>if f j=true∧j / 64=w then wordOf f w j+2 ^ (j % 64) else wordOf f w j
theorem word_zero {f:Nat→Bool} {w:Nat} : ∀ {j:Nat},j≤64 * w→wordOf f w j=0
 | 0,_=>rfl
 | j+1,h=>by
  unfold wordOf
  rw[if_neg (by omega)]
  exact word_zero (by omega)
theorem word_lt {f:Nat→Bool} : ∀ {j:Nat},wordOf f (j / 64) j<2 ^ (j % 64)
 | 0=>by show (0:Nat)<2 ^ (0 % 64);decide
 | j+1=>by
  have ih:=word_lt (f:=f) (j:=j)
  by_cases h:(j+1) % 64=0
  ·rw[word_zero (by omega),h];decide
  ·have e1:(j+1) / 64=j / 64:=by omega
   have e2:(j+1) % 64=j % 64+1:=by omega
   rw[e1,e2,Nat.pow_succ]
   unfold wordOf
   split <;> omega
theorem word_big {f:Nat→Bool} {w:Nat} : ∀ {j:Nat},wordOf f w j<2 ^ 64
 | 0=>by show (0:Nat)<2 ^ 64;decide
 | j+1=>by
  have ih:=word_big (f:=f) (w:=w) (j:=j)
  unfold wordOf
  split
  ·rename_i h
   have h1:=word_lt (f:=f) (j:=j)
   rw[h.2] at h1
   have h2:2 ^ (j % 64+1)≤2 ^ 64:=Nat.pow_le_pow_right (by decide) (by omega)
   rw[Nat.pow_succ] at h2
   omega
  ·exact ih
theorem word_congr {f g:Nat→Bool} {w:Nat} : ∀ {j:Nat},(∀i,i<j→f i=g i)→wordOf f w j=wordOf g w j
 | 0,_=>rfl
 | j+1,h=>by
  unfold wordOf
  rw[h j (by omega),word_congr fun i hi=>h i (by omega)]
def nW (n:Nat):Nat:=(n+63) / 64
def wordsF (f:Nat→Bool) (n j:Nat):List Nat:=(List.range (nW n)).map fun w=>wordOf f w j
theorem words_len (f:Nat→Bool) (n j:Nat):(wordsF f n j).length=nW n:=by simp [wordsF]
theorem words_get {f:Nat→Bool} {n j i:Nat} (h:i<nW n):(wordsF f n j)[i]?=some (wordOf f i j):=by
 unfold wordsF;rw[List.getElem?_map,List.getElem?_range h];rfl
theorem words_zero (f:Nat→Bool) (n:Nat):wordsF f n 0=List.replicate (nW n) 0:=by
 apply List.ext_getElem?
 intro i
 by_cases h:i<nW n
 ·rw[words_get h,List.getElem?_replicate,if_pos h];rfl
 ·rw[List.getElem?_eq_none (by rw[words_len];omega),List.getElem?_eq_none (by rw[List.length_replicate];omega)]
theorem words_no {f:Nat→Bool} {n j:Nat} (h:f j=false):wordsF f n (j+1)=wordsF f n j:=by
 unfold wordsF
 refine List.map_congr_left fun w _ => ?_
 conv=>lhs;unfold wordOf
 rw[if_neg (by rw[h];simp)]
theorem words_set {f:Nat→Bool} {n j:Nat} (h:f j=true):wordsF f n (j+1)=(wordsF f n j).set (j / 64) (wordOf f (j / 64) j+2 ^ (j % 64)):=by
 apply List.ext_getElem?
 intro i
 rw[List.getElem?_set]
 by_cases hi:i<nW n
 ·rw[words_get hi,words_len]
  conv=>lhs;unfold wordOf
  by_cases e:j / 64=i
  ·rw[if_pos ⟨h,e⟩,if_pos e,if_pos (by omega),e]
  ·rw[if_neg (fun g=>e g.2),if_neg e,words_get hi]
 ·rw[List.getElem?_eq_none (by rw[words_len];omega)]
  split
  ·rw[words_len,if_neg (by omega)]
  ·rw[List.getElem?_eq_none (by rw[words_len];omega)]
theorem words_congr {f g:Nat→Bool} {n j:Nat} (h:∀i,i<j→f i=g i):wordsF f n j=wordsF g n j:=by
 unfold wordsF
 exact List.map_congr_left fun w _=>word_congr h
theorem quo64 (j:Nat) (h:j≤1000000):IntKind.i64.wrap ((j:Int).tdiv 64)=((j / 64:Nat):Int):=by
 have:(j:Int).tdiv 64=((j / 64:Nat):Int):=rfl
 rw[this]
 exact IntWalk.i64_in _ (by omega)
theorem rem64 (j:Nat):(j:Int).tmod 64=((j % 64:Nat):Int):=rfl
theorem wrap_u64n {x:Nat} (h:x<2 ^ 64):IntKind.u64.wrap (x:Int)=x:=by
 rw[IntKind.wrap_u64];omega
theorem pow_b {b:Nat} (h:b<64):2 ^ b<2 ^ 64:=Nat.pow_lt_pow_right (by decide) h
theorem shl_bit {b:Nat} (h:b<64):shlK .u64 1 (b:Nat)=((2 ^ b:Nat):Int):=by
 unfold shlK
 have:min (b:Int).toNat (IntKind.u64.bits)=b:=by
  show min (b:Int).toNat 64=b
  omega
 rw[this,Int.one_mul]
 have e:((2:Int) ^ b)=((2 ^ b:Nat):Int):=by rw[Int.natCast_pow];rfl
 rw[e]
 exact wrap_u64n (pow_b h)
theorem add_lt {x b:Nat} (hx:x<2 ^ b) (h:b<64):x+2 ^ b<2 ^ 64:=by
 have h2:2 ^ (b+1)≤2 ^ 64:=Nat.pow_le_pow_right (by decide) (by omega)
 rw[Nat.pow_succ] at h2
 omega
theorem or_bit {x b:Nat} (hx:x<2 ^ b) (h:b<64):orK .u64 (x:Nat) ((2 ^ b:Nat):Int)=((x+2 ^ b:Nat):Int):=by
 have hp:=pow_b h
 have hl:=add_lt hx h
 unfold orK
 have e1:((BitVec.ofInt IntKind.u64.bits (x:Nat) ||| BitVec.ofInt IntKind.u64.bits ((2 ^ b:Nat):Int)).toNat)=x+2 ^ b:=by
  show ((BitVec.ofInt 64 (x:Nat) ||| BitVec.ofInt 64 ((2 ^ b:Nat):Int)).toNat)=x+2 ^ b
  rw[BitVec.toNat_or,BitVec.ofInt_natCast,BitVec.ofInt_natCast,BitVec.toNat_ofNat,BitVec.toNat_ofNat,Nat.mod_eq_of_lt (by omega),Nat.mod_eq_of_lt hp,Nat.or_comm]
  have:=Nat.two_pow_add_eq_or_of_lt hx 1
  rw[Nat.mul_one] at this
  omega
 rw[e1]
 exact wrap_u64n hl
def aBits (n:Nat) (ws:List Nat):AV:=.agg [ai n,.sl 1 (ws.map fun w:Nat=>au64 (w:Int))]
def aRelR (n:Nat) (rs:List (List Nat)):AV:=.agg [.sl 2 (rs.map (aBits n))]
theorem bit_word {f:Nat→Bool} {w b:Nat} (hb:b<64):∀ {j:Nat},(wordOf f w j).testBit b=(decide (64 * w+b<j) && f (64 * w+b))
 | 0=>by
  rw[decide_eq_false (by omega),Bool.false_and]
  show (0:Nat).testBit b=false
  exact Nat.zero_testBit b
 | j+1=>by
  have ih:=bit_word (f:=f) (w:=w) hb (j:=j)
  unfold wordOf
  by_cases h:f j=true∧j / 64=w
  ·rw[if_pos h]
   have hlt:=word_lt (f:=f) (j:=j)
   rw[h.2] at hlt
   have hor:=Nat.two_pow_add_eq_or_of_lt hlt 1
   rw[Nat.mul_one,Nat.add_comm] at hor
   rw[hor,Nat.testBit_or,ih,Nat.testBit_two_pow]
   by_cases e:j % 64=b
   ·have hj:64 * w+b=j:=by omega
    rw[hj,decide_eq_true e,Bool.true_or,decide_eq_true (by omega),h.1];rfl
   ·rw[decide_eq_false e,Bool.false_or]
    congr 1
    rw[decide_eq_decide];omega
  ·rw[if_neg h,ih]
   by_cases e:64 * w+b=j
   ·rw[decide_eq_false (show ¬64 * w+b<j by omega),Bool.false_and,decide_eq_true (by omega),Bool.true_and,e]
    cases hf:f j with
    | false=>rfl
    | true=>exact absurd ⟨hf,by omega⟩ h
   ·congr 1
    rw[decide_eq_decide];omega
theorem word_ext {x y:Nat} (hx:x<2 ^ 64) (hy:y<2 ^ 64) (h:∀b,b<64→x.testBit b=y.testBit b):x=y:=by
 refine Nat.eq_of_testBit_eq fun b => ?_
 by_cases hb:b<64
 ·exact h b hb
 ·have hp:2 ^ 64≤2 ^ b:=Nat.pow_le_pow_right (by decide) (by omega)
  rw[Nat.testBit_lt_two_pow (by omega),Nat.testBit_lt_two_pow (by omega)]
theorem bv_nat {x:Nat} (h:x<2 ^ 64):(BitVec.ofInt 64 (x:Int)).toNat=x:=by
 rw[BitVec.ofInt_natCast,BitVec.toNat_ofNat,Nat.mod_eq_of_lt h]
theorem and_nat {x y:Nat} (hx:x<2 ^ 64) (hy:y<2 ^ 64):andK .u64 (x:Nat) (y:Nat)=((x &&& y:Nat):Int):=by
 have hl:x &&& y<2 ^ 64:=Nat.lt_of_le_of_lt Nat.and_le_left hx
 have e:(BitVec.ofInt IntKind.u64.bits (x:Nat) &&& BitVec.ofInt IntKind.u64.bits (y:Nat)).toNat=x &&& y:=by
  show (BitVec.ofInt 64 (x:Nat) &&& BitVec.ofInt 64 (y:Nat)).toNat=_
  rw[BitVec.toNat_and,bv_nat hx,bv_nat hy]
 unfold andK
 rw[e]
 exact wrap_u64n hl
theorem or_nat {x y:Nat} (hx:x<2 ^ 64) (hy:y<2 ^ 64):orK .u64 (x:Nat) (y:Nat)=((x ||| y:Nat):Int):=by
 have hl:x ||| y<2 ^ 64:=Nat.or_lt_two_pow hx hy
 have e:(BitVec.ofInt IntKind.u64.bits (x:Nat) ||| BitVec.ofInt IntKind.u64.bits (y:Nat)).toNat=x ||| y:=by
  show (BitVec.ofInt 64 (x:Nat) ||| BitVec.ofInt 64 (y:Nat)).toNat=_
  rw[BitVec.toNat_or,bv_nat hx,bv_nat hy]
 unfold orK
 rw[e]
 exact wrap_u64n hl
def mnsN (x y:Nat):Nat:=(BitVec.ofNat 64 x &&& ~~~ BitVec.ofNat 64 y).toNat
theorem mns_lt (x y:Nat):mnsN x y<2 ^ 64:=BitVec.isLt _
theorem mns_bit {x y b:Nat} (hb:b<64):(mnsN x y).testBit b=(x.testBit b && !y.testBit b):=by
 unfold mnsN
 rw[BitVec.testBit_toNat,BitVec.getLsbD_and,BitVec.getLsbD_not,BitVec.getLsbD_ofNat,BitVec.getLsbD_ofNat]
 simp [hb]
theorem mns_nat {x y:Nat} : andNotK .u64 (x:Nat) (y:Nat)=((mnsN x y:Nat):Int):=by
 unfold andNotK
 have e:(BitVec.ofInt IntKind.u64.bits (x:Nat) &&& ~~~BitVec.ofInt IntKind.u64.bits (y:Nat)).toNat=mnsN x y:=by
  show (BitVec.ofInt 64 (x:Nat) &&& ~~~BitVec.ofInt 64 (y:Nat)).toNat=_
  rw[BitVec.ofInt_natCast,BitVec.ofInt_natCast];rfl
 rw[e]
 exact wrap_u64n (mns_lt x y)
theorem word_mns {f g:Nat→Bool} {w n:Nat} : mnsN (wordOf f w n) (wordOf g w n)=wordOf (fun i=>f i && !g i) w n:=by
 refine word_ext (mns_lt _ _) word_big fun b hb => ?_
 rw[mns_bit hb,bit_word hb,bit_word hb,bit_word hb]
 cases decide (64 * w+b<n) <;> simp
theorem word_and {f g:Nat→Bool} {w n:Nat} : wordOf f w n &&& wordOf g w n=wordOf (fun i=>f i && g i) w n:=by
 refine word_ext (Nat.lt_of_le_of_lt Nat.and_le_left word_big) word_big fun b hb => ?_
 rw[Nat.testBit_and,bit_word hb,bit_word hb,bit_word hb]
 cases decide (64 * w+b<n) <;> simp
theorem word_or {f g:Nat→Bool} {w n:Nat} : wordOf f w n ||| wordOf g w n=wordOf (fun i=>f i || g i) w n:=by
 refine word_ext (Nat.or_lt_two_pow word_big word_big) word_big fun b hb => ?_
 rw[Nat.testBit_or,bit_word hb,bit_word hb,bit_word hb]
 cases decide (64 * w+b<n) <;> simp
theorem shr_nat {x b:Nat} (hb:b≤64):shrK .u64 (x:Nat) (b:Nat)=((x / 2 ^ b:Nat):Int):=by
 unfold shrK
 have:min (b:Int).toNat (IntKind.u64.bits)=b:=by
  show min (b:Int).toNat 64=b
  omega
 rw[this]
 have e:((2:Int) ^ b)=((2 ^ b:Nat):Int):=by rw[Int.natCast_pow];rfl
 rw[e,Int.fdiv_eq_ediv_of_nonneg _ (Int.natCast_nonneg _)]
 rfl
theorem has_bit {x b:Nat} (hx:x<2 ^ 64) (hb:b<64):decide (andK .u64 (shrK .u64 (x:Nat) (b:Nat)) 1=1)=x.testBit b:=by
 have hl:x / 2 ^ b<2 ^ 64:=Nat.lt_of_le_of_lt (Nat.div_le_self _ _) hx
 rw[shr_nat (by omega),show (1:Int)=((1:Nat):Int) from rfl,and_nat hl (by decide),Nat.testBit_eq_decide_div_mod_eq,Nat.and_one_is_mod,decide_eq_decide]
 omega
def cntB (f:Nat→Bool) (n:Nat):Nat:=((List.range n).filter f).length
theorem cntB_succ (f:Nat→Bool) (n:Nat):cntB f (n+1)=cntB f n+if f n=true then 1 else 0:=by
 unfold cntB
 rw[List.range_succ,List.filter_append,List.length_append]
 by_cases h:f n=true
 ·rw[if_pos h,List.filter_cons_of_pos h];rfl
 ·rw[if_neg h,List.filter_cons_of_neg h];rfl
theorem cntB_add (f:Nat→Bool) (m:Nat):∀n,cntB f (m+n)=cntB f m+cntB (fun i=>f (m+i)) n
 | 0=>by simp [cntB]
 | n+1=>by rw[← Nat.add_assoc,cntB_succ,cntB_add f m n,cntB_succ];omega
theorem cntB_congr {f g:Nat→Bool} : ∀ {n:Nat},(∀i,i<n→f i=g i)→cntB f n=cntB g n
 | 0,_=>rfl
 | n+1,h=>by rw[cntB_succ,cntB_succ,cntB_congr fun i hi=>h i (by omega),h n (by omega)]
theorem cntB_le (f:Nat→Bool) (n:Nat):cntB f n≤n:=by
 unfold cntB
 exact Nat.le_trans (List.length_filter_le _ _) (by simp)
theorem cntB_zero {f:Nat→Bool} : ∀ {n:Nat},cntB f n=0↔∀i,i<n→f i=false
 | 0=>by simp [cntB]
 | n+1=>by
  rw[cntB_succ]
  constructor
  ·intro h i hi
   have h1:cntB f n=0:=by omega
   by_cases e:i=n
   ·subst e
    cases hf:f i with
    | false=>rfl
    | true=>rw[if_pos hf] at h;omega
   ·exact cntB_zero.1 h1 i (by omega)
  ·intro h
   rw[cntB_zero.2 fun i hi=>h i (by omega),if_neg (by rw[h n (by omega)];decide)]
def popN (x:Nat):Nat:=cntB (fun b=>x.testBit b) 64
def bytN (x:Nat):Nat:=cntB (fun b=>x.testBit b) 8
theorem pop_word {f:Nat→Bool} {w n:Nat} : popN (wordOf f w n)=cntB (fun b=>decide (64 * w+b<n) && f (64 * w+b)) 64:=cntB_congr fun b hb=>bit_word hb
theorem pop_words (f:Nat→Bool) (n:Nat):∀k,((List.range k).map fun w=>popN (wordOf f w n)).sum=cntB (fun i=>decide (i<n) && f i) (64 * k)
 | 0=>rfl
 | k+1=>by
  rw[List.range_succ,List.map_append,List.sum_append,pop_words f n k,Nat.mul_succ,cntB_add,List.map_singleton,List.sum_singleton,pop_word]
theorem pop_all (f:Nat→Bool) (n:Nat):cntB (fun i=>decide (i<n) && f i) (64 * nW n)=cntB f n:=by
 obtain⟨d,hd⟩:∃d,64 * nW n=n+d:=⟨64 * nW n - n,by unfold nW;omega⟩
 have h2:cntB (fun i=>decide (n+i<n) && f (n+i)) d=0:=cntB_zero.2 fun i _=>by rw[decide_eq_false (by omega)];rfl
 rw[hd,cntB_add,h2,Nat.add_zero]
 exact cntB_congr fun i hi=>by rw[decide_eq_true hi,Bool.true_and]
def st1 (m x:Nat):Nat:=((x / 2) &&& m)+(x &&& m)
def st2 (m x:Nat):Nat:=((x / 4) &&& m)+(x &&& m)
def st3 (m x:Nat):Nat:=(x / 16+x) &&& m
def mskN (c:Nat):Nat→Nat
 | 0=>0
 | k+1=>256 * mskN c k+c
theorem mskN_succ (c k:Nat):mskN c (k+1)=256 * mskN c k+c:=rfl
theorem and_byt {x d m c:Nat} (hd:d<256) (hc:c<256):(256 * x+d) &&& (256 * m+c)=256 * (x &&& m)+(d &&& c):=by
 have hdc:d &&& c<2 ^ 8:=Nat.lt_of_le_of_lt Nat.and_le_left hd
 refine Nat.eq_of_testBit_eq fun i => ?_
 rw[Nat.testBit_and,show (256:Nat)=2 ^ 8 from rfl,Nat.testBit_two_pow_mul_add _ hd,Nat.testBit_two_pow_mul_add _ hc,Nat.testBit_two_pow_mul_add _ hdc]
 split <;> rw[Nat.testBit_and]
theorem b55:∀e:Fin 128,∀t:Fin 2,(128 * t.val+e.val) &&& 85=e.val &&& 85:=by decide +kernel
theorem b33:∀e:Fin 64,∀t:Fin 4,(64 * t.val+e.val) &&& 51=e.val &&& 51:=by decide +kernel
theorem st1_byt {x d m:Nat} (hd:d<256):st1 (256 * m+85) (256 * x+d)=256 * st1 m x+st1 85 d:=by
 have h2:(256 * x+d) / 2=256 * (x / 2)+(128 * (x % 2)+d / 2):=by omega
 have h3:=b55 ⟨d / 2,by omega⟩ ⟨x % 2,by omega⟩
 simp only at h3
 unfold st1
 rw[h2,and_byt (by omega) (by decide),and_byt hd (by decide),h3]
 omega
theorem st2_byt {x d m:Nat} (hd:d<256):st2 (256 * m+51) (256 * x+d)=256 * st2 m x+st2 51 d:=by
 have h2:(256 * x+d) / 4=256 * (x / 4)+(64 * (x % 4)+d / 4):=by omega
 have h3:=b33 ⟨d / 4,by omega⟩ ⟨x % 4,by omega⟩
 simp only at h3
 unfold st2
 rw[h2,and_byt (by omega) (by decide),and_byt hd (by decide),h3]
 omega
theorem st1_lt:∀d:Fin 256,st1 85 d.val<256:=by decide +kernel
theorem st21_lt:∀d:Fin 256,st2 51 (st1 85 d.val)≤68∧st2 51 (st1 85 d.val) % 16≤4:=by decide +kernel
theorem st321:∀d:Fin 256,st3 15 (st2 51 (st1 85 d.val))=bytN d.val:=by decide +kernel
theorem byt_le (d:Nat):bytN d≤8:=cntB_le _ _
theorem st3_byt {x d m:Nat} (hd:d≤68) (hx:x % 16≤4):st3 (256 * m+15) (256 * x+d)=256 * st3 m x+st3 15 d:=by
 have h2:(256 * x+d) / 16+(256 * x+d)=256 * (x / 16+x)+(16 * (x % 16)+d / 16+d):=by omega
 have e1:∀y,y &&& 15=y % 16:=fun y=>Nat.and_two_pow_sub_one_eq_mod y 4
 unfold st3
 rw[h2,and_byt (by omega) (by decide),e1,e1]
 omega
theorem st_nib:∀k x,st2 (mskN 51 k) (st1 (mskN 85 k) x) % 16≤4
 | 0,x=>by
  unfold st2 mskN
  rw[Nat.and_zero,Nat.and_zero];decide
 | k+1,x=>by
  have h:x=256 * (x / 256)+x % 256:=by omega
  have h1:=st1_lt ⟨x % 256,Nat.mod_lt _ (by decide)⟩
  have h2:=(st21_lt ⟨x % 256,Nat.mod_lt _ (by decide)⟩).2
  simp only at h1 h2
  rw[h,mskN_succ,mskN_succ,st1_byt (Nat.mod_lt _ (by decide)),st2_byt h1]
  omega
def stA (k x:Nat):Nat:=st3 (mskN 15 k) (st2 (mskN 51 k) (st1 (mskN 85 k) x))
theorem stA_succ (k x:Nat):stA (k+1) x=256 * stA k (x / 256)+bytN (x % 256):=by
 have h:x=256 * (x / 256)+x % 256:=by omega
 have h1:=st1_lt ⟨x % 256,Nat.mod_lt _ (by decide)⟩
 have h2:=(st21_lt ⟨x % 256,Nat.mod_lt _ (by decide)⟩).1
 have h3:=st321 ⟨x % 256,Nat.mod_lt _ (by decide)⟩
 simp only at h1 h2 h3
 have h4:=st_nib k (x / 256)
 unfold stA
 conv=>lhs;rw[h]
 rw[mskN_succ,mskN_succ,mskN_succ,st1_byt (Nat.mod_lt _ (by decide)),st2_byt h1,st3_byt h2 h4,h3]
theorem stA_zero (x:Nat):stA 0 x=0:=by
 unfold stA st3 mskN
 rw[Nat.and_zero]
theorem pop_byt:∀k x,cntB (fun b=>x.testBit b) (8 * (k+1))=bytN (x % 256)+cntB (fun b=>(x / 256).testBit b) (8 * k):=fun k x=>by
 rw[show 8 * (k+1)=8+8 * k by omega,cntB_add]
 congr 1
 ·refine cntB_congr fun i hi => ?_
  rw[show (256:Nat)=2 ^ 8 from rfl,Nat.testBit_mod_two_pow,decide_eq_true hi,Bool.true_and]
 ·refine cntB_congr fun i _ => ?_
  rw[show (256:Nat)=2 ^ 8 from rfl,Nat.testBit_div_two_pow,Nat.add_comm]
def finN (y:Nat):Nat :=
 let y1:=y+y / 256
 let y2:=y1+y1 / 65536
 (y2+y2 / 4294967296) % 128
theorem fin_dig {D0 D1 D2 D3:Nat} (h0:D0≤10000) (h1:D1≤10000) (h2:D2≤10000) (h3:D3≤10000) {y:Nat} (hy:y+y / 256=D0+65536 * (D1+65536 * (D2+65536 * D3))):finN y=(D0+D1+D2+D3) % 128:=by
 unfold finN
 simp only
 rw[hy]
 have e1:(D0+65536 * (D1+65536 * (D2+65536 * D3))) / 65536=D1+65536 * (D2+65536 * D3):=by
  generalize D1+65536 * (D2+65536 * D3)=A
  omega
 rw[e1]
 have e2:D0+65536 * (D1+65536 * (D2+65536 * D3))+(D1+65536 * (D2+65536 * D3))=(D0+D1+65536 * (D1+D2))+4294967296 * ((D2+D3)+65536 * D3):=by omega
 rw[e2]
 have e3:((D0+D1+65536 * (D1+D2))+4294967296 * ((D2+D3)+65536 * D3)) / 4294967296=(D2+D3)+65536 * D3:=by
  generalize (D2+D3)+65536 * D3=A
  omega
 rw[e3]
 omega
theorem fin_sum {c0 c1 c2 c3 c4 c5 c6 c7:Nat} (h0:c0≤8) (h1:c1≤8) (h2:c2≤8) (h3:c3≤8) (h4:c4≤8) (h5:c5≤8) (h6:c6≤8) (h7:c7≤8) :
  finN (256 * (256 * (256 * (256 * (256 * (256 * (256 * c7+c6)+c5)+c4)+c3)+c2)+c1)+c0)=c0+(c1+(c2+(c3+(c4+(c5+(c6+c7)))))):=by
 have e1:(256 * (256 * (256 * (256 * (256 * (256 * (256 * c7+c6)+c5)+c4)+c3)+c2)+c1)+c0) / 256=256 * (256 * (256 * (256 * (256 * (256 * c7+c6)+c5)+c4)+c3)+c2)+c1:=by
  generalize 256 * (256 * (256 * (256 * (256 * (256 * c7+c6)+c5)+c4)+c3)+c2)+c1=A
  omega
 rw[fin_dig (D0:=c0+c1+256 * (c1+c2)) (D1:=c2+c3+256 * (c3+c4)) (D2:=c4+c5+256 * (c5+c6)) (D3:=c6+c7+256 * c7) (by omega) (by omega) (by omega) (by omega) (by rw[e1];omega)]
 omega
theorem stA_8 (x:Nat):finN (stA 8 x)=popN x:=by
 have hb:=byt_le
 unfold popN
 rw[show (64:Nat)=8 * (7+1) from rfl,pop_byt,pop_byt 6,pop_byt 5,pop_byt 4,pop_byt 3,pop_byt 2,pop_byt 1,pop_byt 0]
 rw[stA_succ,stA_succ,stA_succ,stA_succ,stA_succ,stA_succ,stA_succ,stA_succ,stA_zero]
 have h:=fin_sum (hb (x % 256)) (hb (x / 256 % 256)) (hb (x / 256 / 256 % 256)) (hb (x / 256 / 256 / 256 % 256)) (hb (x / 256 / 256 / 256 / 256 % 256)) (hb (x / 256 / 256 / 256 / 256 / 256 % 256)) (hb (x / 256 / 256 / 256 / 256 / 256 / 256 % 256)) (hb (x / 256 / 256 / 256 / 256 / 256 / 256 / 256 % 256))
 rw[show 256 * 0+bytN (x / 256 / 256 / 256 / 256 / 256 / 256 / 256 % 256)=bytN (x / 256 / 256 / 256 / 256 / 256 / 256 / 256 % 256) by omega,h]
 show _=_+(_+(_+(_+(_+(_+(_+(_+cntB _ 0)))))))
 have:∀f,cntB f 0=0:=fun f=>rfl
 rw[this];omega
theorem msk8:mskN 85 8=6148914691236517205∧mskN 51 8=3689348814741910323∧mskN 15 8=1085102592571150095:=by decide +kernel
theorem low_split {x k:Nat} (hx:x<2 ^ 64) (hk:x.testBit k=true) (hl:∀i,i<k→x.testBit i=false):k<64∧∃m,x=2 ^ (k+1) * m+2 ^ k∧m<2 ^ (63 - k):=by
 have hk64:k<64:=by
  apply Classical.byContradiction
  intro h
  have hp:2 ^ 64≤2 ^ k:=Nat.pow_le_pow_right (by decide) (by omega)
  rw[Nat.testBit_lt_two_pow (by omega)] at hk
  cases hk
 have hmod:x % 2 ^ (k+1)=2 ^ k:=by
  refine Nat.eq_of_testBit_eq fun i => ?_
  rw[Nat.testBit_mod_two_pow,Nat.testBit_two_pow]
  by_cases h:i<k
  ·rw[hl i h,Bool.and_false,decide_eq_false (by omega)]
  ·by_cases e:k=i
   ·subst e;rw[hk,decide_eq_true (by omega),decide_eq_true rfl];rfl
   ·rw[decide_eq_false (by omega),Bool.false_and,decide_eq_false e]
 have hdm:=Nat.div_add_mod x (2 ^ (k+1))
 rw[hmod] at hdm
 refine⟨hk64,x / 2 ^ (k+1),hdm.symm,?_⟩
 refine Nat.div_lt_of_lt_mul ?_
 rw[← Nat.pow_add,show k+1+(63 - k)=64 by omega]
 exact hx
theorem low_neg {x k:Nat} (hx:x<2 ^ 64) (hk:x.testBit k=true) (hl:∀i,i<k→x.testBit i=false):x &&& (2 ^ 64 - x)=2 ^ k:=by
 obtain⟨hk64,m,rfl,hm⟩:=low_split hx hk hl
 have hp:2 ^ (k+1) * 2 ^ (63 - k)=2 ^ 64:=by rw[← Nat.pow_add,show k+1+(63 - k)=64 by omega]
 have hk1:2 ^ (k+1)=2 * 2 ^ k:=by rw[Nat.pow_succ];omega
 have hkl:2 ^ k<2 ^ (k+1):=by have:=Nat.two_pow_pos k;omega
 have hneg:2 ^ 64 - (2 ^ (k+1) * m+2 ^ k)=2 ^ (k+1) * (2 ^ (63 - k) - (m+1))+2 ^ k:=by
  rw[Nat.mul_sub,hp,Nat.mul_succ]
  have:2 ^ (k+1) * m+2 ^ (k+1)≤2 ^ 64:=by
   rw[← hp,← Nat.mul_succ]
   exact Nat.mul_le_mul_left _ hm
  omega
 rw[hneg]
 refine Nat.eq_of_testBit_eq fun i => ?_
 rw[Nat.testBit_and,Nat.testBit_two_pow_mul_add _ hkl,Nat.testBit_two_pow_mul_add _ hkl]
 by_cases h:i<k+1
 ·rw[if_pos h,if_pos h,Bool.and_self]
 ·rw[if_neg h,if_neg h,Nat.testBit_two_pow_sub_succ hm,Nat.testBit_two_pow,decide_eq_false (show ¬k=i by omega)]
  cases m.testBit (i - (k+1)) <;> simp
theorem low_off {x k:Nat} (hx:x<2 ^ 64) (hk:x.testBit k=true) (hl:∀i,i<k→x.testBit i=false):(∀i,(x &&& (x - 1)).testBit i=(x.testBit i && !decide (i=k)))∧1≤x:=by
 obtain⟨hk64,m,rfl,hm⟩:=low_split hx hk hl
 have hk1:2 ^ (k+1)=2 * 2 ^ k:=by rw[Nat.pow_succ];omega
 have hpos:=Nat.two_pow_pos k
 have hkl:2 ^ k<2 ^ (k+1):=by omega
 have hkl2:2 ^ k - 1<2 ^ (k+1):=by omega
 refine⟨fun i => ?_,by omega⟩
 rw[show 2 ^ (k+1) * m+2 ^ k - 1=2 ^ (k+1) * m+(2 ^ k - 1) by omega,Nat.testBit_and,Nat.testBit_two_pow_mul_add _ hkl,Nat.testBit_two_pow_mul_add _ hkl2]
 by_cases h:i<k+1
 ·rw[if_pos h,if_pos h,Nat.testBit_two_pow,Nat.testBit_two_pow_sub_one]
  by_cases e:i=k
  ·subst e;simp
  ·rw[decide_eq_false (show ¬k=i by omega)];simp
 ·rw[if_neg h,if_neg h,Bool.and_self,decide_eq_false (show ¬i=k by omega),Bool.not_false,Bool.and_true]
theorem bits_words (n:Nat) (hn:n≤1000000):PC Proofs.Tryz.prog 82 [ai n] (ai (nW n:Nat)):=by
 have hm:IntKind.i64.wrap (((n:Int)+64 - 1).tdiv 64)=(nW n:Nat):=by
  have:((n:Int)+64 - 1).tdiv 64=((nW n:Nat):Int):=by
   rw[show (n:Int)+64 - 1=((n+63:Nat):Int) by omega];unfold nW;rfl
  rw[this]
  exact IntWalk.i64_in _ (by unfold nW;omega)
 refine PC.enter 7 [.tmp 2] [] Proofs.Tryz.func82 rfl rfl rfl rfl rfl (by simp) (AWp.of ?_);simp only[go_sem]
 refine W1 hm ?_
 refine ret_eq ?_;simp only[go_sem]
theorem bits_inside (n:Nat) (ws:List AV) (i:Int):PC Proofs.Tryz.prog 83 [.agg [ai n,.sl 1 ws],ai i] (ab (decide (0≤i) && decide (i<n))):=by
 refine PC.enter 13 [.tmp 4] [2] Proofs.Tryz.func83 rfl rfl rfl rfl rfl (by simp) (AWp.of ?_);simp only[go_sem]
 refine Wk ?_
 refine ret_eq ?_;simp only[go_sem]
theorem filter_step {n k:Nat} {f:Nat→Bool} (hk:k<((List.range n).filter f).length) {j:Nat} (hjn:j≤n) (hj:(List.range j).filter f=((List.range n).filter f).take k) :
  ∃x,((List.range n).filter f)[k]?=some x∧x<n∧f x=true∧j≤x∧(∀i,j≤i→i<x→f i=false)∧(List.range (x+1)).filter f=((List.range n).filter f).take (k+1):=by
 obtain⟨d,rfl⟩:∃d,n=j+d:=⟨n - j,by omega⟩
 have hadd:∀m,(List.range (j+m)).filter f=(List.range j).filter f ++ ((List.range m).map (j + ·)).filter f:=fun m=>by rw[List.range_add,List.filter_append]
 have hA:((List.range j).filter f).length=k:=by rw[hj,List.length_take];omega
 have hno:∀m,(∀i,i<m→f (j+i)=false)→((List.range m).map (j + ·)).filter f=[]:=fun m h=>by
  rw[List.filter_eq_nil_iff]
  intro a ha
  obtain⟨i,hi,rfl⟩:=List.mem_map.1 ha
  rw[h i (List.mem_range.1 hi)];decide
 have hex:∃i,i<d∧f (j+i)=true:=by
  apply Classical.byContradiction
  intro h
  have h2:=hno d fun i hi=>by
   cases hf:f (j+i) with
   | false=>rfl
   | true=>exact absurd ⟨i,hi,hf⟩ h
  rw[hadd,h2,List.append_nil,hA] at hk
  omega
 obtain⟨i,⟨hi,hfi⟩,hmin⟩:=least hex
 have hlow:∀i',i'<i→f (j+i')=false:=fun i' h=>by
  cases hf:f (j+i') with
  | false=>rfl
  | true=>have:=hmin i' ⟨by omega,hf⟩;omega
 have hone:((List.range (i+1)).map (j + ·)).filter f=[j+i]:=by
  rw[List.range_succ,List.map_append,List.filter_append,hno i hlow,List.nil_append]
  show List.filter f [j+i]=[j+i]
  rw[List.filter_cons_of_pos hfi];rfl
 have hd:∃B,((List.range d).map (j + ·)).filter f=(j+i) :: B:=by
  obtain⟨e,rfl⟩:∃e,d=(i+1)+e:=⟨d - (i+1),by omega⟩
  rw[List.range_add,List.map_append,List.filter_append,hone]
  exact⟨_,rfl⟩
 obtain⟨B,hB⟩:=hd
 refine⟨j+i,?_,by omega,hfi,by omega,fun i' h1 h2 => ?_,?_⟩
 ·rw[hadd,hB,List.getElem?_append_right (by omega),hA,Nat.sub_self];rfl
 ·have:=hlow (i' - j) (by omega)
  rwa [show j+(i' - j)=i' by omega] at this
 ·rw[show j+i+1=j+(i+1) by omega,hadd,hone,hadd d,hB,List.take_append,hA,List.take_of_length_le (by omega),show k+1 - k=1 by omega];rfl
theorem words_skip {f:Nat→Bool} {n j:Nat} : ∀ {x:Nat},j≤x→(∀i,j≤i→i<x→f i=false)→wordsF f n x=wordsF f n j
 | 0,h,_=>by have:j=0:=by omega
             subst this;rfl
 | x+1,h,hf=>by
  by_cases e:j=x+1
  ·subst e;rfl
  ·rw[words_no (hf x (by omega) (by omega))]
   exact words_skip (by omega) fun i h1 h2=>hf i h1 (by omega)
set_option maxHeartbeats 1000000 in
theorem bits_Of (n:Nat) (hn:n≤512) (f:Nat→Bool):PC Proofs.Tryz.prog 45 [ai n,.sl 1 (((List.range n).filter f).map fun j:Nat=>ai j)] (.tup [aBits n (wordsF f n n),ai 0]):=by
 have hwn:=bits_words n (by omega)
 have hnW:nW n≤1000000:=by unfold nW;omega
 have hlm:(((List.range n).filter f).map fun j:Nat=>ai (j:Int)).length=((List.range n).filter f).length:=List.length_map _
 have hll:((List.range n).filter f).length≤n:=Nat.le_trans (List.length_filter_le _ _) (by simp)
 have hn1:¬(512:Int)<n:=by omega
 have hn0:¬(n:Int)<0:=by omega
 refine PC.enter 45 [.cell 4 38,.tmp 5] [6] Proofs.Tryz.func45 rfl rfl rfl rfl rfl (by simp) (AWp.of ?_);simp only[go_sem]
 intro b4
 refine W2 hn0 hn1 ?_
 refine Sd ?_
 refine(hwn).val.use ?_;simp only[go_sem]
 refine Wk ?_
 intro bw gw
 refine Wk ?_
 intro b6 g1 g2
 refine W1 hlm ?_
 have hwz:=words_zero f n
 have hrep:List.replicate (nW n) (AV.v (Value.int IntKind.u64 0))=(wordsF f n 0).map fun w:Nat=>au64 (w:Int):=by rw[hwz,List.map_replicate];rfl
 rw[hrep]
 refine AWp.range' ((List.range n).filter f).length [] [4,6,21,22] (fun k vs L=>vs=[]∧∃j,j≤n∧(List.range j).filter f=((List.range n).filter f).take k∧L=[(bw,.row 64 1 ((wordsF f n j).map fun w:Nat=>au64 (w:Int)) (nW n)),(b4,.row 38 2 [.agg [ai 0,anil]] 1)]) (by omega) rfl rfl rfl ⟨rfl,0,Nat.zero_le _,by rw[List.take_zero];rfl,rfl⟩ ?_ ?_
 ·rintro k vs L hk - ⟨rfl,j,hjn,hj,rfl⟩
  obtain⟨x,hx,hxn,hfx,hjx,hno,hnext⟩:=filter_step hk hjn hj
  have hgx:(((List.range n).filter f).map fun j:Nat=>ai (j:Int)).getD k .any=ai (x:Nat):=by rw[List.getD_eq_getElem?_getD,List.getElem?_map,hx];rfl
  have hws0:=words_skip (f:=f) (n:=n) hjx hno
  rw[← hws0]
  have hws:=words_set (f:=f) (n:=n) (j:=x) hfx
  have hq:=quo64 x (by omega)
  have hr6:=rem64 x
  have hjm:x / 64<nW n:=by unfold nW;omega
  have hwl:=word_lt (f:=f) (j:=x)
  have hgw:((wordsF f n x).map fun w:Nat=>au64 (w:Int)).getD (x / 64) .any=au64 (wordOf f (x / 64) x):=by
   rw[List.getD_eq_getElem?_getD,List.getElem?_map,words_get hjm];rfl
  have hcv:IntKind.u64.wrap ((x % 64:Nat):Int)=((x % 64:Nat):Int):=wrap_u64n (Nat.lt_of_lt_of_le (Nat.mod_lt x (by decide)) (by decide))
  have hsh:=shl_bit (b:=x % 64) (Nat.mod_lt x (by decide))
  have had:=or_bit hwl (Nat.mod_lt x (by decide))
  have hlen:((wordsF f n x).map fun w:Nat=>au64 (w:Int)).length=nW n:=by rw[List.length_map,words_len]
  have hset:((wordsF f n x).map fun w:Nat=>au64 (w:Int)).set (x / 64) (au64 ((wordOf f (x / 64) x+2 ^ (x % 64):Nat):Int))=(wordsF f n (x+1)).map fun w:Nat=>au64 (w:Int):=by rw[hws,List.map_set]
  have hin:=bits_inside n ((wordsF f n x).map fun w:Nat=>au64 (w:Int)) (x:Nat)
  have hinb:(decide ((0:Int)≤(x:Nat)) && decide (((x:Nat):Int)<n))=true:=by simp;omega
  rw[hinb] at hin
  generalize ((wordsF f n x).map fun w:Nat=>au64 (w:Int))=ys at *
  generalize hd:x / 64=jd at *
  generalize hmd:x % 64=jm at *
  have hvw:Vws [(bw,.row 64 1 ys (nW n)),(b4,.row 38 2 [.agg [ai 0,anil]] 1)] [.agg [ai n,.ls bw 1 0 (nW n) (nW n)],ai x] [.agg [ai n,.sl 1 ys],ai x]:=Vws.cons (.mkAgg (Vws.cons (.refl _) (Vws.cons (Vw.ofLs (t:=64) (cap:=nW n) (if_pos rfl) hlen.symm) .nil))) (Vws.refl _)
  simp only[go_sem]
  refine W1 hgx ?_
  refine(PC.view hvw hin (Own.v _) ?_).val
  simp only[go_sem]
  refine W1 hgx ?_
  repeat(first|(with_reducible refine AWp.seq ?_)|(with_reducible refine AWp.block ?_))
  refine AWp.mix mixed [0,1,2,3,4,6,7,8] (.step 5 (.step 9 (.step 10 (.step 11 .done .done) .done) .done) .done) (by kernel_rfl) ?_;simp only[go_sem,hq,hr6,hgw,hcv,hsh,had,hlen]
  refine Sd ?_
  refine W1 hgw ?_
  exact⟨_,List.Sublist.refl _,x+1,by omega,hnext,by rw[← hset]⟩
 ·rintro vs L - ⟨rfl,j,hjn,hj,rfl⟩
  rw[List.take_length] at hj
  have hws:wordsF f n n=wordsF f n j:=words_skip hjn fun i h1 h2=>by
   cases hf:f i with
   | false=>rfl
   | true =>
    have hm:i ∈ (List.range n).filter f:=List.mem_filter.2 ⟨List.mem_range.2 h2,hf⟩
    rw[← hj] at hm
    have:=List.mem_range.1 (List.mem_filter.1 hm).1
    omega
  rw[hws]
  have hwl:((wordsF f n j).map fun w:Nat=>au64 (w:Int)).length=nW n:=by rw[List.length_map,words_len]
  have hb:aBits n (wordsF f n j) = .agg [ai n,.sl 1 ((wordsF f n j).map fun w:Nat=>au64 (w:Int))]:=rfl
  rw[hb]
  generalize ((wordsF f n j).map fun w:Nat=>au64 (w:Int))=ys at *
  have n1:¬b4=bw:=by omega
  have n2:¬bw=b4:=by omega
  simp only[go_sem]
  refine W2 n1 n2 ?_
  refine ret_view [true,true] ?_;simp only[go_sem]
  simp only[go_sem,n1]
  exact .mkTup (Vws.cons (.mkAgg (Vws.cons (.refl _) (Vws.cons (Vw.ofLs (t:=64) (cap:=nW n) (if_pos rfl) hwl.symm) .nil))) (Vws.refl _))
theorem st1_big {x:Nat} (hx:x<2 ^ 64):st1 6148914691236517205 x<2 ^ 64:=by
 have h1:x / 2 &&& 6148914691236517205≤6148914691236517205:=Nat.and_le_right
 have h2:x &&& 6148914691236517205≤6148914691236517205:=Nat.and_le_right
 unfold st1
 omega
theorem st2_big (x:Nat):st2 3689348814741910323 x≤7378697629483820646:=by
 have h1:x / 4 &&& 3689348814741910323≤3689348814741910323:=Nat.and_le_right
 have h2:x &&& 3689348814741910323≤3689348814741910323:=Nat.and_le_right
 unfold st2
 omega
theorem st3_big (x:Nat):st3 1085102592571150095 x≤1085102592571150095:=Nat.and_le_right
theorem pop_ops {x:Nat} (hx:x<2 ^ 64):∃a1 a2 a3 b1 a4 a5 a6 b2 a7 a8 b3 a9 b4 a10 b5 a11 b6 b7:Int,
  shrK .u64 (x:Nat) 1=a1∧andK .u64 a1 6148914691236517205=a2∧andK .u64 (x:Nat) 6148914691236517205=a3∧IntKind.u64.wrap (a2+a3)=b1 ∧
  shrK .u64 b1 2=a4∧andK .u64 a4 3689348814741910323=a5∧andK .u64 b1 3689348814741910323=a6∧IntKind.u64.wrap (a5+a6)=b2 ∧
  shrK .u64 b2 4=a7∧IntKind.u64.wrap (a7+b2)=a8∧andK .u64 a8 1085102592571150095=b3 ∧
  shrK .u64 b3 8=a9∧IntKind.u64.wrap (b3+a9)=b4∧shrK .u64 b4 16=a10∧IntKind.u64.wrap (b4+a10)=b5∧shrK .u64 b5 32=a11∧IntKind.u64.wrap (b5+a11)=b6 ∧
  IntKind.i64.wrap b6=b7∧andK .i64 b7 127=(popN x:Nat):=by
 obtain⟨m1,m2,m3⟩:=msk8
 have hb1:=st1_big hx
 have hb2:=st2_big (st1 6148914691236517205 x)
 have hb3:=st3_big (st2 3689348814741910323 (st1 6148914691236517205 x))
 have hp:=stA_8 x
 unfold stA at hp
 rw[m1,m2,m3] at hp
 have and_n:∀ {a b:Nat},a<2 ^ 64→b<2 ^ 64→andK .u64 (a:Nat) (b:Nat)=((a &&& b:Nat):Int):=fun h g=>and_nat h g
 have hx2:x / 2<2 ^ 64:=by omega
 have e1:shrK .u64 (x:Nat) 1=((x / 2:Nat):Int):=shr_nat (b:=1) (by decide)
 have e2:andK .u64 ((x / 2:Nat):Int) 6148914691236517205=((x / 2 &&& 6148914691236517205:Nat):Int):=and_n hx2 (by decide)
 have e3:andK .u64 (x:Nat) 6148914691236517205=((x &&& 6148914691236517205:Nat):Int):=and_n hx (by decide)
 have e4:IntKind.u64.wrap (((x / 2 &&& 6148914691236517205:Nat):Int)+((x &&& 6148914691236517205:Nat):Int))=((st1 6148914691236517205 x:Nat):Int):=by rw[← Int.natCast_add];exact wrap_u64n hb1
 generalize st1 6148914691236517205 x=y1 at *
 have f1:shrK .u64 (y1:Nat) 2=((y1 / 4:Nat):Int):=shr_nat (b:=2) (by decide)
 have f2:andK .u64 ((y1 / 4:Nat):Int) 3689348814741910323=((y1 / 4 &&& 3689348814741910323:Nat):Int):=and_n (by omega) (by decide)
 have f3:andK .u64 (y1:Nat) 3689348814741910323=((y1 &&& 3689348814741910323:Nat):Int):=and_n hb1 (by decide)
 have f4:IntKind.u64.wrap (((y1 / 4 &&& 3689348814741910323:Nat):Int)+((y1 &&& 3689348814741910323:Nat):Int))=((st2 3689348814741910323 y1:Nat):Int):=by rw[← Int.natCast_add];exact wrap_u64n (by unfold st2 at hb2;omega)
 generalize st2 3689348814741910323 y1=y2 at *
 have g1:shrK .u64 (y2:Nat) 4=((y2 / 16:Nat):Int):=shr_nat (b:=4) (by decide)
 have g2:IntKind.u64.wrap (((y2 / 16:Nat):Int)+((y2:Nat):Int))=((y2 / 16+y2:Nat):Int):=by rw[← Int.natCast_add];exact wrap_u64n (by omega)
 have g3:andK .u64 ((y2 / 16+y2:Nat):Int) 1085102592571150095=((st3 1085102592571150095 y2:Nat):Int):=and_n (by omega) (by decide)
 generalize st3 1085102592571150095 y2=y3 at *
 have i1:shrK .u64 (y3:Nat) 8=((y3 / 256:Nat):Int):=shr_nat (b:=8) (by decide)
 have i2:IntKind.u64.wrap (((y3:Nat):Int)+((y3 / 256:Nat):Int))=((y3+y3 / 256:Nat):Int):=by rw[← Int.natCast_add];exact wrap_u64n (by omega)
 unfold finN at hp
 simp only at hp
 have hy4:y3+y3 / 256≤1089341274888928025:=by omega
 generalize y3+y3 / 256=y4 at *
 have j1:shrK .u64 (y4:Nat) 16=((y4 / 65536:Nat):Int):=shr_nat (b:=16) (by decide)
 have j2:IntKind.u64.wrap (((y4:Nat):Int)+((y4 / 65536:Nat):Int))=((y4+y4 / 65536:Nat):Int):=by rw[← Int.natCast_add];exact wrap_u64n (by omega)
 have hy5:y4+y4 / 65536≤1100000000000000000:=by omega
 generalize y4+y4 / 65536=y5 at *
 have k1:shrK .u64 (y5:Nat) 32=((y5 / 4294967296:Nat):Int):=shr_nat (b:=32) (by decide)
 have k2:IntKind.u64.wrap (((y5:Nat):Int)+((y5 / 4294967296:Nat):Int))=((y5+y5 / 4294967296:Nat):Int):=by rw[← Int.natCast_add];exact wrap_u64n (by omega)
 have k3:IntKind.i64.wrap ((y5+y5 / 4294967296:Nat):Int)=((y5+y5 / 4294967296:Nat):Int):=IntWalk.i64_in _ (by omega)
 have k4:andK .i64 ((y5+y5 / 4294967296:Nat):Int) 127=((popN x:Nat):Int):=by
  rw[← hp]
  have e:(BitVec.ofInt IntKind.i64.bits ((y5+y5 / 4294967296:Nat):Int) &&& BitVec.ofInt IntKind.i64.bits 127).toNat=(y5+y5 / 4294967296) % 128:=by
   show (BitVec.ofInt 64 ((y5+y5 / 4294967296:Nat):Int) &&& BitVec.ofInt 64 ((127:Nat):Int)).toNat=_
   rw[BitVec.toNat_and,bv_nat (by omega),bv_nat (by decide)]
   exact Nat.and_two_pow_sub_one_eq_mod _ 7
  unfold andK
  rw[e]
  exact IntWalk.i64_in _ (by omega)
 exact⟨_,_,_,_,_,_,_,_,_,_,_,_,_,_,_,_,_,_,e1,e2,e3,e4,f1,f2,f3,f4,g1,g2,g3,i1,i2,j1,j2,k1,k2,k3,k4⟩
theorem bits_OnesCount64 (x:Nat) (hx:x<2 ^ 64):PC Proofs.Tryz.prog 94 [au64 x] (ai (popN x:Nat)):=by
 obtain⟨a1,a2,a3,b1,a4,a5,a6,b2,a7,a8,b3,a9,b4,a10,b5,a11,b6,b7,h1,h2,h3,h4,h5,h6,h7,h8,h9,h10,h11,h12,h13,h14,h15,h16,h17,h18,h19⟩:=pop_ops hx
 generalize ((popN x:Nat):Int)=r at *
 generalize ((x:Nat):Int)=x0 at *
 refine PC.enter 35 [.tmp 2] [] Proofs.Tryz.func94 rfl rfl rfl rfl rfl (by simp) (AWp.of ?_);simp only[go_sem]
 repeat(first|((with_reducible refine AWp.ofC ?_ ?_);exact rfl;simp only[go_sem,h1,h2,h3,h4,h5,h6,h7,h8,h9,h10,h11,h12,h13,h14,h15,h16,h17,h18,h19])|((with_reducible refine an ?_ ?_);exact Au))
 refine ret_eq ?_;simp only[go_sem]
def aNs (n:Nat) (f:Nat→Bool):AV:=aBits n (wordsF f n n)
theorem aNs_eq (n:Nat) (f:Nat→Bool):aNs n f = .agg [ai n,.sl 1 ((wordsF f n n).map fun w:Nat=>au64 (w:Int))]:=rfl
theorem wds_len (n:Nat) (f:Nat→Bool):((wordsF f n n).map fun w:Nat=>au64 (w:Int)).length=nW n:=by rw[List.length_map,words_len]
theorem wds_get {n k:Nat} {f:Nat→Bool} (h:k<nW n):((wordsF f n n).map fun w:Nat=>au64 (w:Int)).getD k .any=au64 ((wordOf f k n:Nat):Int):=by
 rw[List.getD_eq_getElem?_getD,List.getElem?_map,words_get h];rfl
theorem bits_Valid (n:Nat) (hn:n≤512) (f:Nat→Bool):PC Proofs.Tryz.prog 57 [aNs n f] (ab true):=by
 have hwn:=bits_words n (by omega)
 have hn0:¬(n:Int)<0:=by omega
 have hn1:¬(512:Int)<n:=by omega
 have hln:=wds_len n f
 have hr:=rem64 n
 rw[aNs_eq]
 by_cases h0:n % 64=0
 ·have hr0:(n:Int).tmod 64=0:=by rw[hr,h0];rfl
  have hgx:∃a:AV,(a = .any∨∃w:Int,a=au64 w)∧((wordsF f n n).map fun w:Nat=>au64 (w:Int)).getD (((nW n:Nat):Int) - 1).toNat .any=a:=by
   by_cases hz:n=0
   ·subst hz
    exact⟨.any,.inl rfl,rfl⟩
   ·have hk:n / 64 - 1<nW n:=by unfold nW;omega
    have hi:(((nW n:Nat):Int) - 1).toNat=n / 64 - 1:=by unfold nW;omega
    exact⟨_,.inr ⟨_,rfl⟩,by rw[hi,wds_get hk]⟩
  obtain⟨a,ha,hgx⟩:=hgx
  generalize (wordsF f n n).map (fun w:Nat=>au64 (w:Int))=W at *
  rcases ha with rfl|⟨w,rfl⟩
  ·refine PC.enter 39 [.tmp 2] [1] Proofs.Tryz.func57 rfl rfl rfl rfl rfl (by simp) (AWp.of ?_);simp only[go_sem]
   refine W2 hn0 hn1 ?_
   repeat(first|(with_reducible refine AWp.seq ?_)|(with_reducible refine AWp.block ?_))
   refine AWp.mix mixed [0,1,2,3,4,5,6,7,8,9,10,11,12,13,14,15,16] .done (by kernel_rfl) ?_;simp only[go_sem,hn0,hn1]
   refine Sd ?_
   refine GCall.use (ai (nW n:Nat)) (fun _=>⟨At,(hwn).val.use ⟨rfl,rfl⟩⟩) ?_;simp only[go_sem,hn0,hn1,hln]
   refine W5 hn0 hn1 hln hr0 hgx ?_
   refine ret_eq ?_;simp only[go_sem]
  ·refine PC.enter 39 [.tmp 2] [1] Proofs.Tryz.func57 rfl rfl rfl rfl rfl (by simp) (AWp.of ?_);simp only[go_sem]
   refine W2 hn0 hn1 ?_
   repeat(first|(with_reducible refine AWp.seq ?_)|(with_reducible refine AWp.block ?_))
   refine AWp.mix mixed [0,1,2,3,4,5,6,7,8,9,10,11,12,13,14,15,16] .done (by kernel_rfl) ?_;simp only[go_sem,hn0,hn1]
   refine Sd ?_
   refine GCall.use (ai (nW n:Nat)) (fun _=>⟨At,(hwn).val.use ⟨rfl,rfl⟩⟩) ?_;simp only[go_sem,hn0,hn1,hln]
   refine W5 hn0 hn1 hln hr0 hgx ?_
   refine ret_eq ?_;simp only[go_sem]
 ·have hnw:nW n=n / 64+1:=by unfold nW;omega
  have hg:=wds_get (n:=n) (f:=f) (k:=n / 64) (by omega)
  have hlt:=word_lt (f:=f) (j:=n)
  have hsh:shrK .u64 ((wordOf f (n / 64) n:Nat):Int) ((n % 64:Nat):Int)=0:=by
   rw[shr_nat (by omega),Nat.div_eq_of_lt hlt];rfl
  have hne:¬((n % 64:Nat):Int)=0:=by omega
  have hnn:0≤((n % 64:Nat):Int):=by omega
  have hidx:(((nW n:Nat):Int) - 1).toNat=n / 64:=by omega
  have hpos:(1:Int)≤(nW n:Nat):=by omega
  have hlt2:n / 64<nW n:=by omega
  generalize (wordsF f n n).map (fun w:Nat=>au64 (w:Int))=W at *
  generalize ((wordOf f (n / 64) n:Nat):Int)=w0 at *
  generalize hrr:((n % 64:Nat):Int)=r at *
  refine PC.enter 39 [.tmp 2] [1] Proofs.Tryz.func57 rfl rfl rfl rfl rfl (by simp) (AWp.of ?_);simp only[go_sem]
  refine W2 hn0 hn1 ?_
  repeat(first|(with_reducible refine AWp.seq ?_)|(with_reducible refine AWp.block ?_))
  refine AWp.mix mixed [0,1,2,3,4,5,6,7,8,9,10,11,12,13,14,15,16] .done (by kernel_rfl) ?_;simp only[go_sem,hn0,hn1]
  refine Sd ?_
  refine GCall.use (ai (nW n:Nat)) (fun _=>⟨At,(hwn).val.use ⟨rfl,rfl⟩⟩) ?_;simp only[go_sem,hn0,hn1,hln]
  repeat(first|((with_reducible refine AWp.ofC ?_ ?_);exact rfl;simp only[go_sem,hn0,hn1,hln,hr,hne,hnn,hidx,hg,hsh])|((with_reducible refine an ?_ ?_);exact Au))
  refine ret_eq ?_;simp only[go_sem]
theorem bits_insideN (n:Nat) (f:Nat→Bool) (i:Int):PC Proofs.Tryz.prog 83 [aNs n f,ai i] (ab (decide (0≤i) && decide (i<n))):=bits_inside n _ i
theorem bits_has (n:Nat) (hn:n≤512) (f:Nat→Bool) (i:Nat) (hi:i<n):PC Proofs.Tryz.prog 119 [aNs n f,ai i] (ab (f i)):=by
 have hk:i / 64<nW n:=by unfold nW;omega
 have hg:=wds_get (n:=n) (f:=f) hk
 have hb:=has_bit (x:=wordOf f (i / 64) n) (b:=i % 64) word_big (by omega)
 rw[bit_word (by omega),show 64 * (i / 64)+i % 64=i by omega,decide_eq_true hi,Bool.true_and] at hb
 have hq:=quo64 i (by omega)
 have hr:=rem64 i
 have hln:=wds_len n f
 have hnn:0≤((i % 64:Nat):Int):=by omega
 have hkk:((i / 64:Nat):Int).toNat=i / 64:=by omega
 rw[aNs_eq]
 generalize (wordsF f n n).map (fun w:Nat=>au64 (w:Int))=W at *
 generalize ((wordOf f (i / 64) n:Nat):Int)=w0 at *
 generalize hkd:i / 64=k at *
 generalize hrr:((i % 64:Nat):Int)=r at *
 rw[← hb]
 refine PC.enter 16 [.tmp 4] [2] Proofs.Tryz.func119 rfl rfl rfl rfl rfl (by simp) (AWp.of ?_);simp only[go_sem]
 refine W6 hq hr hln hg hkk hnn ?_
 refine ret_eq ?_;simp only[go_sem]
theorem bits_Has (n:Nat) (hn:n≤512) (f:Nat→Bool) (i:Int):PC Proofs.Tryz.prog 95 [aNs n f,ai i] (ab (decide (0≤i) && decide (i<n) && f i.toNat)):=by
 have h1:=bits_Valid n hn f
 have h2:=bits_insideN n f i
 rw[aNs_eq] at *
 by_cases hi:0≤i∧i<n
 ·have h3:=bits_has n hn f i.toNat (by omega)
  rw[Int.toNat_of_nonneg hi.1,aNs_eq] at h3
  rw[decide_eq_true hi.1,decide_eq_true hi.2] at h2
  rw[decide_eq_true hi.1,decide_eq_true hi.2,Bool.and_self,Bool.true_and]
  generalize f i.toNat=x at *
  generalize (wordsF f n n).map (fun w:Nat=>au64 (w:Int))=W at *
  refine PC.enter 17 [.tmp 4] [2] Proofs.Tryz.func95 rfl rfl rfl rfl rfl (by simp) (AWp.of ?_);simp only[go_sem]
  refine Wk ?_
  refine Sd ?_
  refine(h1).val.use ?_;simp only[go_sem]
  refine Sd ?_
  refine Gc h2 ?_
  refine Sd ?_
  refine Gc h3 ?_
  refine Sd ?_
  refine Wk ?_
  refine ret_eq ?_;simp only[go_sem]
 ·have hf:(decide (0≤i) && decide (i<(n:Int)))=false:=by
   by_cases h0:0≤i
   ·rw[decide_eq_false (show ¬i<(n:Int) from fun h=>hi ⟨h0,h⟩),Bool.and_false]
   ·rw[decide_eq_false h0,Bool.false_and]
  rw[hf] at h2
  rw[hf,Bool.false_and]
  generalize (wordsF f n n).map (fun w:Nat=>au64 (w:Int))=W at *
  refine PC.enter 17 [.tmp 4] [2] Proofs.Tryz.func95 rfl rfl rfl rfl rfl (by simp) (AWp.of ?_);simp only[go_sem]
  refine Wk ?_
  refine Sd ?_
  refine(h1).val.use ?_;simp only[go_sem]
  refine Sd ?_
  refine Gc h2 ?_
  refine GCall.use .any (fun h=>absurd h (by simp)) ?_
  simp only[go_sem]
  refine Sd ?_
  refine Wk ?_
  refine ret_eq ?_;simp only[go_sem]
theorem bits_matching (n:Nat) (hn:n≤512) (f g:Nat→Bool):PC Proofs.Tryz.prog 100 [aNs n f,aNs n g] (ab true):=by
 have h1:=bits_Valid n hn f
 have h2:=bits_Valid n hn g
 rw[aNs_eq] at *
 rw[aNs_eq] at *
 generalize (wordsF f n n).map (fun w:Nat=>au64 (w:Int))=W at *
 generalize (wordsF g n n).map (fun w:Nat=>au64 (w:Int))=V at *
 refine PC.enter 18 [.tmp 4] [2,3] Proofs.Tryz.func100 rfl rfl rfl rfl rfl (by simp) (AWp.of ?_);simp only[go_sem]
 refine Wk ?_
 refine Sd ?_
 refine(h1).val.use ?_;simp only[go_sem]
 refine Sd ?_
 refine Gc h2 ?_
 refine Sd ?_
 refine Wk ?_
 refine ret_eq ?_;simp only[go_sem]
theorem bits_copied (n:Nat) (ws:List AV) (hl:ws.length≤1000000) (hw:∀w ∈ ws,∃z:Int,w=au64 z):MCalls Proofs.Tryz.prog 99 [.agg [ai n,.sl 1 ws]] [] fun r L=>∃b cap,r = .agg [ai n,.ls b 1 0 ws.length cap]∧L=[(b,.row 64 1 ws cap)]:=by
 refine MCalls.enter' 17 [.cell 2 38] [1,3] Proofs.Tryz.func99 rfl rfl rfl rfl rfl (by simp) (AWp.of ?_);simp only[go_sem]
 refine Wk ?_
 intro b2
 refine AWp.cut [1,2,3] (fun vs L=>∃b,(¬b=b2∧¬b2=b)∧L=[(b,.row 64 1 (List.replicate ws.length (au64 0)) ws.length),(b2,.row 38 2 [.agg [ai 0,anil]] 1)]∧vs=[.rp 2 [.agg [ai n,.sl 1 ws]] 0 0,.lp b2 2 0 0,.rp 2 [.agg [ai n,.ls b 1 0 ws.length ws.length]] 0 0]) ?_ ?_
 ·repeat(first|(with_reducible refine AWp.seq ?_)|(with_reducible refine AWp.block ?_))
  refine AWp.mix mixed [0,1,2,3,4] (.step 5 (.step 6 (.step 7 (.step 8 .done .done) .done) (.step 7 (.step 6 (.step 8 .done .done) .done) .done)) (.step 7 (.step 5 (.step 6 (.step 8 .done .done) .done) .done) .done)) (by kernel_rfl) ?_;simp only[go_sem]
  refine Sd ?_
  repeat' (first|(with_reducible refine And.intro ?_ ?_)|intro _)
  all_goals first|omega|exact⟨_,List.Sublist.refl _,_,⟨by omega,by omega⟩,rfl,rfl⟩|skip
  all_goals rename_i b h1 b1 h2 h3
  all_goals have n1:¬b=b1:=by omega
  all_goals simp only[go_sem,n1]
  all_goals exact⟨_,List.Sublist.refl _,_,⟨by omega,by omega⟩,rfl,rfl⟩
 ·rintro vs L - ⟨b,⟨n1,n2⟩,rfl,rfl⟩
  simp only[go_sem,n1,n2]
  refine Wk ?_
  refine⟨by rw[List.length_replicate];exact Nat.le_refl _,?_⟩
  have e1:ws.take (min ws.length ws.length)=ws:=by rw[Nat.min_self,List.take_length]
  have e2:(List.replicate ws.length (au64 0)).drop ws.length=[]:=List.drop_of_length_le (by rw[List.length_replicate];exact Nat.le_refl _)
  rw[e1,e2,List.append_nil]
  refine W2 n1 n2 ?_
  refine ret_sub [(b,.row 64 1 ws ws.length)] (.cons_cons _ (List.nil_sublist _)) ?_
  simp only[go_sem,n1,n2]
  exact⟨_,_,rfl,rfl⟩
def cmbW (f h:Nat→Bool) (n k:Nat):List AV:=(List.range (nW n)).map fun w=>if w<k then au64 ((wordOf h w n:Nat):Int) else au64 ((wordOf f w n:Nat):Int)
theorem cmb_len (f h:Nat→Bool) (n k:Nat):(cmbW f h n k).length=nW n:=by simp [cmbW]
theorem cmb_zero (f h:Nat→Bool) (n:Nat):cmbW f h n 0=(wordsF f n n).map fun w:Nat=>au64 (w:Int):=by
 unfold cmbW wordsF
 rw[List.map_map]
 exact List.map_congr_left fun w _=>by rw[if_neg (by omega)];rfl
theorem cmb_full (f h:Nat→Bool) (n:Nat):cmbW f h n (nW n)=(wordsF h n n).map fun w:Nat=>au64 (w:Int):=by
 unfold cmbW wordsF
 rw[List.map_map]
 exact List.map_congr_left fun w hw=>by rw[if_pos (List.mem_range.1 hw)];rfl
theorem cmb_get {f h:Nat→Bool} {n k:Nat} (hk:k<nW n):(cmbW f h n k).getD k .any=au64 ((wordOf f k n:Nat):Int):=by
 unfold cmbW
 rw[map_range_getD hk,if_neg (by omega)]
theorem cmb_elem {f h:Nat→Bool} {n k i:Nat} (hi:i<(cmbW f h n k).length):(cmbW f h n k)[i]=if i<k then au64 ((wordOf h i n:Nat):Int) else au64 ((wordOf f i n:Nat):Int):=by simp [cmbW]
theorem cmb_set {f h:Nat→Bool} {n k:Nat} (hk:k<nW n):(cmbW f h n k).set k (au64 ((wordOf h k n:Nat):Int))=cmbW f h n (k+1):=by
 refine List.ext_getElem (by rw[List.length_set,cmb_len,cmb_len]) fun i h1 h2 => ?_
 rw[List.getElem_set,cmb_elem,cmb_elem]
 by_cases e:k=i
 ·subst e;rw[if_pos rfl,if_pos (by omega)]
 ·rw[if_neg e]
  by_cases h:i<k
  ·rw[if_pos h,if_pos (by omega)]
  ·rw[if_neg h,if_neg (by omega)]
theorem bits_combined (n:Nat) (hn:n≤512) (f g h:Nat→Bool) (F:AV) (hF:fo F=(True,F)) (op:Nat→Nat→Nat) (hop:∀w,op (wordOf f w n) (wordOf g w n)=wordOf h w n)
  (hFo:∀x y:Nat,x<2 ^ 64→y<2 ^ 64→PV Proofs.Tryz.prog F [au64 (x:Nat),au64 (y:Nat)] (au64 (op x y:Nat))) :
  PC Proofs.Tryz.prog 67 [aNs n f,aNs n g,F] (.tup [aNs n h,ai 0]):=by
 have h1:=bits_matching n hn f g
 have h2:=bits_copied n ((wordsF f n n).map fun w:Nat=>au64 (w:Int)) (by rw[wds_len];unfold nW;omega) (fun w hw=>by obtain⟨x,_,rfl⟩:=List.mem_map.1 hw;exact⟨_,rfl⟩)
 rw[wds_len] at h2
 have hlg:=wds_len n g
 have hgg:=fun k (hk:k<nW n)=>wds_get (n:=n) (f:=g) hk
 have hnW:nW n≤1000000:=by unfold nW;omega
 have hz:=cmb_zero f h n
 rw[aNs_eq n f,aNs_eq n g] at *
 generalize hV:(wordsF g n n).map (fun w:Nat=>au64 (w:Int))=V at *
 refine PC.enter 40 [.cell 6 38,.tmp 7] [3,4,8] Proofs.Tryz.func67 rfl rfl rfl rfl rfl (by simp) (AWp.of ?_);simp only[go_sem]
 refine W1 hF ?_
 intro b6
 refine W1 hF ?_
 refine Sd ?_
 refine(h1).val.use ?_;simp only[go_sem]
 refine W1 hF ?_
 refine(MVal.frame (Lm:=[]) (Lr:=[(b6,.row 38 2 [.agg [ai 0,anil]] 1)]) h2.val).mono ?_
 rintro r L ⟨L1,rfl,b,cap,rfl,rfl⟩
 rw[← hz]
 simp only[go_sem,List.cons_append,List.nil_append]
 refine W2 hF hlg ?_
 intro b8 _ _
 refine AWp.nodup fun hnd => ?_
 have n1:¬b=b6:=by simpa using hnd
 have n2:¬b6=b:=fun e=>n1 e.symm
 refine W2 hF hlg ?_
 refine AWp.range' (nW n) [] [2,6,8,19,20] (fun k vs L=>vs=[]∧L=[(b,.row 64 1 (cmbW f h n k) cap),(b6,.row 38 2 [.agg [ai 0,anil]] 1)]) (by omega) rfl rfl rfl ⟨rfl,rfl⟩ ?_ ?_
 ·rintro k vs L hk - ⟨rfl,rfl⟩
  have hgk:=hgg k hk
  have hck:=cmb_get (f:=f) (h:=h) hk
  have hcl:=cmb_len f h n k
  have hst:=cmb_set (f:=f) (h:=h) hk
  have hfo:=hFo (wordOf f k n) (wordOf g k n) word_big word_big
  rw[hop] at hfo
  rw[← hst]
  generalize cmbW f h n k=CW at *
  simp only[go_sem]
  refine W2 hF hgk ?_
  repeat(first|(with_reducible refine AWp.seq ?_)|(with_reducible refine AWp.block ?_))
  refine AWp.mix mixed [0,1,2,3,4,5,6,7,9] (.step 8 (.step 10 (.step 11 (.step 12 .done .done) .done) .done) .done) (by kernel_rfl) ?_;simp only[go_sem,hF,hgk,hck,hcl]
  refine Sd ?_
  refine Sd ?_
  refine(hfo).use ?_;simp only[go_sem,hcl,hck]
  refine Sd ?_
  refine W2 hcl hck ?_
  exact⟨_,List.Sublist.refl _,rfl⟩
 ·rintro vs L - ⟨rfl,rfl⟩
  rw[cmb_full]
  have hlh:=wds_len n h
  rw[aNs_eq]
  generalize (wordsF h n n).map (fun w:Nat=>au64 (w:Int))=W at *
  simp only[go_sem,n1,n2]
  refine W3 n1 n2 hF ?_
  refine ret_view [true,true] ?_;simp only[go_sem]
  simp only[go_sem,n1,n2]
  exact .mkTup (Vws.cons (.mkAgg (Vws.cons (.refl _) (Vws.cons (Vw.ofLs (t:=64) (cap:=cap) (if_pos rfl) hlh.symm) .nil))) (Vws.refl _))
theorem bits_Minus1 (x y:Nat):PC Proofs.Tryz.prog 112 [au64 (x:Nat),au64 (y:Nat)] (au64 (mnsN x y:Nat)):=by
 have h:=mns_nat (x:=x) (y:=y)
 generalize ((x:Nat):Int)=a at *
 generalize ((y:Nat):Int)=b at *
 refine PC.enter 8 [.tmp 4] [] Proofs.Tryz.func112 rfl rfl rfl rfl rfl (by simp) (AWp.of ?_);simp only[go_sem]
 refine W1 h ?_
 refine ret_eq ?_;simp only[go_sem]
theorem bits_Minus (n:Nat) (hn:n≤512) (f g:Nat→Bool):PC Proofs.Tryz.prog 86 [aNs n f,aNs n g] (.tup [aNs n fun i=>f i && !g i,ai 0]):=by
 have h1:=bits_combined n hn f g (fun i=>f i && !g i) (.v (.func (.func 112) #[] #[])) rfl mnsN (fun w=>word_mns) fun x y _ _=>(bits_Minus1 x y).val
 rw[aNs_eq n f,aNs_eq n g,aNs_eq] at *
 generalize (wordsF f n n).map (fun w:Nat=>au64 (w:Int))=V at *
 generalize (wordsF g n n).map (fun w:Nat=>au64 (w:Int))=W at *
 generalize (wordsF (fun i=>f i && !g i) n n).map (fun w:Nat=>au64 (w:Int))=X at *
 refine PC.enter 11 [.cell 4 38,.tmp 5] [2,3] Proofs.Tryz.func86 rfl rfl rfl rfl rfl (by simp) (AWp.of ?_);simp only[go_sem]
 intro b4
 refine Wk ?_
 refine Sd ?_
 refine(h1).val.use ?_;simp only[go_sem]
 refine Wk ?_
 refine ret_eq ?_;simp only[go_sem]
theorem bits_Count (n:Nat) (hn:n≤512) (f:Nat→Bool):PC Proofs.Tryz.prog 50 [aNs n f] (ai (cntB f n:Nat)):=by
 have h1:=bits_Valid n hn f
 have hln:=wds_len n f
 have hg:=fun k (hk:k<nW n)=>wds_get (n:=n) (f:=f) hk
 have hnW:nW n≤1000000:=by unfold nW;omega
 have hall:((List.range (nW n)).map fun w=>popN (wordOf f w n)).sum=cntB f n:=by rw[pop_words,pop_all]
 have hp:=fun k=>bits_OnesCount64 (wordOf f k n) word_big
 have hle:∀k,((List.range k).map fun w=>popN (wordOf f w n)).sum≤64 * k:=fun k=>by rw[pop_words];exact cntB_le _ _
 rw[← hall,aNs_eq] at *
 generalize (wordsF f n n).map (fun w:Nat=>au64 (w:Int))=W at *
 refine PC.enter 22 [.tmp 2] [1] Proofs.Tryz.func50 rfl rfl rfl rfl rfl (by simp) (AWp.of ?_);simp only[go_sem]
 refine Wk ?_
 refine Sd ?_
 refine(h1).val.use ?_;simp only[go_sem]
 refine W1 hln ?_
 refine AWp.range' (nW n) [3] [10,11] (fun k vs L=>L=[]∧vs=[ai (((List.range k).map fun w=>popN (wordOf f w n)).sum:Nat)]) (by omega) rfl rfl rfl ⟨rfl,rfl⟩ ?_ ?_
 ·rintro k vs L hk - ⟨rfl,rfl⟩
  have hgk:=hg k hk
  have hpk:=hp k
  have hs:((List.range (k+1)).map fun w=>popN (wordOf f w n)).sum=((List.range k).map fun w=>popN (wordOf f w n)).sum+popN (wordOf f k n):=by
   rw[List.range_succ,List.map_append,List.sum_append,List.map_singleton,List.sum_singleton]
  have h8:=hle (k+1)
  rw[hs] at h8 ⊢
  generalize ((List.range k).map fun w=>popN (wordOf f w n)).sum=s at *
  generalize popN (wordOf f k n)=q at *
  have hsm:((s:Nat):Int)+(q:Nat)=((s+q:Nat):Int):=by omega
  generalize ((wordOf f k n:Nat):Int)=w0 at *
  simp only[go_sem]
  refine W1 hgk ?_
  refine Sd ?_
  refine(hpk).val.use ?_;simp only[go_sem]
  refine W1 hsm ?_
  refine Sd ?_
  exact⟨_,List.Sublist.refl _,rfl,rfl⟩
 ·rintro vs L - ⟨rfl,rfl⟩
  simp only[go_sem]
  refine Wk ?_
  refine ret_eq ?_;simp only[go_sem]
def subN (n:Nat) (f g:Nat→Bool):Bool:=(List.range n).all fun i => !f i || g i
theorem subN_cnt (n:Nat) (f g:Nat→Bool):decide (((cntB (fun i=>f i && !g i) n:Nat):Int)=0)=subN n f g:=by
 unfold subN
 rw[Bool.eq_iff_iff,decide_eq_true_iff,List.all_eq_true]
 constructor
 ·intro h i hi
  have:=cntB_zero.1 (show cntB (fun i=>f i && !g i) n=0 by omega) i (List.mem_range.1 hi)
  cases hf:f i <;> cases hgi:g i <;> simp_all
 ·intro h
  have:cntB (fun i=>f i && !g i) n=0:=cntB_zero.2 fun i hi=>by
   have:=h i (List.mem_range.2 hi)
   cases hf:f i <;> cases hgi:g i <;> simp_all
  omega
theorem bits_Subset (n:Nat) (hn:n≤512) (f g:Nat→Bool):PC Proofs.Tryz.prog 47 [aNs n f,aNs n g] (ab (subN n f g)):=by
 have h1:=bits_Minus n hn f g
 have h2:=bits_Count n hn fun i=>f i && !g i
 have h3:=subN_cnt n f g
 rw[aNs_eq n f,aNs_eq n g,aNs_eq] at h1
 rw[aNs_eq] at h2
 rw[aNs_eq,aNs_eq,← h3]
 generalize (wordsF f n n).map (fun w:Nat=>au64 (w:Int))=V at *
 generalize (wordsF g n n).map (fun w:Nat=>au64 (w:Int))=W at *
 generalize (wordsF (fun i=>f i && !g i) n n).map (fun w:Nat=>au64 (w:Int))=X at *
 generalize ((cntB (fun i=>f i && !g i) n:Nat):Int)=c at *
 refine PC.enter 20 [.tmp 4] [2,3,5] Proofs.Tryz.func47 rfl rfl rfl rfl rfl (by simp) (AWp.of ?_);simp only[go_sem]
 refine Wk ?_
 refine Sd ?_
 refine(h1).val.use ?_;simp only[go_sem]
 intros
 refine Wk ?_
 refine Sd ?_
 refine Gc h2 ?_
 refine Sd ?_
 refine Wk ?_
 refine ret_eq ?_;simp only[go_sem]
end Go.AL
end
section
namespace Go.AL
open Go Go.RowKit
def addW (a b:Int):Int:=IntKind.i64.wrap (a+b)
def aAddW (C:Cfg) (o:Oper) (x y:AV) (ρ:Env) (L:AHeap) (K:ARes):Prop :=
 match x,y with
 | .v (.int .i64 a),.v (.int .i64 b)=>K (put ρ o.dst (ai (addW a b))) L
 | _,_=>False
def aopW (C:Cfg) (o:Oper) (ρ:Env) (L:AHeap) (K:ARes):Prop :=
 match o.op with
 | .binOp .add _ x y _=>aAddW C o (ev ρ x) (ev ρ y) ρ L K
 | _=>aop C o ρ L K
theorem aopW_sound {C:Cfg} {o:Oper} {ρ:Env} {L:AHeap} {K:ARes} (hd:dstOk C o) (hdef:∀c,o.op ≠ .defer c) (h:aopW C o ρ L K):AOp C o ρ L K:=by
 unfold aopW at h
 split at h
 ·rename_i t x y t' hop
  unfold aAddW at h
  split at h
  ·rename_i a b hx hy
   refine AOp.val hd hdef (fun ac w A hρ hL=>⟨.int .i64 (addW a b),?_,.v _⟩) h
   have h1:=hρ x;rw[hx] at h1;have h1:=h1.inv_v
   have h2:=hρ y;rw[hy] at h2;have h2:=h2.inv_v
   unfold execOp
   rw[hop]
   simp [h1,h2,binOp,eqGuard,Op.intArith,addW]
  ·exact h.elim
 ·exact aop_sound hd hdef h
def aregionW (C:Cfg):List Oper→Env→AHeap→ARes→Prop
 | [],ρ,L,K=>K ρ L
 | o :: rest,ρ,L,K=>o.guard=none∧aopW C o ρ L fun ρ L=>aregionW C rest ρ L K
def aregWK (C:Cfg) (rest:List Oper) (K:ARes) (ρ:Env) (L:AHeap):Prop:=aregionW C rest ρ L K
theorem aregionW_nil (C:Cfg) (ρ:Env) (L:AHeap) (K:ARes):aregionW C [] ρ L K=K ρ L:=rfl
theorem aregionW_cons (C:Cfg) (rest:List Oper) (o:Oper) (ρ:Env) (L:AHeap) (K:ARes):aregionW C (o :: rest) ρ L K=(o.guard=none∧aopW C o ρ L (aregWK C rest K)):=rfl
theorem aregionW_sound {C:Cfg} {ops:Array Oper} {K:ARes} {n:Nat} {w0:World} {M A0:Foot} {Q:Exit→Act→World→Prop} (hQ:∀a w,post w0 M A0 C.N K a w→Q .normal a w) (hok:ops.toList.all (operOk C.N)=true) :
  ∀(l:List Oper) (k:Nat),(∀j,l[j]?=ops[k+j]?)→∀(ρ:Env) (L:AHeap) (a:Act) (w:World),aregionW C l ρ L K→St w0 M A0 C.N ρ L a w→wpOpsIn (Fw C.r) n C.P ops Q (List.range' k l.length) a w
 | [],k,_,ρ,L,a,w,h,hs=>hQ a w ⟨ρ,L,h,hs⟩
 | o :: l,k,hl,ρ,L,a,w,h,hs=>by
  have h0:ops[k]?=some o:=by simpa using (hl 0).symm
  have ho:operOk C.N o=true:=List.all_eq_true.1 hok o (List.mem_of_getElem? (by simpa using h0))
  rw[List.length_cons,List.range'_succ,wpOpsIn_cons]
  refine wpOpIn_mono ?_ (AOp.gop h0 h.1 (aopW_sound (operOk_dst ho) (operOk_def ho) h.2) n w0 M A0 a w Q hs)
  rintro a' w' ⟨ρ',L',h1,h2⟩
  exact aregionW_sound hQ hok l (k+1) (fun j=>by have:=hl (j+1);simpa [Nat.add_assoc,Nat.add_comm 1 j] using this) ρ' L' a' w' h1 h2
theorem AWp.regionW {C:Cfg} {id:Nat} {ops:Array Oper} {Q:AQ} {ρ:Env} {L:AHeap} (h:aregionW C ops.toList ρ L (Q .normal)):AWp C (.region id ops false) Q ρ L:=fun hok n w0 M A0 a w hs=>by
 refine wpIn_region ?_
 have:=aregionW_sound (C:=C) (ops:=ops) (K:=Q .normal) (n:=n) (Q:=cq C w0 M A0 Q) (fun a w ⟨ρ',L',h1,h2⟩=>⟨ρ',L',h1,h2⟩) hok ops.toList 0 (by simp) ρ L a w h hs
 rwa [Array.length_toList,← List.range_eq_range'] at this
attribute [go_sem] aregionW_nil aregionW_cons aregWK aopW aAddW
end Go.AL
end
section
namespace Go.AL
open Go Go.RowKit
def aNegW (C:Cfg) (o:Oper) (x:AV) (ρ:Env) (L:AHeap) (K:ARes):Prop :=
 match x with
 | .v (.int .u64 a)=>K (put ρ o.dst (.v (.int .u64 (IntKind.u64.wrap (-a))))) L
 | _=>False
def aopN (C:Cfg) (o:Oper) (ρ:Env) (L:AHeap) (K:ARes):Prop :=
 match o.op with
 | .unOp .neg _ x=>aNegW C o (ev ρ x) ρ L K
 | _=>aop C o ρ L K
theorem aopN_sound {C:Cfg} {o:Oper} {ρ:Env} {L:AHeap} {K:ARes} (hd:dstOk C o) (hdef:∀c,o.op ≠ .defer c) (h:aopN C o ρ L K):AOp C o ρ L K:=by
 unfold aopN at h
 split at h
 ·rename_i t x hop
  unfold aNegW at h
  split at h
  ·rename_i a hx
   refine AOp.val hd hdef (fun ac w A hρ hL=>⟨.int .u64 (IntKind.u64.wrap (-a)),?_,.v _⟩) h
   have h1:=hρ x;rw[hx] at h1;have h1:=h1.inv_v
   unfold execOp
   rw[hop]
   simp [h1,Op.unary,Op.intArith]
  ·exact h.elim
 ·exact aop_sound hd hdef h
def aregionN (C:Cfg):List Oper→Env→AHeap→ARes→Prop
 | [],ρ,L,K=>K ρ L
 | o :: rest,ρ,L,K=>o.guard=none∧aopN C o ρ L fun ρ L=>aregionN C rest ρ L K
def aregNK (C:Cfg) (rest:List Oper) (K:ARes) (ρ:Env) (L:AHeap):Prop:=aregionN C rest ρ L K
theorem aregionN_nil (C:Cfg) (ρ:Env) (L:AHeap) (K:ARes):aregionN C [] ρ L K=K ρ L:=rfl
theorem aregionN_cons (C:Cfg) (rest:List Oper) (o:Oper) (ρ:Env) (L:AHeap) (K:ARes):aregionN C (o :: rest) ρ L K=(o.guard=none∧aopN C o ρ L (aregNK C rest K)):=rfl
theorem aregionN_sound {C:Cfg} {ops:Array Oper} {K:ARes} {n:Nat} {w0:World} {M A0:Foot} {Q:Exit→Act→World→Prop} (hQ:∀a w,post w0 M A0 C.N K a w→Q .normal a w) (hok:ops.toList.all (operOk C.N)=true) :
  ∀(l:List Oper) (k:Nat),(∀j,l[j]?=ops[k+j]?)→∀(ρ:Env) (L:AHeap) (a:Act) (w:World),aregionN C l ρ L K→St w0 M A0 C.N ρ L a w→wpOpsIn (Fw C.r) n C.P ops Q (
   List.range' k l.length) a w
 | [],k,_,ρ,L,a,w,h,hs=>hQ a w ⟨ρ,L,h,hs⟩
 | o :: l,k,hl,ρ,L,a,w,h,hs=>by
  have h0:ops[k]?=some o:=by simpa using (hl 0).symm
  have ho:operOk C.N o=true:=List.all_eq_true.1 hok o (List.mem_of_getElem? (by simpa using h0))
  rw[List.length_cons,List.range'_succ,wpOpsIn_cons]
  refine wpOpIn_mono ?_ (AOp.gop h0 h.1 (aopN_sound (operOk_dst ho) (operOk_def ho) h.2) n w0 M A0 a w Q hs)
  rintro a' w' ⟨ρ',L',h1,h2⟩
  exact aregionN_sound hQ hok l (k+1) (fun j=>by have:=hl (j+1);simpa [Nat.add_assoc,Nat.add_comm 1 j] using this) ρ' L' a' w' h1 h2
theorem AWp.regionN {C:Cfg} {id:Nat} {ops:Array Oper} {Q:AQ} {ρ:Env} {L:AHeap} (h:aregionN C ops.toList ρ L (Q .normal)):AWp C (.region id ops false) Q ρ L:=fun hok n w0 M A0 a w hs=>by
 refine wpIn_region ?_
 have:=aregionN_sound (C:=C) (ops:=ops) (K:=Q .normal) (n:=n) (Q:=cq C w0 M A0 Q) (fun a w ⟨ρ',L',h1,h2⟩=>⟨ρ',L',h1,h2⟩) hok ops.toList 0 (by simp) ρ L a w h hs
 rwa [Array.length_toList,← List.range_eq_range'] at this
attribute [go_sem] aregionN_nil aregionN_cons aregNK aopN aNegW
end Go.AL
end
section
namespace Go.AL
open Go Go.RowKit
set_option maxRecDepth 4000
def takC (c:List Int) (p:Nat):List Int:=c.set p (cAt c p - 1)
def remB (ps:List Pr) (c:List Int) (p:Nat):Bool:=decide (0<cAt c p) && isF ps (takC c p)
def remN (ps:List Pr) (c:List Int) (k:Nat):Nat:=((List.range k).filter (remB ps c)).length
def irrF (ps:List Pr) (c:List Int):Bool:=decide (remN ps c c.length=1)
theorem remN_succ (ps:List Pr) (c:List Int) (k:Nat):remN ps c (k+1)=remN ps c k+if remB ps c k=true then 1 else 0:=by
 unfold remN
 rw[List.range_succ,List.filter_append,List.length_append]
 cases h:remB ps c k <;> simp [h]
theorem remN_le (ps:List Pr) (c:List Int) (k:Nat):remN ps c k≤k:=by
 have:=List.length_filter_le (remB ps c) (List.range k)
 rw[List.length_range] at this
 exact this
def freeN (ps:List Pr) (c:List Int) (p:Nat) (x:Pr) (n:Nat):Bool:=(x.evs.take n).all fun e => !decide ((needE ps e).2=cAt c p) || !decide ((needE ps e).1=p)
def freeU (ps:List Pr) (c:List Int) (p k:Nat):Bool:=(List.range k).all fun q=>freeN ps c p (ps.getD q ⟨⟨#[]⟩,[],[]⟩) (cAt c q).toNat
theorem freeU_succ (ps:List Pr) (c:List Int) (p:Nat) {k:Nat} (hk:k<ps.length):freeU ps c p (k+1)=(freeU ps c p k && freeN ps c p ps[k] (cAt c k).toNat):=by
 unfold freeU
 rw[List.range_succ,List.all_append]
 simp [List.getD_eq_getElem?_getD,hk]
theorem free_rem {ps:List Pr} (hv:validF ps=true) {c:List Int} (hc:isF ps c=true) {p:Nat} (hp:p<ps.length) (h0:0<cAt c p):freeU ps c p ps.length=isF ps (takC c p):=by
 obtain⟨c1,c2,c3⟩:=isF_iff.1 hc
 have hm:=(valid_parts hv).2.2
 have hr:=(inRange_iff c1).1 c2
 have hcl:=closed_iff.1 c3
 have hl:(takC c p).length=ps.length:=by unfold takC;rw[List.length_set];exact c1
 have hat:∀q,q<ps.length→cAt (takC c p) q=if p=q then cAt c p - 1 else cAt c q:=fun q hq=>by
  unfold takC;rw[setc_cAt (by omega)]
 have hF:freeU ps c p ps.length=true↔∀(q:Nat) (hq:q<ps.length) (i:Nat) (hi:i<ps[q].evs.length),(i:Int)+1≤cAt c q→¬((needE ps ps[q].evs[i]).2=cAt c p∧(needE ps ps[q].evs[i]).1=p):=by
  unfold freeU
  rw[List.all_eq_true]
  constructor
  ·intro h q hq i hi hle ⟨e1,e2⟩
   have:=h q (List.mem_range.2 hq)
   have hg:ps.getD q ⟨⟨#[]⟩,[],[]⟩=ps[q]:=by simp [List.getD_eq_getElem?_getD,hq]
   rw[hg] at this
   unfold freeN at this
   rw[List.all_eq_true] at this
   have hmem:ps[q].evs[i] ∈ ps[q].evs.take (cAt c q).toNat:=by
    rw[List.mem_take_iff_getElem]
    exact⟨i,by omega,rfl⟩
   have:=this _ hmem
   rw[e1,e2] at this
   simp at this
  ·intro h q hq
   have hq:=List.mem_range.1 hq
   have hg:ps.getD q ⟨⟨#[]⟩,[],[]⟩=ps[q]:=by simp [List.getD_eq_getElem?_getD,hq]
   rw[hg]
   unfold freeN
   rw[List.all_eq_true]
   intro e he
   obtain⟨i,hi,rfl⟩:=List.mem_take_iff_getElem.1 he
   have:=h q hq i (by omega) (by omega)
   simp only[Bool.or_eq_true,Bool.not_eq_true',decide_eq_false_iff_not]
   by_cases e1:(needE ps ps[q].evs[i]).2=cAt c p
   ·exact .inr fun e2=>this ⟨e1,e2⟩
   ·exact .inl e1
 rw[Bool.eq_iff_iff,hF]
 constructor
 ·intro h
  refine isF_iff.2 ⟨hl,(inRange_iff hl).2 fun q hq => ?_,closed_iff.2 fun q hq i hi hk hle => ?_⟩
  ·have:=hr q hq
   rw[hat q hq]
   split
   ·rename_i e;subst e;omega
   ·exact this
  ·have hle':(i:Int)+1≤cAt c q:=by
    rw[hat q hq] at hle
    split at hle
    ·rename_i e;subst e;omega
    ·exact hle
   have h1:=hcl q hq i hi hk hle'
   have h2:=h q hq i hi hle'
   obtain⟨s,hs,j,hj,e,_,_⟩:=sndr_some (recv_sndr hm hq hi hk)
   have hne:needE ps ps[q].evs[i]=sndr ps ps[q].evs[i].msg:=by unfold needE;rw[if_pos hk]
   rw[hne,e] at h2
   rw[e] at h1 ⊢
   simp only at h1 h2 ⊢
   rw[hat s hs]
   split
   ·rename_i es;subst es
    have:¬((j:Int)+1=cAt c p):=fun h=>h2 ⟨h,rfl⟩
    omega
   ·exact h1
 ·intro h q hq i hi hle ⟨e1,e2⟩
  obtain⟨_,_,t3⟩:=isF_iff.1 h
  have hk:ps[q].evs[i].kind=3:=by
   by_cases hk:ps[q].evs[i].kind=3
   ·exact hk
   ·unfold needE at e1
    rw[if_neg hk] at e1
    simp only at e1
    omega
  have hne:needE ps ps[q].evs[i]=sndr ps ps[q].evs[i].msg:=by unfold needE;rw[if_pos hk]
  rw[hne] at e1 e2
  by_cases hpq:p=q
  ·subst hpq
   obtain⟨s,hs,j,hj,e,k2,_⟩:=sndr_some (recv_sndr hm hp hi hk)
   rw[e] at e1 e2
   simp only at e1 e2
   obtain rfl:s=p:=by omega
   by_cases hle2:(i:Int)+1≤cAt c s - 1
   ·have h1:=closed_iff.1 t3 s hp i hi hk (by rw[hat s hp,if_pos rfl];exact hle2)
    rw[e] at h1
    simp only at h1
    rw[hat s hp,if_pos rfl] at h1
    omega
   ·obtain rfl:i=j:=by omega
    omega
  ·have h1:=closed_iff.1 t3 q hq i hi hk (by rw[hat q hq,if_neg hpq];exact hle)
   rw[e1,e2,hat p hp,if_pos rfl] at h1
   omega
def ptF (ps:List Pr) (p i:Nat):List Int:=closeF ps (stC ps.length p ((i:Int)+1))
section
variable {ps:List Pr} (hv:validF ps=true) {p:Nat} (hp:p<ps.length) {i:Nat} (hi:i<ps[p].evs.length)
include hv hp hi
theorem pt_is:isF ps (ptF ps p i)=true:=by
 obtain⟨a1,a2⟩:=stC_ok (k:=(i:Int)+1) hp (by omega) (by omega)
 obtain⟨b1,b2,_⟩:=closeF_ok hv a1 a2
 exact isF_iff.2 ⟨b1,b2,closeF_closed hv a1 a2⟩
theorem pt_has:(i:Int)+1≤cAt (ptF ps p i) p:=by
 obtain⟨a1,a2⟩:=stC_ok (k:=(i:Int)+1) hp (by omega) (by omega)
 have:=closeF_ge hv a1 a2 p hp
 rw[stC_cAt hp,if_pos rfl] at this
 exact this
end
theorem pt_least {ps:List Pr} (hv:validF ps=true) {p:Nat} (hp:p<ps.length) {i:Nat} {d:List Int} (hd:isF ps d=true) (h:(i:Int)+1≤cAt d p):∀q,q<ps.length→cAt (ptF ps p i) q≤cAt d q:=by
 obtain⟨d1,d2,d3⟩:=isF_iff.1 hd
 have:=need_le hv d1 d2 d3 (q:=p) (k:=i+1) hp (by omega)
 have e:(((i+1:Nat):Nat):Int)=(i:Int)+1:=by omega
 rw[e] at this
 exact this
theorem tak_at {c:List Int} {p q:Nat} (hq:q<c.length):cAt (takC c p) q=if p=q then cAt c p - 1 else cAt c q:=by
 unfold takC;rw[setc_cAt hq]
theorem rem_is {ps:List Pr} {c:List Int} {p:Nat} (h:remB ps c p=true):0<cAt c p∧isF ps (takC c p)=true:=by
 unfold remB at h
 rw[Bool.and_eq_true,decide_eq_true_eq] at h
 exact h
theorem rem_pt {ps:List Pr} (hv:validF ps=true) {p:Nat} (hp:p<ps.length) {i:Nat} (hi:i<ps[p].evs.length) {q:Nat} (hq:q<ps.length) (h:remB ps (ptF ps p i) q=true):q=p∧cAt (ptF ps p i) p=(i:Int)+1:=by
 obtain⟨h0,ht⟩:=rem_is h
 have hl:=(isF_iff.1 (pt_is hv hp hi)).1
 have hh:=pt_has hv hp hi
 by_cases hx:(i:Int)+1≤cAt (takC (ptF ps p i) q) p
 ·have:=pt_least hv hp ht hx q hq
  rw[tak_at (by omega),if_pos rfl] at this
  omega
 ·rw[tak_at (by omega)] at hx
  split at hx
  ·rename_i e;subst e;exact⟨rfl,by omega⟩
  ·omega
theorem filt_one {f:Nat→Bool} : ∀ {n:Nat},((List.range n).filter f).length=1↔∃p,p<n∧f p=true∧∀q,q<n→f q=true→q=p
 | 0=>by simp
 | n+1=>by
  have ih:=filt_one (f:=f) (n:=n)
  rw[List.range_succ,List.filter_append,List.length_append]
  cases h:f n with
  | false =>
   simp only[List.filter_cons_of_neg (by rw[h];decide:¬f n=true),List.filter_nil,List.length_nil,Nat.add_zero]
   rw[ih]
   constructor
   ·rintro⟨p,h1,h2,h3⟩
    exact⟨p,by omega,h2,fun q hq hf=>h3 q (by
     by_cases e:q=n
     ·subst e;rw[h] at hf;cases hf
     ·omega) hf⟩
   ·rintro⟨p,h1,h2,h3⟩
    refine⟨p,?_,h2,fun q hq=>h3 q (by omega)⟩
    by_cases e:p=n
    ·subst e;rw[h] at h2;cases h2
    ·omega
  | true =>
   simp only[List.filter_cons_of_pos h,List.filter_nil,List.length_cons,List.length_nil]
   constructor
   ·intro h1
    have h0:(List.range n).filter f=[]:=List.eq_nil_of_length_eq_zero (by omega)
    rw[List.filter_eq_nil_iff] at h0
    refine⟨n,by omega,h,fun q hq hf => ?_⟩
    by_cases e:q=n
    ·exact e
    ·exact absurd hf (h0 q (List.mem_range.2 (by omega)))
   ·rintro⟨p,h1,h2,h3⟩
    have e:n=p:=h3 n (by omega) h
    have h0:(List.range n).filter f=[]:=List.filter_eq_nil_iff.2 fun q hq hf=>by
     have:=h3 q (by have:=List.mem_range.1 hq;omega) hf
     have:=List.mem_range.1 hq
     omega
    rw[h0];rfl
theorem irr_iff {ps:List Pr} {c:List Int} : irrF ps c=true↔∃p,p<c.length∧remB ps c p=true∧∀q,q<c.length→remB ps c q=true→q=p:=by
 unfold irrF remN
 rw[decide_eq_true_eq]
 exact filt_one
theorem irr_pt {ps:List Pr} (hv:validF ps=true) {p:Nat} (hp:p<ps.length) {i:Nat} (hi:i<ps[p].evs.length):irrF ps (ptF ps p i)=true∧cAt (ptF ps p i) p=(i:Int)+1∧remB ps (ptF ps p i) p=true:=by
 have his:=pt_is hv hp hi
 obtain⟨hl,hr,hcl⟩:=isF_iff.1 his
 have hh:=pt_has hv hp hi
 obtain⟨q,hq,h0,r1,r2⟩:=cut_remove hv hl hr hcl ⟨p,hp,by omega⟩
 have hrm:remB ps (ptF ps p i) q=true:=by
  unfold remB
  rw[decide_eq_true h0,Bool.true_and]
  exact isF_iff.2 ⟨by unfold takC;rw[List.length_set];exact hl,r1,r2⟩
 obtain⟨rfl,he⟩:=rem_pt hv hp hi hq hrm
 exact⟨irr_iff.2 ⟨q,by omega,hrm,fun r hr hrr=>(rem_pt hv hp hi (by omega) hrr).1⟩,he,hrm⟩
end Go.AL
end
