/- Texts of this claim's proof: WZ2, WY22, WZ3, WZ4, AlWrp, AlWrn, WSg, WNe, WOa, WY1, WQa, WQb, WY2, WY7. No condition. -/
import Derived.Test.YtjblppbkhgihoaaGreatDoorM9
import Derived.Test.YtjblppbkhgihoaaGreatDoorM8
import Derived.Test.YtjblppbkhgihoaaGreatDoorM6
import Derived.Test.YtjblppbkhgihoaaGreatDoorM7
section
namespace Go.AL
open Go Go.RowKit
set_option maxRecDepth 4000
def st1 (m x:Nat):Nat:=((x / 2) &&& m)+(x &&& m)
def st2 (m x:Nat):Nat:=((x / 4) &&& m)+(x &&& m)
def st3 (m x:Nat):Nat:=(x / 16+x) &&& m
def mskN (c:Nat):Nat→Nat
 | 0=>0
 | k+1=>256 * mskN c k+c
theorem mskN_succ (c k:Nat):mskN c (k+1)=256 * mskN c k+c:=rfl
theorem and_byt {x d m c:Nat} (hd:d<256) (hc:c<256):(256 * x+d) &&& (256 * m+c)=256 * (x &&& m)+(d &&& c):=by
 have hdc:d &&& c<2 ^ 8:=Nat.lt_of_le_of_lt Nat.and_le_left hd
 refine Nat.eq_of_testBit_eq fun i => ?_
 rw[Nat.testBit_and,show (256:Nat)=2 ^ 8 from rfl,Nat.testBit_two_pow_mul_add _ hd,Nat.testBit_two_pow_mul_add _ hc,Nat.testBit_two_pow_mul_add _ hdc]
 split <;> rw[Nat.testBit_and]
theorem b55:∀e:Fin 128,∀t:Fin 2,(128 * t.val+e.val) &&& 85=e.val &&& 85:=by decide +kernel
theorem b33:∀e:Fin 64,∀t:Fin 4,(64 * t.val+e.val) &&& 51=e.val &&& 51:=by decide +kernel
theorem st1_byt {x d m:Nat} (hd:d<256):st1 (256 * m+85) (256 * x+d)=256 * st1 m x+st1 85 d:=by
 have h2:(256 * x+d) / 2=256 * (x / 2)+(128 * (x % 2)+d / 2):=by omega
 have h3:=b55 ⟨d / 2,by omega⟩ ⟨x % 2,by omega⟩
 simp only at h3
 unfold st1
 rw[h2,and_byt (by omega) (by decide),and_byt hd (by decide),h3]
 omega
theorem st2_byt {x d m:Nat} (hd:d<256):st2 (256 * m+51) (256 * x+d)=256 * st2 m x+st2 51 d:=by
 have h2:(256 * x+d) / 4=256 * (x / 4)+(64 * (x % 4)+d / 4):=by omega
 have h3:=b33 ⟨d / 4,by omega⟩ ⟨x % 4,by omega⟩
 simp only at h3
 unfold st2
 rw[h2,and_byt (by omega) (by decide),and_byt hd (by decide),h3]
 omega
theorem st1_lt:∀d:Fin 256,st1 85 d.val<256:=by decide +kernel
theorem st21_lt:∀d:Fin 256,st2 51 (st1 85 d.val)≤68∧st2 51 (st1 85 d.val) % 16≤4:=by decide +kernel
theorem st321:∀d:Fin 256,st3 15 (st2 51 (st1 85 d.val))=bytN d.val:=by decide +kernel
theorem byt_le (d:Nat):bytN d≤8:=cntB_le _ _
theorem st3_byt {x d m:Nat} (hd:d≤68) (hx:x % 16≤4):st3 (256 * m+15) (256 * x+d)=256 * st3 m x+st3 15 d:=by
 have h2:(256 * x+d) / 16+(256 * x+d)=256 * (x / 16+x)+(16 * (x % 16)+d / 16+d):=by omega
 have e1:∀y,y &&& 15=y % 16:=fun y=>Nat.and_two_pow_sub_one_eq_mod y 4
 unfold st3
 rw[h2,and_byt (by omega) (by decide),e1,e1]
 omega
theorem st_nib:∀k x,st2 (mskN 51 k) (st1 (mskN 85 k) x) % 16≤4
 | 0,x=>by
  unfold st2 mskN
  rw[Nat.and_zero,Nat.and_zero];decide
 | k+1,x=>by
  have h:x=256 * (x / 256)+x % 256:=by omega
  have h1:=st1_lt ⟨x % 256,Nat.mod_lt _ (by decide)⟩
  have h2:=(st21_lt ⟨x % 256,Nat.mod_lt _ (by decide)⟩).2
  simp only at h1 h2
  rw[h,mskN_succ,mskN_succ,st1_byt (Nat.mod_lt _ (by decide)),st2_byt h1]
  omega
def stA (k x:Nat):Nat:=st3 (mskN 15 k) (st2 (mskN 51 k) (st1 (mskN 85 k) x))
theorem stA_succ (k x:Nat):stA (k+1) x=256 * stA k (x / 256)+bytN (x % 256):=by
 have h:x=256 * (x / 256)+x % 256:=by omega
 have h1:=st1_lt ⟨x % 256,Nat.mod_lt _ (by decide)⟩
 have h2:=(st21_lt ⟨x % 256,Nat.mod_lt _ (by decide)⟩).1
 have h3:=st321 ⟨x % 256,Nat.mod_lt _ (by decide)⟩
 simp only at h1 h2 h3
 have h4:=st_nib k (x / 256)
 unfold stA
 conv=>lhs;rw[h]
 rw[mskN_succ,mskN_succ,mskN_succ,st1_byt (Nat.mod_lt _ (by decide)),st2_byt h1,st3_byt h2 h4,h3]
theorem stA_zero (x:Nat):stA 0 x=0:=by
 unfold stA st3 mskN
 rw[Nat.and_zero]
theorem pop_byt:∀k x,cntB (fun b=>x.testBit b) (8 * (k+1))=bytN (x % 256)+cntB (fun b=>(x / 256).testBit b) (8 * k):=fun k x=>by
 rw[show 8 * (k+1)=8+8 * k by omega,cntB_add]
 congr 1
 ·refine cntB_congr fun i hi => ?_
  rw[show (256:Nat)=2 ^ 8 from rfl,Nat.testBit_mod_two_pow,decide_eq_true hi,Bool.true_and]
 ·refine cntB_congr fun i _ => ?_
  rw[show (256:Nat)=2 ^ 8 from rfl,Nat.testBit_div_two_pow,Nat.add_comm]
def finN (y:Nat):Nat :=
 let y1:=y+y / 256
 let y2:=y1+y1 / 65536
 (y2+y2 / 4294967296) % 128
theorem fin_dig {D0 D1 D2 D3:Nat} (h0:D0≤10000) (h1:D1≤10000) (h2:D2≤10000) (h3:D3≤10000) {y:Nat} (hy:y+y / 256=D0+65536 * (D1+65536 * (D2+65536 * D3))):finN y=(D0+D1+D2+D3) % 128:=by
 unfold finN
 simp only
 rw[hy]
 have e1:(D0+65536 * (D1+65536 * (D2+65536 * D3))) / 65536=D1+65536 * (D2+65536 * D3):=by
  generalize D1+65536 * (D2+65536 * D3)=A
  omega
 rw[e1]
 have e2:D0+65536 * (D1+65536 * (D2+65536 * D3))+(D1+65536 * (D2+65536 * D3))=(D0+D1+65536 * (D1+D2))+4294967296 * ((D2+D3)+65536 * D3):=by omega
 rw[e2]
 have e3:((D0+D1+65536 * (D1+D2))+4294967296 * ((D2+D3)+65536 * D3)) / 4294967296=(D2+D3)+65536 * D3:=by
  generalize (D2+D3)+65536 * D3=A
  omega
 rw[e3]
 omega
theorem fin_sum {c0 c1 c2 c3 c4 c5 c6 c7:Nat} (h0:c0≤8) (h1:c1≤8) (h2:c2≤8) (h3:c3≤8) (h4:c4≤8) (h5:c5≤8) (h6:c6≤8) (h7:c7≤8) :
  finN (256 * (256 * (256 * (256 * (256 * (256 * (256 * c7+c6)+c5)+c4)+c3)+c2)+c1)+c0)=c0+(c1+(c2+(c3+(c4+(c5+(c6+c7)))))):=by
 have e1:(256 * (256 * (256 * (256 * (256 * (256 * (256 * c7+c6)+c5)+c4)+c3)+c2)+c1)+c0) / 256=256 * (256 * (256 * (256 * (256 * (256 * c7+c6)+c5)+c4)+c3)+c2)+c1:=by
  generalize 256 * (256 * (256 * (256 * (256 * (256 * c7+c6)+c5)+c4)+c3)+c2)+c1=A
  omega
 rw[fin_dig (D0:=c0+c1+256 * (c1+c2)) (D1:=c2+c3+256 * (c3+c4)) (D2:=c4+c5+256 * (c5+c6)) (D3:=c6+c7+256 * c7) (by omega) (by omega) (by omega) (by omega) (by rw[e1];omega)]
 omega
theorem stA_8 (x:Nat):finN (stA 8 x)=popN x:=by
 have hb:=byt_le
 unfold popN
 rw[show (64:Nat)=8 * (7+1) from rfl,pop_byt,pop_byt 6,pop_byt 5,pop_byt 4,pop_byt 3,pop_byt 2,pop_byt 1,pop_byt 0]
 rw[stA_succ,stA_succ,stA_succ,stA_succ,stA_succ,stA_succ,stA_succ,stA_succ,stA_zero]
 have h:=fin_sum (hb (x % 256)) (hb (x / 256 % 256)) (hb (x / 256 / 256 % 256)) (hb (x / 256 / 256 / 256 % 256)) (hb (x / 256 / 256 / 256 / 256 % 256)) (hb (x / 256 / 256 / 256 / 256 / 256 % 256)) (hb (x / 256 / 256 / 256 / 256 / 256 / 256 % 256)) (hb (x / 256 / 256 / 256 / 256 / 256 / 256 / 256 % 256))
 rw[show 256 * 0+bytN (x / 256 / 256 / 256 / 256 / 256 / 256 / 256 % 256)=bytN (x / 256 / 256 / 256 / 256 / 256 / 256 / 256 % 256) by omega,h]
 show _=_+(_+(_+(_+(_+(_+(_+(_+cntB _ 0)))))))
 have:∀f,cntB f 0=0:=fun f=>rfl
 rw[this];omega
theorem msk8:mskN 85 8=6148914691236517205∧mskN 51 8=3689348814741910323∧mskN 15 8=1085102592571150095:=by decide +kernel
theorem low_split {x k:Nat} (hx:x<2 ^ 64) (hk:x.testBit k=true) (hl:∀i,i<k→x.testBit i=false):k<64∧∃m,x=2 ^ (k+1) * m+2 ^ k∧m<2 ^ (63 - k):=by
 have hk64:k<64:=by
  apply Classical.byContradiction
  intro h
  have hp:2 ^ 64≤2 ^ k:=Nat.pow_le_pow_right (by decide) (by omega)
  rw[Nat.testBit_lt_two_pow (by omega)] at hk
  cases hk
 have hmod:x % 2 ^ (k+1)=2 ^ k:=by
  refine Nat.eq_of_testBit_eq fun i => ?_
  rw[Nat.testBit_mod_two_pow,Nat.testBit_two_pow]
  by_cases h:i<k
  ·rw[hl i h,Bool.and_false,decide_eq_false (by omega)]
  ·by_cases e:k=i
   ·subst e;rw[hk,decide_eq_true (by omega),decide_eq_true rfl];rfl
   ·rw[decide_eq_false (by omega),Bool.false_and,decide_eq_false e]
 have hdm:=Nat.div_add_mod x (2 ^ (k+1))
 rw[hmod] at hdm
 refine⟨hk64,x / 2 ^ (k+1),hdm.symm,?_⟩
 refine Nat.div_lt_of_lt_mul ?_
 rw[← Nat.pow_add,show k+1+(63 - k)=64 by omega]
 exact hx
theorem low_neg {x k:Nat} (hx:x<2 ^ 64) (hk:x.testBit k=true) (hl:∀i,i<k→x.testBit i=false):x &&& (2 ^ 64 - x)=2 ^ k:=by
 obtain⟨hk64,m,rfl,hm⟩:=low_split hx hk hl
 have hp:2 ^ (k+1) * 2 ^ (63 - k)=2 ^ 64:=by rw[← Nat.pow_add,show k+1+(63 - k)=64 by omega]
 have hk1:2 ^ (k+1)=2 * 2 ^ k:=by rw[Nat.pow_succ];omega
 have hkl:2 ^ k<2 ^ (k+1):=by have:=Nat.two_pow_pos k;omega
 have hneg:2 ^ 64 - (2 ^ (k+1) * m+2 ^ k)=2 ^ (k+1) * (2 ^ (63 - k) - (m+1))+2 ^ k:=by
  rw[Nat.mul_sub,hp,Nat.mul_succ]
  have:2 ^ (k+1) * m+2 ^ (k+1)≤2 ^ 64:=by
   rw[← hp,← Nat.mul_succ]
   exact Nat.mul_le_mul_left _ hm
  omega
 rw[hneg]
 refine Nat.eq_of_testBit_eq fun i => ?_
 rw[Nat.testBit_and,Nat.testBit_two_pow_mul_add _ hkl,Nat.testBit_two_pow_mul_add _ hkl]
 by_cases h:i<k+1
 ·rw[if_pos h,if_pos h,Bool.and_self]
 ·rw[if_neg h,if_neg h,Nat.testBit_two_pow_sub_succ hm,Nat.testBit_two_pow,decide_eq_false (show ¬k=i by omega)]
  cases m.testBit (i - (k+1)) <;> simp
theorem low_off {x k:Nat} (hx:x<2 ^ 64) (hk:x.testBit k=true) (hl:∀i,i<k→x.testBit i=false):(∀i,(x &&& (x - 1)).testBit i=(x.testBit i && !decide (i=k)))∧1≤x:=by
 obtain⟨hk64,m,rfl,hm⟩:=low_split hx hk hl
 have hk1:2 ^ (k+1)=2 * 2 ^ k:=by rw[Nat.pow_succ];omega
 have hpos:=Nat.two_pow_pos k
 have hkl:2 ^ k<2 ^ (k+1):=by omega
 have hkl2:2 ^ k - 1<2 ^ (k+1):=by omega
 refine⟨fun i => ?_,by omega⟩
 rw[show 2 ^ (k+1) * m+2 ^ k - 1=2 ^ (k+1) * m+(2 ^ k - 1) by omega,Nat.testBit_and,Nat.testBit_two_pow_mul_add _ hkl,Nat.testBit_two_pow_mul_add _ hkl2]
 by_cases h:i<k+1
 ·rw[if_pos h,if_pos h,Nat.testBit_two_pow,Nat.testBit_two_pow_sub_one]
  by_cases e:i=k
  ·subst e;simp
  ·rw[decide_eq_false (show ¬k=i by omega)];simp
 ·rw[if_neg h,if_neg h,Bool.and_self,decide_eq_false (show ¬i=k by omega),Bool.not_false,Bool.and_true]
theorem bits_words (n:Nat) (hn:n≤1000000):PC Proofs.Tryz.prog 46 [ai n] (ai (nW n:Nat)):=by
 have hm:IntKind.i64.wrap (((n:Int)+64 - 1).tdiv 64)=(nW n:Nat):=by
  have:((n:Int)+64 - 1).tdiv 64=((nW n:Nat):Int):=by
   rw[show (n:Int)+64 - 1=((n+63:Nat):Int) by omega];unfold nW;rfl
  rw[this]
  exact IntWalk.i64_in _ (by unfold nW;omega)
 refine PC.enter 7 [.tmp 2] [] Proofs.Tryz.func46 rfl rfl rfl rfl rfl (by simp) (AWp.of ?_);simp only[go_sem]
 refine W1 hm ?_
 refine ret_eq ?_;simp only[go_sem]
theorem bits_inside (n:Nat) (ws:List AV) (i:Int):PC Proofs.Tryz.prog 47 [.agg [ai n,.sl 1 ws],ai i] (ab (decide (0≤i) && decide (i<n))):=by
 refine PC.enter 13 [.tmp 4] [2] Proofs.Tryz.func47 rfl rfl rfl rfl rfl (by simp) (AWp.of ?_);simp only[go_sem]
 refine Wk ?_
 refine ret_eq ?_;simp only[go_sem]
theorem filter_step {n k:Nat} {f:Nat→Bool} (hk:k<((List.range n).filter f).length) {j:Nat} (hjn:j≤n) (hj:(List.range j).filter f=((List.range n).filter f).take k) :
  ∃x,((List.range n).filter f)[k]?=some x∧x<n∧f x=true∧j≤x∧(∀i,j≤i→i<x→f i=false)∧(List.range (x+1)).filter f=((List.range n).filter f).take (k+1):=by
 obtain⟨d,rfl⟩:∃d,n=j+d:=⟨n - j,by omega⟩
 have hadd:∀m,(List.range (j+m)).filter f=(List.range j).filter f ++ ((List.range m).map (j + ·)).filter f:=fun m=>by rw[List.range_add,List.filter_append]
 have hA:((List.range j).filter f).length=k:=by rw[hj,List.length_take];omega
 have hno:∀m,(∀i,i<m→f (j+i)=false)→((List.range m).map (j + ·)).filter f=[]:=fun m h=>by
  rw[List.filter_eq_nil_iff]
  intro a ha
  obtain⟨i,hi,rfl⟩:=List.mem_map.1 ha
  rw[h i (List.mem_range.1 hi)];decide
 have hex:∃i,i<d∧f (j+i)=true:=by
  apply Classical.byContradiction
  intro h
  have h2:=hno d fun i hi=>by
   cases hf:f (j+i) with
   | false=>rfl
   | true=>exact absurd ⟨i,hi,hf⟩ h
  rw[hadd,h2,List.append_nil,hA] at hk
  omega
 obtain⟨i,⟨hi,hfi⟩,hmin⟩:=least hex
 have hlow:∀i',i'<i→f (j+i')=false:=fun i' h=>by
  cases hf:f (j+i') with
  | false=>rfl
  | true=>have:=hmin i' ⟨by omega,hf⟩;omega
 have hone:((List.range (i+1)).map (j + ·)).filter f=[j+i]:=by
  rw[List.range_succ,List.map_append,List.filter_append,hno i hlow,List.nil_append]
  show List.filter f [j+i]=[j+i]
  rw[List.filter_cons_of_pos hfi];rfl
 have hd:∃B,((List.range d).map (j + ·)).filter f=(j+i) :: B:=by
  obtain⟨e,rfl⟩:∃e,d=(i+1)+e:=⟨d - (i+1),by omega⟩
  rw[List.range_add,List.map_append,List.filter_append,hone]
  exact⟨_,rfl⟩
 obtain⟨B,hB⟩:=hd
 refine⟨j+i,?_,by omega,hfi,by omega,fun i' h1 h2 => ?_,?_⟩
 ·rw[hadd,hB,List.getElem?_append_right (by omega),hA,Nat.sub_self];rfl
 ·have:=hlow (i' - j) (by omega)
  rwa [show j+(i' - j)=i' by omega] at this
 ·rw[show j+i+1=j+(i+1) by omega,hadd,hone,hadd d,hB,List.take_append,hA,List.take_of_length_le (by omega),show k+1 - k=1 by omega];rfl
theorem words_skip {f:Nat→Bool} {n j:Nat} : ∀ {x:Nat},j≤x→(∀i,j≤i→i<x→f i=false)→wordsF f n x=wordsF f n j
 | 0,h,_=>by have:j=0:=by omega
             subst this;rfl
 | x+1,h,hf=>by
  by_cases e:j=x+1
  ·subst e;rfl
  ·rw[words_no (hf x (by omega) (by omega))]
   exact words_skip (by omega) fun i h1 h2=>hf i h1 (by omega)
set_option maxHeartbeats 1000000 in
theorem bits_Of (n:Nat) (hn:n≤512) (f:Nat→Bool):PC Proofs.Tryz.prog 28 [ai n,.sl 1 (((List.range n).filter f).map fun j:Nat=>ai j)] (.tup [aBits n (wordsF f n n),ai 0]):=by
 have hwn:=bits_words n (by omega)
 have hnW:nW n≤1000000:=by unfold nW;omega
 have hlm:(((List.range n).filter f).map fun j:Nat=>ai (j:Int)).length=((List.range n).filter f).length:=List.length_map _
 have hll:((List.range n).filter f).length≤n:=Nat.le_trans (List.length_filter_le _ _) (by simp)
 have hn1:¬(512:Int)<n:=by omega
 have hn0:¬(n:Int)<0:=by omega
 refine PC.enter 45 [.cell 4 75,.tmp 5] [6] Proofs.Tryz.func28 rfl rfl rfl rfl rfl (by simp) (AWp.of ?_);simp only[go_sem]
 intro b4
 refine W2 hn0 hn1 ?_
 refine Sd ?_
 refine(hwn).val.use ?_;simp only[go_sem]
 refine Wk ?_
 intro bw gw
 refine Wk ?_
 intro b6 g1 g2
 refine W1 hlm ?_
 have hwz:=words_zero f n
 have hrep:List.replicate (nW n) (AV.v (Value.int IntKind.u64 0))=(wordsF f n 0).map fun w:Nat=>au64 (w:Int):=by rw[hwz,List.map_replicate];rfl
 rw[hrep]
 refine AWp.range' ((List.range n).filter f).length [] [4,6,21,22] (fun k vs L=>vs=[]∧∃j,j≤n∧(List.range j).filter f=((List.range n).filter f).take k∧L=[(bw,.row 106 1 ((wordsF f n j).map fun w:Nat=>au64 (w:Int)) (nW n)),(b4,.row 75 2 [.agg [ai 0,anil]] 1)]) (by omega) rfl rfl rfl ⟨rfl,0,Nat.zero_le _,by rw[List.take_zero];rfl,rfl⟩ ?_ ?_
 ·rintro k vs L hk - ⟨rfl,j,hjn,hj,rfl⟩
  obtain⟨x,hx,hxn,hfx,hjx,hno,hnext⟩:=filter_step hk hjn hj
  have hgx:(((List.range n).filter f).map fun j:Nat=>ai (j:Int)).getD k .any=ai (x:Nat):=by rw[List.getD_eq_getElem?_getD,List.getElem?_map,hx];rfl
  have hws0:=words_skip (f:=f) (n:=n) hjx hno
  rw[← hws0]
  have hws:=words_set (f:=f) (n:=n) (j:=x) hfx
  have hq:=quo64 x (by omega)
  have hr6:=rem64 x
  have hjm:x / 64<nW n:=by unfold nW;omega
  have hwl:=word_lt (f:=f) (j:=x)
  have hgw:((wordsF f n x).map fun w:Nat=>au64 (w:Int)).getD (x / 64) .any=au64 (wordOf f (x / 64) x):=by
   rw[List.getD_eq_getElem?_getD,List.getElem?_map,words_get hjm];rfl
  have hcv:IntKind.u64.wrap ((x % 64:Nat):Int)=((x % 64:Nat):Int):=wrap_u64n (Nat.lt_of_lt_of_le (Nat.mod_lt x (by decide)) (by decide))
  have hsh:=shl_bit (b:=x % 64) (Nat.mod_lt x (by decide))
  have had:=or_bit hwl (Nat.mod_lt x (by decide))
  have hlen:((wordsF f n x).map fun w:Nat=>au64 (w:Int)).length=nW n:=by rw[List.length_map,words_len]
  have hset:((wordsF f n x).map fun w:Nat=>au64 (w:Int)).set (x / 64) (au64 ((wordOf f (x / 64) x+2 ^ (x % 64):Nat):Int))=(wordsF f n (x+1)).map fun w:Nat=>au64 (w:Int):=by rw[hws,List.map_set]
  have hin:=bits_inside n ((wordsF f n x).map fun w:Nat=>au64 (w:Int)) (x:Nat)
  have hinb:(decide ((0:Int)≤(x:Nat)) && decide (((x:Nat):Int)<n))=true:=by simp;omega
  rw[hinb] at hin
  generalize ((wordsF f n x).map fun w:Nat=>au64 (w:Int))=ys at *
  generalize hd:x / 64=jd at *
  generalize hmd:x % 64=jm at *
  have hvw:Vws [(bw,.row 106 1 ys (nW n)),(b4,.row 75 2 [.agg [ai 0,anil]] 1)] [.agg [ai n,.ls bw 1 0 (nW n) (nW n)],ai x] [.agg [ai n,.sl 1 ys],ai x]:=Vws.cons (.mkAgg (Vws.cons (.refl _) (Vws.cons (Vw.ofLs (t:=106) (cap:=nW n) (if_pos rfl) hlen.symm) .nil))) (Vws.refl _)
  simp only[go_sem]
  refine W1 hgx ?_
  refine(PC.view hvw hin (Own.v _) ?_).val
  simp only[go_sem]
  refine W1 hgx ?_
  repeat(first|(with_reducible refine AWp.seq ?_)|(with_reducible refine AWp.block ?_))
  refine AWp.mix mixed [0,1,2,3,4,6,7,8] (.step 5 (.step 9 (.step 10 (.step 11 .done .done) .done) .done) .done) (by kernel_rfl) ?_;simp only[go_sem,hq,hr6,hgw,hcv,hsh,had,hlen]
  refine Sd ?_
  refine W1 hgw ?_
  exact⟨_,List.Sublist.refl _,x+1,by omega,hnext,by rw[← hset]⟩
 ·rintro vs L - ⟨rfl,j,hjn,hj,rfl⟩
  rw[List.take_length] at hj
  have hws:wordsF f n n=wordsF f n j:=words_skip hjn fun i h1 h2=>by
   cases hf:f i with
   | false=>rfl
   | true =>
    have hm:i ∈ (List.range n).filter f:=List.mem_filter.2 ⟨List.mem_range.2 h2,hf⟩
    rw[← hj] at hm
    have:=List.mem_range.1 (List.mem_filter.1 hm).1
    omega
  rw[hws]
  have hwl:((wordsF f n j).map fun w:Nat=>au64 (w:Int)).length=nW n:=by rw[List.length_map,words_len]
  have hb:aBits n (wordsF f n j) = .agg [ai n,.sl 1 ((wordsF f n j).map fun w:Nat=>au64 (w:Int))]:=rfl
  rw[hb]
  generalize ((wordsF f n j).map fun w:Nat=>au64 (w:Int))=ys at *
  have n1:¬b4=bw:=by omega
  have n2:¬bw=b4:=by omega
  simp only[go_sem]
  refine W2 n1 n2 ?_
  refine ret_view [true,true] ?_;simp only[go_sem]
  simp only[go_sem,n1]
  exact .mkTup (Vws.cons (.mkAgg (Vws.cons (.refl _) (Vws.cons (Vw.ofLs (t:=106) (cap:=nW n) (if_pos rfl) hwl.symm) .nil))) (Vws.refl _))
theorem st1_big {x:Nat} (hx:x<2 ^ 64):st1 6148914691236517205 x<2 ^ 64:=by
 have h1:x / 2 &&& 6148914691236517205≤6148914691236517205:=Nat.and_le_right
 have h2:x &&& 6148914691236517205≤6148914691236517205:=Nat.and_le_right
 unfold st1
 omega
theorem st2_big (x:Nat):st2 3689348814741910323 x≤7378697629483820646:=by
 have h1:x / 4 &&& 3689348814741910323≤3689348814741910323:=Nat.and_le_right
 have h2:x &&& 3689348814741910323≤3689348814741910323:=Nat.and_le_right
 unfold st2
 omega
theorem st3_big (x:Nat):st3 1085102592571150095 x≤1085102592571150095:=Nat.and_le_right
theorem pop_ops {x:Nat} (hx:x<2 ^ 64):∃a1 a2 a3 b1 a4 a5 a6 b2 a7 a8 b3 a9 b4 a10 b5 a11 b6 b7:Int,
  shrK .u64 (x:Nat) 1=a1∧andK .u64 a1 6148914691236517205=a2∧andK .u64 (x:Nat) 6148914691236517205=a3∧IntKind.u64.wrap (a2+a3)=b1 ∧
  shrK .u64 b1 2=a4∧andK .u64 a4 3689348814741910323=a5∧andK .u64 b1 3689348814741910323=a6∧IntKind.u64.wrap (a5+a6)=b2 ∧
  shrK .u64 b2 4=a7∧IntKind.u64.wrap (a7+b2)=a8∧andK .u64 a8 1085102592571150095=b3 ∧
  shrK .u64 b3 8=a9∧IntKind.u64.wrap (b3+a9)=b4∧shrK .u64 b4 16=a10∧IntKind.u64.wrap (b4+a10)=b5∧shrK .u64 b5 32=a11∧IntKind.u64.wrap (b5+a11)=b6 ∧
  IntKind.i64.wrap b6=b7∧andK .i64 b7 127=(popN x:Nat):=by
 obtain⟨m1,m2,m3⟩:=msk8
 have hb1:=st1_big hx
 have hb2:=st2_big (st1 6148914691236517205 x)
 have hb3:=st3_big (st2 3689348814741910323 (st1 6148914691236517205 x))
 have hp:=stA_8 x
 unfold stA at hp
 rw[m1,m2,m3] at hp
 have and_n:∀ {a b:Nat},a<2 ^ 64→b<2 ^ 64→andK .u64 (a:Nat) (b:Nat)=((a &&& b:Nat):Int):=fun h g=>and_nat h g
 have hx2:x / 2<2 ^ 64:=by omega
 have e1:shrK .u64 (x:Nat) 1=((x / 2:Nat):Int):=shr_nat (b:=1) (by decide)
 have e2:andK .u64 ((x / 2:Nat):Int) 6148914691236517205=((x / 2 &&& 6148914691236517205:Nat):Int):=and_n hx2 (by decide)
 have e3:andK .u64 (x:Nat) 6148914691236517205=((x &&& 6148914691236517205:Nat):Int):=and_n hx (by decide)
 have e4:IntKind.u64.wrap (((x / 2 &&& 6148914691236517205:Nat):Int)+((x &&& 6148914691236517205:Nat):Int))=((st1 6148914691236517205 x:Nat):Int):=by rw[← Int.natCast_add];exact wrap_u64n hb1
 generalize st1 6148914691236517205 x=y1 at *
 have f1:shrK .u64 (y1:Nat) 2=((y1 / 4:Nat):Int):=shr_nat (b:=2) (by decide)
 have f2:andK .u64 ((y1 / 4:Nat):Int) 3689348814741910323=((y1 / 4 &&& 3689348814741910323:Nat):Int):=and_n (by omega) (by decide)
 have f3:andK .u64 (y1:Nat) 3689348814741910323=((y1 &&& 3689348814741910323:Nat):Int):=and_n hb1 (by decide)
 have f4:IntKind.u64.wrap (((y1 / 4 &&& 3689348814741910323:Nat):Int)+((y1 &&& 3689348814741910323:Nat):Int))=((st2 3689348814741910323 y1:Nat):Int):=by rw[← Int.natCast_add];exact wrap_u64n (by unfold st2 at hb2;omega)
 generalize st2 3689348814741910323 y1=y2 at *
 have g1:shrK .u64 (y2:Nat) 4=((y2 / 16:Nat):Int):=shr_nat (b:=4) (by decide)
 have g2:IntKind.u64.wrap (((y2 / 16:Nat):Int)+((y2:Nat):Int))=((y2 / 16+y2:Nat):Int):=by rw[← Int.natCast_add];exact wrap_u64n (by omega)
 have g3:andK .u64 ((y2 / 16+y2:Nat):Int) 1085102592571150095=((st3 1085102592571150095 y2:Nat):Int):=and_n (by omega) (by decide)
 generalize st3 1085102592571150095 y2=y3 at *
 have i1:shrK .u64 (y3:Nat) 8=((y3 / 256:Nat):Int):=shr_nat (b:=8) (by decide)
 have i2:IntKind.u64.wrap (((y3:Nat):Int)+((y3 / 256:Nat):Int))=((y3+y3 / 256:Nat):Int):=by rw[← Int.natCast_add];exact wrap_u64n (by omega)
 unfold finN at hp
 simp only at hp
 have hy4:y3+y3 / 256≤1089341274888928025:=by omega
 generalize y3+y3 / 256=y4 at *
 have j1:shrK .u64 (y4:Nat) 16=((y4 / 65536:Nat):Int):=shr_nat (b:=16) (by decide)
 have j2:IntKind.u64.wrap (((y4:Nat):Int)+((y4 / 65536:Nat):Int))=((y4+y4 / 65536:Nat):Int):=by rw[← Int.natCast_add];exact wrap_u64n (by omega)
 have hy5:y4+y4 / 65536≤1100000000000000000:=by omega
 generalize y4+y4 / 65536=y5 at *
 have k1:shrK .u64 (y5:Nat) 32=((y5 / 4294967296:Nat):Int):=shr_nat (b:=32) (by decide)
 have k2:IntKind.u64.wrap (((y5:Nat):Int)+((y5 / 4294967296:Nat):Int))=((y5+y5 / 4294967296:Nat):Int):=by rw[← Int.natCast_add];exact wrap_u64n (by omega)
 have k3:IntKind.i64.wrap ((y5+y5 / 4294967296:Nat):Int)=((y5+y5 / 4294967296:Nat):Int):=IntWalk.i64_in _ (by omega)
 have k4:andK .i64 ((y5+y5 / 4294967296:Nat):Int) 127=((popN x:Nat):Int):=by
  rw[← hp]
  have e:(BitVec.ofInt IntKind.i64.bits ((y5+y5 / 4294967296:Nat):Int) &&& BitVec.ofInt IntKind.i64.bits 127).toNat=(y5+y5 / 4294967296) % 128:=by
   show (BitVec.ofInt 64 ((y5+y5 / 4294967296:Nat):Int) &&& BitVec.ofInt 64 ((127:Nat):Int)).toNat=_
   rw[BitVec.toNat_and,bv_nat (by omega),bv_nat (by decide)]
   exact Nat.and_two_pow_sub_one_eq_mod _ 7
  unfold andK
  rw[e]
  exact IntWalk.i64_in _ (by omega)
 exact⟨_,_,_,_,_,_,_,_,_,_,_,_,_,_,_,_,_,_,e1,e2,e3,e4,f1,f2,f3,f4,g1,g2,g3,i1,i2,j1,j2,k1,k2,k3,k4⟩
theorem bits_OnesCount64 (x:Nat) (hx:x<2 ^ 64):PC Proofs.Tryz.prog 129 [au64 x] (ai (popN x:Nat)):=by
 obtain⟨a1,a2,a3,b1,a4,a5,a6,b2,a7,a8,b3,a9,b4,a10,b5,a11,b6,b7,h1,h2,h3,h4,h5,h6,h7,h8,h9,h10,h11,h12,h13,h14,h15,h16,h17,h18,h19⟩:=pop_ops hx
 generalize ((popN x:Nat):Int)=r at *
 generalize ((x:Nat):Int)=x0 at *
 refine PC.enter 35 [.tmp 2] [] Proofs.Tryz.func129 rfl rfl rfl rfl rfl (by simp) (AWp.of ?_);simp only[go_sem]
 repeat(first|((with_reducible refine AWp.ofC ?_ ?_);exact rfl;simp only[go_sem,h1,h2,h3,h4,h5,h6,h7,h8,h9,h10,h11,h12,h13,h14,h15,h16,h17,h18,h19])|((with_reducible refine an ?_ ?_);exact Au))
 refine ret_eq ?_;simp only[go_sem]
def aNs (n:Nat) (f:Nat→Bool):AV:=aBits n (wordsF f n n)
theorem aNs_eq (n:Nat) (f:Nat→Bool):aNs n f = .agg [ai n,.sl 1 ((wordsF f n n).map fun w:Nat=>au64 (w:Int))]:=rfl
theorem wds_len (n:Nat) (f:Nat→Bool):((wordsF f n n).map fun w:Nat=>au64 (w:Int)).length=nW n:=by rw[List.length_map,words_len]
theorem wds_get {n k:Nat} {f:Nat→Bool} (h:k<nW n):((wordsF f n n).map fun w:Nat=>au64 (w:Int)).getD k .any=au64 ((wordOf f k n:Nat):Int):=by
 rw[List.getD_eq_getElem?_getD,List.getElem?_map,words_get h];rfl
theorem bits_Valid (n:Nat) (hn:n≤512) (f:Nat→Bool):PC Proofs.Tryz.prog 95 [aNs n f] (ab true):=by
 have hwn:=bits_words n (by omega)
 have hn0:¬(n:Int)<0:=by omega
 have hn1:¬(512:Int)<n:=by omega
 have hln:=wds_len n f
 have hr:=rem64 n
 rw[aNs_eq]
 by_cases h0:n % 64=0
 ·have hr0:(n:Int).tmod 64=0:=by rw[hr,h0];rfl
  have hgx:∃a:AV,(a = .any∨∃w:Int,a=au64 w)∧((wordsF f n n).map fun w:Nat=>au64 (w:Int)).getD (((nW n:Nat):Int) - 1).toNat .any=a:=by
   by_cases hz:n=0
   ·subst hz
    exact⟨.any,.inl rfl,rfl⟩
   ·have hk:n / 64 - 1<nW n:=by unfold nW;omega
    have hi:(((nW n:Nat):Int) - 1).toNat=n / 64 - 1:=by unfold nW;omega
    exact⟨_,.inr ⟨_,rfl⟩,by rw[hi,wds_get hk]⟩
  obtain⟨a,ha,hgx⟩:=hgx
  generalize (wordsF f n n).map (fun w:Nat=>au64 (w:Int))=W at *
  rcases ha with rfl|⟨w,rfl⟩
  ·refine PC.enter 39 [.tmp 2] [1] Proofs.Tryz.func95 rfl rfl rfl rfl rfl (by simp) (AWp.of ?_);simp only[go_sem]
   refine W2 hn0 hn1 ?_
   repeat(first|(with_reducible refine AWp.seq ?_)|(with_reducible refine AWp.block ?_))
   refine AWp.mix mixed [0,1,2,3,4,5,6,7,8,9,10,11,12,13,14,15,16] .done (by kernel_rfl) ?_;simp only[go_sem,hn0,hn1]
   refine Sd ?_
   refine GCall.use (ai (nW n:Nat)) (fun _=>⟨At,(hwn).val.use ⟨rfl,rfl⟩⟩) ?_;simp only[go_sem,hn0,hn1,hln]
   refine W5 hn0 hn1 hln hr0 hgx ?_
   refine ret_eq ?_;simp only[go_sem]
  ·refine PC.enter 39 [.tmp 2] [1] Proofs.Tryz.func95 rfl rfl rfl rfl rfl (by simp) (AWp.of ?_);simp only[go_sem]
   refine W2 hn0 hn1 ?_
   repeat(first|(with_reducible refine AWp.seq ?_)|(with_reducible refine AWp.block ?_))
   refine AWp.mix mixed [0,1,2,3,4,5,6,7,8,9,10,11,12,13,14,15,16] .done (by kernel_rfl) ?_;simp only[go_sem,hn0,hn1]
   refine Sd ?_
   refine GCall.use (ai (nW n:Nat)) (fun _=>⟨At,(hwn).val.use ⟨rfl,rfl⟩⟩) ?_;simp only[go_sem,hn0,hn1,hln]
   refine W5 hn0 hn1 hln hr0 hgx ?_
   refine ret_eq ?_;simp only[go_sem]
 ·have hnw:nW n=n / 64+1:=by unfold nW;omega
  have hg:=wds_get (n:=n) (f:=f) (k:=n / 64) (by omega)
  have hlt:=word_lt (f:=f) (j:=n)
  have hsh:shrK .u64 ((wordOf f (n / 64) n:Nat):Int) ((n % 64:Nat):Int)=0:=by
   rw[shr_nat (by omega),Nat.div_eq_of_lt hlt];rfl
  have hne:¬((n % 64:Nat):Int)=0:=by omega
  have hnn:0≤((n % 64:Nat):Int):=by omega
  have hidx:(((nW n:Nat):Int) - 1).toNat=n / 64:=by omega
  have hpos:(1:Int)≤(nW n:Nat):=by omega
  have hlt2:n / 64<nW n:=by omega
  generalize (wordsF f n n).map (fun w:Nat=>au64 (w:Int))=W at *
  generalize ((wordOf f (n / 64) n:Nat):Int)=w0 at *
  generalize hrr:((n % 64:Nat):Int)=r at *
  refine PC.enter 39 [.tmp 2] [1] Proofs.Tryz.func95 rfl rfl rfl rfl rfl (by simp) (AWp.of ?_);simp only[go_sem]
  refine W2 hn0 hn1 ?_
  repeat(first|(with_reducible refine AWp.seq ?_)|(with_reducible refine AWp.block ?_))
  refine AWp.mix mixed [0,1,2,3,4,5,6,7,8,9,10,11,12,13,14,15,16] .done (by kernel_rfl) ?_;simp only[go_sem,hn0,hn1]
  refine Sd ?_
  refine GCall.use (ai (nW n:Nat)) (fun _=>⟨At,(hwn).val.use ⟨rfl,rfl⟩⟩) ?_;simp only[go_sem,hn0,hn1,hln]
  repeat(first|((with_reducible refine AWp.ofC ?_ ?_);exact rfl;simp only[go_sem,hn0,hn1,hln,hr,hne,hnn,hidx,hg,hsh])|((with_reducible refine an ?_ ?_);exact Au))
  refine ret_eq ?_;simp only[go_sem]
theorem bits_matching (n:Nat) (hn:n≤512) (f g:Nat→Bool):PC Proofs.Tryz.prog 142 [aNs n f,aNs n g] (ab true):=by
 have h1:=bits_Valid n hn f
 have h2:=bits_Valid n hn g
 rw[aNs_eq] at *
 rw[aNs_eq] at *
 generalize (wordsF f n n).map (fun w:Nat=>au64 (w:Int))=W at *
 generalize (wordsF g n n).map (fun w:Nat=>au64 (w:Int))=V at *
 refine PC.enter 18 [.tmp 4] [2,3] Proofs.Tryz.func142 rfl rfl rfl rfl rfl (by simp) (AWp.of ?_);simp only[go_sem]
 refine Wk ?_
 refine Sd ?_
 refine(h1).val.use ?_;simp only[go_sem]
 refine Sd ?_
 refine Gc h2 ?_
 refine Sd ?_
 refine Wk ?_
 refine ret_eq ?_;simp only[go_sem]
theorem bits_copied (n:Nat) (ws:List AV) (hl:ws.length≤1000000) (hw:∀w ∈ ws,∃z:Int,w=au64 z):MCalls Proofs.Tryz.prog 143 [.agg [ai n,.sl 1 ws]] [] fun r L=>∃b cap,r = .agg [ai n,.ls b 1 0 ws.length cap]∧L=[(b,.row 106 1 ws cap)]:=by
 refine MCalls.enter' 17 [.cell 2 75] [1,3] Proofs.Tryz.func143 rfl rfl rfl rfl rfl (by simp) (AWp.of ?_);simp only[go_sem]
 refine Wk ?_
 intro b2
 refine AWp.cut [1,2,3] (fun vs L=>∃b,(¬b=b2∧¬b2=b)∧L=[(b,.row 106 1 (List.replicate ws.length (au64 0)) ws.length),(b2,.row 75 2 [.agg [ai 0,anil]] 1)]∧vs=[.rp 2 [.agg [ai n,.sl 1 ws]] 0 0,.lp b2 2 0 0,.rp 2 [.agg [ai n,.ls b 1 0 ws.length ws.length]] 0 0]) ?_ ?_
 ·repeat(first|(with_reducible refine AWp.seq ?_)|(with_reducible refine AWp.block ?_))
  refine AWp.mix mixed [0,1,2,3,4] (.step 5 (.step 6 (.step 7 (.step 8 .done .done) .done) (.step 7 (.step 6 (.step 8 .done .done) .done) .done)) (.step 7 (.step 5 (.step 6 (.step 8 .done .done) .done) .done) .done)) (by kernel_rfl) ?_;simp only[go_sem]
  refine Sd ?_
  repeat' (first|(with_reducible refine And.intro ?_ ?_)|intro _)
  all_goals first|omega|exact⟨_,List.Sublist.refl _,_,⟨by omega,by omega⟩,rfl,rfl⟩|skip
  all_goals rename_i b h1 b1 h2 h3
  all_goals have n1:¬b=b1:=by omega
  all_goals simp only[go_sem,n1]
  all_goals exact⟨_,List.Sublist.refl _,_,⟨by omega,by omega⟩,rfl,rfl⟩
 ·rintro vs L - ⟨b,⟨n1,n2⟩,rfl,rfl⟩
  simp only[go_sem,n1,n2]
  refine Wk ?_
  refine⟨by rw[List.length_replicate];exact Nat.le_refl _,?_⟩
  have e1:ws.take (min ws.length ws.length)=ws:=by rw[Nat.min_self,List.take_length]
  have e2:(List.replicate ws.length (au64 0)).drop ws.length=[]:=List.drop_of_length_le (by rw[List.length_replicate];exact Nat.le_refl _)
  rw[e1,e2,List.append_nil]
  refine W2 n1 n2 ?_
  refine ret_sub [(b,.row 106 1 ws ws.length)] (.cons_cons _ (List.nil_sublist _)) ?_
  simp only[go_sem,n1,n2]
  exact⟨_,_,rfl,rfl⟩
def cmbW (f h:Nat→Bool) (n k:Nat):List AV:=(List.range (nW n)).map fun w=>if w<k then au64 ((wordOf h w n:Nat):Int) else au64 ((wordOf f w n:Nat):Int)
theorem cmb_len (f h:Nat→Bool) (n k:Nat):(cmbW f h n k).length=nW n:=by simp [cmbW]
theorem cmb_zero (f h:Nat→Bool) (n:Nat):cmbW f h n 0=(wordsF f n n).map fun w:Nat=>au64 (w:Int):=by
 unfold cmbW wordsF
 rw[List.map_map]
 exact List.map_congr_left fun w _=>by rw[if_neg (by omega)];rfl
theorem cmb_full (f h:Nat→Bool) (n:Nat):cmbW f h n (nW n)=(wordsF h n n).map fun w:Nat=>au64 (w:Int):=by
 unfold cmbW wordsF
 rw[List.map_map]
 exact List.map_congr_left fun w hw=>by rw[if_pos (List.mem_range.1 hw)];rfl
theorem cmb_get {f h:Nat→Bool} {n k:Nat} (hk:k<nW n):(cmbW f h n k).getD k .any=au64 ((wordOf f k n:Nat):Int):=by
 unfold cmbW
 rw[map_range_getD hk,if_neg (by omega)]
theorem cmb_elem {f h:Nat→Bool} {n k i:Nat} (hi:i<(cmbW f h n k).length):(cmbW f h n k)[i]=if i<k then au64 ((wordOf h i n:Nat):Int) else au64 ((wordOf f i n:Nat):Int):=by simp [cmbW]
theorem cmb_set {f h:Nat→Bool} {n k:Nat} (hk:k<nW n):(cmbW f h n k).set k (au64 ((wordOf h k n:Nat):Int))=cmbW f h n (k+1):=by
 refine List.ext_getElem (by rw[List.length_set,cmb_len,cmb_len]) fun i h1 h2 => ?_
 rw[List.getElem_set,cmb_elem,cmb_elem]
 by_cases e:k=i
 ·subst e;rw[if_pos rfl,if_pos (by omega)]
 ·rw[if_neg e]
  by_cases h:i<k
  ·rw[if_pos h,if_pos (by omega)]
  ·rw[if_neg h,if_neg (by omega)]
theorem bits_combined (n:Nat) (hn:n≤512) (f g h:Nat→Bool) (F:AV) (hF:fo F=(True,F)) (op:Nat→Nat→Nat) (hop:∀w,op (wordOf f w n) (wordOf g w n)=wordOf h w n)
  (hFo:∀x y:Nat,x<2 ^ 64→y<2 ^ 64→PV Proofs.Tryz.prog F [au64 (x:Nat),au64 (y:Nat)] (au64 (op x y:Nat))) :
  PC Proofs.Tryz.prog 127 [aNs n f,aNs n g,F] (.tup [aNs n h,ai 0]):=by
 have h1:=bits_matching n hn f g
 have h2:=bits_copied n ((wordsF f n n).map fun w:Nat=>au64 (w:Int)) (by rw[wds_len];unfold nW;omega) (fun w hw=>by obtain⟨x,_,rfl⟩:=List.mem_map.1 hw;exact⟨_,rfl⟩)
 rw[wds_len] at h2
 have hlg:=wds_len n g
 have hgg:=fun k (hk:k<nW n)=>wds_get (n:=n) (f:=g) hk
 have hnW:nW n≤1000000:=by unfold nW;omega
 have hz:=cmb_zero f h n
 rw[aNs_eq n f,aNs_eq n g] at *
 generalize hV:(wordsF g n n).map (fun w:Nat=>au64 (w:Int))=V at *
 refine PC.enter 40 [.cell 6 75,.tmp 7] [3,4,8] Proofs.Tryz.func127 rfl rfl rfl rfl rfl (by simp) (AWp.of ?_);simp only[go_sem]
 refine W1 hF ?_
 intro b6
 refine W1 hF ?_
 refine Sd ?_
 refine(h1).val.use ?_;simp only[go_sem]
 refine W1 hF ?_
 refine(MVal.frame (Lm:=[]) (Lr:=[(b6,.row 75 2 [.agg [ai 0,anil]] 1)]) h2.val).mono ?_
 rintro r L ⟨L1,rfl,b,cap,rfl,rfl⟩
 rw[← hz]
 simp only[go_sem,List.cons_append,List.nil_append]
 refine W2 hF hlg ?_
 intro b8 _ _
 refine AWp.nodup fun hnd => ?_
 have n1:¬b=b6:=by simpa using hnd
 have n2:¬b6=b:=fun e=>n1 e.symm
 refine W2 hF hlg ?_
 refine AWp.range' (nW n) [] [2,6,8,19,20] (fun k vs L=>vs=[]∧L=[(b,.row 106 1 (cmbW f h n k) cap),(b6,.row 75 2 [.agg [ai 0,anil]] 1)]) (by omega) rfl rfl rfl ⟨rfl,rfl⟩ ?_ ?_
 ·rintro k vs L hk - ⟨rfl,rfl⟩
  have hgk:=hgg k hk
  have hck:=cmb_get (f:=f) (h:=h) hk
  have hcl:=cmb_len f h n k
  have hst:=cmb_set (f:=f) (h:=h) hk
  have hfo:=hFo (wordOf f k n) (wordOf g k n) word_big word_big
  rw[hop] at hfo
  rw[← hst]
  generalize cmbW f h n k=CW at *
  simp only[go_sem]
  refine W2 hF hgk ?_
  repeat(first|(with_reducible refine AWp.seq ?_)|(with_reducible refine AWp.block ?_))
  refine AWp.mix mixed [0,1,2,3,4,5,6,7,9] (.step 8 (.step 10 (.step 11 (.step 12 .done .done) .done) .done) .done) (by kernel_rfl) ?_;simp only[go_sem,hF,hgk,hck,hcl]
  refine Sd ?_
  refine Sd ?_
  refine(hfo).use ?_;simp only[go_sem,hcl,hck]
  refine Sd ?_
  refine W2 hcl hck ?_
  exact⟨_,List.Sublist.refl _,rfl⟩
 ·rintro vs L - ⟨rfl,rfl⟩
  rw[cmb_full]
  have hlh:=wds_len n h
  rw[aNs_eq]
  generalize (wordsF h n n).map (fun w:Nat=>au64 (w:Int))=W at *
  simp only[go_sem,n1,n2]
  refine W3 n1 n2 hF ?_
  refine ret_view [true,true] ?_;simp only[go_sem]
  simp only[go_sem,n1,n2]
  exact .mkTup (Vws.cons (.mkAgg (Vws.cons (.refl _) (Vws.cons (Vw.ofLs (t:=106) (cap:=cap) (if_pos rfl) hlh.symm) .nil))) (Vws.refl _))
theorem bits_Minus1 (x y:Nat):PC Proofs.Tryz.prog 128 [au64 (x:Nat),au64 (y:Nat)] (au64 (mnsN x y:Nat)):=by
 have h:=mns_nat (x:=x) (y:=y)
 generalize ((x:Nat):Int)=a at *
 generalize ((y:Nat):Int)=b at *
 refine PC.enter 8 [.tmp 4] [] Proofs.Tryz.func128 rfl rfl rfl rfl rfl (by simp) (AWp.of ?_);simp only[go_sem]
 refine W1 h ?_
 refine ret_eq ?_;simp only[go_sem]
theorem bits_Minus (n:Nat) (hn:n≤512) (f g:Nat→Bool):PC Proofs.Tryz.prog 116 [aNs n f,aNs n g] (.tup [aNs n fun i=>f i && !g i,ai 0]):=by
 have h1:=bits_combined n hn f g (fun i=>f i && !g i) (.v (.func (.func 128) #[] #[])) rfl mnsN (fun w=>word_mns) fun x y _ _=>(bits_Minus1 x y).val
 rw[aNs_eq n f,aNs_eq n g,aNs_eq] at *
 generalize (wordsF f n n).map (fun w:Nat=>au64 (w:Int))=V at *
 generalize (wordsF g n n).map (fun w:Nat=>au64 (w:Int))=W at *
 generalize (wordsF (fun i=>f i && !g i) n n).map (fun w:Nat=>au64 (w:Int))=X at *
 refine PC.enter 11 [.cell 4 75,.tmp 5] [2,3] Proofs.Tryz.func116 rfl rfl rfl rfl rfl (by simp) (AWp.of ?_);simp only[go_sem]
 intro b4
 refine Wk ?_
 refine Sd ?_
 refine(h1).val.use ?_;simp only[go_sem]
 refine Wk ?_
 refine ret_eq ?_;simp only[go_sem]
theorem bits_Count (n:Nat) (hn:n≤512) (f:Nat→Bool):PC Proofs.Tryz.prog 117 [aNs n f] (ai (cntB f n:Nat)):=by
 have h1:=bits_Valid n hn f
 have hln:=wds_len n f
 have hg:=fun k (hk:k<nW n)=>wds_get (n:=n) (f:=f) hk
 have hnW:nW n≤1000000:=by unfold nW;omega
 have hall:((List.range (nW n)).map fun w=>popN (wordOf f w n)).sum=cntB f n:=by rw[pop_words,pop_all]
 have hp:=fun k=>bits_OnesCount64 (wordOf f k n) word_big
 have hle:∀k,((List.range k).map fun w=>popN (wordOf f w n)).sum≤64 * k:=fun k=>by rw[pop_words];exact cntB_le _ _
 rw[← hall,aNs_eq] at *
 generalize (wordsF f n n).map (fun w:Nat=>au64 (w:Int))=W at *
 refine PC.enter 22 [.tmp 2] [1] Proofs.Tryz.func117 rfl rfl rfl rfl rfl (by simp) (AWp.of ?_);simp only[go_sem]
 refine Wk ?_
 refine Sd ?_
 refine(h1).val.use ?_;simp only[go_sem]
 refine W1 hln ?_
 refine AWp.range' (nW n) [3] [10,11] (fun k vs L=>L=[]∧vs=[ai (((List.range k).map fun w=>popN (wordOf f w n)).sum:Nat)]) (by omega) rfl rfl rfl ⟨rfl,rfl⟩ ?_ ?_
 ·rintro k vs L hk - ⟨rfl,rfl⟩
  have hgk:=hg k hk
  have hpk:=hp k
  have hs:((List.range (k+1)).map fun w=>popN (wordOf f w n)).sum=((List.range k).map fun w=>popN (wordOf f w n)).sum+popN (wordOf f k n):=by
   rw[List.range_succ,List.map_append,List.sum_append,List.map_singleton,List.sum_singleton]
  have h8:=hle (k+1)
  rw[hs] at h8 ⊢
  generalize ((List.range k).map fun w=>popN (wordOf f w n)).sum=s at *
  generalize popN (wordOf f k n)=q at *
  have hsm:((s:Nat):Int)+(q:Nat)=((s+q:Nat):Int):=by omega
  generalize ((wordOf f k n:Nat):Int)=w0 at *
  simp only[go_sem]
  refine W1 hgk ?_
  refine Sd ?_
  refine(hpk).val.use ?_;simp only[go_sem]
  refine W1 hsm ?_
  refine Sd ?_
  exact⟨_,List.Sublist.refl _,rfl,rfl⟩
 ·rintro vs L - ⟨rfl,rfl⟩
  simp only[go_sem]
  refine Wk ?_
  refine ret_eq ?_;simp only[go_sem]
def subN (n:Nat) (f g:Nat→Bool):Bool:=(List.range n).all fun i => !f i || g i
theorem subN_cnt (n:Nat) (f g:Nat→Bool):decide (((cntB (fun i=>f i && !g i) n:Nat):Int)=0)=subN n f g:=by
 unfold subN
 rw[Bool.eq_iff_iff,decide_eq_true_iff,List.all_eq_true]
 constructor
 ·intro h i hi
  have:=cntB_zero.1 (show cntB (fun i=>f i && !g i) n=0 by omega) i (List.mem_range.1 hi)
  cases hf:f i <;> cases hgi:g i <;> simp_all
 ·intro h
  have:cntB (fun i=>f i && !g i) n=0:=cntB_zero.2 fun i hi=>by
   have:=h i (List.mem_range.2 hi)
   cases hf:f i <;> cases hgi:g i <;> simp_all
  omega
theorem bits_Subset (n:Nat) (hn:n≤512) (f g:Nat→Bool):PC Proofs.Tryz.prog 93 [aNs n f,aNs n g] (ab (subN n f g)):=by
 have h1:=bits_Minus n hn f g
 have h2:=bits_Count n hn fun i=>f i && !g i
 have h3:=subN_cnt n f g
 rw[aNs_eq n f,aNs_eq n g,aNs_eq] at h1
 rw[aNs_eq] at h2
 rw[aNs_eq,aNs_eq,← h3]
 generalize (wordsF f n n).map (fun w:Nat=>au64 (w:Int))=V at *
 generalize (wordsF g n n).map (fun w:Nat=>au64 (w:Int))=W at *
 generalize (wordsF (fun i=>f i && !g i) n n).map (fun w:Nat=>au64 (w:Int))=X at *
 generalize ((cntB (fun i=>f i && !g i) n:Nat):Int)=c at *
 refine PC.enter 20 [.tmp 4] [2,3,5] Proofs.Tryz.func93 rfl rfl rfl rfl rfl (by simp) (AWp.of ?_);simp only[go_sem]
 refine Wk ?_
 refine Sd ?_
 refine(h1).val.use ?_;simp only[go_sem]
 intros
 refine Wk ?_
 refine Sd ?_
 refine Gc h2 ?_
 refine Sd ?_
 refine Wk ?_
 refine ret_eq ?_;simp only[go_sem]
end Go.AL
end
section
namespace Go.AL
open Go Go.RowKit
def addW (a b:Int):Int:=IntKind.i64.wrap (a+b)
def aAddW (C:Cfg) (o:Oper) (x y:AV) (ρ:Env) (L:AHeap) (K:ARes):Prop :=
 match x,y with
 | .v (.int .i64 a),.v (.int .i64 b)=>K (put ρ o.dst (ai (addW a b))) L
 | _,_=>False
def aopW (C:Cfg) (o:Oper) (ρ:Env) (L:AHeap) (K:ARes):Prop :=
 match o.op with
 | .binOp .add _ x y _=>aAddW C o (ev ρ x) (ev ρ y) ρ L K
 | _=>aop C o ρ L K
theorem aopW_sound {C:Cfg} {o:Oper} {ρ:Env} {L:AHeap} {K:ARes} (hd:dstOk C o) (hdef:∀c,o.op ≠ .defer c) (h:aopW C o ρ L K):AOp C o ρ L K:=by
 unfold aopW at h
 split at h
 ·rename_i t x y t' hop
  unfold aAddW at h
  split at h
  ·rename_i a b hx hy
   refine AOp.val hd hdef (fun ac w A hρ hL=>⟨.int .i64 (addW a b),?_,.v _⟩) h
   have h1:=hρ x;rw[hx] at h1;have h1:=h1.inv_v
   have h2:=hρ y;rw[hy] at h2;have h2:=h2.inv_v
   unfold execOp
   rw[hop]
   simp [h1,h2,binOp,eqGuard,Op.intArith,addW]
  ·exact h.elim
 ·exact aop_sound hd hdef h
def aregionW (C:Cfg):List Oper→Env→AHeap→ARes→Prop
 | [],ρ,L,K=>K ρ L
 | o :: rest,ρ,L,K=>o.guard=none∧aopW C o ρ L fun ρ L=>aregionW C rest ρ L K
def aregWK (C:Cfg) (rest:List Oper) (K:ARes) (ρ:Env) (L:AHeap):Prop:=aregionW C rest ρ L K
theorem aregionW_nil (C:Cfg) (ρ:Env) (L:AHeap) (K:ARes):aregionW C [] ρ L K=K ρ L:=rfl
theorem aregionW_cons (C:Cfg) (rest:List Oper) (o:Oper) (ρ:Env) (L:AHeap) (K:ARes):aregionW C (o :: rest) ρ L K=(o.guard=none∧aopW C o ρ L (aregWK C rest K)):=rfl
theorem aregionW_sound {C:Cfg} {ops:Array Oper} {K:ARes} {n:Nat} {w0:World} {M A0:Foot} {Q:Exit→Act→World→Prop} (hQ:∀a w,post w0 M A0 C.N K a w→Q .normal a w) (hok:ops.toList.all (operOk C.N)=true) :
  ∀(l:List Oper) (k:Nat),(∀j,l[j]?=ops[k+j]?)→∀(ρ:Env) (L:AHeap) (a:Act) (w:World),aregionW C l ρ L K→St w0 M A0 C.N ρ L a w→wpOpsIn (Fw C.r) n C.P ops Q (List.range' k l.length) a w
 | [],k,_,ρ,L,a,w,h,hs=>hQ a w ⟨ρ,L,h,hs⟩
 | o :: l,k,hl,ρ,L,a,w,h,hs=>by
  have h0:ops[k]?=some o:=by simpa using (hl 0).symm
  have ho:operOk C.N o=true:=List.all_eq_true.1 hok o (List.mem_of_getElem? (by simpa using h0))
  rw[List.length_cons,List.range'_succ,wpOpsIn_cons]
  refine wpOpIn_mono ?_ (AOp.gop h0 h.1 (aopW_sound (operOk_dst ho) (operOk_def ho) h.2) n w0 M A0 a w Q hs)
  rintro a' w' ⟨ρ',L',h1,h2⟩
  exact aregionW_sound hQ hok l (k+1) (fun j=>by have:=hl (j+1);simpa [Nat.add_assoc,Nat.add_comm 1 j] using this) ρ' L' a' w' h1 h2
theorem AWp.regionW {C:Cfg} {id:Nat} {ops:Array Oper} {Q:AQ} {ρ:Env} {L:AHeap} (h:aregionW C ops.toList ρ L (Q .normal)):AWp C (.region id ops false) Q ρ L:=fun hok n w0 M A0 a w hs=>by
 refine wpIn_region ?_
 have:=aregionW_sound (C:=C) (ops:=ops) (K:=Q .normal) (n:=n) (Q:=cq C w0 M A0 Q) (fun a w ⟨ρ',L',h1,h2⟩=>⟨ρ',L',h1,h2⟩) hok ops.toList 0 (by simp) ρ L a w h hs
 rwa [Array.length_toList,← List.range_eq_range'] at this
attribute [go_sem] aregionW_nil aregionW_cons aregWK aopW aAddW
end Go.AL
end
section
namespace Go.AL
open Go Go.RowKit
def aNegW (C:Cfg) (o:Oper) (x:AV) (ρ:Env) (L:AHeap) (K:ARes):Prop :=
 match x with
 | .v (.int .u64 a)=>K (put ρ o.dst (.v (.int .u64 (IntKind.u64.wrap (-a))))) L
 | _=>False
def aopN (C:Cfg) (o:Oper) (ρ:Env) (L:AHeap) (K:ARes):Prop :=
 match o.op with
 | .unOp .neg _ x=>aNegW C o (ev ρ x) ρ L K
 | _=>aop C o ρ L K
theorem aopN_sound {C:Cfg} {o:Oper} {ρ:Env} {L:AHeap} {K:ARes} (hd:dstOk C o) (hdef:∀c,o.op ≠ .defer c) (h:aopN C o ρ L K):AOp C o ρ L K:=by
 unfold aopN at h
 split at h
 ·rename_i t x hop
  unfold aNegW at h
  split at h
  ·rename_i a hx
   refine AOp.val hd hdef (fun ac w A hρ hL=>⟨.int .u64 (IntKind.u64.wrap (-a)),?_,.v _⟩) h
   have h1:=hρ x;rw[hx] at h1;have h1:=h1.inv_v
   unfold execOp
   rw[hop]
   simp [h1,Op.unary,Op.intArith]
  ·exact h.elim
 ·exact aop_sound hd hdef h
def aregionN (C:Cfg):List Oper→Env→AHeap→ARes→Prop
 | [],ρ,L,K=>K ρ L
 | o :: rest,ρ,L,K=>o.guard=none∧aopN C o ρ L fun ρ L=>aregionN C rest ρ L K
def aregNK (C:Cfg) (rest:List Oper) (K:ARes) (ρ:Env) (L:AHeap):Prop:=aregionN C rest ρ L K
theorem aregionN_nil (C:Cfg) (ρ:Env) (L:AHeap) (K:ARes):aregionN C [] ρ L K=K ρ L:=rfl
theorem aregionN_cons (C:Cfg) (rest:List Oper) (o:Oper) (ρ:Env) (L:AHeap) (K:ARes):aregionN C (o :: rest) ρ L K=(o.guard=none∧aopN C o ρ L (aregNK C rest K)):=rfl
theorem aregionN_sound {C:Cfg} {ops:Array Oper} {K:ARes} {n:Nat} {w0:World} {M A0:Foot} {Q:Exit→Act→World→Prop} (hQ:∀a w,post w0 M A0 C.N K a w→Q .normal a w) (hok:ops.toList.all (operOk C.N)=true) :
  ∀(l:List Oper) (k:Nat),(∀j,l[j]?=ops[k+j]?)→∀(ρ:Env) (L:AHeap) (a:Act) (w:World),aregionN C l ρ L K→St w0 M A0 C.N ρ L a w→wpOpsIn (Fw C.r) n C.P ops Q (
   List.range' k l.length) a w
 | [],k,_,ρ,L,a,w,h,hs=>hQ a w ⟨ρ,L,h,hs⟩
 | o :: l,k,hl,ρ,L,a,w,h,hs=>by
  have h0:ops[k]?=some o:=by simpa using (hl 0).symm
  have ho:operOk C.N o=true:=List.all_eq_true.1 hok o (List.mem_of_getElem? (by simpa using h0))
  rw[List.length_cons,List.range'_succ,wpOpsIn_cons]
  refine wpOpIn_mono ?_ (AOp.gop h0 h.1 (aopN_sound (operOk_dst ho) (operOk_def ho) h.2) n w0 M A0 a w Q hs)
  rintro a' w' ⟨ρ',L',h1,h2⟩
  exact aregionN_sound hQ hok l (k+1) (fun j=>by have:=hl (j+1);simpa [Nat.add_assoc,Nat.add_comm 1 j] using this) ρ' L' a' w' h1 h2
theorem AWp.regionN {C:Cfg} {id:Nat} {ops:Array Oper} {Q:AQ} {ρ:Env} {L:AHeap} (h:aregionN C ops.toList ρ L (Q .normal)):AWp C (.region id ops false) Q ρ L:=fun hok n w0 M A0 a w hs=>by
 refine wpIn_region ?_
 have:=aregionN_sound (C:=C) (ops:=ops) (K:=Q .normal) (n:=n) (Q:=cq C w0 M A0 Q) (fun a w ⟨ρ',L',h1,h2⟩=>⟨ρ',L',h1,h2⟩) hok ops.toList 0 (by simp) ρ L a w h hs
 rwa [Array.length_toList,← List.range_eq_range'] at this
attribute [go_sem] aregionN_nil aregionN_cons aregNK aopN aNegW
end Go.AL
end
section
namespace Go.AL
open Go Go.RowKit
set_option maxRecDepth 4000
def takC (c:List Int) (p:Nat):List Int:=c.set p (cAt c p - 1)
def remB (ps:List Pr) (c:List Int) (p:Nat):Bool:=decide (0<cAt c p) && isF ps (takC c p)
def remN (ps:List Pr) (c:List Int) (k:Nat):Nat:=((List.range k).filter (remB ps c)).length
def irrF (ps:List Pr) (c:List Int):Bool:=decide (remN ps c c.length=1)
def ptF (ps:List Pr) (p i:Nat):List Int:=closeF ps (stC ps.length p ((i:Int)+1))
section
variable {ps:List Pr} (hv:validF ps=true) {p:Nat} (hp:p<ps.length) {i:Nat} (hi:i<ps[p].evs.length)
include hv hp hi
theorem pt_is:isF ps (ptF ps p i)=true:=by
 obtain⟨a1,a2⟩:=stC_ok (k:=(i:Int)+1) hp (by omega) (by omega)
 obtain⟨b1,b2,_⟩:=closeF_ok hv a1 a2
 exact isF_iff.2 ⟨b1,b2,closeF_closed hv a1 a2⟩
theorem pt_has:(i:Int)+1≤cAt (ptF ps p i) p:=by
 obtain⟨a1,a2⟩:=stC_ok (k:=(i:Int)+1) hp (by omega) (by omega)
 have:=closeF_ge hv a1 a2 p hp
 rw[stC_cAt hp,if_pos rfl] at this
 exact this
end
theorem pt_least {ps:List Pr} (hv:validF ps=true) {p:Nat} (hp:p<ps.length) {i:Nat} {d:List Int} (hd:isF ps d=true) (h:(i:Int)+1≤cAt d p):∀q,q<ps.length→cAt (ptF ps p i) q≤cAt d q:=by
 obtain⟨d1,d2,d3⟩:=isF_iff.1 hd
 have:=need_le hv d1 d2 d3 (q:=p) (k:=i+1) hp (by omega)
 have e:(((i+1:Nat):Nat):Int)=(i:Int)+1:=by omega
 rw[e] at this
 exact this
theorem tak_at {c:List Int} {p q:Nat} (hq:q<c.length):cAt (takC c p) q=if p=q then cAt c p - 1 else cAt c q:=by
 unfold takC;rw[setc_cAt hq]
theorem rem_is {ps:List Pr} {c:List Int} {p:Nat} (h:remB ps c p=true):0<cAt c p∧isF ps (takC c p)=true:=by
 unfold remB at h
 rw[Bool.and_eq_true,decide_eq_true_eq] at h
 exact h
theorem rem_pt {ps:List Pr} (hv:validF ps=true) {p:Nat} (hp:p<ps.length) {i:Nat} (hi:i<ps[p].evs.length) {q:Nat} (hq:q<ps.length) (h:remB ps (ptF ps p i) q=true):q=p∧cAt (ptF ps p i) p=(i:Int)+1:=by
 obtain⟨h0,ht⟩:=rem_is h
 have hl:=(isF_iff.1 (pt_is hv hp hi)).1
 have hh:=pt_has hv hp hi
 by_cases hx:(i:Int)+1≤cAt (takC (ptF ps p i) q) p
 ·have:=pt_least hv hp ht hx q hq
  rw[tak_at (by omega),if_pos rfl] at this
  omega
 ·rw[tak_at (by omega)] at hx
  split at hx
  ·rename_i e;subst e;exact⟨rfl,by omega⟩
  ·omega
theorem filt_one {f:Nat→Bool} : ∀ {n:Nat},((List.range n).filter f).length=1↔∃p,p<n∧f p=true∧∀q,q<n→f q=true→q=p
 | 0=>by simp
 | n+1=>by
  have ih:=filt_one (f:=f) (n:=n)
  rw[List.range_succ,List.filter_append,List.length_append]
  cases h:f n with
  | false =>
   simp only[List.filter_cons_of_neg (by rw[h];decide:¬f n=true),List.filter_nil,List.length_nil,Nat.add_zero]
   rw[ih]
   constructor
   ·rintro⟨p,h1,h2,h3⟩
    exact⟨p,by omega,h2,fun q hq hf=>h3 q (by
     by_cases e:q=n
     ·subst e;rw[h] at hf;cases hf
     ·omega) hf⟩
   ·rintro⟨p,h1,h2,h3⟩
    refine⟨p,?_,h2,fun q hq=>h3 q (by omega)⟩
    by_cases e:p=n
    ·subst e;rw[h] at h2;cases h2
    ·omega
  | true =>
   simp only[List.filter_cons_of_pos h,List.filter_nil,List.length_cons,List.length_nil]
   constructor
   ·intro h1
    have h0:(List.range n).filter f=[]:=List.eq_nil_of_length_eq_zero (by omega)
    rw[List.filter_eq_nil_iff] at h0
    refine⟨n,by omega,h,fun q hq hf => ?_⟩
    by_cases e:q=n
    ·exact e
    ·exact absurd hf (h0 q (List.mem_range.2 (by omega)))
   ·rintro⟨p,h1,h2,h3⟩
    have e:n=p:=h3 n (by omega) h
    have h0:(List.range n).filter f=[]:=List.filter_eq_nil_iff.2 fun q hq hf=>by
     have:=h3 q (by have:=List.mem_range.1 hq;omega) hf
     have:=List.mem_range.1 hq
     omega
    rw[h0];rfl
theorem irr_iff {ps:List Pr} {c:List Int} : irrF ps c=true↔∃p,p<c.length∧remB ps c p=true∧∀q,q<c.length→remB ps c q=true→q=p:=by
 unfold irrF remN
 rw[decide_eq_true_eq]
 exact filt_one
theorem irr_pt {ps:List Pr} (hv:validF ps=true) {p:Nat} (hp:p<ps.length) {i:Nat} (hi:i<ps[p].evs.length):irrF ps (ptF ps p i)=true∧cAt (ptF ps p i) p=(i:Int)+1∧remB ps (ptF ps p i) p=true:=by
 have his:=pt_is hv hp hi
 obtain⟨hl,hr,hcl⟩:=isF_iff.1 his
 have hh:=pt_has hv hp hi
 obtain⟨q,hq,h0,r1,r2⟩:=cut_remove hv hl hr hcl ⟨p,hp,by omega⟩
 have hrm:remB ps (ptF ps p i) q=true:=by
  unfold remB
  rw[decide_eq_true h0,Bool.true_and]
  exact isF_iff.2 ⟨by unfold takC;rw[List.length_set];exact hl,r1,r2⟩
 obtain⟨rfl,he⟩:=rem_pt hv hp hi hq hrm
 exact⟨irr_iff.2 ⟨q,by omega,hrm,fun r hr hrr=>(rem_pt hv hp hi (by omega) hrr).1⟩,he,hrm⟩
abbrev Syn:=Eid × Eid
def dirE (ps:List Pr) (p i:Nat):List Eid:=(if 0<i then [((p:Int),(i:Int))] else []) ++ (if (evq ps p i).kind=3 then [sndr ps (evq ps p i).msg] else [])
def dirX (ps:List Pr) (l:List Syn) (p i:Nat):List Eid:=dirE ps p i ++ (l.filter fun s=>decide (s.2=((p:Int),(i:Int)+1))).map (·.1)
def nedX (S:Nat→List (List Int)) (y:Eid):List Int:=stOf S y.1.toNat y.2.toNat
def RdyX (ps:List Pr) (l:List Syn) (S:Nat→List (List Int)) (p:Nat):Prop :=
 p<ps.length∧(S p).length≤nev ps p∧∀y ∈ dirX ps l p ((S p).length - 1),y.2.toNat<(S y.1.toNat).length
def vecX (ps:List Pr) (l:List Syn) (S:Nat→List (List Int)) (p k:Nat):List Int:=((dirX ps l p (k - 1)).foldl (fun v y=>joinL v (nedX S y)) (List.replicate ps.length 0)).set p (k:Int)
inductive GenX (ps:List Pr) (l:List Syn):(Nat→List (List Int))→Prop
 | init:GenX ps l fun _=>[List.replicate ps.length 0]
 | step {S:Nat→List (List Int)} {p:Nat} : GenX ps l S→RdyX ps l S p→GenX ps l (upS S p (vecX ps l S p (S p).length))
section
variable {ps:List Pr} {l:List Syn} {S S':Nat→List (List Int)}
theorem GenX.pos (h:GenX ps l S):∀p,1≤(S p).length:=by
 induction h with
 | init=>intro p;simp
 | @step S r h hr ih=>intro p;exact Nat.le_trans (ih p) (upS_le S r _ p)
theorem GenX.zero (h:GenX ps l S):∀p,stOf S p 0=List.replicate ps.length 0:=by
 induction h with
 | init=>intro p;rfl
 | @step S r h hr ih=>intro p;rw[upS_old (h.pos p)];exact ih p
theorem GenX.top (h:GenX ps l S):∀p,(S p).length≤nev ps p+1:=by
 induction h with
 | init=>intro p;simp
 | @step S r h hr ih =>
  intro p
  rw[upS_len]
  split
  ·rename_i e;subst e;have:=hr.2.1;omega
  ·exact ih p
theorem vecX_congr {p k:Nat} (h:∀y ∈ dirX ps l p (k - 1),nedX S' y=nedX S y):vecX ps l S' p k=vecX ps l S p k:=by
 unfold vecX
 generalize dirX ps l p (k - 1)=D at *
 generalize List.replicate ps.length (0:Int)=v
 congr 1
 induction D generalizing v with
 | nil=>rfl
 | cons y D ih =>
  rw[List.foldl_cons,List.foldl_cons,h y (by simp)]
  exact ih (fun z hz=>h z (List.mem_cons_of_mem _ hz)) _
theorem GenX.entry (h:GenX ps l S):∀p k,1≤k→k<(S p).length→p<ps.length∧k≤nev ps p∧(∀y ∈ dirX ps l p (k - 1),y.2.toNat<(S y.1.toNat).length)∧stOf S p k=vecX ps l S p k:=by
 induction h with
 | init=>intro p k h1 h2;simp at h2;omega
 | @step S r h hr ih =>
  intro p k h1 h2
  have hlt:∀y:Eid,y.2.toNat<(S y.1.toNat).length→y.2.toNat<(upS S r (vecX ps l S r (S r).length) y.1.toNat).length:=fun y hy=>Nat.lt_of_lt_of_le hy (upS_le S r _ _)
  have hold:∀y:Eid,y.2.toNat<(S y.1.toNat).length→nedX (upS S r (vecX ps l S r (S r).length)) y=nedX S y:=fun y hy=>upS_old hy
  by_cases hk:k<(S p).length
  ·obtain⟨a1,a2,a3,a4⟩:=ih p k h1 hk
   refine⟨a1,a2,fun y hy=>hlt y (a3 y hy),?_⟩
   rw[upS_old hk,a4]
   exact(vecX_congr fun y hy=>hold y (a3 y hy)).symm
  ·rw[upS_len] at h2
   by_cases e:p=r
   ·subst e
    rw[if_pos rfl] at h2
    have hke:k=(S p).length:=by omega
    subst hke
    refine⟨hr.1,hr.2.1,fun y hy=>hlt y (hr.2.2 y hy),?_⟩
    rw[upS_new]
    exact(vecX_congr fun y hy=>hold y (hr.2.2 y hy)).symm
   ·rw[if_neg e] at h2;omega
theorem GenX.agree (h:GenX ps l S) (h':GenX ps l S'):∀p k,k<(S p).length→k<(S' p).length→stOf S p k=stOf S' p k:=by
 induction h with
 | init =>
  intro p k h1 h2
  have:k=0:=by simp at h1;omega
  subst this
  rw[h'.zero];rfl
 | @step S r h hr ih =>
  intro p k h1 h2
  by_cases hk:k<(S p).length
  ·rw[upS_old hk];exact ih p k hk h2
  ·rw[upS_len] at h1
   by_cases e:p=r
   ·subst e
    rw[if_pos rfl] at h1
    have hke:k=(S p).length:=by omega
    subst hke
    obtain⟨_,_,a3,a4⟩:=h'.entry p _ (h.pos p) h2
    rw[upS_new,a4]
    exact(vecX_congr fun y hy=>(ih _ _ (hr.2.2 y hy) (a3 y hy)).symm).symm
   ·rw[if_neg e] at h1;omega
theorem GenX.under (h:GenX ps l S) (h':GenX ps l S') (hst:∀p,¬RdyX ps l S' p):∀p,(S p).length≤(S' p).length:=by
 induction h with
 | init=>intro p;have:=h'.pos p;simpa using this
 | @step S r h hr ih =>
  intro p
  rw[upS_len]
  split
  ·rename_i e
   subst e
   refine Nat.lt_of_le_of_ne (ih p) fun e=>hst p ⟨hr.1,by have:=hr.2.1;omega,fun y hy => ?_⟩
   rw[← e] at hy
   exact Nat.lt_of_lt_of_le (hr.2.2 y hy) (ih _)
  ·exact ih p
theorem GenX.uniq (h:GenX ps l S) (hs:∀p,¬RdyX ps l S p) (h':GenX ps l S') (hs':∀p,¬RdyX ps l S' p):S=S':=by
 funext p
 have e:(S p).length=(S' p).length:=Nat.le_antisymm (h.under h' hs' p) (h'.under h hs p)
 refine List.ext_getElem e fun k h1 h2 => ?_
 have:=h.agree h' p k h1 h2
 unfold stOf at this
 rwa [List.getD_eq_getElem?_getD,List.getElem?_eq_getElem h1,List.getD_eq_getElem?_getD,List.getElem?_eq_getElem h2] at this
end
open Classical in
noncomputable def exF (ps:List Pr) (l:List Syn):Nat→List (List Int):=if h:∃S,GenX ps l S∧∀p,¬RdyX ps l S p then Classical.choose h else fun _=>[]
theorem exF_eq {ps:List Pr} {l:List Syn} {S:Nat→List (List Int)} (h:GenX ps l S) (hs:∀p,¬RdyX ps l S p):exF ps l=S:=by
 have hx:∃S,GenX ps l S∧∀p,¬RdyX ps l S p:=⟨S,h,hs⟩
 unfold exF
 rw[dif_pos hx]
 exact(Classical.choose_spec hx).1.uniq (Classical.choose_spec hx).2 h hs
def CloX (ps:List Pr) (l:List Syn) (d:Nat→Int):Prop:=∀a,a<ps.length→∀i,i<nev ps a→(i:Int)+1≤d a→∀y ∈ dirX ps l a i,y.2≤d y.1.toNat
def SynOk (ps:List Pr) (l:List Syn):Prop:=∀s ∈ l,(0≤s.1.1∧s.1.1<ps.length∧1≤s.1.2∧s.1.2≤nev ps s.1.1.toNat)∧(0≤s.2.1∧s.2.1<ps.length∧1≤s.2.2∧s.2.2≤nev ps s.2.1.toNat)
theorem dirX_ev {ps:List Pr} (hv:validF ps=true) {l:List Syn} (hl:SynOk ps l) {p i:Nat} (hp:p<ps.length) (hi:i<nev ps p):∀y ∈ dirX ps l p i,0≤y.1∧y.1<ps.length∧1≤y.2∧y.2≤nev ps y.1.toNat:=fun y hy=>by
 unfold dirX dirE at hy
 rw[List.mem_append,List.mem_append] at hy
 rcases hy with (hy|hy)|hy
 ·split at hy
  ·rw[List.mem_singleton] at hy
   subst hy
   simp only[Int.toNat_natCast]
   omega
  ·cases hy
 ·split at hy
  ·rename_i hk
   rw[List.mem_singleton] at hy
   subst hy
   have hn:=nev_get hp
   rw[evq_get hp (by omega)] at hk ⊢
   obtain⟨q,hq,j,hj,e,_⟩:=sndr_some (recv_sndr (valid_parts hv).2.2 hp (by omega) hk)
   rw[e]
   have:=nev_get hq
   simp only[Int.toNat_natCast]
   omega
  ·cases hy
 ·obtain⟨s,hs,rfl⟩:=List.mem_map.1 hy
  exact(hl s (List.mem_filter.1 hs).1).1
structure StX (ps:List Pr) (l:List Syn) (S:Nat→List (List Int)) (p k:Nat):Prop where
 len:(stOf S p k).length=ps.length
 own:p<ps.length→(stOf S p k).getD p 0=(k:Int)
 le:∀j,(stOf S p k).getD j 0<(S j).length
 nn:∀j,0≤(stOf S p k).getD j 0
 clo:CloX ps l fun j=>(stOf S p k).getD j 0
 least:∀d:Nat→Int,CloX ps l d→(∀j,0≤d j)→(k:Int)≤d p→∀j,(stOf S p k).getD j 0≤d j
structure JnX (ps:List Pr) (l:List Syn) (S:Nat→List (List Int)) (D:List Eid) (v:List Int):Prop where
 len:v.length=ps.length
 le:∀j,v.getD j 0<(S j).length
 nn:∀j,0≤v.getD j 0
 clo:CloX ps l fun j=>v.getD j 0
 has:∀y ∈ D,y.2≤v.getD y.1.toNat 0
 least:∀d:Nat→Int,CloX ps l d→(∀j,0≤d j)→(∀y ∈ D,y.2≤d y.1.toNat)→∀j,v.getD j 0≤d j
theorem joinL_getD {v w:List Int} (h:v.length=w.length) (j:Nat):(joinL v w).getD j 0=if v.getD j 0<w.getD j 0 then w.getD j 0 else v.getD j 0:=by
 by_cases hj:j<v.length
 ·have:=join_cAt h hj
  unfold cAt at this
  rw[Int.toNat_natCast] at this
  exact this
 ·have h1:=join_len h
  rw[List.getD_eq_getElem?_getD,List.getElem?_eq_none (by omega),List.getD_eq_getElem?_getD,List.getElem?_eq_none (by omega),List.getD_eq_getElem?_getD,List.getElem?_eq_none (by omega)]
  simp
theorem JnX.add {ps:List Pr} {l:List Syn} {S:Nat→List (List Int)} {D:List Eid} {v:List Int} (h:JnX ps l S D v) {y:Eid} (hy:StX ps l S y.1.toNat y.2.toNat) (hp:y.1.toNat<ps.length) (h0:0≤y.2):JnX ps l S (D ++ [y]) (joinL v (nedX S y)):=by
 have hl:v.length=(nedX S y).length:=by rw[h.len];exact hy.len.symm
 have hg:=joinL_getD hl
 have hown:=hy.own hp
 refine⟨by rw[join_len hl,h.len],fun j => ?_,fun j => ?_,fun a ha i hi hd z hz => ?_,fun z hz => ?_,fun d h1 h2 h3 j => ?_⟩
 ·rw[hg];have:=h.le j;have:=hy.le j;unfold nedX;split <;> omega
 ·rw[hg];have:=h.nn j;have:=hy.nn j;unfold nedX;split <;> omega
 ·simp only[hg] at hd ⊢
  have c1:=h.clo a ha i hi
  have c2:=hy.clo a ha i hi
  unfold nedX at hd ⊢
  simp only at c1 c2
  split at hd
  ·have:=c2 hd z hz;split <;> omega
  ·have:=c1 hd z hz;split <;> omega
 ·rw[hg]
  rcases List.mem_append.1 hz with hz|hz
  ·have:=h.has z hz;split <;> omega
  ·rw[List.mem_singleton] at hz
   subst hz
   unfold nedX
   rw[hown]
   split <;> omega
 ·rw[hg]
  have c1:=h.least d h1 h2 (fun z hz=>h3 z (List.mem_append_left _ hz)) j
  have c2:=hy.least d h1 h2 (by have:=h3 y (by simp);omega) j
  unfold nedX
  split <;> omega
theorem GenX.join {ps:List Pr} {l:List Syn} {S:Nat→List (List Int)} (h0:∀p,1≤(S p).length):∀(D E:List Eid) (v:List Int),JnX ps l S E v→(∀y ∈ D,StX ps l S y.1.toNat y.2.toNat∧y.1.toNat<ps.length∧0≤y.2)→JnX ps l S (E ++ D) (D.foldl (fun v y=>joinL v (nedX S y)) v)
 | [],E,v,hv,_=>by rw[List.append_nil];exact hv
 | y :: D,E,v,hv,hD=>by
  obtain⟨a1,a2,a3⟩:=hD y (by simp)
  have:=GenX.join h0 D (E ++ [y]) _ (hv.add a1 a2 a3) fun z hz=>hD z (List.mem_cons_of_mem _ hz)
  rwa [List.append_assoc] at this
theorem getD_zeros (n j:Nat):(List.replicate n (0:Int)).getD j 0=0:=by
 rw[List.getD_eq_getElem?_getD,List.getElem?_replicate];split <;> rfl
theorem JnX.nil {ps:List Pr} {l:List Syn} {S:Nat→List (List Int)} (h0:∀p,1≤(S p).length):JnX ps l S [] (List.replicate ps.length 0):=by
 refine⟨by simp,fun j => ?_,fun j => ?_,fun a ha i hi hd => ?_,fun y hy=>(nomatch hy),fun d _ h2 _ j => ?_⟩
 ·rw[getD_zeros];have:=h0 j;omega
 ·rw[getD_zeros];omega
 ·simp only[getD_zeros] at hd;omega
 ·rw[getD_zeros];exact h2 j
theorem GenX.st {ps:List Pr} (hv:validF ps=true) {l:List Syn} (hl:SynOk ps l) {S:Nat→List (List Int)} (h:GenX ps l S):∀p k,k<(S p).length→StX ps l S p k:=by
 induction h with
 | init =>
  intro p k hk
  have:k=0:=by simp at hk;omega
  subst this
  show StX ps l _ p 0
  have e:stOf (fun _=>[List.replicate ps.length (0:Int)]) p 0=List.replicate ps.length 0:=rfl
  constructor
  ·rw[e];simp
  ·intro _;rw[e,getD_zeros];rfl
  ·intro j;rw[e,getD_zeros];simp
  ·intro j;rw[e,getD_zeros];omega
  ·intro a ha i hi hd;simp only[e,getD_zeros] at hd;omega
  ·intro d _ h2 _ j;rw[e,getD_zeros];exact h2 j
 | @step S r h hr ih =>
  have hle:=fun q=>upS_le S r (vecX ps l S r (S r).length) q
  intro p k hk
  by_cases hold:k<(S p).length
  ·obtain⟨a1,a2,a3,a4,a5,a6⟩:=ih p k hold
   have e:stOf (upS S r (vecX ps l S r (S r).length)) p k=stOf S p k:=upS_old hold
   constructor
   ·rw[e];exact a1
   ·rw[e];exact a2
   ·rw[e];exact fun j=>Int.lt_of_lt_of_le (a3 j) (by have:=hle j;omega)
   ·rw[e];exact a4
   ·rw[e];exact a5
   ·rw[e];exact a6
  ·have hl2:=upS_len S r (vecX ps l S r (S r).length)
   rw[hl2] at hk
   by_cases e:p=r
   ·subst e
    rw[if_pos rfl] at hk
    have hke:k=(S p).length:=by omega
    subst hke
    obtain⟨hp,htop,hdep⟩:=hr
    have hpos:=h.pos p
    have hev:=dirX_ev hv hl (p:=p) (i:=(S p).length - 1) hp (by omega)
    have hJ:=GenX.join h.pos (dirX ps l p ((S p).length - 1)) [] _ (JnX.nil (l:=l) h.pos) fun y hy=>by
     obtain⟨b1,b2,b3,b4⟩:=hev y hy
     exact⟨ih _ _ (hdep y hy),by omega,by omega⟩
    rw[List.nil_append] at hJ
    have hnew:stOf (upS S p (vecX ps l S p (S p).length)) p (S p).length=vecX ps l S p (S p).length:=upS_new
    have hvec:vecX ps l S p (S p).length=((dirX ps l p ((S p).length - 1)).foldl (fun v y=>joinL v (nedX S y)) (List.replicate ps.length 0)).set p ((S p).length:Int):=rfl
    generalize (dirX ps l p ((S p).length - 1)).foldl (fun v y=>joinL v (nedX S y)) (List.replicate ps.length 0)=v at *
    have hset:∀j,(v.set p ((S p).length:Int)).getD j 0=if p=j then ((S p).length:Int) else v.getD j 0:=fun j=>by
     rw[List.getD_eq_getElem?_getD,List.getElem?_set,List.getD_eq_getElem?_getD]
     split
     ·rw[if_pos (by rw[hJ.len];exact hp)];rfl
     ·rfl
    have hvp:v.getD p 0<((S p).length:Int):=hJ.le p
    constructor
    ·rw[hnew,hvec,List.length_set];exact hJ.len
    ·intro _;rw[hnew,hvec,hset,if_pos rfl]
    ·intro j
     rw[hnew,hvec,hset,← hvec,hl2]
     split
     ·rename_i e;rw[if_pos e.symm];omega
     ·rename_i e;rw[if_neg fun h=>e h.symm];exact hJ.le j
    ·intro j;rw[hnew,hvec,hset];have:=hJ.nn j;split <;> omega
    ·intro a ha i hi hd z hz
     rw[hnew,hvec] at hd ⊢
     simp only[hset] at hd ⊢
     have hz2:z.2≤v.getD z.1.toNat 0:=by
      by_cases hpa:p=a
      ·subst hpa
       rw[if_pos rfl] at hd
       by_cases hlast:i=(S p).length - 1
       ·subst hlast
        exact hJ.has z hz
       ·-- an older event of the process: the process's last one needs it
        have hprev:((p:Int),(((S p).length - 1:Nat):Int)) ∈ dirX ps l p ((S p).length - 1):=by
         unfold dirX dirE
         rw[if_pos (by omega)]
         simp
        have h1:=hJ.has _ hprev
        simp only[Int.toNat_natCast] at h1
        exact hJ.clo p ha i hi (by show (i:Int)+1≤v.getD p 0;omega) z hz
      ·rw[if_neg hpa] at hd
       exact hJ.clo a ha i hi hd z hz
     split
     ·rename_i e;rw[← e] at hz2;omega
     ·exact hz2
    ·intro d h1 h2 h3 j
     rw[hnew,hvec,hset]
     split
     ·rename_i e;subst e;exact h3
     ·refine hJ.least d h1 h2 (fun y hy => ?_) j
      refine h1 p hp ((S p).length - 1) (by omega) (by omega) y hy
   ·rw[if_neg e] at hk;omega
theorem CloX.of_isF {ps:List Pr} (hv:validF ps=true) {d:List Int} (hd:isF ps d=true):CloX ps [] fun j=>d.getD j 0:=fun a ha i hi hdi y hy=>by
 obtain⟨h1,h2,h3⟩:=isF_iff.1 hd
 have hn:=nev_get ha
 unfold dirX dirE at hy
 simp only[List.filter_nil,List.map_nil,List.append_nil] at hy
 rcases List.mem_append.1 hy with hy|hy
 ·split at hy
  ·rw[List.mem_singleton] at hy
   subst hy
   simp only[Int.toNat_natCast]
   simp only at hdi
   omega
  ·cases hy
 ·split at hy
  ·rename_i hk
   rw[List.mem_singleton] at hy
   subst hy
   rw[evq_get ha (by omega)] at hk ⊢
   exact closed_iff.1 h3 a ha i (by omega) hk (by unfold cAt;rw[Int.toNat_natCast];exact hdi)
  ·cases hy
theorem isF_of_CloX {ps:List Pr} {l:List Syn} {d:List Int} (h1:d.length=ps.length) (h2:inRangeF ps d=true) (h:CloX ps l fun j=>d.getD j 0):isF ps d=true:=by
 refine isF_iff.2 ⟨h1,h2,closed_iff.2 fun p hp i hi hk hc => ?_⟩
 have hn:=nev_get hp
 unfold cAt at hc ⊢
 rw[Int.toNat_natCast] at hc
 refine h p hp i (by omega) hc _ ?_
 unfold dirX dirE
 rw[evq_get hp hi,if_pos hk]
 simp
end Go.AL
end
section
namespace Go.AL
open Go Go.RowKit
set_option maxRecDepth 4000
theorem argmin (f:Nat→Nat) (P:Nat→Prop):∀n,(∃p,p<n∧P p)→∃p,p<n∧P p∧∀q,q<n→P q→f p≤f q
 | 0,⟨_,h,_⟩=>by omega
 | n+1,⟨p,hp,hP⟩=>by
  by_cases hn:∃p,p<n∧P p
  ·obtain⟨a,a1,a2,a3⟩:=argmin f P n hn
   by_cases hb:P n∧f n<f a
   ·refine⟨n,by omega,hb.1,fun q hq hQ => ?_⟩
    by_cases e:q=n
    ·subst e;exact Nat.le_refl _
    ·have:=a3 q (by omega) hQ;omega
   ·refine⟨a,by omega,a2,fun q hq hQ => ?_⟩
    by_cases e:q=n
    ·subst e
     have:¬f q<f a:=fun h=>hb ⟨hQ,h⟩
     omega
    ·exact a3 q (by omega) hQ
  ·have e:p=n:=by
    by_cases e:p=n
    ·exact e
    ·exact absurd ⟨p,by omega,hP⟩ hn
   subst e
   refine⟨p,by omega,hP,fun q hq hQ => ?_⟩
   by_cases e:q=p
   ·subst e;exact Nat.le_refl _
   ·exact absurd ⟨q,by omega,hQ⟩ hn
theorem add_below {ps:List Pr} (hv:validF ps=true) {c d:List Int} (hc:isF ps c=true) (hd:isF ps d=true) (hle:∀q:Nat,q<ps.length→cAt c q≤cAt d q) (hne:∃q:Nat,q<ps.length∧cAt c q<cAt d q) :
  ∃q:Nat,q<ps.length∧cAt c q<cAt d q∧rdyF ps c q=true:=by
 obtain⟨hl,hr,hcl⟩:=isF_iff.1 hc
 obtain⟨dl,dr,dcl⟩:=isF_iff.1 hd
 have hm:=(valid_parts hv).2.2
 have hrr:=(inRange_iff hl).1 hr
 have drr:=(inRange_iff dl).1 dr
 obtain⟨p,hp,hp0,hmin⟩:=argmin (fun p=>anc ps ((p:Int),cAt c p+1)) (fun p=>cAt c p<cAt d p) ps.length hne
 have h1:=hrr p hp
 have h2:=drr p hp
 have hi:(cAt c p).toNat<ps[p].evs.length:=by omega
 have hci:cAt c p=((cAt c p).toNat:Nat):=by omega
 refine⟨p,hp,hp0,?_⟩
 unfold rdyF
 rw[decide_eq_true_eq]
 refine⟨by rw[nev_get hp];omega,(stp_iff hv hc hp hi hci).2 ?_⟩
 unfold needE
 split
 ·rename_i hk
  obtain⟨s,hs,j,hj,e,_,_⟩:=sndr_some (recv_sndr hm hp hi hk)
  have hn:=nx_send hm hp hi hk
  have hcd:=closed_iff.1 dcl p hp _ hi hk (by omega)
  rw[e] at hn hcd ⊢
  simp only at hcd ⊢
  by_cases hle2:(j:Int)+1≤cAt c s
  ·exact hle2
  ·exfalso
   have h3:=hmin s hs (by omega)
   have h4:=anc_lt hv ⟨s,hs,j,hj,rfl⟩ (.single hn)
   have h5:=hrr s hs
   have h6:=anc_line hv hs (i:=(cAt c s).toNat) (j:=j) (by omega) hj
   have h7:(((cAt c s).toNat:Nat):Int)=cAt c s:=by omega
   have h8:(((cAt c p).toNat:Nat):Int)=cAt c p:=by omega
   rw[h7] at h6
   rw[h8] at h4
   omega
 ·have:=(hrr 0 (by omega)).1
  simpa using this
theorem rdy_is {ps:List Pr} {c:List Int} {p:Nat} (h:rdyF ps c p=true):isF ps (stpC c p)=true:=(of_decide_eq_true h).2
def firstP (ps:List Pr) (perm:List Int→Bool) (c:List Int):Option Nat:=(List.range c.length).find? fun p=>rdyF ps c p && perm (stpC c p)
theorem firstP_some {ps:List Pr} {f:List Int→Bool} {c:List Int} {p:Nat} (h:firstP ps f c=some p):p<c.length∧rdyF ps c p=true∧f (stpC c p)=true:=by
 have h1:=List.find?_some h
 have h2:=List.mem_of_find?_eq_some h
 rw[Bool.and_eq_true] at h1
 exact⟨List.mem_range.1 h2,h1.1,h1.2⟩
theorem firstP_none {ps:List Pr} {f:List Int→Bool} {c:List Int} (h:firstP ps f c=none) {p:Nat} (hp:p<c.length) (hr:rdyF ps c p=true):f (stpC c p)=false:=by
 have:=List.find?_eq_none.1 h p (List.mem_range.2 hp)
 rw[hr,Bool.true_and] at this
 simpa using this
def wlkR (ps:List Pr) (perm:List Int→Bool):Nat→List Int→Option (List (List Int))
 | 0,_=>some []
 | n+1,c=>match firstP ps perm c with
  | none=>none
  | some p=>(wlkR ps perm n (stpC c p)).map (stpC c p :: ·)
theorem wlkR_succ (ps:List Pr) (perm:List Int→Bool) (n:Nat) (c:List Int):wlkR ps perm (n+1) c=match firstP ps perm c with
  | none=>none
  | some p=>(wlkR ps perm n (stpC c p)).map (stpC c p :: ·):=rfl
theorem leq_stp {ps:List Pr} {c d:List Int} (hc:c.length=ps.length) (h:∀q:Nat,q<ps.length→cAt c q≤cAt d q) (hd:d.length=ps.length) {p:Nat} (hp:cAt c p<cAt d p):∀q:Nat,q<ps.length→cAt (stpC c p) q≤cAt d q:=fun q hq=>by
 rw[cAt_stp (by omega)]
 split
 ·rename_i e;subst e;omega
 ·exact h q hq
theorem leq_at {a b:List Int} {n:Nat} (ha:a.length=n) (hb:b.length=n):leqF a b=true↔∀q:Nat,q<n→cAt a q≤cAt b q:=by
 rw[leq_iff_at,ha,hb]
 exact⟨fun h=>h.2,fun h=>⟨rfl,h⟩⟩
theorem stp_len (c:List Int) (p:Nat):(stpC c p).length=c.length:=by unfold stpC;rw[List.length_set]
theorem leq_full {ps:List Pr} {c:List Int} (h:isF ps c=true):leqF c (fullC ps)=true:=by
 obtain⟨hl,hr,_⟩:=isF_iff.1 h
 refine(leq_at hl (by unfold fullC;rw[List.length_map])).2 fun q hq => ?_
 rw[fullC_at hq]
 exact((inRange_iff hl).1 hr q hq).2
theorem full_of_sum {ps:List Pr} {c:List Int} (h:isF ps c=true):c=fullC ps↔c.sum=off ps ps.length:=by
 have h1:=leq_sum (leq_full h)
 rw[fullC_sum] at h1
 exact⟨fun e=>by rw[e,fullC_sum],h1.2⟩
section
variable {ps:List Pr} (hv:validF ps=true)
include hv
theorem first_to {c to:List Int} (hc:isF ps c=true) (ht:isF ps to=true) (hle:leqF c to=true) (hne:c.sum<to.sum):∃p,firstP ps (fun d=>leqF d to) c=some p∧p<ps.length∧isF ps (stpC c p)=true∧leqF (stpC c p) to=true:=by
 have hl:=(isF_iff.1 hc).1
 have tl:=(isF_iff.1 ht).1
 have h1:=(leq_at hl tl).1 hle
 have hex:∃q:Nat,q<ps.length∧cAt c q<cAt to q:=by
  apply Classical.byContradiction
  intro hn
  have:c=to:=by
   apply List.ext_getElem (by omega)
   intro i g1 g2
   rw[← cAt_nat g1,← cAt_nat g2]
   have:=h1 i (by omega)
   have:¬cAt c i<cAt to i:=fun h=>hn ⟨i,by omega,h⟩
   omega
  rw[this] at hne;omega
 obtain⟨q,hq,hq1,hq2⟩:=add_below hv hc ht h1 hex
 have hlq:leqF (stpC c q) to=true:=(leq_at (by rw[stp_len];exact hl) tl).2 (leq_stp hl h1 tl hq1)
 cases hf:firstP ps (fun d=>leqF d to) c with
 | none =>
  have:=firstP_none hf (p:=q) (by omega) hq2
  rw[hlq] at this;cases this
 | some p =>
  obtain⟨a1,a2,a3⟩:=firstP_some hf
  exact⟨p,rfl,by omega,rdy_is a2,a3⟩
theorem wlk_to {to:List Int} (ht:isF ps to=true):∀(n:Nat) (c:List Int),isF ps c=true→leqF c to=true→c.sum+n=to.sum→∃R,wlkR ps (fun d=>leqF d to) n c=some R∧R.length=n∧(∀d ∈ R,isF ps d=true∧leqF d to=true)∧(c :: R).getLast?=some to
 | 0,c,hc,hle,hs=>by
  have:c=to:=(leq_sum hle).2 (by omega)
  subst this
  exact⟨[],rfl,rfl,fun d hd=>(by cases hd),rfl⟩
 | n+1,c,hc,hle,hs=>by
  obtain⟨p,h1,h2,h3,h4⟩:=first_to hv hc ht hle (by omega)
  have hsum:(stpC c p).sum=c.sum+1:=sum_stpC (by have:=(isF_iff.1 hc).1;omega)
  obtain⟨R,g1,g2,g3,g4⟩:=wlk_to ht n (stpC c p) h3 h4 (by omega)
  refine⟨stpC c p :: R,by rw[wlkR_succ,h1];simp only[g1,Option.map_some],by rw[List.length_cons,g2],fun d hd => ?_,?_⟩
  ·rcases List.mem_cons.1 hd with rfl|hd
   ·exact⟨h3,h4⟩
   ·exact g3 d hd
  ·rw[List.getLast?_cons_cons];exact g4
end
def stepG (a b:List Int):Nat→Option Int
 | 0=>some (-1)
 | k+1=>match stepG a b k with
  | none=>none
  | some p=>if cAt a k=cAt b k then some p else if 0≤p∨¬cAt b k=cAt a k+1 then none else some k
def stepF (a b:List Int):Int:=if a.length=b.length then (stepG a b a.length).getD (-1) else -1
theorem stepG_some {a b:List Int} : ∀ {k:Nat} {z:Int},stepG a b k=some z↔(z = -1∧∀i:Nat,i<k→cAt a i=cAt b i)∨∃q:Nat,q<k∧z=q∧cAt b q=cAt a q+1∧∀i:Nat,i<k→i ≠ q→cAt a i=cAt b i
 | 0,z=>by
  constructor
  ·intro h;exact .inl ⟨(Option.some.inj h).symm,fun i hi=>by omega⟩
  ·rintro(⟨h,_⟩|⟨q,h,_⟩)
   ·rw[h];rfl
   ·omega
 | k+1,z=>by
  have e:stepG a b (k+1)=match stepG a b k with
   | none=>none
   | some p=>if cAt a k=cAt b k then some p else if 0≤p∨¬cAt b k=cAt a k+1 then none else some k:=rfl
  rw[e]
  constructor
  ·intro h
   cases hs:stepG a b k with
   | none=>rw[hs] at h;cases h
   | some p =>
    rw[hs] at h
    simp only at h
    have ih:=stepG_some.1 hs
    by_cases h1:cAt a k=cAt b k
    ·rw[if_pos h1] at h
     cases h
     rcases ih with ⟨i1,i2⟩|⟨q,i1,i2,i3,i4⟩
     ·exact .inl ⟨i1,fun i hi=>by
       by_cases e:i=k
       ·subst e;exact h1
       ·exact i2 i (by omega)⟩
     ·exact .inr ⟨q,by omega,i2,i3,fun i hi hn=>by
       by_cases e:i=k
       ·subst e;exact h1
       ·exact i4 i (by omega) hn⟩
    ·rw[if_neg h1] at h
     split at h
     ·cases h
     ·rename_i h2
      cases h
      rcases ih with ⟨i1,i2⟩|⟨q,i1,i2,i3,i4⟩
      ·refine .inr ⟨k,by omega,rfl,?_,fun i hi hn=>i2 i (by omega)⟩
       apply Classical.byContradiction;intro h3;exact h2 (.inr h3)
      ·exact absurd (.inl (by omega)) h2
  ·rintro(⟨i1,i2⟩|⟨q,i1,i2,i3,i4⟩)
   ·rw[stepG_some.2 (.inl ⟨i1,fun i hi=>i2 i (by omega)⟩)]
    simp only
    rw[if_pos (i2 k (by omega))]
   ·by_cases e:q=k
    ·subst e
     rw[stepG_some.2 (.inl ⟨rfl,fun i hi=>i4 i (by omega) (by omega)⟩)]
     simp only
     rw[if_neg (by omega),if_neg (by omega),i2]
    ·rw[stepG_some.2 (.inr ⟨q,by omega,i2,i3,fun i hi hn=>i4 i (by omega) hn⟩)]
     simp only
     rw[if_pos (i4 k (by omega) (by omega))]
theorem stepF_iff {a b:List Int} {q:Nat} : stepF a b=q↔q<a.length∧b=stpC a q:=by
 unfold stepF
 constructor
 ·intro h
  split at h
  ·rename_i hl
   cases hs:stepG a b a.length with
   | none=>rw[hs] at h;simp at h
   | some z =>
    rw[hs] at h
    simp only[Option.getD_some] at h
    subst h
    rcases stepG_some.1 hs with ⟨i1,_⟩|⟨p,i1,i2,i3,i4⟩
    ·omega
    ·have:p=q:=by omega
     subst this
     refine⟨i1,?_⟩
     apply List.ext_getElem (by rw[stp_len];omega)
     intro i g1 g2
     rw[← cAt_nat g1,← cAt_nat g2,cAt_stp (by omega)]
     split
     ·rename_i e;subst e;exact i3
     ·rename_i e;exact(i4 i (by omega) fun h=>e h.symm).symm
  ·omega
 ·rintro⟨hq,rfl⟩
  rw[if_pos (stp_len a q).symm,stepG_some.2 (.inr ⟨q,hq,rfl,?_,?_⟩)]
  ·rfl
  ·rw[cAt_stp hq,if_pos rfl]
  ·intro i hi hn
   rw[cAt_stp hi,if_neg (fun e=>hn e.symm)]
theorem stepF_range (a b:List Int):stepF a b = -1∨∃q:Nat,stepF a b=q:=by
 unfold stepF
 split
 ·cases hs:stepG a b a.length with
  | none=>exact .inl rfl
  | some z =>
   rcases stepG_some.1 hs with ⟨i1,_⟩|⟨p,_,i2,_⟩
   ·exact .inl i1
   ·exact .inr ⟨p,i2⟩
 ·exact .inl rfl
def stpP (ps:List Pr) (a b:List Int):Option Nat:=(List.range ps.length).find? fun p=>rdyF ps a p && decide (b=stpC a p)
theorem stpC_inj {a:List Int} {p q:Nat} (hp:p<a.length) (hq:q<a.length) (h:stpC a p=stpC a q):p=q:=by
 have h1:cAt (stpC a p) p=cAt (stpC a q) p:=by rw[h]
 rw[cAt_stp hp,cAt_stp hp,if_pos rfl] at h1
 split at h1
 ·rename_i e;exact e.symm
 ·omega
theorem stpP_some {ps:List Pr} {a b:List Int} (ha:a.length=ps.length) {p:Nat} : stpP ps a b=some p↔p<ps.length∧rdyF ps a p=true∧b=stpC a p:=by
 constructor
 ·intro h
  have h1:=List.find?_some h
  have h2:=List.mem_of_find?_eq_some h
  rw[Bool.and_eq_true,decide_eq_true_eq] at h1
  exact⟨List.mem_range.1 h2,h1.1,h1.2⟩
 ·rintro⟨h1,h2,h3⟩
  cases hf:stpP ps a b with
  | none =>
   have:=List.find?_eq_none.1 hf p (List.mem_range.2 h1)
   rw[h2,decide_eq_true h3] at this
   simp at this
  | some q =>
   have g1:=List.find?_some hf
   have g2:=List.mem_range.1 (List.mem_of_find?_eq_some hf)
   rw[Bool.and_eq_true,decide_eq_true_eq] at g1
   rw[stpC_inj (a:=a) (by omega) (by omega) (g1.2.symm.trans h3)]
theorem stpP_step {ps:List Pr} {a b:List Int} (ha:isF ps a=true):stpP ps a b=if isF ps b=true∧0≤stepF a b then some (stepF a b).toNat else none:=by
 have hl:=(isF_iff.1 ha).1
 split
 ·rename_i h
  rcases stepF_range a b with e|⟨q,e⟩
  ·rw[e] at h;exact absurd h.2 (by decide)
  ·rw[e]
   obtain⟨h1,h2⟩:=stepF_iff.1 e
   refine(stpP_some hl).2 ⟨by omega,?_,h2⟩
   have e2:((q:Int)).toNat=q:=by omega
   rw[e2]
   unfold rdyF
   rw[decide_eq_true_eq,← h2]
   refine⟨?_,h.1⟩
   obtain⟨bl,br,_⟩:=isF_iff.1 h.1
   have:=(inRange_iff bl).1 br q (by omega)
   have e3:cAt b q=cAt a q+1:=by rw[h2,cAt_stp h1,if_pos rfl]
   rw[nev_get (by omega)];omega
 ·rename_i h
  cases hf:stpP ps a b with
  | none=>rfl
  | some p =>
   obtain⟨g1,g2,g3⟩:=(stpP_some hl).1 hf
   exact absurd ⟨by rw[g3];exact rdy_is g2,by rw[stepF_iff.2 ⟨by omega,g3⟩];omega⟩ h
def stpsG (ps:List Pr):List Int→List (List Int)→Option (List Nat)
 | _,[]=>some []
 | a,b :: r=>match stpP ps a b with
  | none=>none
  | some p=>(stpsG ps b r).map (p :: ·)
def zeroC (ps:List Pr):List Int:=List.replicate ps.length 0
def chnF (ps:List Pr):List Int→List (List Int)→Bool
 | _,[]=>true
 | a,b :: r=>(isF ps b && decide (0≤stepF a b)) && chnF ps b r
def isRunF (ps:List Pr):List (List Int)→Bool
 | []=>false
 | a :: r=>decide (a=zeroC ps∧(a :: r).getLast?=some (fullC ps)) && chnF ps a r
theorem zeroC_is (ps:List Pr):isF ps (zeroC ps)=true:=isF_zero
def evtG:List Int→List (List Int)→List Eid
 | _,[]=>[]
 | a,b :: r=>(stepF a b,cAt b (stepF a b)) :: evtG b r
structure HoldX (ps:List Pr) (l:List Syn) (bad:Nat→Nat→Bool) (d:Nat→Nat):Prop where
 rng:∀p,p<ps.length→d p≤nev ps p
 bad:∀p,p<ps.length→bad p (d p)=true
 clo:∀a,a<ps.length→∀i,i<nev ps a→i+1≤d a→∀y ∈ dirX ps l a i,y.2≤d y.1.toNat
open Classical in
noncomputable def ctlB (ps:List Pr) (l:List Syn) (bad:Nat→Nat→Bool):Bool:=decide (¬ ∃d,HoldX ps l bad d)
open Classical in
theorem ctlB_true {ps:List Pr} {l:List Syn} {bad:Nat→Nat→Bool} : ctlB ps l bad=true↔¬ ∃d,HoldX ps l bad d:=by unfold ctlB;exact decide_eq_true_iff
def WhlX (ps:List Pr) (S:Nat→List (List Int)):Prop:=∀p,p<ps.length→(S p).length=nev ps p+1
section
variable {ps:List Pr} {l:List Syn} {bad:Nat→Nat→Bool} {S:Nat→List (List Int)} (hv:validF ps=true) (hl:SynOk ps l) (hG:GenX ps l S) (hW:WhlX ps S)
include hv hl hG hW
theorem ctl_stop {c:Nat→Nat} (hr:∀p,p<ps.length→c p≤nev ps p) (hb:∀p,p<ps.length→bad p (c p)=true)
  (hx:∀p q,p<ps.length→q<ps.length→q ≠ p→(stOf S q (c q)).getD p 0≤(c p:Int)):HoldX ps l bad c:=by
 refine⟨hr,hb,fun a ha i hi hd y hy => ?_⟩
 have hst:=hG.st hv hl a (c a) (by rw[hW a ha];have:=hr a ha;omega)
 have hown:=hst.own ha
 have h1:=hst.clo a ha i hi (by simp only;rw[hown];omega) y hy
 simp only at h1
 obtain⟨_,y2,_,_⟩:=dirX_ev hv hl ha hi y hy
 by_cases e:a=y.1.toNat
 ·rw[← e] at h1 ⊢
  omega
 ·have:=hx y.1.toNat a (by omega) ha e
  omega
end
def RnkX (ps:List Pr) (l:List Syn) (r:Eid→Nat):Prop:=∀p,p<ps.length→∀i,i<nev ps p→∀y ∈ dirX ps l p i,r y<r ((p:Int),(i:Int)+1)
theorem whl_of {ps:List Pr} (hv:validF ps=true) {l:List Syn} (hl:SynOk ps l) {r:Eid→Nat} (hr:RnkX ps l r) {S:Nat→List (List Int)} (hG:GenX ps l S) (hst:∀p,¬RdyX ps l S p):WhlX ps S:=by
 have key:∀(m p i:Nat),p<ps.length→i<nev ps p→r ((p:Int),(i:Int)+1)≤m→i+1<(S p).length:=fun m=>by
  induction m with
  | zero =>
   intro p i hp hi hm
   have hpos:=hG.pos p
   -- no event before this one
   have hno:∀y ∈ dirX ps l p i,False:=fun y hy=>by have:=hr p hp i hi y hy;omega
   have hi0:i=0:=by
    by_cases e:i=0
    ·exact e
    ·exfalso
     refine hno ((p:Int),(i:Int)) ?_
     unfold dirX dirE
     rw[if_pos (by omega)];simp
   subst hi0
   refine Classical.byContradiction fun hlt=>hst p ⟨hp,by omega,fun y hy => ?_⟩
   have:(S p).length - 1=0:=by omega
   rw[this] at hy
   exact(hno y hy).elim
  | succ m ih =>
   intro p i hp hi hm
   have hdep:∀y ∈ dirX ps l p i,y.2.toNat<(S y.1.toNat).length:=fun y hy=>by
    obtain⟨y1,y2,y3,y4⟩:=dirX_ev hv hl hp hi y hy
    have h1:=hr p hp i hi y hy
    obtain⟨a,b⟩:=y
    have y1:0≤a:=y1
    have y2:a<ps.length:=y2
    have y3:1≤b:=y3
    have y4:b≤nev ps a.toNat:=y4
    have h2:=ih a.toNat (b.toNat - 1) (by omega) (by omega) (by
     have e:(((a.toNat:Nat):Int),((b.toNat - 1:Nat):Int)+1)=(a,b):=by
      rw[Prod.mk.injEq];omega
     rw[e];omega)
    show b.toNat<(S a.toNat).length
    omega
   have hprev:i<(S p).length:=by
    by_cases e:i=0
    ·have:=hG.pos p;omega
    ·have:=hdep ((p:Int),(i:Int)) (by unfold dirX dirE;rw[if_pos (by omega)];simp)
     simp only[Int.toNat_natCast] at this
     exact this
   refine Classical.byContradiction fun hlt=>hst p ⟨hp,by omega,fun y hy => ?_⟩
   have:(S p).length - 1=i:=by omega
   rw[this] at hy
   exact hdep y hy
 intro p hp
 have h1:=hG.top p
 have h2:=hG.pos p
 by_cases h0:nev ps p=0
 ·omega
 ·have:=key _ p (nev ps p - 1) hp (by omega) (Nat.le_refl _)
  omega
theorem RnkX.sub {ps:List Pr} {l l':List Syn} {r:Eid→Nat} (h:RnkX ps l r) (hs:∀s ∈ l',s ∈ l):RnkX ps l' r:=fun p hp i hi y hy=>by
 refine h p hp i hi y ?_
 unfold dirX at hy ⊢
 rcases List.mem_append.1 hy with hy|hy
 ·exact List.mem_append_left _ hy
 ·obtain⟨s,h1,rfl⟩:=List.mem_map.1 hy
  obtain⟨h2,h3⟩:=List.mem_filter.1 h1
  exact List.mem_append_right _ (List.mem_map.2 ⟨s,List.mem_filter.2 ⟨hs s h2,h3⟩,rfl⟩)
theorem SynOk.sub {ps:List Pr} {l l':List Syn} (h:SynOk ps l) (hs:∀s ∈ l',s ∈ l):SynOk ps l':=fun s hx=>h s (hs s hx)
end Go.AL
end
section
namespace Go.AL
open Go Go.RowKit
set_option maxRecDepth 4000
def FamS (tO tI:TypeId) (k n:Nat) (Y:Nat→List AV) (v:AV) (L:AHeap):Prop :=
 ∃Lv V Ls,L.Perm (Lv ++ famL n Ls)∧AppSt tO 1 ((List.range n).map V) v Lv∧∀q,q<n→AppSt tI k (Y q) (V q) (Ls q)
section
variable {tO tI:TypeId} {k n:Nat} {Y:Nat→List AV} {v:AV} {L:AHeap}
theorem FamS.nil (Y:Nat→List AV):FamS tO tI k 0 Y anil []:=⟨[],fun _=>anil,fun _=>[],by simp [famL],.nil,fun q h=>by omega⟩
theorem fam_more {n:Nat} {Ls:Nat→AHeap} (Lx:AHeap):(famL (n+1) (fun q=>if q=n then Lx else Ls q)).Perm (Lx ++ famL n Ls):=by
 unfold famL
 rw[List.range_succ,List.flatMap_append]
 have e:(List.range n).flatMap (fun q=>if q=n then Lx else Ls q)=(List.range n).flatMap Ls:=flatMap_ext fun q hq=>if_neg (by have:=List.mem_range.1 hq;omega)
 rw[e]
 simp only[List.flatMap_cons,List.flatMap_nil,if_true,List.append_nil]
 exact List.perm_append_comm
theorem map_more {n:Nat} {V:Nat→AV} (x:AV):(List.range (n+1)).map (fun q=>if q=n then x else V q)=(List.range n).map V ++ [x]:=by
 rw[List.range_succ,List.map_append]
 congr 1
 ·exact List.map_congr_left fun q hq=>if_neg (by have:=List.mem_range.1 hq;omega)
 ·simp
theorem FamS.snoc {V:Nat→AV} {Ls:Nat→AHeap} {x v':AV} {Lx Lv' L':AHeap} (hF:∀q,q<n→AppSt tI k (Y q) (V q) (Ls q)) (hx:AppSt tI k (Y n) x Lx) (hA:AppSt tO 1 ((List.range n).map V ++ [x]) v' Lv') (hp:L'.Perm (Lv' ++ (Lx ++ famL n Ls))):FamS tO tI k (n+1) Y v' L':=by
 refine⟨Lv',fun q=>if q=n then x else V q,fun q=>if q=n then Lx else Ls q,hp.trans (List.Perm.append_left _ (fam_more Lx).symm),?_,fun q hq => ?_⟩
 ·rw[map_more];exact hA
 ·by_cases e:q=n
  ·subst e;dsimp only;rw[if_pos rfl,if_pos rfl];exact hx
  ·dsimp only;rw[if_neg e,if_neg e];exact hF q (by omega)
theorem FamS.congr {Y':Nat→List AV} (h:FamS tO tI k n Y v L) (e:∀q,q<n→Y' q=Y q):FamS tO tI k n Y' v L:=by
 obtain⟨Lv,V,Ls,h1,h2,h3⟩:=h
 exact⟨Lv,V,Ls,h1,h2,fun q hq=>by rw[e q hq];exact h3 q hq⟩
theorem FamS.perm {L':AHeap} (h:FamS tO tI k n Y v L) (hp:L'.Perm L):FamS tO tI k n Y v L':=by
 obtain⟨Lv,V,Ls,h1,h2,h3⟩:=h
 exact⟨Lv,V,Ls,hp.trans h1,h2,h3⟩
theorem FamS.open (h:FamS tO tI k n Y v L) {p:Nat} (hp:p<n) :
  ∃bo cap V Ls,v = .ls bo 1 0 n cap∧L.Perm ((bo,.row tO 1 ((List.range n).map V) cap) :: (Ls p ++ famR n p Ls))∧AppSt tI k (Y p) (V p) (Ls p) ∧
   ∀(Y':Nat→List AV) (x:AV) (Lp L':AHeap),(∀q,q ≠ p→Y' q=Y q)→AppSt tI k (Y' p) x Lp→L'.Perm ((bo,.row tO 1 (((List.range n).map V).set p x) cap) :: (Lp ++ famR n p Ls))→FamS tO tI k n Y' v L':=by
 obtain⟨Lv,V,Ls,h1,h2,h3⟩:=h
 rcases h2.inv with ⟨e1,_,_⟩|⟨bo,cap,e2,e3⟩
 ·have h0:n=0:=by have:=congrArg List.length e1;simpa using this
  omega
 ·have hlen:((List.range n).map V).length=n:=by simp
  rw[hlen] at e2
  subst e3
  refine⟨bo,cap,V,Ls,e2,h1.trans ((fam_split hp Ls).cons _),h3 p hp,fun Y' x Lp L' hY hx hL => ?_⟩
  refine⟨[(bo,.row tO 1 (((List.range n).map V).set p x) cap)],fun q=>if q=p then x else V q,fun q=>if q=p then Lp else Ls q,?_,?_,fun q hq => ?_⟩
  ·refine hL.trans (List.Perm.cons _ ?_)
   have hsp:=fam_split hp (fun q=>if q=p then Lp else Ls q)
   rw[if_pos rfl,famR_congr (Ls:=Ls) (fun q hq=>if_neg hq)] at hsp
   exact hsp.symm
  ·rw[← map_range_set,e2]
   have:=AppSt.row (t:=tO) (k:=1) bo (((List.range n).map V).set p x) cap
   rwa [List.length_set,hlen] at this
  ·by_cases e:q=p
   ·subst e;dsimp only;rw[if_pos rfl,if_pos rfl];exact hx
   ·dsimp only;rw[if_neg e,if_neg e,hY q e];exact h3 q hq
end
theorem nd1 {b:Nat} {x:ABlk} {r:AHeap} (h:(((b,x) :: r:AHeap).map (·.1)).Nodup):∀z ∈ r,¬b=z.1∧¬z.1=b:=by
 simp only[List.map_cons,List.nodup_cons,List.mem_map,not_exists,not_and] at h
 exact fun z hz=>⟨fun e=>h.1 z hz e.symm,h.1 z hz⟩
def dirK (ps:List Pr) (l:List Syn) (q:Nat):List Eid:=match (evIds ps)[q]? with|some x=>dirX ps l x.1.1.toNat (x.1.2.toNat - 1)|none=>[]
theorem dirK_at {ps:List Pr} {l:List Syn} {p i:Nat} (hp:p<ps.length) (hi:i<ps[p].evs.length):dirK ps l (off ps p+i)=dirX ps l p i:=by
 unfold dirK
 rw[evIds_get hp hi]
 show dirX ps l ((p:Int)).toNat (((i:Int)+1).toNat - 1)=_
 rw[Int.toNat_natCast,show ((i:Int)+1).toNat - 1=i by omega]
end Go.AL
end
