/- Texts of this claim's proof: WZ5, WJ1, WY4, WY25, WZ8. No condition. -/
import Derived.Test.YtbijcgljnecakaaGreatDoorM10
import Derived.Test.YtbijcgljnecakaaGreatDoorM14
import Derived.Test.YtbijcgljnecakaaGreatDoorM11
section
namespace Go.AL
open Go Go.RowKit
set_option maxRecDepth 4000
theorem ntz_len:ntzAV.length=64:=rfl
def tzN (k:Nat):Nat:=(2 ^ k * 285870213051353865) % 18446744073709551616 / 288230376151711744
theorem tz_tab:∀k:Fin 64,tzN k.val<64∧ntzL.getD (tzN k.val) 0=(k.val:Int):=by decide +kernel
theorem tz_ok (k:Nat) (hk:k<64):tzN k<64∧ntzL.getD (tzN k) 0=(k:Int):=tz_tab ⟨k,hk⟩
theorem tz_eq (k:Nat):shrK .u64 (IntKind.u64.wrap (((2 ^ k:Nat):Int) * 285870213051353865)) 58=(tzN k:Nat):=by
 unfold tzN
 generalize 2 ^ k=a
 have h:IntKind.u64.wrap ((a:Int) * 285870213051353865)=((a * 285870213051353865 % 18446744073709551616:Nat):Int):=by
  rw[IntKind.wrap_u64];omega
 rw[h]
 exact shr_nat (b:=58) (by decide)
theorem ntz_get {i:Nat} (h:i<64):ntzAV.getD i .any = .v (.int .u8 (ntzL.getD i 0)):=by
 have hl:i<ntzL.length:=h
 unfold ntzAV
 rw[List.getD_eq_getElem?_getD,List.getElem?_map,List.getElem?_eq_getElem hl,List.getD_eq_getElem?_getD,List.getElem?_eq_getElem hl];rfl
theorem tz_ops {x k:Nat} (hx:x<2 ^ 64) (hk:x.testBit k=true) (hl:∀i,i<k→x.testBit i=false):∃(x1 x2 z:Int) (y:Nat),¬((x:Nat):Int)=0∧IntKind.u64.wrap (-((x:Nat):Int))=x1∧andK .u64 (x:Nat) x1=x2∧IntKind.u64.wrap (x2 * 285870213051353865)=z∧shrK .u64 z 58=(y:Nat)∧y<64 ∧
  ntzAV.getD y .any = .v (.int .u8 k)∧IntKind.i64.wrap ((k:Nat):Int)=(k:Nat):=by
 obtain⟨hk64,_⟩:=low_split hx hk hl
 have hpos:=(low_off hx hk hl).2
 obtain⟨t6,t3⟩:=tz_ok k hk64
 have hg:=ntz_get t6
 rw[t3] at hg
 refine⟨((2 ^ 64 - x:Nat):Int),((2 ^ k:Nat):Int),_,tzN k,by omega,?_,?_,rfl,tz_eq k,t6,hg,IntWalk.i64_in _ (by omega)⟩
 ·rw[IntKind.wrap_u64];omega
 ·rw[and_nat hx (by omega),low_neg hx hk hl]
theorem bits_tz {x k:Nat} (hx:x<2 ^ 64) (hk:x.testBit k=true) (hl:∀i,i<k→x.testBit i=false):PC Proofs.Tryz.prog 58 [au64 (x:Nat)] (ai k):=by
 obtain⟨x1,x2,z,y,h1,h2,h3,hz,hy,t6,hg,h5⟩:=tz_ops hx hk hl
 clear hx hk hl
 generalize ((x:Nat):Int)=x0 at *
 refine PC.enter 14 [.tmp 2] [] Proofs.Tryz.func58 rfl rfl rfl rfl rfl (by simp) (AWp.of ?_);simp only[go_sem]
 refine Sd ?_
 refine AWp.of ?_;simp only[go_sem,h1]
 refine AWp.cond (t:=false) rfl (fun h=>by cases h) fun _ => ?_
 refine Sd ?_
 refine AWp.of ?_;simp only[go_sem]
 refine AWp.seq (AWp.regionN ?_)
 simp only[go_sem,h2,h3,hz,hy,GV,ntz_len,hg,h5]
 refine⟨by decide,⟨by omega,by omega⟩,t6,?_⟩
 refine Wk ?_
 refine ret_eq ?_;simp only[go_sem]
theorem low_word {f:Nat→Bool} {n w j x:Nat} (hw:w<nW n) (hj:64 * w≤j) (hx:x<n) (hxw:x / 64=w) (hjx:j≤x) (hf:f x=true) (hno:∀i,j≤i→i<x→f i=false) :
  (wordOf (fun i=>decide (j≤i) && f i) w n).testBit (x % 64)=true∧∀i,i<x % 64→(wordOf (fun i=>decide (j≤i) && f i) w n).testBit i=false:=by
 refine⟨?_,fun i hi => ?_⟩
 ·rw[bit_word (by omega),show 64 * w+x % 64=x by omega,decide_eq_true hx,decide_eq_true hjx,hf];rfl
 ·rw[bit_word (by omega)]
  by_cases h:j≤64 * w+i
  ·rw[hno _ h (by omega),Bool.and_false,Bool.and_false]
  ·rw[decide_eq_false h,Bool.false_and,Bool.and_false]
theorem next_word {f:Nat→Bool} {n w j x:Nat} (hx:x<n) (hxw:x / 64=w) (hjx:j≤x) (hf:f x=true) (hno:∀i,j≤i→i<x→f i=false) (h1:(wordOf (fun i=>decide (j≤i) && f i) w n).testBit (x % 64)=true) (h2:∀i,i<x % 64→(wordOf (fun i=>decide (j≤i) && f i) w n).testBit i=false) :
  wordOf (fun i=>decide (j≤i) && f i) w n &&& (wordOf (fun i=>decide (j≤i) && f i) w n - 1)=wordOf (fun i=>decide (x+1≤i) && f i) w n:=by
 refine word_ext (Nat.lt_of_le_of_lt Nat.and_le_left word_big) word_big fun b hb => ?_
 rw[(low_off word_big h1 h2).1,bit_word hb,bit_word hb]
 by_cases e:b=x % 64
 ·rw[decide_eq_true e,Bool.not_true,Bool.and_false,decide_eq_false (show ¬x+1≤64 * w+b by omega),Bool.false_and,Bool.and_false]
 ·rw[decide_eq_false e,Bool.not_false,Bool.and_true]
  congr 1
  by_cases h:x+1≤64 * w+b
  ·rw[decide_eq_true h,decide_eq_true (show j≤64 * w+b by omega)]
  ·rw[decide_eq_false h,Bool.false_and]
   by_cases g:j≤64 * w+b
   ·rw[hno _ g (by omega),Bool.and_false]
   ·rw[decide_eq_false g,Bool.false_and]
theorem zero_word {f:Nat→Bool} {n w j:Nat} (h:wordOf (fun i=>decide (j≤i) && f i) w n=0):∀i,i<n→i / 64=w→j≤i→f i=false:=fun i hi hw hj=>by
 have:=bit_word (f:=fun i=>decide (j≤i) && f i) (w:=w) (b:=i % 64) (by omega) (j:=n)
 rw[h,Nat.zero_testBit,show 64 * w+i % 64=i by omega,decide_eq_true hi,decide_eq_true hj] at this
 simpa using this.symm
theorem some_word {f:Nat→Bool} {n w j:Nat} (h:wordOf (fun i=>decide (j≤i) && f i) w n ≠ 0):∃x,x<n∧x / 64=w∧j≤x∧f x=true∧∀i,j≤i→i<x→i / 64=w→f i=false:=by
 have hex:∃x,x<n∧x / 64=w∧j≤x∧f x=true:=by
  apply Classical.byContradiction
  intro hn
  refine h (word_ext word_big (by decide) fun b hb => ?_)
  rw[bit_word hb,Nat.zero_testBit]
  by_cases h1:64 * w+b<n
  ·by_cases h2:j≤64 * w+b
   ·cases hf:f (64 * w+b) with
    | false=>simp
    | true=>exact absurd ⟨64 * w+b,h1,by omega,h2,hf⟩ hn
   ·rw[decide_eq_false h2];simp
  ·rw[decide_eq_false h1];rfl
 obtain⟨x,⟨h1,h2,h3,h4⟩,hmin⟩:=least hex
 refine⟨x,h1,h2,h3,h4,fun i hj hi hw => ?_⟩
 cases hf:f i with
 | false=>rfl
 | true=>have:=hmin i ⟨by omega,hw,hj,hf⟩;omega
theorem filR_skip {f:Nat→Bool} {j:Nat} : ∀ {x:Nat},j≤x→(∀i,j≤i→i<x→f i=false)→filR f x=filR f j
 | 0,h,_=>by have:j=0:=by omega
             subst this;rfl
 | x+1,h,hf=>by
  by_cases e:j=x+1
  ·subst e;rfl
  ·rw[filR_succ,hf x (by omega) (by omega),if_neg (by decide),List.append_nil]
   exact filR_skip (by omega) fun i h1 h2=>hf i h1 (by omega)
theorem bits_Members (n:Nat) (hn:n≤512) (f:Nat→Bool):PC Proofs.Tryz.prog 20 [aNs n f] (.tup [.sl 1 (filR f n),ai 0]):=by
 have h1:=bits_Valid n hn f
 have hln:=wds_len n f
 have hg:=fun k (hk:k<nW n)=>wds_get (n:=n) (f:=f) hk
 have hnW:nW n≤1000000:=by unfold nW;omega
 rw[aNs_eq] at *
 generalize (wordsF f n n).map (fun w:Nat=>au64 (w:Int))=W at *
 refine PC.enter 34 [.tmp 2,.tmp 3] [1,30] Proofs.Tryz.func20 rfl rfl rfl rfl rfl (by simp) (AWp.of ?_);simp only[go_sem]
 refine Wk ?_
 refine Sd ?_
 refine(h1).val.use ?_;simp only[go_sem]
 refine W1 hln ?_
 refine AWp.range' (nW n) [4] [11,12] (fun w vs L=>∃v,vs=[v]∧AppSt 3 1 (filR f (min n (64 * w))) v L) (by omega) rfl rfl rfl ⟨anil,rfl,by rw[show min n (64 * 0)=0 by omega];exact .nil⟩ ?_ ?_
 ·rintro w vs L hw - ⟨v,rfl,hA⟩
  have hgw:=hg w hw
  have hw0:wordOf f w n=wordOf (fun i=>decide (64 * w≤i) && f i) w n:=by
   refine word_ext word_big word_big fun b hb => ?_
   rw[bit_word hb,bit_word hb,decide_eq_true (show 64 * w≤64 * w+b by omega),Bool.true_and]
  have hmin:min n (64 * w)=64 * w:=by unfold nW at hw;omega
  rw[hw0] at hgw
  rw[hmin] at hA
  have hfo:=hA.fo
  simp only[go_sem]
  refine W2 hgw hfo ?_
  refine AWp.block (AWp.loopN [4,6] [5,11,12,13] (fun m vs L=>∃(j:Nat) (v:AV),vs=[v,au64 ((wordOf (fun i=>decide (j≤i) && f i) w n:Nat):Int)]∧64 * w≤j∧j≤min n (64 * (w+1))∧AppSt 3 1 (filR f j) v L∧m=64 * (w+1) - j) _ ⟨64 * w,v,rfl,Nat.le_refl _,by unfold nW at hw;omega,hA,rfl⟩ ?_)
  rintro m vs L - ⟨j,v,rfl,hj0,hj1,hA,rfl⟩
  by_cases hz:wordOf (fun i=>decide (j≤i) && f i) w n=0
  ·have hno:=zero_word hz
   have hsk:filR f (min n (64 * (w+1)))=filR f j:=filR_skip hj1 fun i h1 h2=>hno i (by omega) (by omega) h1
   have hfo:=hA.fo
   rw[hz]
   simp only[go_sem]
   refine W1 hfo ?_
   intro _
   exact⟨_,List.Sublist.refl _,_,rfl,by rw[hsk];exact hA⟩
  ·obtain⟨x,hx,hxw,hjx,hfx,hno⟩:=some_word hz
   have hno:=fun i h1 h2=>hno i h1 h2 (by omega)
   obtain⟨l1,l2⟩:=low_word hw hj0 hx hxw hjx hfx hno
   have hnx:=next_word hx hxw hjx hfx hno l1 l2
   have htz:=bits_tz word_big l1 l2
   have hsk:=filR_skip hjx hno
   have hsu:=filR_succ (f:=f) (j:=x)
   rw[hsk,if_pos hfx] at hsu
   have hwb:=word_big (f:=fun i=>decide (j≤i) && f i) (w:=w) (j:=n)
   have hne:¬((wordOf (fun i=>decide (j≤i) && f i) w n:Nat):Int)=0:=by omega
   have hsub:IntKind.u64.wrap (((wordOf (fun i=>decide (j≤i) && f i) w n:Nat):Int) - 1)=((wordOf (fun i=>decide (j≤i) && f i) w n - 1:Nat):Int):=by
    rw[IntKind.wrap_u64];omega
   have hand:=and_nat (x:=wordOf (fun i=>decide (j≤i) && f i) w n) (y:=wordOf (fun i=>decide (j≤i) && f i) w n - 1) hwb (by omega)
   rw[hnx] at hand
   have hval:((w:Nat):Int) * 64+((x % 64:Nat):Int)=((x:Nat):Int):=by omega
   have hyl:=filR_len (f:=f) (j:=j)
   have hmu:mulW (w:Int) 64=(w:Int) * 64:=IntWalk.i64_in _ (by unfold nW at hw;omega)
   have hjn:j≤512:=by omega
   have hw9:w≤9:=by unfold nW at hw;omega
   rw[← hsub] at hand
   generalize hx0:((wordOf (fun i=>decide (j≤i) && f i) w n:Nat):Int)=x0 at *
   generalize hx1:IntKind.u64.wrap (x0 - 1)=x1 at *
   generalize hzz:((x % 64:Nat):Int)=z at *
   have hz0:0≤z:=by omega
   have hz1:z≤64:=by omega
   generalize filR f j=ys at *
   rcases hA.inv with ⟨e1,rfl,rfl⟩|⟨bq,cq,rfl,rfl⟩
   ·simp only[go_sem]
    refine W1 hne ?_
    refine Sd ?_
    refine(htz).val.use ?_;simp only[go_sem,hne]
    refine W4 hmu hval hx1 hand ?_
    refine Sd ?_
    intro b' cap' g8
    refine W4 hmu hval hx1 hand ?_
    exact⟨_,List.Sublist.refl _,64 * (w+1) - (x+1),by omega,x+1,_,rfl,by omega,by omega,by rw[hsu,e1];exact .row _ _ _,rfl⟩
   ·simp only[go_sem]
    refine W1 hne ?_
    refine Sd ?_
    refine(htz).val.use ?_;simp only[go_sem,hne]
    refine W4 hmu hval hx1 hand ?_
    refine Sd ?_
    intro b' cap' g8
    refine W4 hmu hval hx1 hand ?_
    exact⟨_,List.Sublist.refl _,64 * (w+1) - (x+1),by omega,x+1,_,rfl,by omega,by omega,by rw[hsu];exact AppSt.snoc _ _ _ rfl,rfl⟩
 ·rintro vs L - ⟨v,rfl,hA⟩
  have hmin:min n (64 * nW n)=n:=by unfold nW;omega
  rw[hmin] at hA
  generalize filR f n=ys at *
  rcases hA.inv with ⟨e3,rfl,rfl⟩|⟨bq,cap,rfl,rfl⟩
  ·simp only[go_sem]
   refine Wk ?_
   refine ret_view [] ?_;simp only[go_sem]
   rw[e3]
   exact .mkTup (Vws.cons (.nil 1) (Vws.refl _))
  ·simp only[go_sem]
   refine Wk ?_
   refine ret_view [true] ?_;simp only[go_sem]
   exact .mkTup (Vws.cons (Vw.ofLs (if_pos rfl) rfl) (Vws.refl _))
theorem bits_Union1 (x y:Nat) (hx:x<2 ^ 64) (hy:y<2 ^ 64):PC Proofs.Tryz.prog 68 [au64 (x:Nat),au64 (y:Nat)] (au64 ((x ||| y:Nat):Int)):=by
 have h:=or_nat hx hy
 clear hx hy
 generalize ((x:Nat):Int)=a at *
 generalize ((y:Nat):Int)=b at *
 refine PC.enter 8 [.tmp 4] [] Proofs.Tryz.func68 rfl rfl rfl rfl rfl (by simp) (AWp.of ?_);simp only[go_sem]
 refine W1 h ?_
 refine ret_eq ?_;simp only[go_sem]
theorem bits_Inter1 (x y:Nat) (hx:x<2 ^ 64) (hy:y<2 ^ 64):PC Proofs.Tryz.prog 69 [au64 (x:Nat),au64 (y:Nat)] (au64 ((x &&& y:Nat):Int)):=by
 have h:=and_nat hx hy
 clear hx hy
 generalize ((x:Nat):Int)=a at *
 generalize ((y:Nat):Int)=b at *
 refine PC.enter 8 [.tmp 4] [] Proofs.Tryz.func69 rfl rfl rfl rfl rfl (by simp) (AWp.of ?_);simp only[go_sem]
 refine W1 h ?_
 refine ret_eq ?_;simp only[go_sem]
theorem bits_With1 (x y:Nat) (hx:x<2 ^ 64) (hy:y<2 ^ 64):PC Proofs.Tryz.prog 63 [au64 (x:Nat),au64 (y:Nat)] (au64 ((x ||| y:Nat):Int)):=by
 have h:=or_nat hx hy
 clear hx hy
 generalize ((x:Nat):Int)=a at *
 generalize ((y:Nat):Int)=b at *
 refine PC.enter 8 [.tmp 4] [] Proofs.Tryz.func63 rfl rfl rfl rfl rfl (by simp) (AWp.of ?_);simp only[go_sem]
 refine W1 h ?_
 refine ret_eq ?_;simp only[go_sem]
theorem bits_Union (n:Nat) (hn:n≤512) (f g:Nat→Bool):PC Proofs.Tryz.prog 29 [aNs n f,aNs n g] (.tup [aNs n fun i=>f i || g i,ai 0]):=by
 have h1:=bits_combined n hn f g (fun i=>f i || g i) (.v (.func (.func 68) #[] #[])) rfl (fun x y=>x ||| y) (fun w=>word_or) fun x y hx hy=>(bits_Union1 x y hx hy).val
 rw[aNs_eq n f,aNs_eq n g,aNs_eq] at *
 generalize (wordsF f n n).map (fun w:Nat=>au64 (w:Int))=V at *
 generalize (wordsF g n n).map (fun w:Nat=>au64 (w:Int))=W at *
 generalize (wordsF (fun i=>f i || g i) n n).map (fun w:Nat=>au64 (w:Int))=X at *
 refine PC.enter 11 [.cell 4 38,.tmp 5] [2,3] Proofs.Tryz.func29 rfl rfl rfl rfl rfl (by simp) (AWp.of ?_);simp only[go_sem]
 intro b4
 refine Wk ?_
 refine Sd ?_
 refine(h1).val.use ?_;simp only[go_sem]
 refine Wk ?_
 refine ret_eq ?_;simp only[go_sem]
theorem bits_Inter (n:Nat) (hn:n≤512) (f g:Nat→Bool):PC Proofs.Tryz.prog 30 [aNs n f,aNs n g] (.tup [aNs n fun i=>f i && g i,ai 0]):=by
 have h1:=bits_combined n hn f g (fun i=>f i && g i) (.v (.func (.func 69) #[] #[])) rfl (fun x y=>x &&& y) (fun w=>word_and) fun x y hx hy=>(bits_Inter1 x y hx hy).val
 rw[aNs_eq n f,aNs_eq n g,aNs_eq] at *
 generalize (wordsF f n n).map (fun w:Nat=>au64 (w:Int))=V at *
 generalize (wordsF g n n).map (fun w:Nat=>au64 (w:Int))=W at *
 generalize (wordsF (fun i=>f i && g i) n n).map (fun w:Nat=>au64 (w:Int))=X at *
 refine PC.enter 11 [.cell 4 38,.tmp 5] [2,3] Proofs.Tryz.func30 rfl rfl rfl rfl rfl (by simp) (AWp.of ?_);simp only[go_sem]
 intro b4
 refine Wk ?_
 refine Sd ?_
 refine(h1).val.use ?_;simp only[go_sem]
 refine Wk ?_
 refine ret_eq ?_;simp only[go_sem]
theorem words_with {f g:Nat→Bool} {n i:Nat} (hi:i<n) (hg:∀j,j ≠ i→g j=f j) (hgi:g i=true) :
  (wordsF g n n).map (fun w:Nat=>au64 (w:Int))=((wordsF f n n).map fun w:Nat=>au64 (w:Int)).set (i / 64) (au64 ((wordOf f (i / 64) n ||| 2 ^ (i % 64):Nat):Int)):=by
 refine List.ext_getElem (by rw[List.length_set,wds_len,wds_len]) fun k h1 h2 => ?_
 have hk:k<nW n:=by rw[wds_len] at h1;exact h1
 rw[List.getElem_set]
 simp only[wordsF,List.getElem_map,List.getElem_range]
 by_cases e:i / 64=k
 ·rw[if_pos e]
  subst e
  refine congrArg (fun z:Nat=>au64 (z:Int)) ?_
  refine word_ext word_big (Nat.or_lt_two_pow word_big (pow_b (Nat.mod_lt _ (by decide)))) fun b hb => ?_
  rw[Nat.testBit_or,bit_word hb,bit_word hb,Nat.testBit_two_pow]
  by_cases eb:i % 64=b
  ·have:64 * (i / 64)+b=i:=by omega
   rw[this,hgi,decide_eq_true eb,decide_eq_true hi,Bool.or_true];rfl
  ·rw[hg _ (by omega),decide_eq_false eb,Bool.or_false]
 ·rw[if_neg e]
  have e2:wordOf g k n=wordOf f k n:=word_ext word_big word_big fun b hb=>by
   rw[bit_word hb,bit_word hb,hg _ (by omega)]
  rw[e2]
theorem bits_With (n:Nat) (hn:n≤512) (f:Nat→Bool) (i:Nat) (hi:i<n):PC Proofs.Tryz.prog 25 [aNs n f,ai i] (.tup [aNs n fun j=>f j || decide (j=i),ai 0]):=by
 have hch:PC Proofs.Tryz.prog 62 [aNs n f,ai i,.v (.func (.func 63) #[] #[])] (.tup [aNs n fun j=>f j || decide (j=i),ai 0]):=by
  have h1:=bits_Valid n hn f
  have h0:=bits_insideN n f i
  have hib:(decide ((0:Int)≤(i:Nat)) && decide (((i:Nat):Int)<n))=true:=by simp;omega
  rw[hib] at h0
  have h2:=bits_copied n ((wordsF f n n).map fun w:Nat=>au64 (w:Int)) (by rw[wds_len];unfold nW;omega) (fun w hw=>by obtain⟨x,_,rfl⟩:=List.mem_map.1 hw;exact⟨_,rfl⟩)
  rw[wds_len] at h2
  have hww:=words_with (f:=f) (g:=fun j=>f j || decide (j=i)) hi (fun j hj=>by simp [hj]) (by simp)
  have hq:=quo64 i (by omega)
  have hr:=rem64 i
  have hjm:i / 64<nW n:=by unfold nW;omega
  have hgw:=wds_get (f:=f) hjm
  have hsh:=shl_bit (b:=i % 64) (Nat.mod_lt i (by decide))
  have h3:=bits_With1 (wordOf f (i / 64) n) (2 ^ (i % 64)) word_big (pow_b (Nat.mod_lt i (by decide)))
  have hcv:IntKind.u64.wrap ((i % 64:Nat):Int)=((i % 64:Nat):Int):=wrap_u64n (Nat.lt_of_lt_of_le (Nat.mod_lt i (by decide)) (by decide))
  have hlw:=wds_len n f
  have hlx:=wds_len n fun j=>f j || decide (j=i)
  rw[aNs_eq n (fun j=>f j || decide (j=i))]
  rw[aNs_eq n f] at *
  rw[hww] at hlx ⊢
  generalize (wordsF f n n).map (fun w:Nat=>au64 (w:Int))=W at *
  generalize ((wordOf f (i / 64) n:Nat):Int)=w0 at *
  generalize ((wordOf f (i / 64) n ||| 2 ^ (i % 64):Nat):Int)=w1 at *
  generalize ((2 ^ (i % 64):Nat):Int)=w2 at *
  generalize hjd:i / 64=jd at *
  generalize hjr:i % 64=jr at *
  refine PC.enter 39 [.cell 6 38,.tmp 7] [3,8] Proofs.Tryz.func62 rfl rfl rfl rfl rfl (by simp) (AWp.of ?_);simp only[go_sem]
  refine Wk ?_
  intro b6
  refine Wk ?_
  refine Sd ?_
  refine(h1).val.use ?_;simp only[go_sem]
  refine Wk ?_
  refine Sd ?_
  refine(h0).val.use ?_;simp only[go_sem]
  refine Wk ?_
  refine(MVal.frame (Lm:=[]) (Lr:=[(b6,.row 38 2 [.agg [ai 0,anil]] 1)]) h2.val).mono ?_
  rintro r L ⟨L1,rfl,b,cap,rfl,rfl⟩
  simp only[go_sem,List.cons_append,List.nil_append]
  refine Wk ?_
  intro b8 _ _
  refine AWp.nodup fun hnd => ?_
  have n1:¬b=b6:=by simpa using hnd
  have n2:¬b6=b:=fun e=>n1 e.symm
  refine Wk ?_
  repeat(first|(with_reducible refine AWp.seq ?_)|(with_reducible refine AWp.block ?_))
  refine AWp.mix mixed [0,1,2,3,4,5,6,7,8,9,11,12,13] (.step 10 (.step 14 (.step 15 (.step 16 .done .done) .done) .done) .done) (by kernel_rfl) ?_;simp only[go_sem,hq,hr,hgw,hsh,hcv,hlw,hjd,hjr]
  refine Sd ?_
  refine Sd ?_
  refine(h3.val).use ?_;simp only[go_sem,hgw,hlw]
  refine Sd ?_
  refine W4 hgw hlw n1 n2 ?_
  refine ret_view [true,true] ?_;simp only[go_sem]
  simp only[go_sem,n1,n2]
  exact .mkTup (Vws.cons (.mkAgg (Vws.cons (.refl _) (Vws.cons (Vw.ofLs (t:=64) (cap:=cap) (if_pos rfl) hlx.symm) .nil))) (Vws.refl _))
 rw[aNs_eq n f,aNs_eq] at *
 generalize (wordsF f n n).map (fun w:Nat=>au64 (w:Int))=V at *
 generalize (wordsF (fun j=>f j || decide (j=i)) n n).map (fun w:Nat=>au64 (w:Int))=X at *
 refine PC.enter 11 [.cell 4 38,.tmp 5] [2] Proofs.Tryz.func25 rfl rfl rfl rfl rfl (by simp) (AWp.of ?_);simp only[go_sem]
 intro b4
 refine Wk ?_
 refine Sd ?_
 refine(hch).val.use ?_;simp only[go_sem]
 refine Wk ?_
 refine ret_eq ?_;simp only[go_sem]
def wstep (k:Nat) (f:Nat→Nat→Bool):Nat→Nat→Bool:=fun i j=>f i j || (f i k && f k j)
def warF:Nat→(Nat→Nat→Bool)→Nat→Nat→Bool
 | 0,f=>f
 | k+1,f=>wstep k (warF k f)
inductive PthK (f:Nat→Nat→Bool) (k:Nat):Nat→Nat→Prop
 | one {i j:Nat} : f i j=true→PthK f k i j
 | cons {i m j:Nat} : f i m=true→m<k→PthK f k m j→PthK f k i j
theorem PthK.mono {f:Nat→Nat→Bool} {k k':Nat} (h:k≤k') {i j:Nat} (p:PthK f k i j):PthK f k' i j:=by
 induction p with
 | one h1=>exact .one h1
 | cons h1 h2 _ ih=>exact .cons h1 (by omega) ih
theorem PthK.app {f:Nat→Nat→Bool} {k i m j:Nat} (p:PthK f k i m) (hm:m<k) (q:PthK f k m j):PthK f k i j:=by
 induction p with
 | one h1=>exact .cons h1 hm q
 | cons h1 h2 _ ih=>exact .cons h1 h2 (ih hm q)
theorem war_iff {f:Nat→Nat→Bool} : ∀ {k i j:Nat},warF k f i j=true↔PthK f k i j
 | 0,i,j=>by
  constructor
  ·exact .one
  ·intro p
   cases p with
   | one h=>exact h
   | cons _ h _=>omega
 | k+1,i,j=>by
  show (warF k f i j || (warF k f i k && warF k f k j))=true↔_
  rw[Bool.or_eq_true,Bool.and_eq_true,war_iff,war_iff,war_iff]
  constructor
  ·rintro(h|⟨h1,h2⟩)
   ·exact h.mono (Nat.le_succ k)
   ·exact(h1.mono (Nat.le_succ k)).app (Nat.lt_succ_self k) (h2.mono (Nat.le_succ k))
  ·intro p
   induction p with
   | one h=>exact .inl (.one h)
   | @cons i m j h1 h2 _ ih =>
    by_cases e:m=k
    ·subst e
     rcases ih with h|⟨_,h⟩
     ·exact .inr ⟨.one h1,h⟩
     ·exact .inr ⟨.one h1,h⟩
    ·have hm:m<k:=by omega
     rcases ih with h|⟨g1,g2⟩
     ·exact .inl (.cons h1 hm h)
     ·exact .inr ⟨.cons h1 hm g1,g2⟩
theorem war_trans {f:Nat→Nat→Bool} {n:Nat} (hf:∀i j,f i j=true→i<n∧j<n) {i j:Nat} : warF n f i j=true↔Relation.TransGen (fun a b=>f a b=true) i j:=by
 rw[war_iff]
 constructor
 ·intro p
  induction p with
  | one h=>exact .single h
  | cons h1 _ _ ih=>exact Relation.TransGen.trans (.single h1) ih
 ·intro t
  induction t with
  | single h=>exact .one h
  | tail _ h ih=>exact ih.app (hf _ _ h).1 (.one h)
section
variable {tO tI:TypeId} {k n:Nat} {Y:Nat→List AV} {v:AV} {L:AHeap}
theorem FamS.one (h:FamS tO tI k n Y v L) {p:Nat} (hp:p<n) (hY:Y p ≠ []) :
  ∃bo cap V bp cp X,v = .ls bo 1 0 n cap∧V.length=n∧V.getD p .any = .ls bp k 0 (Y p).length cp∧L.Perm ((bo,.row tO 1 V cap) :: (bp,.row tI k (Y p) cp) :: X) ∧
   ∀(Y':Nat→List AV) (L':AHeap),(∀q,q ≠ p→Y' q=Y q)→(Y' p).length=(Y p).length→L'.Perm ((bo,.row tO 1 V cap) :: (bp,.row tI k (Y' p) cp) :: X)→FamS tO tI k n Y' v L':=by
 obtain⟨bo,cap,V,Ls,h1,h2,h3,h4⟩:=h.open hp
 rcases h3.inv with ⟨e1,_,_⟩|⟨bp,cp,e2,e3⟩
 ·exact absurd e1 hY
 ·refine⟨bo,cap,(List.range n).map V,bp,cp,famR n p Ls,h1,by simp,by rw[map_range_getD hp,e2],by rw[e3] at h2;exact h2,fun Y' L' hq hl hL => ?_⟩
  refine h4 Y' (V p) [(bp,.row tI k (Y' p) cp)] L' hq ?_ ?_
  ·rw[e2,← hl];exact .row _ _ _
  ·have:((List.range n).map V).set p (V p)=(List.range n).map V:=by
    rw[map_range_set]
    exact List.map_congr_left fun q _=>by split <;> simp_all
   rw[this];exact hL
end
def aNsP (x:Nat × (Nat→Bool)):AV:=.agg [ai x.1,.sl 1 ((wordsF x.2 x.1 x.1).map fun w:Nat=>au64 (w:Int))]
def aNss (l:List (Nat × (Nat→Bool))):AV:=.sl 2 (l.map aNsP)
theorem nsets_indexFunc (l:List (Nat × (Nat→Bool))) (hl:l.length≤1000000) (g:AV) (hgf:fo g=(True,g)) (p:(Nat × (Nat→Bool))→Bool) (hg:∀x ∈ l,PV Proofs.Tryz.prog g [aNsP x] (ab (p x))) :
  PC Proofs.Tryz.prog 111 [aNss l,g] (ai (match l.findIdx? p with|some i=>(i:Int)|none => -1)):=by
 refine PC.enter 19 [.tmp 4] [] Proofs.Tryz.func111 rfl rfl rfl rfl rfl (by simp) (AWp.of ?_);simp only[go_sem]
 refine Sd ?_
 refine AWp.of ?_;simp only[go_sem,aNss]
 refine AWp.range' l.length [] [0,1,7] (fun k vs L=>L=[]∧∀i (h:i<l.length),i<k→p l[i]=false) (by omega) rfl rfl rfl ⟨rfl,by omega⟩ ?_ ?_
 ·rintro k vs L' hk hvs ⟨rfl,hI⟩
  simp only[go_sem]
  refine Sd ?_
  refine AWp.of ?_;simp only[go_sem]
  have hgk:=hg l[k] (List.getElem_mem hk)
  try simp only[go_sem,aNsP] at hgk
  refine Sd ?_
  refine AWp.of ?_;simp only[go_sem,getD_map hk,hgf,aNsP]
  refine⟨⟨by omega,by omega⟩,hk,hgk.use (AWp.of ?_)⟩;simp only[go_sem]
  refine⟨fun ht => ?_,fun hf => ?_⟩
  ·refine Sd ?_
   refine AWp.of ?_;simp only[go_sem]
   refine ret_eq ?_;simp only[go_sem]
   have:l.findIdx? p=some k:=by rw[List.findIdx?_eq_some_iff_getElem];exact⟨hk,ht,fun j hj=>by simpa using hI j (by omega) hj⟩
   rw[this]
  ·refine⟨[],List.Sublist.refl _,rfl,fun i h hi => ?_⟩
   by_cases e:i=k
   ·subst e;exact hf
   ·exact hI i h (by omega)
 ·rintro vs L' hvs ⟨rfl,hI⟩
  simp only[go_sem]
  refine Sd ?_
  refine AWp.of ?_;simp only[go_sem]
  refine Sd ?_
  refine AWp.of ?_;simp only[go_sem]
  refine ret_eq ?_;simp only[go_sem]
  have:l.findIdx? p=none:=by rw[List.findIdx?_eq_none_iff];intro x hx;obtain⟨i,hi,rfl⟩:=List.getElem_of_mem hx;exact hI i hi hi
  rw[this]
theorem nsets_containsFunc (l:List (Nat × (Nat→Bool))) (hl:l.length≤1000000) (g:AV) (hgf:fo g=(True,g)) (p:(Nat × (Nat→Bool))→Bool) (hg:∀x ∈ l,PV Proofs.Tryz.prog g [aNsP x] (ab (p x))) :
  PC Proofs.Tryz.prog 84 [aNss l,g] (ab (l.any p)):=by
 refine PC.enter 9 [.tmp 4] [] Proofs.Tryz.func84 rfl rfl rfl rfl rfl (by simp) (AWp.of ?_);simp only[go_sem]
 refine Sd ?_
 refine AWp.of ?_;simp only[go_sem,hgf,aNss]
 refine(nsets_indexFunc l hl g hgf p hg).val.use ?_
 simp only[go_sem]
 refine Sd ?_
 refine AWp.of ?_;simp only[go_sem]
 refine ret_eq ?_;simp only[go_sem]
 congr 2;exact findIdx_any l p
def aRelN (n:Nat) (F:Nat→Nat→Bool):AV:=.agg [.sl 2 ((List.range n).map fun i=>aNs n (F i))]
theorem aRelN_eq (n:Nat) (F:Nat→Nat→Bool):aRelN n F = .agg [.sl 2 ((List.range n).map fun i=>aNs n (F i))]:=rfl
theorem aRelN_R (n:Nat) (F:Nat→Nat→Bool):aRelR n ((List.range n).map fun i=>wordsF (F i) n n)=aRelN n F:=by
 unfold aRelR aRelN
 rw[List.map_map];rfl
theorem aRelN_P (n:Nat) (F:Nat→Nat→Bool) : .sl 2 ((List.range n).map fun i=>aNs n (F i))=aNss ((List.range n).map fun i=>(n,F i)):=by
 unfold aNss
 rw[List.map_map];rfl
theorem relation_Valid1 (n:Nat) (hn:n≤512) (f:Nat→Bool) (xs:List AV) (hx:xs.length=n):PC Proofs.Tryz.prog 85 [aNs n f,.rp 1 [.agg [.sl 2 xs]] 0 0] (ab false):=by
 have h1:=bits_Valid n hn f
 rw[aNs_eq] at *
 generalize (wordsF f n n).map (fun w:Nat=>au64 (w:Int))=W at *
 refine PC.enter 15 [.tmp 3] [2] Proofs.Tryz.func85 rfl rfl rfl rfl rfl (by simp) (AWp.of ?_);simp only[go_sem]
 refine W1 hx ?_
 refine Sd ?_
 refine GCall.use (ab true) (fun _=>⟨At,(h1).val.use ⟨rfl,rfl⟩⟩) ?_;simp only[go_sem,hx]
 refine Sd ?_
 refine W1 hx ?_
 refine ret_eq ?_;simp only[go_sem]
theorem relation_Valid (n:Nat) (hn:n≤512) (F:Nat→Nat→Bool):PC Proofs.Tryz.prog 46 [aRelN n F] (ab true):=by
 have hlen:((List.range n).map fun i=>aNs n (F i)).length=n:=by simp
 have h1:PC Proofs.Tryz.prog 84 [.sl 2 ((List.range n).map fun i=>aNs n (F i)),.clo 85 [.rp 1 [.agg [.sl 2 ((List.range n).map fun i=>aNs n (F i))]] 0 0]] (ab false):=by
  have h:=nsets_containsFunc ((List.range n).map fun i=>(n,F i)) (by simp;omega) (.clo 85 [.rp 1 [.agg [.sl 2 ((List.range n).map fun i=>aNs n (F i))]] 0 0]) rfl (fun _=>false) fun x hx=>by
   obtain⟨i,_,rfl⟩:=List.mem_map.1 hx
   exact(relation_Valid1 n hn (F i) _ hlen).clo
  rw[← aRelN_P] at h
  have:(((List.range n).map fun i=>(n,F i)).any fun _=>false)=false:=by simp
  rw[this] at h
  exact h
 have hn1:(n:Int)≤512:=by omega
 rw[aRelN_eq]
 generalize (List.range n).map (fun i=>aNs n (F i))=R at *
 refine PC.enter 14 [.tmp 2] [1] Proofs.Tryz.func46 rfl rfl rfl rfl rfl (by simp) (AWp.of ?_);simp only[go_sem]
 refine W2 hlen hn1 ?_
 refine Sd ?_
 refine GCall.use (ab false) (fun _=>⟨At,(h1).val.use ⟨rfl,rfl⟩⟩) ?_;simp only[go_sem,hlen,hn1]
 refine Sd ?_
 refine W2 hlen hn1 ?_
 refine ret_eq ?_;simp only[go_sem]
theorem filR_get {f:Nat→Bool} {n k:Nat} (h:k<(filR f n).length):∃j,(filR f n).getD k .any=ai (j:Nat)∧j<n∧f j=true:=by
 unfold filR at *
 rw[List.length_map] at h
 have hm:=List.getElem_mem h
 obtain⟨h1,h2⟩:=List.mem_filter.1 hm
 exact⟨_,by rw[List.getD_eq_getElem?_getD,List.getElem?_map,List.getElem?_eq_getElem h];rfl,List.mem_range.1 h1,h2⟩
theorem poset_Valid (n:Nat) (hn:n≤512) (F:Nat→Nat→Bool) (hirr:∀i,i<n→F i i=false) (htr:∀i j k,i<n→j<n→k<n→F i j=true→F j k=true→F i k=true):PC Proofs.Tryz.prog 10 [aRelN n F] (ab true):=by
 have h1:=relation_Valid n hn F
 have hlen:((List.range n).map fun i=>aNs n (F i)).length=n:=by simp
 have hg:∀i,i<n→((List.range n).map fun i=>aNs n (F i)).getD i .any=aNs n (F i):=fun i hi=>map_range_getD hi _
 have hm:=fun i=>bits_Members n hn (F i)
 have hs:∀i j,i<n→j<n→F i j=true→PC Proofs.Tryz.prog 47 [aNs n (F j),aNs n (F i)] (ab true):=fun i j hi hj h=>by
  have:=bits_Subset n hn (F j) (F i)
  have e:subN n (F j) (F i)=true:=by
   unfold subN
   rw[List.all_eq_true]
   intro k hk
   cases h2:F j k with
   | false=>rfl
   | true=>rw[htr i j k hi hj (List.mem_range.1 hk) h h2];rfl
  rwa [e] at this
 rw[aRelN_eq] at *
 generalize (List.range n).map (fun i=>aNs n (F i))=R at *
 refine PC.enter 46 [.tmp 2] [1,4] Proofs.Tryz.func10 rfl rfl rfl rfl rfl (by simp) (AWp.of ?_);simp only[go_sem]
 refine Wk ?_
 refine Sd ?_
 refine(h1).val.use ?_;simp only[go_sem]
 refine W1 hlen ?_
 refine AWp.range' n [] [1,13,14] (fun i vs L=>vs=[]∧L=[]) (by omega) rfl rfl rfl ⟨rfl,rfl⟩ ?_ ?_
 ·rintro i vs L hi - ⟨rfl,rfl⟩
  have hgi:=hg i hi
  have hmi:=hm i
  have hsi:=fun j=>hs i j hi
  have hir:=hirr i hi
  have hfl:=filR_len (f:=F i) (j:=n)
  have hfg:=fun k h=>filR_get (f:=F i) (n:=n) (k:=k) h
  have hgj:=fun j hj=>hg j hj
  rw[aNs_eq n (F i)] at hgi hmi hsi
  generalize (wordsF (F i) n n).map (fun w:Nat=>au64 (w:Int))=W at *
  generalize hF:filR (F i) n=M at *
  simp only[go_sem]
  refine W1 hgi ?_
  intros
  refine W1 hgi ?_
  refine Sd ?_
  refine(hmi).val.use ?_;simp only[go_sem]
  refine Wk ?_
  refine AWp.range' M.length [] [1,3,4,13,14,15,25,26] (fun i vs L=>vs=[]∧L=[]) (by omega) rfl rfl rfl ⟨rfl,rfl⟩ ?_ ?_
  ·rintro k vs L hk - ⟨rfl,rfl⟩
   obtain⟨j,hj,hjn,hf⟩:=hfg k hk
   have hsj:=hsi j hjn hf
   have hgj2:=hgj j hjn
   have hne:¬((j:Nat):Int)=i:=fun e=>by
    have:j=i:=by omega
    subst this
    rw[hir] at hf;cases hf
   rw[aNs_eq n (F j)] at hsj hgj2
   generalize (wordsF (F j) n n).map (fun w:Nat=>au64 (w:Int))=V at *
   simp only[go_sem]
   refine W1 hj ?_
   repeat(first|(with_reducible refine AWp.seq ?_)|(with_reducible refine AWp.block ?_))
   refine AWp.mix mixed [0,1,2,3,4,5,6,7,8,9,10,11,12] .done (by kernel_rfl) ?_;simp only[go_sem,hj,hne,hgj2,hlen]
   refine Sd ?_
   refine Sd ?_
   refine GCall.use (ab true) (fun _=>⟨At,(hsj).val.use ⟨rfl,rfl⟩⟩) ?_;simp only[go_sem,hlen]
   refine Sd ?_
   refine Wk ?_
   exact⟨_,List.Sublist.refl _,rfl⟩
  ·rintro vs L - ⟨rfl,rfl⟩
   simp only[go_sem]
   refine Wk ?_
   exact⟨_,List.Sublist.refl _,rfl⟩
 ·rintro vs L - ⟨rfl,rfl⟩
  simp only[go_sem]
  refine Wk ?_
  refine ret_eq ?_;simp only[go_sem]
end Go.AL
end
