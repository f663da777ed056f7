/- Texts of this claim's proof: WY13, WY14, WY15, WY16, WU15, WY23, WY24, WZ5, WJ1, WY4, WY25, WZ8, WJ2. No condition. -/
import Derived.Test.YtjblppbkhgihoaaGreatDoorM15
import Derived.Test.YtjblppbkhgihoaaGreatDoorM14
import Derived.Test.YtjblppbkhgihoaaGreatDoorM13
import Derived.Test.YtjblppbkhgihoaaGreatDoorM10
import Derived.Test.YtjblppbkhgihoaaGreatDoorM12
import Derived.Test.YtjblppbkhgihoaaGreatDoorM9
section
namespace Go.AL
open Go Go.RowKit
set_option maxRecDepth 4000
section
variable {ps:List Pr} (hv:validF ps=true)
include hv
theorem rdy_pt {c:List Int} (hc:isF ps c=true) {p:Nat} (hp:p<ps.length) (hn:cAt c p<nev ps p):rdyF ps c p=true↔∀q:Nat,q<ps.length→q ≠ p→cAt (ptF ps p (cAt c p).toNat) q≤cAt c q:=by
 obtain⟨hl,hr,_⟩:=isF_iff.1 hc
 have h0:=((inRange_iff hl).1 hr p hp).1
 constructor
 ·intro h q hq hqp
  have h1:=pt_least hv hp (i:=(cAt c p).toNat) (rdy_is h) (by rw[stpC_at hc hp,if_pos rfl];omega) q hq
  rw[stpC_at hc hq,if_neg fun e=>hqp e.symm] at h1
  exact h1
 ·intro h
  have hi:(cAt c p).toNat<nev ps p:=by omega
  have hpt:=pt_isN hv hp hi
  have hptl:=(isF_iff.1 hpt).1
  have hself:=pt_self hv hp hi
  have hj:joinL c (ptF ps p (cAt c p).toNat)=stpC c p:=by
   refine List.ext_getElem (by rw[join_len (by omega)];unfold stpC;rw[List.length_set]) fun q h1 h2 => ?_
   have hq:q<ps.length:=by rw[join_len (by omega)] at h1;omega
   rw[← cAt_nat,← cAt_nat,join_cAt (by omega) (by omega),stpC_at hc hq]
   by_cases e:p=q
   ·subst e;rw[if_pos rfl,hself];split <;> omega
   ·rw[if_neg e,if_neg]
    have:=h q hq (fun e'=>e e'.symm)
    omega
  have hu:isF ps (joinL c (ptF ps p (cAt c p).toNat))=true:=(isF_given hv).1 (join_given ((isF_given hv).2 hc) ((isF_given hv).2 hpt))
  rw[hj] at hu
  unfold rdyF
  exact decide_eq_true ⟨hn,hu⟩
variable (hs:Sm ps)
include hs
end
theorem PC.nilB {P:Program} {f:FuncId} {a r:AV} {k:Nat} (h:PC P f [a,.sl k []] r):PC P f [a,anil] r:=⟨h.1,fun n w A vs hL hr=>by
 obtain⟨u,us',rfl,h1,h2⟩:=hr.inv_cons
 obtain⟨u2,us2,rfl,h3,h4⟩:=h2.inv_cons
 obtain rfl:=h4.inv_nil
 cases h3
 exact h.2 n w A _ hL (.cons h1 (.cons (.sl0 k none 0 (by decide)) .nil))⟩
theorem causality_checkOk (ps:List Pr) (hs:Sm ps) (hv:validF ps=true) (l:List Eid) (hl:l.length≤1000000) (h:∀x ∈ l,eidOk ps x=true):PC Proofs.Tryz.prog 24 [aTr ps,.sl 2 (l.map aEid)] (ai 0):=by
 have h1:=trace_Valid ps hs
 rw[hv] at h1
 refine PC.enter 21 [.tmp 4] [2,6] Proofs.Tryz.func24 rfl rfl rfl rfl rfl (by simp) (AWp.of ?_);simp only[go_sem]
 refine Wk ?_
 refine Sd ?_
 refine(h1).val.use ?_;simp only[go_sem]
 refine Wk ?_
 refine AWp.range' l.length [] [2,10,11] (fun k vs L=>L=[]) (by omega) rfl rfl rfl rfl ?_ ?_
 ·rintro k vs L hk - rfl
  have hg:=getD_map (f:=aEid) hk
  have h2:=causality_exists ps hs l[k]
  rw[h _ (List.getElem_mem hk)] at h2
  obtain⟨x1,x2,hx⟩:∃x1 x2,l[k]=(x1,x2):=⟨_,_,rfl⟩
  rw[hx] at hg h2
  change _=AV.agg [ai x1,ai x2] at hg
  change PC _ _ [_,.agg [ai x1,ai x2]] _ at h2
  simp only[go_sem]
  refine W1 hg ?_
  intro b6
  refine Wk ?_
  refine Sd ?_
  refine(h2).val.use ?_;simp only[go_sem]
  refine Wk ?_
  exact⟨_,List.Sublist.refl _,rfl⟩
 ·rintro vs L - rfl
  simp only[go_sem]
  refine Wk ?_
  refine ret_eq ?_;simp only[go_sem]
def evE (ps:List Pr) (k:Nat):Eid:=match (evIds ps)[k]? with|some x=>x.1|none=>(0,0)
theorem evE_at {ps:List Pr} {p i:Nat} (hp:p<ps.length) (hi:i<ps[p].evs.length):evE ps (off ps p+i)=((p:Int),(i:Int)+1):=by
 unfold evE
 rw[evIds_get hp hi]
theorem num_form {ps:List Pr} : ∀(n:Nat),n≤ps.length→∀ {k:Nat},k<off ps n→∃p i:Nat,∃hp:p<ps.length,i<ps[p].evs.length∧k=off ps p+i
 | 0,_,k,h=>by simp [off] at h
 | n+1,hn,k,h=>by
  rw[off_succ (show n<ps.length by omega)] at h
  by_cases e:k<off ps n
  ·exact num_form n (by omega) e
  ·exact⟨n,k - off ps n,by omega,by omega,by omega⟩
def ordX (ps:List Pr) (S:Nat→List (List Int)) (i j:Nat):Bool:=!decide (i=j) && decide ((evE ps i).2≤(stOf S (evE ps j).1.toNat (evE ps j).2.toNat).getD (evE ps i).1.toNat 0)
def relX (ps:List Pr) (S:Nat→List (List Int)):List (List Nat):=(List.range (off ps ps.length)).map fun i=>wordsF (ordX ps S i) (off ps ps.length) (off ps ps.length)
def filR (f:Nat→Bool) (j:Nat):List AV:=((List.range j).filter f).map fun j:Nat=>ai j
theorem filR_succ {f:Nat→Bool} {j:Nat} : filR f (j+1)=filR f j ++ if f j=true then [ai j] else []:=by
 unfold filR
 rw[List.range_succ,List.filter_append,List.map_append]
 congr 1
 by_cases h:f j=true
 ·rw[if_pos h,List.filter_cons_of_pos h];rfl
 ·rw[if_neg h,List.filter_cons_of_neg h];rfl
theorem filR_len {f:Nat→Bool} {j:Nat} : (filR f j).length≤j:=by
 unfold filR
 rw[List.length_map]
 exact Nat.le_trans (List.length_filter_le _ _) (by rw[List.length_range];exact Nat.le_refl _)
theorem ntz_len:ntzAV.length=64:=rfl
def tzN (k:Nat):Nat:=(2 ^ k * 285870213051353865) % 18446744073709551616 / 288230376151711744
theorem tz_tab:∀k:Fin 64,tzN k.val<64∧ntzL.getD (tzN k.val) 0=(k.val:Int):=by decide +kernel
theorem tz_ok (k:Nat) (hk:k<64):tzN k<64∧ntzL.getD (tzN k) 0=(k:Int):=tz_tab ⟨k,hk⟩
theorem tz_eq (k:Nat):shrK .u64 (IntKind.u64.wrap (((2 ^ k:Nat):Int) * 285870213051353865)) 58=(tzN k:Nat):=by
 unfold tzN
 generalize 2 ^ k=a
 have h:IntKind.u64.wrap ((a:Int) * 285870213051353865)=((a * 285870213051353865 % 18446744073709551616:Nat):Int):=by
  rw[IntKind.wrap_u64];omega
 rw[h]
 exact shr_nat (b:=58) (by decide)
theorem ntz_get {i:Nat} (h:i<64):ntzAV.getD i .any = .v (.int .u8 (ntzL.getD i 0)):=by
 have hl:i<ntzL.length:=h
 unfold ntzAV
 rw[List.getD_eq_getElem?_getD,List.getElem?_map,List.getElem?_eq_getElem hl,List.getD_eq_getElem?_getD,List.getElem?_eq_getElem hl];rfl
theorem tz_ops {x k:Nat} (hx:x<2 ^ 64) (hk:x.testBit k=true) (hl:∀i,i<k→x.testBit i=false):∃(x1 x2 z:Int) (y:Nat),¬((x:Nat):Int)=0∧IntKind.u64.wrap (-((x:Nat):Int))=x1∧andK .u64 (x:Nat) x1=x2∧IntKind.u64.wrap (x2 * 285870213051353865)=z∧shrK .u64 z 58=(y:Nat)∧y<64 ∧
  ntzAV.getD y .any = .v (.int .u8 k)∧IntKind.i64.wrap ((k:Nat):Int)=(k:Nat):=by
 obtain⟨hk64,_⟩:=low_split hx hk hl
 have hpos:=(low_off hx hk hl).2
 obtain⟨t6,t3⟩:=tz_ok k hk64
 have hg:=ntz_get t6
 rw[t3] at hg
 refine⟨((2 ^ 64 - x:Nat):Int),((2 ^ k:Nat):Int),_,tzN k,by omega,?_,?_,rfl,tz_eq k,t6,hg,IntWalk.i64_in _ (by omega)⟩
 ·rw[IntKind.wrap_u64];omega
 ·rw[and_nat hx (by omega),low_neg hx hk hl]
theorem bits_tz {x k:Nat} (hx:x<2 ^ 64) (hk:x.testBit k=true) (hl:∀i,i<k→x.testBit i=false):PC Proofs.Tryz.prog 96 [au64 (x:Nat)] (ai k):=by
 obtain⟨x1,x2,z,y,h1,h2,h3,hz,hy,t6,hg,h5⟩:=tz_ops hx hk hl
 clear hx hk hl
 generalize ((x:Nat):Int)=x0 at *
 refine PC.enter 14 [.tmp 2] [] Proofs.Tryz.func96 rfl rfl rfl rfl rfl (by simp) (AWp.of ?_);simp only[go_sem]
 refine Sd ?_
 refine AWp.of ?_;simp only[go_sem,h1]
 refine AWp.cond (t:=false) rfl (fun h=>by cases h) fun _ => ?_
 refine Sd ?_
 refine AWp.of ?_;simp only[go_sem]
 refine AWp.seq (AWp.regionN ?_)
 simp only[go_sem,h2,h3,hz,hy,GV,ntz_len,hg,h5]
 refine⟨by decide,⟨by omega,by omega⟩,t6,?_⟩
 refine Wk ?_
 refine ret_eq ?_;simp only[go_sem]
theorem low_word {f:Nat→Bool} {n w j x:Nat} (hw:w<nW n) (hj:64 * w≤j) (hx:x<n) (hxw:x / 64=w) (hjx:j≤x) (hf:f x=true) (hno:∀i,j≤i→i<x→f i=false) :
  (wordOf (fun i=>decide (j≤i) && f i) w n).testBit (x % 64)=true∧∀i,i<x % 64→(wordOf (fun i=>decide (j≤i) && f i) w n).testBit i=false:=by
 refine⟨?_,fun i hi => ?_⟩
 ·rw[bit_word (by omega),show 64 * w+x % 64=x by omega,decide_eq_true hx,decide_eq_true hjx,hf];rfl
 ·rw[bit_word (by omega)]
  by_cases h:j≤64 * w+i
  ·rw[hno _ h (by omega),Bool.and_false,Bool.and_false]
  ·rw[decide_eq_false h,Bool.false_and,Bool.and_false]
theorem next_word {f:Nat→Bool} {n w j x:Nat} (hx:x<n) (hxw:x / 64=w) (hjx:j≤x) (hf:f x=true) (hno:∀i,j≤i→i<x→f i=false) (h1:(wordOf (fun i=>decide (j≤i) && f i) w n).testBit (x % 64)=true) (h2:∀i,i<x % 64→(wordOf (fun i=>decide (j≤i) && f i) w n).testBit i=false) :
  wordOf (fun i=>decide (j≤i) && f i) w n &&& (wordOf (fun i=>decide (j≤i) && f i) w n - 1)=wordOf (fun i=>decide (x+1≤i) && f i) w n:=by
 refine word_ext (Nat.lt_of_le_of_lt Nat.and_le_left word_big) word_big fun b hb => ?_
 rw[(low_off word_big h1 h2).1,bit_word hb,bit_word hb]
 by_cases e:b=x % 64
 ·rw[decide_eq_true e,Bool.not_true,Bool.and_false,decide_eq_false (show ¬x+1≤64 * w+b by omega),Bool.false_and,Bool.and_false]
 ·rw[decide_eq_false e,Bool.not_false,Bool.and_true]
  congr 1
  by_cases h:x+1≤64 * w+b
  ·rw[decide_eq_true h,decide_eq_true (show j≤64 * w+b by omega)]
  ·rw[decide_eq_false h,Bool.false_and]
   by_cases g:j≤64 * w+b
   ·rw[hno _ g (by omega),Bool.and_false]
   ·rw[decide_eq_false g,Bool.false_and]
theorem zero_word {f:Nat→Bool} {n w j:Nat} (h:wordOf (fun i=>decide (j≤i) && f i) w n=0):∀i,i<n→i / 64=w→j≤i→f i=false:=fun i hi hw hj=>by
 have:=bit_word (f:=fun i=>decide (j≤i) && f i) (w:=w) (b:=i % 64) (by omega) (j:=n)
 rw[h,Nat.zero_testBit,show 64 * w+i % 64=i by omega,decide_eq_true hi,decide_eq_true hj] at this
 simpa using this.symm
theorem some_word {f:Nat→Bool} {n w j:Nat} (h:wordOf (fun i=>decide (j≤i) && f i) w n ≠ 0):∃x,x<n∧x / 64=w∧j≤x∧f x=true∧∀i,j≤i→i<x→i / 64=w→f i=false:=by
 have hex:∃x,x<n∧x / 64=w∧j≤x∧f x=true:=by
  apply Classical.byContradiction
  intro hn
  refine h (word_ext word_big (by decide) fun b hb => ?_)
  rw[bit_word hb,Nat.zero_testBit]
  by_cases h1:64 * w+b<n
  ·by_cases h2:j≤64 * w+b
   ·cases hf:f (64 * w+b) with
    | false=>simp
    | true=>exact absurd ⟨64 * w+b,h1,by omega,h2,hf⟩ hn
   ·rw[decide_eq_false h2];simp
  ·rw[decide_eq_false h1];rfl
 obtain⟨x,⟨h1,h2,h3,h4⟩,hmin⟩:=least hex
 refine⟨x,h1,h2,h3,h4,fun i hj hi hw => ?_⟩
 cases hf:f i with
 | false=>rfl
 | true=>have:=hmin i ⟨by omega,hw,hj,hf⟩;omega
theorem filR_skip {f:Nat→Bool} {j:Nat} : ∀ {x:Nat},j≤x→(∀i,j≤i→i<x→f i=false)→filR f x=filR f j
 | 0,h,_=>by have:j=0:=by omega
             subst this;rfl
 | x+1,h,hf=>by
  by_cases e:j=x+1
  ·subst e;rfl
  ·rw[filR_succ,hf x (by omega) (by omega),if_neg (by decide),List.append_nil]
   exact filR_skip (by omega) fun i h1 h2=>hf i h1 (by omega)
theorem bits_Members (n:Nat) (hn:n≤512) (f:Nat→Bool):PC Proofs.Tryz.prog 73 [aNs n f] (.tup [.sl 1 (filR f n),ai 0]):=by
 have h1:=bits_Valid n hn f
 have hln:=wds_len n f
 have hg:=fun k (hk:k<nW n)=>wds_get (n:=n) (f:=f) hk
 have hnW:nW n≤1000000:=by unfold nW;omega
 rw[aNs_eq] at *
 generalize (wordsF f n n).map (fun w:Nat=>au64 (w:Int))=W at *
 refine PC.enter 34 [.tmp 2,.tmp 3] [1,30] Proofs.Tryz.func73 rfl rfl rfl rfl rfl (by simp) (AWp.of ?_);simp only[go_sem]
 refine Wk ?_
 refine Sd ?_
 refine(h1).val.use ?_;simp only[go_sem]
 refine W1 hln ?_
 refine AWp.range' (nW n) [4] [11,12] (fun w vs L=>∃v,vs=[v]∧AppSt 3 1 (filR f (min n (64 * w))) v L) (by omega) rfl rfl rfl ⟨anil,rfl,by rw[show min n (64 * 0)=0 by omega];exact .nil⟩ ?_ ?_
 ·rintro w vs L hw - ⟨v,rfl,hA⟩
  have hgw:=hg w hw
  have hw0:wordOf f w n=wordOf (fun i=>decide (64 * w≤i) && f i) w n:=by
   refine word_ext word_big word_big fun b hb => ?_
   rw[bit_word hb,bit_word hb,decide_eq_true (show 64 * w≤64 * w+b by omega),Bool.true_and]
  have hmin:min n (64 * w)=64 * w:=by unfold nW at hw;omega
  rw[hw0] at hgw
  rw[hmin] at hA
  have hfo:=hA.fo
  simp only[go_sem]
  refine W2 hgw hfo ?_
  refine AWp.block (AWp.loopN [4,6] [5,11,12,13] (fun m vs L=>∃(j:Nat) (v:AV),vs=[v,au64 ((wordOf (fun i=>decide (j≤i) && f i) w n:Nat):Int)]∧64 * w≤j∧j≤min n (64 * (w+1))∧AppSt 3 1 (filR f j) v L∧m=64 * (w+1) - j) _ ⟨64 * w,v,rfl,Nat.le_refl _,by unfold nW at hw;omega,hA,rfl⟩ ?_)
  rintro m vs L - ⟨j,v,rfl,hj0,hj1,hA,rfl⟩
  by_cases hz:wordOf (fun i=>decide (j≤i) && f i) w n=0
  ·have hno:=zero_word hz
   have hsk:filR f (min n (64 * (w+1)))=filR f j:=filR_skip hj1 fun i h1 h2=>hno i (by omega) (by omega) h1
   have hfo:=hA.fo
   rw[hz]
   simp only[go_sem]
   refine W1 hfo ?_
   intro _
   exact⟨_,List.Sublist.refl _,_,rfl,by rw[hsk];exact hA⟩
  ·obtain⟨x,hx,hxw,hjx,hfx,hno⟩:=some_word hz
   have hno:=fun i h1 h2=>hno i h1 h2 (by omega)
   obtain⟨l1,l2⟩:=low_word hw hj0 hx hxw hjx hfx hno
   have hnx:=next_word hx hxw hjx hfx hno l1 l2
   have htz:=bits_tz word_big l1 l2
   have hsk:=filR_skip hjx hno
   have hsu:=filR_succ (f:=f) (j:=x)
   rw[hsk,if_pos hfx] at hsu
   have hwb:=word_big (f:=fun i=>decide (j≤i) && f i) (w:=w) (j:=n)
   have hne:¬((wordOf (fun i=>decide (j≤i) && f i) w n:Nat):Int)=0:=by omega
   have hsub:IntKind.u64.wrap (((wordOf (fun i=>decide (j≤i) && f i) w n:Nat):Int) - 1)=((wordOf (fun i=>decide (j≤i) && f i) w n - 1:Nat):Int):=by
    rw[IntKind.wrap_u64];omega
   have hand:=and_nat (x:=wordOf (fun i=>decide (j≤i) && f i) w n) (y:=wordOf (fun i=>decide (j≤i) && f i) w n - 1) hwb (by omega)
   rw[hnx] at hand
   have hval:((w:Nat):Int) * 64+((x % 64:Nat):Int)=((x:Nat):Int):=by omega
   have hyl:=filR_len (f:=f) (j:=j)
   have hmu:mulW (w:Int) 64=(w:Int) * 64:=IntWalk.i64_in _ (by unfold nW at hw;omega)
   have hjn:j≤512:=by omega
   have hw9:w≤9:=by unfold nW at hw;omega
   rw[← hsub] at hand
   generalize hx0:((wordOf (fun i=>decide (j≤i) && f i) w n:Nat):Int)=x0 at *
   generalize hx1:IntKind.u64.wrap (x0 - 1)=x1 at *
   generalize hzz:((x % 64:Nat):Int)=z at *
   have hz0:0≤z:=by omega
   have hz1:z≤64:=by omega
   generalize filR f j=ys at *
   rcases hA.inv with ⟨e1,rfl,rfl⟩|⟨bq,cq,rfl,rfl⟩
   ·simp only[go_sem]
    refine W1 hne ?_
    refine Sd ?_
    refine(htz).val.use ?_;simp only[go_sem,hne]
    refine W4 hmu hval hx1 hand ?_
    refine Sd ?_
    intro b' cap' g8
    refine W4 hmu hval hx1 hand ?_
    exact⟨_,List.Sublist.refl _,64 * (w+1) - (x+1),by omega,x+1,_,rfl,by omega,by omega,by rw[hsu,e1];exact .row _ _ _,rfl⟩
   ·simp only[go_sem]
    refine W1 hne ?_
    refine Sd ?_
    refine(htz).val.use ?_;simp only[go_sem,hne]
    refine W4 hmu hval hx1 hand ?_
    refine Sd ?_
    intro b' cap' g8
    refine W4 hmu hval hx1 hand ?_
    exact⟨_,List.Sublist.refl _,64 * (w+1) - (x+1),by omega,x+1,_,rfl,by omega,by omega,by rw[hsu];exact AppSt.snoc _ _ _ rfl,rfl⟩
 ·rintro vs L - ⟨v,rfl,hA⟩
  have hmin:min n (64 * nW n)=n:=by unfold nW;omega
  rw[hmin] at hA
  generalize filR f n=ys at *
  rcases hA.inv with ⟨e3,rfl,rfl⟩|⟨bq,cap,rfl,rfl⟩
  ·simp only[go_sem]
   refine Wk ?_
   refine ret_view [] ?_;simp only[go_sem]
   rw[e3]
   exact .mkTup (Vws.cons (.nil 1) (Vws.refl _))
  ·simp only[go_sem]
   refine Wk ?_
   refine ret_view [true] ?_;simp only[go_sem]
   exact .mkTup (Vws.cons (Vw.ofLs (if_pos rfl) rfl) (Vws.refl _))
def wstep (k:Nat) (f:Nat→Nat→Bool):Nat→Nat→Bool:=fun i j=>f i j || (f i k && f k j)
def warF:Nat→(Nat→Nat→Bool)→Nat→Nat→Bool
 | 0,f=>f
 | k+1,f=>wstep k (warF k f)
inductive PthK (f:Nat→Nat→Bool) (k:Nat):Nat→Nat→Prop
 | one {i j:Nat} : f i j=true→PthK f k i j
 | cons {i m j:Nat} : f i m=true→m<k→PthK f k m j→PthK f k i j
theorem PthK.mono {f:Nat→Nat→Bool} {k k':Nat} (h:k≤k') {i j:Nat} (p:PthK f k i j):PthK f k' i j:=by
 induction p with
 | one h1=>exact .one h1
 | cons h1 h2 _ ih=>exact .cons h1 (by omega) ih
theorem PthK.app {f:Nat→Nat→Bool} {k i m j:Nat} (p:PthK f k i m) (hm:m<k) (q:PthK f k m j):PthK f k i j:=by
 induction p with
 | one h1=>exact .cons h1 hm q
 | cons h1 h2 _ ih=>exact .cons h1 h2 (ih hm q)
theorem war_iff {f:Nat→Nat→Bool} : ∀ {k i j:Nat},warF k f i j=true↔PthK f k i j
 | 0,i,j=>by
  constructor
  ·exact .one
  ·intro p
   cases p with
   | one h=>exact h
   | cons _ h _=>omega
 | k+1,i,j=>by
  show (warF k f i j || (warF k f i k && warF k f k j))=true↔_
  rw[Bool.or_eq_true,Bool.and_eq_true,war_iff,war_iff,war_iff]
  constructor
  ·rintro(h|⟨h1,h2⟩)
   ·exact h.mono (Nat.le_succ k)
   ·exact(h1.mono (Nat.le_succ k)).app (Nat.lt_succ_self k) (h2.mono (Nat.le_succ k))
  ·intro p
   induction p with
   | one h=>exact .inl (.one h)
   | @cons i m j h1 h2 _ ih =>
    by_cases e:m=k
    ·subst e
     rcases ih with h|⟨_,h⟩
     ·exact .inr ⟨.one h1,h⟩
     ·exact .inr ⟨.one h1,h⟩
    ·have hm:m<k:=by omega
     rcases ih with h|⟨g1,g2⟩
     ·exact .inl (.cons h1 hm h)
     ·exact .inr ⟨.cons h1 hm g1,g2⟩
theorem war_trans {f:Nat→Nat→Bool} {n:Nat} (hf:∀i j,f i j=true→i<n∧j<n) {i j:Nat} : warF n f i j=true↔Relation.TransGen (fun a b=>f a b=true) i j:=by
 rw[war_iff]
 constructor
 ·intro p
  induction p with
  | one h=>exact .single h
  | cons h1 _ _ ih=>exact Relation.TransGen.trans (.single h1) ih
 ·intro t
  induction t with
  | single h=>exact .one h
  | tail _ h ih=>exact ih.app (hf _ _ h).1 (.one h)
section
variable {tO tI:TypeId} {k n:Nat} {Y:Nat→List AV} {v:AV} {L:AHeap}
theorem FamS.one (h:FamS tO tI k n Y v L) {p:Nat} (hp:p<n) (hY:Y p ≠ []) :
  ∃bo cap V bp cp X,v = .ls bo 1 0 n cap∧V.length=n∧V.getD p .any = .ls bp k 0 (Y p).length cp∧L.Perm ((bo,.row tO 1 V cap) :: (bp,.row tI k (Y p) cp) :: X) ∧
   ∀(Y':Nat→List AV) (L':AHeap),(∀q,q ≠ p→Y' q=Y q)→(Y' p).length=(Y p).length→L'.Perm ((bo,.row tO 1 V cap) :: (bp,.row tI k (Y' p) cp) :: X)→FamS tO tI k n Y' v L':=by
 obtain⟨bo,cap,V,Ls,h1,h2,h3,h4⟩:=h.open hp
 rcases h3.inv with ⟨e1,_,_⟩|⟨bp,cp,e2,e3⟩
 ·exact absurd e1 hY
 ·refine⟨bo,cap,(List.range n).map V,bp,cp,famR n p Ls,h1,by simp,by rw[map_range_getD hp,e2],by rw[e3] at h2;exact h2,fun Y' L' hq hl hL => ?_⟩
  refine h4 Y' (V p) [(bp,.row tI k (Y' p) cp)] L' hq ?_ ?_
  ·rw[e2,← hl];exact .row _ _ _
  ·have:((List.range n).map V).set p (V p)=(List.range n).map V:=by
    rw[map_range_set]
    exact List.map_congr_left fun q _=>by split <;> simp_all
   rw[this];exact hL
end
def bRow (n:Nat) (f:Nat→Bool):List AV:=(List.range n).map fun j=>ab (f j)
theorem bRow_len {n:Nat} {f:Nat→Bool} : (bRow n f).length=n:=by simp [bRow]
theorem bRow_get {n j:Nat} {f:Nat→Bool} (h:j<n):(bRow n f).getD j .any=ab (f j):=map_range_getD h _
theorem bRow_congr {n:Nat} {f g:Nat→Bool} (h:∀j,j<n→f j=g j):bRow n f=bRow n g:=List.map_congr_left fun j hj=>by rw[h j (List.mem_range.1 hj)]
theorem bRow_set {n j:Nat} {f g:Nat→Bool} (h:∀i,i ≠ j→g i=f i):bRow n g=(bRow n f).set j (ab (g j)):=by
 unfold bRow
 rw[map_range_set]
 refine List.map_congr_left fun i _ => ?_
 by_cases e:i=j
 ·rw[if_pos e,e]
 ·rw[if_neg e,h i e]
theorem bRow_fill {n:Nat} : bRow n (fun _=>false)=List.replicate n (ab false):=by
 unfold bRow
 rw[List.eq_replicate_iff]
 refine⟨by simp,fun b hb => ?_⟩
 obtain⟨k,_,rfl⟩:=List.mem_map.1 hb
 rfl
def aNsP (x:Nat × (Nat→Bool)):AV:=.agg [ai x.1,.sl 1 ((wordsF x.2 x.1 x.1).map fun w:Nat=>au64 (w:Int))]
def aNss (l:List (Nat × (Nat→Bool))):AV:=.sl 2 (l.map aNsP)
theorem nsets_indexFunc (l:List (Nat × (Nat→Bool))) (hl:l.length≤1000000) (g:AV) (hgf:fo g=(True,g)) (p:(Nat × (Nat→Bool))→Bool) (hg:∀x ∈ l,PV Proofs.Tryz.prog g [aNsP x] (ab (p x))) :
  PC Proofs.Tryz.prog 126 [aNss l,g] (ai (match l.findIdx? p with|some i=>(i:Int)|none => -1)):=by
 refine PC.enter 19 [.tmp 4] [] Proofs.Tryz.func126 rfl rfl rfl rfl rfl (by simp) (AWp.of ?_);simp only[go_sem]
 refine Sd ?_
 refine AWp.of ?_;simp only[go_sem,aNss]
 refine AWp.range' l.length [] [0,1,7] (fun k vs L=>L=[]∧∀i (h:i<l.length),i<k→p l[i]=false) (by omega) rfl rfl rfl ⟨rfl,by omega⟩ ?_ ?_
 ·rintro k vs L' hk hvs ⟨rfl,hI⟩
  simp only[go_sem]
  refine Sd ?_
  refine AWp.of ?_;simp only[go_sem]
  have hgk:=hg l[k] (List.getElem_mem hk)
  try simp only[go_sem,aNsP] at hgk
  refine Sd ?_
  refine AWp.of ?_;simp only[go_sem,getD_map hk,hgf,aNsP]
  refine⟨⟨by omega,by omega⟩,hk,hgk.use (AWp.of ?_)⟩;simp only[go_sem]
  refine⟨fun ht => ?_,fun hf => ?_⟩
  ·refine Sd ?_
   refine AWp.of ?_;simp only[go_sem]
   refine ret_eq ?_;simp only[go_sem]
   have:l.findIdx? p=some k:=by rw[List.findIdx?_eq_some_iff_getElem];exact⟨hk,ht,fun j hj=>by simpa using hI j (by omega) hj⟩
   rw[this]
  ·refine⟨[],List.Sublist.refl _,rfl,fun i h hi => ?_⟩
   by_cases e:i=k
   ·subst e;exact hf
   ·exact hI i h (by omega)
 ·rintro vs L' hvs ⟨rfl,hI⟩
  simp only[go_sem]
  refine Sd ?_
  refine AWp.of ?_;simp only[go_sem]
  refine Sd ?_
  refine AWp.of ?_;simp only[go_sem]
  refine ret_eq ?_;simp only[go_sem]
  have:l.findIdx? p=none:=by rw[List.findIdx?_eq_none_iff];intro x hx;obtain⟨i,hi,rfl⟩:=List.getElem_of_mem hx;exact hI i hi hi
  rw[this]
theorem nsets_containsFunc (l:List (Nat × (Nat→Bool))) (hl:l.length≤1000000) (g:AV) (hgf:fo g=(True,g)) (p:(Nat × (Nat→Bool))→Bool) (hg:∀x ∈ l,PV Proofs.Tryz.prog g [aNsP x] (ab (p x))) :
  PC Proofs.Tryz.prog 114 [aNss l,g] (ab (l.any p)):=by
 refine PC.enter 9 [.tmp 4] [] Proofs.Tryz.func114 rfl rfl rfl rfl rfl (by simp) (AWp.of ?_);simp only[go_sem]
 refine Sd ?_
 refine AWp.of ?_;simp only[go_sem,hgf,aNss]
 refine(nsets_indexFunc l hl g hgf p hg).val.use ?_
 simp only[go_sem]
 refine Sd ?_
 refine AWp.of ?_;simp only[go_sem]
 refine ret_eq ?_;simp only[go_sem]
 congr 2;exact findIdx_any l p
def aRelN (n:Nat) (F:Nat→Nat→Bool):AV:=.agg [.sl 2 ((List.range n).map fun i=>aNs n (F i))]
theorem aRelN_eq (n:Nat) (F:Nat→Nat→Bool):aRelN n F = .agg [.sl 2 ((List.range n).map fun i=>aNs n (F i))]:=rfl
theorem aRelN_R (n:Nat) (F:Nat→Nat→Bool):aRelR n ((List.range n).map fun i=>wordsF (F i) n n)=aRelN n F:=by
 unfold aRelR aRelN
 rw[List.map_map];rfl
theorem aRelN_P (n:Nat) (F:Nat→Nat→Bool) : .sl 2 ((List.range n).map fun i=>aNs n (F i))=aNss ((List.range n).map fun i=>(n,F i)):=by
 unfold aNss
 rw[List.map_map];rfl
theorem relation_Valid1 (n:Nat) (hn:n≤512) (f:Nat→Bool) (xs:List AV) (hx:xs.length=n):PC Proofs.Tryz.prog 115 [aNs n f,.rp 1 [.agg [.sl 2 xs]] 0 0] (ab false):=by
 have h1:=bits_Valid n hn f
 rw[aNs_eq] at *
 generalize (wordsF f n n).map (fun w:Nat=>au64 (w:Int))=W at *
 refine PC.enter 15 [.tmp 3] [2] Proofs.Tryz.func115 rfl rfl rfl rfl rfl (by simp) (AWp.of ?_);simp only[go_sem]
 refine W1 hx ?_
 refine Sd ?_
 refine GCall.use (ab true) (fun _=>⟨At,(h1).val.use ⟨rfl,rfl⟩⟩) ?_;simp only[go_sem,hx]
 refine Sd ?_
 refine W1 hx ?_
 refine ret_eq ?_;simp only[go_sem]
theorem relation_Valid (n:Nat) (hn:n≤512) (F:Nat→Nat→Bool):PC Proofs.Tryz.prog 92 [aRelN n F] (ab true):=by
 have hlen:((List.range n).map fun i=>aNs n (F i)).length=n:=by simp
 have h1:PC Proofs.Tryz.prog 114 [.sl 2 ((List.range n).map fun i=>aNs n (F i)),.clo 115 [.rp 1 [.agg [.sl 2 ((List.range n).map fun i=>aNs n (F i))]] 0 0]] (ab false):=by
  have h:=nsets_containsFunc ((List.range n).map fun i=>(n,F i)) (by simp;omega) (.clo 115 [.rp 1 [.agg [.sl 2 ((List.range n).map fun i=>aNs n (F i))]] 0 0]) rfl (fun _=>false) fun x hx=>by
   obtain⟨i,_,rfl⟩:=List.mem_map.1 hx
   exact(relation_Valid1 n hn (F i) _ hlen).clo
  rw[← aRelN_P] at h
  have:(((List.range n).map fun i=>(n,F i)).any fun _=>false)=false:=by simp
  rw[this] at h
  exact h
 have hn1:(n:Int)≤512:=by omega
 rw[aRelN_eq]
 generalize (List.range n).map (fun i=>aNs n (F i))=R at *
 refine PC.enter 14 [.tmp 2] [1] Proofs.Tryz.func92 rfl rfl rfl rfl rfl (by simp) (AWp.of ?_);simp only[go_sem]
 refine W2 hlen hn1 ?_
 refine Sd ?_
 refine GCall.use (ab false) (fun _=>⟨At,(h1).val.use ⟨rfl,rfl⟩⟩) ?_;simp only[go_sem,hlen,hn1]
 refine Sd ?_
 refine W2 hlen hn1 ?_
 refine ret_eq ?_;simp only[go_sem]
theorem filR_get {f:Nat→Bool} {n k:Nat} (h:k<(filR f n).length):∃j,(filR f n).getD k .any=ai (j:Nat)∧j<n∧f j=true:=by
 unfold filR at *
 rw[List.length_map] at h
 have hm:=List.getElem_mem h
 obtain⟨h1,h2⟩:=List.mem_filter.1 hm
 exact⟨_,by rw[List.getD_eq_getElem?_getD,List.getElem?_map,List.getElem?_eq_getElem h];rfl,List.mem_range.1 h1,h2⟩
theorem poset_Valid (n:Nat) (hn:n≤512) (F:Nat→Nat→Bool) (hirr:∀i,i<n→F i i=false) (htr:∀i j k,i<n→j<n→k<n→F i j=true→F j k=true→F i k=true):PC Proofs.Tryz.prog 70 [aRelN n F] (ab true):=by
 have h1:=relation_Valid n hn F
 have hlen:((List.range n).map fun i=>aNs n (F i)).length=n:=by simp
 have hg:∀i,i<n→((List.range n).map fun i=>aNs n (F i)).getD i .any=aNs n (F i):=fun i hi=>map_range_getD hi _
 have hm:=fun i=>bits_Members n hn (F i)
 have hs:∀i j,i<n→j<n→F i j=true→PC Proofs.Tryz.prog 93 [aNs n (F j),aNs n (F i)] (ab true):=fun i j hi hj h=>by
  have:=bits_Subset n hn (F j) (F i)
  have e:subN n (F j) (F i)=true:=by
   unfold subN
   rw[List.all_eq_true]
   intro k hk
   cases h2:F j k with
   | false=>rfl
   | true=>rw[htr i j k hi hj (List.mem_range.1 hk) h h2];rfl
  rwa [e] at this
 rw[aRelN_eq] at *
 generalize (List.range n).map (fun i=>aNs n (F i))=R at *
 refine PC.enter 46 [.tmp 2] [1,4] Proofs.Tryz.func70 rfl rfl rfl rfl rfl (by simp) (AWp.of ?_);simp only[go_sem]
 refine Wk ?_
 refine Sd ?_
 refine(h1).val.use ?_;simp only[go_sem]
 refine W1 hlen ?_
 refine AWp.range' n [] [1,13,14] (fun i vs L=>vs=[]∧L=[]) (by omega) rfl rfl rfl ⟨rfl,rfl⟩ ?_ ?_
 ·rintro i vs L hi - ⟨rfl,rfl⟩
  have hgi:=hg i hi
  have hmi:=hm i
  have hsi:=fun j=>hs i j hi
  have hir:=hirr i hi
  have hfl:=filR_len (f:=F i) (j:=n)
  have hfg:=fun k h=>filR_get (f:=F i) (n:=n) (k:=k) h
  have hgj:=fun j hj=>hg j hj
  rw[aNs_eq n (F i)] at hgi hmi hsi
  generalize (wordsF (F i) n n).map (fun w:Nat=>au64 (w:Int))=W at *
  generalize hF:filR (F i) n=M at *
  simp only[go_sem]
  refine W1 hgi ?_
  intros
  refine W1 hgi ?_
  refine Sd ?_
  refine(hmi).val.use ?_;simp only[go_sem]
  refine Wk ?_
  refine AWp.range' M.length [] [1,3,4,13,14,15,25,26] (fun i vs L=>vs=[]∧L=[]) (by omega) rfl rfl rfl ⟨rfl,rfl⟩ ?_ ?_
  ·rintro k vs L hk - ⟨rfl,rfl⟩
   obtain⟨j,hj,hjn,hf⟩:=hfg k hk
   have hsj:=hsi j hjn hf
   have hgj2:=hgj j hjn
   have hne:¬((j:Nat):Int)=i:=fun e=>by
    have:j=i:=by omega
    subst this
    rw[hir] at hf;cases hf
   rw[aNs_eq n (F j)] at hsj hgj2
   generalize (wordsF (F j) n n).map (fun w:Nat=>au64 (w:Int))=V at *
   simp only[go_sem]
   refine W1 hj ?_
   repeat(first|(with_reducible refine AWp.seq ?_)|(with_reducible refine AWp.block ?_))
   refine AWp.mix mixed [0,1,2,3,4,5,6,7,8,9,10,11,12] .done (by kernel_rfl) ?_;simp only[go_sem,hj,hne,hgj2,hlen]
   refine Sd ?_
   refine Sd ?_
   refine GCall.use (ab true) (fun _=>⟨At,(hsj).val.use ⟨rfl,rfl⟩⟩) ?_;simp only[go_sem,hlen]
   refine Sd ?_
   refine Wk ?_
   exact⟨_,List.Sublist.refl _,rfl⟩
  ·rintro vs L - ⟨rfl,rfl⟩
   simp only[go_sem]
   refine Wk ?_
   exact⟨_,List.Sublist.refl _,rfl⟩
 ·rintro vs L - ⟨rfl,rfl⟩
  simp only[go_sem]
  refine Wk ?_
  refine ret_eq ?_;simp only[go_sem]
def FamW (tO tI:TypeId) (N n:Nat) (Y:Nat→List AV) (v:AV) (L:AHeap):Prop :=
 ∃(Lv:AHeap) (V:Nat→AV) (Ls:Nat→AHeap),L.Perm (Lv ++ famL n Ls)∧AppSt tO 2 ((List.range n).map fun q => .agg [ai N,V q]) v Lv∧∀q,q<n→AppSt tI 1 (Y q) (V q) (Ls q)
section
variable {tO tI:TypeId} {N n:Nat} {Y:Nat→List AV} {v:AV} {L:AHeap}
theorem FamW.nil (Y:Nat→List AV):FamW tO tI N 0 Y anil []:=⟨[],fun _=>anil,fun _=>[],by simp [famL],.nil,fun q h=>by omega⟩
theorem FamW.snoc {V:Nat→AV} {Ls:Nat→AHeap} {x v':AV} {Lx Lv' L':AHeap} (hF:∀q,q<n→AppSt tI 1 (Y q) (V q) (Ls q)) (hx:AppSt tI 1 (Y n) x Lx) (hA:AppSt tO 2 (((List.range n).map fun q => .agg [ai N,V q]) ++ [.agg [ai N,x]]) v' Lv') (hp:L'.Perm (Lv' ++ (Lx ++ famL n Ls))):FamW tO tI N (n+1) Y v' L':=by
 refine⟨Lv',fun q=>if q=n then x else V q,fun q=>if q=n then Lx else Ls q,hp.trans (List.Perm.append_left _ (fam_more Lx).symm),?_,fun q hq => ?_⟩
 ·have e:((List.range (n+1)).map fun q=>AV.agg [ai N,if q=n then x else V q])=((List.range n).map fun q => .agg [ai N,V q]) ++ [.agg [ai N,x]]:=by
   rw[List.range_succ,List.map_append]
   congr 1
   ·exact List.map_congr_left fun q hq=>by rw[if_neg (by have:=List.mem_range.1 hq;omega)]
   ·simp
  rw[e];exact hA
 ·by_cases e:q=n
  ·subst e;dsimp only;rw[if_pos rfl,if_pos rfl];exact hx
  ·dsimp only;rw[if_neg e,if_neg e];exact hF q (by omega)
theorem FamW.congr {Y':Nat→List AV} (h:FamW tO tI N n Y v L) (e:∀q,q<n→Y' q=Y q):FamW tO tI N n Y' v L:=by
 obtain⟨Lv,V,Ls,h1,h2,h3⟩:=h
 exact⟨Lv,V,Ls,h1,h2,fun q hq=>by rw[e q hq];exact h3 q hq⟩
theorem FamW.perm {L':AHeap} (h:FamW tO tI N n Y v L) (hp:L'.Perm L):FamW tO tI N n Y v L':=by
 obtain⟨Lv,V,Ls,h1,h2,h3⟩:=h
 exact⟨Lv,V,Ls,hp.trans h1,h2,h3⟩
theorem FamW.fo (h:FamW tO tI N n Y v L):fo v=(True,v):=by
 obtain⟨Lv,V,Ls,h1,h2,h3⟩:=h
 exact h2.fo
theorem FamW.shape (h:FamW tO tI N n Y v L):v=anil∨∃b c,v = .ls b 2 0 n c:=by
 obtain⟨Lv,V,Ls,h1,h2,h3⟩:=h
 rcases h2.inv with ⟨e1,e2,e3⟩|⟨bo,cap,e2,e3⟩
 ·exact .inl e2
 ·rw[List.length_map,List.length_range] at e2
  exact .inr ⟨_,_,e2⟩
theorem FamW.one (h:FamW tO tI N n Y v L) {p:Nat} (hp:p<n) (hY:Y p ≠ []) :
  ∃bo cap V bp cp X,v = .ls bo 2 0 n cap∧V.length=n∧V.getD p .any = .agg [ai N,.ls bp 1 0 (Y p).length cp]∧L.Perm ((bo,.row tO 2 V cap) :: (bp,.row tI 1 (Y p) cp) :: X) ∧
   ∀(Y':Nat→List AV) (L':AHeap),(∀q,q ≠ p→Y' q=Y q)→(Y' p).length=(Y p).length→L'.Perm ((bo,.row tO 2 V cap) :: (bp,.row tI 1 (Y' p) cp) :: X)→FamW tO tI N n Y' v L':=by
 obtain⟨Lv,V,Ls,h1,h2,h3⟩:=h
 have hlen:((List.range n).map fun q=>AV.agg [ai N,V q]).length=n:=by simp
 rcases h2.inv with ⟨e1,_,_⟩|⟨bo,cap,e2,e3⟩
 ·have h0:n=0:=by have:=congrArg List.length e1;simpa using this
  omega
 rw[hlen] at e2
 subst e3
 rcases (h3 p hp).inv with ⟨e1,_,_⟩|⟨bp,cp,e4,e5⟩
 ·exact absurd e1 hY
 refine⟨bo,cap,(List.range n).map fun q => .agg [ai N,V q],bp,cp,famR n p Ls,e2,hlen,by rw[map_range_getD hp,e4],?_,fun Y' L' hY' hl hL => ?_⟩
 ·have hf:=fam_split hp Ls
  rw[e5] at hf
  exact h1.trans (List.Perm.cons _ hf)
 ·refine⟨[(bo,.row tO 2 ((List.range n).map fun q => .agg [ai N,V q]) cap)],V,fun r=>if r=p then [(bp,.row tI 1 (Y' p) cp)] else Ls r,?_,?_,fun r hr => ?_⟩
  ·refine hL.trans (List.Perm.cons _ ?_)
   have hsp:=fam_split hp (fun r=>if r=p then [(bp,ABlk.row tI 1 (Y' p) cp)] else Ls r)
   rw[if_pos rfl,famR_congr (Ls:=Ls) (fun q hq=>if_neg hq)] at hsp
   exact hsp.symm
  ·have:=AppSt.row (t:=tO) (k:=2) bo ((List.range n).map fun q=>AV.agg [ai N,V q]) cap
   rw[hlen] at this
   rw[e2];exact this
  ·by_cases e:r=p
   ·subst e;dsimp only;rw[if_pos rfl,e4,← hl];exact .row _ _ _
   ·dsimp only;rw[if_neg e,hY' r e];exact h3 r hr
theorem FamW.vw (h:FamW tO tI N n Y v L) (hn:(L.map (·.1)).Nodup):Vw L v (.sl 2 ((List.range n).map fun q => .agg [ai N,.sl 1 (Y q)])):=by
 obtain⟨Lv,V,Ls,h1,h2,h3⟩:=h
 rcases h2.inv with ⟨e1,e2,e3⟩|⟨bo,cap,e2,e3⟩
 ·have h0:n=0:=by have:=congrArg List.length e1;simpa using this
  subst h0
  rw[e2];exact .nil 2
 ·rw[e2]
  refine Vw.ofLs' (t:=tO) (cap:=cap) (lk_of_mem hn (h1.mem_iff.2 (List.mem_append_left _ (by rw[e3];exact List.mem_singleton_self _)))) rfl ⟨by simp,fun i x y hx hy => ?_⟩
  by_cases hi:i<n
  ·rw[List.getElem?_map,List.getElem?_range hi] at hx hy
   cases hx;cases hy
   refine .mkAgg (Vws.cons (.refl _) (Vws.cons ?_ .nil))
   rcases (h3 i hi).inv with ⟨e4,e5,_⟩|⟨b,c,e5,e6⟩
   ·rw[e4,e5];exact .nil 1
   ·rw[e5]
    refine Vw.ofLs (t:=tI) (cap:=c) (lk_of_mem hn (h1.mem_iff.2 (List.mem_append_right _ ?_))) rfl
    unfold famL
    exact List.mem_flatMap.2 ⟨i,List.mem_range.2 hi,by rw[e6];exact List.mem_singleton_self _⟩
  ·have:(List.range n)[i]?=none:=by simp;omega
   rw[List.getElem?_map,this] at hx;cases hx
end
def wdV (n:Nat) (f:Nat→Bool):List AV:=(wordsF f n n).map fun w:Nat=>au64 (w:Int)
theorem aNs_wd (n:Nat) (f:Nat→Bool):aNs n f = .agg [ai n,.sl 1 (wdV n f)]:=rfl
end Go.AL
end
