/- Texts of this claim's proof: WI32, WZ1, WK7, WK9. No condition. -/
import Derived.Test.YtbbcigpnpbiojaaGreatDoorM20
import Derived.Test.YtbbcigpnpbiojaaGreatDoorM15
import Derived.Test.YtbbcigpnpbiojaaGreatDoorM10
import Derived.Test.YtbbcigpnpbiojaaGreatDoorM22
section
namespace Go.AL
open Go Go.RowKit
set_option maxRecDepth 4000
def orB (B bit:Int) (h:Bool):Int:=if h then orK .i64 B bit else B
def bitsF (n:Pd) (s:Bool):Int :=
 orB (orB (orB (orB (orB (orB (orB (orB (orB (orB 0 1 (locR n).2) 2 (prtF 16 n).2) 4 (prtF 17 n).2) 8 (lnrF n)) 16 (plnF n)) 32 (lnrF n && plnF n)) 64 (stabF n)) 128 s) 256 (!allB nchB n)) 512 (!allB ntmB n)
theorem classify_setB (b8:Nat) (B bit:Int) (h:Bool) (X1 X2 X3 X4:AV) (Lr:AHeap):MVal Proofs.Tryz.prog (.clo 69 [.lp b8 5 0 0]) [ai bit,ab h] ((b8,.row 82 5 [.agg [ai B,X1,X2,X3,X4]] 1) :: Lr)
  fun _ L=>L=(b8,.row 82 5 [.agg [ai (orB B bit h),X1,X2,X3,X4]] 1) :: Lr:=classify_set b8 B bit h X1 X2 X3 X4 Lr
set_option maxHeartbeats 4000000 in
theorem classify_Class (ps:List Pr) (hs:Sm ps) (t:Pd) (hz:szF t≤1000000) (hck:checkF ps t=0) (hp:prdF t=0) :
  MCalls Proofs.Tryz.prog 38 [aTr ps,aPd t] [] fun r L=>L=[]∧∃s X Y o b,r = .tup [.agg [ai (bitsF (normF t false) s),.sl 6 X,.sl 3 Y,ai o,ai b],ai 0]:=by
 have h1:=classify_checked ps hs t hz hck hp
 have hok:=norm_ok t (prd_ok hp) false
 have hzn:=Nat.le_trans hok.sz hz
 have h2:=classify_parts 16 (.inl rfl) (normF t false) hzn hok.ok.1
 have h3:=classify_parts 17 (.inr rfl) (normF t false) hzn hok.ok.1
 have h4:=classify_local (normF t false) hzn
 have h5:=classify_sumS t hz hp
 have h6:=classify_meets (normF t false) hok.ok hzn
 have h7:=classify_joins (normF t false) hok.ok hzn
 have h8:=classify_stable (normF t false) hok.ok hzn
 have h9:=classify_hasC (normF t false) hzn
 have h10:=classify_hasT (normF t false) hzn
 have h11:=classify_joined ps hs 16 13 (.inl rfl) (normF t false) hzn hok.ok.1
 have h12:=classify_joined ps hs 17 14 (.inr rfl) (normF t false) hzn hok.ok.1
 unfold bitsF
 obtain⟨k1,o1,p1,q1,s1,XP,hP⟩:=aPd_shape t
 obtain⟨k2,o2,p2,q2,s2,XN,hN⟩:=aPd_shape (normF t false)
 have hT:aTr ps = .agg [.sl 3 (ps.map aPr)]:=rfl
 have hJ1:aPds (jnL ps.length 16 13 (normF t false)) = .sl 6 ((jnL ps.length 16 13 (normF t false)).map aPd):=rfl
 have hJ2:aPds (jnL ps.length 17 14 (normF t false)) = .sl 6 ((jnL ps.length 17 14 (normF t false)).map aPd):=rfl
 rw[hJ1] at h11
 rw[hJ2] at h12
 have hP1:aPds (prtF 16 (normF t false)).1 = .sl 6 ((prtF 16 (normF t false)).1.map aPd):=rfl
 have hP2:aPds (prtF 17 (normF t false)).1 = .sl 6 ((prtF 17 (normF t false)).1.map aPd):=rfl
 rw[hP1] at h2
 rw[hP2] at h3
 clear hJ1 hJ2 hP1 hP2
 rw[hP,hN,hT] at h1
 rw[hN,hT] at h11 h12
 rw[hN] at h2 h3 h4 h5 h6 h7 h8 h9 h10
 rw[hP,hT]
 generalize ps.map aPr=T at *
 generalize (jnL ps.length 16 13 (normF t false)).map aPd=J1 at *
 generalize (jnL ps.length 17 14 (normF t false)).map aPd=J2 at *
 generalize (prtF 16 (normF t false)).1.map aPd=P1 at *
 generalize (prtF 17 (normF t false)).1.map aPd=P2 at *
 generalize (prtF 16 (normF t false)).2=Q1 at *
 generalize (prtF 17 (normF t false)).2=Q2 at *
 generalize (locR (normF t false)).1=pr at *
 generalize (locR (normF t false)).2=Q3 at *
 generalize lnrF (normF t false)=Q4 at *
 generalize plnF (normF t false)=Q5 at *
 generalize stabF (normF t false)=Q6 at *
 generalize (!allB nchB (normF t false))=Q7 at *
 generalize (!allB ntmB (normF t false))=Q8 at *
 clear hck hp hok hzn hP hN
 refine MCalls.enter' 113 [.cell 4 82,.tmp 5] [2,3,6] Proofs.Tryz.func38 rfl rfl rfl rfl rfl (by simp) (AWp.of ?_);simp only[go_sem]
 intro b4
 refine Wk ?_
 refine Sd ?_
 refine(h1).val.use ?_;simp only[go_sem]
 refine Wk ?_
 intro b6 g6
 have n1:¬b4=b6:=by omega
 have n2:¬b6=b4:=by omega
 try simp only[go_sem,n1,n2]
 refine Sd ?_
 refine W2 n1 n2 ?_
 intro b8 g8
 have n3:¬b4=b8:=by omega
 have n4:¬b8=b4:=by omega
 refine Sd ?_
 refine W2 n3 n4 ?_
 refine Sd ?_
 refine(h2).val.use ?_;simp only[go_sem]
 refine Wk ?_
 refine Sd ?_
 refine(h3).val.use ?_;simp only[go_sem]
 refine Wk ?_
 refine Sd ?_
 refine(h4).val.use ?_;simp only[go_sem]
 refine Wk ?_
 refine(MVal.frame (Lm:=[]) (Lr:=_) h5.val).mono ?_
 rintro r L ⟨L1,rfl,rfl,a,b,c,hR⟩
 have hR:∃(X:AV) (m1 m2:Int) (s:Bool),(X=anil∨∃Y,X = .sl 3 Y)∧r = .tup [X,ai m1,ai m2,ab s]:=by
  rcases hR with rfl|⟨rfl,_,⟨X,rfl⟩,⟨m1,rfl⟩,⟨m2,rfl⟩⟩
  ·exact⟨_,_,_,_,.inl rfl,rfl⟩
  ·exact⟨_,_,_,_,.inr ⟨_,rfl⟩,rfl⟩
 obtain⟨X,m1,m2,s,hX,rfl⟩:=hR
 have hfo:fo X=(True,X):=by rcases hX with rfl|⟨Y,rfl⟩ <;> rfl
 simp only[go_sem,hfo]
 refine W3 n3 n4 hfo ?_
 refine(classify_setB _ _ _ _ _ _ _ _ _).mono ?_
 rintro r L rfl
 generalize hB1:orB 0 1 Q3=B1 at *
 simp only[go_sem,hfo]
 refine W3 n3 n4 hfo ?_
 refine(classify_setB _ _ _ _ _ _ _ _ _).mono ?_
 rintro r L rfl
 generalize hB2:orB B1 2 Q1=B2 at *
 simp only[go_sem,hfo]
 refine W3 n3 n4 hfo ?_
 refine(classify_setB _ _ _ _ _ _ _ _ _).mono ?_
 rintro r L rfl
 generalize hB3:orB B2 4 Q2=B3 at *
 simp only[go_sem,hfo]
 refine W3 n3 n4 hfo ?_
 refine Sd ?_
 refine(h6).val.use ?_;simp only[go_sem]
 refine W3 n3 n4 hfo ?_
 refine(classify_setB _ _ _ _ _ _ _ _ _).mono ?_
 rintro r L rfl
 generalize hB4:orB B3 8 Q4=B4 at *
 simp only[go_sem,hfo]
 refine W3 n3 n4 hfo ?_
 refine Sd ?_
 refine(h7).val.use ?_;simp only[go_sem]
 refine W3 n3 n4 hfo ?_
 refine(classify_setB _ _ _ _ _ _ _ _ _).mono ?_
 rintro r L rfl
 generalize hB5:orB B4 16 Q5=B5 at *
 simp only[go_sem,hfo]
 refine W3 n3 n4 hfo ?_
 refine Sd ?_
 refine(h6).val.use ?_;simp only[go_sem]
 refine Sd ?_
 refine Gc h7 ?_
 refine Sd ?_
 refine W3 n3 n4 hfo ?_
 refine(classify_setB _ _ _ _ _ _ _ _ _).mono ?_
 rintro r L rfl
 generalize hB6:orB B5 32 (Q4 && Q5)=B6 at *
 simp only[go_sem,hfo]
 refine W3 n3 n4 hfo ?_
 refine Sd ?_
 refine(h8).val.use ?_;simp only[go_sem]
 refine W3 n3 n4 hfo ?_
 refine(classify_setB _ _ _ _ _ _ _ _ _).mono ?_
 rintro r L rfl
 generalize hB7:orB B6 64 Q6=B7 at *
 simp only[go_sem,hfo]
 refine W3 n3 n4 hfo ?_
 refine(classify_setB _ _ _ _ _ _ _ _ _).mono ?_
 rintro r L rfl
 generalize hB8:orB B7 128 s=B8 at *
 simp only[go_sem,hfo]
 refine W3 n3 n4 hfo ?_
 refine Sd ?_
 refine(h9).val.use ?_;simp only[go_sem]
 refine W3 n3 n4 hfo ?_
 refine(classify_setB _ _ _ _ _ _ _ _ _).mono ?_
 rintro r L rfl
 generalize hB9:orB B8 256 Q7=B9 at *
 simp only[go_sem,hfo]
 refine W3 n3 n4 hfo ?_
 refine Sd ?_
 refine(h10).val.use ?_;simp only[go_sem]
 refine W3 n3 n4 hfo ?_
 refine(classify_setB _ _ _ _ _ _ _ _ _).mono ?_
 rintro r L rfl
 generalize hB10:orB B9 512 Q8=B10 at *
 simp only[go_sem,hfo]
 refine W3 n3 n4 hfo ?_
 cases s with
 | true =>
  have hfin:∀(X Y:List AV) (o b:Int),(([]:AHeap)=[]∧∃s X' Y' o' b',AV.tup [.agg [ai B10,.sl 6 X,.sl 3 Y,ai o,ai b],ai 0] = .tup [.agg [ai (orB (orB (orB B7 128 s) 256 Q7) 512 Q8),.sl 6 X',.sl 3 Y',ai o',ai b'],ai 0]):=fun X Y o b=>⟨rfl,true,X,Y,o,b,by rw[hB8,hB9,hB10]⟩
  cases Q1 with
  | true =>
   have h11:=h11 rfl
   refine W3 n3 n4 hfo ?_
   refine⟨fun _ => ?_,fun h=>absurd h (by decide)⟩
   try simp only[go_sem]
   refine W3 n3 n4 hfo ?_
   refine Sd ?_
   refine(h11).val.use ?_;simp only[go_sem]
   refine W3 n3 n4 hfo ?_
   first|refine⟨fun _ => ?_,fun h=>absurd h (by decide)⟩|skip
   try simp only[go_sem]
   rcases hX with rfl|⟨YY,rfl⟩
   ·simp only[go_sem]
    refine W3 n3 n4 hfo ?_
    refine ret_viewK [] (.tup [.agg [ai B10,.sl 6 J1,.sl 3 [],ai m1,ai m2],ai 0]) (hfin _ _ _ _) ?_
    simp only[go_sem,n3,n4,hfo]
    exact .mkTup (Vws.cons (.mkAgg (Vws.cons (.refl _) (Vws.cons (.refl _) (Vws.cons (.nil 3) (Vws.refl _))))) (Vws.refl _))
   ·simp only[go_sem]
    refine W3 n3 n4 hfo ?_
    refine ret_viewK [] (.tup [.agg [ai B10,.sl 6 J1,.sl 3 YY,ai m1,ai m2],ai 0]) (hfin _ _ _ _) ?_
    simp only[go_sem,n3,n4,hfo]
    exact .mkTup (Vws.cons (.mkAgg (Vws.cons (.refl _) (Vws.cons (.refl _) (Vws.cons (.refl _) (Vws.refl _))))) (Vws.refl _))
  | false =>
   cases Q2 with
   | true =>
    have h12:=h12 rfl
    refine W3 n3 n4 hfo ?_
    refine⟨fun h=>absurd h (by decide),fun _ => ?_⟩
    try simp only[go_sem]
    refine W3 n3 n4 hfo ?_
    refine Sd ?_
    refine(h12).val.use ?_;simp only[go_sem]
    refine W3 n3 n4 hfo ?_
    first|refine⟨fun _ => ?_,fun h=>absurd h (by decide)⟩|skip
    try simp only[go_sem]
    rcases hX with rfl|⟨YY,rfl⟩
    ·simp only[go_sem]
     refine W3 n3 n4 hfo ?_
     refine ret_viewK [] (.tup [.agg [ai B10,.sl 6 J2,.sl 3 [],ai m1,ai m2],ai 0]) (hfin _ _ _ _) ?_
     simp only[go_sem,n3,n4,hfo]
     exact .mkTup (Vws.cons (.mkAgg (Vws.cons (.refl _) (Vws.cons (.refl _) (Vws.cons (.nil 3) (Vws.refl _))))) (Vws.refl _))
    ·simp only[go_sem]
     refine W3 n3 n4 hfo ?_
     refine ret_viewK [] (.tup [.agg [ai B10,.sl 6 J2,.sl 3 YY,ai m1,ai m2],ai 0]) (hfin _ _ _ _) ?_
     simp only[go_sem,n3,n4,hfo]
     exact .mkTup (Vws.cons (.mkAgg (Vws.cons (.refl _) (Vws.cons (.refl _) (Vws.cons (.refl _) (Vws.refl _))))) (Vws.refl _))
   | false =>
    refine W3 n3 n4 hfo ?_
    refine⟨fun h=>absurd h (by decide),fun _ => ?_⟩
    try simp only[go_sem]
    refine W3 n3 n4 hfo ?_
    first|refine⟨fun _ => ?_,fun h=>absurd h (by decide)⟩|skip
    try simp only[go_sem]
    rcases hX with rfl|⟨YY,rfl⟩
    ·simp only[go_sem]
     refine W3 n3 n4 hfo ?_
     refine ret_viewK [] (.tup [.agg [ai B10,.sl 6 [],.sl 3 [],ai m1,ai m2],ai 0]) (hfin _ _ _ _) ?_
     simp only[go_sem,n3,n4,hfo]
     exact .mkTup (Vws.cons (.mkAgg (Vws.cons (.refl _) (Vws.cons (.nil 6) (Vws.cons (.nil 3) (Vws.refl _))))) (Vws.refl _))
    ·simp only[go_sem]
     refine W3 n3 n4 hfo ?_
     refine ret_viewK [] (.tup [.agg [ai B10,.sl 6 [],.sl 3 YY,ai m1,ai m2],ai 0]) (hfin _ _ _ _) ?_
     simp only[go_sem,n3,n4,hfo]
     exact .mkTup (Vws.cons (.mkAgg (Vws.cons (.refl _) (Vws.cons (.nil 6) (Vws.cons (.refl _) (Vws.refl _))))) (Vws.refl _))
 | false =>
  have hfin:∀(X Y:List AV) (o b:Int),(([]:AHeap)=[]∧∃s X' Y' o' b',AV.tup [.agg [ai B10,.sl 6 X,.sl 3 Y,ai o,ai b],ai 0] = .tup [.agg [ai (orB (orB (orB B7 128 s) 256 Q7) 512 Q8),.sl 6 X',.sl 3 Y',ai o',ai b'],ai 0]):=fun X Y o b=>⟨rfl,false,X,Y,o,b,by rw[hB8,hB9,hB10]⟩
  cases Q1 with
  | true =>
   have h11:=h11 rfl
   refine W3 n3 n4 hfo ?_
   refine⟨fun _ => ?_,fun h=>absurd h (by decide)⟩
   try simp only[go_sem]
   refine W3 n3 n4 hfo ?_
   refine Sd ?_
   refine(h11).val.use ?_;simp only[go_sem]
   refine W3 n3 n4 hfo ?_
   first|refine⟨fun h=>absurd h (by decide),fun _ => ?_⟩|skip
   try simp only[go_sem]
   refine W3 n3 n4 hfo ?_
   refine ret_viewK [] (.tup [.agg [ai B10,.sl 6 J1,.sl 3 [],ai 0,ai 0],ai 0]) (hfin _ _ _ _) ?_
   simp only[go_sem,n3,n4,hfo]
   exact .mkTup (Vws.cons (.mkAgg (Vws.cons (.refl _) (Vws.cons (.refl _) (Vws.cons (.nil 3) (Vws.refl _))))) (Vws.refl _))
  | false =>
   cases Q2 with
   | true =>
    have h12:=h12 rfl
    refine W3 n3 n4 hfo ?_
    refine⟨fun h=>absurd h (by decide),fun _ => ?_⟩
    try simp only[go_sem]
    refine W3 n3 n4 hfo ?_
    refine Sd ?_
    refine(h12).val.use ?_;simp only[go_sem]
    refine W3 n3 n4 hfo ?_
    first|refine⟨fun h=>absurd h (by decide),fun _ => ?_⟩|skip
    try simp only[go_sem]
    refine W3 n3 n4 hfo ?_
    refine ret_viewK [] (.tup [.agg [ai B10,.sl 6 J2,.sl 3 [],ai 0,ai 0],ai 0]) (hfin _ _ _ _) ?_
    simp only[go_sem,n3,n4,hfo]
    exact .mkTup (Vws.cons (.mkAgg (Vws.cons (.refl _) (Vws.cons (.refl _) (Vws.cons (.nil 3) (Vws.refl _))))) (Vws.refl _))
   | false =>
    refine W3 n3 n4 hfo ?_
    refine⟨fun h=>absurd h (by decide),fun _ => ?_⟩
    try simp only[go_sem]
    refine W3 n3 n4 hfo ?_
    first|refine⟨fun h=>absurd h (by decide),fun _ => ?_⟩|skip
    try simp only[go_sem]
    refine W3 n3 n4 hfo ?_
    refine ret_viewK [] (.tup [.agg [ai B10,.sl 6 [],.sl 3 [],ai 0,ai 0],ai 0]) (hfin _ _ _ _) ?_
    simp only[go_sem,n3,n4,hfo]
    exact .mkTup (Vws.cons (.mkAgg (Vws.cons (.refl _) (Vws.cons (.nil 6) (Vws.cons (.nil 3) (Vws.refl _))))) (Vws.refl _))
theorem bv_nat {x:Nat} (h:x<2 ^ 64):(BitVec.ofInt 64 (x:Int)).toNat=x:=by
 rw[BitVec.ofInt_natCast,BitVec.toNat_ofNat,Nat.mod_eq_of_lt h]
theorem wrap_i64n {x:Nat} (h:x<2 ^ 62):IntKind.i64.wrap (x:Int)=x:=IntWalk.i64_in _ (by omega)
theorem and_nati {x y:Nat} (hx:x<2 ^ 62) (hy:y<2 ^ 62):andK .i64 (x:Nat) (y:Nat)=((x &&& y:Nat):Int):=by
 have hl:x &&& y<2 ^ 62:=Nat.lt_of_le_of_lt Nat.and_le_left hx
 have e:(BitVec.ofInt IntKind.i64.bits (x:Nat) &&& BitVec.ofInt IntKind.i64.bits (y:Nat)).toNat=x &&& y:=by
  show (BitVec.ofInt 64 (x:Nat) &&& BitVec.ofInt 64 (y:Nat)).toNat=_
  rw[BitVec.toNat_and,bv_nat (by omega),bv_nat (by omega)]
 unfold andK
 rw[e]
 exact wrap_i64n hl
theorem or_nati {x y:Nat} (hx:x<2 ^ 62) (hy:y<2 ^ 62):orK .i64 (x:Nat) (y:Nat)=((x ||| y:Nat):Int):=by
 have hl:x ||| y<2 ^ 62:=Nat.or_lt_two_pow hx hy
 have e:(BitVec.ofInt IntKind.i64.bits (x:Nat) ||| BitVec.ofInt IntKind.i64.bits (y:Nat)).toNat=x ||| y:=by
  show (BitVec.ofInt 64 (x:Nat) ||| BitVec.ofInt 64 (y:Nat)).toNat=_
  rw[BitVec.toNat_or,bv_nat (by omega),bv_nat (by omega)]
 unfold orK
 rw[e]
 exact wrap_i64n hl
def orN (x b:Nat) (h:Bool):Nat:=if h then x ||| 2 ^ b else x
theorem orB_nat {x b:Nat} (hx:x<2 ^ 10) (hb:b<10) (h:Bool):orB (x:Nat) ((2 ^ b:Nat):Int) h=(orN x b h:Nat)∧orN x b h<2 ^ 10:=by
 have hp:2 ^ b<2 ^ 10:=Nat.pow_lt_pow_right (by decide) hb
 unfold orB orN
 cases h with
 | false=>exact⟨rfl,hx⟩
 | true=>exact⟨or_nati (by omega) (by omega),Nat.or_lt_two_pow hx hp⟩
theorem orN_bit (x b i:Nat) (h:Bool):(orN x b h).testBit i=(x.testBit i || (h && decide (b=i))):=by
 unfold orN
 cases h with
 | false=>simp
 | true=>simp [Nat.testBit_or,Nat.testBit_two_pow]
def bitsN (a0 a1 a2 a3 a4 a5 a6 a7 a8 a9:Bool):Nat:=orN (orN (orN (orN (orN (orN (orN (orN (orN (orN 0 0 a0) 1 a1) 2 a2) 3 a3) 4 a4) 5 a5) 6 a6) 7 a7) 8 a8) 9 a9
theorem bitsF_nat (n:Pd) (s:Bool):bitsF n s=(bitsN (locR n).2 (prtF 16 n).2 (prtF 17 n).2 (lnrF n) (plnF n) (lnrF n && plnF n) (stabF n) s (!allB nchB n) (!allB ntmB n):Nat) ∧
  bitsN (locR n).2 (prtF 16 n).2 (prtF 17 n).2 (lnrF n) (plnF n) (lnrF n && plnF n) (stabF n) s (!allB nchB n) (!allB ntmB n)<2 ^ 10:=by
 unfold bitsF bitsN
 generalize (locR n).2=a0
 generalize (prtF 16 n).2=a1
 generalize (prtF 17 n).2=a2
 generalize lnrF n=a3
 generalize plnF n=a4
 generalize (a3 && a4)=a5
 generalize stabF n=a6
 generalize (!allB nchB n)=a8
 generalize (!allB ntmB n)=a9
 obtain⟨e0,l0⟩:=orB_nat (x:=0) (b:=0) (by decide) (by decide) a0
 obtain⟨e1,l1⟩:=orB_nat (b:=1) l0 (by decide) a1
 obtain⟨e2,l2⟩:=orB_nat (b:=2) l1 (by decide) a2
 obtain⟨e3,l3⟩:=orB_nat (b:=3) l2 (by decide) a3
 obtain⟨e4,l4⟩:=orB_nat (b:=4) l3 (by decide) a4
 obtain⟨e5,l5⟩:=orB_nat (b:=5) l4 (by decide) a5
 obtain⟨e6,l6⟩:=orB_nat (b:=6) l5 (by decide) a6
 obtain⟨e7,l7⟩:=orB_nat (b:=7) l6 (by decide) s
 obtain⟨e8,l8⟩:=orB_nat (b:=8) l7 (by decide) a8
 obtain⟨e9,l9⟩:=orB_nat (b:=9) l8 (by decide) a9
 refine⟨?_,l9⟩
 rw[← e9,← e8,← e7,← e6,← e5,← e4,← e3,← e2,← e1,← e0]
 rfl
theorem and_bit {x b:Nat} (hx:x<2 ^ 10) (hb:b<10):(andK .i64 (x:Nat) ((2 ^ b:Nat):Int)=0)↔x.testBit b=false:=by
 have hp:2 ^ b<2 ^ 10:=Nat.pow_lt_pow_right (by decide) hb
 rw[and_nati (by omega) (by omega)]
 rw[show (((x &&& 2 ^ b:Nat):Int)=0)↔(x &&& 2 ^ b=0) from by omega]
 constructor
 ·intro h
  have h2:(x &&& 2 ^ b).testBit b=false:=by rw[h];exact Nat.zero_testBit b
  rw[Nat.testBit_and,Nat.testBit_two_pow_self,Bool.and_true] at h2
  exact h2
 ·intro h
  refine Nat.eq_of_testBit_eq fun i => ?_
  rw[Nat.testBit_and,Nat.zero_testBit,Nat.testBit_two_pow]
  by_cases e:b=i
  ·subst e;rw[h];rfl
  ·simp [e]
theorem bits_1 (n:Pd) (s:Bool):andK .i64 (bitsF n s) 1=0↔(locR n).2=false:=by
 obtain⟨e,l⟩:=bitsF_nat n s
 rw[e]
 refine(and_bit (b:=0) l (by decide)).trans ?_
 unfold bitsN
 simp only[orN_bit]
 simp
theorem bits_8 (n:Pd) (s:Bool):andK .i64 (bitsF n s) 8=0↔lnrF n=false:=by
 obtain⟨e,l⟩:=bitsF_nat n s
 rw[e]
 refine(and_bit (b:=3) l (by decide)).trans ?_
 unfold bitsN
 simp only[orN_bit]
 simp
theorem bits_32 (n:Pd) (s:Bool):andK .i64 (bitsF n s) 32=0↔(lnrF n && plnF n)=false:=by
 obtain⟨e,l⟩:=bitsF_nat n s
 rw[e]
 refine(and_bit (b:=5) l (by decide)).trans ?_
 unfold bitsN
 simp only[orN_bit]
 simp
theorem bits_512 (n:Pd) (s:Bool):andK .i64 (bitsF n s) 512=0↔allB ntmB n=true:=by
 obtain⟨e,l⟩:=bitsF_nat n s
 rw[e]
 refine(and_bit (b:=9) l (by decide)).trans ?_
 unfold bitsN
 simp only[orN_bit]
 simp
set_option maxHeartbeats 2000000 in
theorem irr_parts (ps:List Pr) (hs:Sm ps) (t:Pd) (h:NfOk ps t):MCalls Proofs.Tryz.prog 40 [aTr ps,aPd t] [] fun r L=>AppSt 89 7 ((cjF t).map aPt) r L:=by
 refine nf_ind (P:=fun t=>MCalls Proofs.Tryz.prog 40 [aTr ps,aPd t] [] fun r L=>AppSt 89 7 ((cjF t).map aPt) r L) ?_ ?_ t h
 ·intro t h hn
  have hC:=classify_Class ps hs t (nf_sz h) h.ck h.prd
  rw[h.nf] at hC
  rw[cjF_one hn]
  have hb:=bits_1 t
  have hk:t.kind=16→(locR t).2=true:=fun e=>by
   cases e2:(locR t).2 with
   | true=>rfl
   | false=>exact absurd ⟨e,e2⟩ hn
  generalize bitsF t=BF at *
  obtain⟨k,n,p,q,s,l⟩:=t
  have hk:k=16→(locR (.mk k n p q s l)).2=true:=hk
  have hT:aTr ps = .agg [.sl 3 (ps.map aPr)]:=rfl
  have hP:aPt (.mk k n p q s l) = .agg [ai k,ai n,ai p,ai q,astr s,.sl 6 (l.map aPd),ab (locR (.mk k n p q s l)).2]:=rfl
  rw[List.map_cons,List.map_nil,hP]
  rw[hT] at hC ⊢
  simp only[aPd_mk] at hC ⊢
  generalize (locR (.mk k n p q s l)).2=lc at *
  refine MCalls.enter' 42 [.tmp 4] [2,3,5] Proofs.Tryz.func40 rfl rfl rfl rfl rfl (by simp) (AWp.of ?_);simp only[go_sem]
  refine Wk ?_
  refine(MVal.frame (Lm:=[]) (Lr:=_) hC.val).mono ?_
  rintro r L ⟨L1,rfl,rfl,s',X,Y,o,b,rfl⟩
  have hb:=hb s'
  generalize BF s'=B at *
  simp only[go_sem]
  intro b5
  refine Sd ?_
  generalize hA:andK .i64 B 1=A at *
  by_cases e0:A=0
  ·have hlc:=hb.1 e0
   subst hlc
   have hk16:¬k=16:=fun e=>absurd (hk e) (by decide)
   refine W3 e0 hA hk16 ?_
   intro b1
   refine Sd ?_
   refine Wk ?_
   refine ret_own ?_
   simp only[go_sem]
   exact .row b1 [_] 1
  ·have hlc:lc=true:=by
    cases lc with
    | true=>rfl
    | false=>exact absurd (hb.2 rfl) e0
   subst hlc
   refine W2 e0 hA ?_
   intro b1
   refine Sd ?_
   refine Wk ?_
   refine ret_own ?_
   simp only[go_sem]
   exact .row b1 [_] 1
 ·intro x y h hloc hx hy ihx ihy
  have hC:=classify_Class ps hs _ (nf_sz h) h.ck h.prd
  rw[h.nf] at hC
  rw[cjF_nd,if_pos ⟨rfl,hloc⟩,cjL_2,List.map_append]
  have hb:=bits_1 (nd 16 [x,y])
  rw[hloc] at hb
  have z1:=pt_len x hx
  have z2:=pt_len y hy
  have z3:=nf_sz hx
  have z4:=nf_sz hy
  have m1:((cjF x).map aPt).length≤1000000:=by rw[List.length_map];omega
  have m2:((cjF y).map aPt).length≤1000000:=by rw[List.length_map];omega
  have ne1:(cjF x).map aPt ≠ []:=by simp [pt_ne x hx]
  have ne2:(cjF y).map aPt ≠ []:=by simp [pt_ne y hy]
  generalize bitsF (nd 16 [x,y])=BF at *
  generalize (cjF x).map aPt=P1 at *
  generalize (cjF y).map aPt=P2 at *
  have hT:aTr ps = .agg [.sl 3 (ps.map aPr)]:=rfl
  have hN:aPd (nd 16 [x,y]) = .agg [ai 16,ai 0,ai 0,ai 0,astr ByteArray.empty,.sl 6 [aPd x,aPd y]]:=by unfold nd;rw[aPd_mk];rfl
  rw[hN] at hC ⊢
  rw[hT] at hC ihx ihy ⊢
  obtain⟨k1,o1,p1,q1,s1,X1,hX⟩:=aPd_shape x
  obtain⟨k2,o2,p2,q2,s2,X2,hY⟩:=aPd_shape y
  simp only[hX,hY] at hC ihx ihy ⊢
  generalize ps.map aPr=T at *
  clear h hx hy hloc z1 z2 z3 z4 hN hX hY hs hT
  refine MCalls.enter' 42 [.tmp 4] [2,3,5] Proofs.Tryz.func40 rfl rfl rfl rfl rfl (by simp) (AWp.of ?_);simp only[go_sem]
  refine Wk ?_
  refine(MVal.frame (Lm:=[]) (Lr:=_) hC.val).mono ?_
  rintro r L ⟨L1,rfl,rfl,s',X,Y,o,b,rfl⟩
  have hb:=hb s'
  generalize BF s'=B at *
  have hA:andK .i64 B 1=0:=hb.2 rfl
  simp only[go_sem]
  intro b5
  refine Sd ?_
  repeat(first|((with_reducible refine AWp.ofC ?_ ?_);exact rfl;simp only[go_sem,hA,Int.reduceEq])|((with_reducible refine an ?_ ?_);exact Au))
  repeat(first|(with_reducible refine AWp.seq ?_)|(with_reducible refine AWp.block ?_))
  refine AWp.mix mixed [0,1,2,3,4,6,7,8,9,10] (.step 5 (.step 11 (.step 12 (.step 13 .done .done) .done) .done) .done) (by kernel_rfl) ?_;simp only[go_sem]
  refine Sd ?_
  refine(MVal.frame (Lm:=[]) (Lr:=_) ihx.val).mono ?_
  rintro r L ⟨L1,rfl,hA1⟩
  rcases hA1.inv with ⟨rfl,rfl,rfl⟩|⟨c1,cap1,rfl,rfl⟩
  ·exact absurd rfl ne1
  simp only[go_sem]
  refine Sd ?_
  have hyP:PC Proofs.Tryz.prog 40 [.agg [.sl 3 T],.agg [ai k2,ai o2,ai p2,ai q2,astr s2,.sl 6 X2]] (.sl 7 P2):=ihy.pc fun r L hA=>by have:=hA.vw [];rwa [List.append_nil] at this
  refine Sd ?_
  refine(hyP).val.use ?_;simp only[go_sem]
  refine Sd ?_
  intro b' cap' g8
  refine Wk ?_
  refine ret_own ?_
  simp only[go_sem]
  rw[← List.length_append]
  exact .row b' _ cap'
theorem irr_partsP (ps:List Pr) (hs:Sm ps) (t:Pd) (h:NfOk ps t):PC Proofs.Tryz.prog 40 [aTr ps,aPd t] (aPts (cjF t)) :=
 (irr_parts ps hs t h).pc fun r L hA=>by have:=hA.vw [];rwa [List.append_nil] at this
def aSr (ps:List Pr) (ts:List Pd):AV:=.agg [aPrs ps,aPts ts]
def aOpt:Option (List Int)→AV
 | some c=>aInts c
 | none=>anil
def AllP' (ps:List Pr) (ts:List Pd) (c:List Int):Prop:=∀t ∈ ts,truF (obC ps c) t=true
theorem bool_part (ps:List Pr) (hs:Sm ps) (t:Pd) (h:PartOk ps t) (c:List Int) (hc:isF ps c=true):PC Proofs.Tryz.prog 8 [aTr ps,aInts c,aPd t] (.tup [ab (truF (obC ps c) t),ai 0]):=by
 have hv:=(checkF_zero h.ck).1
 have h8:=(valid_len hv).2
 have hcl:=(isF_iff.1 hc).1
 refine evaluate_BoolC ps hs c (by omega) t h.sz ?_
 unfold atE
 rw[if_neg (by omega),h.ck,if_neg (by decide),(isF_given hv).2 hc,if_neg (by decide),res_of_bool h.ok.2.2,if_neg (by decide),h.ntm]
 rfl
structure FrmI (ps:List Pr) (ts:List Pd) (c0 c:List Int) (i:Nat):Prop where
 is:isF ps c=true
 ge:leC c0 c
 low:∀e,isF ps e=true→leC c0 e→AllP' ps ts e→leC c e
 tru:∀j (hj:j<ts.length),j<i→truF (obC ps c) ts[j]=true
 le:i≤ts.length
def frmM (ps:List Pr) (ts:List Pd) (c:List Int) (i:Nat):Nat:=(off ps ps.length - totC c) * (ts.length+1)+(ts.length - i)
set_option maxHeartbeats 4000000 in
theorem irr_from (ps:List Pr) (hs:Sm ps) (hv:validF ps=true) (ts:List Pd) (hl:ts.length≤1000000) (hp:∀t ∈ ts,PartOk ps t) (c0:List Int) (hc0:isF ps c0=true) :
  PC Proofs.Tryz.prog 22 [aSr ps ts,aInts c0] (aOpt (lstQ ps (AllP' ps ts) c0)):=by
 have hbool:=fun i (hi:i<ts.length) c hc=>bool_part ps hs ts[i] (hp _ (List.getElem_mem hi)) c hc
 have hforb:=fun i (hi:i<ts.length) c hc=>irr_forbidden ps hs ts[i] (hp _ (List.getElem_mem hi)) c hc
 have hspec:=fun i (hi:i<ts.length) c d => @fb_spec ps hv ts[i] (hp _ (List.getElem_mem hi)) c d
 have hrng:=fun i (hi:i<ts.length) c=>fb_rng hv (hp _ (List.getElem_mem hi)) c
 have hend:∀c,FrmI ps ts c0 c ts.length→lstQ ps (AllP' ps ts) c0=some c:=fun c h=>lsq_eq ⟨h.is,h.ge,fun t ht=>by
  obtain⟨j,hj,rfl⟩:=List.getElem_of_mem ht
  exact h.tru j hj hj,h.low⟩
 have hnone:(∀e,isF ps e=true→leC c0 e→¬AllP' ps ts e)→lstQ ps (AllP' ps ts) c0=none:=lsq_none
 generalize lstQ ps (AllP' ps ts) c0=R at *
 have h8:=(valid_len hv).2
 have hS:aSr ps ts = .agg [.sl 3 (ps.map aPr),.sl 7 (ts.map aPt)]:=rfl
 rw[hS]
 refine PC.enter 72 [.tmp 4] [2] Proofs.Tryz.func22 rfl rfl rfl rfl rfl (by simp) (AWp.of ?_);simp only[go_sem]
 refine Wk ?_
 refine AWp.block (AWp.loopN [1,5] [2] (fun m vs L=>∃(c:List Int) (i:Nat),m=frmM ps ts c i∧vs=[.sl 1 (c.map ai),ai i]∧L=[]∧FrmI ps ts c0 c i) (frmM ps ts c0 0) ⟨c0,0,rfl,rfl,rfl,hc0,.refl _,fun e _ h _=>h,fun j _ h=>by omega,by omega⟩ ?_)
 rintro m vs L - ⟨c,i,rfl,rfl,rfl,hI⟩
 have hcl:=(isF_iff.1 hI.is).1
 by_cases hi:i<ts.length
 rotate_left
 ·obtain rfl:i=ts.length:=by have:=hI.le;omega
  have hR:=hend c hI
  have hii:¬(ts.length:Int)<ts.length:=by omega
  simp only[go_sem]
  refine W1 hii ?_
  refine ret_eq ?_;simp only[go_sem]
  rw[hR]
  rfl
 have hgi:=getD_map (f:=aPt) hi
 have hb:=hbool i hi c hI.is
 have hf:=hforb i hi c hI.is
 have hsp:=fun d => @hspec i hi c d
 have hrg:=hrng i hi c
 have hii:(i:Int)<ts.length:=by omega
 have htr:truF (obC ps c) ts[i]=true→FrmI ps ts c0 c (i+1):=fun h=>⟨hI.is,hI.ge,hI.low,fun j hj hji=>by
  by_cases e:j=i
  ·subst e;exact h
  ·exact hI.tru j hj (by omega),by omega⟩
 have hms:frmM ps ts c (i+1)<frmM ps ts c i:=by unfold frmM;omega
 have hT:aTr ps = .agg [.sl 3 (ps.map aPr)]:=rfl
 have hC:aInts c = .sl 1 (c.map ai):=rfl
 obtain⟨k,n,p,q,s,X,e1,e2⟩:=aPt_shape ts[i]
 rw[e1,hT,hC] at hb
 rw[e2,hT,hC] at hf
 rw[e2] at hgi
 clear hbool hforb hspec hrng hT hC
 cases htb:truF (obC ps c) ts[i] with
 | true =>
  have hI':=htr htb
  rw[htb] at hb
  simp only[go_sem]
  refine W1 hii ?_
  repeat(first|(with_reducible refine AWp.seq ?_)|(with_reducible refine AWp.block ?_))
  refine AWp.mix mixed [0,1,2,3,4,5,6,7,8,9,10,11,12,13,14] .done (by kernel_rfl) ?_;simp only[go_sem,hgi]
  refine Sd ?_
  refine Gc hb ?_
  refine Sd ?_
  refine W1 hii ?_
  exact⟨_,List.Sublist.refl _,_,hms,c,i+1,rfl,rfl,rfl,hI'⟩
 | false =>
  rw[htb] at hb
  simp only[go_sem]
  refine W1 hii ?_
  repeat(first|(with_reducible refine AWp.seq ?_)|(with_reducible refine AWp.block ?_))
  refine AWp.mix mixed [0,1,2,3,4,5,6,7,8,9,10,11,12,13,14] .done (by kernel_rfl) ?_;simp only[go_sem,hgi]
  refine Sd ?_
  refine Gc hb ?_
  refine Sd ?_
  refine W1 hii ?_
  repeat(first|(with_reducible refine AWp.seq ?_)|(with_reducible refine AWp.block ?_))
  refine AWp.mix mixed [0,1,2,3,4,5,6,7,8,9] .done (by kernel_rfl) ?_;simp only[go_sem,hgi]
  refine Sd ?_
  refine Gc hf ?_
  refine Sd ?_
  refine W1 hii ?_
  have hno:(∀d:Nat,fbF ps c ts[i]=d→∀hd:d<ps.length,ps[d].evs.length≤c.getD d 0)→R=none:=fun h=>hnone fun e h1 h2 h3=>by
   obtain⟨d,f1,f2,f3⟩:=hsp e (hI.low e h1 h2 h3) htb (h3 _ (List.getElem_mem hi))
   have:=h d f1 f2
   obtain⟨b1,b2⟩:=inRangeF_get (isF_iff.1 h1).2.1 (isF_iff.1 h1).1 f2
   rw[List.getD_eq_getElem?_getD (l:=e),List.getElem?_eq_getElem (by have:=(isF_iff.1 h1).1;omega)] at f3
   have f3:c.getD d 0<e[d]'(by have:=(isF_iff.1 h1).1;omega):=f3
   omega
  have hlow:∀e,isF ps e=true→leC c0 e→AllP' ps ts e→∀d:Nat,fbF ps c ts[i]=d→leC c e∧c.getD d 0<e.getD d 0:=fun e h1 h2 h3 d hd=>by
   obtain⟨d',f1,f2,f3⟩:=hsp e (hI.low e h1 h2 h3) htb (h3 _ (List.getElem_mem hi))
   have:d'=d:=by omega
   subst this
   exact⟨hI.low e h1 h2 h3,f3⟩
  clear hsp htr hms hb hf hend hnone
  generalize fbF ps c ts[i]=F at *
  rcases hrg with rfl|⟨j,rfl,hj⟩
  ·have hR:=hno fun d e=>by omega
   have h0:=(valid_len hv).1
   have hT0:Int.toNat (-1)=0:=rfl
   have hgp:=getD_map (f:=aPr) (show 0<ps.length by omega)
   have hgc:=getD_map (f:=ai) (show 0<c.length by omega)
   have hnj:(-1:Int)<0:=by omega
   repeat(first|(with_reducible refine AWp.seq ?_)|(with_reducible refine AWp.block ?_))
   refine AWp.mix mixed [0,1,2,3,4,5,6,7,8,9,10,11,12,13,14,15,16] .done (by kernel_rfl) ?_;simp only[go_sem,hT0,hgc,hgp,hnj]
   refine Wk ?_
   refine ret_eq ?_;simp only[go_sem]
   rw[hR];rfl
  have hgc:(c.map ai).getD j .any=ai (c.getD j 0):=by
   rw[getD_map (f:=ai) (show j<c.length by omega),List.getD_eq_getElem?_getD,List.getElem?_eq_getElem (show j<c.length by omega)];rfl
  have hgp:=getD_map (f:=aPr) hj
  have hjc:(j:Int)<c.length:=by omega
  have hjp:(j:Int)<ps.length:=by omega
  have hnj:¬(j:Int)<0:=by omega
  by_cases hlt:c.getD j 0<ps[j].evs.length
  rotate_left
  ·have hR:=hno fun d e hd=>by
    have:d=j:=by omega
    subst this;omega
   generalize c.getD j 0=cj at *
   have hge:(ps[j].evs.length:Int)≤cj:=by omega
   repeat(first|(with_reducible refine AWp.seq ?_)|(with_reducible refine AWp.block ?_))
   refine AWp.mix mixed [0,1,2,3,4,5,6,7,8,9,10,11,12,13,14,15,16] .done (by kernel_rfl) ?_;simp only[go_sem,hgc,hgp,hnj]
   refine Sd ?_
   refine W1 hge ?_
   refine ret_eq ?_;simp only[go_sem]
   rw[hR];rfl
  ·have hjl:j<c.length:=by omega
   have hbd:c.getD j 0=c[j]'hjl:=by rw[List.getD_eq_getElem?_getD,List.getElem?_eq_getElem hjl];rfl
   have hb8:=inRangeF_get (isF_iff.1 hI.is).2.1 hcl hj
   have hb9:=hs.evs _ (List.getElem_mem hj)
   rw[← hbd] at hb8
   have hst:=close_step hv hI.is hj hlt
   obtain⟨s1,s2,s3,s4,s5,s6⟩:=hst
   have hI':FrmI ps ts c0 (closeF ps (c.set j (c.getD j 0+1))) 0:=⟨s3,hI.ge.trans s4,fun e h1 h2 h3=>by
    obtain⟨q1,q2⟩:=hlow e h1 h2 h3 j rfl
    exact s6 e h1 q1 q2,fun j _ h=>by omega,by omega⟩
   have hms:frmM ps ts (closeF ps (c.set j (c.getD j 0+1))) 0<frmM ps ts c i:=by
    have t1:=totC_ltC hI.is s3 s4 ⟨j,hj,s5⟩
    have t2:=totC_le (isF_iff.1 s3).1 (isF_iff.1 s3).2.1
    unfold frmM
    have t3:=Nat.mul_le_mul_right (ts.length+1) (show off ps ps.length - totC (closeF ps (c.set j (c.getD j 0+1)))+1≤off ps ps.length - totC c by omega)
    rw[Nat.add_mul] at t3
    omega
   have hcc:=cut_Close ps hs hv _ s1 s2
   have hco:=ints_cloneO c (by omega)
   have hT:aTr ps = .agg [.sl 3 (ps.map aPr)]:=rfl
   have hC:∀c:List Int,aInts c = .sl 1 (c.map ai):=fun _=>rfl
   rw[hT,hC,hC,List.map_set] at hcc
   rw[hC] at hco
   have hset:=List.map_set (f:=ai) (l:=c) (i:=j) (a:=c.getD j 0+1)
   have hne:c.map ai ≠ []:=by
    intro e
    have:c=[]:=by simpa using e
    rw[this] at hjl
    exact absurd hjl (by simp)
   clear s1 s2 s3 s4 s5 s6 hlow hno hI hbd
   generalize closeF ps (c.set j (c.getD j 0+1))=D at *
   generalize c.getD j 0=cj at *
   have hge:¬(ps[j].evs.length:Int)≤cj:=by omega
   repeat(first|(with_reducible refine AWp.seq ?_)|(with_reducible refine AWp.block ?_))
   refine AWp.mix mixed [0,1,2,3,4,5,6,7,8,9,10,11,12,13,14,15,16] .done (by kernel_rfl) ?_;simp only[go_sem,hgc,hgp,hnj]
   refine Sd ?_
   refine W1 hge ?_
   refine(MVal.frame (Lm:=[]) (Lr:=_) hco.val).mono ?_
   rintro r L ⟨L1,rfl,hA⟩
   rcases hA.inv with ⟨e,_,_⟩|⟨b,cap,rfl,rfl⟩
   ·exact absurd e hne
   simp only[go_sem]
   refine Sd ?_
   refine AWp.of ?_;simp only[go_sem,hgc]
   refine Sd ?_
   refine AWp.viewP (Lf:=[(b,.row 3 1 ((c.map ai).set j (ai (cj+1))) cap)]) (Lk:=[]) (L':=[]) (List.Perm.refl _) (LVw.refl _) [(1,.sl 1 ((c.map ai).set j (ai (cj+1))))] (fun z hz => ?_) ?_
   ·obtain rfl:=List.mem_singleton.1 hz
    exact Vw.ofLs (if_pos rfl) (by simp)
   simp only[go_sem]
   refine Wk ?_
   refine Sd ?_
   refine(hcc).val.use ?_;simp only[go_sem]
   refine Wk ?_
   exact⟨_,List.Sublist.refl _,_,hms,D,0,rfl,rfl,rfl,hI'⟩
end Go.AL
end
