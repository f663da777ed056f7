/- Texts of this claim's proof: WI31, WK1. No condition. -/
import Derived.Test.YtbbcigpnpbiojaaGreatDoorM19
import Derived.Test.YtbbcigpnpbiojaaGreatDoorM16
section
namespace Go.AL
open Go Go.RowKit
set_option maxRecDepth 4000
set_option maxHeartbeats 1000000 in
theorem classify_boundedG (t:Pd) (hp:PredOk t) (hz:szF t≤1000000) (sg:Int) (hsg:sg=1∨sg = -1):PC Proofs.Tryz.prog 125 [aPd t,ai sg] (ab (bndF t sg)):=by
 have hc:=classify_comparedG t hp hz
 have h2:=classify_is [11,12]
 have h3:=classify_is1 [11,12] (by decide) t
 have hk:([11,12]:List Int).any (fun x=>decide (t.kind=x))=decide (t.kind=11∨t.kind=12):=by
  rw[Bool.eq_iff_iff];simp
 rw[hk] at h3
 have h3:=PC.clo (args:=[_]) (caps:=[_]) h3
 have hno:cmpE t=none→bndF t sg=false:=fun h=>by unfold bndF;rw[h]
 have hyes:∀c h g,cmpE t=some (c,g)→EqT h g→bndF t sg=(decide ((h.length:Int)=0) || (decide (t.kind=11∨t.kind=12) && cntS sg h)):=fun c h g h1 h2=>by unfold bndF;rw[h1];simp only[];rw[cntS_perm h2.perm,h2.perm.length_eq]
 generalize decide (t.kind=11∨t.kind=12)=K at *
 obtain⟨k,n,p,q,s,l⟩:=t
 generalize bndF (.mk k n p q s l) sg=R at *
 simp only[aPd_mk,List.map_cons,List.map_nil] at hc h2 h3 ⊢
 refine PC.enter 30 [.tmp 4] [2,5,19] Proofs.Tryz.func125 rfl rfl rfl rfl rfl (by simp) (AWp.of ?_);simp only[go_sem]
 refine Wk ?_
 refine(MVal.frame (Lm:=[]) (Lr:=_) hc.val).mono ?_
 rintro r L ⟨L1,rfl,rfl,hR⟩
 rcases hR with ⟨c,h,g,he,hq,hl⟩|⟨c,m,hm,he⟩
 ·have hyes:=hyes c h g he hq
  have hcnt:=classify_counts c h sg hsg (fun x hx=>(hq.l.co x hx).2)
  have hkl:=keysT_len h
  rw[← hkl] at hyes
  clear hno he hc
  generalize cntS sg h=S at *
  simp only[go_sem]
  refine Wk ?_
  intro b5
  refine Sd ?_
  by_cases e0:((keysT h).length:Int)=0
  ·rw[decide_eq_true e0] at hyes
   have hyes:R=true:=hyes
   subst hyes
   repeat(first|(with_reducible refine AWp.seq ?_)|(with_reducible refine AWp.block ?_))
   refine AWp.mix mixed [0,1,2,3,4,5,6,7,8,9,10,11,12,13,14,15,16,17,18] .done (by kernel_rfl) ?_;simp only[go_sem,e0]
   refine GCall.use .any (fun h=>absurd h (by simp)) ?_
   simp only[go_sem,e0]
   refine GCall.use (ab false) (fun h=>absurd h (by simp)) ?_
   simp only[go_sem,e0]
   refine GCall.use (ab false) (fun h=>absurd h (by simp)) ?_
   simp only[go_sem,e0]
   refine W1 e0 ?_
   refine ret_eq ?_;simp only[go_sem]
  ·rw[decide_eq_false e0] at hyes
   have hyes:R=(K && S):=hyes
   subst hyes
   repeat(first|(with_reducible refine AWp.seq ?_)|(with_reducible refine AWp.block ?_))
   refine AWp.mix mixed [0,1,2,3,4,5,6,7,8,9,10,11,12,13,14,15,16,17,18] .done (by kernel_rfl) ?_;simp only[go_sem,e0]
   refine Sd ?_
   refine GCall.use (.clo 166 [.rp 1 [.sl 1 [ai 11,ai 12]] 0 0]) (fun _=>⟨At,(h2).val.use ⟨rfl,rfl⟩⟩) ?_;simp only[go_sem,e0]
   refine Sd ?_
   refine GCall.use (ab K) (fun _=>⟨At,h3.use ⟨rfl,rfl⟩⟩) ?_
   simp only[go_sem,e0]
   refine Sd ?_
   cases K with
   | true =>
    refine Sd ?_
    refine GCall.use (ab S) (fun _=>⟨At,(hcnt).val.use ⟨rfl,rfl⟩⟩) ?_;simp only[go_sem,e0]
    refine Sd ?_
    refine W1 e0 ?_
    refine ret_eq ?_;simp only[go_sem]
   | false =>
    refine GCall.use (ab false) (fun h=>absurd h (by simp)) ?_
    simp only[go_sem,e0]
    refine W1 e0 ?_
    refine ret_eq ?_;simp only[go_sem]
 ·have hno:=hno he
  clear hyes he hc
  subst hno
  rcases hm with rfl|⟨ks,vs,rfl⟩
  all_goals
   simp only[go_sem]
   refine Wk ?_
   intro b5
   refine Sd ?_
   repeat(first|(with_reducible refine AWp.seq ?_)|(with_reducible refine AWp.block ?_))
   refine AWp.mix mixed [0,1,2,3,4,5,6,7,8,9,10,11,12,13,14,15,16,17,18] .done (by kernel_rfl) ?_;simp only[go_sem]
   refine GCall.use .any (fun h=>h.elim) ?_
   simp only[go_sem]
   refine GCall.use (ab false) (fun h=>h.elim) ?_
   simp only[go_sem]
   refine GCall.use (ab false) (fun h=>False.elim (by simp at h)) ?_
   simp only[go_sem]
   refine Wk ?_
   refine ret_eq ?_;simp only[go_sem]
mutual
def stabF:Pd→Bool
 | .mk k n p q s l=>if k=13∨k=14∨k=21 then true else if k=16∨k=17 then stabL l else bndF (.mk k n p q s l) (-1)
def stabL:List Pd→Bool
 | []=>true
 | x :: r=>stabF x && stabL r
end
theorem stabF_nd (k:Int) (l:List Pd):stabF (nd k l)=if k=13∨k=14∨k=21 then true else if k=16∨k=17 then stabL l else bndF (nd k l) (-1):=by unfold nd;rw[stabF]
theorem stabL_2 (x y:Pd):stabL [x,y]=(stabF x && stabF y):=by rw[stabL,stabL,stabL,Bool.and_true]
mutual
def lnrF:Pd→Bool
 | .mk k n p q s l=>(locR (.mk k n p q s l)).2 || bndF (.mk k n p q s l) 1 || bothF (.mk k n p q s l) || decide (k=18) || (decide (k=16) && lnrL l)
def lnrL:List Pd→Bool
 | []=>true
 | x :: r=>lnrF x && lnrL r
end
theorem lnrF_nd (k:Int) (l:List Pd):lnrF (nd k l)=((locR (nd k l)).2 || bndF (nd k l) 1 || bothF (nd k l) || decide (k=18) || (decide (k=16) && lnrL l)):=by unfold nd;rw[lnrF]
theorem lnrL_2 (x y:Pd):lnrL [x,y]=(lnrF x && lnrF y):=by rw[lnrL,lnrL,lnrL,Bool.and_true]
mutual
def plnF:Pd→Bool
 | .mk k n p q s l=>(locR (.mk k n p q s l)).2 || stabF (.mk k n p q s l) || bothF (.mk k n p q s l) || (decide (k=16) && plnL l)
def plnL:List Pd→Bool
 | []=>true
 | x :: r=>plnF x && plnL r
end
theorem plnF_nd (k:Int) (l:List Pd):plnF (nd k l)=((locR (nd k l)).2 || stabF (nd k l) || bothF (nd k l) || (decide (k=16) && plnL l)):=by unfold nd;rw[plnF]
theorem plnL_2 (x y:Pd):plnL [x,y]=(plnF x && plnF y):=by rw[plnL,plnL,plnL,Bool.and_true]
theorem stable_bin (k:Int) (hk:k=16∨k=17) (x y:Pd) (a b:Bool) (h1:PC Proofs.Tryz.prog 75 [aPd x] (ab a)) (h2:PC Proofs.Tryz.prog 75 [aPd y] (ab b)):PC Proofs.Tryz.prog 75 [aPd (nd k [x,y])] (ab (a && b)):=by
 have hN:aPd (nd k [x,y]) = .agg [ai k,ai 0,ai 0,ai 0,astr ByteArray.empty,.sl 6 [aPd x,aPd y]]:=by unfold nd;rw[aPd_mk];rfl
 rw[hN]
 obtain⟨k1,o1,p1,q1,s1,X1,hX⟩:=aPd_shape x
 obtain⟨k2,o2,p2,q2,s2,X2,hY⟩:=aPd_shape y
 rw[hX] at h1 ⊢
 rw[hY] at h2 ⊢
 rcases hk with rfl|rfl
 all_goals
  refine PC.enter 26 [.tmp 2] [1] Proofs.Tryz.func75 rfl rfl rfl rfl rfl (by simp) (AWp.of ?_);simp only[go_sem]
  repeat(first|((with_reducible refine AWp.ofC ?_ ?_);exact rfl;simp only[go_sem,Int.reduceEq])|((with_reducible refine an ?_ ?_);exact Au))
  refine Sd ?_
  refine(h1).val.use ?_;simp only[go_sem]
  cases a with
  | true =>
   refine Sd ?_
   refine Gc h2 ?_
   refine Sd ?_
   refine Wk ?_
   refine ret_eq ?_;simp only[go_sem]
  | false =>
   refine⟨fun h=>absurd h (by decide),GCall.use (ab false) (fun h=>absurd h (by decide)) ?_⟩
   simp only[go_sem]
   refine Wk ?_
   refine ret_eq ?_;simp only[go_sem]
theorem stable_yes (k:Int) (hk:k=13∨k=14∨k=21) (l:List Pd):PC Proofs.Tryz.prog 75 [aPd (nd k l)] (ab true):=by
 unfold nd
 simp only[aPd_mk]
 rcases hk with rfl|rfl|rfl
 all_goals
  refine PC.enter 26 [.tmp 2] [1] Proofs.Tryz.func75 rfl rfl rfl rfl rfl (by simp) (AWp.of ?_);simp only[go_sem]
  repeat(first|((with_reducible refine AWp.ofC ?_ ?_);exact rfl;simp only[go_sem,Int.reduceEq])|((with_reducible refine an ?_ ?_);exact Au))
  refine ret_eq ?_;simp only[go_sem]
theorem stable_bnd (k:Int) (hk:¬(k=13∨k=14∨k=21∨k=16∨k=17)) (l:List Pd) (b:Bool) (h:PC Proofs.Tryz.prog 125 [aPd (nd k l),ai (-1)] (ab b)):PC Proofs.Tryz.prog 75 [aPd (nd k l)] (ab b):=by
 have k1:¬k=13:=fun e=>hk (by omega)
 have k2:¬k=14:=fun e=>hk (by omega)
 have k3:¬k=21:=fun e=>hk (by omega)
 have k4:¬k=16:=fun e=>hk (by omega)
 have k5:¬k=17:=fun e=>hk (by omega)
 clear hk
 unfold nd at *
 simp only[aPd_mk] at *
 refine PC.enter 26 [.tmp 2] [1] Proofs.Tryz.func75 rfl rfl rfl rfl rfl (by simp) (AWp.of ?_);simp only[go_sem]
 refine W5 k1 k2 k3 k4 k5 ?_
 refine Sd ?_
 refine(h).val.use ?_;simp only[go_sem]
 refine Wk ?_
 refine ret_eq ?_;simp only[go_sem]
theorem classify_stable (t:Pd) (hp:PredOk t):szF t≤1000000→PC Proofs.Tryz.prog 75 [aPd t] (ab (stabF t)):=by
 refine PredOk.ind (P:=fun t=>PredOk t→szF t≤1000000→PC Proofs.Tryz.prog 75 [aPd t] (ab (stabF t))) ?_ ?_ ?_ ?_ ?_ t hp hp
 ·intro k hk _ _
  rw[stabF_nd,if_pos (by omega)]
  exact stable_yes k (by omega) _
 ·intro k x y hk _ _ hp hz
  rw[stabF_nd,if_neg (by omega),if_neg (by omega)]
  exact stable_bnd k (by omega) _ _ (classify_boundedG _ hp hz (-1) (.inr rfl))
 ·intro x _ _ hp hz
  rw[stabF_nd,if_neg (by omega),if_neg (by omega)]
  exact stable_bnd 15 (by omega) _ _ (classify_boundedG _ hp hz (-1) (.inr rfl))
 ·intro k x y hk hx hy ihx ihy _ hz
  rw[nd_szF] at hz
  simp only[szL] at hz
  rw[stabF_nd,if_neg (by omega),if_pos hk,stabL_2]
  exact stable_bin k hk x y _ _ (ihx hx (by omega)) (ihy hy (by omega))
 ·intro k x hk _ _ hp hz
  by_cases h21:k=21
  ·rw[stabF_nd,if_pos (by omega)]
   exact stable_yes k (by omega) _
  ·rw[stabF_nd,if_neg (by omega),if_neg (by omega)]
   exact stable_bnd k (by omega) _ _ (classify_boundedG _ hp hz (-1) (.inr rfl))
theorem meets_yes (t:Pd) (L B O:Bool) (pr:Int) (h:(L || B || O)=true) (h1:PC Proofs.Tryz.prog 71 [aPd t] (.tup [ai pr,ab L])) (h2:PC Proofs.Tryz.prog 125 [aPd t,ai 1] (ab B)) (h3:PC Proofs.Tryz.prog 126 [aPd t] (ab O)):PC Proofs.Tryz.prog 73 [aPd t] (ab true):=by
 obtain⟨k,n,p,q,s,l⟩:=t
 simp only[aPd_mk] at *
 cases L with
 | true =>
  refine PC.enter 43 [.tmp 2] [1] Proofs.Tryz.func73 rfl rfl rfl rfl rfl (by simp) (AWp.of ?_);simp only[go_sem]
  refine Wk ?_
  refine Sd ?_
  refine(h1).val.use ?_;simp only[go_sem]
  refine Wk ?_
  repeat(refine GCall.use (ab false) (fun h=>absurd h (by simp)) ?_;try simp only[go_sem])
  refine Wk ?_
  refine ret_eq ?_;simp only[go_sem]
 | false =>
  cases B with
  | true =>
   refine PC.enter 43 [.tmp 2] [1] Proofs.Tryz.func73 rfl rfl rfl rfl rfl (by simp) (AWp.of ?_);simp only[go_sem]
   refine Wk ?_
   refine Sd ?_
   refine(h1).val.use ?_;simp only[go_sem]
   refine Wk ?_
   refine Sd ?_
   refine Gc h2 ?_
   refine Sd ?_
   repeat(refine GCall.use (ab false) (fun h=>absurd h (by simp)) ?_;try simp only[go_sem])
   refine Wk ?_
   refine ret_eq ?_;simp only[go_sem]
  | false =>
   cases O with
   | false=>cases h
   | true =>
    refine PC.enter 43 [.tmp 2] [1] Proofs.Tryz.func73 rfl rfl rfl rfl rfl (by simp) (AWp.of ?_);simp only[go_sem]
    refine Wk ?_
    refine Sd ?_
    refine(h1).val.use ?_;simp only[go_sem]
    refine Wk ?_
    refine Sd ?_
    refine Gc h2 ?_
    refine Sd ?_
    refine Sd ?_
    refine Gc h3 ?_
    refine Sd ?_
    repeat(refine GCall.use (ab false) (fun h=>absurd h (by simp)) ?_;try simp only[go_sem])
    refine Wk ?_
    refine ret_eq ?_;simp only[go_sem]
theorem meets_no (k:Int) (hk:¬k=16) (l:List Pd) (pr:Int) (h1:PC Proofs.Tryz.prog 71 [aPd (nd k l)] (.tup [ai pr,ab false])) (h2:PC Proofs.Tryz.prog 125 [aPd (nd k l),ai 1] (ab false)) (h3:PC Proofs.Tryz.prog 126 [aPd (nd k l)] (ab false)):PC Proofs.Tryz.prog 73 [aPd (nd k l)] (ab (decide (k=18))):=by
 unfold nd at *
 simp only[aPd_mk] at *
 by_cases h18:k=18
 ·subst h18
  refine PC.enter 43 [.tmp 2] [1] Proofs.Tryz.func73 rfl rfl rfl rfl rfl (by simp) (AWp.of ?_);simp only[go_sem]
  refine Wk ?_
  refine Sd ?_
  refine(h1).val.use ?_;simp only[go_sem]
  refine Wk ?_
  refine Sd ?_
  refine Gc h2 ?_
  refine Sd ?_
  refine Sd ?_
  refine Gc h3 ?_
  refine Sd ?_
  repeat(refine GCall.use (ab false) (fun h=>absurd h (by simp)) ?_;try simp only[go_sem])
  repeat(first|((with_reducible refine AWp.ofC ?_ ?_);exact rfl;simp only[go_sem,Int.reduceEq])|((with_reducible refine an ?_ ?_);exact Au))
  refine ret_eq ?_;simp only[go_sem]
 ·rw[decide_eq_false h18]
  refine PC.enter 43 [.tmp 2] [1] Proofs.Tryz.func73 rfl rfl rfl rfl rfl (by simp) (AWp.of ?_);simp only[go_sem]
  refine Wk ?_
  refine Sd ?_
  refine(h1).val.use ?_;simp only[go_sem]
  refine Wk ?_
  refine Sd ?_
  refine Gc h2 ?_
  refine Sd ?_
  refine Sd ?_
  refine Gc h3 ?_
  refine Sd ?_
  repeat(first|refine GCall.use (ab false) (fun h=>h.elim) ?_|refine GCall.use (ab false) (fun h=>absurd h (by simp [h18,hk])) ?_);try simp only[go_sem]
  refine W2 h18 hk ?_
  repeat(refine GCall.use (ab false) (fun h=>h.elim) ?_;try simp only[go_sem])
  refine W2 h18 hk ?_
  refine ret_eq ?_;simp only[go_sem]
theorem meets_and (x y:Pd) (a b:Bool) (pr:Int) (h1:PC Proofs.Tryz.prog 71 [aPd (nd 16 [x,y])] (.tup [ai pr,ab false])) (h2:PC Proofs.Tryz.prog 125 [aPd (nd 16 [x,y]),ai 1] (ab false)) (h3:PC Proofs.Tryz.prog 126 [aPd (nd 16 [x,y])] (ab false)) (h4:PC Proofs.Tryz.prog 73 [aPd x] (ab a)) (h5:PC Proofs.Tryz.prog 73 [aPd y] (ab b)):PC Proofs.Tryz.prog 73 [aPd (nd 16 [x,y])] (ab (a && b)):=by
 have hN:aPd (nd 16 [x,y]) = .agg [ai 16,ai 0,ai 0,ai 0,astr ByteArray.empty,.sl 6 [aPd x,aPd y]]:=by unfold nd;rw[aPd_mk];rfl
 rw[hN] at h1 h2 h3 ⊢
 obtain⟨k1,o1,p1,q1,s1,X1,hX⟩:=aPd_shape x
 obtain⟨k2,o2,p2,q2,s2,X2,hY⟩:=aPd_shape y
 simp only[hX,hY] at *
 refine PC.enter 43 [.tmp 2] [1] Proofs.Tryz.func73 rfl rfl rfl rfl rfl (by simp) (AWp.of ?_);simp only[go_sem]
 refine Wk ?_
 refine Sd ?_
 refine(h1).val.use ?_;simp only[go_sem]
 refine Wk ?_
 refine Sd ?_
 refine Gc h2 ?_
 refine Sd ?_
 refine Sd ?_
 refine Gc h3 ?_
 refine Sd ?_
 refine Sd ?_
 refine GCall.use (ab a) (fun _=>⟨At,(h4).val.use ⟨rfl,rfl⟩⟩) ?_;simp only[go_sem,Int.reduceEq]
 refine Sd ?_
 cases a with
 | true =>
  refine Sd ?_
  refine GCall.use (ab b) (fun _=>⟨At,(h5).val.use ⟨rfl,rfl⟩⟩) ?_;simp only[go_sem,Int.reduceEq]
  refine Sd ?_
  repeat(first|((with_reducible refine AWp.ofC ?_ ?_);exact rfl;simp only[go_sem,Int.reduceEq])|((with_reducible refine an ?_ ?_);exact Au))
  refine ret_eq ?_;simp only[go_sem]
 | false =>
  refine GCall.use (ab false) (fun h=>absurd h (by simp)) ?_
  simp only[go_sem]
  repeat(first|((with_reducible refine AWp.ofC ?_ ?_);exact rfl;simp only[go_sem,Int.reduceEq])|((with_reducible refine an ?_ ?_);exact Au))
  refine ret_eq ?_;simp only[go_sem]
theorem classify_meets (t:Pd) (hp:PredOk t):szF t≤1000000→PC Proofs.Tryz.prog 73 [aPd t] (ab (lnrF t)):=by
 have main:∀(k:Int) (l:List Pd),¬k=16→PredOk (nd k l)→szF (nd k l)≤1000000→PC Proofs.Tryz.prog 73 [aPd (nd k l)] (ab (lnrF (nd k l))):=fun k l hk hp hz=>by
  have h1:=classify_local (nd k l) hz
  have h2:=classify_boundedG _ hp hz 1 (.inl rfl)
  have h3:=classify_both (nd k l) hp hz
  rw[lnrF_nd,decide_eq_false hk,Bool.false_and,Bool.or_false]
  generalize (locR (nd k l)).1=pr at *
  generalize (locR (nd k l)).2=L at *
  generalize bndF (nd k l) 1=B at *
  generalize bothF (nd k l)=O at *
  by_cases h:(L || B || O)=true
  ·rw[h,Bool.true_or]
   exact meets_yes _ L B O pr h h1 h2 h3
  ·have h:(L || B || O)=false:=by simpa using h
   rw[h,Bool.false_or]
   simp only[Bool.or_eq_false_iff] at h
   obtain⟨⟨rfl,rfl⟩,rfl⟩:=h
   exact meets_no k hk l pr h1 h2 h3
 refine PredOk.ind (P:=fun t=>PredOk t→szF t≤1000000→PC Proofs.Tryz.prog 73 [aPd t] (ab (lnrF t))) ?_ ?_ ?_ ?_ ?_ t hp hp
 ·intro k hk hp hz
  exact main k _ (by omega) hp hz
 ·intro k x y hk _ _ hp hz
  exact main k _ (by omega) hp hz
 ·intro x _ _ hp hz
  exact main 15 _ (by omega) hp hz
 ·intro k x y hk hx hy ihx ihy hp hz
  rcases hk with rfl|rfl
  ·have hz':=hz
   rw[nd_szF] at hz'
   simp only[szL] at hz'
   have h1:=classify_local (nd 16 [x,y]) hz
   have h2:=classify_boundedG _ hp hz 1 (.inl rfl)
   have h3:=classify_both (nd 16 [x,y]) hp hz
   have h4:=ihx hx (by omega)
   have h5:=ihy hy (by omega)
   rw[lnrF_nd,lnrL_2]
   generalize (locR (nd 16 [x,y])).1=pr at *
   generalize (locR (nd 16 [x,y])).2=L at *
   generalize bndF (nd 16 [x,y]) 1=B at *
   generalize bothF (nd 16 [x,y])=O at *
   by_cases h:(L || B || O)=true
   ·rw[h,Bool.true_or,Bool.true_or]
    exact meets_yes _ L B O pr h h1 h2 h3
   ·have h:(L || B || O)=false:=by simpa using h
    rw[h]
    simp only[Bool.or_eq_false_iff] at h
    obtain⟨⟨rfl,rfl⟩,rfl⟩:=h
    exact meets_and x y _ _ pr h1 h2 h3 h4 h5
  ·exact main 17 _ (by omega) hp hz
 ·intro k x hk _ _ hp hz
  exact main k _ (by omega) hp hz
theorem joins_yes (t:Pd) (L B O:Bool) (pr:Int) (h:(L || B || O)=true) (h1:PC Proofs.Tryz.prog 71 [aPd t] (.tup [ai pr,ab L])) (h2:PC Proofs.Tryz.prog 75 [aPd t] (ab B)) (h3:PC Proofs.Tryz.prog 126 [aPd t] (ab O)):PC Proofs.Tryz.prog 74 [aPd t] (ab true):=by
 obtain⟨k,n,p,q,s,l⟩:=t
 simp only[aPd_mk] at *
 cases L with
 | true =>
  refine PC.enter 38 [.tmp 2] [1] Proofs.Tryz.func74 rfl rfl rfl rfl rfl (by simp) (AWp.of ?_);simp only[go_sem]
  refine Wk ?_
  refine Sd ?_
  refine(h1).val.use ?_;simp only[go_sem]
  refine Wk ?_
  repeat(refine GCall.use (ab false) (fun h=>absurd h (by simp)) ?_;try simp only[go_sem])
  refine Wk ?_
  refine ret_eq ?_;simp only[go_sem]
 | false =>
  cases B with
  | true =>
   refine PC.enter 38 [.tmp 2] [1] Proofs.Tryz.func74 rfl rfl rfl rfl rfl (by simp) (AWp.of ?_);simp only[go_sem]
   refine Wk ?_
   refine Sd ?_
   refine(h1).val.use ?_;simp only[go_sem]
   refine Wk ?_
   refine Sd ?_
   refine Gc h2 ?_
   refine Sd ?_
   repeat(refine GCall.use (ab false) (fun h=>absurd h (by simp)) ?_;try simp only[go_sem])
   refine Wk ?_
   refine ret_eq ?_;simp only[go_sem]
  | false =>
   cases O with
   | false=>cases h
   | true =>
    refine PC.enter 38 [.tmp 2] [1] Proofs.Tryz.func74 rfl rfl rfl rfl rfl (by simp) (AWp.of ?_);simp only[go_sem]
    refine Wk ?_
    refine Sd ?_
    refine(h1).val.use ?_;simp only[go_sem]
    refine Wk ?_
    refine Sd ?_
    refine Gc h2 ?_
    refine Sd ?_
    refine Sd ?_
    refine Gc h3 ?_
    refine Sd ?_
    repeat(refine GCall.use (ab false) (fun h=>absurd h (by simp)) ?_;try simp only[go_sem])
    refine Wk ?_
    refine ret_eq ?_;simp only[go_sem]
theorem joins_no (k:Int) (hk:¬k=16) (l:List Pd) (pr:Int) (h1:PC Proofs.Tryz.prog 71 [aPd (nd k l)] (.tup [ai pr,ab false])) (h2:PC Proofs.Tryz.prog 75 [aPd (nd k l)] (ab false)) (h3:PC Proofs.Tryz.prog 126 [aPd (nd k l)] (ab false)):PC Proofs.Tryz.prog 74 [aPd (nd k l)] (ab false):=by
 unfold nd at *
 simp only[aPd_mk] at *
 refine PC.enter 38 [.tmp 2] [1] Proofs.Tryz.func74 rfl rfl rfl rfl rfl (by simp) (AWp.of ?_);simp only[go_sem]
 refine Wk ?_
 refine Sd ?_
 refine(h1).val.use ?_;simp only[go_sem]
 refine Wk ?_
 refine Sd ?_
 refine Gc h2 ?_
 refine Sd ?_
 refine Sd ?_
 refine Gc h3 ?_
 refine Sd ?_
 repeat(first|refine GCall.use (ab false) (fun h=>h.elim) ?_|refine GCall.use (ab false) (fun h=>absurd h (by simp [hk])) ?_);try simp only[go_sem]
 refine W1 hk ?_
 refine ret_eq ?_;simp only[go_sem]
theorem joins_and (x y:Pd) (a b:Bool) (pr:Int) (h1:PC Proofs.Tryz.prog 71 [aPd (nd 16 [x,y])] (.tup [ai pr,ab false])) (h2:PC Proofs.Tryz.prog 75 [aPd (nd 16 [x,y])] (ab false)) (h3:PC Proofs.Tryz.prog 126 [aPd (nd 16 [x,y])] (ab false)) (h4:PC Proofs.Tryz.prog 74 [aPd x] (ab a)) (h5:PC Proofs.Tryz.prog 74 [aPd y] (ab b)):PC Proofs.Tryz.prog 74 [aPd (nd 16 [x,y])] (ab (a && b)):=by
 have hN:aPd (nd 16 [x,y]) = .agg [ai 16,ai 0,ai 0,ai 0,astr ByteArray.empty,.sl 6 [aPd x,aPd y]]:=by unfold nd;rw[aPd_mk];rfl
 rw[hN] at h1 h2 h3 ⊢
 obtain⟨k1,o1,p1,q1,s1,X1,hX⟩:=aPd_shape x
 obtain⟨k2,o2,p2,q2,s2,X2,hY⟩:=aPd_shape y
 simp only[hX,hY] at *
 refine PC.enter 38 [.tmp 2] [1] Proofs.Tryz.func74 rfl rfl rfl rfl rfl (by simp) (AWp.of ?_);simp only[go_sem]
 refine Wk ?_
 refine Sd ?_
 refine(h1).val.use ?_;simp only[go_sem]
 refine Wk ?_
 refine Sd ?_
 refine Gc h2 ?_
 refine Sd ?_
 refine Sd ?_
 refine Gc h3 ?_
 refine Sd ?_
 refine Sd ?_
 refine GCall.use (ab a) (fun _=>⟨At,(h4).val.use ⟨rfl,rfl⟩⟩) ?_;simp only[go_sem,Int.reduceEq]
 refine Sd ?_
 cases a with
 | true =>
  refine Sd ?_
  refine GCall.use (ab b) (fun _=>⟨At,(h5).val.use ⟨rfl,rfl⟩⟩) ?_;simp only[go_sem,Int.reduceEq]
  refine Sd ?_
  repeat(first|((with_reducible refine AWp.ofC ?_ ?_);exact rfl;simp only[go_sem,Int.reduceEq])|((with_reducible refine an ?_ ?_);exact Au))
  refine ret_eq ?_;simp only[go_sem]
 | false =>
  refine GCall.use (ab false) (fun h=>absurd h (by simp)) ?_
  simp only[go_sem]
  repeat(first|((with_reducible refine AWp.ofC ?_ ?_);exact rfl;simp only[go_sem,Int.reduceEq])|((with_reducible refine an ?_ ?_);exact Au))
  refine ret_eq ?_;simp only[go_sem]
theorem classify_joins (t:Pd) (hp:PredOk t):szF t≤1000000→PC Proofs.Tryz.prog 74 [aPd t] (ab (plnF t)):=by
 have main:∀(k:Int) (l:List Pd),¬k=16→PredOk (nd k l)→szF (nd k l)≤1000000→PC Proofs.Tryz.prog 74 [aPd (nd k l)] (ab (plnF (nd k l))):=fun k l hk hp hz=>by
  have h1:=classify_local (nd k l) hz
  have h2:=classify_stable _ hp hz
  have h3:=classify_both (nd k l) hp hz
  rw[plnF_nd,decide_eq_false hk,Bool.false_and,Bool.or_false]
  generalize (locR (nd k l)).1=pr at *
  generalize (locR (nd k l)).2=L at *
  generalize stabF (nd k l)=B at *
  generalize bothF (nd k l)=O at *
  by_cases h:(L || B || O)=true
  ·rw[h]
   exact joins_yes _ L B O pr h h1 h2 h3
  ·have h:(L || B || O)=false:=by simpa using h
   rw[h]
   simp only[Bool.or_eq_false_iff] at h
   obtain⟨⟨rfl,rfl⟩,rfl⟩:=h
   exact joins_no k hk l pr h1 h2 h3
 refine PredOk.ind (P:=fun t=>PredOk t→szF t≤1000000→PC Proofs.Tryz.prog 74 [aPd t] (ab (plnF t))) ?_ ?_ ?_ ?_ ?_ t hp hp
 ·intro k hk hp hz
  exact main k _ (by omega) hp hz
 ·intro k x y hk _ _ hp hz
  exact main k _ (by omega) hp hz
 ·intro x _ _ hp hz
  exact main 15 _ (by omega) hp hz
 ·intro k x y hk hx hy ihx ihy hp hz
  rcases hk with rfl|rfl
  ·have hz':=hz
   rw[nd_szF] at hz'
   simp only[szL] at hz'
   have h1:=classify_local (nd 16 [x,y]) hz
   have h2:=classify_stable _ hp hz
   have h3:=classify_both (nd 16 [x,y]) hp hz
   have h4:=ihx hx (by omega)
   have h5:=ihy hy (by omega)
   rw[plnF_nd,plnL_2]
   generalize (locR (nd 16 [x,y])).1=pr at *
   generalize (locR (nd 16 [x,y])).2=L at *
   generalize stabF (nd 16 [x,y])=B at *
   generalize bothF (nd 16 [x,y])=O at *
   by_cases h:(L || B || O)=true
   ·rw[h,Bool.true_or]
    exact joins_yes _ L B O pr h h1 h2 h3
   ·have h:(L || B || O)=false:=by simpa using h
    rw[h]
    simp only[Bool.or_eq_false_iff] at h
    obtain⟨⟨rfl,rfl⟩,rfl⟩:=h
    exact joins_and x y _ _ pr h1 h2 h3 h4 h5
  ·exact main 17 _ (by omega) hp hz
 ·intro k x hk _ _ hp hz
  exact main k _ (by omega) hp hz
noncomputable abbrev obC (ps:List Pr) (c:List Int):Obs:=cutO ps c (undF ps c)
def leC (c d:List Int):Prop:=∀p:Nat,c.getD p 0≤d.getD p 0
theorem leC.refl (c:List Int):leC c c:=fun _=>Int.le_refl _
theorem leC.trans {c d e:List Int} (h:leC c d) (k:leC d e):leC c e:=fun p=>Int.le_trans (h p) (k p)
theorem lack_mono {ps:List Pr} {c d:List Int} (h:leC c d) {m:Int} (hl:lackB ps d m=true):lackB ps c m=true:=by
 unfold lackB at *
 rw[Bool.or_eq_true] at *
 rcases hl with hl|hl
 ·exact .inl hl
 ·refine .inr (decide_eq_true ?_)
  have:=of_decide_eq_true hl
  exact Int.lt_of_le_of_lt (h _) this
theorem recv_peerT {ps:List Pr} (hv:validF ps=true) {p:Nat} (hp:p<ps.length) {i:Nat} (hi:i<ps[p].evs.length) (hk:ps[p].evs[i].kind=2) (h:0<(findIn (evIds ps) 3 ps[p].evs[i].msg).2) :
  (findIn (evIds ps) 3 ps[p].evs[i].msg).1=ps[p].evs[i].peer:=by
 have hm:=(valid_parts hv).2.2
 obtain⟨q,hq,j,hj,e1,e2,e3⟩:=findIn_some h
 have h1:=recv_sends hm hq hj e2
 rw[e1]
 unfold sendsB at h1
 split at h1
 ·rename_i x hx
  rw[List.any_eq_true] at h1
  obtain⟨e,he,h2⟩:=h1
  simp only[Bool.and_eq_true,decide_eq_true_eq] at h2
  obtain⟨r,hr,rfl⟩:=List.getElem_of_mem he
  obtain⟨hq',hx'⟩:=List.getElem?_eq_some_iff.1 hx
  subst hx'
  have u1:=pair_unique hm hq' hr (.inl h2.1.1)
  have u2:=pair_unique hm hp hi (.inl hk)
  rw[h2.1.1,h2.1.2,e3] at u1
  rw[hk] at u2
  rw[u2] at u1
  rw[Prod.mk.injEq] at u1
  have a1:p=ps[q].evs[j].peer.toNat:=by omega
  have a2:i=r:=by omega
  subst a2
  subst a1
  exact h2.2.symm
 ·cases h1
theorem und_same {ps:List Pr} {c d:List Int} (h:leC c d) (p:Nat) (q:Int) (hp:c.getD p 0=d.getD p 0):undF ps d p q≤undF ps c p q:=by
 unfold undF undM
 rw[Int.toNat_natCast,hp,List.length_map,List.length_map,← List.countP_eq_length_filter,← List.countP_eq_length_filter]
 refine Int.ofNat_le.2 (List.countP_mono_left fun e _ he => ?_)
 unfold undB at *
 rw[Bool.and_eq_true] at *
 exact⟨he.1,lack_mono h he.2⟩
theorem und_more {ps:List Pr} (hv:validF ps=true) {c d:List Int} (h:leC c d) (p q:Nat) (hq:c.getD q 0=d.getD q 0):undF ps c p q≤undF ps d p q:=by
 unfold undF undM
 rw[Int.toNat_natCast,List.length_map,List.length_map,← List.countP_eq_length_filter,← List.countP_eq_length_filter]
 by_cases hp:p<ps.length
 ·rw[List.getElem?_eq_getElem hp]
  show ((List.countP (undB ps c q) (ps[p].evs.take (c.getD p 0).toNat):Nat):Int)≤(List.countP (undB ps d q) (ps[p].evs.take (d.getD p 0).toNat):Nat)
  have e:List.countP (undB ps c q) (ps[p].evs.take (c.getD p 0).toNat)=List.countP (undB ps d q) (ps[p].evs.take (c.getD p 0).toNat):=by
   refine List.countP_congr fun e he => ?_
   obtain⟨i,hi,rfl⟩:=List.getElem_of_mem (List.mem_of_mem_take he)
   unfold undB
   by_cases hs:sentTo q ps[p].evs[i]=true
   ·rw[hs,Bool.true_and,Bool.true_and]
    unfold sentTo at hs
    simp only[Bool.and_eq_true,decide_eq_true_eq] at hs
    unfold lackB
    by_cases h0:0<(findIn (evIds ps) 3 ps[p].evs[i].msg).2
    ·have hr:=recv_peerT hv hp hi hs.1 h0
     rw[hr,hs.2,Int.toNat_natCast,hq]
    ·have hz:(findIn (evIds ps) 3 ps[p].evs[i].msg).2=0:=by
      rcases findIn_or ps 3 ps[p].evs[i].msg with h1|h1
      ·rw[h1]
      ·obtain⟨_,_,j,_,e⟩:=h1
       rw[e] at h0
       exact absurd (show (0:Int)<(j:Int)+1 by omega) h0
     rw[hz];simp
   ·have hs:sentTo q ps[p].evs[i]=false:=by simpa using hs
    rw[hs,Bool.false_and,Bool.false_and]
  rw[e]
  refine Int.ofNat_le.2 (List.Sublist.countP_le ?_)
  have hle:(c.getD p 0).toNat≤(d.getD p 0).toNat:=by have:=h p;omega
  have e2:ps[p].evs.take (c.getD p 0).toNat=(ps[p].evs.take (d.getD p 0).toNat).take (c.getD p 0).toNat:=by rw[List.take_take,Nat.min_eq_left hle]
  rw[e2]
  exact List.take_sublist _ _
 ·rw[List.getElem?_eq_none (by omega)]
  show (((List.take _ ([]:List Ev)).countP _:Nat):Int)≤_
  simp
mutual
def ownF:Pd→Int
 | .mk k _ p _ _ l=>if k=2∨k=3 then p else ownL l
def ownL:List Pd→Int
 | [] => -1
 | x :: r=>if 0≤ownF x then ownF x else ownL r
end
theorem ownF_mk (k n p q:Int) (s:ByteArray) (l:List Pd):ownF (.mk k n p q s l)=if k=2∨k=3 then p else ownL l:=by rw[ownF]
def ownB (pr:Int):Pd→Bool | .mk k _ p _ _ _=>if k=2∨k=3 then decide (p=pr) else true
def noB:Pd→Bool | .mk k _ _ _ _ _ => !decide (k=2∨k=3)
theorem no_own {pr:Int} {x:Pd} (h:noB x=true):ownB pr x=true:=by
 obtain⟨k,n,p,q,s,l⟩:=x
 have h:(!decide (k=2∨k=3))=true:=h
 show (if k=2∨k=3 then decide (p=pr) else true)=true
 rw[Bool.not_eq_true',decide_eq_false_iff_not] at h
 rw[if_neg h]
theorem allB_monoT {f g:Pd→Bool} (hfg:∀x,f x=true→g x=true) (t:Pd):allB f t=true→allB g t=true:=by
 induction t using Pd.ind with
 | _ k n p q s l ih =>
 intro h
 rw[allB_mk,Bool.and_eq_true,List.all_eq_true] at *
 exact⟨hfg _ h.1,fun x hx=>ih x hx (h.2 x hx)⟩
theorem allB_two {f g:Pd→Bool} (t:Pd):allB f t=true→allB g t=true→allB (fun x=>f x && g x) t=true:=by
 induction t using Pd.ind with
 | _ k n p q s l ih =>
 intro h h'
 rw[allB_mk,Bool.and_eq_true,List.all_eq_true] at *
 exact⟨by rw[h.1,h'.1];rfl,fun x hx=>ih x hx (h.2 x hx) (h'.2 x hx)⟩
def CnP (t:Pd):Prop:=∀pr fd st',cnS lcS t (pr,fd)=(false,st')→(fd=true→st'=(pr,true)∧allB (ownB pr) t=true)∧(fd=false→(st'=(pr,false)∧allB noB t=true)∨∃q,st'=(q,true)∧allB (ownB q) t=true)
theorem cnL_lc:∀(l:List Pd),(∀x ∈ l,CnP x)→∀pr fd st',cnL lcS l (pr,fd)=(false,st')→(fd=true→st'=(pr,true)∧∀x ∈ l,allB (ownB pr) x=true)∧(fd=false→(st'=(pr,false)∧∀x ∈ l,allB noB x=true)∨∃q,st'=(q,true)∧∀x ∈ l,allB (ownB q) x=true)
 | [],_,pr,fd,st',h=>by
  rw[cnL] at h
  cases h
  exact⟨by rintro rfl;exact⟨rfl,by simp⟩,by rintro rfl;exact .inl ⟨rfl,by simp⟩⟩
 | x :: l,hl,pr,fd,st',h=>by
  rw[cnL] at h
  generalize hx:cnS lcS x (pr,fd)=r at h
  obtain⟨b,pr1,fd1⟩:=r
  cases b with
  | true=>simp at h
  | false =>
   simp only[Bool.false_eq_true,if_false] at h
   have ih:=cnL_lc l (fun y hy=>hl y (List.mem_cons_of_mem _ hy)) pr1 fd1 st' h
   obtain⟨a1,a2⟩:=hl x (by simp) pr fd _ hx
   refine⟨fun e => ?_,fun e => ?_⟩
   ·obtain⟨b1,b2⟩:=a1 e
    cases b1
    obtain⟨c1,c2⟩:=ih.1 rfl
    exact⟨c1,fun y hy=>by rcases List.mem_cons.1 hy with rfl|hy;exact b2;exact c2 y hy⟩
   ·rcases a2 e with ⟨b1,b2⟩|⟨w,b1,b2⟩
    ·cases b1
     rcases ih.2 rfl with ⟨c1,c2⟩|⟨w,c1,c2⟩
     ·exact .inl ⟨c1,fun y hy=>by rcases List.mem_cons.1 hy with rfl|hy;exact b2;exact c2 y hy⟩
     ·exact .inr ⟨w,c1,fun y hy=>by rcases List.mem_cons.1 hy with rfl|hy;exact allB_monoT (fun _=>no_own) _ b2;exact c2 y hy⟩
    ·cases b1
     obtain⟨c1,c2⟩:=ih.1 rfl
     exact .inr ⟨_,c1,fun y hy=>by rcases List.mem_cons.1 hy with rfl|hy;exact b2;exact c2 y hy⟩
theorem cn_lc (t:Pd):CnP t:=by
 induction t using Pd.ind with
 | _ k n p q s l ih =>
 intro pr fd st' h
 rw[cnS] at h
 have hB:∀w,ownB w (.mk k n p q s l)=if k=2∨k=3 then decide (p=w) else true:=fun _=>rfl
 have hN:noB (.mk k n p q s l) = !decide (k=2∨k=3):=rfl
 have hS:lcS (.mk k n p q s l) (pr,fd)=if k=2∨k=3 then (decide (¬p=if fd then pr else p),(if fd then pr else p,true)) else (false,(pr,fd)):=rfl
 rw[hS] at h
 simp only[allB_mk,hB,hN,Bool.and_eq_true,List.all_eq_true]
 by_cases hk:k=2∨k=3
 ·simp only[if_pos hk] at h ⊢
  cases fd with
  | true =>
   simp only[if_true] at h
   by_cases e:p=pr
   ·simp only[e,not_true_eq_false,decide_false,Bool.false_eq_true,if_false] at h
    obtain⟨c1,c2⟩:=(cnL_lc l ih _ _ _ h).1 rfl
    exact⟨fun _=>⟨c1,decide_eq_true e,c2⟩,fun e=>nomatch e⟩
   ·simp [e] at h
  | false =>
   simp only[Bool.false_eq_true,if_false,not_true_eq_false,decide_false] at h
   obtain⟨c1,c2⟩:=(cnL_lc l ih _ _ _ h).1 rfl
   exact⟨fun e=>(nomatch e),fun _ => .inr ⟨p,c1,decide_eq_true rfl,c2⟩⟩
 ·simp only[if_neg hk,Bool.false_eq_true,if_false] at h ⊢
  obtain⟨a1,a2⟩:=cnL_lc l ih _ _ _ h
  refine⟨fun e=>⟨(a1 e).1,trivial,(a1 e).2⟩,fun e => ?_⟩
  rcases a2 e with ⟨c1,c2⟩|⟨w,c1,c2⟩
  ·exact .inl ⟨c1,by simp [hk],c2⟩
  ·exact .inr ⟨w,c1,trivial,c2⟩
theorem own_all {ps:List Pr} {pr:Int} (t:Pd):allB (ownB pr) t=true→allB (resB ps) t=true→(ownF t=pr∧0≤pr∧pr<ps.length)∨(ownF t = -1∧allB noB t=true):=by
 induction t using Pd.ind with
 | _ k n p q s l ih =>
 intro h hr
 rw[allB_mk,Bool.and_eq_true,List.all_eq_true] at h hr
 have h1:(if k=2∨k=3 then decide (p=pr) else true)=true:=h.1
 rw[ownF_mk]
 by_cases hk:k=2∨k=3
 ·rw[if_pos hk] at h1 ⊢
  obtain rfl:=of_decide_eq_true h1
  obtain⟨r2,r3,_⟩:=res_leaf hr.1
  refine .inl ⟨rfl,?_⟩
  have:isPB ps.length p=true:=by
   rcases hk with hk|hk
   ·exact(r2 hk).1
   ·exact r3 hk
  obtain⟨i,rfl,hi⟩:=isPB_nat this
  omega
 ·rw[if_neg hk]
  have hL:∀(l:List Pd),(∀x ∈ l,(ownF x=pr∧0≤pr∧pr<ps.length)∨(ownF x = -1∧allB noB x=true))→(ownL l=pr∧0≤pr∧pr<ps.length)∨(ownL l = -1∧∀x ∈ l,allB noB x=true):=by
   intro l
   induction l with
   | nil=>intro _;exact .inr ⟨by rw[ownL],by simp⟩
   | cons x l ihl =>
    intro hl
    rw[ownL]
    rcases hl x (by simp) with ⟨e1,e2,e3⟩|⟨e1,e2⟩
    ·rw[e1,if_pos e2];exact .inl ⟨rfl,e2,e3⟩
    ·rw[e1,if_neg (by decide)]
     rcases ihl (fun y hy=>hl y (List.mem_cons_of_mem _ hy)) with h|⟨h,h'⟩
     ·exact .inl h
     ·exact .inr ⟨h,fun y hy=>by rcases List.mem_cons.1 hy with rfl|hy;exact e2;exact h' y hy⟩
  rcases hL l (fun x hx=>ih x hx (h.2 x hx) (hr.2 x hx)) with h|⟨h,h'⟩
  ·exact .inl h
  ·refine .inr ⟨h,?_⟩
   rw[allB_mk,Bool.and_eq_true,List.all_eq_true]
   exact⟨show (!decide (k=2∨k=3))=true by simp [hk],h'⟩
theorem loc_own {ps:List Pr} {t:Pd} (hr:allB (resB ps) t=true) (hl:(locR t).2=true):allB nchB t=true∧((ownF t = -1∧allB noB t=true)∨∃i:Nat,ownF t=i∧i<ps.length∧allB (ownB i) t=true):=by
 unfold locR at hl
 split at hl
 ·cases hl
 ·rename_i h0
  simp only[Bool.or_eq_true,Bool.not_eq_true',not_or,Bool.not_eq_false] at h0
  generalize hc:cnS lcS t (0,false)=r at hl
  obtain⟨b,st'⟩:=r
  have hl:(!b)=true:=hl
  cases b with
  | true=>cases hl
  | false =>
   refine⟨h0.2,?_⟩
   have hno:allB noB t=true→ownF t = -1:=fun h=>by
    rcases own_all (pr:=-1) t (allB_monoT (fun _=>no_own) t h) hr with ⟨_,e,_⟩|⟨e,_⟩
    ·exact absurd e (by decide)
    ·exact e
   rcases (cn_lc t _ _ _ hc).2 rfl with ⟨_,h⟩|⟨q,_,h⟩
   ·exact .inl ⟨hno h,h⟩
   ·rcases own_all t h hr with ⟨e,e1,e2⟩|h'
    ·refine .inr ⟨q.toNat,by omega,by omega,?_⟩
     rw[Int.toNat_of_nonneg e1];exact h
    ·exact .inl h'
theorem loc_tru {ps:List Pr} {t:Pd} (hok:okT ps t=true) (h9:9≤t.kind) (hl:(locR t).2=true) {c d:List Int} (h:∀i:Nat,ownF t=i→c.getD i 0=d.getD i 0):truF (obC ps c) t=truF (obC ps d) t:=by
 have hr:allB (resB ps) t=true:=by
  unfold okT at hok
  simp only[Bool.and_eq_true] at hok
  exact hok.1.2
 obtain⟨hch,ho⟩:=loc_own hr hl
 refine truF_congr t hok h9 ?_
 rcases ho with ⟨_,hn⟩|⟨i,e,hi,hn⟩
 ·refine AllP_of_allB (fun x hx => ?_) t (allB_two t hn hch)
  obtain⟨k,n,p,q,s,l⟩:=x
  rw[Bool.and_eq_true] at hx
  have h1:(!decide (k=2∨k=3))=true:=hx.1
  have h2:¬k=4:=of_decide_eq_true hx.2
  rw[Bool.not_eq_true',decide_eq_false_iff_not] at h1
  exact⟨fun e=>absurd (.inl e) h1,fun e=>absurd (.inr e) h1,fun e=>absurd e h2⟩
 ·have hci:=h i e
  refine AllP_of_allB (fun x hx => ?_) t (allB_two t hn hch)
  obtain⟨k,n,p,q,s,l⟩:=x
  rw[Bool.and_eq_true] at hx
  have h1:(if k=2∨k=3 then decide (p=(i:Int)) else true)=true:=hx.1
  have h2:¬k=4:=of_decide_eq_true hx.2
  refine⟨fun e => ?_,fun e => ?_,fun e=>absurd e h2⟩
  ·rw[if_pos (.inl e)] at h1
   obtain rfl:=of_decide_eq_true h1
   show (match ps[((i:Nat):Int).toNat]? with|some x=>(stateAt x (c.getD ((i:Nat):Int).toNat 0).toNat).getD (varIx x.vars s).toNat 0|none=>0)=(match ps[((i:Nat):Int).toNat]? with|some x=>(stateAt x (d.getD ((i:Nat):Int).toNat 0).toNat).getD (varIx x.vars s).toNat 0|none=>0)
   rw[Int.toNat_natCast,hci]
  ·rw[if_pos (.inr e)] at h1
   obtain rfl:=of_decide_eq_true h1
   show c.getD ((i:Nat):Int).toNat 0=d.getD ((i:Nat):Int).toNat 0
   rw[Int.toNat_natCast,hci]
end Go.AL
end
